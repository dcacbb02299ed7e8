/- DiffSame: distances of lists. The document's Common and Distance. The chunk chapter's first lines: awake, few. ChunkOne: where one side is as base, or both are alike. The document's places. -/
import Derived.Test.YtakgddochbcjbaaDoorPkDiffAwake
import Derived.Test.YtakgddochbcjbaaDoorPkRefScript
import Derived.Test.YtakgddochbcjbaaDoorPkOf
import Derived.Test.YtakgddochbcjbaaDoorPkChunkUse
import Derived.Test.YtakgddochbcjbaaDoorPkChunkV
namespace Go.Proofs.YtakgddochbcjbaaDoor
open Go.RowKit Go.Deep Go.MapKept

/-- how far two lists are apart -/
def dst (xs ys : List ByteArray) : Nat := distN (script 400 xs ys)
theorem dst_lcs {xs ys : List ByteArray} (hx : xs.length ≤ 400) (hy : ys.length ≤ 400) : dst xs ys + 2 * lcs xs ys = xs.length + ys.length := by
  unfold dst
  rw [script_short hx hy]
  exact scr_dist xs ys
theorem dst_self {xs : List ByteArray} (hx : xs.length ≤ 400) : dst xs xs = 0 := by
  have := dst_lcs hx hx
  rw [lcs_self] at this
  omega
theorem dst_nil {xs : List ByteArray} (hx : xs.length ≤ 400) : dst [] xs = xs.length := by
  have := dst_lcs (xs := []) (by simp) hx
  rw [lcs_nil] at this
  simpa using this
theorem dst_nil' {xs : List ByteArray} (hx : xs.length ≤ 400) : dst xs [] = xs.length := by
  have := dst_lcs (ys := []) hx (by simp)
  rw [lcs_nil'] at this
  simpa using this
theorem dst_symm {xs ys : List ByteArray} (hx : xs.length ≤ 400) (hy : ys.length ≤ 400) : dst ys xs = dst xs ys := by
  have h1 := dst_lcs hx hy
  have h2 := dst_lcs hy hx
  rw [lcs_symm] at h2
  omega
theorem dst_tri {xs ys zs : List ByteArray} (hx : xs.length ≤ 400) (hy : ys.length ≤ 400) (hz : zs.length ≤ 400) : dst xs zs ≤ dst xs ys + dst ys zs := by
  have h1 := dst_lcs hx hy
  have h2 := dst_lcs hy hz
  have h3 := dst_lcs hx hz
  have h4 := lcs_three xs ys zs
  omega
theorem dst_zero {xs ys : List ByteArray} (hx : xs.length ≤ 400) (hy : ys.length ≤ 400) : eqS xs ys = decide (dst xs ys = 0) := by
  rw [Bool.eq_iff_iff, eqS_iff, decide_eq_true_eq]
  constructor
  · rintro rfl; exact dst_self hx
  · intro h
    have h1 := dst_lcs hx hy
    have h2 := lcs_le_left xs ys
    have h3 := lcs_le_right xs ys
    exact lcs_full (by omega) (by omega)
theorem dst_le (xs ys : List ByteArray) : dst xs ys ≤ xs.length + ys.length := Nat.le_trans (distN_le _) (script_len_le xs ys)

end Go.Proofs.YtakgddochbcjbaaDoor
namespace Go.Proofs.YtakgddochbcjbaaDoor
open Go.RowKit Go.Deep Go.MapKept

set_option maxRecDepth 100000 in
set_option maxHeartbeats 1000000 in
theorem rcommon_v (v B B' : Nat) (A A' : Option Addr) (n m c c' : Nat) (xs ys : List ByteArray) (w : World) (hv : lcs xs ys = v) (hx : Reads w B 1 A n (strs xs)) (hy : Reads w B' 1 A' m (strs ys)) (hB : B ≤ w.heap.size) (hB' : B' ≤ w.heap.size) (hn : n ≤ 1000000) (hm : m ≤ 1000000) :
    Calls Tryd.prog 69 #[.slice A n c, .slice A' m c'] w fun e w' => e = .returned (.int .i64 (v : Nat)) ∧ Grows w w' := by
  have HV := Lib.hid (show lcsAt xs ys 0 0 = v from hv)
  have HT := Lib.hid (table_any B B' A A' n m c c' xs ys w hx hy hB hB' hn hm)
  clear hv hx hy hB hB'
  go_enter Tryd.func69, Tryd.ntmps69
  go_wp2_with fail
  refine HT.out.mono ?_
  rintro e w1 ⟨T, R, rfl, htb, hgr⟩
  have hT0 := htb.cellT (i := 0) (Nat.le_refl _) (Nat.zero_le _)
  have hR0 := htb.cellR (i := 0) (j := 0) (Nat.le_refl _) (Nat.zero_le _) (Nat.zero_le _) rfl
  rw [HV.out] at hR0
  have i0 : (0 : Int) < (n : Int) + 1 := by omega
  have j0 : (0 : Int) < (m : Int) + 1 := by omega
  clear htb HT
  go_wp2_with fail
  go_ret
  exact ⟨rfl, hgr⟩

/-- a script of the document, read -/
theorem rscript_r (l : List (Int × ByteArray)) (N B B' : Nat) (A A' : Option Addr) (n m c c' : Nat) (xs ys : List ByteArray) (w : World) (hv : script 400 xs ys = l) (hN : l.length = N) (hx : Reads w B 1 A n (strs xs)) (hy : Reads w B' 1 A' m (strs ys)) (hB : B ≤ w.heap.size) (hB' : B' ≤ w.heap.size) (hn : n ≤ 1000000) (hm : m ≤ 1000000) (hc : n ≤ c) (hc' : m ≤ c') :
    Calls Tryd.prog 93 #[.slice A n c, .slice A' m c'] w fun e w' => ∃ D b, e = .returned (.slice D N b) ∧ (N ≤ b ∧ b ≤ maxLen) ∧ Reads w' w'.heap.size 2 D N (edCells l) ∧ Grows w w' := by
  subst hv hN
  refine (rscript_any B B' A A' n m c c' xs ys w hx hy hB hB' hn hm hc hc').mono ?_
  rintro e w' ⟨v, rfl, hown, hg⟩
  obtain ⟨D, b, rfl, h1, h2⟩ := own_form hown
  exact ⟨D, b, rfl, ⟨h1, h2⟩, Reads.of_own hown, hg⟩
theorem plainS_eq (B B' : Nat) (A A' : Option Addr) (n n' c c' : Nat) (xs : List ByteArray) (w : World) (hx : Reads w B 1 A n (strs xs)) (hy : Reads w B' 1 A' n' (strs xs)) (hn : n ≤ 1000000000000) :
    Calls Tryd.prog 51 #[.slice A n c, .slice A' n' c'] w fun e w' => e = .returned (.bool true) ∧ ∃ m, w' = w.drewN m := by
  have := plainS_any B B' A A' n n' c c' xs xs w hx hy hn
  rw [eqS_self] at this
  exact this

end Go.Proofs.YtakgddochbcjbaaDoor
namespace Go.Proofs.YtakgddochbcjbaaDoor
open Go.RowKit Go.Deep Go.MapKept

theorem scr_awake : scr [lA, lB] [lA, lC] = [(1, lA), (2, lB), (3, lC)] := by
  rw [scr_eq, scr_del (by decide), scr_nil]
  · rfl
  · rw [lcs_none]
    · exact Nat.zero_le _
    · intro x hx
      simp
theorem chunks_awake : chunks [lA, lB] [lA, lC] [lA, lB] = [(1, [lA], [lA], [lA]), (2, [lB], [lC], [lB])] := by
  have a0 : at3 [lA, lB] [lA, lC] 0 = 0 := by unfold at3; rw [show sc [lA, lB] [lA, lC] = scr [lA, lB] [lA, lC] from SS.of (by simp) (by simp), scr_awake]; rfl
  have a1 : at3 [lA, lB] [lA, lC] 1 = -1 := by unfold at3; rw [show sc [lA, lB] [lA, lC] = scr [lA, lB] [lA, lC] from SS.of (by simp) (by simp), scr_awake]; rfl
  have b0 : at3 [lA, lB] [lA, lB] 0 = 0 := by have := at3_self (a := [lA, lB]) (i := 0) (by simp); simpa using this
  have b1 : at3 [lA, lB] [lA, lB] 1 = 1 := by have := at3_self (a := [lA, lB]) (i := 1) (by simp); simpa using this
  have hr : runN [lA, lB] [lA, lC] [lA, lB] 0 = 1 := by
    unfold runN
    show ext _ _ 2 0 2 1 = 1
    rw [ext, if_neg]
    rintro ⟨_, h, _⟩
    have h' : at3 [lA, lB] [lA, lC] 1 = at3 [lA, lB] [lA, lC] 0 + 1 := h
    rw [a0, a1] at h'
    omega
  unfold chunks
  rw [chGo, if_pos (by simp), if_neg (by rw [a0, b0]; omega), hr, a0, b0]
  rw [chGo, if_pos (by simp), if_pos (by rw [Nat.zero_add, a1]; omega)]
  rw [chGo, if_neg (by simp)]
  decide
theorem reads_three (w : World) (xs ys zs : List ByteArray) (n m k : Nat) (hx : xs.length = n) (hy : ys.length = m) (hz : zs.length = k) (cs cs' cs'' : Array Value) (h1 : cs = (strs xs).toArray) (h2 : cs' = (strs ys).toArray) (h3 : cs'' = (strs zs).toArray) (t : TypeId) :
    Reads (((w.alloc (.cells cs t)).alloc (.cells cs' t)).alloc (.cells cs'' t)) (w.heap.size + 3) 1 (some ⟨w.heap.size, 0, none⟩) n (strs xs) ∧ Reads (((w.alloc (.cells cs t)).alloc (.cells cs' t)).alloc (.cells cs'' t)) (w.heap.size + 3) 1 (some ⟨w.heap.size + 1, 0, none⟩) m (strs ys) ∧ Reads (((w.alloc (.cells cs t)).alloc (.cells cs' t)).alloc (.cells cs'' t)) (w.heap.size + 3) 1 (some ⟨w.heap.size + 1 + 1, 0, none⟩) k (strs zs) := by
  obtain ⟨r1, r2⟩ := reads_two w xs ys n m hx hy cs cs' h1 h2 t t
  subst h3
  have r3 := reads_alloc ((w.alloc (.cells cs t)).alloc (.cells cs' t)) (strs zs) 1 k t (by simp [strs, hz])
  refine ⟨(r1.alloc (by simp) _).more (by omega), (r2.alloc (by simp) _).more (by omega), ?_⟩
  simpa using r3

theorem addr_add_zero (a : Addr) : a.add 0 = a := by unfold Addr.add; split <;> simp_all
end Go.Proofs.YtakgddochbcjbaaDoor
namespace Go.Proofs.YtakgddochbcjbaaDoor
open Go.RowKit Go.Deep Go.MapKept

end Go.Proofs.YtakgddochbcjbaaDoor
namespace Go.Proofs.YtakgddochbcjbaaDoor
open Go.RowKit Go.Deep Go.MapKept

theorem ints_snoc (xs : List Int) (x : Int) : ints xs ++ [.int .i64 x] = ints (xs ++ [x]) := by simp [ints]
theorem plc_keep {s : List (Int × ByteArray)} (hk : kinds3 s) (x : ByteArray) : plc (s ++ [(1, x)]) 0 = plc s 0 ++ [((side 3 s).length : Int)] := by
  rw [plc_app _ hk, plc_1 rfl, Nat.zero_add]; rfl
theorem plc_del {s : List (Int × ByteArray)} (hk : kinds3 s) (x : ByteArray) : plc (s ++ [(2, x)]) 0 = plc s 0 ++ [-1] := by
  rw [plc_app _ hk, plc_2 rfl]; rfl
theorem plc_ins {s : List (Int × ByteArray)} (hk : kinds3 s) (x : ByteArray) : plc (s ++ [(3, x)]) 0 = plc s 0 := by
  rw [plc_app _ hk, plc_3 rfl]
  simp [plc]

set_option maxRecDepth 100000 in
set_option maxHeartbeats 2000000 in
theorem rplaces_any (B B' : Nat) (A A' : Option Addr) (n m c c' : Nat) (xs ys : List ByteArray) (w : World) (hx : Reads w B 1 A n (strs xs)) (hy : Reads w B' 1 A' m (strs ys)) (hB : B ≤ w.heap.size) (hB' : B' ≤ w.heap.size) (hn : n ≤ 450) (hm : m ≤ 450) (hc : n ≤ c) (hc' : m ≤ c') :
    Calls Tryd.prog 58 #[.slice A n c, .slice A' m c'] w fun e w' => ∃ D b, e = .returned (.slice D n b) ∧ n ≤ b ∧ b ≤ maxLen ∧ Reads w' w'.heap.size 1 D n (ints (plc (sc xs ys) 0)) ∧ Grows w w' := by
  obtain ⟨t0, hi0, hz0, hz1, hz2⟩ := info_parts Tryd.infoInt
  obtain ⟨l, hl⟩ : ∃ l, script 400 xs ys = l := ⟨_, rfl⟩
  have hs : l = sc xs ys := hl.symm
  have hk3 : kinds3 l := by rw [hs]; exact sc_kinds _ _
  have hlen : l.length ≤ 900 := by
    have := sc_len_le xs ys (sc_kinds xs ys)
    have h1 := hx.strLen
    have h2 := hy.strLen
    rw [hs]; omega
  obtain ⟨N, hN⟩ : ∃ N, l.length = N := ⟨_, rfl⟩
  have hN8 : N ≤ 900 := by omega
  have hpl : (plc l 0).length = n := by rw [hs, plc_size]; exact hx.strLen
  have hsl : ∀ k, (side 3 (l.take k)).length ≤ k := fun k => Nat.le_trans (by unfold side; rw [List.length_map]; exact List.length_filter_le _ _) (by rw [List.length_take]; omega)
  have HSL := Lib.hid hsl
  have HPL := Lib.hid hpl
  have HK := Lib.hid hk3
  have HN := Lib.hid hN
  have HS := Lib.hid hs
  have HSC := Lib.hid (rscript_r l N B B' A A' n m c c' xs ys w hl hN hx hy hB hB' (by omega) (by omega) hc hc')
  clear hx hy hl hs hk3 hlen hpl hsl hN
  go_enter Tryd.func58, Tryd.ntmps58
  go_wp2_with fail
  refine HSC.out.mono ?_
  rintro e w1 ⟨D, b, rfl, hb, hrd, hg1⟩
  have HRD := Lib.hid hrd
  clear hrd
  go_wp2_with fail
  go_loopg [8, 6, 7] N (fun gk q v at_ wr => ∃ k j : Nat, q = .int .i64 k ∧ k ≤ N ∧ gk = N - k ∧ at_ = .int .i64 j ∧ j = (side 3 (l.take k)).length ∧ wr.ownsRow w1.heap.size 3 1 v (plc (l.take k) 0).length (ints (plc (l.take k) 0)) ∧ Grows w1 wr)
  case atStart => exact ⟨0, 0, rfl, by omega, rfl, rfl, rfl, World.ownsRow_nil _ _ _ _, Grows.refl _⟩
  case round =>
    obtain ⟨k, j, rfl, hk, hgk, rfl, hj, hown, hgr⟩ := hrel
    have HG := Lib.hid hgk; clear hgk
    have hsz := hgr.size
    by_cases hlt : k < N
    · obtain ⟨ad, rfl, had, hc0, hc1⟩ := (HRD.out.grows (Nat.le_refl _) hgr).ed hlt
      have hkl : k < l.length := by rw [HN.out]; exact hlt
      have hjk := HSL.out k
      rw [← hj] at hjk
      have hT := take_ge hkl
      have hT3 := side_take (k := 3) hkl
      have hkk : kinds3 (l.take k) := fun e he => HK.out e (List.mem_of_mem_take he)
      have hpn : (plc (l.take k) 0).length ≤ 900 := by
        rw [plc_len hkk]
        exact Nat.le_trans (by unfold side; rw [List.length_map]; exact List.length_filter_le _ _) (by rw [List.length_take]; omega)
      have k0 : (0 : Int) ≤ k := by omega
      have k1 : (k : Int) < N := by omega
      have k2 : (N : Int) ≤ 900 := by omega
      have j0 : (0 : Int) ≤ j := by omega
      have j1 : (j : Int) ≤ 900 := by omega
      rcases gek_mem hkl HK.out with h | h | h
      · have HF := Lib.hid (show plc (l.take (k + 1)) 0 = plc (l.take k) 0 ++ [(j : Int)] by rw [hT, h, plc_keep hkk, ← hj])
        have HF3 := Lib.hid (show j + 1 = (side 3 (l.take (k + 1))).length by rw [hT3, h, List.length_append, ← hj]; rfl)
        rw [h] at hc0
        clear hT hT3 h hj hkk
        generalize plc (l.take k) 0 = P at hown HF hpn
        go_wp2_with (at_builtin; refine wpList_push rfl (.tmp 27) (.tmp 29) _ rfl (w1.heap.size) 3 t0 _ 1 8 Tryd.underlying27 hi0 hz0 hz1 hz2 rfl (by decide) _ _ _ rfl ((hown).alloc _) ⟨(wr).heap.size, 0, none⟩ 1 1 [.int .i64 ((j : Int))] rfl rfl (cell_one_new _ _ _) (by intro u hu; simp at hu; subst hu; rfl) (by simp only [maxLen]; omega) (by omega) (by simp; omega) ?_; intro v' w3 hown3 hb3; have hgr3 : Grows w1 w3 := Below.trans (hgr.alloc _) hb3)
        go_roundg (N - (k + 1))
        case measure => rw [HG.out]; omega
        case rel => exact ⟨k + 1, j + 1, by go_num, by omega, rfl, by go_num, HF3.out, by rw [HF.out, ← ints_snoc, List.length_append]; exact hown3, hgr3⟩
      · have HF := Lib.hid (show plc (l.take (k + 1)) 0 = plc (l.take k) 0 ++ [-1] by rw [hT, h, plc_del hkk])
        have HF3 := Lib.hid (show j = (side 3 (l.take (k + 1))).length by rw [hT3, h, List.length_append, ← hj]; rfl)
        rw [h] at hc0
        clear hT hT3 h hj hkk
        generalize plc (l.take k) 0 = P at hown HF hpn
        go_wp2_with (at_builtin; refine wpList_push rfl (.tmp 35) (.tmp 36) _ rfl (w1.heap.size) 3 t0 _ 1 8 Tryd.underlying27 hi0 hz0 hz1 hz2 rfl (by decide) _ _ _ rfl ((hown).alloc _) ⟨(wr).heap.size, 0, none⟩ 1 1 [.int .i64 ((-1 : Int))] rfl rfl (cell_one_new _ _ _) (by intro u hu; simp at hu; subst hu; rfl) (by simp only [maxLen]; omega) (by omega) (by simp; omega) ?_; intro v' w3 hown3 hb3; have hgr3 : Grows w1 w3 := Below.trans (hgr.alloc _) hb3)
        go_roundg (N - (k + 1))
        case measure => rw [HG.out]; omega
        case rel => exact ⟨k + 1, j, by go_num, by omega, rfl, rfl, HF3.out, by rw [HF.out, ← ints_snoc, List.length_append]; exact hown3, hgr3⟩
      · have HF := Lib.hid (show plc (l.take (k + 1)) 0 = plc (l.take k) 0 by rw [hT, h, plc_ins hkk])
        have HF3 := Lib.hid (show j + 1 = (side 3 (l.take (k + 1))).length by rw [hT3, h, List.length_append, ← hj]; rfl)
        rw [h] at hc0
        clear hT hT3 h hj hkk
        go_wp2_with fail
        go_roundg (N - (k + 1))
        case measure => rw [HG.out]; omega
        case rel => exact ⟨k + 1, j + 1, by go_num, by omega, rfl, by go_num, HF3.out, by rw [HF.out]; exact hown, hgr⟩
    · have hke : l.take k = l := List.take_of_length_le (by rw [HN.out]; omega)
      rw [hke, HPL.out, HS.out] at hown
      clear hke hj
      obtain ⟨D2, b2, rfl, h1, h2⟩ := own_form hown
      have HR := Lib.hid (Reads.of_own hown)
      clear hown
      go_wp2_with fail
      go_ret
      exact ⟨D2, b2, rfl, h1, h2, HR.out, hg1.trans hgr⟩

end Go.Proofs.YtakgddochbcjbaaDoor
