/- The document's places. -/
import Derived.Test.YtlimfndipapfdaaChunkOne
namespace Go.Proofs.Ytlimfndipapfdaa
open Go.RowKit Go.Deep Go.MapKept

theorem ints_snoc (xs : List Int) (x : Int) : ints xs ++ [.int .i64 x] = ints (xs ++ [x]) := by simp [ints]
theorem plc_keep {s : List (Int × ByteArray)} (hk : kinds3 s) (x : ByteArray) : plc (s ++ [(1, x)]) 0 = plc s 0 ++ [((side 3 s).length : Int)] := by
  rw [plc_app _ hk, plc_1 rfl, Nat.zero_add]; rfl
theorem plc_del {s : List (Int × ByteArray)} (hk : kinds3 s) (x : ByteArray) : plc (s ++ [(2, x)]) 0 = plc s 0 ++ [-1] := by
  rw [plc_app _ hk, plc_2 rfl]; rfl
theorem plc_ins {s : List (Int × ByteArray)} (hk : kinds3 s) (x : ByteArray) : plc (s ++ [(3, x)]) 0 = plc s 0 := by
  rw [plc_app _ hk, plc_3 rfl]
  simp [plc]

set_option maxRecDepth 100000 in
set_option maxHeartbeats 2000000 in
theorem rplaces_any (B B' : Nat) (A A' : Option Addr) (n m c c' : Nat) (xs ys : List ByteArray) (w : World) (hx : Reads w B 1 A n (strs xs)) (hy : Reads w B' 1 A' m (strs ys)) (hB : B ≤ w.heap.size) (hB' : B' ≤ w.heap.size) (hn : n ≤ 400) (hm : m ≤ 400) (hc : n ≤ c) (hc' : m ≤ c') :
    Calls Try.prog 59 #[.slice A n c, .slice A' m c'] w fun e w' => ∃ D b, e = .returned (.slice D n b) ∧ n ≤ b ∧ b ≤ maxLen ∧ Reads w' w'.heap.size 1 D n (ints (plc (scr xs ys) 0)) ∧ Grows w w' := by
  obtain ⟨t0, hi0, hz0, hz1, hz2⟩ := info_parts Try.infoInt
  obtain ⟨l, hl⟩ : ∃ l, script 400 xs ys = l := ⟨_, rfl⟩
  have hs : l = scr xs ys := by rw [← hl]; exact script_short (by rw [hx.strLen]; exact hn) (by rw [hy.strLen]; exact hm)
  have hk3 : kinds3 l := by rw [hs]; exact scr_kinds _ _
  have hlen : l.length ≤ 800 := by
    have := scr_len xs ys
    have h1 := hx.strLen
    have h2 := hy.strLen
    rw [hs]; omega
  obtain ⟨N, hN⟩ : ∃ N, l.length = N := ⟨_, rfl⟩
  have hN8 : N ≤ 800 := by omega
  have hpl : (plc l 0).length = n := by rw [hs, plc_size]; exact hx.strLen
  have hsl : ∀ k, (side 3 (l.take k)).length ≤ k := fun k => Nat.le_trans (by unfold side; rw [List.length_map]; exact List.length_filter_le _ _) (by rw [List.length_take]; omega)
  have HSL := Lib.hid hsl
  have HPL := Lib.hid hpl
  have HK := Lib.hid hk3
  have HN := Lib.hid hN
  have HS := Lib.hid hs
  have HSC := Lib.hid (rscript_r l N B B' A A' n m c c' xs ys w hl hN hx hy hB hB' (by omega) (by omega) hc hc')
  clear hx hy hl hs hk3 hlen hpl hsl hN
  go_enter Try.func59, Try.ntmps59
  go_wp2_with fail
  refine HSC.out.mono ?_
  rintro e w1 ⟨D, b, rfl, hb, hrd, hg1⟩
  have HRD := Lib.hid hrd
  clear hrd
  go_wp2_with fail
  go_loopg [8, 6, 7] N (fun gk q v at_ wr => ∃ k j : Nat, q = .int .i64 k ∧ k ≤ N ∧ gk = N - k ∧ at_ = .int .i64 j ∧ j = (side 3 (l.take k)).length ∧ wr.ownsRow w1.heap.size 3 1 v (plc (l.take k) 0).length (ints (plc (l.take k) 0)) ∧ Grows w1 wr)
  case atStart => exact ⟨0, 0, rfl, by omega, rfl, rfl, rfl, World.ownsRow_nil _ _ _ _, Grows.refl _⟩
  case round =>
    obtain ⟨k, j, rfl, hk, hgk, rfl, hj, hown, hgr⟩ := hrel
    have HG := Lib.hid hgk; clear hgk
    have hsz := hgr.size
    by_cases hlt : k < N
    · obtain ⟨ad, rfl, had, hc0, hc1⟩ := (HRD.out.grows (Nat.le_refl _) hgr).ed hlt
      have hkl : k < l.length := by rw [HN.out]; exact hlt
      have hjk := HSL.out k
      rw [← hj] at hjk
      have hT := take_ge hkl
      have hT3 := side_take (k := 3) hkl
      have hkk : kinds3 (l.take k) := fun e he => HK.out e (List.mem_of_mem_take he)
      have hpn : (plc (l.take k) 0).length ≤ 800 := by
        rw [plc_len hkk]
        exact Nat.le_trans (by unfold side; rw [List.length_map]; exact List.length_filter_le _ _) (by rw [List.length_take]; omega)
      have k0 : (0 : Int) ≤ k := by omega
      have k1 : (k : Int) < N := by omega
      have k2 : (N : Int) ≤ 800 := by omega
      have j0 : (0 : Int) ≤ j := by omega
      have j1 : (j : Int) ≤ 800 := by omega
      rcases gek_mem hkl HK.out with h | h | h
      · have HF := Lib.hid (show plc (l.take (k + 1)) 0 = plc (l.take k) 0 ++ [(j : Int)] by rw [hT, h, plc_keep hkk, ← hj])
        have HF3 := Lib.hid (show j + 1 = (side 3 (l.take (k + 1))).length by rw [hT3, h, List.length_append, ← hj]; rfl)
        rw [h] at hc0
        clear hT hT3 h hj hkk
        generalize plc (l.take k) 0 = P at hown HF hpn
        go_wp2_with (at_builtin; refine wpList_push rfl (.tmp 27) (.tmp 29) _ rfl (w1.heap.size) 3 t0 _ 1 8 Try.underlying60 hi0 hz0 hz1 hz2 rfl (by decide) _ _ _ rfl ((hown).alloc _) ⟨(wr).heap.size, 0, none⟩ 1 1 [.int .i64 ((j : Int))] rfl rfl (cell_one_new _ _ _) (by intro u hu; simp at hu; subst hu; rfl) (by simp only [maxLen]; omega) (by omega) (by simp; omega) ?_; intro v' w3 hown3 hb3; have hgr3 : Grows w1 w3 := Below.trans (hgr.alloc _) hb3)
        go_roundg (N - (k + 1))
        case measure => rw [HG.out]; omega
        case rel => exact ⟨k + 1, j + 1, by go_num, by omega, rfl, by go_num, HF3.out, by rw [HF.out, ← ints_snoc, List.length_append]; exact hown3, hgr3⟩
      · have HF := Lib.hid (show plc (l.take (k + 1)) 0 = plc (l.take k) 0 ++ [-1] by rw [hT, h, plc_del hkk])
        have HF3 := Lib.hid (show j = (side 3 (l.take (k + 1))).length by rw [hT3, h, List.length_append, ← hj]; rfl)
        rw [h] at hc0
        clear hT hT3 h hj hkk
        generalize plc (l.take k) 0 = P at hown HF hpn
        go_wp2_with (at_builtin; refine wpList_push rfl (.tmp 35) (.tmp 36) _ rfl (w1.heap.size) 3 t0 _ 1 8 Try.underlying60 hi0 hz0 hz1 hz2 rfl (by decide) _ _ _ rfl ((hown).alloc _) ⟨(wr).heap.size, 0, none⟩ 1 1 [.int .i64 ((-1 : Int))] rfl rfl (cell_one_new _ _ _) (by intro u hu; simp at hu; subst hu; rfl) (by simp only [maxLen]; omega) (by omega) (by simp; omega) ?_; intro v' w3 hown3 hb3; have hgr3 : Grows w1 w3 := Below.trans (hgr.alloc _) hb3)
        go_roundg (N - (k + 1))
        case measure => rw [HG.out]; omega
        case rel => exact ⟨k + 1, j, by go_num, by omega, rfl, rfl, HF3.out, by rw [HF.out, ← ints_snoc, List.length_append]; exact hown3, hgr3⟩
      · have HF := Lib.hid (show plc (l.take (k + 1)) 0 = plc (l.take k) 0 by rw [hT, h, plc_ins hkk])
        have HF3 := Lib.hid (show j + 1 = (side 3 (l.take (k + 1))).length by rw [hT3, h, List.length_append, ← hj]; rfl)
        rw [h] at hc0
        clear hT hT3 h hj hkk
        go_wp2_with fail
        go_roundg (N - (k + 1))
        case measure => rw [HG.out]; omega
        case rel => exact ⟨k + 1, j + 1, by go_num, by omega, rfl, by go_num, HF3.out, by rw [HF.out]; exact hown, hgr⟩
    · have hke : l.take k = l := List.take_of_length_le (by rw [HN.out]; omega)
      rw [hke, HPL.out, HS.out] at hown
      clear hke hj
      obtain ⟨D2, b2, rfl, h1, h2⟩ := own_form hown
      have HR := Lib.hid (Reads.of_own hown)
      clear hown
      go_wp2_with fail
      go_ret
      exact ⟨D2, b2, rfl, h1, h2, HR.out, hg1.trans hgr⟩

end Go.Proofs.Ytlimfndipapfdaa
