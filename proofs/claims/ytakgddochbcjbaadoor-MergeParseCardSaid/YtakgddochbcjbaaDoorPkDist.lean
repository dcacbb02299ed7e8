/- How far two lists are apart, and the chapter's first words: package diff's Distance, 'awake'. Where the lines of base that are kept stand: chunk.kept's map. -/
import Derived.Test.YtakgddochbcjbaaDoorPkScript
import Derived.Test.YtakgddochbcjbaaDoorPkMaps
namespace Go.Proofs.YtakgddochbcjbaaDoor
open Go.RowKit Go.Deep Go.MapKept

/-- a script, read -/
theorem script_r (l : List (Int × ByteArray)) (N B B' : Nat) (A A' : Option Addr) (n m c c' : Nat) (xs ys : List ByteArray) (w : World) (hv : script 400 xs ys = l) (hN : l.length = N) (hx : Reads w B 1 A n (strs xs)) (hy : Reads w B' 1 A' m (strs ys)) (hB : B ≤ w.heap.size) (hB' : B' ≤ w.heap.size) (hn : n ≤ 1000000) (hm : m ≤ 1000000) (hc : n ≤ c) (hc' : m ≤ c') (hcM : c ≤ maxLen) (hcM' : c' ≤ maxLen) :
    Calls Tryd.prog 109 #[.slice A n c, .slice A' m c'] w fun e w' => ∃ D b, e = .returned (.slice D N b) ∧ (N ≤ b ∧ b ≤ maxLen) ∧ Reads w' w'.heap.size 2 D N (edCells l) ∧ Grows w w' := by
  subst hv hN
  refine (script_any B B' A A' n m c c' xs ys w hx hy hB hB' hn hm hc hc' hcM hcM').mono ?_
  rintro e w' ⟨v, rfl, hown, hg⟩
  obtain ⟨D, b, rfl, h1, h2⟩ := own_form hown
  exact ⟨D, b, rfl, ⟨h1, h2⟩, Reads.of_own hown, hg⟩
theorem distN_take {l : List (Int × ByteArray)} {i : Nat} (h : i < l.length) : distN (l.take (i + 1)) = distN (l.take i) + (if gek l i = 1 then 0 else 1) := by
  rw [List.take_succ_eq_append_getElem h, distN_append]
  have e : l[i] = (gek l i, gel l i) := by simp [gek, gel, List.getElem?_eq_getElem h]
  rw [e, distN_cons]
  simp [distN]

end Go.Proofs.YtakgddochbcjbaaDoor
namespace Go.Proofs.YtakgddochbcjbaaDoor
open Go.RowKit Go.Deep Go.MapKept

section
variable {α : Type}
/-- the places of the lines that a script keeps, as a map -/
def plcF (s : List (Int × α)) (i : Int) : Option Int := if 0 ≤ i ∧ 0 ≤ (plc s 0).getD i.toNat (-1) then some ((plc s 0).getD i.toNat (-1)) else none
theorem plcF_nil : plcF ([] : List (Int × α)) = fun _ => none := by
  funext i
  simp [plcF, plc]
theorem plcF_keep {s : List (Int × α)} (hk : kinds3 s) (x : α) : plcF (s ++ [(1, x)]) = putF (plcF s) ((side 2 s).length : Nat) ((side 3 s).length : Nat) := by
  funext i
  have hl := plc_len (k := 0) hk
  unfold plcF putF
  rw [plc_app _ hk, plc_1 rfl, Nat.zero_add]
  by_cases h0 : 0 ≤ i
  · obtain ⟨n, rfl⟩ : ∃ n : Nat, i = n := ⟨i.toNat, by omega⟩
    dsimp only
    rw [Int.toNat_natCast]
    rcases Nat.lt_trichotomy n (side 2 s).length with hn | hn | hn
    · rw [if_neg (show ¬ (n : Int) = (side 2 s).length by omega), List.getD_eq_getElem?_getD, List.getElem?_append_left (by omega), List.getD_eq_getElem?_getD]
    · rw [if_pos (show (n : Int) = (side 2 s).length by omega), List.getD_eq_getElem?_getD, List.getElem?_append_right (by omega), hl, hn, Nat.sub_self]
      simp
    · rw [if_neg (show ¬ (n : Int) = (side 2 s).length by omega), List.getD_eq_getElem?_getD, List.getD_eq_getElem?_getD, List.getElem?_eq_none (by simp [plc]; omega), List.getElem?_eq_none (by omega)]
  · dsimp only
    rw [if_neg (fun h => h0 h.1), if_neg (by omega), if_neg (fun h => h0 h.1)]
theorem plcF_del {s : List (Int × α)} (hk : kinds3 s) (x : α) : plcF (s ++ [(2, x)]) = plcF s := by
  funext i
  have hl := plc_len (k := 0) hk
  unfold plcF
  rw [plc_app _ hk, plc_2 rfl]
  have e : (plc s 0 ++ -1 :: plc ([] : List (Int × α)) (0 + (side 3 s).length)).getD i.toNat (-1) = (plc s 0).getD i.toNat (-1) := by
    rw [List.getD_eq_getElem?_getD, List.getD_eq_getElem?_getD]
    rcases Nat.lt_trichotomy i.toNat (plc s 0).length with hn | hn | hn
    · rw [List.getElem?_append_left hn]
    · rw [List.getElem?_append_right (by omega), hn, Nat.sub_self, List.getElem?_eq_none (Nat.le_refl _)]; rfl
    · rw [List.getElem?_eq_none (by simp [plc]; omega), List.getElem?_eq_none (by omega)]
  rw [e]
theorem plcF_ins {s : List (Int × α)} (hk : kinds3 s) (x : α) : plcF (s ++ [(3, x)]) = plcF s := by
  funext i
  unfold plcF
  rw [plc_app _ hk, plc_3 rfl]
  simp [plc]
end

/-- where base's lines stand in a side -/
def keptF (xs ys : List ByteArray) : Int → Option Int := plcF (sc xs ys)
theorem take_ge {l : List (Int × ByteArray)} {k : Nat} (h : k < l.length) : l.take (k + 1) = l.take k ++ [(gek l k, gel l k)] := by
  rw [List.take_succ_eq_append_getElem h]
  congr 1
  simp [gek, gel, List.getElem?_eq_getElem h]
theorem gek_mem {l : List (Int × ByteArray)} {k : Nat} (h : k < l.length) (hk : kinds3 l) : gek l k = 1 ∨ gek l k = 2 ∨ gek l k = 3 := by
  have e : l[k] = (gek l k, gel l k) := by simp [gek, gel, List.getElem?_eq_getElem h]
  have := hk l[k] (List.getElem_mem _)
  rw [e] at this
  exact this

set_option maxRecDepth 100000 in
set_option maxHeartbeats 1000000 in
theorem kept_any (B B' : Nat) (A A' : Option Addr) (n m c c' : Nat) (xs ys : List ByteArray) (w : World) (hx : Reads w B 1 A n (strs xs)) (hy : Reads w B' 1 A' m (strs ys)) (hB : B ≤ w.heap.size) (hB' : B' ≤ w.heap.size) (hn : n ≤ 450) (hm : m ≤ 450) (hc : n ≤ c) (hc' : m ≤ c') (hcM : c ≤ maxLen) (hcM' : c' ≤ maxLen) :
    Calls Tryd.prog 77 #[.slice A n c, .slice A' m c'] w fun e w' => e = .returned (.map (some w.heap.size)) ∧ MapI w' w.heap.size 1000 (keptF xs ys) ∧ Grows w w' := by
  obtain ⟨l, hl⟩ : ∃ l, script 400 xs ys = l := ⟨_, rfl⟩
  have hs : l = sc xs ys := hl.symm
  have hk3 : kinds3 l := by rw [hs]; exact sc_kinds _ _
  have hlen : l.length ≤ 900 := by
    have := sc_len_le xs ys (sc_kinds xs ys)
    have h1 := hx.strLen
    have h2 := hy.strLen
    rw [hs]; omega
  have h2 : side 2 l = xs := by rw [hs]; exact sc_old _ _
  have h3 : side 3 l = ys := by rw [hs]; exact sc_new _ _
  have HS := Lib.hid (show plcF l = keptF xs ys by rw [hs]; rfl)
  obtain ⟨N, hN⟩ : ∃ N, l.length = N := ⟨_, rfl⟩
  have hN8 : N ≤ 900 := by omega
  have hsl : ∀ k, (side 2 (l.take k)).length ≤ k ∧ (side 3 (l.take k)).length ≤ k := fun k =>
    ⟨Nat.le_trans (by unfold side; rw [List.length_map]; exact List.length_filter_le _ _) (by rw [List.length_take]; omega), Nat.le_trans (by unfold side; rw [List.length_map]; exact List.length_filter_le _ _) (by rw [List.length_take]; omega)⟩
  have HSL := Lib.hid hsl
  have HK := Lib.hid hk3
  have HN := Lib.hid hN
  have HV := Lib.hid hl
  have hg0 : Grows w (w.alloc (.map #[] 0)) := (Grows.refl w).alloc _
  have hmm := @run_makeMap Tryd.prog
  have hsc := script_any B B' A A' n m c c' xs ys (w.alloc (.map #[] 0)) (hx.grows hB hg0) (hy.grows hB' hg0) (Nat.le_trans hB hg0.size) (Nat.le_trans hB' hg0.size) (by omega) (by omega) hc hc' hcM hcM'
  rw [hl, hN] at hsc
  have HSC := Lib.hid hsc
  have HM0 := Lib.hid (MapFn.made (k := 3) (kl := fun i : Int => .int .i64 i) (ok := ok64) w)
  have hsz0 : (w.alloc (.map #[] 0)).heap.size = w.heap.size + 1 := by simp
  have HZ := Lib.hid hsz0
  clear hx hy hl hs hk3 hlen h2 h3 hN hsl hsc hsz0
  go_enter Tryd.func77, Tryd.ntmps77
  go_wp2_with fail
  refine HSC.out.mono ?_
  rintro e w1 ⟨v, rfl, hown, hg1⟩
  rw [HZ.out] at hown
  have hm1 := HM0.out.grows hg1
  have hgr1 := hg0.trans hg1
  obtain ⟨D, b, rfl, hb1, hb2⟩ := own_form hown
  clear hmm
  go_wp2_with fail
  go_loopg [15, 6, 7] N (fun gk q vi vj wr => ∃ k i j : Nat, q = .int .i64 k ∧ k ≤ N ∧ gk = N - k ∧ vi = .int .i64 i ∧ vj = .int .i64 j ∧ i = (side 2 (l.take k)).length ∧ j = (side 3 (l.take k)).length ∧ MapI wr w.heap.size k (plcF (l.take k)) ∧ wr.ownsRow (w.heap.size + 1) 138 2 (.slice D N b) N (edCells l) ∧ Grows w wr)
  case atStart => exact ⟨0, 0, 0, rfl, by omega, rfl, rfl, rfl, rfl, rfl, by rw [List.take_zero, plcF_nil]; exact hm1, hown, hgr1⟩
  case round =>
    clear hm1 hown hgr1 hg1
    obtain ⟨k, i, j, rfl, hk, hgk, rfl, rfl, hi, hj, hm1, hown, hgr⟩ := hrel
    have HG := Lib.hid hgk; clear hgk
    by_cases hlt : k < N
    · have HX := Reads.of_own hown
      obtain ⟨ad, rfl, had, hc0, hc1⟩ := HX.ed hlt
      clear HX
      have hkl : k < l.length := by rw [HN.out]; exact hlt
      have hik := (HSL.out k).1
      have hjk := (HSL.out k).2
      rw [← hi] at hik
      rw [← hj] at hjk
      have hT := take_ge hkl
      have hT2 := side_take (k := 2) hkl
      have hT3 := side_take (k := 3) hkl
      have hkk : kinds3 (l.take k) := fun e he => HK.out e (List.mem_of_mem_take he)
      have i0 : (0 : Int) ≤ i := by omega
      have i1 : (i : Int) ≤ 900 := by omega
      have j0 : (0 : Int) ≤ j := by omega
      have j1 : (j : Int) ≤ 900 := by omega
      have hm2 := hm1.alloc (.cells #[.int .i64 (gek l k), .string (gel l k)] 138)
      have hown2 := hown.alloc (.cells #[.int .i64 (gek l k), .string (gel l k)] 138)
      have hgr2 := hgr.alloc (.cells #[.int .i64 (gek l k), .string (gel l k)] 138)
      clear hm1 hown hgr
      rcases gek_mem hkl HK.out with h | h | h
      · have hf : plcF (l.take (k + 1)) = putF (plcF (l.take k)) (i : Int) (j : Int) := by rw [hT, h, plcF_keep hkk, ← hi, ← hj]
        have hf2 : (side 2 (l.take (k + 1))).length = i + 1 := by rw [hT2, h, List.length_append, ← hi]; rfl
        have hf3 : (side 3 (l.take (k + 1))).length = j + 1 := by rw [hT3, h, List.length_append, ← hj]; rfl
        have HF := Lib.hid hf
        have HF2 := Lib.hid hf2
        have HF3 := Lib.hid hf3
        rw [h] at hc0 hm2 hown2 hgr2
        clear hf hf2 hf3 hT hT2 hT3 h hi hj
        go_wp2_with (at_mapUpdate; refine wpList_putI rfl _ _ _ rfl w.heap.size k (plcF (l.take k)) rfl hm2 (by unfold maxLen; omega) _ _ rfl rfl ⟨by omega, by omega⟩ ⟨by omega, by omega⟩ ?_; intro w3 hm3 hb3; have hown3 := hown2.kept hb3 (by refine (Classical.em ((Value.slice (some ad) N b).ownBlock = none)).imp id (fun hne he => ?_); have := (hown2.lt _ he).1; omega); have hgr3 : Grows w w3 := Below.grown hgr2 hb3 hgr2.size (fun k hk => by cases hk; exact Nat.le_refl _))
        go_roundg (N - (k + 1))
        case measure => rw [HG.out]; omega
        case rel => exact ⟨k + 1, i + 1, j + 1, by go_num, by omega, rfl, by go_num, by go_num, HF2.out.symm, HF3.out.symm, by rw [HF.out]; exact hm3, hown3, hgr3⟩
      · have hf : plcF (l.take (k + 1)) = plcF (l.take k) := by rw [hT, h, plcF_del hkk]
        have hf2 : (side 2 (l.take (k + 1))).length = i + 1 := by rw [hT2, h, List.length_append, ← hi]; rfl
        have hf3 : (side 3 (l.take (k + 1))).length = j := by rw [hT3, h, List.length_append, ← hj]; rfl
        have HF := Lib.hid hf
        have HF2 := Lib.hid hf2
        have HF3 := Lib.hid hf3
        rw [h] at hc0 hm2 hown2 hgr2
        clear hf hf2 hf3 hT hT2 hT3 h hi hj
        go_wp2
        go_roundg (N - (k + 1))
        case measure => rw [HG.out]; omega
        case rel => exact ⟨k + 1, i + 1, j, by go_num, by omega, rfl, by go_num, rfl, HF2.out.symm, HF3.out.symm, by rw [HF.out]; exact hm2.mono (Nat.le_succ _), hown2, hgr2⟩
      · have hf : plcF (l.take (k + 1)) = plcF (l.take k) := by rw [hT, h, plcF_ins hkk]
        have hf2 : (side 2 (l.take (k + 1))).length = i := by rw [hT2, h, List.length_append, ← hi]; rfl
        have hf3 : (side 3 (l.take (k + 1))).length = j + 1 := by rw [hT3, h, List.length_append, ← hj]; rfl
        have HF := Lib.hid hf
        have HF2 := Lib.hid hf2
        have HF3 := Lib.hid hf3
        rw [h] at hc0 hm2 hown2 hgr2
        clear hf hf2 hf3 hT hT2 hT3 h hi hj
        go_wp2
        go_roundg (N - (k + 1))
        case measure => rw [HG.out]; omega
        case rel => exact ⟨k + 1, i, j + 1, by go_num, by omega, rfl, rfl, by go_num, HF2.out.symm, HF3.out.symm, by rw [HF.out]; exact hm2.mono (Nat.le_succ _), hown2, hgr2⟩
    · have hf : plcF (l.take k) = keptF xs ys := by rw [List.take_of_length_le (by rw [HN.out]; omega)]; exact HS.out
      have HF := Lib.hid hf
      clear hf hi hj
      go_wp2
      go_ret
      exact ⟨rfl, by rw [← HF.out]; exact hm1.mono (by omega), hgr⟩

end Go.Proofs.YtakgddochbcjbaaDoor
