/- The document's marks, and which mark a line is. Lines: Same, Whole of the program. -/
import Derived.Test.YtakgddochbcjbaaDoorPkParseSpec
import Derived.Test.YtakgddochbcjbaaDoorPkStrs
import Derived.Laws.ResultCell
import Derived.Laws.Rows
import Derived.Test.YtakgddochbcjbaaDoorPkPath
import Derived.Test.YtakgddochbcjbaaDoorPkOwnS
namespace Go.Proofs.YtakgddochbcjbaaDoor
open Go.RowKit Go.Deep Go.MapKept

/-- which mark a line is -/
def rmarkI (x : ByteArray) : Int := if x = mkO then 0 else if x = mkB then 1 else if x = mkT then 2 else if x = mkE then 3 else -1
theorem markF_rmark (x : ByteArray) : markF x = if rmarkI x = -1 then none else some ((rmarkI x + 1) % 4) := by
  unfold markF rmarkI putF
  by_cases h1 : x = mkO
  · subst h1; decide
  · by_cases h2 : x = mkB
    · subst h2; decide
    · by_cases h3 : x = mkT
      · subst h3; decide
      · by_cases h4 : x = mkE
        · subst h4; decide
        · simp [h1, h2, h3, h4]
set_option maxRecDepth 100000 in
set_option maxHeartbeats 1000000 in
theorem rmarks_any (w : World) : Calls Tryd.prog 53 #[] w fun e w' => e = .returned (.agg #[.string mkO, .string mkB, .string mkT, .string mkE]) ∧ Grows w w' := by
  go_enter Tryd.func53, Tryd.ntmps53
  go_wp2
  refine bodyPost_ret (v := .agg #[.string mkO, .string mkB, .string mkT, .string mkE]) (results_cell_row rfl _ _ w.heap.size 87 #[.string mkO, .string mkB, .string mkT, .string mkE] (0, 0) _ rfl (heap_alloc_new w _) Tryd.underlying87 rfl (by kernel_rfl)) rfl ⟨rfl, (Grows.refl w).alloc _⟩
/-- the marks, one by one -/
def mkAt (k : Nat) : ByteArray := if k = 0 then mkO else if k = 1 then mkB else if k = 2 then mkT else mkE
theorem mkAt_hit {x : ByteArray} {k : Nat} (hk : k < 4) (h : x = mkAt k) : rmarkI x = k := by
  rcases (by omega : k = 0 ∨ k = 1 ∨ k = 2 ∨ k = 3) with rfl | rfl | rfl | rfl <;> (subst h; decide)
theorem mkAt_no {x : ByteArray} (hno : ∀ j, j < 4 → x ≠ mkAt j) : rmarkI x = -1 := by
  have h0 : x ≠ mkO := hno 0 (by decide)
  have h1 : x ≠ mkB := hno 1 (by decide)
  have h2 : x ≠ mkT := hno 2 (by decide)
  have h3 : x ≠ mkE := hno 3 (by decide)
  unfold rmarkI
  rw [if_neg h0, if_neg h1, if_neg h2, if_neg h3]
set_option maxRecDepth 100000 in
set_option maxHeartbeats 1000000 in
theorem rmark_any (x : ByteArray) (w : World) : Calls Tryd.prog 50 #[.string x] w fun e w' => e = .returned (.int .i64 (rmarkI x)) ∧ Grows w w' := by
  go_enter Tryd.func50, Tryd.ntmps50
  go_wp2_with fail
  refine (rmarks_any _).mono ?_
  rintro e w1 ⟨rfl, hg1⟩
  go_wp2_with fail
  obtain ⟨p, hp⟩ : ∃ p, w1.heap.size = p := ⟨_, rfl⟩
  have hg2 := hg1.alloc (.cells #[.string mkO, .string mkB, .string mkT, .string mkE] 87)
  have hcells := Lib.hid (show ∀ k, k < 4 → (w1.alloc (.cells #[.string mkO, .string mkB, .string mkT, .string mkE] 87)).cell? ⟨p, k, none⟩ = some (.string (mkAt k)) from fun k hk => by
    rw [← hp, cell_of_row _ w1.heap.size k _ _ _ (heap_alloc_new w1 _)]
    rcases (by omega : k = 0 ∨ k = 1 ∨ k = 2 ∨ k = 3) with rfl | rfl | rfl | rfl <;> rfl)
  obtain ⟨w2, hw2⟩ : ∃ w2, w1.alloc (.cells #[.string mkO, .string mkB, .string mkT, .string mkE] 87) = w2 := ⟨_, rfl⟩
  rw [hw2] at hcells hg2
  rw [hw2]
  rw [hp]
  clear hw2 hp
  go_loopg [4] 4 (fun gk q wr => wr = w2 ∧ ∃ k : Nat, q = .int .i64 k ∧ k ≤ 4 ∧ gk = 4 - k ∧ ∀ j, j < k → x ≠ mkAt j)
  case atStart => exact ⟨rfl, 0, rfl, by omega, rfl, fun j hj => absurd hj (Nat.not_lt_zero j)⟩
  case round =>
    obtain ⟨rfl, k, rfl, hk, hgk, hno⟩ := hrel
    have HG := Lib.hid hgk; clear hgk
    have HN := Lib.hid hno; clear hno
    by_cases hlt : k < 4
    · have p0 := hcells.out k hlt
      have k0 : (0 : Int) ≤ k := by omega
      have k1 : (k : Int) < 4 := by omega
      obtain ⟨m, hm⟩ : ∃ m, mkAt k = m := ⟨_, rfl⟩
      have HM := Lib.hid hm
      rw [hm] at p0
      clear hm
      cases he : (x.toList == m.toList) with
      | true =>
        have he2 := he
        rw [← beq_toListBytes, MapKept.bytes_beq] at he2
        have hf := Lib.hid (mkAt_hit hlt (he2.trans HM.out.symm))
        clear he2
        go_wp2_with fail
        go_ret
        exact ⟨by rw [hf.out]; rfl, hg2⟩
      | false =>
        have hne : x ≠ m := fun h => by
          rw [h, beq_self_eq_true] at he
          cases he
        have hf := Lib.hid (show ∀ j, j < k + 1 → x ≠ mkAt j from fun j hj => by
          rcases Nat.lt_succ_iff_lt_or_eq.1 hj with h1 | rfl
          · exact HN.out j h1
          · rw [HM.out]; exact hne)
        clear hne
        go_wp2_with fail
        go_roundg (4 - (k + 1))
        case measure => rw [HG.out]; omega
        case rel => exact ⟨rfl, k + 1, by go_num, by omega, rfl, hf.out⟩
    · have hk4 : k = 4 := by omega
      subst hk4
      have hf := Lib.hid (mkAt_no HN.out)
      go_wp2_with fail
      go_ret
      exact ⟨by rw [hf.out]; rfl, hg2⟩
end Go.Proofs.YtakgddochbcjbaaDoor
namespace Go.Proofs.YtakgddochbcjbaaDoor
open Go.RowKit Go.Deep Go.MapKept

theorem indexByte_no {c : UInt8} : ∀ {l : List UInt8}, c ∉ l → Lib.indexByte l c = -1
  | [], _ => rfl
  | b :: l, h => by
    simp only [List.mem_cons, not_or] at h
    have h1 : (b == c) = false := by
      rw [beq_eq_false_iff_ne]
      exact fun e => h.1 e.symm
    rw [Lib.indexByte, h1, indexByte_no h.2]
    rfl
theorem indexByte_at {c : UInt8} {v : List UInt8} : ∀ {u : List UInt8}, c ∉ u → Lib.indexByte (u ++ c :: v) c = u.length
  | [], _ => by simp [Lib.indexByte]
  | b :: u, h => by
    simp only [List.mem_cons, not_or] at h
    have h1 : (b == c) = false := by
      rw [beq_eq_false_iff_ne]
      exact fun e => h.1 e.symm
    have h2 : ((u.length : Int) == -1) = false := by
      rw [beq_eq_false_iff_ne]
      omega
    rw [List.cons_append, Lib.indexByte, h1, indexByte_at h.2]
    simp only [h2]
    simp
theorem good_all : ∀ (l : List (List UInt8)), good l = true ↔ ∀ i x, l[i]? = some x → okLine (decide (i + 1 < l.length)) x = true
  | [] => by simp [good]
  | [x] => by
    rw [good]
    constructor
    · intro h i y hy
      cases i with
      | zero => cases hy; exact h
      | succ i => simp at hy
    · intro h
      exact h 0 x rfl
  | x :: y :: l => by
    rw [good, Bool.and_eq_true, good_all (y :: l)]
    constructor
    · rintro ⟨h1, h2⟩ i z hz
      cases i with
      | zero => cases hz; simpa using h1
      | succ i =>
        have := h2 i z (by simpa using hz)
        rw [← this]
        congr 1
        simp
    · intro h
      refine ⟨by simpa using h 0 x rfl, fun i z hz => ?_⟩
      rw [← h (i + 1) z (by simpa using hz)]
      congr 1
      simp
/-- may element i stand? -/
def okAt (l : List ByteArray) (n i : Nat) : Bool := okLine (decide (i + 1 < n)) (gs l i).data.toList
theorem goodT_all {l : List ByteArray} {n : Nat} (hl : l.length = n) : goodT l = true ↔ ∀ i, i < n → okAt l n i = true := by
  have e : (bl l).length = n := by rw [bl, List.length_map, hl]
  have hg : ∀ i, i < n → (bl l)[i]? = some (gs l i).data.toList := by
    intro i hi
    rw [bl, List.getElem?_map, gs_some (by omega)]
    rfl
  rw [goodT, good_all, e]
  constructor
  · intro h i hi
    exact h i _ (hg i hi)
  · intro h i x hx
    have hi : i < n := by rw [← e]; exact (List.getElem?_eq_some_iff.1 hx).1
    rw [hg i hi] at hx
    cases hx
    exact h i hi
theorem okLine_no {x : List UInt8} (h : (10 : UInt8) ∉ x) (m : Bool) : okLine m x = (!x.isEmpty && !m) := by
  cases hx : x.isEmpty with
  | true => rw [okLine, hx]; rfl
  | false =>
    have h1 : x.dropLast.contains 10 = false := by
      rw [← Bool.not_eq_true, List.contains_iff_mem]
      exact fun hm => h ((List.dropLast_sublist x).subset hm)
    have h2 : (x.getLast? == some 10) = false := by
      rw [beq_eq_false_iff_ne]
      exact fun e => h (List.mem_of_getLast? e)
    rw [okLine, hx, h1, h2]
    cases m <;> rfl
theorem okLine_mid {u v : List UInt8} (hv : v ≠ []) (m : Bool) : okLine m (u ++ 10 :: v) = false := by
  have h1 : (u ++ 10 :: v).dropLast.contains 10 = true := by
    rw [List.contains_iff_mem]
    obtain ⟨v', b, rfl⟩ := split_end hv
    rw [show u ++ 10 :: (v' ++ [b]) = (u ++ 10 :: v') ++ [b] by simp, List.dropLast_concat]
    simp
  rw [okLine, h1]
  simp

end Go.Proofs.YtakgddochbcjbaaDoor
