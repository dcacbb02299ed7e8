/- SimilarHalf: files that have half of their lines in common moved; those that have less did not. -/
import Derived.Test.YtakgddochbcjbaaDoorSimOne
import Derived.Test.YtakgddochbcjbaaDoorDigits
import Derived.Laws.Shifts
namespace Go.Proofs.YtakgddochbcjbaaDoor
open Go.RowKit Go.Deep Go.MapKept Go.Shelf

/-- a line: a letter, a number, an end -/
def lnD (c v : Nat) : ByteArray := byteT c ++ digT v ++ byteT 10
/-- so many such lines -/
def lnsD (c n : Nat) : List ByteArray := (List.range n).map (lnD c)
theorem lnsD_succ (c n : Nat) : lnsD c (n + 1) = lnsD c n ++ [lnD c n] := by simp [lnsD, List.range_succ]
theorem joinT_snoc' (l : List ByteArray) (x : ByteArray) : joinT (l ++ [x]) = joinT l ++ x := by
  apply ByteArray.ext
  rw [ByteArray.data_append]
  simp [joinT, bl, tx]
/-- all that is claimed of the lines, of any twenty -/
theorem lnD_ok : ((List.range 20).all fun v => okLine true (lnD 115 v).data.toList && okLine false (lnD 115 v).data.toList && okLine true (lnD 97 v).data.toList && okLine false (lnD 97 v).data.toList && okLine true (lnD 98 v).data.toList && okLine false (lnD 98 v).data.toList && decide ((lnD 115 v).size ≤ 4) && decide ((lnD 97 v).size ≤ 4) && decide ((lnD 98 v).size ≤ 4)) = true := by decide +kernel
theorem lnD_ne : ((List.range 20).all fun v => (List.range 20).all fun u => decide (lnD 97 v ≠ lnD 98 u)) = true := by decide +kernel

theorem goodT_all : ∀ l : List ByteArray, (∀ x ∈ l, ∀ m, okLine m x.data.toList = true) → goodT l = true
  | [], _ => rfl
  | x :: l, h => good_cons (fun m => h x (by simp) m) (goodT_all l fun y hy => h y (by simp [hy]))
def okC (c : Nat) : Prop := c = 115 ∨ c = 97 ∨ c = 98
theorem lnD_line {c v : Nat} (hc : okC c) (hv : v < 20) (m : Bool) : okLine m (lnD c v).data.toList = true := by
  have h := List.all_eq_true.1 lnD_ok v (List.mem_range.2 hv)
  simp only [Bool.and_eq_true, decide_eq_true_eq] at h
  obtain ⟨⟨⟨⟨⟨⟨⟨⟨a, b⟩, c'⟩, d⟩, e⟩, f⟩, _⟩, _⟩, _⟩ := h
  rcases hc with rfl | rfl | rfl <;> cases m <;> assumption
theorem lnD_size {c v : Nat} (hc : okC c) (hv : v < 20) : (lnD c v).size ≤ 4 := by
  have h := List.all_eq_true.1 lnD_ok v (List.mem_range.2 hv)
  simp only [Bool.and_eq_true, decide_eq_true_eq] at h
  obtain ⟨⟨⟨_, g⟩, h'⟩, i⟩ := h
  rcases hc with rfl | rfl | rfl <;> assumption
theorem mem_lnsD {c n : Nat} {x : ByteArray} (h : x ∈ lnsD c n) : ∃ v, v < n ∧ x = lnD c v := by
  obtain ⟨v, hv, rfl⟩ := List.mem_map.1 h
  exact ⟨v, List.mem_range.1 hv, rfl⟩
theorem lnsD_len (c n : Nat) : (lnsD c n).length = n := by simp [lnsD]
def linesH (c s o : Nat) : List ByteArray := lnsD 115 s ++ lnsD c o
def textH (c s o : Nat) : ByteArray := joinT (linesH c s o)
theorem linesT_H {c s o : Nat} (hc : okC c) (hs : s ≤ 20) (ho : o ≤ 20) : linesT (textH c s o) = linesH c s o := by
  refine lines_join _ (goodT_all _ fun x hx m => ?_)
  rcases List.mem_append.1 hx with hx | hx
  · obtain ⟨v, hv, rfl⟩ := mem_lnsD hx
    exact lnD_line (.inl rfl) (by omega) m
  · obtain ⟨v, hv, rfl⟩ := mem_lnsD hx
    exact lnD_line hc (by omega) m
theorem lcs_H {s o : Nat} (ho : o ≤ 20) : lcs (linesH 97 s o) (linesH 98 s o) = s := by
  rw [linesH, linesH, lcs_front, lnsD_len, lcs_none]
  · omega
  · intro x hx hy
    obtain ⟨v, hv, rfl⟩ := mem_lnsD hx
    obtain ⟨u, hu, e⟩ := mem_lnsD hy
    have h := List.all_eq_true.1 (List.all_eq_true.1 lnD_ne v (List.mem_range.2 (by omega))) u (List.mem_range.2 (by omega))
    exact (of_decide_eq_true h) e
theorem ratio_H {s o : Nat} (hs : s ≤ 20) (ho : o ≤ 20) (h1 : 1 ≤ o) : ratioT (textH 97 s o) (textH 98 s o) = 100 * s / (s + o) := by
  have e1 : (linesH 97 s o).length = s + o := by rw [linesH, List.length_append, lnsD_len, lnsD_len]
  have e2 : (linesH 98 s o).length = s + o := by rw [linesH, List.length_append, lnsD_len, lnsD_len]
  unfold ratioT
  rw [linesT_H (.inr (.inl rfl)) hs ho, linesT_H (.inr (.inr rfl)) hs ho, lcs_H ho, e1, e2, if_neg (by omega), if_neg (by omega)]
  rw [show 200 * s = 2 * (100 * s) by omega, show s + o + (s + o) = 2 * (s + o) by omega, Nat.mul_div_mul_left _ _ (by decide)]
theorem text_H_ne {s o : Nat} (hs : s ≤ 20) (ho : o ≤ 20) (h1 : 1 ≤ o) : textH 98 s o ≠ textH 97 s o := by
  intro e
  have h := congrArg linesT e
  rw [linesT_H (.inr (.inl rfl)) hs ho, linesT_H (.inr (.inr rfl)) hs ho] at h
  have h2 := lcs_H (s := s) ho
  rw [h, lcs_self, linesH, List.length_append, lnsD_len, lnsD_len] at h2
  omega
theorem joinT_le : ∀ l : List ByteArray, (∀ x ∈ l, x.size ≤ 4) → (joinT l).size ≤ 4 * l.length
  | [], _ => by simp [joinT, bl, tx_size]
  | x :: l, h => by
    have ih := joinT_le l fun y hy => h y (by simp [hy])
    have hx := h x (by simp)
    have e : joinT (x :: l) = x ++ joinT l := by
      apply ByteArray.ext
      rw [ByteArray.data_append]
      simp [joinT, bl, tx]
    rw [e, ByteArray.size_append, List.length_cons]
    omega
theorem text_H_size {c s o : Nat} (hc : okC c) (hs : s ≤ 20) (ho : o ≤ 20) : (textH c s o).size ≤ 4 * (s + o) := by
  have h := joinT_le (linesH c s o) fun x hx => by
    rcases List.mem_append.1 hx with hx | hx
    · obtain ⟨v, hv, rfl⟩ := mem_lnsD hx
      exact lnD_size (.inl rfl) (by omega)
    · obtain ⟨v, hv, rfl⟩ := mem_lnsD hx
      exact lnD_size hc (by omega)
  rwa [linesH, List.length_append, lnsD_len, lnsD_len] at h
theorem text_H_some {c s o : Nat} (hc : okC c) (hs : s ≤ 20) (ho : o ≤ 20) (h1 : 1 ≤ o) : textH c s o ≠ ByteArray.empty := by
  intro e
  have h := congrArg linesT e
  rw [linesT_H hc hs ho] at h
  have h2 := congrArg List.length h
  rw [linesH, List.length_append, lnsD_len, lnsD_len, show linesT ByteArray.empty = [] by kernel_rfl] at h2
  simp at h2
  omega
theorem textH_s (c i : Nat) : textH c (i + 1) 0 = textH c i 0 ++ byteT 115 ++ digT i ++ byteT 10 := by
  rw [textH, linesH, lnsD_succ, textH, linesH]
  show joinT ((lnsD 115 i ++ [lnD 115 i]) ++ []) = joinT (lnsD 115 i ++ []) ++ byteT 115 ++ digT i ++ byteT 10
  rw [List.append_nil, List.append_nil, joinT_snoc', lnD, ByteArray.append_assoc, ByteArray.append_assoc, ByteArray.append_assoc]
theorem textH_o (c s i : Nat) : textH c s (i + 1) = textH c s i ++ byteT c ++ digT i ++ byteT 10 := by
  rw [textH, linesH, lnsD_succ, ← List.append_assoc, joinT_snoc', lnD, textH, linesH, ByteArray.append_assoc, ByteArray.append_assoc, ByteArray.append_assoc]
theorem b115 : byteT 115 = { data := #[115] } := rfl
theorem b97 : byteT 97 = { data := #[97] } := rfl
theorem b98 : byteT 98 = { data := #[98] } := rfl
theorem b10 : byteT 10 = { data := #[10] } := rfl
theorem digT_size {v : Nat} : (digT v).size ≤ 2 := by
  unfold digT
  split
  · exact (by decide : 1 ≤ 2)
  · exact Nat.le_refl 2
theorem mod20 (x : Int) : ∃ k : Nat, k < 20 ∧ wrap64 ((IntKind.u64.wrap x).tmod 20) = k := by
  have h0 := wrap_u64_nonneg x
  have h1 : 0 ≤ (IntKind.u64.wrap x).tmod 20 := Int.tmod_nonneg 20 h0
  have h2 : (IntKind.u64.wrap x).tmod 20 < 20 := Int.tmod_lt_of_pos _ (by decide)
  refine ⟨((IntKind.u64.wrap x).tmod 20).toNat, by omega, ?_⟩
  unfold wrap64
  omega
set_option maxRecDepth 100000 in
set_option maxHeartbeats 4000000 in
theorem shalf_any (sh ot : Int) (w : World) (hm : MaxL w) : Calls Tryd.prog 11 #[.int .i64 sh, .int .i64 ot] w fun e w' => e = .returned (.bool true) ∧ Grows w w' := by
  obtain ⟨s, hs, he1⟩ := mod20 sh
  obtain ⟨o', ho', he2⟩ := mod20 ot
  obtain ⟨o, ho⟩ : ∃ o, o = o' + 1 := ⟨_, rfl⟩
  have he3 : wrap64 (1 + (o' : Int)) = o := by unfold wrap64; omega
  have ho1 : 1 ≤ o := by omega
  have ho2 : o ≤ 20 := by omega
  have HE1 := Lib.hid he1
  have HE2 := Lib.hid he2
  have HE3 := Lib.hid he3
  clear he1 he2 he3 ho ho'
  go_enter Tryd.func11, Tryd.ntmps11
  go_wp2_with fail
  simp only [HE1.out, HE2.out, HE3.out]
  clear HE1 HE2 HE3
  have HT0 := Lib.hid (show textH 97 0 0 = { data := #[] } from rfl)
  have HT1 := Lib.hid (show textH 98 0 0 = { data := #[] } from rfl)
  go_loopg [5, 6, 7] s (fun gk av bv q wr => ∃ i : Nat, q = .int .i64 i ∧ i ≤ s ∧ gk = s - i ∧ av = .string (textH 97 i 0) ∧ bv = .string (textH 98 i 0) ∧ Grows w wr)
  case atStart => exact ⟨0, rfl, by omega, rfl, by rw [HT0.out], by rw [HT1.out], Grows.refl _⟩
  case round =>
    obtain ⟨i, rfl, hi, hgk, rfl, rfl, hgr⟩ := hrel
    have HG := Lib.hid hgk
    clear hgk
    by_cases hlt : i < s
    · have i0 : (0 : Int) ≤ i := by omega
      have i1 : (i : Int) < s := by omega
      have HA := Lib.hid (textH_s 97 i)
      have HB := Lib.hid (textH_s 98 i)
      rw [b115, b10] at HA HB
      have z1 := text_H_size (c := 97) (s := i) (o := 0) (.inr (.inl rfl)) (by omega) (by omega)
      have z2 := text_H_size (c := 98) (s := i) (o := 0) (.inr (.inr rfl)) (by omega) (by omega)
      have z3 := digT_size (v := i)
      have hd : ∀ wx, _ := fun wx => dig_any i wx (by omega)
      generalize textH 97 i 0 = ta at z1 HA ⊢
      generalize textH 98 i 0 = tb at z2 HB ⊢
      go_wp2_with fail
      refine (hd wr).mono ?_
      rintro e w1 ⟨rfl, hg1⟩
      go_wp2_with fail
      refine (hd w1).mono ?_
      rintro e w2 ⟨rfl, hg2⟩
      go_wp2_with fail
      go_roundg (s - (i + 1))
      case measure => rw [HG.out]; omega
      case rel => exact ⟨i + 1, by go_num, by omega, rfl, by rw [HA.out], by rw [HB.out], hgr.trans (hg1.trans hg2)⟩
    · have his : i = s := by omega
      have i1 : ¬ ((i : Int) < s) := by omega
      subst his
      have HRR := Lib.hid hgr
      clear hgr HT0 HT1
      go_wp2_with fail
      go_loopg [5, 6, 8] o (fun gk av bv q wx => ∃ j : Nat, q = .int .i64 j ∧ j ≤ o ∧ gk = o - j ∧ av = .string (textH 97 i j) ∧ bv = .string (textH 98 i j) ∧ Grows w wx)
      case atStart => exact ⟨0, rfl, by omega, rfl, rfl, rfl, HRR.out⟩
      case round =>
        obtain ⟨j, rfl, hj, hgj, rfl, rfl, hgr⟩ := hrel
        have HJ := Lib.hid hgj
        clear hgj HRR
        by_cases hlt : j < o
        · have i0 : (0 : Int) ≤ j := by omega
          have j1 : (j : Int) < o := by omega
          have HA := Lib.hid (textH_o 97 i j)
          have HB := Lib.hid (textH_o 98 i j)
          rw [b97, b10] at HA
          rw [b98, b10] at HB
          have z1 := text_H_size (c := 97) (s := i) (o := j) (.inr (.inl rfl)) (by omega) (by omega)
          have z2 := text_H_size (c := 98) (s := i) (o := j) (.inr (.inr rfl)) (by omega) (by omega)
          have z3 := digT_size (v := j)
          have hd : ∀ wx, _ := fun wx => dig_any j wx (by omega)
          generalize textH 97 i j = ta at z1 HA ⊢
          generalize textH 98 i j = tb at z2 HB ⊢
          go_wp2_with fail
          refine (hd _).mono ?_
          rintro e w1 ⟨rfl, hg1⟩
          go_wp2_with fail
          refine (hd w1).mono ?_
          rintro e w2 ⟨rfl, hg2⟩
          go_wp2_with fail
          go_roundg (o - (j + 1))
          case measure => rw [HJ.out]; omega
          case rel => exact ⟨j + 1, by go_num, by omega, rfl, by rw [HA.out], by rw [HB.out], hgr.trans (hg1.trans hg2)⟩
        · have hjo : j = o := by omega
          have j1 : ¬ ((j : Int) < o) := by omega
          subst hjo
          have HR := Lib.hid (ratio_H (s := i) (o := j) (by omega) ho2 ho1)
          have HNE := Lib.hid (text_H_ne (s := i) (o := j) (by omega) ho2 ho1)
          have HS1 := Lib.hid (text_H_some (c := 97) (s := i) (o := j) (.inr (.inl rfl)) (by omega) ho2 ho1)
          have HS2 := Lib.hid (text_H_some (c := 98) (s := i) (o := j) (.inr (.inr rfl)) (by omega) ho2 ho1)
          have z1 := text_H_size (c := 97) (s := i) (o := j) (.inr (.inl rfl)) (by omega) ho2
          have z2 := text_H_size (c := 98) (s := i) (o := j) (.inr (.inr rfl)) (by omega) ho2
          generalize textH 97 i j = ta at z1 HR HNE HS1 ⊢
          generalize textH 98 i j = tb at z2 HR HNE HS2 ⊢
          have hrl := ratio_le ta tb
          have hra := ratio_any ta tb wr (hm.grows hgr) (by omega) (by omega)
          have h2i : (0 : Int) < (i : Int) + j := by omega
          go_wp2_with fail
          refine hra.mono ?_
          rintro e w1 ⟨rfl, hg1⟩
          clear hra
          obtain ⟨r, hr⟩ : ∃ r, r = ratioT ta tb := ⟨_, rfl⟩
          have HMV := Lib.hid (show decide (50 ≤ r) = (eqT tb ta || decide (50 ≤ ratioT ta tb)) by rw [hr, eqT, decide_eq_false HNE.out]; rfl)
          have hr2 : ((100 * i : Nat) : Int) / ((i + j : Nat) : Int) = r := by rw [hr, HR.out]; exact (Int.natCast_ediv _ _).symm
          have HR2 := Lib.hid hr2
          rw [← hr] at hrl ⊢
          clear hr hr2
          obtain ⟨w2, hw2⟩ : ∃ w2, w2 = (w1.alloc (.cells #[.string { data := #[120] }, .bool false, .string ta] 57)).alloc (.cells #[.string { data := #[121] }, .bool false, .string tb] 57) := ⟨_, rfl⟩
          have HG2 := Lib.hid (show Grows w w2 by rw [hw2]; exact ((hgr.trans hg1).alloc _).alloc _)
          have hb1 : Blk w2 w1.heap.size 57 #[.string { data := #[120] }, .bool false, .string ta] := by rw [hw2]; exact (Blk.new _ _ _).alloc _
          have hb2 : Blk w2 (w1.heap.size + 1) 57 #[.string { data := #[121] }, .bool false, .string tb] := by
            have := Blk.new (w1.alloc (.cells #[.string { data := #[120] }, .bool false, .string ta] 57)) 57 #[.string { data := #[121] }, .bool false, .string tb]
            rw [hw2]
            simpa using this
          have HW2 := Lib.hid hw2.symm
          clear hw2 HR HNE
          by_cases h50 : 50 ≤ r
          · have h50' : (50 : Int) ≤ r := by omega
            have hrn := ren_one w2 (hm.grows HG2.out) w1.heap.size (w1.heap.size + 1) 1 1 _ _ ta tb false false hb1 hb2 (by decide) HS1.out HS2.out (by omega) (by omega) true (by rw [← HMV.out]; exact (decide_eq_true h50).symm)
            clear hb1 hb2
            go_wp2_with fail
            rw [HW2.out]
            refine hrn.mono ?_
            rintro e w3 ⟨A3, c3, rfl, _, hg3⟩
            clear hrn
            have hg03 := HG2.out.trans hg3
            rw [show (mvL { data := #[120] } { data := #[121] } true).length = 1 from rfl]
            go_wp2_with fail
            refine (sawake_any w3 (hm.grows hg03)).mono ?_
            rintro e w4 ⟨rfl, hg4⟩
            have hr4 := HR2.out
            push_cast at hr4
            go_wp2_with fail
            go_ret
            exact ⟨rfl, hg03.trans hg4⟩
          · have h50' : ¬ (50 : Int) ≤ r := by omega
            have hrn := ren_one w2 (hm.grows HG2.out) w1.heap.size (w1.heap.size + 1) 1 1 _ _ ta tb false false hb1 hb2 (by decide) HS1.out HS2.out (by omega) (by omega) false (by rw [← HMV.out]; exact (decide_eq_false h50).symm)
            clear hb1 hb2
            go_wp2_with fail
            rw [HW2.out]
            refine hrn.mono ?_
            rintro e w3 ⟨A3, c3, rfl, _, hg3⟩
            clear hrn
            have hg03 := HG2.out.trans hg3
            rw [show (mvL { data := #[120] } { data := #[121] } false).length = 0 from rfl]
            go_wp2_with fail
            refine (sawake_any w3 (hm.grows hg03)).mono ?_
            rintro e w4 ⟨rfl, hg4⟩
            have hr4 := HR2.out
            push_cast at hr4
            go_wp2_with fail
            go_ret
            have h50' : ¬ (50 : Int) ≤ r := by omega
            exact ⟨ret_bool (show (!decide ((50 : Int) ≤ r)) = true by rw [decide_eq_false h50']; rfl), hg03.trans hg4⟩
end Go.Proofs.YtakgddochbcjbaaDoor
