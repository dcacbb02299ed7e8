/- The document's Ratio. -/
import Derived.Test.YtakgddochbcjbaaDoorRatio
import Derived.Test.YtakgddochbcjbaaDoorRefLines
import Derived.Test.YtakgddochbcjbaaDoorTable
namespace Go.Proofs.YtakgddochbcjbaaDoor
open Go.RowKit Go.Deep Go.MapKept

set_option maxRecDepth 100000 in
set_option maxHeartbeats 1000000 in
theorem rcommon_s (B B' : Nat) (A A' : Option Addr) (n m c c' : Nat) (xs ys : List ByteArray) (w : World) (hx : Reads w B 1 A n (strs xs)) (hy : Reads w B' 1 A' m (strs ys)) (hB : B ≤ w.heap.size) (hB' : B' ≤ w.heap.size) (hn : n ≤ 1000000) (hm : m ≤ 1000000) :
    Calls Tryd.prog 69 #[.slice A n c, .slice A' m c'] w fun e w' => e = .returned (.int .i64 (lcs xs ys : Nat)) ∧ Grows w w' := by
  obtain ⟨v, hv⟩ : ∃ v, v = lcs xs ys := ⟨_, rfl⟩
  rw [← hv]
  have HV := Lib.hid (show lcsAt xs ys 0 0 = v from hv.symm)
  have HT := Lib.hid (table_any B B' A A' n m c c' xs ys w hx hy hB hB' hn hm)
  clear hv hx hy hB hB'
  go_enter Tryd.func69, Tryd.ntmps69
  go_wp2_with fail
  refine HT.out.mono ?_
  rintro e w1 ⟨T, R, rfl, htb, hgr⟩
  have hT0 := htb.cellT (i := 0) (Nat.le_refl _) (Nat.zero_le _)
  have hR0 := htb.cellR (i := 0) (j := 0) (Nat.le_refl _) (Nat.zero_le _) (Nat.zero_le _) rfl
  rw [HV.out] at hR0
  have i0 : (0 : Int) < (n : Int) + 1 := by omega
  have j0 : (0 : Int) < (m : Int) + 1 := by omega
  clear htb HT
  go_wp2_with fail
  go_ret
  exact ⟨rfl, hgr⟩
set_option maxRecDepth 100000 in
set_option maxHeartbeats 2000000 in
theorem rratio_any (a b : ByteArray) (w : World) (ha : a.size ≤ 100000) (hb : b.size ≤ 100000) :
    Calls Tryd.prog 36 #[.string a, .string b] w fun e w' => e = .returned (.int .i64 (ratioT a b : Nat)) ∧ Grows w w' := by
  obtain ⟨x, hx⟩ : ∃ x, x = linesT a := ⟨_, rfl⟩
  obtain ⟨y, hy⟩ : ∃ y, y = linesT b := ⟨_, rfl⟩
  have hnx : x.length ≤ 1000000 := by have := lines_len a; rw [hx]; omega
  have hny : y.length ≤ 1000000 := by have := lines_len b; rw [hy]; omega
  have HR := Lib.hid (show ratioT a b = if 400 < x.length ∨ 400 < y.length then 0 else if x.length + y.length = 0 then 100 else 200 * lcs x y / (x.length + y.length) by rw [hx, hy]; rfl)
  have hS1 := rsplit_any a w (by omega)
  rw [← hx] at hS1
  have hS2 : ∀ w1, _ := fun w1 => rsplit_any b w1 (by omega)
  rw [← hy] at hS2
  clear hx hy
  go_enter Tryd.func36, Tryd.ntmps36
  go_wp2_with fail
  refine hS1.mono ?_
  rintro e w1 ⟨v1, rfl, ho1, hg1⟩
  obtain ⟨A1, c1, rfl, hc1, hM1⟩ := own_form ho1
  go_wp2_with fail
  refine (hS2 w1).mono ?_
  rintro e w2 ⟨v2, rfl, ho2, hg2⟩
  obtain ⟨A2, c2, rfl, hc2, hM2⟩ := own_form ho2
  have hx2 := Lib.hid (Reads.of_own (own_grows ho1 hg2))
  have hy2 := Lib.hid (Reads.of_own ho2)
  have HGR := Lib.hid (hg1.trans hg2)
  clear hS1 hS2 ho1 ho2 hg1 hg2
  by_cases h3 : x.length + y.length = 0
  · have HE := Lib.hid (show ratioT a b = 100 by rw [HR.out, if_neg (by omega), if_pos h3])
    have h3' : ((x.length : Nat) : Int) + (y.length : Nat) = 0 := by omega
    go_wp2_with fail
    go_ret
    exact ⟨by rw [HE.out]; rfl, HGR.out⟩
  · have h3' : ¬ (((x.length : Nat) : Int) + (y.length : Nat) = 0) := by omega
    by_cases h1 : 400 < x.length
    · have HE := Lib.hid (show ratioT a b = 0 by rw [HR.out, if_pos (.inl h1)])
      have h1' : ((x.length : Nat) : Int) > 400 := by omega
      go_wp2_with fail
      go_ret
      exact ⟨by rw [HE.out]; rfl, HGR.out⟩
    · have h1' : ¬ (((x.length : Nat) : Int) > 400) := by omega
      by_cases h2 : 400 < y.length
      · have HE := Lib.hid (show ratioT a b = 0 by rw [HR.out, if_pos (.inr h2)])
        have h2' : ((y.length : Nat) : Int) > 400 := by omega
        go_wp2_with fail
        go_ret
        exact ⟨by rw [HE.out]; rfl, HGR.out⟩
      · have h2' : ¬ (((y.length : Nat) : Int) > 400) := by omega
        have HE := Lib.hid (show ratioT a b = 200 * lcs x y / (x.length + y.length) by rw [HR.out, if_neg (by omega), if_neg h3])
        have hcm := rcommon_s w2.heap.size w2.heap.size A1 A2 x.length y.length c1 c2 x y w2 hx2.out hy2.out (Nat.le_refl _) (Nat.le_refl _) hnx hny
        go_wp2_with fail
        have hll := lcs_le_left x y
        obtain ⟨L, hL⟩ : ∃ L, L = lcs x y := ⟨_, rfl⟩
        rw [← hL] at hll hcm HE
        clear hL
        refine hcm.mono ?_
        rintro e w3 ⟨rfl, hg3⟩
        have hz : (0 : Int) < (x.length : Nat) + (y.length : Nat) := by omega
        go_wp2_with fail
        go_ret
        exact ⟨by rw [HE.out]; push_cast; rfl, HGR.out.trans hg3⟩
end Go.Proofs.YtakgddochbcjbaaDoor
