/- slices.Clone at strings. -/
import Derived.Test.YtakgddochbcjbaaDoorCommon
import Derived.Test.YtakgddochbcjbaaDoorOwnS
import Derived.Test.YtakgddochbcjbaaDoorEqualS
namespace Go.Proofs.YtakgddochbcjbaaDoor
open Go.RowKit Go.Deep Go.MapKept

theorem Tryd.slice_nil (c : Nat) (w : World) : (binOp .eql 28 (.slice none 0 c) (.slice none 0 0)).run Tryd.prog w = .ok (.bool true) w := by kernel_rfl
theorem Tryd.slice_some (ad : Addr) (n c : Nat) (w : World) : (binOp .eql 28 (.slice (some ad) n c) (.slice none 0 0)).run Tryd.prog w = .ok (.bool false) w := by kernel_rfl

set_option maxRecDepth 100000 in
set_option maxHeartbeats 1000000 in
theorem clone_any (B : Nat) (A : Option Addr) (n c : Nat) (xs : List ByteArray) (w : World) (hx : Reads w B 1 A n (strs xs)) (hB : B ≤ w.heap.size) (hn : n ≤ 1000000000000) :
    Calls Tryd.prog 110 #[.slice A n c] w fun e w' => ∃ v, e = .returned v ∧ OwnS w' v xs ∧ Grows w w' := by
  have HX := Lib.hid hx; clear hx
  have HL := Lib.hid HX.out.strLen
  obtain ⟨s0, hs0, hs1, hs2, hs3⟩ := info_parts Tryd.infoStr
  go_enter Tryd.func110, Tryd.ntmps110
  cases A with
  | none =>
    have hn0 : n = 0 := by
      rcases Nat.eq_zero_or_pos n with h0 | h0
      · exact h0
      · obtain ⟨ad, h, _⟩ := HX.out.2 h0
        cases h
    subst hn0
    have hxs : xs = [] := List.eq_nil_of_length_eq_zero HL.out
    subst hxs
    have hnil := Tryd.slice_nil c w
    go_wp2_with fail
    go_ret
    exact ⟨_, rfl, World.ownsRow_nil _ _ _ _, Grows.refl _⟩
  | some ad =>
    have hnil := Tryd.slice_some ad n c w
    have hlit : (w.alloc (.cells #[] 9)).ownsRow w.heap.size 9 1 (.slice (some ⟨w.heap.size, 0, none⟩) 0 0) 0 [] := World.ownsRow_made w #[] 0 (Nat.le_refl _) (Nat.zero_le _) rfl
    have hrd := HX.out.alloc hB (.cells #[] 9)
    have hg0 : Grows w (w.alloc (.cells #[] 9)) := (Grows.refl w).alloc _
    go_wp2_with (at_builtin; refine wpList_append_any _ rfl (.tmp 5) (.tmp 6) _ rfl w.heap.size 9 s0 _ 1 16 Tryd.underlying28 hs0 hs1 hs2 hs3 rfl (by decide) _ _ _ rfl hlit B _ _ _ _ rfl hrd (strs_oneCell _) (by simp only [maxLen]; omega) (by omega) hg0.size ?_; intro v1 w1 hown1 hgb1 hor1; have hgr1 : Grows w w1 := Below.grown hg0 hgb1 hg0.size (fun k hk => (hlit.lt k hk).1))
    go_ret
    refine ⟨_, rfl, OwnS.of (B := w.heap.size) (n := 0 + n) ?_, hgr1⟩
    exact hown1

end Go.Proofs.YtakgddochbcjbaaDoor
