/- One file in each tree: what similar.Renames tells; ricklaw13.awake. -/
import Derived.Test.YtakgddochbcjbaaDoorSimRen
import Derived.Test.YtakgddochbcjbaaDoorRens
namespace Go.Proofs.YtakgddochbcjbaaDoor
open Go.RowKit Go.Deep Go.MapKept Go.Shelf

section
variable {p q s t : ByteArray} {x y : Bool}
theorem lone_one (h : q ≠ p) (hs : s ≠ ByteArray.empty) : loneL [(p, x, s)] [(q, y, t)] = [0] := by
  simp [loneL, loneTo, isLone, hasF, hasK, fp, ft, gf, eqT, h, hs]
theorem same_one_yes (h : q ≠ p) (hs : s ≠ ByteArray.empty) : sameOf [(p, x, s)] [(q, y, s)] = ⟨[], [], [(0, 0)]⟩ := by
  rw [sameOf, lone_one h hs, lone_one (Ne.symm h) hs]
  have e : idxT [(p, x, s)] [(q, y, s)] 0 [0] = 0 := by simp [idxT, Lib.idxBy, Lib.idxByFrom, wants, ft, gf, eqT]
  simp [sameTo, sameStep, gi, e, SSt.take, delL]
theorem same_one_no (h : q ≠ p) (hs : s ≠ ByteArray.empty) (ht : t ≠ ByteArray.empty) (hst : t ≠ s) : sameOf [(p, x, s)] [(q, y, t)] = ⟨[0], [0], []⟩ := by
  rw [sameOf, lone_one h hs, lone_one (Ne.symm h) ht]
  have e : idxT [(p, x, s)] [(q, y, t)] 0 [0] = -1 := by simp [idxT, Lib.idxBy, Lib.idxByFrom, wants, ft, gf, eqT, hst]
  simp [sameTo, sameStep, gi, e]
theorem out_one_same (h : q ≠ p) (hs : s ≠ ByteArray.empty) : (outOf [(p, x, s)] [(q, y, s)]).O = [(0, 0)] := by
  rw [outOf, same_one_yes h hs]
  rfl
theorem out_one_other (h : q ≠ p) (hs : s ≠ ByteArray.empty) (ht : t ≠ ByteArray.empty) (hst : t ≠ s) : (outOf [(p, x, s)] [(q, y, t)]).O = if 50 ≤ ratioT s t then [(0, 0)] else [] := by
  have hfl : fillOf [(p, x, s)] [(q, y, t)] (0, 0) = some (ratioT s t : Nat) := by
    rw [fillOf, same_one_no h hs ht hst]
    exact fill_get (R := ratioF [(p, x, s)] [(q, y, t)]) (F := [0]) (T := [0]) (by simp) (by simp)
  have hb : bestOf (fillOf [(p, x, s)] [(q, y, t)]) [0] [0] = if 49 < (ratioT s t : Int) then ((0, 0), (ratioT s t : Int)) else ((0, 0), 49) := by
    show stepJ (fillOf [(p, x, s)] [(q, y, t)]) 0 ((0, 0), 49) 0 = _
    unfold stepJ
    rw [hfl]
    rfl
  rw [outOf, same_one_no h hs ht hst]
  by_cases h50 : 50 ≤ ratioT s t
  · have h1 : 50 ≤ (bestOf (fillOf [(p, x, s)] [(q, y, t)]) [0] [0]).2 := by rw [hb, if_pos (by omega)]; show (50 : Int) ≤ (ratioT s t : Nat); omega
    rw [alikeE_step h1, if_pos h50]
    have e : (bestOf (fillOf [(p, x, s)] [(q, y, t)]) [0] [0]).1 = (0, 0) := by rw [hb]; split <;> rfl
    rw [e]
    rfl
  · have h1 : ¬ 50 ≤ (bestOf (fillOf [(p, x, s)] [(q, y, t)]) [0] [0]).2 := by rw [hb, if_neg (by omega)]; decide
    rw [alikeE_stop h1, if_neg h50]
end
theorem Blk.reads3 {w : World} {g : Nat} {t : TypeId} {a b c : Value} (h : Blk w g t #[a, b, c]) : Reads w w.heap.size 3 (some ⟨g, 0, none⟩) 1 [a, b, c] := by
  refine ⟨rfl, fun _ => ⟨_, rfl, h.lt, fun j u hu => ?_⟩⟩
  have e2 : Addr.add ⟨g, 0, none⟩ j = ⟨g, j, none⟩ := by unfold Addr.add; split <;> simp_all
  rw [e2, h.cell]
  match j, hu with
  | 0, hu => simpa using hu
  | 1, hu => simpa using hu
  | 2, hu => simpa using hu
/-- renames, told by the lists -/
def renL (l m : List FileB) (O : List (Int × Int)) : List (ByteArray × ByteArray) := O.map fun p => (fp l p.1.toNat, fp m p.2.toNat)
theorem renCells_eq (l m : List FileB) (O : List (Int × Int)) : renCells l m O = rnCells (renL l m O) := by
  induction O with
  | nil => rfl
  | cons p O ih => exact congrArg (fun r => Value.string (fp l p.1.toNat) :: Value.string (fp m p.2.toNat) :: r) ih
def sA : ByteArray := { data := #[97] }
def sB : ByteArray := { data := #[98] }
def sX : ByteArray := { data := #[120, 10] }
def sN : ByteArray := { data := #[97, 10] }
theorem ratio_sN : ratioT sN sN = 100 := by kernel_rfl

/-- the one rename, if it moved -/
def mvL (p q : ByteArray) (mv : Bool) : List (ByteArray × ByteArray) := if mv = true then [(p, q)] else []
theorem out_mv {p q s t : ByteArray} {x y : Bool} (h : q ≠ p) (hs : s ≠ ByteArray.empty) (ht : t ≠ ByteArray.empty) (mv : Bool) (hmv : mv = (eqT t s || decide (50 ≤ ratioT s t))) : (outOf [(p, x, s)] [(q, y, t)]).O = if mv = true then [(0, 0)] else [] := by
  by_cases e : t = s
  · subst e
    rw [out_one_same h hs, hmv]
    simp [eqT]
  · rw [out_one_other h hs ht e, hmv]
    simp [eqT, e]
set_option maxRecDepth 100000 in
theorem ren_one (w : World) (hm : MaxL w) (g1 g2 c1 c2 : Nat) (p q s t : ByteArray) (x y : Bool) (h1 : Blk w g1 57 #[.string p, .bool x, .string s]) (h2 : Blk w g2 57 #[.string q, .bool y, .string t]) (h : q ≠ p) (hs : s ≠ ByteArray.empty) (ht : t ≠ ByteArray.empty) (hsl : s.size ≤ 100000) (htl : t.size ≤ 100000) (mv : Bool) (hmv : mv = (eqT t s || decide (50 ≤ ratioT s t))) :
    Calls Tryd.prog 34 #[.slice (some ⟨g1, 0, none⟩) 1 c1, .slice (some ⟨g2, 0, none⟩) 1 c2] w fun e w' => ∃ A c, e = .returned (.slice A (mvL p q mv).length c) ∧ Reads w' w'.heap.size 2 A (mvL p q mv).length (rnCells (mvL p q mv)) ∧ Grows w w' := by
  have ho := out_mv (x := x) (y := y) h hs ht mv hmv
  refine (ren_any w 1 1 c1 c2 (some ⟨g1, 0, none⟩) (some ⟨g2, 0, none⟩) [(p, x, s)] [(q, y, t)] hm (by omega) (by omega) h1.reads3 h2.reads3 (fun k hk => ?_) (fun k hk => ?_)).mono ?_
  · obtain rfl : k = 0 := by omega
    exact hsl
  · obtain rfl : k = 0 := by omega
    exact htl
  · rintro e w' ⟨v, rfl, O', hp, _, ho', hg⟩
    rw [ho] at hp
    have e1 : renL [(p, x, s)] [(q, y, t)] O' = mvL p q mv := by
      cases mv with
      | true =>
        have : O' = [(0, 0)] := List.perm_singleton.1 hp
        rw [this]
        rfl
      | false =>
        have : O' = [] := List.perm_nil.1 hp
        rw [this]
        rfl
    rw [renCells_eq, e1] at ho'
    have e2 : O'.length = (mvL p q mv).length := by rw [← e1]; simp [renL]
    rw [e2] at ho'
    obtain ⟨A, c, rfl, _, _⟩ := own_form ho'
    exact ⟨A, c, rfl, Reads.of_own ho', hg⟩
theorem Blk.reads2 {w : World} {g : Nat} {t : TypeId} {a b : ByteArray} (h : Blk w g t #[.string a, .string b]) : Reads w w.heap.size 2 (some ⟨g, 0, none⟩) 1 (rnCells [(a, b)]) := h.reads1
set_option maxRecDepth 100000 in
set_option maxHeartbeats 2000000 in
theorem sawake_any (w : World) (hm : MaxL w) : Calls Tryd.prog 30 #[] w fun e w' => e = .returned (.bool true) ∧ Grows w w' := by
  obtain ⟨w1, hw1⟩ : ∃ w1, w1 = (w.alloc (.cells #[.string sA, .bool false, .string sX] 57)).alloc (.cells #[.string sB, .bool false, .string sX] 57) := ⟨_, rfl⟩
  have hg1 : Grows w w1 := by rw [hw1]; exact ((Grows.refl w).alloc _).alloc _
  have hb1 : Blk w1 w.heap.size 57 #[.string sA, .bool false, .string sX] := by rw [hw1]; exact (Blk.new _ _ _).alloc _
  have hb2 : Blk w1 (w.heap.size + 1) 57 #[.string sB, .bool false, .string sX] := by
    have := Blk.new (w.alloc (.cells #[.string sA, .bool false, .string sX] 57)) 57 #[.string sB, .bool false, .string sX]
    rw [hw1]
    simpa using this
  have hr := ren_one w1 (hm.grows hg1) w.heap.size (w.heap.size + 1) 1 1 sA sB sX sX false false hb1 hb2 (by decide) (by decide) (by decide) (by decide) (by decide) true (by simp [eqT])
  have HW1 := Lib.hid (show (w.alloc (.cells #[.string { data := #[97] }, .bool false, .string { data := #[120, 10] }] 57)).alloc (.cells #[.string { data := #[98] }, .bool false, .string { data := #[120, 10] }] 57) = w1 from hw1.symm)
  clear hw1 hb1 hb2
  go_enter Tryd.func30, Tryd.ntmps30
  go_wp2_with fail
  rw [HW1.out]
  refine hr.mono ?_
  rintro e w2 ⟨A, c, rfl, hrd, hg2⟩
  clear hr
  have hg3 : Grows w2 (w2.alloc (.cells #[.string sA, .string sB] 61)) := (Grows.refl _).alloc _
  have hb3 := (Blk.new w2 61 #[.string sA, .string sB]).reads2
  have hpl := plainR_any _ _ A (some ⟨w2.heap.size, 0, none⟩) 1 1 c 1 [(sA, sB)] [(sA, sB)] (w2.alloc (.cells #[.string sA, .string sB] 61)) (hrd.grows (Nat.le_refl _) hg3) hb3 hg3.size (Nat.le_refl _) (by omega)
  rw [eqR_self] at hpl
  go_wp2_with fail
  refine hpl.mono ?_
  rintro e w3 ⟨rfl, hg4⟩
  clear hpl
  have hgA := hg1.trans (hg2.trans (hg3.trans hg4))
  have hrt := ratio_any sN sN w3 (hm.grows hgA) (by decide) (by decide)
  rw [ratio_sN] at hrt
  go_wp2_with fail
  refine hrt.mono ?_
  rintro e w5 ⟨rfl, hg5⟩
  go_wp2_with fail
  go_ret
  exact ⟨rfl, hgA.trans hg5⟩
end Go.Proofs.YtakgddochbcjbaaDoor
