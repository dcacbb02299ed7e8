/- A row of chunks of the call's own, whose last one grows in its place. -/
import Derived.Test.YtakgddochbcjbaaDoorPkParseSpec
import Derived.Laws.OwnMore
namespace Go.Proofs.YtakgddochbcjbaaDoor
open Go.RowKit Go.Deep Go.MapKept

def OwnN (w : World) (N : Nat) (v : Value) (ys : List ByteArray) : Prop := w.ownsRow N 9 1 v ys.length (strs ys)
theorem OwnN.ownS {w : World} {N : Nat} {v : Value} {ys : List ByteArray} (h : OwnN w N v ys) : OwnS w v ys := own_mono h (Nat.zero_le _)
theorem OwnN.nil (w : World) (N : Nat) : OwnN w N (.slice none 0 0) [] := World.ownsRow_nil _ _ _ _
def apart (u v : Value) : Prop := u.ownBlock = none ∨ u.ownBlock ≠ v.ownBlock
theorem apart.symm {u v : Value} (h : apart u v) : apart v u := by
  cases hv : v.ownBlock with
  | none => exact .inl hv
  | some k =>
    refine .inr ?_
    rw [hv]
    intro e
    rcases h with h | h
    · rw [h] at e; cases e
    · exact h (e.symm.trans hv.symm)
/-- the values of a list of chunks stay where nothing of theirs is touched -/
theorem Parts.kept {w w' : World} {row : Option Nat} (hg : w.grownBy w' row) : ∀ {l : List ChkB} {xs : List Value}, Parts w l xs → (∀ u ∈ xs, u.ownBlock = none ∨ u.ownBlock ≠ row) → Parts w' l xs
  | [], _, h, _ => h
  | _ :: _, _, ⟨v1, v2, v3, r, e, h1, h2, h3, h4⟩, hne => by
    subst e
    exact ⟨v1, v2, v3, r, rfl, World.ownsRow.kept h1 hg (hne v1 (by simp)), World.ownsRow.kept h2 hg (hne v2 (by simp)), World.ownsRow.kept h3 hg (hne v3 (by simp)), Parts.kept hg h4 (fun u hu => hne u (by simp [hu]))⟩
theorem Parts.old {w : World} : ∀ {l : List ChkB} {xs : List Value}, Parts w l xs → ∀ u ∈ xs, ∀ k, u.ownBlock = some k → k < w.heap.size
  | [], _, h, u, hu, _, _ => by
    have h : _ = [] := h
    rw [h] at hu; cases hu
  | _ :: _, _, ⟨v1, v2, v3, r, e, h1, h2, h3, h4⟩, u, hu, k, hk => by
    subst e
    simp only [List.mem_cons] at hu
    rcases hu with rfl | rfl | rfl | rfl | hu
    · simp [Value.ownBlock] at hk
    · exact (World.ownsRow.lt h1 k hk).2
    · exact (World.ownsRow.lt h2 k hk).2
    · exact (World.ownsRow.lt h3 k hk).2
    · exact Parts.old h4 u hu k hk
theorem Parts.size {w : World} : ∀ {l : List ChkB} {xs : List Value}, Parts w l xs → xs.length = l.length * 4
  | [], _, h => by
    have h : _ = [] := h
    rw [h]; rfl
  | _ :: _, _, ⟨v1, v2, v3, r, e, h1, h2, h3, h4⟩ => by
    subst e
    have := Parts.size h4
    simp only [List.length_cons, this]
    omega
theorem apart_new {w : World} {N : Nat} {u v v' : Value} {ys : List ByteArray} (hu : OwnN w N u ys) (h : apart u v) (hor : v'.ownBlock = v.ownBlock ∨ v'.ownBlock = some w.heap.size) : apart u v' := by
  rcases h with h | h
  · exact .inl h
  · rcases hor with e | e
    · exact .inr (by rw [e]; exact h)
    · refine .inr fun he => ?_
      rw [e] at he
      have := (World.ownsRow.lt hu _ he).2
      omega
structure Last (w : World) (B N : Nat) (v : Value) (init : List ChkB) (c : ChkB) (g cap : Nat) (xs : List Value) (vb vo vt : Value) : Prop where
  form : v = .slice (some ⟨g, 0, none⟩) (init.length + 1) cap
  own : w.ownsRow B 36 4 v (init.length + 1) (xs ++ [.int .i64 c.1, vb, vo, vt])
  parts : Parts w init xs
  old : ∀ u ∈ xs, ∀ k, u.ownBlock = some k → k < N
  le : B ≤ N
  size : N ≤ w.heap.size
  rb : OwnN w N vb c.2.1
  ro : OwnN w N vo c.2.2.1
  rt : OwnN w N vt c.2.2.2
  bo : apart vb vo
  bt : apart vb vt
  ot : apart vo vt
section
variable {w w' : World} {B N : Nat} {v : Value} {init : List ChkB} {c : ChkB} {g cap : Nat} {xs : List Value} {vb vo vt : Value}
theorem Last.grows (h : Last w B N v init c g cap xs vb vo vt) (hg : Grows w w') : Last w' B N v init c g cap xs vb vo vt :=
  ⟨h.form, own_grows h.own hg, Parts.mono (fun _ _ ho => OwnS.grows ho hg) h.parts, h.old, h.le, Nat.le_trans h.size hg.size, own_grows h.rb hg, own_grows h.ro hg, own_grows h.rt hg, h.bo, h.bt, h.ot⟩
/-- all of it -/
theorem Last.all (h : Last w B N v init c g cap xs vb vo vt) : w.ownsRow B 36 4 v (init ++ [c]).length (xs ++ [.int .i64 c.1, vb, vo, vt]) ∧ Parts w (init ++ [c]) (xs ++ [.int .i64 c.1, vb, vo, vt]) :=
  ⟨by rw [List.length_append]; exact h.own, Parts.app h.parts (Parts.one h.rb.ownS h.ro.ownS h.rt.ownS)⟩
/-- a chunk more -/
theorem Last.snoc {l : List ChkB} {kd : Int} {v' : Value} {row : Option Nat} (hown : w.ownsRow B 36 4 v l.length xs) (hp : Parts w l xs) (hB : B ≤ w'.heap.size) (hg : w.grownBy w' row) (hrow : row = v.ownBlock)
    (hown' : w'.ownsRow B 36 4 v' (l.length + 1) (xs ++ [.int .i64 kd, .slice none 0 0, .slice none 0 0, .slice none 0 0])) :
    ∃ g cap, Last w' B w'.heap.size v' l (kd, [], [], []) g cap xs (.slice none 0 0) (.slice none 0 0) (.slice none 0 0) := by
  subst hrow
  obtain ⟨g, cap, e, _⟩ := World.ownsRow.form hown' (Nat.succ_pos _)
  have hp' : Parts w' l xs := Parts.mono (fun _ _ ho => OwnS.beside ho hown (by decide) hg) hp
  exact ⟨g, cap, e, hown', hp', fun u hu k hk => Parts.old hp' u hu k hk, hB, Nat.le_refl _, OwnN.nil _ _, OwnN.nil _ _, OwnN.nil _ _, .inl rfl, .inl rfl, .inl rfl⟩
/-- a line more in base -/
theorem Last.put1 (h : Last w B N v init c g cap xs vb vo vt) {w1 w2 : World} {s : ByteArray} {v' : Value} (hg1 : Grows w w1)
    (hown : w2.ownsRow N 9 1 v' (c.2.1.length + 1) (strs c.2.1 ++ [.string s])) (hgb : w1.grownBy w2 vb.ownBlock) (hor : v'.ownBlock = vb.ownBlock ∨ v'.ownBlock = some w1.heap.size) :
    Last (w2.setCell ⟨g, init.length * 4 + 1, none⟩ v') B N v init (c.1, c.2.1 ++ [s], c.2.2.1, c.2.2.2) g cap xs v' vo vt ∧ Below B w1 (w2.setCell ⟨g, init.length * 4 + 1, none⟩ v') := by
  have h1 := h.grows hg1
  have hN := Nat.le_trans h.le h1.size
  have own2 := World.ownsRow.kept h1.own hgb (own_own_ne h1.own h1.rb (by decide))
  have parts2 : Parts w2 init xs := Parts.kept hgb h1.parts (fun u hu => by
    cases hb : u.ownBlock with
    | none => exact .inl rfl
    | some k =>
      refine .inr fun e => ?_
      have h3 := World.ownsRow.lt h1.rb k e.symm
      have h4 := h.old u hu k hb
      omega)
  have ro2 := World.ownsRow.kept h1.ro hgb (h.bo.symm)
  have rt2 := World.ownsRow.kept h1.rt hgb (h.bt.symm)
  have hst := own2
  rw [h.form] at hst
  obtain ⟨own3, hgs⟩ := World.ownsRow.stored hst (init.length * 4 + 1) v'
  have hset : (xs ++ [.int .i64 c.1, vb, vo, vt]).set (init.length * 4 + 1) v' = xs ++ [.int .i64 c.1, v', vo, vt] := by
    rw [List.set_append_right _ _ (by rw [Parts.size h.parts]; omega), Parts.size h.parts, Nat.add_sub_cancel_left]; rfl
  rw [hset] at own3
  have hv : v.ownBlock = some g := by rw [h.form]; rfl
  rw [← hv] at hgs
  have ro3 := World.ownsRow.kept ro2 hgs (own_own_ne ro2 own2 (by decide))
  have rt3 := World.ownsRow.kept rt2 hgs (own_own_ne rt2 own2 (by decide))
  have new3 := World.ownsRow.kept hown hgs (own_own_ne hown own2 (by decide))
  have parts3 : Parts _ init xs := Parts.mono (fun _ _ ho => OwnS.beside ho own2 (by decide) hgs) parts2
  have hb1 : Below B w1 w2 := (Below.refl B w1).grown hgb hN (fun k hk => by have := World.ownsRow.lt h1.rb k hk; have := h.le; omega)
  have hb2 := hb1.grown hgs (Nat.le_trans hN hgb.size) (fun k hk => (World.ownsRow.lt own2 k hk).1)
  refine ⟨⟨h.form, by rw [h.form]; exact own3, parts3, h.old, h.le, Nat.le_trans h1.size (Nat.le_trans hgb.size hgs.size), by show World.ownsRow _ N _ 1 v' _ (strs _); rw [strs_append, List.length_append]; exact new3, ro3, rt3, (apart_new h1.ro h.bo.symm hor).symm, (apart_new h1.rt h.bt.symm hor).symm, h.ot⟩, hb2⟩
/-- a line more in ours -/
theorem Last.put2 (h : Last w B N v init c g cap xs vb vo vt) {w1 w2 : World} {s : ByteArray} {v' : Value} (hg1 : Grows w w1)
    (hown : w2.ownsRow N 9 1 v' (c.2.2.1.length + 1) (strs c.2.2.1 ++ [.string s])) (hgb : w1.grownBy w2 vo.ownBlock) (hor : v'.ownBlock = vo.ownBlock ∨ v'.ownBlock = some w1.heap.size) :
    Last (w2.setCell ⟨g, init.length * 4 + 2, none⟩ v') B N v init (c.1, c.2.1, c.2.2.1 ++ [s], c.2.2.2) g cap xs vb v' vt ∧ Below B w1 (w2.setCell ⟨g, init.length * 4 + 2, none⟩ v') := by
  have h1 := h.grows hg1
  have hN := Nat.le_trans h.le h1.size
  have own2 := World.ownsRow.kept h1.own hgb (own_own_ne h1.own h1.ro (by decide))
  have parts2 : Parts w2 init xs := Parts.kept hgb h1.parts (fun u hu => by
    cases hb : u.ownBlock with
    | none => exact .inl rfl
    | some k =>
      refine .inr fun e => ?_
      have h3 := World.ownsRow.lt h1.ro k e.symm
      have h4 := h.old u hu k hb
      omega)
  have rb2 := World.ownsRow.kept h1.rb hgb (h.bo)
  have rt2 := World.ownsRow.kept h1.rt hgb (h.ot.symm)
  have hst := own2
  rw [h.form] at hst
  obtain ⟨own3, hgs⟩ := World.ownsRow.stored hst (init.length * 4 + 2) v'
  have hset : (xs ++ [.int .i64 c.1, vb, vo, vt]).set (init.length * 4 + 2) v' = xs ++ [.int .i64 c.1, vb, v', vt] := by
    rw [List.set_append_right _ _ (by rw [Parts.size h.parts]; omega), Parts.size h.parts, Nat.add_sub_cancel_left]; rfl
  rw [hset] at own3
  have hv : v.ownBlock = some g := by rw [h.form]; rfl
  rw [← hv] at hgs
  have rb3 := World.ownsRow.kept rb2 hgs (own_own_ne rb2 own2 (by decide))
  have rt3 := World.ownsRow.kept rt2 hgs (own_own_ne rt2 own2 (by decide))
  have new3 := World.ownsRow.kept hown hgs (own_own_ne hown own2 (by decide))
  have parts3 : Parts _ init xs := Parts.mono (fun _ _ ho => OwnS.beside ho own2 (by decide) hgs) parts2
  have hb1 : Below B w1 w2 := (Below.refl B w1).grown hgb hN (fun k hk => by have := World.ownsRow.lt h1.ro k hk; have := h.le; omega)
  have hb2 := hb1.grown hgs (Nat.le_trans hN hgb.size) (fun k hk => (World.ownsRow.lt own2 k hk).1)
  refine ⟨⟨h.form, by rw [h.form]; exact own3, parts3, h.old, h.le, Nat.le_trans h1.size (Nat.le_trans hgb.size hgs.size), rb3, by show World.ownsRow _ N _ 1 v' _ (strs _); rw [strs_append, List.length_append]; exact new3, rt3, apart_new h1.rb (h.bo) hor, h.bt, (apart_new h1.rt h.ot.symm hor).symm⟩, hb2⟩
/-- a line more in theirs -/
theorem Last.put3 (h : Last w B N v init c g cap xs vb vo vt) {w1 w2 : World} {s : ByteArray} {v' : Value} (hg1 : Grows w w1)
    (hown : w2.ownsRow N 9 1 v' (c.2.2.2.length + 1) (strs c.2.2.2 ++ [.string s])) (hgb : w1.grownBy w2 vt.ownBlock) (hor : v'.ownBlock = vt.ownBlock ∨ v'.ownBlock = some w1.heap.size) :
    Last (w2.setCell ⟨g, init.length * 4 + 3, none⟩ v') B N v init (c.1, c.2.1, c.2.2.1, c.2.2.2 ++ [s]) g cap xs vb vo v' ∧ Below B w1 (w2.setCell ⟨g, init.length * 4 + 3, none⟩ v') := by
  have h1 := h.grows hg1
  have hN := Nat.le_trans h.le h1.size
  have own2 := World.ownsRow.kept h1.own hgb (own_own_ne h1.own h1.rt (by decide))
  have parts2 : Parts w2 init xs := Parts.kept hgb h1.parts (fun u hu => by
    cases hb : u.ownBlock with
    | none => exact .inl rfl
    | some k =>
      refine .inr fun e => ?_
      have h3 := World.ownsRow.lt h1.rt k e.symm
      have h4 := h.old u hu k hb
      omega)
  have rb2 := World.ownsRow.kept h1.rb hgb (h.bt)
  have ro2 := World.ownsRow.kept h1.ro hgb (h.ot)
  have hst := own2
  rw [h.form] at hst
  obtain ⟨own3, hgs⟩ := World.ownsRow.stored hst (init.length * 4 + 3) v'
  have hset : (xs ++ [.int .i64 c.1, vb, vo, vt]).set (init.length * 4 + 3) v' = xs ++ [.int .i64 c.1, vb, vo, v'] := by
    rw [List.set_append_right _ _ (by rw [Parts.size h.parts]; omega), Parts.size h.parts, Nat.add_sub_cancel_left]; rfl
  rw [hset] at own3
  have hv : v.ownBlock = some g := by rw [h.form]; rfl
  rw [← hv] at hgs
  have rb3 := World.ownsRow.kept rb2 hgs (own_own_ne rb2 own2 (by decide))
  have ro3 := World.ownsRow.kept ro2 hgs (own_own_ne ro2 own2 (by decide))
  have new3 := World.ownsRow.kept hown hgs (own_own_ne hown own2 (by decide))
  have parts3 : Parts _ init xs := Parts.mono (fun _ _ ho => OwnS.beside ho own2 (by decide) hgs) parts2
  have hb1 : Below B w1 w2 := (Below.refl B w1).grown hgb hN (fun k hk => by have := World.ownsRow.lt h1.rt k hk; have := h.le; omega)
  have hb2 := hb1.grown hgs (Nat.le_trans hN hgb.size) (fun k hk => (World.ownsRow.lt own2 k hk).1)
  refine ⟨⟨h.form, by rw [h.form]; exact own3, parts3, h.old, h.le, Nat.le_trans h1.size (Nat.le_trans hgb.size hgs.size), rb3, ro3, by show World.ownsRow _ N _ 1 v' _ (strs _); rw [strs_append, List.length_append]; exact new3, h.bo, apart_new h1.rb (h.bt) hor, apart_new h1.ro (h.ot) hor⟩, hb2⟩
theorem Last.mid1 (h : Last w B N v init c g cap xs vb vo vt) {w1 w2 : World} (hg1 : Grows w w1) (hgb : w1.grownBy w2 vb.ownBlock) : w2.frozen? ⟨g, init.length * 4 + 1, none⟩ = false ∧ w2.cell? ⟨g, init.length * 4 + 1, none⟩ = some vb := by
  have h1 := h.grows hg1
  have own2 := World.ownsRow.kept h1.own hgb (own_own_ne h1.own h1.rb (by decide))
  rw [h.form] at own2
  refine ⟨World.ownsRow.frozenAt own2 _, ?_⟩
  rw [World.ownsRow.cellAt own2 _ (by omega), List.getElem?_append_right (by rw [Parts.size h.parts]; omega), Parts.size h.parts, Nat.add_sub_cancel_left]
  rfl
theorem Last.cell1 (h : Last w B N v init c g cap xs vb vo vt) : w.cell? ⟨g, init.length * 4 + 1, none⟩ = some vb := by
  have own2 := h.own
  rw [h.form] at own2
  rw [World.ownsRow.cellAt own2 _ (by omega), List.getElem?_append_right (by rw [Parts.size h.parts]; omega), Parts.size h.parts, Nat.add_sub_cancel_left]
  rfl
theorem Last.mid2 (h : Last w B N v init c g cap xs vb vo vt) {w1 w2 : World} (hg1 : Grows w w1) (hgb : w1.grownBy w2 vo.ownBlock) : w2.frozen? ⟨g, init.length * 4 + 2, none⟩ = false ∧ w2.cell? ⟨g, init.length * 4 + 2, none⟩ = some vo := by
  have h1 := h.grows hg1
  have own2 := World.ownsRow.kept h1.own hgb (own_own_ne h1.own h1.ro (by decide))
  rw [h.form] at own2
  refine ⟨World.ownsRow.frozenAt own2 _, ?_⟩
  rw [World.ownsRow.cellAt own2 _ (by omega), List.getElem?_append_right (by rw [Parts.size h.parts]; omega), Parts.size h.parts, Nat.add_sub_cancel_left]
  rfl
theorem Last.cell2 (h : Last w B N v init c g cap xs vb vo vt) : w.cell? ⟨g, init.length * 4 + 2, none⟩ = some vo := by
  have own2 := h.own
  rw [h.form] at own2
  rw [World.ownsRow.cellAt own2 _ (by omega), List.getElem?_append_right (by rw [Parts.size h.parts]; omega), Parts.size h.parts, Nat.add_sub_cancel_left]
  rfl
theorem Last.mid3 (h : Last w B N v init c g cap xs vb vo vt) {w1 w2 : World} (hg1 : Grows w w1) (hgb : w1.grownBy w2 vt.ownBlock) : w2.frozen? ⟨g, init.length * 4 + 3, none⟩ = false ∧ w2.cell? ⟨g, init.length * 4 + 3, none⟩ = some vt := by
  have h1 := h.grows hg1
  have own2 := World.ownsRow.kept h1.own hgb (own_own_ne h1.own h1.rt (by decide))
  rw [h.form] at own2
  refine ⟨World.ownsRow.frozenAt own2 _, ?_⟩
  rw [World.ownsRow.cellAt own2 _ (by omega), List.getElem?_append_right (by rw [Parts.size h.parts]; omega), Parts.size h.parts, Nat.add_sub_cancel_left]
  rfl
theorem Last.cell3 (h : Last w B N v init c g cap xs vb vo vt) : w.cell? ⟨g, init.length * 4 + 3, none⟩ = some vt := by
  have own2 := h.own
  rw [h.form] at own2
  rw [World.ownsRow.cellAt own2 _ (by omega), List.getElem?_append_right (by rw [Parts.size h.parts]; omega), Parts.size h.parts, Nat.add_sub_cancel_left]
  rfl
theorem Last.cell0 (h : Last w B N v init c g cap xs vb vo vt) : w.cell? ⟨g, init.length * 4, none⟩ = some (.int .i64 c.1) := by
  have own2 := h.own
  rw [h.form] at own2
  rw [World.ownsRow.cellAt own2 _ (by omega), List.getElem?_append_right (by rw [Parts.size h.parts]; omega), Parts.size h.parts, Nat.sub_self]
  rfl
end
end Go.Proofs.YtakgddochbcjbaaDoor
