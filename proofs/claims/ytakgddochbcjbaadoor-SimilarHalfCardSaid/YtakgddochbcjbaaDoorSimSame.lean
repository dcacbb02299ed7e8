/- similar's same: pairs of the same text. -/
import Derived.Test.YtakgddochbcjbaaDoorSimTake
namespace Go.Proofs.YtakgddochbcjbaaDoor
open Go.RowKit Go.Deep Go.MapKept Go.Shelf

set_option maxRecDepth 100000 in
set_option maxHeartbeats 2000000 in
theorem same1_gives (w0 W : World) (ps bs bi n n' c c' : Nat) (A A' : Option Addr) (l m : List FileB) (x y z u : Value) (i j : Nat) (hs : W.cell? ⟨bs, 0, none⟩ = some (.pointer (some ⟨ps, 0, none⟩))) (hi : W.cell? ⟨bi, 0, none⟩ = some (.int .i64 i))
    (hb : Blk W ps 100 #[.slice A n c, .slice A' n' c', x, y, z, u]) (hl : Reads W w0.heap.size 3 A n (fileCells l)) (hm : Reads W w0.heap.size 3 A' n' (fileCells m)) (hin : i < n) (hjn : j < n') :
    FnGives Tryd.prog 99 #[.pointer (some ⟨bs, 0, none⟩), .pointer (some ⟨bi, 0, none⟩)] #[.int .i64 j] (.bool (eqT (ft m j) (ft l i))) W := by
  show Calls Tryd.prog 99 #[.int .i64 j, .pointer (some ⟨bs, 0, none⟩), .pointer (some ⟨bi, 0, none⟩)] W _
  obtain ⟨a1, rfl, ha1, p0, p1, p2⟩ := hl.file hin
  obtain ⟨a2, rfl, ha2, q0, q1, q2⟩ := hm.file hjn
  clear hl hm
  have c0 := hb.cell 0
  have c1 := hb.cell 1
  simp only [List.getElem?_toArray, List.getElem?_cons_succ, List.getElem?_cons_zero] at c0 c1
  have k1 : (i : Int) < n := by omega
  have k2 : (j : Int) < n' := by omega
  have k3 : (0 : Int) ≤ i := by omega
  have k4 : (0 : Int) ≤ j := by omega
  have he := eqT_list (ft m j) (ft l i)
  go_enter Tryd.func99, Tryd.ntmps99
  go_wp2_with fail
  go_quiet (fail)
  go_wp2_with fail
  go_ret
  exact ⟨rfl, nq, rfl⟩

/-- are two files' texts the same? -/
def wants (l m : List FileB) (i j : Int) : Bool := eqT (ft m j.toNat) (ft l i.toNat)
/-- where the first one stands that has the text -/
def idxT (l m : List FileB) (i : Int) (T : List Int) : Int := Lib.idxBy (fun _ j => wants l m i j) T 0
theorem idx_from (p : Int → Bool) : ∀ (T : List Int) (k : Nat), (Lib.idxByFrom (fun _ j => p j) (0 : Int) T k = -1 ∧ ∀ j ∈ T, p j = false) ∨
    ∃ r : Nat, Lib.idxByFrom (fun _ j => p j) (0 : Int) T k = ((k + r : Nat) : Int) ∧ r < T.length ∧ p (gi T r) = true ∧ ∀ j, j < r → p (gi T j) = false
  | [], k => .inl ⟨rfl, fun j h => by cases h⟩
  | x :: T, k => by
    rw [Lib.idxByFrom]
    cases hx : p x with
    | true => exact .inr ⟨0, by simp, by simp, by simpa [gi] using hx, fun j h => absurd h (Nat.not_lt_zero _)⟩
    | false =>
      rcases idx_from p T (k + 1) with ⟨e, h⟩ | ⟨r, e, hr, hp, hno⟩
      · refine .inl ⟨by simpa using e, fun j hj => ?_⟩
        rcases List.mem_cons.1 hj with rfl | hj
        · exact hx
        · exact h j hj
      · refine .inr ⟨r + 1, by simp only [Bool.false_eq_true, if_false]; rw [e]; congr 1; omega, by simpa using hr, by simpa [gi] using hp, fun j hj => ?_⟩
        cases j with
        | zero => simpa [gi] using hx
        | succ j => have := hno j (by omega); simpa [gi] using this
theorem idxT_cases (l m : List FileB) (i : Int) (T : List Int) : (idxT l m i T = -1 ∧ ∀ j ∈ T, wants l m i j = false) ∨ ∃ r : Nat, idxT l m i T = (r : Int) ∧ r < T.length ∧ wants l m i (gi T r) = true ∧ ∀ j, j < r → wants l m i (gi T j) = false := by
  have h := idx_from (wants l m i) T 0
  simp only [Nat.zero_add] at h
  exact h
theorem idx_map {κ : Type} (p : Int → Bool) (g : κ → Int) (d : κ) : ∀ (zs : List κ) (k : Nat), Lib.idxByFrom (fun _ y => p (g y)) d zs k = Lib.idxByFrom (fun _ j => p j) (0 : Int) (zs.map g) k
  | [], _ => rfl
  | z :: zs, k => by rw [List.map_cons, Lib.idxByFrom, Lib.idxByFrom, idx_map p g d zs (k + 1)]
/-- numbers below a bound, as such -/
def finL (n : Nat) (T : List Int) (h : ∀ j ∈ T, 0 ≤ j ∧ j < n) : List (Fin n) := T.attach.map fun j => ⟨j.1.toNat, by have := h j.1 j.2; omega⟩
theorem finL_map (n : Nat) (T : List Int) (h : ∀ j ∈ T, 0 ≤ j ∧ j < n) : (finL n T h).map (fun j : Fin n => ((j.1 : Nat) : Int)) = T := by
  rw [finL, List.map_map]
  have : ((fun j : Fin n => ((j.1 : Nat) : Int)) ∘ fun j : {x // x ∈ T} => (⟨j.1.toNat, by have := h j.1 j.2; omega⟩ : Fin n)) = fun j : {x // x ∈ T} => j.1 := by
    funext j
    have := h j.1 j.2
    show ((j.1.toNat : Nat) : Int) = j.1
    omega
  rw [this]
  simp
theorem gi_mem {T : List Int} {k : Nat} (h : k < T.length) : gi T k ∈ T := by
  rw [gi, List.getD_eq_getElem?_getD, List.getElem?_eq_getElem h]
  exact List.getElem_mem h

set_option maxRecDepth 100000 in
set_option maxHeartbeats 2000000 in
theorem indexT_any (w0 w : World) (ps bs bi n n' c c' : Nat) (A A' : Option Addr) (l m : List FileB) (x y z u vt : Value) (i : Nat) (T : List Int) (hw0 : w0.heap.size ≤ w.heap.size) (hs : w.cell? ⟨bs, 0, none⟩ = some (.pointer (some ⟨ps, 0, none⟩))) (hi : w.cell? ⟨bi, 0, none⟩ = some (.int .i64 i)) (hbs : bs < w.heap.size) (hbi : bi < w.heap.size)
    (hb : Blk w ps 100 #[.slice A n c, .slice A' n' c', x, y, z, u]) (hl : Reads w w0.heap.size 3 A n (fileCells l)) (hm : Reads w w0.heap.size 3 A' n' (fileCells m)) (hin : i < n) (hT : ∀ j ∈ T, 0 ≤ j ∧ j < n') (ho : w.ownsRow w0.heap.size 3 1 vt T.length (ints T)) (hTl : T.length ≤ 1000000) :
    Calls Tryd.prog 98 #[vt, .func (.func 99) #[] #[.pointer (some ⟨bs, 0, none⟩), .pointer (some ⟨bi, 0, none⟩)]] w fun e w' => e = .returned (.int .i64 (idxT l m i T)) ∧ ∃ q, w' = w.drewN q := by
  have eg : ∀ args w, (callFunc 99 args).run Tryd.prog w = .ok (.enter 99 args) w := enters_of Tryd.func99 (by kernel_rfl) rfl
  rcases Nat.eq_zero_or_pos T.length with h0 | h0
  · obtain ⟨A1, c1, rfl, _, _⟩ := own_form ho
    obtain rfl := List.length_eq_zero_iff.1 h0
    have := Tryd.slices_IndexFunc_empty_f98 (α := Int) A1 c1 (.func (.func 99) #[] #[.pointer (some ⟨bs, 0, none⟩), .pointer (some ⟨bi, 0, none⟩)]) w
    refine this.mono ?_
    rintro e w' ⟨rfl, rfl⟩
    exact ⟨rfl, 0, rfl⟩
  · obtain ⟨g, c1, rfl, _, _⟩ := ho.form h0
    have hin' : 0 < n' := by have := hT _ (gi_mem h0); omega
    haveI : Inhabited (Fin n') := ⟨⟨0, hin'⟩⟩
    have hmap := finL_map n' T hT
    generalize finL n' T hT = zs at hmap
    have hzl : zs.length = T.length := by rw [← hmap]; simp
    have hp : PredAt Tryd.prog 99 #[.pointer (some ⟨bs, 0, none⟩), .pointer (some ⟨bi, 0, none⟩)] (fun j : Fin n' => Value.int .i64 ((j.1 : Nat) : Int)) (fun j : Fin n' => wants l m i ((j.1 : Nat) : Int)) w := fun W j hW => by
      have := same1_gives w0 W ps bs bi n n' c c' A A' l m x y z u i j.1 ((hW.cell (p := ⟨bs, 0, none⟩) hbs).trans hs) ((hW.cell (p := ⟨bi, 0, none⟩) hbi).trans hi) (Blk.growsF hb hW) (hl.grows hw0 hW) (hm.grows hw0 hW) hin j.2
      exact this
    have hcell : ∀ j, j < zs.length → w.cell? ⟨g, 0 + j, none⟩ = some (Value.int .i64 (((zs[j]!).1 : Nat) : Int)) := fun j hj => by
      have hcs := ho.cells (g := g) rfl j (.int .i64 (gi T j)) (by rw [hzl] at hj; simp [ints, gi, hj])
      have e2 : Addr.add ⟨g, 0, none⟩ j = ⟨g, j, none⟩ := by unfold Addr.add; split <;> simp_all
      rw [Nat.zero_add, ← e2, hcs]
      congr 2
      rw [← hmap, gi, List.getD_eq_getElem?_getD, List.getElem?_map, List.getElem?_eq_getElem hj, getElem!_pos zs j hj]
      rfl
    have := Tryd.slices_IndexFunc_f98 (fun j : Fin n' => Value.int .i64 ((j.1 : Nat) : Int)) (fun j : Fin n' => wants l m i ((j.1 : Nat) : Int)) 99 #[.pointer (some ⟨bs, 0, none⟩), .pointer (some ⟨bi, 0, none⟩)] eg g 0 T.length c1 zs w hp (by omega) (by omega) hcell
    refine this.mono ?_
    rintro e w' ⟨rfl, q, rfl⟩
    refine ⟨?_, q, rfl⟩
    rw [List.take_of_length_le (by omega)]
    have e := idx_map (wants l m i) (fun j : Fin n' => ((j.1 : Nat) : Int)) default zs 0
    rw [hmap] at e
    exact congrArg (fun r => Ending.returned (Value.int .i64 r)) e
end Go.Proofs.YtakgddochbcjbaaDoor
