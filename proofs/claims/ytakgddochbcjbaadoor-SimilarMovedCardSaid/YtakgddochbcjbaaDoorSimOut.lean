/- What similar's pairs are, in plain words. -/
import Derived.Test.YtakgddochbcjbaaDoorSimSort
namespace Go.Proofs.YtakgddochbcjbaaDoor
open Go.RowKit Go.Deep Go.MapKept Go.Shelf

theorem mem_loneTo {l m : List FileB} {x : Int} : ∀ {k : Nat}, x ∈ loneTo l m k ↔ ∃ j : Nat, j < k ∧ x = j ∧ isLone l m j = true
  | 0 => by simp [loneTo]
  | k + 1 => by
    cases h : isLone l m k with
    | true =>
      rw [loneTo_yes h, List.mem_append, mem_loneTo, List.mem_singleton]
      constructor
      · rintro (⟨j, hj, e, hl⟩ | e)
        · exact ⟨j, by omega, e, hl⟩
        · exact ⟨k, by omega, e, h⟩
      · rintro ⟨j, hj, e, hl⟩
        rcases Nat.lt_succ_iff_lt_or_eq.1 hj with h1 | rfl
        · exact .inl ⟨j, h1, e, hl⟩
        · exact .inr e
    | false =>
      rw [loneTo_no h, mem_loneTo]
      constructor
      · rintro ⟨j, hj, e, hl⟩
        exact ⟨j, by omega, e, hl⟩
      · rintro ⟨j, hj, e, hl⟩
        rcases Nat.lt_succ_iff_lt_or_eq.1 hj with h1 | rfl
        · exact ⟨j, h1, e, hl⟩
        · rw [h] at hl; cases hl
theorem gi_snoc {T : List Int} {x : Int} {k : Nat} : gi (T ++ [x]) k = if k < T.length then gi T k else if k = T.length then x else 0 := by
  unfold gi
  rw [List.getD_eq_getElem?_getD, List.getD_eq_getElem?_getD]
  by_cases h : k < T.length
  · rw [if_pos h, List.getElem?_append_left h]
  · rw [if_neg h, List.getElem?_append_right (by omega)]
    by_cases e : k = T.length
    · rw [if_pos e, e]; simp
    · rw [if_neg e, List.getElem?_eq_none (by simp; omega)]; rfl
theorem loneTo_asc (l m : List FileB) : ∀ k, Asc (loneTo l m k)
  | 0 => fun i j _ h => absurd h (Nat.not_lt_zero _)
  | k + 1 => by
    have ih := loneTo_asc l m k
    cases h : isLone l m k with
    | false => rw [loneTo_no h]; exact ih
    | true =>
      rw [loneTo_yes h]
      intro i j hij hj
      rw [List.length_append, List.length_singleton] at hj
      rw [gi_snoc, gi_snoc]
      by_cases hj2 : j < (loneTo l m k).length
      · rw [if_pos hj2, if_pos (by omega)]
        exact ih i j hij hj2
      · rw [if_pos (by omega : i < _), if_neg hj2, if_pos (by omega)]
        obtain ⟨x, hx, e, _⟩ := mem_loneTo.1 (gi_mem (show i < (loneTo l m k).length by omega))
        omega
theorem lone_range {l m : List FileB} {x : Int} (h : x ∈ loneL l m) : 0 ≤ x ∧ x < l.length ∧ isLone l m x.toNat = true := by
  obtain ⟨j, hj, rfl, hl⟩ := mem_loneTo.1 h
  exact ⟨by omega, by omega, by simpa using hl⟩

/-- what stands of a search: what is left, and what was taken -/
structure OInv (l m : List FileB) (F T : List Int) (s : SSt) : Prop where
  subF : ∀ x ∈ s.F, x ∈ F
  subT : ∀ x ∈ s.T, x ∈ T
  inO : ∀ p ∈ s.O, p.1 ∈ F ∧ p.2 ∈ T ∧ (wants l m p.1 p.2 = true ∨ 50 ≤ ratioF l m p.1 p.2)
  offF : ∀ p ∈ s.O, p.1 ∉ s.F
  offT : ∀ p ∈ s.O, p.2 ∉ s.T
  dF : s.O.Pairwise fun p q => p.1 ≠ q.1
  dT : s.O.Pairwise fun p q => p.2 ≠ q.2
  sum : s.F.length + s.O.length ≤ F.length
  lenT : s.T.length ≤ T.length
theorem OInv.start (l m : List FileB) (F T : List Int) : OInv l m F T ⟨F, T, []⟩ :=
  ⟨fun _ h => h, fun _ h => h, fun p h => (by cases h), fun p h => (by cases h), fun p h => (by cases h), List.Pairwise.nil, List.Pairwise.nil, Nat.le_refl _, Nat.le_refl _⟩
theorem OInv.take {l m : List FileB} {F T : List Int} {s : SSt} (h : OInv l m F T s) {i k : Int} (hi : i ∈ s.F) (hk : k ∈ s.T) (hw : wants l m i k = true ∨ 50 ≤ ratioF l m i k) : OInv l m F T (s.take i k) := by
  refine ⟨fun x hx => h.subF x (mem_delL.1 hx).1, fun x hx => h.subT x (mem_delL.1 hx).1, fun p hp => ?_, fun p hp hx => ?_, fun p hp hx => ?_, ?_, ?_, ?_, Nat.le_trans (delL_len _ _) h.lenT⟩
  · rcases List.mem_append.1 hp with hp | hp
    · exact h.inO p hp
    · rw [List.mem_singleton.1 hp]
      exact ⟨h.subF i hi, h.subT k hk, hw⟩
  · obtain ⟨h1, h2⟩ := mem_delL.1 hx
    rcases List.mem_append.1 hp with hp | hp
    · exact h.offF p hp h1
    · rw [List.mem_singleton.1 hp] at h2
      exact h2 rfl
  · obtain ⟨h1, h2⟩ := mem_delL.1 hx
    rcases List.mem_append.1 hp with hp | hp
    · exact h.offT p hp h1
    · rw [List.mem_singleton.1 hp] at h2
      exact h2 rfl
  · exact List.pairwise_append.2 ⟨h.dF, List.pairwise_singleton _ _, fun p hp r hr e => by
      rw [List.mem_singleton.1 hr] at e
      exact h.offF p hp (by rw [e]; exact hi)⟩
  · exact List.pairwise_append.2 ⟨h.dT, List.pairwise_singleton _ _, fun p hp r hr e => by
      rw [List.mem_singleton.1 hr] at e
      exact h.offT p hp (by rw [e]; exact hk)⟩
  · have := delL_lt hi
    have := h.sum
    show (delL i s.F).length + (s.O ++ [(i, k)]).length ≤ F.length
    rw [List.length_append, List.length_singleton]
    omega
theorem sameTo_oinv {l m : List FileB} {F T : List Int} (hA : Asc F) : ∀ k, k ≤ F.length → OInv l m F T (sameTo l m F T k)
  | 0, _ => OInv.start l m F T
  | k + 1, hk => by
    have h := sameTo_oinv (l := l) (m := m) (T := T) hA k (by omega)
    have hi := (sameTo_inv (l := l) (m := m) (T := T) hA k (by omega)).inF k (Nat.le_refl _) (by omega)
    rw [sameTo, sameStep]
    rcases idxT_cases l m (gi F k) (sameTo l m F T k).T with ⟨hr, _⟩ | ⟨r, hr, hrl, hrw, _⟩
    · rw [hr, if_pos (by decide)]
      exact h
    · rw [hr, if_neg (by omega)]
      exact h.take hi (gi_mem hrl) (.inl hrw)
theorem alikeN_oinv {l m : List FileB} {F T : List Int} {f : Int × Int → Option Int} : ∀ (n : Nat) (s : SSt), (∀ x ∈ s.F, ∀ y ∈ s.T, f (x, y) = some (ratioF l m x y)) → OInv l m F T s → OInv l m F T (alikeN f n s)
  | 0, _, _, h => h
  | n + 1, s, hf, h => by
    rw [alikeN]
    split
    · rename_i h50
      obtain ⟨h1, h2, h3⟩ := best_in h50
      refine alikeN_oinv n _ (fun x hx y hy => hf x (mem_delL.1 hx).1 y (mem_delL.1 hy).1) (h.take h1 h2 (.inr ?_))
      have e := hf _ h1 _ h2
      have e' : f (bestOf f s.F s.T).1 = some (ratioF l m (bestOf f s.F s.T).1.1 (bestOf f s.F s.T).1.2) := e
      rw [e'] at h3
      rw [show ratioF l m (bestOf f s.F s.T).1.1 (bestOf f s.F s.T).1.2 = (bestOf f s.F s.T).2 from h3]
      exact h50
    · exact h
/-- what same leaves -/
def sameOf (l m : List FileB) : SSt := sameTo l m (loneL l m) (loneL m l) (loneL l m).length
/-- the map of how much alike -/
def fillOf (l m : List FileB) : Int × Int → Option Int := fillTo (ratioF l m) (sameOf l m).F (sameOf l m).T (fun _ => none) (sameOf l m).F.length
/-- the pairs, as they are taken -/
def outOf (l m : List FileB) : SSt := alikeE (fillOf l m) (sameOf l m)
theorem loneL_asc (l m : List FileB) : Asc (loneL l m) := loneTo_asc l m _
theorem sameOf_oinv (l m : List FileB) : OInv l m (loneL l m) (loneL m l) (sameOf l m) := sameTo_oinv (loneL_asc l m) _ (Nat.le_refl _)
theorem outOf_oinv (l m : List FileB) : OInv l m (loneL l m) (loneL m l) (outOf l m) :=
  alikeN_oinv _ _ (fun _ hx _ hy => fill_get hx hy) (sameOf_oinv l m)
theorem loneL_len (l m : List FileB) : (loneL l m).length ≤ l.length := loneTo_len l m _

/-- renames, as their cells -/
def renCells (l m : List FileB) (O : List (Int × Int)) : List Value := O.flatMap fun p => [.string (fp l p.1.toNat), .string (fp m p.2.toNat)]
theorem renCells_append (l m : List FileB) (O P : List (Int × Int)) : renCells l m (O ++ P) = renCells l m O ++ renCells l m P := by simp [renCells]
theorem renCells_one (l m : List FileB) (p : Int × Int) : renCells l m [p] = [.string (fp l p.1.toNat), .string (fp m p.2.toNat)] := rfl
theorem Tryd.infoRen : (Tryd.prog.info? 61).map (fun i => (i.zero, i.size, i.bytes)) = some (some (.agg #[.string { data := #[] }, .string { data := #[] }]), 2, 32) := by kernel_rfl
end Go.Proofs.YtakgddochbcjbaaDoor
