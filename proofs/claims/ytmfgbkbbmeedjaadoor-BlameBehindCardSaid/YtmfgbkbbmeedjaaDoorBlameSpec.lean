/- Where lines come from, in plain words. -/
import Derived.Test.YtmfgbkbbmeedjaaDoorLcs
import Derived.Test.YtmfgbkbbmeedjaaDoorBase
namespace Go.Proofs.YtmfgbkbbmeedjaaDoor

/-- where the lines of a version come from, by those of the one ahead of it -/
def nextL (p : Int) : List Int → List (Int × ByteArray) → List Int
  | _, [] => []
  | fs, e :: es => if e.1 = 1 then fs.headD 0 :: nextL p fs.tail es else if e.1 = 2 then nextL p fs.tail es else p :: nextL p fs es
def kinds (es : List (Int × ByteArray)) : Prop := ∀ e ∈ es, e.1 = 1 ∨ e.1 = 2 ∨ e.1 = 3
theorem kinds_cons {e : Int × ByteArray} {es : List (Int × ByteArray)} (h : kinds (e :: es)) : (e.1 = 1 ∨ e.1 = 2 ∨ e.1 = 3) ∧ kinds es := ⟨h e (by simp), fun x hx => h x (by simp [hx])⟩
theorem kinds_map (k : Int) (h : k = 1 ∨ k = 2 ∨ k = 3) (l : List ByteArray) : kinds (l.map fun s => (k, s)) := by
  intro e he
  obtain ⟨s, _, rfl⟩ := List.mem_map.1 he
  exact h
theorem kinds_app {l m : List (Int × ByteArray)} (hl : kinds l) (hm : kinds m) : kinds (l ++ m) := by
  intro e he
  rcases List.mem_append.1 he with h | h
  · exact hl e h
  · exact hm e h
theorem kinds_scr (a b : List ByteArray) : kinds (scr a b) := by
  refine scr_ind (M := fun a b => kinds (scr a b)) ?_ ?_ ?_ ?_ ?_ _ a b (Nat.le_refl _)
  · intro b; rw [scr_nil]; exact kinds_map 3 (.inr (.inr rfl)) b
  · intro a; rw [scr_nil']; exact kinds_map 2 (.inr (.inl rfl)) a
  · intro x a b ih; rw [scr_eq]; exact kinds_app (kinds_map 1 (.inl rfl) [x]) ih
  · intro x y a b h hl ih; rw [scr_del h hl]; exact kinds_app (kinds_map 2 (.inr (.inl rfl)) [x]) ih
  · intro x y a b h hl ih; rw [scr_ins h hl]; exact kinds_app (kinds_map 3 (.inr (.inr rfl)) [y]) ih
theorem kinds_script (most : Nat) (a b : List ByteArray) : kinds (script most a b) := by
  unfold script
  refine kinds_app (kinds_map 1 (.inl rfl) _) ?_
  split
  · exact kinds_app (kinds_map 2 (.inr (.inl rfl)) _) (kinds_map 3 (.inr (.inr rfl)) _)
  · exact kinds_scr _ _

theorem side2_1 {e : Int × ByteArray} (h : e.1 = 1) (es : List (Int × ByteArray)) : side 2 (e :: es) = e.2 :: side 2 es := side_cons_yes (by simp [h]) _
theorem side2_2 {e : Int × ByteArray} (h : e.1 = 2) (es : List (Int × ByteArray)) : side 2 (e :: es) = e.2 :: side 2 es := side_cons_yes (by simp [h]) _
theorem side2_3 {e : Int × ByteArray} (h : e.1 = 3) (es : List (Int × ByteArray)) : side 2 (e :: es) = side 2 es := side_cons_no (by simp [h]) _
theorem side3_1 {e : Int × ByteArray} (h : e.1 = 1) (es : List (Int × ByteArray)) : side 3 (e :: es) = e.2 :: side 3 es := side_cons_yes (by simp [h]) _
theorem side3_2 {e : Int × ByteArray} (h : e.1 = 2) (es : List (Int × ByteArray)) : side 3 (e :: es) = side 3 es := side_cons_no (by simp [h]) _
theorem side3_3 {e : Int × ByteArray} (h : e.1 = 3) (es : List (Int × ByteArray)) : side 3 (e :: es) = e.2 :: side 3 es := side_cons_yes (by simp [h]) _

theorem nextL_len (p : Int) : ∀ (es : List (Int × ByteArray)) (fs : List Int), kinds es → (nextL p fs es).length = (side 3 es).length
  | [], _, _ => rfl
  | e :: es, fs, h => by
    obtain ⟨h1, h2⟩ := kinds_cons h
    rcases h1 with h1 | h1 | h1
    · rw [nextL, if_pos h1, side3_1 h1, List.length_cons, List.length_cons, nextL_len p es _ h2]
    · rw [nextL, if_neg (by rw [h1]; decide), if_pos h1, side3_2 h1, nextL_len p es _ h2]
    · rw [nextL, if_neg (by rw [h1]; decide), if_neg (by rw [h1]; decide), side3_3 h1, List.length_cons, List.length_cons, nextL_len p es _ h2]
theorem nextL_ins (p : Int) (fs : List Int) : ∀ l : List ByteArray, nextL p fs (l.map fun s => ((3 : Int), s)) = List.replicate l.length p
  | [] => rfl
  | x :: l => by
    rw [List.map_cons, nextL, if_neg (by show ¬ (3 : Int) = 1; decide), if_neg (by show ¬ (3 : Int) = 2; decide), nextL_ins p fs l]; rfl
/-- what both begin with keeps what it had -/
theorem nextL_keep (p : Int) (es : List (Int × ByteArray)) : ∀ (l : List ByteArray) (fs : List Int), fs.length = l.length → nextL p fs ((l.map fun s => ((1 : Int), s)) ++ es) = fs ++ nextL p [] es
  | [], fs, h => by
    have : fs = [] := List.eq_nil_of_length_eq_zero h
    subst this; rfl
  | x :: l, fs, h => by
    obtain ⟨f, fs', rfl⟩ : ∃ f fs', fs = f :: fs' := by cases fs with
      | nil => cases h
      | cons f fs' => exact ⟨f, fs', rfl⟩
    rw [List.map_cons, List.cons_append, nextL, if_pos rfl, List.tail_cons, nextL_keep p es l fs' (by simpa using h)]; rfl
/-- each line of the new version is new, or was there -/
theorem nextL_from (p : Int) : ∀ (es : List (Int × ByteArray)) (fs : List Int), kinds es → fs.length = (side 2 es).length → ∀ (i : Nat) x, (side 3 es)[i]? = some x →
    ∃ v, (nextL p fs es)[i]? = some v ∧ (v = p ∨ ∃ j : Nat, fs[j]? = some v ∧ (side 2 es)[j]? = some x)
  | [], _, _, _ => fun i x hx => by cases hx
  | e :: es, fs, h, hl => fun i x hx => by
    obtain ⟨h1, h2⟩ := kinds_cons h
    rcases h1 with h1 | h1 | h1
    · rw [side2_1 h1] at hl
      obtain ⟨f, fs', rfl⟩ : ∃ f fs', fs = f :: fs' := by cases fs with
        | nil => cases hl
        | cons f fs' => exact ⟨f, fs', rfl⟩
      rw [side3_1 h1] at hx
      rw [nextL, if_pos h1, side2_1 h1]
      cases i with
      | zero => cases hx; exact ⟨f, rfl, .inr ⟨0, rfl, rfl⟩⟩
      | succ i =>
        obtain ⟨v, e1, e2⟩ := nextL_from p es fs' h2 (by simpa using hl) i x (by simpa using hx)
        refine ⟨v, by simpa using e1, ?_⟩
        rcases e2 with e2 | ⟨j, e2, e3⟩
        · exact .inl e2
        · exact .inr ⟨j + 1, by simpa using e2, by simpa using e3⟩
    · rw [side2_2 h1] at hl
      obtain ⟨f, fs', rfl⟩ : ∃ f fs', fs = f :: fs' := by cases fs with
        | nil => cases hl
        | cons f fs' => exact ⟨f, fs', rfl⟩
      rw [side3_2 h1] at hx
      rw [nextL, if_neg (by rw [h1]; decide), if_pos h1, side2_2 h1]
      obtain ⟨v, e1, e2⟩ := nextL_from p es fs' h2 (by simpa using hl) i x hx
      refine ⟨v, by simpa using e1, ?_⟩
      rcases e2 with e2 | ⟨j, e2, e3⟩
      · exact .inl e2
      · exact .inr ⟨j + 1, by simpa using e2, by simpa using e3⟩
    · rw [side2_3 h1] at hl
      rw [side3_3 h1] at hx
      rw [nextL, if_neg (by rw [h1]; decide), if_neg (by rw [h1]; decide), side2_3 h1]
      cases i with
      | zero => exact ⟨p, rfl, .inl rfl⟩
      | succ i =>
        obtain ⟨v, e1, e2⟩ := nextL_from p es fs h2 hl i x (by simpa using hx)
        exact ⟨v, by simpa using e1, e2⟩

/-! versions -/
def gv (l : List (List ByteArray)) (k : Nat) : List ByteArray := l.getD k []
theorem gv_some {l : List (List ByteArray)} {k : Nat} (h : k < l.length) : l[k]? = some (gv l k) := by
  rw [gv, List.getD_eq_getElem?_getD, List.getElem?_eq_getElem h]; rfl
def blameK (l : List (List ByteArray)) : Nat → List Int
  | 0 => List.replicate (gv l 0).length 0
  | k + 1 => nextL (k + 1) (blameK l k) (script 400 (gv l k) (gv l (k + 1)))
def blameL (l : List (List ByteArray)) : List Int := if l.length = 0 then [] else blameK l (l.length - 1)
theorem blameK_len (l : List (List ByteArray)) (k : Nat) : (blameK l k).length = (gv l k).length := by
  cases k with
  | zero => rw [blameK, List.length_replicate]
  | succ k => rw [blameK, nextL_len _ _ _ (kinds_script _ _ _), script_new]
theorem blameK_from (l : List (List ByteArray)) : ∀ (k : Nat) (i : Nat) (x : ByteArray), (gv l k)[i]? = some x → ∃ q : Nat, (blameK l k)[i]? = some (q : Int) ∧ q ≤ k ∧ x ∈ gv l q
  | 0, i, x, h => by
    refine ⟨0, ?_, Nat.le_refl _, List.mem_of_getElem? h⟩
    rw [blameK, List.getElem?_replicate, if_pos (List.getElem?_eq_some_iff.1 h).1]; rfl
  | k + 1, i, x, h => by
    obtain ⟨v, e1, e2⟩ := nextL_from (k + 1) (script 400 (gv l k) (gv l (k + 1))) (blameK l k) (kinds_script _ _ _) (by rw [script_old, blameK_len]) i x (by rw [script_new]; exact h)
    rcases e2 with rfl | ⟨j, e2, e3⟩
    · exact ⟨k + 1, by rw [blameK, e1]; rfl, Nat.le_refl _, List.mem_of_getElem? h⟩
    · rw [script_old] at e3
      obtain ⟨q, e4, e5, e6⟩ := blameK_from l k j x e3
      rw [e4] at e2
      exact ⟨q, by rw [blameK, e1, ← Option.some.inj e2], by omega, e6⟩
theorem blameK_congr {l m : List (List ByteArray)} : ∀ {k : Nat}, (∀ j, j ≤ k → gv l j = gv m j) → blameK l k = blameK m k
  | 0, h => by rw [blameK, blameK, h 0 (Nat.le_refl _)]
  | k + 1, h => by rw [blameK, blameK, h k (by omega), h (k + 1) (Nat.le_refl _), blameK_congr (k := k) (fun j hj => h j (by omega))]
/-- lines behind all others -/
theorem script_more (a b : List ByteArray) : script 400 a (a ++ b) = (a.map fun s => ((1 : Int), s)) ++ (b.map fun s => ((3 : Int), s)) := by
  have e : beg a (a ++ b) = a.length := by
    have := beg_front a [] b
    rw [List.append_nil] at this
    rw [this]
    have : beg ([] : List ByteArray) b = 0 := by have := (beg_le ([] : List ByteArray) b).1; simpa using this
    rw [this, Nat.add_zero]
  unfold script
  rw [e, List.take_of_length_le (Nat.le_refl _), List.drop_of_length_le (Nat.le_refl _), List.drop_left' rfl]
  split
  · simp
  · rw [scr_nil]
theorem blame_more (p : Int) (a b : List ByteArray) (fs : List Int) (h : fs.length = a.length) : nextL p fs (script 400 a (a ++ b)) = fs ++ List.replicate b.length p := by
  rw [script_more, nextL_keep p _ a fs h, nextL_ins]
theorem blame_same (p : Int) (a : List ByteArray) (fs : List Int) (h : fs.length = a.length) : nextL p fs (script 400 a a) = fs := by
  have := blame_more p a [] fs h
  rw [List.append_nil] at this
  rw [this]; simp
theorem blame_new (p : Int) (b : List ByteArray) (fs : List Int) (h : fs = []) : nextL p fs (script 400 [] b) = List.replicate b.length p := by
  have := blame_more p [] b fs (by rw [h]; rfl)
  rw [List.nil_append] at this
  rw [this, h, List.nil_append]
end Go.Proofs.YtmfgbkbbmeedjaaDoor
