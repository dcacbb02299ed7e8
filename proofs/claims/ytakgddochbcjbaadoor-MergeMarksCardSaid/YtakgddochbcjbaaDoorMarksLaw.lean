/- MergeMarks, in plain words: marks in their order are read, others are not. -/
import Derived.Test.YtakgddochbcjbaaDoorParseSpec
namespace Go.Proofs.YtakgddochbcjbaaDoor

def lnX : ByteArray := { data := #[120, 10] }
def lnK (k : Nat) : ByteArray := if k = 4 then lnX else if k = 0 then mkO else if k = 1 then mkB else if k = 2 then mkT else mkE
theorem mark_X : markF lnX = none := by decide
theorem mark_K {k : Nat} (h : k < 4) : markF (lnK k) = some ((k + 1 : Nat) % 4 : Nat) := by
  rcases (by omega : k = 0 ∨ k = 1 ∨ k = 2 ∨ k = 3) with rfl | rfl | rfl | rfl <;> decide
/-- how far the law's own look is: is all right, and which mark is next -/
def runM : List Nat → Bool × Nat → Bool × Nat
  | [], st => st
  | k :: ks, st => runM ks (if k = 4 then st else (st.1 && decide (k = st.2), (k + 1) % 4))
theorem runM_false : ∀ (ks : List Nat) (a : Nat), (runM ks (false, a)).1 = false
  | [], _ => rfl
  | k :: ks, a => by
    rw [runM]
    split
    · exact runM_false ks a
    · rw [Bool.false_and]; exact runM_false ks _
theorem parseC_run : ∀ (ks : List Nat) (i : Nat) (l : List ChkB), (∀ k ∈ ks, k ≤ 4) → i < 4 →
    match parseC (ks.map lnK) (i : Nat) l with
    | some (j, _) => (runM ks (true, i)).1 = true ∧ j = ((runM ks (true, i)).2 : Nat)
    | none => (runM ks (true, i)).1 = false
  | [], i, l, _, _ => ⟨rfl, rfl⟩
  | k :: ks, i, l, hk, hi => by
    have hk4 := hk k (by simp)
    have hks : ∀ k ∈ ks, k ≤ 4 := fun x hx => hk x (by simp [hx])
    rw [List.map_cons, runM]
    by_cases h4 : k = 4
    · subst h4
      rw [if_pos rfl, show lnK 4 = lnX from rfl, parseC_none mark_X]
      exact parseC_run ks i _ hks hi
    · rw [if_neg h4]
      have hm := mark_K (k := k) (by omega)
      by_cases hki : k = i
      · subst hki
        rw [parseC_mark hm (by omega)]
        have h := parseC_run ks ((k + 1) % 4) (if (((k + 1 : Nat) % 4 : Nat) : Int) = 1 then l ++ [(5, [], [], [])] else l) hks (by omega)
        simpa using h
      · rw [parseC_bad hm (by omega)]
        have e : (true && decide (k = i)) = false := by simp [hki]
        rw [e]
        exact runM_false ks _
/-- does the law's own look say yes? -/
def saysM (ks : List Nat) : Bool := (runM ks (true, 0)).1 && decide ((runM ks (true, 0)).2 = 0)
theorem parse_says {ks : List Nat} (hk : ∀ k ∈ ks, k ≤ 4) {s : ByteArray} (hs : linesT s = ks.map lnK) : (parseT s).isSome = saysM ks := by
  have h := parseC_run ks 0 [] hk (by decide)
  unfold parseT saysM
  rw [hs]
  match hp : parseC (ks.map lnK) 0 [] with
  | none =>
    rw [show ((0 : Nat) : Int) = 0 from rfl, hp] at h
    rw [h]; rfl
  | some (j, l) =>
    rw [show ((0 : Nat) : Int) = 0 from rfl, hp] at h
    obtain ⟨h1, h2⟩ := h
    rw [h1, Bool.true_and]
    by_cases h0 : (runM ks (true, 0)).2 = 0
    · have : j = 0 := by rw [h2, h0]; rfl
      simp [this, h0]
    · have : j ≠ 0 := by omega
      simp [this, h0]
/-- the text of such lines -/
theorem lnK_good (k : Nat) : ∀ m, okLine m (lnK k).data.toList = true := by
  intro m
  unfold lnK
  split
  · cases m <;> decide
  · split
    · cases m <;> decide
    · split
      · cases m <;> decide
      · split
        · cases m <;> decide
        · cases m <;> decide
theorem lines_lnK : ∀ ks : List Nat, linesT (joinT (ks.map lnK)) = ks.map lnK := by
  intro ks
  refine lines_join _ ?_
  rw [goodT]
  induction ks with
  | nil => rfl
  | cons k ks ih => exact good_cons (lnK_good k) ih
end Go.Proofs.YtakgddochbcjbaaDoor
