/- The plain meaning of what lives, is seen, and is a head. No program in sight. -/
import Derived.Test.YtdhdlkbldngmoaaGraphLaws
import Derived.Test.YtdhdlkbldngmoaaHelp
namespace Go.Proofs.Ytdhdlkbldngmoaa

/-- who lives: nobody took its place -/
def livep (olds : List Int) (j : Nat) : Bool := !inL olds j
/-- is somebody of the first n, of whom p says yes, in q's company -/
def anyTo (q : Nat → Bool) (n : Nat) : Bool := (List.range n).any q
theorem anyTo_iff {q : Nat → Bool} {n : Nat} : anyTo q n = true ↔ ∃ i, i < n ∧ q i = true := by simp [anyTo]
theorem anyTo_false {q : Nat → Bool} {n : Nat} : anyTo q n = false ↔ ∀ i, i < n → q i = false := by
  rw [← Bool.not_eq_true, anyTo_iff]
  constructor
  · intro h i hi
    cases hq : q i with
    | false => rfl
    | true => exact absurd ⟨i, hi, hq⟩ h
  · rintro h ⟨i, hi, hq⟩
    rw [h i hi] at hq; cases hq
theorem anyTo_succ {q : Nat → Bool} {n : Nat} : anyTo q (n + 1) = (anyTo q n || q n) := by simp [anyTo, List.range_succ]

def liveL (xs olds : List Int) : List Int := if right xs then selTo (livep olds) xs.length else []
theorem liveL_right {xs olds : List Int} (h : right xs = true) : liveL xs olds = selTo (livep olds) xs.length := by simp [liveL, h]
theorem liveL_none {xs olds : List Int} (h : right xs = false) : liveL xs olds = [] := by simp [liveL, h]

/-- what is shown at first: who lives, or is kept -/
def shown (olds keep : List Int) (j : Nat) : Bool := livep olds j || inL keep j
def seenp (xs olds keep : List Int) (j : Nat) : Bool := anyTo (fun i => shown olds keep i && above xs j i) xs.length
def seenL (xs olds keep : List Int) : List Int := if right xs then selTo (seenp xs olds keep) xs.length else []
theorem seenL_right {xs olds keep : List Int} (h : right xs = true) : seenL xs olds keep = selTo (seenp xs olds keep) xs.length := by simp [seenL, h]
theorem seenL_none {xs olds keep : List Int} (h : right xs = false) : seenL xs olds keep = [] := by simp [seenL, h]

/-- has it one that lives under it -/
def underp (xs olds : List Int) (j : Nat) : Bool := anyTo (fun i => livep olds i && (!(i == j) && above xs j i)) xs.length
def headp (xs olds : List Int) (j : Nat) : Bool := livep olds j && !underp xs olds j
def headL (xs olds : List Int) : List Int := if right xs then selTo (headp xs olds) xs.length else []
theorem headL_right {xs olds : List Int} (h : right xs = true) : headL xs olds = selTo (headp xs olds) xs.length := by simp [headL, h]
theorem headL_none {xs olds : List Int} (h : right xs = false) : headL xs olds = [] := by simp [headL, h]

theorem isB_nat {xs : List Int} (hr : right xs = true) {i : Nat} (hi : i < xs.length) : isB xs i = true := isB_iff.2 ⟨by omega, by omega, hr⟩
/-- what stands above i stands above its parent, or is i -/
theorem above_parent {xs : List Int} (hr : right xs = true) {i : Nat} (hi : i < xs.length) {j : Int} (h : above xs j i = true) : j = i ∨ (0 ≤ gi xs i ∧ above xs j (gi xs i) = true) := by
  obtain ⟨hb, hm⟩ := above_iff.1 h
  have hp := right_at hr hi
  rw [up_step hr (by omega) (by omega), Int.toNat_natCast] at hm
  rcases List.mem_cons.1 hm with rfl | hm
  · exact .inl rfl
  · right
    have h0 : 0 ≤ gi xs i := by
      rcases Int.lt_or_le (gi xs i) 0 with h | h
      · rw [up_neg h] at hm; cases hm
      · exact h
    exact ⟨h0, above_iff.2 ⟨isB_iff.2 ⟨h0, by omega, hr⟩, hm⟩⟩
theorem above_up_parent {xs : List Int} (hr : right xs = true) {i : Nat} (hi : i < xs.length) {j : Int} (h : above xs j (gi xs i) = true) : above xs j i = true := by
  have hp := right_at hr hi
  obtain ⟨_, hm⟩ := above_iff.1 h
  refine above_iff.2 ⟨isB_nat hr hi, ?_⟩
  rw [up_step hr (by omega) (by omega), Int.toNat_natCast]
  exact List.mem_cons_of_mem _ hm
/-- a set that holds some, and with each one its parent, holds all that stand above these -/
theorem closed_above {xs : List Int} (hr : right xs = true) {p : Nat → Bool} (hc : ∀ i, i < xs.length → p i = true → 0 ≤ gi xs i → p (gi xs i).toNat = true) {j : Int} :
    ∀ (i : Nat), i < xs.length → p i = true → above xs j i = true → p j.toNat = true := by
  intro i
  induction i using Nat.strongRecOn with
  | _ i ih =>
    intro hi hp ha
    rcases above_parent hr hi ha with e | ⟨h0, h1⟩
    · rw [e, Int.toNat_natCast]; exact hp
    · have hb := right_at hr hi
      have e : gi xs i = ((gi xs i).toNat : Int) := by omega
      rw [e] at h1
      exact ih (gi xs i).toNat (by omega) (by omega) (hc i hi hp h0) h1

/-- the set that Seen fills, from above down: what has been settled from k on -/
structure SeenAt (xs olds keep : List Int) (k : Nat) (p : Nat → Bool) : Prop where
  has : ∀ j, j < xs.length → shown olds keep j = true → p j = true
  only : ∀ j, j < xs.length → p j = true → seenp xs olds keep j = true
  closed : ∀ i, k ≤ i → i < xs.length → p i = true → 0 ≤ gi xs i → p (gi xs i).toNat = true
theorem SeenAt.done {xs olds keep : List Int} (hr : right xs = true) {p : Nat → Bool} (h : SeenAt xs olds keep 0 p) {j : Nat} (hj : j < xs.length) : p j = seenp xs olds keep j := by
  rw [Bool.eq_iff_iff]
  refine ⟨h.only j hj, fun hs => ?_⟩
  obtain ⟨i, hi, hq⟩ := anyTo_iff.1 hs
  rw [Bool.and_eq_true] at hq
  have := closed_above hr (fun i hi => h.closed i (Nat.zero_le _) hi) i hi (h.has i hi hq.1) hq.2
  simpa using this
theorem seenp_up {xs olds keep : List Int} (hr : right xs = true) {i : Nat} (hi : i < xs.length) (h0 : 0 ≤ gi xs i) (h : seenp xs olds keep i = true) : seenp xs olds keep (gi xs i).toNat = true := by
  obtain ⟨a, ha, hq⟩ := anyTo_iff.1 h
  rw [Bool.and_eq_true] at hq
  have hb := right_at hr hi
  have e : gi xs i = ((gi xs i).toNat : Int) := by omega
  refine anyTo_iff.2 ⟨a, ha, ?_⟩
  rw [Bool.and_eq_true]
  refine ⟨hq.1, above_trans (x := (i : Int)) ?_ hq.2⟩
  rw [← e]
  exact above_up_parent hr hi (above_self (isB_iff.2 ⟨h0, by omega, hr⟩))
theorem SeenAt.put {xs olds keep : List Int} (hr : right xs = true) {p : Nat → Bool} {k q : Nat} (h : SeenAt xs olds keep (k + 1) p) (hk : k < xs.length) (hp : p k = true) (hq : gi xs k = q) : SeenAt xs olds keep k (fun j => p j || j == q) := by
  have hb := right_at hr hk
  refine ⟨fun j hj hs => by simp [h.has j hj hs], fun j hj hs => ?_, fun i hki hi hs h0 => ?_⟩
  · rw [Bool.or_eq_true] at hs
    rcases hs with hs | hs
    · exact h.only j hj hs
    · rw [eq_of_beq hs]
      have := seenp_up hr hk (by omega) (h.only k hk hp)
      rw [hq] at this
      simpa using this
  · rw [Bool.or_eq_true] at hs ⊢
    by_cases e : i = k
    · subst e; right; rw [hq]; simp
    · rcases hs with hs | hs
      · exact .inl (h.closed i (by omega) hi hs h0)
      · have := eq_of_beq hs; omega
theorem SeenAt.skip {xs olds keep : List Int} {p : Nat → Bool} {k : Nat} (h : SeenAt xs olds keep (k + 1) p) (hno : p k = false ∨ gi xs k < 0) : SeenAt xs olds keep k p := by
  refine ⟨h.has, h.only, fun i hki hi hs h0 => ?_⟩
  by_cases e : i = k
  · subst e
    rcases hno with hno | hno
    · rw [hs] at hno; cases hno
    · omega
  · exact h.closed i (by omega) hi hs h0
theorem SeenAt.start {xs olds keep : List Int} (hr : right xs = true) {p : Nat → Bool} (hp : ∀ j, j < xs.length → p j = shown olds keep j) : SeenAt xs olds keep xs.length p :=
  ⟨fun j hj hs => (hp j hj).trans hs, fun j hj hs => anyTo_iff.2 ⟨j, hj, by rw [Bool.and_eq_true]; exact ⟨(hp j hj).symm.trans hs, above_self (isB_nat hr hj)⟩⟩, fun i h1 h2 => by omega⟩

/-- the set that Heads fills: who has one that lives under it -/
structure HeadAt (xs olds : List Int) (k : Nat) (p : Nat → Bool) : Prop where
  only : ∀ j, j < xs.length → p j = true → underp xs olds j = true
  closed : ∀ i, k ≤ i → i < xs.length → (livep olds i || p i) = true → 0 ≤ gi xs i → p (gi xs i).toNat = true
theorem HeadAt.start {xs olds : List Int} {p : Nat → Bool} (hp : ∀ j, j < xs.length → p j = false) : HeadAt xs olds xs.length p :=
  ⟨fun j hj hs => (by rw [hp j hj] at hs; cases hs), fun i h1 h2 => by omega⟩
theorem underp_up {xs olds : List Int} (hr : right xs = true) {i : Nat} (hi : i < xs.length) (h0 : 0 ≤ gi xs i) (h : (livep olds i || underp xs olds i) = true) : underp xs olds (gi xs i).toNat = true := by
  have hb := right_at hr hi
  have e : gi xs i = ((gi xs i).toNat : Int) := by omega
  have hpi : above xs (gi xs i) i = true := above_up_parent hr hi (above_self (isB_iff.2 ⟨h0, by omega, hr⟩))
  rw [Bool.or_eq_true] at h
  rcases h with h | h
  · refine anyTo_iff.2 ⟨i, hi, ?_⟩
    rw [← e, hpi, h]
    simp; omega
  · obtain ⟨a, ha, hq⟩ := anyTo_iff.1 h
    rw [Bool.and_eq_true, Bool.and_eq_true] at hq
    have hle := (above_isB hq.2.2).2.2
    refine anyTo_iff.2 ⟨a, ha, ?_⟩
    rw [Bool.and_eq_true, Bool.and_eq_true]
    refine ⟨hq.1, by simp; omega, ?_⟩
    rw [← e]
    exact above_trans hpi hq.2.2
theorem HeadAt.put {xs olds : List Int} (hr : right xs = true) {p : Nat → Bool} {k q : Nat} (h : HeadAt xs olds (k + 1) p) (hk : k < xs.length) (hp : (livep olds k || p k) = true) (hq : gi xs k = q) : HeadAt xs olds k (fun j => p j || j == q) := by
  have hb := right_at hr hk
  refine ⟨fun j hj hs => ?_, fun i hki hi hs h0 => ?_⟩
  · rw [Bool.or_eq_true] at hs
    rcases hs with hs | hs
    · exact h.only j hj hs
    · rw [eq_of_beq hs]
      have := underp_up hr hk (by omega) (by
        rw [Bool.or_eq_true] at hp ⊢
        exact hp.imp id (h.only k hk))
      rw [hq] at this
      simpa using this
  · rw [Bool.or_eq_true]
    by_cases e : i = k
    · subst e; right; rw [hq]; simp
    · rw [Bool.or_eq_true, Bool.or_eq_true] at hs
      rcases hs with hs | hs | hs
      · exact .inl (h.closed i (by omega) hi (by simp [hs]) h0)
      · exact .inl (h.closed i (by omega) hi (by simp [hs]) h0)
      · have := eq_of_beq hs; omega
theorem HeadAt.skip {xs olds : List Int} {p : Nat → Bool} {k : Nat} (h : HeadAt xs olds (k + 1) p) (hno : (livep olds k || p k) = false ∨ gi xs k < 0) : HeadAt xs olds k p := by
  refine ⟨h.only, fun i hki hi hs h0 => ?_⟩
  by_cases e : i = k
  · subst e
    rcases hno with hno | hno
    · rw [hs] at hno; cases hno
    · omega
  · exact h.closed i (by omega) hi hs h0
theorem HeadAt.done {xs olds : List Int} (hr : right xs = true) {p : Nat → Bool} (h : HeadAt xs olds 0 p) {j : Nat} (hj : j < xs.length) : p j = underp xs olds j := by
  rw [Bool.eq_iff_iff]
  refine ⟨h.only j hj, fun hs => ?_⟩
  obtain ⟨i, hi, hq⟩ := anyTo_iff.1 hs
  rw [Bool.and_eq_true, Bool.and_eq_true] at hq
  obtain ⟨h1, h2, h3⟩ := hq
  have hne : i ≠ j := by simpa using h2
  rcases above_parent hr hi h3 with e | ⟨h0, h4⟩
  · omega
  · have hb := right_at hr hi
    have e : gi xs i = ((gi xs i).toNat : Int) := by omega
    rw [e] at h4
    have := closed_above hr (p := p) (fun a ha hp h0 => h.closed a (Nat.zero_le _) ha (by simp [hp]) h0) (gi xs i).toNat (by omega) (h.closed i (Nat.zero_le _) hi (by simp [h1]) h0) h4
    simpa using this

/-- the document's way to put a number in its place -/
def addAt (xs : List Int) (v : Int) : Nat → Nat
  | 0 => 0
  | k + 1 => if v < gi xs k then addAt xs v k else k + 1
def addL (xs : List Int) (v : Int) : List Int := if inL xs v then xs else xs.take (addAt xs v xs.length) ++ [v] ++ xs.drop (addAt xs v xs.length)
theorem addAt_le (xs : List Int) (v : Int) : ∀ k, addAt xs v k ≤ k := by
  intro k
  induction k with
  | zero => exact Nat.le_refl _
  | succ k ih => unfold addAt; split <;> omega

end Go.Proofs.Ytdhdlkbldngmoaa
