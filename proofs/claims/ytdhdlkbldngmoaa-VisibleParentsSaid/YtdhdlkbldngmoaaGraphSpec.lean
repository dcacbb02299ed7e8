/- The plain meaning of graphs of commits: who is right, chains, children, who stands above whom, the base of two. No program in sight. -/
import Derived.Test.YtdhdlkbldngmoaaBase
namespace Go.Proofs.Ytdhdlkbldngmoaa

def rightTo (xs : List Int) (k : Nat) : Bool := (List.range k).all fun i => decide (-1 ≤ gi xs i) && decide (gi xs i < i)
def right (xs : List Int) : Bool := rightTo xs xs.length
theorem rightTo_zero (xs : List Int) : rightTo xs 0 = true := rfl
theorem rightTo_succ (xs : List Int) (k : Nat) : rightTo xs (k+1) = (rightTo xs k && (decide (-1 ≤ gi xs k) && decide (gi xs k < k))) := by
  simp [rightTo, List.range_succ]
theorem rightTo_false {xs : List Int} {k n : Nat} (hk : k < n) (h : ¬ (-1 ≤ gi xs k ∧ gi xs k < k)) : rightTo xs n = false := by
  unfold rightTo
  rw [List.all_eq_false]
  refine ⟨k, by simp [hk], ?_⟩
  simpa using h
theorem right_at {xs : List Int} (h : right xs = true) {k : Nat} (hk : k < xs.length) : -1 ≤ gi xs k ∧ gi xs k < k := by
  unfold right rightTo at h
  rw [List.all_eq_true] at h
  have := h k (by simp [hk])
  simpa using this

def isB (xs : List Int) (i : Int) : Bool := decide (0 ≤ i) && (decide (i < xs.length) && right xs)
theorem isB_iff {xs : List Int} {i : Int} : isB xs i = true ↔ 0 ≤ i ∧ i < xs.length ∧ right xs = true := by simp [isB]

def chainAux (xs : List Int) : Nat → Int → List Int
  | 0, _ => []
  | f + 1, i => if i < 0 then [] else i :: chainAux xs f (gi xs i.toNat)
def chain (xs : List Int) (i : Int) : List Int := if isB xs i then chainAux xs (i + 1).toNat i else []

theorem chainAux_fuel {xs : List Int} (hr : right xs = true) : ∀ (f : Nat) (i : Int), i < xs.length → i < f → chainAux xs f i = chainAux xs (i + 1).toNat i := by
  intro f
  induction f using Nat.strongRecOn with
  | _ f ih =>
    intro i hi hf
    by_cases h0 : i < 0
    · have e : (i + 1).toNat = 0 := by omega
      rw [e]
      cases f <;> simp [chainAux, h0]
    · obtain ⟨g, rfl⟩ : ∃ g, f = g + 1 := ⟨f - 1, by omega⟩
      have e : (i + 1).toNat = i.toNat + 1 := by omega
      rw [e]
      simp only [chainAux, h0, if_false]
      have hp := right_at hr (k := i.toNat) (by omega)
      by_cases hg : g = i.toNat
      · rw [hg]
      · rw [ih g (by omega) _ (by omega) (by omega), ih i.toNat (by omega) _ (by omega) (by omega)]

/-- what stands above: from i on, i may be none -/
def up (xs : List Int) (i : Int) : List Int := chainAux xs (i + 1).toNat i
theorem up_neg {xs : List Int} {i : Int} (h : i < 0) : up xs i = [] := by
  have e : (i + 1).toNat = 0 := by omega
  simp [up, e, chainAux]
theorem up_step {xs : List Int} (hr : right xs = true) {i : Int} (h0 : 0 ≤ i) (hi : i < xs.length) : up xs i = i :: up xs (gi xs i.toNat) := by
  have hp := right_at hr (k := i.toNat) (by omega)
  unfold up
  have e : (i + 1).toNat = i.toNat + 1 := by omega
  rw [e]
  simp only [chainAux]
  rw [if_neg (by omega), chainAux_fuel hr i.toNat _ (by omega) (by omega)]
theorem chain_up {xs : List Int} {i : Int} (h : isB xs i = true) : chain xs i = up xs i := by simp [chain, h, up]
theorem chain_none {xs : List Int} {i : Int} (h : isB xs i = false) : chain xs i = [] := by simp [chain, h]

/-- induction along the parents -/
theorem up_ind {xs : List Int} (hr : right xs = true) {P : Int → Prop} (neg : ∀ i, i < 0 → P i) (step : ∀ i : Int, 0 ≤ i → i < xs.length → -1 ≤ gi xs i.toNat → gi xs i.toNat < i → P (gi xs i.toNat) → P i) :
    ∀ i : Int, i < xs.length → P i := by
  have : ∀ (n : Nat) (i : Int), i < n → i < xs.length → P i := by
    intro n
    induction n with
    | zero => intro i hi _; exact neg i (by omega)
    | succ n ih =>
      intro i hi hl
      by_cases h0 : i < 0
      · exact neg i h0
      · have hp := right_at hr (k := i.toNat) (by omega)
        exact step i (by omega) hl hp.1 (by omega) (ih _ (by omega) (by omega))
  intro i hi
  exact this (i + 1).toNat i (by omega) hi

theorem up_le {xs : List Int} (hr : right xs = true) : ∀ i : Int, i < xs.length → ∀ x ∈ up xs i, 0 ≤ x ∧ x ≤ i :=
  up_ind hr (fun i h x hx => by rw [up_neg h] at hx; cases hx) fun i h0 hi h1 h2 ih x hx => by
    rw [up_step hr h0 hi] at hx
    rcases List.mem_cons.1 hx with rfl | hx
    · omega
    · have := ih x hx; omega
theorem up_len {xs : List Int} (hr : right xs = true) : ∀ i : Int, i < xs.length → ((up xs i).length : Int) ≤ max (i + 1) 0 :=
  up_ind hr (fun i h => by rw [up_neg h]; simp; omega) fun i h0 hi h1 h2 ih => by
    rw [up_step hr h0 hi, List.length_cons]; omega

def above (xs : List Int) (a b : Int) : Bool := (chain xs b).contains a
theorem above_up {xs : List Int} {a b : Int} (h : isB xs b = true) : above xs a b = (up xs b).contains a := by rw [above, chain_up h]
theorem above_none {xs : List Int} {a b : Int} (h : isB xs b = false) : above xs a b = false := by simp [above, chain_none h]
theorem isB_of_mem {xs : List Int} {a b : Int} (h : a ∈ chain xs b) : isB xs a = true ∧ isB xs b = true ∧ a ≤ b := by
  cases hb : isB xs b with
  | false => rw [chain_none hb] at h; cases h
  | true =>
    rw [chain_up hb] at h
    obtain ⟨h0, hl, hr⟩ := isB_iff.1 hb
    have := up_le hr b hl a h
    exact ⟨isB_iff.2 ⟨by omega, by omega, hr⟩, rfl, by omega⟩
theorem above_isB {xs : List Int} {a b : Int} (h : above xs a b = true) : isB xs a = true ∧ isB xs b = true ∧ a ≤ b := by
  unfold above at h
  exact isB_of_mem (List.contains_iff_mem.1 h)
theorem above_not {xs : List Int} {a b : Int} (h : isB xs a = false) : above xs a b = false := by
  cases hb : above xs a b with
  | false => rfl
  | true => rw [(above_isB hb).1] at h; cases h
/-- the walk up: while b is behind a, its parent -/
theorem above_gt {xs : List Int} {a b : Int} (hb : isB xs b = true) (ha : 0 ≤ a) (h : a < b) : above xs a b = above xs a (gi xs b.toNat) := by
  obtain ⟨h0, hl, hr⟩ := isB_iff.1 hb
  have hp := right_at hr (k := b.toNat) (by omega)
  rw [above_up hb, up_step hr h0 hl]
  by_cases hn : gi xs b.toNat < 0
  · rw [up_neg hn, above_none (by simp [isB]; omega)]
    simp; omega
  · rw [above_up (isB_iff.2 ⟨by omega, by omega, hr⟩)]
    simp; omega
theorem above_le {xs : List Int} {a b : Int} (hb : isB xs b = true) (h : b ≤ a) : above xs a b = (a == b) := by
  obtain ⟨h0, hl, hr⟩ := isB_iff.1 hb
  cases hc : above xs a b with
  | true => have := (above_isB hc).2.2; simp; omega
  | false =>
    rw [eq_comm, beq_eq_false_iff_ne]
    rintro rfl
    rw [above_up hb, up_step hr h0 hl] at hc
    simp at hc
theorem above_neg {xs : List Int} {a b : Int} (h : b < 0) : above xs a b = false := above_none (by simp [isB]; omega)

def nats (l : List Nat) : List Int := l.map Int.ofNat
/-- the numbers below k of which p says yes -/
def selTo (p : Nat → Bool) (k : Nat) : List Int := nats ((List.range k).filter p)
theorem selTo_yes {p : Nat → Bool} {k : Nat} (h : p k = true) : selTo p (k + 1) = selTo p k ++ [(k : Int)] := by
  simp [selTo, nats, List.range_succ, List.filter_append, h]
theorem selTo_no {p : Nat → Bool} {k : Nat} (h : p k = false) : selTo p (k + 1) = selTo p k := by
  simp [selTo, nats, List.range_succ, List.filter_append, h]
theorem selTo_len (p : Nat → Bool) (k : Nat) : (selTo p k).length ≤ k := by
  have := List.length_filter_le p (List.range k)
  simpa [selTo, nats] using this
theorem selTo_congr {p q : Nat → Bool} {k : Nat} (h : ∀ j, j < k → p j = q j) : selTo p k = selTo q k := by
  unfold selTo
  rw [List.filter_congr fun j hj => h j (List.mem_range.1 hj)]
theorem selTo_none {p : Nat → Bool} {k : Nat} (h : ∀ j, j < k → p j = false) : selTo p k = [] := by
  unfold selTo nats
  rw [List.filter_eq_nil_iff.2 fun j hj => by rw [h j (List.mem_range.1 hj)]; simp]
  rfl
theorem mem_selTo {p : Nat → Bool} {k : Nat} {x : Int} : x ∈ selTo p k ↔ 0 ≤ x ∧ x < k ∧ p x.toNat = true := by
  simp only [selTo, nats, List.mem_map, List.mem_filter, List.mem_range]
  constructor
  · rintro ⟨j, ⟨h1, h2⟩, rfl⟩
    exact ⟨by simp, by simpa using h1, by simpa using h2⟩
  · rintro ⟨h0, h1, h2⟩
    exact ⟨x.toNat, ⟨by omega, h2⟩, Int.toNat_of_nonneg h0⟩
def children (xs : List Int) (i : Int) : List Int := if right xs then selTo (fun k => gi xs k == i) xs.length else []
def under (xs : List Int) (i : Int) : List Int := selTo (fun k => above xs i k) xs.length
def base (xs : List Int) (a b : Int) : Int := ((chain xs a).find? fun x => above xs x b).getD (-1)

theorem under_none {xs : List Int} {i : Int} (h : isB xs i = false) : under xs i = [] := selTo_none fun _ _ => above_not h
theorem children_none {xs : List Int} {i : Int} (h : right xs = false) : children xs i = [] := by simp [children, h]
theorem children_right {xs : List Int} {i : Int} (h : right xs = true) : children xs i = selTo (fun k => gi xs k == i) xs.length := by simp [children, h]
theorem children_out {xs : List Int} {i : Int} (h : i < -1 ∨ xs.length ≤ i) : children xs i = [] := by
  cases hr : right xs with
  | false => exact children_none hr
  | true =>
    rw [children_right hr]
    refine selTo_none fun j hj => ?_
    have := right_at hr hj
    rw [beq_eq_false_iff_ne]
    omega

theorem base_none {xs : List Int} {a b : Int} (h : isB xs a = false ∨ isB xs b = false) : base xs a b = -1 := by
  unfold base
  rcases h with h | h
  · rw [chain_none h]; rfl
  · rw [List.find?_eq_none.2 (fun x _ => by rw [above_none h]; simp)]; rfl
/-- of two, with the first one ahead or not: where they meet -/
theorem base_same {xs : List Int} {a : Int} (h : isB xs a = true) : base xs a a = a := by
  obtain ⟨h0, hl, hr⟩ := isB_iff.1 h
  unfold base
  have e : above xs a a = true := by rw [above_le h (Int.le_refl _)]; simp
  rw [chain_up h, up_step hr h0 hl, List.find?_cons_of_pos (p := fun x => above xs x a) e]
  rfl
theorem base_left {xs : List Int} {a b : Int} (ha : isB xs a = true) (hb : isB xs b = true) (h : b < a) : base xs a b = base xs (gi xs a.toNat) b := by
  obtain ⟨h0, hl, hr⟩ := isB_iff.1 ha
  have hp := right_at hr (k := a.toNat) (by omega)
  have e : ¬ above xs a b = true := by rw [above_le hb (by omega)]; simp; omega
  unfold base
  rw [chain_up ha, up_step hr h0 hl, List.find?_cons_of_neg (p := fun x => above xs x b) e]
  by_cases hn : gi xs a.toNat < 0
  · rw [up_neg hn, chain_none (by simp [isB]; omega)]
  · rw [chain_up (isB_iff.2 ⟨by omega, by omega, hr⟩)]
theorem find_congr {p q : Int → Bool} : ∀ {l : List Int}, (∀ x ∈ l, p x = q x) → l.find? p = l.find? q
  | [], _ => rfl
  | x :: l, h => by
    rw [List.find?_cons, List.find?_cons, h x (by simp), find_congr fun y hy => h y (by simp [hy])]
theorem base_right {xs : List Int} {a b : Int} (ha : isB xs a = true) (hb : isB xs b = true) (h : a < b) : base xs a b = base xs a (gi xs b.toNat) := by
  obtain ⟨h0, hl, hr⟩ := isB_iff.1 ha
  unfold base
  rw [find_congr (q := fun x => above xs x (gi xs b.toNat)) fun x hx => ?_]
  rw [chain_up ha] at hx
  have := up_le hr a hl x hx
  exact above_gt hb (by omega) (by omega)

end Go.Proofs.Ytdhdlkbldngmoaa
