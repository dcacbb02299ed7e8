/- What two lists have in common, in order; scripts. No program in sight. -/
import Derived.Test.YtakgddochbcjbaaDoorPkStrs
namespace Go.Proofs.YtakgddochbcjbaaDoor

section
variable {α : Type}
theorem sub_meet : ∀ (b p q : List α), p.Sublist b → q.Sublist b → ∃ d : List α, d.Sublist p ∧ d.Sublist q ∧ p.length + q.length ≤ b.length + d.length := by
  intro b
  induction b with
  | nil =>
    intro p q hp hq
    have h1 := hp.length_le
    have h2 := hq.length_le
    simp at h1 h2
    subst h1 h2
    exact ⟨[], List.Sublist.refl _, List.Sublist.refl _, by simp⟩
  | cons x b ih =>
    intro p q hp hq
    rcases List.sublist_cons_iff.1 hp with gp | ⟨r, hr, gp⟩
    · rcases List.sublist_cons_iff.1 hq with gq | ⟨s, hs, gq⟩
      · obtain ⟨d, h1, h2, h3⟩ := ih p q gp gq
        exact ⟨d, h1, h2, by simp only [List.length_cons]; omega⟩
      · obtain ⟨d, h1, h2, h3⟩ := ih p s gp gq
        rw [hs]
        exact ⟨d, h1, h2.cons x, by simp only [List.length_cons]; omega⟩
    · rcases List.sublist_cons_iff.1 hq with gq | ⟨s, hs, gq⟩
      · obtain ⟨d, h1, h2, h3⟩ := ih r q gp gq
        rw [hr]
        exact ⟨d, h1.cons x, h2, by simp only [List.length_cons]; omega⟩
      · obtain ⟨d, h1, h2, h3⟩ := ih r s gp gq
        rw [hr, hs]
        exact ⟨x :: d, h1.cons_cons x, h2.cons_cons x, by simp only [List.length_cons]; omega⟩
/-- how many are no Keep -/
def distN (l : List (Int × α)) : Nat := (l.filter fun e => e.1 != 1).length
theorem distN_cons (e : Int × α) (l : List (Int × α)) : distN (e :: l) = (if e.1 = 1 then 0 else 1) + distN l := by
  unfold distN
  by_cases h : e.1 = 1
  · rw [List.filter_cons_of_neg (by simp [h]), if_pos h]; omega
  · rw [List.filter_cons_of_pos (by simp [h]), if_neg h, List.length_cons]; omega
theorem distN_append (l m : List (Int × α)) : distN (l ++ m) = distN l + distN m := by simp [distN]
theorem distN_map {k : Int} (h : k ≠ 1) (l : List α) : distN (l.map fun s => (k, s)) = l.length := by
  induction l with
  | nil => rfl
  | cons x l ih => rw [List.map_cons, distN_cons, if_neg h, ih, List.length_cons]; omega
theorem distN_keep (l : List α) : distN (l.map fun s => ((1 : Int), s)) = 0 := by
  induction l with
  | nil => rfl
  | cons x l ih => rw [List.map_cons, distN_cons, if_pos rfl, ih]
/-- one side of a script -/
def side (k : Int) (l : List (Int × α)) : List α := (l.filter fun e => e.1 == 1 || e.1 == k).map (·.2)
theorem side_cons_yes {k : Int} {e : Int × α} (h : (e.1 == 1 || e.1 == k) = true) (l : List (Int × α)) : side k (e :: l) = e.2 :: side k l := by unfold side; rw [List.filter_cons_of_pos (by simpa using h)]; rfl
theorem side_cons_no {k : Int} {e : Int × α} (h : (e.1 == 1 || e.1 == k) = false) (l : List (Int × α)) : side k (e :: l) = side k l := by unfold side; rw [List.filter_cons_of_neg (by simp at h ⊢; exact h)]
theorem side_append (k : Int) (l m : List (Int × α)) : side k (l ++ m) = side k l ++ side k m := by simp [side]
theorem side_map_yes {k j : Int} (h : (j == 1 || j == k) = true) (l : List α) : side k (l.map fun s => (j, s)) = l := by
  induction l with
  | nil => rfl
  | cons x l ih => rw [List.map_cons, side_cons_yes h, ih]
theorem side_map_no {k j : Int} (h : (j == 1 || j == k) = false) (l : List α) : side k (l.map fun s => (j, s)) = [] := by
  induction l with
  | nil => rfl
  | cons x l ih => rw [List.map_cons, side_cons_no h, ih]
end

section
variable {α : Type} [DecidableEq α]

def lcs : List α → List α → Nat
  | [], _ => 0
  | _ :: _, [] => 0
  | x :: a, y :: b => if x = y then lcs a b + 1 else max (lcs a (y :: b)) (lcs (x :: a) b)
termination_by a b => a.length + b.length
theorem lcs_nil (b : List α) : lcs [] b = 0 := by rw [lcs]
theorem lcs_nil' (a : List α) : lcs a [] = 0 := by cases a <;> rw [lcs]
theorem lcs_eq (x : α) (a b : List α) : lcs (x :: a) (x :: b) = lcs a b + 1 := by rw [lcs, if_pos rfl]
theorem lcs_ne {x y : α} (h : x ≠ y) (a b : List α) : lcs (x :: a) (y :: b) = max (lcs a (y :: b)) (lcs (x :: a) b) := by rw [lcs, if_neg h]

theorem lcs_sub : ∀ (n : Nat) (a b : List α), a.length + b.length ≤ n → ∃ c : List α, c.Sublist a ∧ c.Sublist b ∧ c.length = lcs a b := by
  intro n
  induction n with
  | zero =>
    intro a b h
    have : a = [] := List.eq_nil_of_length_eq_zero (by omega)
    subst this
    exact ⟨[], List.nil_sublist _, List.nil_sublist _, by rw [lcs_nil]; rfl⟩
  | succ n ih =>
    intro a b h
    match a, b with
    | [], b => exact ⟨[], List.nil_sublist _, List.nil_sublist _, by rw [lcs_nil]; rfl⟩
    | a, [] => exact ⟨[], List.nil_sublist _, List.nil_sublist _, by rw [lcs_nil']; rfl⟩
    | x :: a, y :: b =>
      simp only [List.length_cons] at h
      by_cases e : x = y
      · subst e
        obtain ⟨c, h1, h2, h3⟩ := ih a b (by omega)
        exact ⟨x :: c, h1.cons_cons x, h2.cons_cons x, by rw [lcs_eq, List.length_cons, h3]⟩
      · rw [lcs_ne e]
        rcases Nat.le_total (lcs a (y :: b)) (lcs (x :: a) b) with hle | hle
        · obtain ⟨c, h1, h2, h3⟩ := ih (x :: a) b (by simp only [List.length_cons]; omega)
          exact ⟨c, h1, h2.cons y, by rw [h3]; omega⟩
        · obtain ⟨c, h1, h2, h3⟩ := ih a (y :: b) (by simp only [List.length_cons]; omega)
          exact ⟨c, h1.cons x, h2, by rw [h3]; omega⟩
theorem lcs_ge : ∀ (n : Nat) (a b : List α), a.length + b.length ≤ n → ∀ c : List α, c.Sublist a → c.Sublist b → c.length ≤ lcs a b := by
  intro n
  induction n with
  | zero =>
    intro a b h c h1 _
    have := h1.length_le
    omega
  | succ n ih =>
    intro a b h c h1 h2
    match a, b with
    | [], b => have := h1.length_le; simp at this; simp [this]
    | a, [] => have := h2.length_le; simp at this; simp [this]
    | x :: a, y :: b =>
      simp only [List.length_cons] at h
      by_cases e : x = y
      · subst e
        rw [lcs_eq]
        rcases List.sublist_cons_iff.1 h1 with g1 | ⟨r, hc, g1⟩
        · rcases List.sublist_cons_iff.1 h2 with g2 | ⟨r, hc, g2⟩
          · have := ih a b (by omega) c g1 g2; omega
          · rw [hc] at g1
            have := ih a b (by omega) r ((List.sublist_cons_self x r).trans g1) g2
            rw [hc, List.length_cons]; omega
        · have hr : r.Sublist b := by
            rw [hc] at h2
            rcases List.sublist_cons_iff.1 h2 with g2 | ⟨r', he, g2⟩
            · exact (List.sublist_cons_self x r).trans g2
            · injection he with _ he; rw [he]; exact g2
          have := ih a b (by omega) r g1 hr
          rw [hc, List.length_cons]; omega
      · rw [lcs_ne e]
        rcases List.sublist_cons_iff.1 h1 with h1' | ⟨r, rfl, h1'⟩
        · have := ih a (y :: b) (by simp only [List.length_cons]; omega) c h1' h2; omega
        · rcases List.sublist_cons_iff.1 h2 with h2' | ⟨r', he, h2'⟩
          · have := ih (x :: a) b (by simp only [List.length_cons]; omega) (x :: r) h1 h2'; omega
          · injection he with he _; exact absurd he e
theorem lcs_some (a b : List α) : ∃ c : List α, c.Sublist a ∧ c.Sublist b ∧ c.length = lcs a b := lcs_sub _ a b (Nat.le_refl _)
theorem lcs_all {a b c : List α} (h1 : c.Sublist a) (h2 : c.Sublist b) : c.length ≤ lcs a b := lcs_ge _ a b (Nat.le_refl _) c h1 h2
theorem lcs_le_left (a b : List α) : lcs a b ≤ a.length := by
  obtain ⟨c, h1, _, h3⟩ := lcs_some a b
  rw [← h3]; exact h1.length_le
theorem lcs_le_right (a b : List α) : lcs a b ≤ b.length := by
  obtain ⟨c, _, h2, h3⟩ := lcs_some a b
  rw [← h3]; exact h2.length_le
theorem lcs_symm (a b : List α) : lcs a b = lcs b a := by
  obtain ⟨c, h1, h2, h3⟩ := lcs_some a b
  obtain ⟨d, g1, g2, g3⟩ := lcs_some b a
  have := lcs_all h2 h1
  have := lcs_all g2 g1
  omega
theorem lcs_self (a : List α) : lcs a a = a.length := Nat.le_antisymm (lcs_le_left a a) (lcs_all (List.Sublist.refl a) (List.Sublist.refl a))
theorem lcs_front (p a b : List α) : lcs (p ++ a) (p ++ b) = p.length + lcs a b := by
  induction p with
  | nil => simp
  | cons x p ih => rw [List.cons_append, List.cons_append, lcs_eq, ih, List.length_cons]; omega
theorem lcs_back (a b s : List α) : lcs (a ++ s) (b ++ s) = lcs a b + s.length := by
  refine Nat.le_antisymm ?_ ?_
  · obtain ⟨c, h1, h2, h3⟩ := lcs_some (a ++ s) (b ++ s)
    rw [← h3]
    obtain ⟨c1, c2, rfl, p1, p2⟩ := List.sublist_append_iff.1 h1
    obtain ⟨d1, d2, he, q1, q2⟩ := List.sublist_append_iff.1 h2
    rw [List.length_append]
    have hc2 := p2.length_le
    have hd2 := q2.length_le
    have hl : c1.length + c2.length = d1.length + d2.length := by rw [← List.length_append, ← List.length_append, he]
    rcases Nat.le_total c1.length d1.length with hle | hle
    · have : c1 <+: d1 := List.prefix_of_prefix_length_le (l₃ := c1 ++ c2) (List.prefix_append _ _) (by rw [he]; exact List.prefix_append _ _) hle
      have := lcs_all p1 (this.sublist.trans q1)
      omega
    · have : d1 <+: c1 := List.prefix_of_prefix_length_le (l₃ := c1 ++ c2) (by rw [he]; exact List.prefix_append _ _) (List.prefix_append _ _) hle
      have := lcs_all (this.sublist.trans p1) q1
      omega
  · obtain ⟨c, h1, h2, h3⟩ := lcs_some a b
    rw [← h3, ← List.length_append]
    exact lcs_all (h1.append (List.Sublist.refl s)) (h2.append (List.Sublist.refl s))
theorem lcs_three (a b c : List α) : lcs a b + lcs b c ≤ b.length + lcs a c := by
  obtain ⟨p, p1, p2, p3⟩ := lcs_some a b
  obtain ⟨q, q1, q2, q3⟩ := lcs_some b c
  obtain ⟨d, d1, d2, d3⟩ := sub_meet b p q p2 q1
  have := lcs_all (d1.trans p1) (d2.trans q2)
  omega
theorem lcs_none {a b : List α} (h : ∀ x ∈ a, x ∉ b) : lcs a b = 0 := by
  obtain ⟨c, h1, h2, h3⟩ := lcs_some a b
  cases c with
  | nil => exact h3.symm
  | cons x c => exact absurd (h2.subset (List.mem_cons_self ..)) (h x (h1.subset (List.mem_cons_self ..)))
theorem lcs_full {a b : List α} (h1 : lcs a b = a.length) (h2 : a.length = b.length) : a = b := by
  obtain ⟨c, g1, g2, g3⟩ := lcs_some a b
  have e1 := g1.eq_of_length (by omega)
  have e2 := g2.eq_of_length (by omega)
  rw [← e1, e2]

/-- the script, from any two places on -/
def scr : List α → List α → List (Int × α)
  | [], b => b.map fun s => (3, s)
  | x :: a, [] => (x :: a).map fun s => (2, s)
  | x :: a, y :: b => if x = y then (1, x) :: scr a b else if lcs (x :: a) b ≤ lcs a (y :: b) then (2, x) :: scr a (y :: b) else (3, y) :: scr (x :: a) b
termination_by a b => a.length + b.length
theorem scr_nil (b : List α) : scr [] b = b.map fun s => (3, s) := by rw [scr]
theorem scr_nil' (a : List α) : scr a [] = a.map fun s => (2, s) := by cases a <;> rw [scr]; rfl
theorem scr_eq (x : α) (a b : List α) : scr (x :: a) (x :: b) = (1, x) :: scr a b := by rw [scr, if_pos rfl]
theorem scr_del {x y : α} {a b : List α} (h : x ≠ y) (hl : lcs (x :: a) b ≤ lcs a (y :: b)) : scr (x :: a) (y :: b) = (2, x) :: scr a (y :: b) := by rw [scr, if_neg h, if_pos hl]
theorem scr_ins {x y : α} {a b : List α} (h : x ≠ y) (hl : ¬ lcs (x :: a) b ≤ lcs a (y :: b)) : scr (x :: a) (y :: b) = (3, y) :: scr (x :: a) b := by rw [scr, if_neg h, if_neg hl]
/-- whatever holds of the ends of scripts, and goes on from place to place, holds of all -/
theorem scr_ind {M : List α → List α → Prop} (h0 : ∀ b, M [] b) (h1 : ∀ a, M a []) (h2 : ∀ x a b, M a b → M (x :: a) (x :: b)) (h3 : ∀ x y a b, x ≠ y → lcs (x :: a) b ≤ lcs a (y :: b) → M a (y :: b) → M (x :: a) (y :: b))
    (h4 : ∀ x y a b, x ≠ y → ¬ lcs (x :: a) b ≤ lcs a (y :: b) → M (x :: a) b → M (x :: a) (y :: b)) : ∀ (n : Nat) (a b : List α), a.length + b.length ≤ n → M a b := by
  intro n
  induction n with
  | zero =>
    intro a b h
    have : a = [] := List.eq_nil_of_length_eq_zero (by omega)
    subst this
    exact h0 b
  | succ n ih =>
    intro a b h
    match a, b with
    | [], b => exact h0 b
    | a, [] => exact h1 a
    | x :: a, y :: b =>
      simp only [List.length_cons] at h
      by_cases e : x = y
      · subst e; exact h2 x a b (ih a b (by omega))
      · by_cases hl : lcs (x :: a) b ≤ lcs a (y :: b)
        · exact h3 x y a b e hl (ih a (y :: b) (by simp only [List.length_cons]; omega))
        · exact h4 x y a b e hl (ih (x :: a) b (by simp only [List.length_cons]; omega))
theorem scr_len (a b : List α) : (scr a b).length + lcs a b = a.length + b.length := by
  refine scr_ind (M := fun a b => (scr a b).length + lcs a b = a.length + b.length) ?_ ?_ ?_ ?_ ?_ _ a b (Nat.le_refl _)
  · intro b; rw [scr_nil, lcs_nil]; simp
  · intro a; rw [scr_nil', lcs_nil']; simp
  · intro x a b h; rw [scr_eq, lcs_eq]; simp only [List.length_cons]; omega
  · intro x y a b e hl h; rw [scr_del e hl, lcs_ne e]; simp only [List.length_cons] at h ⊢; omega
  · intro x y a b e hl h; rw [scr_ins e hl, lcs_ne e]; simp only [List.length_cons] at h ⊢; omega
theorem scr_dist (a b : List α) : distN (scr a b) + 2 * lcs a b = a.length + b.length := by
  refine scr_ind (M := fun a b => distN (scr a b) + 2 * lcs a b = a.length + b.length) ?_ ?_ ?_ ?_ ?_ _ a b (Nat.le_refl _)
  · intro b; rw [scr_nil, lcs_nil, distN_map (by decide)]; simp
  · intro a; rw [scr_nil', lcs_nil', distN_map (by decide)]; simp
  · intro x a b h; rw [scr_eq, lcs_eq, distN_cons, if_pos rfl]; simp only [List.length_cons]; omega
  · intro x y a b e hl h; rw [scr_del e hl, lcs_ne e, distN_cons, if_neg (by simp)]; simp only [List.length_cons] at h ⊢; omega
  · intro x y a b e hl h; rw [scr_ins e hl, lcs_ne e, distN_cons, if_neg (by simp)]; simp only [List.length_cons] at h ⊢; omega
theorem scr_old (a b : List α) : side 2 (scr a b) = a := by
  refine scr_ind (M := fun a b => side 2 (scr a b) = a) ?_ ?_ ?_ ?_ ?_ _ a b (Nat.le_refl _)
  · intro b; rw [scr_nil, side_map_no (by decide)]
  · intro a; rw [scr_nil', side_map_yes (by decide)]
  · intro x a b h; rw [scr_eq, side_cons_yes rfl, h]
  · intro x y a b e hl h; rw [scr_del e hl, side_cons_yes rfl, h]
  · intro x y a b e hl h; rw [scr_ins e hl, side_cons_no rfl, h]
theorem scr_new (a b : List α) : side 3 (scr a b) = b := by
  refine scr_ind (M := fun a b => side 3 (scr a b) = b) ?_ ?_ ?_ ?_ ?_ _ a b (Nat.le_refl _)
  · intro b; rw [scr_nil, side_map_yes (by decide)]
  · intro a; rw [scr_nil', side_map_no (by decide)]
  · intro x a b h; rw [scr_eq, side_cons_yes rfl, h]
  · intro x y a b e hl h; rw [scr_del e hl, side_cons_no rfl, h]
  · intro x y a b e hl h; rw [scr_ins e hl, side_cons_yes rfl, h]

/-- how many both begin with -/
def beg : List α → List α → Nat
  | x :: a, y :: b => if x = y then beg a b + 1 else 0
  | _, _ => 0
theorem beg_le (a b : List α) : beg a b ≤ a.length ∧ beg a b ≤ b.length := by
  induction a generalizing b with
  | nil => simp [beg]
  | cons x a ih =>
    cases b with
    | nil => simp [beg]
    | cons y b =>
      have := ih b
      unfold beg
      split <;> simp only [List.length_cons] <;> omega
theorem beg_front (p a b : List α) : beg (p ++ a) (p ++ b) = p.length + beg a b := by
  induction p with
  | nil => simp
  | cons x p ih => rw [List.cons_append, List.cons_append, beg, if_pos rfl, ih, List.length_cons]; omega
theorem beg_take (a b : List α) : a.take (beg a b) = b.take (beg a b) := by
  induction a generalizing b with
  | nil => simp [beg]
  | cons x a ih =>
    cases b with
    | nil => simp [beg]
    | cons y b =>
      unfold beg
      split
      · rename_i h; subst h; rw [List.take_succ_cons, List.take_succ_cons, ih]
      · simp
/-- where they part, they part -/
theorem beg_stop {a b : List α} : ∀ {k : Nat} {x y : α}, a[k]? = some x → b[k]? = some y → a.take k = b.take k → x ≠ y → beg a b = k := by
  induction a generalizing b with
  | nil => intro k x y h; simp at h
  | cons u a ih =>
    intro k x y h1 h2 h3 h4
    cases b with
    | nil => simp at h2
    | cons v b =>
      cases k with
      | zero =>
        simp at h1 h2
        subst h1 h2
        rw [beg, if_neg h4]
      | succ k =>
        simp only [List.take_succ_cons, List.cons.injEq] at h3
        rw [beg, if_pos h3.1, ih (by simpa using h1) (by simpa using h2) h3.2 h4]
theorem beg_end {a b : List α} {k : Nat} (h : a.take k = b.take k) (hk : k = a.length ∨ k = b.length) (h1 : k ≤ a.length) (h2 : k ≤ b.length) : beg a b = k := by
  induction a generalizing b k with
  | nil => simp at h1; subst h1; simp [beg]
  | cons u a ih =>
    cases b with
    | nil => simp at h2; subst h2; simp [beg]
    | cons v b =>
      cases k with
      | zero => simp at hk
      | succ k =>
        simp only [List.take_succ_cons, List.cons.injEq] at h
        rw [beg, if_pos h.1, ih h.2 (by simpa using hk) (by simpa using h1) (by simpa using h2)]
theorem scr_front (p a b : List α) : scr (p ++ a) (p ++ b) = (p.map fun s => ((1 : Int), s)) ++ scr a b := by
  induction p with
  | nil => rfl
  | cons x p ih => rw [List.cons_append, List.cons_append, scr_eq, ih]; rfl
/-- the script: what both begin with, and then, if neither rest is too long, line by line -/
def script (most : Nat) (a b : List α) : List (Int × α) :=
  (a.take (beg a b)).map (fun s => ((1 : Int), s)) ++ (if most < (a.drop (beg a b)).length ∨ most < (b.drop (beg a b)).length then ((a.drop (beg a b)).map fun s => ((2 : Int), s)) ++ ((b.drop (beg a b)).map fun s => ((3 : Int), s)) else scr (a.drop (beg a b)) (b.drop (beg a b)))
theorem script_short {most : Nat} {a b : List α} (ha : a.length ≤ most) (hb : b.length ≤ most) : script most a b = scr a b := by
  unfold script
  rw [if_neg (by simp only [List.length_drop]; omega), ← scr_front, List.take_append_drop]
  conv => lhs; arg 2; rw [beg_take]
  rw [List.take_append_drop]
theorem script_old (most : Nat) (a b : List α) : side 2 (script most a b) = a := by
  unfold script
  rw [side_append, side_map_yes (by decide)]
  split
  · rw [side_append, side_map_yes (by decide), side_map_no (by decide), List.append_nil, List.take_append_drop]
  · rw [scr_old, List.take_append_drop]
theorem script_new (most : Nat) (a b : List α) : side 3 (script most a b) = b := by
  unfold script
  rw [side_append, side_map_yes (by decide), beg_take]
  split
  · rw [side_append, side_map_no (by decide), side_map_yes (by decide), List.nil_append, List.take_append_drop]
  · rw [scr_new, List.take_append_drop]
end

end Go.Proofs.YtakgddochbcjbaaDoor
