/- The chunks of three lists, and what holds of them, in plain Lean. -/
import Derived.Test.YtakgddochbcjbaaDoorChunkSpec
namespace Go.Proofs.YtakgddochbcjbaaDoor

/-- line i + n goes on, in both, where line i stands -/
def goesOn (X Y : Nat → Int) (len i n : Nat) : Prop := i + n < len ∧ X (i + n) = X i + n ∧ Y (i + n) = Y i + n
instance (X Y : Nat → Int) (len i n : Nat) : Decidable (goesOn X Y len i n) := by unfold goesOn; infer_instance
/-- how many lines go on, from n on -/
def ext (X Y : Nat → Int) (len i : Nat) : Nat → Nat → Nat
  | 0, n => n
  | f + 1, n => if goesOn X Y len i n then ext X Y len i f (n + 1) else n
theorem ext_ge (X Y : Nat → Int) (len i : Nat) : ∀ f n, n ≤ ext X Y len i f n
  | 0, n => Nat.le_refl _
  | f + 1, n => by
    rw [ext]
    split
    · exact Nat.le_trans (Nat.le_succ n) (ext_ge X Y len i f (n + 1))
    · exact Nat.le_refl _
theorem ext_all (X Y : Nat → Int) (len i : Nat) : ∀ f n d, n ≤ d → d < ext X Y len i f n → goesOn X Y len i d
  | 0, n, d, h1, h2 => by rw [ext] at h2; omega
  | f + 1, n, d, h1, h2 => by
    rw [ext] at h2
    split at h2
    · rename_i hg
      rcases Nat.eq_or_lt_of_le h1 with rfl | h3
      · exact hg
      · exact ext_all X Y len i f (n + 1) d h3 h2
    · omega
theorem ext_stop (X Y : Nat → Int) (len i : Nat) : ∀ f n, len ≤ i + n + f → ¬ goesOn X Y len i (ext X Y len i f n)
  | 0, n, h => by rw [ext]; intro hg; have := hg.1; omega
  | f + 1, n, h => by
    rw [ext]
    split
    · exact ext_stop X Y len i f (n + 1) (by omega)
    · assumption

section
variable {α : Type} [DecidableEq α]
/-- what a piece of three lists is -/
def knd (b o t : List α) : Int := if o = b then 3 else if t = b then 2 else if o = t then 4 else 5
/-- a chunk: its kind, and its three lists -/
abbrev Chk (α : Type) := Int × List α × List α × List α
def pieceC (b o t : List α) : List (Chk α) := if b.length + o.length + t.length = 0 then [] else [(knd b o t, b, o, t)]
def seg (l : List α) (i j : Nat) : List α := (l.take j).drop i
def runN (a b c : List α) (i : Nat) : Nat := ext (at3 a b) (at3 a c) a.length i a.length 1
theorem runN_pos (a b c : List α) (i : Nat) : 1 ≤ runN a b c i := ext_ge _ _ _ _ _ _
def chGo (a b c : List α) (i p o t : Nat) : List (Chk α) :=
  if i < a.length then
    if at3 a b i < 0 ∨ at3 a c i < 0 then chGo a b c (i + 1) p o t
    else
      pieceC (seg a p i) (seg b o (at3 a b i).toNat) (seg c t (at3 a c i).toNat) ++ (1, seg a i (i + runN a b c i), seg a i (i + runN a b c i), seg a i (i + runN a b c i)) ::
        chGo a b c (i + runN a b c i) (i + runN a b c i) ((at3 a b i).toNat + runN a b c i) ((at3 a c i).toNat + runN a b c i)
  else pieceC (a.drop p) (b.drop o) (c.drop t)
termination_by a.length - i
decreasing_by
  · omega
  · have := runN_pos a b c i
    omega

/-- the state of the walk through base -/
structure AtC (a b c : List α) (i p o t : Nat) : Prop where
  le : p ≤ i
  top : i ≤ a.length
  ours : Cut (scr a b) p o
  theirs : Cut (scr a c) p t
  none : ∀ j, p ≤ j → j < i → at3 a b j < 0 ∨ at3 a c j < 0
theorem AtC.start (a b c : List α) : AtC a b c 0 0 0 0 := ⟨Nat.le_refl _, Nat.zero_le _, ⟨0, CutAt.start _⟩, ⟨0, CutAt.start _⟩, fun j _ h => absurd h (by omega)⟩
theorem AtC.skip {a b c : List α} {i p o t : Nat} (h : AtC a b c i p o t) (hi : i < a.length) (hn : at3 a b i < 0 ∨ at3 a c i < 0) : AtC a b c (i + 1) p o t :=
  ⟨Nat.le_succ_of_le h.le, hi, h.ours, h.theirs, fun j h1 h2 => by
    rcases Nat.lt_or_ge j i with h3 | h3
    · exact h.none j h1 h3
    · obtain rfl : j = i := by omega
      exact hn⟩
/-- the lines of a run, one by one -/
theorem run_all {a b c : List α} {i x y : Nat} (hi : i < a.length) (hx : at3 a b i = x) (hy : at3 a c i = y) {d : Nat} (hd : d < runN a b c i) : i + d < a.length ∧ at3 a b (i + d) = ((x + d : Nat) : Int) ∧ at3 a c (i + d) = ((y + d : Nat) : Int) := by
  cases d with
  | zero => exact ⟨hi, hx, hy⟩
  | succ d =>
    obtain ⟨h1, h2, h3⟩ := ext_all _ _ _ _ _ _ (d + 1) (by omega) hd
    refine ⟨h1, ?_, ?_⟩
    · rw [h2, hx]; omega
    · rw [h3, hy]; omega
theorem run_stop {a b c : List α} {i x y : Nat} (hx : at3 a b i = x) (hy : at3 a c i = y) : ¬ (i + runN a b c i < a.length ∧ at3 a b (i + runN a b c i) = ((x + runN a b c i : Nat) : Int) ∧ at3 a c (i + runN a b c i) = ((y + runN a b c i : Nat) : Int)) := by
  intro ⟨h1, h2, h3⟩
  refine ext_stop (at3 a b) (at3 a c) a.length i a.length 1 (by omega) ⟨h1, ?_, ?_⟩
  · rw [hx]; change at3 a b (i + runN a b c i) = _; rw [h2]; change _ = (x : Int) + (runN a b c i : Nat); omega
  · rw [hy]; change at3 a c (i + runN a b c i) = _; rw [h3]; change _ = (y : Int) + (runN a b c i : Nat); omega
theorem AtC.next {a b c : List α} {i x y : Nat} (hi : i < a.length) (hx : at3 a b i = x) (hy : at3 a c i = y) : AtC a b c (i + runN a b c i) (i + runN a b c i) (x + runN a b c i) (y + runN a b c i) := by
  have hp := runN_pos a b c i
  obtain ⟨n, hn⟩ : ∃ n, runN a b c i = n + 1 := ⟨runN a b c i - 1, by omega⟩
  obtain ⟨h1, h2, h3⟩ := run_all hi hx hy (show n < runN a b c i by omega)
  obtain ⟨q, _, c1⟩ := at3_cut h2
  obtain ⟨r, _, c2⟩ := at3_cut h3
  rw [hn]
  exact ⟨Nat.le_refl _, by omega, ⟨_, c1⟩, ⟨_, c2⟩, fun j g1 g2 => by omega⟩
theorem AtC.before {a b c : List α} {i p o t x y : Nat} (h : AtC a b c i p o t) (hx : at3 a b i = x) (hy : at3 a c i = y) : o ≤ x ∧ t ≤ y := by
  obtain ⟨q, h1⟩ := h.ours
  obtain ⟨r, h2⟩ := h.theirs
  obtain ⟨q', g1, g1'⟩ := at3_cut hx
  obtain ⟨r', g2, g2'⟩ := at3_cut hy
  exact ⟨(h1.mono g1 (cut_before h1 g1' h.le)).2, (h2.mono g2 (cut_before h2 g2' h.le)).2⟩
/-- a piece that is alike on all three sides has none of base's lines -/
theorem AtC.alike {a b c : List α} {i p o t x y : Nat} (h : AtC a b c i p o t) (h1 : Cut (scr a b) i x) (h2 : Cut (scr a c) i y) (e1 : seg a p i = seg b o x) (e2 : seg a p i = seg c t y) : p = i := by
  rcases Nat.lt_or_ge p i with hlt | hge
  · have k1 := piece_keep h.ours h1 e1 (d := 0) hlt
    have k2 := piece_keep h.theirs h2 e2 (d := 0) hlt
    rcases h.none p (Nat.le_refl _) hlt with h3 | h3
    · rw [Nat.add_zero] at k1; omega
    · rw [Nat.add_zero] at k2; omega
  · have := h.le; omega
/-- whatever holds at the end, and goes on from piece to piece, holds of all chunks -/
theorem chGo_ind {a b c : List α} {M : Nat → Nat → Nat → Nat → List (Chk α) → Prop}
    (hend : ∀ p o t, AtC a b c a.length p o t → M a.length p o t (pieceC (a.drop p) (b.drop o) (c.drop t)))
    (hskip : ∀ i p o t l, AtC a b c i p o t → i < a.length → (at3 a b i < 0 ∨ at3 a c i < 0) → M (i + 1) p o t l → M i p o t l)
    (hrun : ∀ i p o t x y l, AtC a b c i p o t → i < a.length → at3 a b i = (x : Nat) → at3 a c i = (y : Nat) → o ≤ x → t ≤ y → M (i + runN a b c i) (i + runN a b c i) (x + runN a b c i) (y + runN a b c i) l →
      M i p o t (pieceC (seg a p i) (seg b o x) (seg c t y) ++ (1, seg a i (i + runN a b c i), seg a i (i + runN a b c i), seg a i (i + runN a b c i)) :: l)) :
    ∀ (f i p o t : Nat), a.length - i ≤ f → AtC a b c i p o t → M i p o t (chGo a b c i p o t) := by
  intro f
  induction f with
  | zero =>
    intro i p o t hf h
    have hi : i = a.length := by have := h.top; omega
    subst hi
    rw [chGo, if_neg (by omega)]
    exact hend p o t h
  | succ f ih =>
    intro i p o t hf h
    rcases Nat.lt_or_ge i a.length with hi | hi
    · rw [chGo, if_pos hi]
      by_cases hn : at3 a b i < 0 ∨ at3 a c i < 0
      · rw [if_pos hn]
        exact hskip i p o t _ h hi hn (ih _ _ _ _ (by omega) (h.skip hi hn))
      · rw [if_neg hn]
        obtain ⟨x, hx⟩ : ∃ x : Nat, at3 a b i = x := ⟨(at3 a b i).toNat, by omega⟩
        obtain ⟨y, hy⟩ : ∃ y : Nat, at3 a c i = y := ⟨(at3 a c i).toNat, by omega⟩
        rw [hx, hy, Int.toNat_natCast, Int.toNat_natCast]
        have hb := h.before hx hy
        have hp := runN_pos a b c i
        exact hrun i p o t x y _ h hi hx hy hb.1 hb.2 (ih _ _ _ _ (by omega) (AtC.next hi hx hy))
    · have hi : i = a.length := by have := h.top; omega
      subst hi
      rw [chGo, if_neg (by omega)]
      exact hend p o t h
def chunks (a b c : List α) : List (Chk α) := chGo a b c 0 0 0 0
end

end Go.Proofs.YtakgddochbcjbaaDoor
