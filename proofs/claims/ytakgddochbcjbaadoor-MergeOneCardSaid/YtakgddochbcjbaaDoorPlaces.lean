/- Where the lines of one list stand in another one: the places of a script. No program in sight. -/
import Derived.Test.YtakgddochbcjbaaDoorLcs
namespace Go.Proofs.YtakgddochbcjbaaDoor

section
variable {α : Type}
/-- the lines that are kept -/
def keepL (s : List (Int × α)) : List α := (s.filter fun e => e.1 == 1).map (·.2)
theorem keepL_yes {e : Int × α} (h : e.1 = 1) (s : List (Int × α)) : keepL (e :: s) = e.2 :: keepL s := by unfold keepL; rw [List.filter_cons_of_pos (by simp [h])]; rfl
theorem keepL_no {e : Int × α} (h : e.1 ≠ 1) (s : List (Int × α)) : keepL (e :: s) = keepL s := by unfold keepL; rw [List.filter_cons_of_neg (by simp [h])]
theorem keepL_append (s r : List (Int × α)) : keepL (s ++ r) = keepL s ++ keepL r := by simp [keepL]
theorem keepL_side (k : Int) : ∀ s : List (Int × α), (keepL s).Sublist (side k s)
  | [] => List.Sublist.refl _
  | e :: s => by
    by_cases h : e.1 = 1
    · rw [keepL_yes h, side_cons_yes (by simp [h])]
      exact (keepL_side k s).cons_cons _
    · rw [keepL_no h]
      cases h2 : (e.1 == 1 || e.1 == k) with
      | true => rw [side_cons_yes h2]; exact (keepL_side k s).cons _
      | false => rw [side_cons_no h2]; exact keepL_side k s
theorem keepL_dist (s : List (Int × α)) : (keepL s).length + distN s = s.length := by
  induction s with
  | nil => rfl
  | cons e s ih =>
    rw [distN_cons]
    by_cases h : e.1 = 1
    · rw [keepL_yes h, if_pos h]; simp only [List.length_cons]; omega
    · rw [keepL_no h, if_neg h]; simp only [List.length_cons]; omega
/-- kept, deleted, inserted: nothing else -/
def kinds3 (s : List (Int × α)) : Prop := ∀ e ∈ s, e.1 = 1 ∨ e.1 = 2 ∨ e.1 = 3
theorem kinds3_cons {e : Int × α} {s : List (Int × α)} (h : kinds3 (e :: s)) : (e.1 = 1 ∨ e.1 = 2 ∨ e.1 = 3) ∧ kinds3 s := ⟨h e (List.mem_cons_self ..), fun x hx => h x (List.mem_cons_of_mem _ hx)⟩
theorem sides_len : ∀ {s : List (Int × α)}, kinds3 s → (side 2 s).length + (side 3 s).length = s.length + (keepL s).length
  | [], _ => rfl
  | e :: s, h => by
    obtain ⟨h1, h2⟩ := kinds3_cons h
    have ih := sides_len h2
    rcases h1 with h1 | h1 | h1
    · rw [side_cons_yes (by simp [h1]), side_cons_yes (by simp [h1]), keepL_yes h1]; simp only [List.length_cons]; omega
    · rw [side_cons_yes (by simp [h1]), side_cons_no (by simp [h1]), keepL_no (by omega)]; simp only [List.length_cons]; omega
    · rw [side_cons_no (by simp [h1]), side_cons_yes (by simp [h1]), keepL_no (by omega)]; simp only [List.length_cons]; omega

/-- of each line of the old list its place in the new one; -1 -/
def plc : List (Int × α) → Nat → List Int
  | [], _ => []
  | e :: r, k => if e.1 = 1 then (k : Int) :: plc r (k + 1) else if e.1 = 2 then -1 :: plc r k else plc r (k + 1)
theorem plc_1 {e : Int × α} (h : e.1 = 1) (r : List (Int × α)) (k : Nat) : plc (e :: r) k = (k : Int) :: plc r (k + 1) := by rw [plc, if_pos h]
theorem plc_2 {e : Int × α} (h : e.1 = 2) (r : List (Int × α)) (k : Nat) : plc (e :: r) k = -1 :: plc r k := by rw [plc, if_neg (by omega), if_pos h]
theorem plc_3 {e : Int × α} (h : e.1 = 3) (r : List (Int × α)) (k : Nat) : plc (e :: r) k = plc r (k + 1) := by rw [plc, if_neg (by omega), if_neg (by omega)]
theorem plc_len : ∀ {s : List (Int × α)} {k : Nat}, kinds3 s → (plc s k).length = (side 2 s).length
  | [], _, _ => rfl
  | e :: s, k, h => by
    obtain ⟨h1, h2⟩ := kinds3_cons h
    rcases h1 with h1 | h1 | h1
    · rw [plc_1 h1, side_cons_yes (by simp [h1])]; simp [plc_len h2]
    · rw [plc_2 h1, side_cons_yes (by simp [h1])]; simp [plc_len h2]
    · rw [plc_3 h1, side_cons_no (by simp [h1])]; exact plc_len h2
theorem plc_app : ∀ {s : List (Int × α)} {k : Nat} (r : List (Int × α)), kinds3 s → plc (s ++ r) k = plc s k ++ plc r (k + (side 3 s).length)
  | [], k, r, _ => rfl
  | e :: s, k, r, h => by
    obtain ⟨h1, h2⟩ := kinds3_cons h
    rw [List.cons_append]
    rcases h1 with h1 | h1 | h1
    · rw [plc_1 h1, plc_1 h1, plc_app r h2, side_cons_yes (by simp [h1])]; simp [Nat.add_assoc, Nat.add_comm 1]
    · rw [plc_2 h1, plc_2 h1, plc_app r h2, side_cons_no (by simp [h1])]; simp
    · rw [plc_3 h1, plc_3 h1, plc_app r h2, side_cons_yes (by simp [h1])]; simp [Nat.add_assoc, Nat.add_comm 1]
/-- a place that is none below 0 is that of a kept line -/
theorem plc_split : ∀ {s : List (Int × α)} {k i : Nat} {j : Int}, kinds3 s → (plc s k)[i]? = some j → 0 ≤ j → ∃ s1 x s3, s = s1 ++ (1, x) :: s3 ∧ (side 2 s1).length = i ∧ ((k + (side 3 s1).length : Nat) : Int) = j
  | [], k, i, j, _, hj, _ => by simp [plc] at hj
  | e :: s, k, i, j, h, hj, h0 => by
    obtain ⟨h1, h2⟩ := kinds3_cons h
    rcases h1 with h1 | h1 | h1
    · rw [plc_1 h1] at hj
      cases i with
      | zero =>
        simp only [List.getElem?_cons_zero, Option.some.injEq] at hj
        exact ⟨[], e.2, s, by rw [← h1]; rfl, rfl, by simpa [side] using hj⟩
      | succ i =>
        rw [List.getElem?_cons_succ] at hj
        obtain ⟨s1, x, s3, e1, e2, e3⟩ := plc_split h2 hj h0
        refine ⟨e :: s1, x, s3, by rw [e1]; rfl, ?_, ?_⟩
        · rw [side_cons_yes (by simp [h1])]; simp [e2]
        · rw [side_cons_yes (by simp [h1]), ← e3]; simp only [List.length_cons]; omega
    · rw [plc_2 h1] at hj
      cases i with
      | zero =>
        simp only [List.getElem?_cons_zero, Option.some.injEq] at hj
        omega
      | succ i =>
        rw [List.getElem?_cons_succ] at hj
        obtain ⟨s1, x, s3, e1, e2, e3⟩ := plc_split h2 hj h0
        refine ⟨e :: s1, x, s3, by rw [e1]; rfl, ?_, ?_⟩
        · rw [side_cons_yes (by simp [h1])]; simp [e2]
        · rw [side_cons_no (by simp [h1]), ← e3]
    · rw [plc_3 h1] at hj
      obtain ⟨s1, x, s3, e1, e2, e3⟩ := plc_split h2 hj h0
      refine ⟨e :: s1, x, s3, by rw [e1]; rfl, ?_, ?_⟩
      · rw [side_cons_no (by simp [h1])]; exact e2
      · rw [side_cons_yes (by simp [h1]), ← e3]; simp only [List.length_cons]; omega
theorem plc_neg : ∀ {s : List (Int × α)} {k i : Nat} {j : Int}, kinds3 s → (plc s k)[i]? = some j → -1 ≤ j
  | [], k, i, j, _, hj => by simp [plc] at hj
  | e :: s, k, i, j, h, hj => by
    obtain ⟨h1, h2⟩ := kinds3_cons h
    rcases h1 with h1 | h1 | h1
    · rw [plc_1 h1] at hj
      cases i with
      | zero => simp only [List.getElem?_cons_zero, Option.some.injEq] at hj; omega
      | succ i => exact plc_neg h2 hj
    · rw [plc_2 h1] at hj
      cases i with
      | zero => simp only [List.getElem?_cons_zero, Option.some.injEq] at hj; omega
      | succ i => exact plc_neg h2 hj
    · rw [plc_3 h1] at hj; exact plc_neg h2 hj

theorem plc_all : ∀ (z : List α) (k d : Nat), d < z.length → (plc (z.map fun x => ((1 : Int), x)) k)[d]? = some ((k + d : Nat) : Int)
  | [], _, _, h => by simp at h
  | x :: z, k, d, h => by
    rw [List.map_cons, plc_1 rfl]
    cases d with
    | zero => rfl
    | succ d =>
      rw [List.getElem?_cons_succ, plc_all z (k + 1) d (by simpa using h)]
      congr 2; omega
/-- a place in a script between two of its edits: so much of both sides lies ahead of it -/
def CutAt (s : List (Int × α)) (q p o : Nat) : Prop := q ≤ s.length ∧ (side 2 (s.take q)).length = p ∧ (side 3 (s.take q)).length = o
theorem CutAt.start (s : List (Int × α)) : CutAt s 0 0 0 := ⟨Nat.zero_le _, rfl, rfl⟩
theorem CutAt.end_ (s : List (Int × α)) : CutAt s s.length (side 2 s).length (side 3 s).length := ⟨Nat.le_refl _, by rw [List.take_length], by rw [List.take_length]⟩
theorem take_side {s : List (Int × α)} (k : Int) {q r : Nat} (h : q ≤ r) : side k (s.take r) = side k (s.take q) ++ side k ((s.take r).drop q) := by
  have : s.take r = s.take q ++ (s.take r).drop q := by
    conv => lhs; rw [← List.take_append_drop q (s.take r)]
    rw [List.take_take, Nat.min_eq_left h]
  conv => lhs; rw [this]
  rw [side_append]
theorem CutAt.mono {s : List (Int × α)} {q p o q' p' o' : Nat} (h : CutAt s q p o) (h' : CutAt s q' p' o') (hq : q ≤ q') : p ≤ p' ∧ o ≤ o' := by
  have e1 := congrArg List.length (take_side (s := s) 2 hq)
  have e2 := congrArg List.length (take_side (s := s) 3 hq)
  rw [List.length_append, h.2.1, h'.2.1] at e1
  rw [List.length_append, h.2.2, h'.2.2] at e2
  omega
/-- a kept line has a place ahead of it, and one behind it -/
theorem cut_keep {s : List (Int × α)} {i : Nat} {j : Nat} (hk : kinds3 s) (h : (plc s 0)[i]? = some (j : Int)) : ∃ q x, s[q]? = some (1, x) ∧ CutAt s q i j ∧ CutAt s (q + 1) (i + 1) (j + 1) := by
  obtain ⟨s1, x, s3, rfl, h2, h3⟩ := plc_split hk h (by omega)
  refine ⟨s1.length, x, by simp, ⟨by simp, ?_, ?_⟩, ⟨by simp, ?_, ?_⟩⟩
  · rw [List.take_left' rfl]; exact h2
  · rw [List.take_left' rfl]; omega
  · rw [List.take_append, List.take_of_length_le (by omega), Nat.add_sub_cancel_left, side_append, List.length_append, h2]
    rfl
  · rw [List.take_append, List.take_of_length_le (by omega), Nat.add_sub_cancel_left, side_append, List.length_append]
    have e1 : (side 3 (List.take 1 (((1 : Int), x) :: s3))).length = 1 := rfl
    omega
/-- a place that has no more of the old list ahead than a kept line has is ahead of that line -/
theorem cut_before {s : List (Int × α)} {q p o q' i j : Nat} (h : CutAt s q p o) (h' : CutAt s (q' + 1) (i + 1) (j + 1)) (hp : p ≤ i) : q ≤ q' := by
  rcases Nat.lt_or_ge q' q with hlt | hge
  · have := h'.mono h hlt
    omega
  · exact hge
end

section
variable {α : Type} [DecidableEq α]
theorem scr_kinds (a b : List α) : kinds3 (scr a b) := by
  refine scr_ind (M := fun a b => kinds3 (scr a b)) ?_ ?_ ?_ ?_ ?_ _ a b (Nat.le_refl _)
  · intro b; rw [scr_nil]; intro e he; simp only [List.mem_map] at he; obtain ⟨s, _, rfl⟩ := he; simp
  · intro a; rw [scr_nil']; intro e he; simp only [List.mem_map] at he; obtain ⟨s, _, rfl⟩ := he; simp
  · intro x a b h; rw [scr_eq]; intro e he; rcases List.mem_cons.1 he with rfl | he; · simp
    exact h e he
  · intro x y a b hne hl h; rw [scr_del hne hl]; intro e he; rcases List.mem_cons.1 he with rfl | he; · simp
    exact h e he
  · intro x y a b hne hl h; rw [scr_ins hne hl]; intro e he; rcases List.mem_cons.1 he with rfl | he; · simp
    exact h e he
theorem scr_keep (a b : List α) : (keepL (scr a b)).length = lcs a b := by
  have h1 := keepL_dist (scr a b)
  have h2 := scr_len a b
  have h3 := scr_dist a b
  omega
/-- a part of a script that leads from some lines to the same keeps them all -/
theorem part_keep {a b : List α} {s1 s2 s3 : List (Int × α)} (h : scr a b = s1 ++ s2 ++ s3) (he : side 2 s2 = side 3 s2) : s2 = (side 2 s2).map fun x => ((1 : Int), x) := by
  have hk : kinds3 s2 := fun e hm => scr_kinds a b e (by rw [h]; simp [hm])
  have ha := scr_old a b
  have hb := scr_new a b
  have hl := scr_keep a b
  rw [h, side_append, side_append] at ha hb
  rw [h, keepL_append, keepL_append] at hl
  have c1 : (keepL s1 ++ side 2 s2 ++ keepL s3).Sublist a := by
    rw [← ha]; exact ((keepL_side 2 s1).append (List.Sublist.refl _)).append (keepL_side 2 s3)
  have c2 : (keepL s1 ++ side 2 s2 ++ keepL s3).Sublist b := by
    rw [← hb, he]; exact ((keepL_side 3 s1).append (List.Sublist.refl _)).append (keepL_side 3 s3)
  have c3 := lcs_all c1 c2
  simp only [List.length_append] at c3 hl
  have c4 := (keepL_side 2 s2).length_le
  have c5 := sides_len hk
  have c6 : (side 3 s2).length = (side 2 s2).length := by rw [he]
  have c7 : (keepL s2).length = s2.length := by omega
  have c8 : ∀ e ∈ s2, e.1 = 1 := by
    have : (s2.filter fun e => e.1 == 1).length = s2.length := by unfold keepL at c7; rwa [List.length_map] at c7
    intro e hm
    have := List.length_filter_eq_length_iff.1 this e hm
    simpa using this
  clear h ha hb hl c1 c2 c3 c4 c5 c6 c7 he hk
  induction s2 with
  | nil => rfl
  | cons e s ih =>
    have h1 := c8 e (List.mem_cons_self ..)
    rw [side_cons_yes (by simp [h1]), List.map_cons, ← ih fun e hm => c8 e (List.mem_cons_of_mem _ hm), ← h1]
end

end Go.Proofs.YtakgddochbcjbaaDoor
