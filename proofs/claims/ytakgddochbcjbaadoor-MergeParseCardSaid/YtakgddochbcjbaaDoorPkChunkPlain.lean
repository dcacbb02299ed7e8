/- Chunks in plain words: places of kept lines, pieces, chunks; their laws. -/
import Derived.Test.YtakgddochbcjbaaDoorPkLcs
namespace Go.Proofs.YtakgddochbcjbaaDoor

section
variable {α : Type}
/-- the lines that are kept -/
def keepL (s : List (Int × α)) : List α := (s.filter fun e => e.1 == 1).map (·.2)
theorem keepL_yes {e : Int × α} (h : e.1 = 1) (s : List (Int × α)) : keepL (e :: s) = e.2 :: keepL s := by unfold keepL; rw [List.filter_cons_of_pos (by simp [h])]; rfl
theorem keepL_no {e : Int × α} (h : e.1 ≠ 1) (s : List (Int × α)) : keepL (e :: s) = keepL s := by unfold keepL; rw [List.filter_cons_of_neg (by simp [h])]
theorem keepL_append (s r : List (Int × α)) : keepL (s ++ r) = keepL s ++ keepL r := by simp [keepL]
theorem keepL_side (k : Int) : ∀ s : List (Int × α), (keepL s).Sublist (side k s)
  | [] => List.Sublist.refl _
  | e :: s => by
    by_cases h : e.1 = 1
    · rw [keepL_yes h, side_cons_yes (by simp [h])]
      exact (keepL_side k s).cons_cons _
    · rw [keepL_no h]
      cases h2 : (e.1 == 1 || e.1 == k) with
      | true => rw [side_cons_yes h2]; exact (keepL_side k s).cons _
      | false => rw [side_cons_no h2]; exact keepL_side k s
theorem keepL_dist (s : List (Int × α)) : (keepL s).length + distN s = s.length := by
  induction s with
  | nil => rfl
  | cons e s ih =>
    rw [distN_cons]
    by_cases h : e.1 = 1
    · rw [keepL_yes h, if_pos h]; simp only [List.length_cons]; omega
    · rw [keepL_no h, if_neg h]; simp only [List.length_cons]; omega
/-- kept, deleted, inserted: nothing else -/
def kinds3 (s : List (Int × α)) : Prop := ∀ e ∈ s, e.1 = 1 ∨ e.1 = 2 ∨ e.1 = 3
theorem kinds3_cons {e : Int × α} {s : List (Int × α)} (h : kinds3 (e :: s)) : (e.1 = 1 ∨ e.1 = 2 ∨ e.1 = 3) ∧ kinds3 s := ⟨h e (List.mem_cons_self ..), fun x hx => h x (List.mem_cons_of_mem _ hx)⟩
theorem sides_len : ∀ {s : List (Int × α)}, kinds3 s → (side 2 s).length + (side 3 s).length = s.length + (keepL s).length
  | [], _ => rfl
  | e :: s, h => by
    obtain ⟨h1, h2⟩ := kinds3_cons h
    have ih := sides_len h2
    rcases h1 with h1 | h1 | h1
    · rw [side_cons_yes (by simp [h1]), side_cons_yes (by simp [h1]), keepL_yes h1]; simp only [List.length_cons]; omega
    · rw [side_cons_yes (by simp [h1]), side_cons_no (by simp [h1]), keepL_no (by omega)]; simp only [List.length_cons]; omega
    · rw [side_cons_no (by simp [h1]), side_cons_yes (by simp [h1]), keepL_no (by omega)]; simp only [List.length_cons]; omega

/-- of each line of the old list its place in the new one; -1 -/
def plc : List (Int × α) → Nat → List Int
  | [], _ => []
  | e :: r, k => if e.1 = 1 then (k : Int) :: plc r (k + 1) else if e.1 = 2 then -1 :: plc r k else plc r (k + 1)
theorem plc_1 {e : Int × α} (h : e.1 = 1) (r : List (Int × α)) (k : Nat) : plc (e :: r) k = (k : Int) :: plc r (k + 1) := by rw [plc, if_pos h]
theorem plc_2 {e : Int × α} (h : e.1 = 2) (r : List (Int × α)) (k : Nat) : plc (e :: r) k = -1 :: plc r k := by rw [plc, if_neg (by omega), if_pos h]
theorem plc_3 {e : Int × α} (h : e.1 = 3) (r : List (Int × α)) (k : Nat) : plc (e :: r) k = plc r (k + 1) := by rw [plc, if_neg (by omega), if_neg (by omega)]
theorem plc_len : ∀ {s : List (Int × α)} {k : Nat}, kinds3 s → (plc s k).length = (side 2 s).length
  | [], _, _ => rfl
  | e :: s, k, h => by
    obtain ⟨h1, h2⟩ := kinds3_cons h
    rcases h1 with h1 | h1 | h1
    · rw [plc_1 h1, side_cons_yes (by simp [h1])]; simp [plc_len h2]
    · rw [plc_2 h1, side_cons_yes (by simp [h1])]; simp [plc_len h2]
    · rw [plc_3 h1, side_cons_no (by simp [h1])]; exact plc_len h2
theorem plc_app : ∀ {s : List (Int × α)} {k : Nat} (r : List (Int × α)), kinds3 s → plc (s ++ r) k = plc s k ++ plc r (k + (side 3 s).length)
  | [], k, r, _ => rfl
  | e :: s, k, r, h => by
    obtain ⟨h1, h2⟩ := kinds3_cons h
    rw [List.cons_append]
    rcases h1 with h1 | h1 | h1
    · rw [plc_1 h1, plc_1 h1, plc_app r h2, side_cons_yes (by simp [h1])]; simp [Nat.add_assoc, Nat.add_comm 1]
    · rw [plc_2 h1, plc_2 h1, plc_app r h2, side_cons_no (by simp [h1])]; simp
    · rw [plc_3 h1, plc_3 h1, plc_app r h2, side_cons_yes (by simp [h1])]; simp [Nat.add_assoc, Nat.add_comm 1]
/-- a place that is none below 0 is that of a kept line -/
theorem plc_split : ∀ {s : List (Int × α)} {k i : Nat} {j : Int}, kinds3 s → (plc s k)[i]? = some j → 0 ≤ j → ∃ s1 x s3, s = s1 ++ (1, x) :: s3 ∧ (side 2 s1).length = i ∧ ((k + (side 3 s1).length : Nat) : Int) = j
  | [], k, i, j, _, hj, _ => by simp [plc] at hj
  | e :: s, k, i, j, h, hj, h0 => by
    obtain ⟨h1, h2⟩ := kinds3_cons h
    rcases h1 with h1 | h1 | h1
    · rw [plc_1 h1] at hj
      cases i with
      | zero =>
        simp only [List.getElem?_cons_zero, Option.some.injEq] at hj
        exact ⟨[], e.2, s, by rw [← h1]; rfl, rfl, by simpa [side] using hj⟩
      | succ i =>
        rw [List.getElem?_cons_succ] at hj
        obtain ⟨s1, x, s3, e1, e2, e3⟩ := plc_split h2 hj h0
        refine ⟨e :: s1, x, s3, by rw [e1]; rfl, ?_, ?_⟩
        · rw [side_cons_yes (by simp [h1])]; simp [e2]
        · rw [side_cons_yes (by simp [h1]), ← e3]; simp only [List.length_cons]; omega
    · rw [plc_2 h1] at hj
      cases i with
      | zero =>
        simp only [List.getElem?_cons_zero, Option.some.injEq] at hj
        omega
      | succ i =>
        rw [List.getElem?_cons_succ] at hj
        obtain ⟨s1, x, s3, e1, e2, e3⟩ := plc_split h2 hj h0
        refine ⟨e :: s1, x, s3, by rw [e1]; rfl, ?_, ?_⟩
        · rw [side_cons_yes (by simp [h1])]; simp [e2]
        · rw [side_cons_no (by simp [h1]), ← e3]
    · rw [plc_3 h1] at hj
      obtain ⟨s1, x, s3, e1, e2, e3⟩ := plc_split h2 hj h0
      refine ⟨e :: s1, x, s3, by rw [e1]; rfl, ?_, ?_⟩
      · rw [side_cons_no (by simp [h1])]; exact e2
      · rw [side_cons_yes (by simp [h1]), ← e3]; simp only [List.length_cons]; omega
theorem plc_neg : ∀ {s : List (Int × α)} {k i : Nat} {j : Int}, kinds3 s → (plc s k)[i]? = some j → -1 ≤ j
  | [], k, i, j, _, hj => by simp [plc] at hj
  | e :: s, k, i, j, h, hj => by
    obtain ⟨h1, h2⟩ := kinds3_cons h
    rcases h1 with h1 | h1 | h1
    · rw [plc_1 h1] at hj
      cases i with
      | zero => simp only [List.getElem?_cons_zero, Option.some.injEq] at hj; omega
      | succ i => exact plc_neg h2 hj
    · rw [plc_2 h1] at hj
      cases i with
      | zero => simp only [List.getElem?_cons_zero, Option.some.injEq] at hj; omega
      | succ i => exact plc_neg h2 hj
    · rw [plc_3 h1] at hj; exact plc_neg h2 hj

theorem plc_all : ∀ (z : List α) (k d : Nat), d < z.length → (plc (z.map fun x => ((1 : Int), x)) k)[d]? = some ((k + d : Nat) : Int)
  | [], _, _, h => by simp at h
  | x :: z, k, d, h => by
    rw [List.map_cons, plc_1 rfl]
    cases d with
    | zero => rfl
    | succ d =>
      rw [List.getElem?_cons_succ, plc_all z (k + 1) d (by simpa using h)]
      congr 2; omega
/-- a place in a script between two of its edits: so much of both sides lies ahead of it -/
def CutAt (s : List (Int × α)) (q p o : Nat) : Prop := q ≤ s.length ∧ (side 2 (s.take q)).length = p ∧ (side 3 (s.take q)).length = o
theorem CutAt.start (s : List (Int × α)) : CutAt s 0 0 0 := ⟨Nat.zero_le _, rfl, rfl⟩
theorem CutAt.end_ (s : List (Int × α)) : CutAt s s.length (side 2 s).length (side 3 s).length := ⟨Nat.le_refl _, by rw [List.take_length], by rw [List.take_length]⟩
theorem take_side {s : List (Int × α)} (k : Int) {q r : Nat} (h : q ≤ r) : side k (s.take r) = side k (s.take q) ++ side k ((s.take r).drop q) := by
  have : s.take r = s.take q ++ (s.take r).drop q := by
    conv => lhs; rw [← List.take_append_drop q (s.take r)]
    rw [List.take_take, Nat.min_eq_left h]
  conv => lhs; rw [this]
  rw [side_append]
theorem CutAt.mono {s : List (Int × α)} {q p o q' p' o' : Nat} (h : CutAt s q p o) (h' : CutAt s q' p' o') (hq : q ≤ q') : p ≤ p' ∧ o ≤ o' := by
  have e1 := congrArg List.length (take_side (s := s) 2 hq)
  have e2 := congrArg List.length (take_side (s := s) 3 hq)
  rw [List.length_append, h.2.1, h'.2.1] at e1
  rw [List.length_append, h.2.2, h'.2.2] at e2
  omega
/-- a kept line has a place ahead of it, and one behind it -/
theorem cut_keep {s : List (Int × α)} {i : Nat} {j : Nat} (hk : kinds3 s) (h : (plc s 0)[i]? = some (j : Int)) : ∃ q x, s[q]? = some (1, x) ∧ CutAt s q i j ∧ CutAt s (q + 1) (i + 1) (j + 1) := by
  obtain ⟨s1, x, s3, rfl, h2, h3⟩ := plc_split hk h (by omega)
  refine ⟨s1.length, x, by simp, ⟨by simp, ?_, ?_⟩, ⟨by simp, ?_, ?_⟩⟩
  · rw [List.take_left' rfl]; exact h2
  · rw [List.take_left' rfl]; omega
  · rw [List.take_append, List.take_of_length_le (by omega), Nat.add_sub_cancel_left, side_append, List.length_append, h2]
    rfl
  · rw [List.take_append, List.take_of_length_le (by omega), Nat.add_sub_cancel_left, side_append, List.length_append]
    have e1 : (side 3 (List.take 1 (((1 : Int), x) :: s3))).length = 1 := rfl
    omega
/-- a place that has no more of the old list ahead than a kept line has is ahead of that line -/
theorem cut_before {s : List (Int × α)} {q p o q' i j : Nat} (h : CutAt s q p o) (h' : CutAt s (q' + 1) (i + 1) (j + 1)) (hp : p ≤ i) : q ≤ q' := by
  rcases Nat.lt_or_ge q' q with hlt | hge
  · have := h'.mono h hlt
    omega
  · exact hge
end

section
variable {α : Type} [DecidableEq α]
theorem scr_kinds (a b : List α) : kinds3 (scr a b) := by
  refine scr_ind (M := fun a b => kinds3 (scr a b)) ?_ ?_ ?_ ?_ ?_ _ a b (Nat.le_refl _)
  · intro b; rw [scr_nil]; intro e he; simp only [List.mem_map] at he; obtain ⟨s, _, rfl⟩ := he; simp
  · intro a; rw [scr_nil']; intro e he; simp only [List.mem_map] at he; obtain ⟨s, _, rfl⟩ := he; simp
  · intro x a b h; rw [scr_eq]; intro e he; rcases List.mem_cons.1 he with rfl | he; · simp
    exact h e he
  · intro x y a b hne hl h; rw [scr_del hne hl]; intro e he; rcases List.mem_cons.1 he with rfl | he; · simp
    exact h e he
  · intro x y a b hne hl h; rw [scr_ins hne hl]; intro e he; rcases List.mem_cons.1 he with rfl | he; · simp
    exact h e he
theorem scr_keep (a b : List α) : (keepL (scr a b)).length = lcs a b := by
  have h1 := keepL_dist (scr a b)
  have h2 := scr_len a b
  have h3 := scr_dist a b
  omega
/-- the script that is told: line by line, but where a rest is too long -/
def sc (a b : List α) : List (Int × α) := script 400 a b
/-- .. line by line -/
abbrev SS (a b : List α) : Prop := sc a b = scr a b
theorem SS.rest {a b : List α} (h : ¬ (400 < (a.drop (beg a b)).length ∨ 400 < (b.drop (beg a b)).length)) : SS a b := by
  unfold SS sc script
  rw [if_neg h, ← scr_front, List.take_append_drop]
  conv => lhs; arg 2; rw [beg_take]
  rw [List.take_append_drop]
theorem SS.of {a b : List α} (ha : a.length ≤ 400) (hb : b.length ≤ 400) : SS a b := script_short ha hb
theorem SS.self (a : List α) : SS a a := by
  refine SS.rest ?_
  have h : beg a a = a.length := by
    have := beg_front a [] ([] : List α)
    rw [List.append_nil] at this
    rw [this]
    rfl
  rw [h, List.drop_length]
  simp
theorem sc_old (a b : List α) : side 2 (sc a b) = a := script_old 400 a b
theorem sc_new (a b : List α) : side 3 (sc a b) = b := script_new 400 a b
theorem sc_len_le (a b : List α) (hk : kinds3 (sc a b)) : (sc a b).length ≤ a.length + b.length := by
  have := sides_len hk
  rw [sc_old, sc_new] at this
  omega
theorem sc_kinds (a b : List α) : kinds3 (sc a b) := by
  unfold sc script
  intro e he
  rcases List.mem_append.1 he with h | h
  · simp only [List.mem_map] at h
    obtain ⟨s, _, rfl⟩ := h
    simp
  · split at h
    · rcases List.mem_append.1 h with h | h
      all_goals
        simp only [List.mem_map] at h
        obtain ⟨s, _, rfl⟩ := h
        simp
    · exact scr_kinds _ _ e h
/-- a part of a script that leads from some lines to the same keeps them all -/
theorem part_keep {a b : List α} {s1 s2 s3 : List (Int × α)} (hss : SS a b) (h : sc a b = s1 ++ s2 ++ s3) (he : side 2 s2 = side 3 s2) : s2 = (side 2 s2).map fun x => ((1 : Int), x) := by
  rw [hss] at h
  have hk : kinds3 s2 := fun e hm => scr_kinds a b e (by rw [h]; simp [hm])
  have ha := scr_old a b
  have hb := scr_new a b
  have hl := scr_keep a b
  rw [h, side_append, side_append] at ha hb
  rw [h, keepL_append, keepL_append] at hl
  have c1 : (keepL s1 ++ side 2 s2 ++ keepL s3).Sublist a := by
    rw [← ha]; exact ((keepL_side 2 s1).append (List.Sublist.refl _)).append (keepL_side 2 s3)
  have c2 : (keepL s1 ++ side 2 s2 ++ keepL s3).Sublist b := by
    rw [← hb, he]; exact ((keepL_side 3 s1).append (List.Sublist.refl _)).append (keepL_side 3 s3)
  have c3 := lcs_all c1 c2
  simp only [List.length_append] at c3 hl
  have c4 := (keepL_side 2 s2).length_le
  have c5 := sides_len hk
  have c6 : (side 3 s2).length = (side 2 s2).length := by rw [he]
  have c7 : (keepL s2).length = s2.length := by omega
  have c8 : ∀ e ∈ s2, e.1 = 1 := by
    have : (s2.filter fun e => e.1 == 1).length = s2.length := by unfold keepL at c7; rwa [List.length_map] at c7
    intro e hm
    have := List.length_filter_eq_length_iff.1 this e hm
    simpa using this
  clear h ha hb hl c1 c2 c3 c4 c5 c6 c7 he hk
  induction s2 with
  | nil => rfl
  | cons e s ih =>
    have h1 := c8 e (List.mem_cons_self ..)
    rw [side_cons_yes (by simp [h1]), List.map_cons, ← ih fun e hm => c8 e (List.mem_cons_of_mem _ hm), ← h1]
end

end Go.Proofs.YtakgddochbcjbaaDoor
namespace Go.Proofs.YtakgddochbcjbaaDoor

section
variable {α : Type} [DecidableEq α]
/-- where line i of the one list stands in the other one; -1 -/
def at3 (a b : List α) (i : Nat) : Int := (plc (sc a b) 0).getD i (-1)
def Cut (s : List (Int × α)) (p o : Nat) : Prop := ∃ q, CutAt s q p o
theorem plc_size (a b : List α) : (plc (sc a b) 0).length = a.length := by rw [plc_len (sc_kinds a b), sc_old]
theorem at3_get {a b : List α} {i : Nat} (h : i < a.length) : (plc (sc a b) 0)[i]? = some (at3 a b i) := by
  unfold at3
  rw [List.getD_eq_getElem?_getD, List.getElem?_eq_getElem (by rw [plc_size]; exact h)]
  rfl
theorem at3_out {a b : List α} {i : Nat} (h : a.length ≤ i) : at3 a b i = -1 := by
  unfold at3
  rw [List.getD_eq_getElem?_getD, List.getElem?_eq_none (by rw [plc_size]; exact h)]
  rfl
theorem at3_in {a b : List α} {i : Nat} (h : 0 ≤ at3 a b i) : i < a.length := by
  rcases Nat.lt_or_ge i a.length with h1 | h1
  · exact h1
  · rw [at3_out h1] at h; omega
theorem at3_ge (a b : List α) (i : Nat) : -1 ≤ at3 a b i := by
  rcases Nat.lt_or_ge i a.length with h1 | h1
  · exact plc_neg (sc_kinds a b) (at3_get h1)
  · rw [at3_out h1]; omega
theorem at3_cut {a b : List α} {i j : Nat} (h : at3 a b i = j) : ∃ q, CutAt (sc a b) q i j ∧ CutAt (sc a b) (q + 1) (i + 1) (j + 1) := by
  have hi : i < a.length := at3_in (b := b) (by omega)
  obtain ⟨q, x, _, h1, h2⟩ := cut_keep (sc_kinds a b) (by rw [at3_get hi, h])
  exact ⟨q, h1, h2⟩
theorem cut_sides {a b : List α} {q p o : Nat} (h : CutAt (sc a b) q p o) : side 2 ((sc a b).take q) = a.take p ∧ side 3 ((sc a b).take q) = b.take o ∧ side 2 ((sc a b).drop q) = a.drop p ∧ side 3 ((sc a b).drop q) = b.drop o := by
  have h2 := sc_old a b
  have h3 := sc_new a b
  rw [← List.take_append_drop q (sc a b), side_append] at h2 h3
  have t2 := congrArg (List.take p) h2
  have t3 := congrArg (List.take o) h3
  have d2 := congrArg (List.drop p) h2
  have d3 := congrArg (List.drop o) h3
  rw [List.take_left' h.2.1] at t2
  rw [List.take_left' h.2.2] at t3
  rw [List.drop_left' h.2.1] at d2
  rw [List.drop_left' h.2.2] at d3
  exact ⟨t2, t3, d2, d3⟩
theorem cut_le {a b : List α} {q p o : Nat} (h : CutAt (sc a b) q p o) : p ≤ a.length ∧ o ≤ b.length := by
  have h1 := h.mono (CutAt.end_ (sc a b)) h.1
  rw [sc_old, sc_new] at h1
  exact h1
/-- a kept line is the same in both -/
theorem at3_same {a b : List α} {i j : Nat} (h : at3 a b i = j) : ∃ x, a[i]? = some x ∧ b[j]? = some x := by
  have hi : i < a.length := at3_in (b := b) (by omega)
  obtain ⟨s1, x, s3, e, h1, h2⟩ := plc_split (sc_kinds a b) (by rw [at3_get hi, h]) (by omega : (0 : Int) ≤ (j : Int))
  have ha := sc_old a b
  have hb := sc_new a b
  rw [e, side_append, side_cons_yes (by simp)] at ha hb
  refine ⟨x, ?_, ?_⟩
  · rw [← ha, ← h1]; simp
  · rw [← hb]
    have : j = (side 3 s1).length := by omega
    rw [this]; simp
/-- what lies between two cuts, alike on both sides, is kept -/
theorem piece_keep {a b : List α} {p o i j : Nat} (hss : SS a b) (h1 : Cut (sc a b) p o) (h2 : Cut (sc a b) i j) (he : (a.take i).drop p = (b.take j).drop o) {d : Nat} (hd : p + d < i) : at3 a b (p + d) = ((o + d : Nat) : Int) := by
  obtain ⟨q1, h1⟩ := h1
  obtain ⟨q2, h2⟩ := h2
  rcases Nat.lt_or_ge q2 q1 with hq | hq
  · have := h2.mono h1 (by omega); omega
  · have e1 := cut_sides h1
    have e2 := cut_sides h2
    have f2 := take_side (s := sc a b) 2 hq
    have f3 := take_side (s := sc a b) 3 hq
    rw [e1.1, e2.1] at f2
    rw [e1.2.1, e2.2.1] at f3
    have hs : sc a b = (sc a b).take q1 ++ ((sc a b).take q2).drop q1 ++ (sc a b).drop q2 := by
      have : (sc a b).take q1 = ((sc a b).take q2).take q1 := by rw [List.take_take, Nat.min_eq_left hq]
      rw [this, List.take_append_drop, List.take_append_drop]
    have hle := cut_le h1
    have hle2 := cut_le h2
    have g2 : side 2 (((sc a b).take q2).drop q1) = (a.take i).drop p := by
      rw [f2, List.drop_left' (by rw [List.length_take]; omega)]
    have g3 : side 3 (((sc a b).take q2).drop q1) = (b.take j).drop o := by
      rw [f3, List.drop_left' (by rw [List.length_take]; omega)]
    have hp := part_keep hss hs (by rw [g2, g3, he])
    rw [g2] at hp
    have hia : p + d < a.length := by omega
    have hg := at3_get (b := b) hia
    rw [hs, List.append_assoc, plc_app _ (fun e hm => sc_kinds a b e (List.mem_of_mem_take hm)), Nat.zero_add, e1.2.1, hp] at hg
    have hk : kinds3 (((a.take i).drop p).map fun x => ((1 : Int), x)) := by
      intro e hm; simp only [List.mem_map] at hm; obtain ⟨x, _, rfl⟩ := hm; simp
    have hlen1 : (plc ((sc a b).take q1) 0).length = p := by rw [plc_len (fun e hm => sc_kinds a b e (List.mem_of_mem_take hm)), e1.1, List.length_take]; omega
    rw [List.getElem?_append_right (by omega), hlen1, Nat.add_sub_cancel_left, plc_app _ hk] at hg
    have hz : d < ((a.take i).drop p).length := by rw [List.length_drop, List.length_take]; omega
    have hob : (b.take o).length = o := by rw [List.length_take]; omega
    rw [List.getElem?_append_left (by rw [plc_len hk, side_map_yes (by decide)]; exact hz), hob, plc_all _ _ _ hz] at hg
    exact (Option.some.inj hg).symm
end

end Go.Proofs.YtakgddochbcjbaaDoor
namespace Go.Proofs.YtakgddochbcjbaaDoor

/-- line i + n goes on, in both, where line i stands -/
def goesOn (X Y : Nat → Int) (len i n : Nat) : Prop := i + n < len ∧ X (i + n) = X i + n ∧ Y (i + n) = Y i + n
instance (X Y : Nat → Int) (len i n : Nat) : Decidable (goesOn X Y len i n) := by unfold goesOn; infer_instance
/-- how many lines go on, from n on -/
def ext (X Y : Nat → Int) (len i : Nat) : Nat → Nat → Nat
  | 0, n => n
  | f + 1, n => if goesOn X Y len i n then ext X Y len i f (n + 1) else n
theorem ext_ge (X Y : Nat → Int) (len i : Nat) : ∀ f n, n ≤ ext X Y len i f n
  | 0, n => Nat.le_refl _
  | f + 1, n => by
    rw [ext]
    split
    · exact Nat.le_trans (Nat.le_succ n) (ext_ge X Y len i f (n + 1))
    · exact Nat.le_refl _
theorem ext_all (X Y : Nat → Int) (len i : Nat) : ∀ f n d, n ≤ d → d < ext X Y len i f n → goesOn X Y len i d
  | 0, n, d, h1, h2 => by rw [ext] at h2; omega
  | f + 1, n, d, h1, h2 => by
    rw [ext] at h2
    split at h2
    · rename_i hg
      rcases Nat.eq_or_lt_of_le h1 with rfl | h3
      · exact hg
      · exact ext_all X Y len i f (n + 1) d h3 h2
    · omega
theorem ext_stop (X Y : Nat → Int) (len i : Nat) : ∀ f n, len ≤ i + n + f → ¬ goesOn X Y len i (ext X Y len i f n)
  | 0, n, h => by rw [ext]; intro hg; have := hg.1; omega
  | f + 1, n, h => by
    rw [ext]
    split
    · exact ext_stop X Y len i f (n + 1) (by omega)
    · assumption

section
variable {α : Type} [DecidableEq α]
/-- what a piece of three lists is -/
def knd (b o t : List α) : Int := if o = b then 3 else if t = b then 2 else if o = t then 4 else 5
/-- a chunk: its kind, and its three lists -/
abbrev Chk (α : Type) := Int × List α × List α × List α
def pieceC (b o t : List α) : List (Chk α) := if b.length + o.length + t.length = 0 then [] else [(knd b o t, b, o, t)]
def seg (l : List α) (i j : Nat) : List α := (l.take j).drop i
def runN (a b c : List α) (i : Nat) : Nat := ext (at3 a b) (at3 a c) a.length i a.length 1
theorem runN_pos (a b c : List α) (i : Nat) : 1 ≤ runN a b c i := ext_ge _ _ _ _ _ _
def chGo (a b c : List α) (i p o t : Nat) : List (Chk α) :=
  if i < a.length then
    if at3 a b i < 0 ∨ at3 a c i < 0 then chGo a b c (i + 1) p o t
    else
      pieceC (seg a p i) (seg b o (at3 a b i).toNat) (seg c t (at3 a c i).toNat) ++ (1, seg a i (i + runN a b c i), seg a i (i + runN a b c i), seg a i (i + runN a b c i)) ::
        chGo a b c (i + runN a b c i) (i + runN a b c i) ((at3 a b i).toNat + runN a b c i) ((at3 a c i).toNat + runN a b c i)
  else pieceC (a.drop p) (b.drop o) (c.drop t)
termination_by a.length - i
decreasing_by
  · omega
  · have := runN_pos a b c i
    omega

/-- the state of the walk through base -/
structure AtC (a b c : List α) (i p o t : Nat) : Prop where
  le : p ≤ i
  top : i ≤ a.length
  ours : Cut (sc a b) p o
  theirs : Cut (sc a c) p t
  none : ∀ j, p ≤ j → j < i → at3 a b j < 0 ∨ at3 a c j < 0
theorem AtC.start (a b c : List α) : AtC a b c 0 0 0 0 := ⟨Nat.le_refl _, Nat.zero_le _, ⟨0, CutAt.start _⟩, ⟨0, CutAt.start _⟩, fun j _ h => absurd h (by omega)⟩
theorem AtC.skip {a b c : List α} {i p o t : Nat} (h : AtC a b c i p o t) (hi : i < a.length) (hn : at3 a b i < 0 ∨ at3 a c i < 0) : AtC a b c (i + 1) p o t :=
  ⟨Nat.le_succ_of_le h.le, hi, h.ours, h.theirs, fun j h1 h2 => by
    rcases Nat.lt_or_ge j i with h3 | h3
    · exact h.none j h1 h3
    · obtain rfl : j = i := by omega
      exact hn⟩
/-- the lines of a run, one by one -/
theorem run_all {a b c : List α} {i x y : Nat} (hi : i < a.length) (hx : at3 a b i = x) (hy : at3 a c i = y) {d : Nat} (hd : d < runN a b c i) : i + d < a.length ∧ at3 a b (i + d) = ((x + d : Nat) : Int) ∧ at3 a c (i + d) = ((y + d : Nat) : Int) := by
  cases d with
  | zero => exact ⟨hi, hx, hy⟩
  | succ d =>
    obtain ⟨h1, h2, h3⟩ := ext_all _ _ _ _ _ _ (d + 1) (by omega) hd
    refine ⟨h1, ?_, ?_⟩
    · rw [h2, hx]; omega
    · rw [h3, hy]; omega
theorem run_stop {a b c : List α} {i x y : Nat} (hx : at3 a b i = x) (hy : at3 a c i = y) : ¬ (i + runN a b c i < a.length ∧ at3 a b (i + runN a b c i) = ((x + runN a b c i : Nat) : Int) ∧ at3 a c (i + runN a b c i) = ((y + runN a b c i : Nat) : Int)) := by
  intro ⟨h1, h2, h3⟩
  refine ext_stop (at3 a b) (at3 a c) a.length i a.length 1 (by omega) ⟨h1, ?_, ?_⟩
  · rw [hx]; change at3 a b (i + runN a b c i) = _; rw [h2]; change _ = (x : Int) + (runN a b c i : Nat); omega
  · rw [hy]; change at3 a c (i + runN a b c i) = _; rw [h3]; change _ = (y : Int) + (runN a b c i : Nat); omega
theorem AtC.next {a b c : List α} {i x y : Nat} (hi : i < a.length) (hx : at3 a b i = x) (hy : at3 a c i = y) : AtC a b c (i + runN a b c i) (i + runN a b c i) (x + runN a b c i) (y + runN a b c i) := by
  have hp := runN_pos a b c i
  obtain ⟨n, hn⟩ : ∃ n, runN a b c i = n + 1 := ⟨runN a b c i - 1, by omega⟩
  obtain ⟨h1, h2, h3⟩ := run_all hi hx hy (show n < runN a b c i by omega)
  obtain ⟨q, _, c1⟩ := at3_cut h2
  obtain ⟨r, _, c2⟩ := at3_cut h3
  rw [hn]
  exact ⟨Nat.le_refl _, by omega, ⟨_, c1⟩, ⟨_, c2⟩, fun j g1 g2 => by omega⟩
theorem AtC.before {a b c : List α} {i p o t x y : Nat} (h : AtC a b c i p o t) (hx : at3 a b i = x) (hy : at3 a c i = y) : o ≤ x ∧ t ≤ y := by
  obtain ⟨q, h1⟩ := h.ours
  obtain ⟨r, h2⟩ := h.theirs
  obtain ⟨q', g1, g1'⟩ := at3_cut hx
  obtain ⟨r', g2, g2'⟩ := at3_cut hy
  exact ⟨(h1.mono g1 (cut_before h1 g1' h.le)).2, (h2.mono g2 (cut_before h2 g2' h.le)).2⟩
/-- a piece that is alike on all three sides has none of base's lines -/
theorem AtC.alike {a b c : List α} {i p o t x y : Nat} (s1 : SS a b) (s2 : SS a c) (h : AtC a b c i p o t) (h1 : Cut (sc a b) i x) (h2 : Cut (sc a c) i y) (e1 : seg a p i = seg b o x) (e2 : seg a p i = seg c t y) : p = i := by
  rcases Nat.lt_or_ge p i with hlt | hge
  · have k1 := piece_keep s1 h.ours h1 e1 (d := 0) hlt
    have k2 := piece_keep s2 h.theirs h2 e2 (d := 0) hlt
    rcases h.none p (Nat.le_refl _) hlt with h3 | h3
    · rw [Nat.add_zero] at k1; omega
    · rw [Nat.add_zero] at k2; omega
  · have := h.le; omega
/-- whatever holds at the end, and goes on from piece to piece, holds of all chunks -/
theorem chGo_ind {a b c : List α} {M : Nat → Nat → Nat → Nat → List (Chk α) → Prop}
    (hend : ∀ p o t, AtC a b c a.length p o t → M a.length p o t (pieceC (a.drop p) (b.drop o) (c.drop t)))
    (hskip : ∀ i p o t l, AtC a b c i p o t → i < a.length → (at3 a b i < 0 ∨ at3 a c i < 0) → M (i + 1) p o t l → M i p o t l)
    (hrun : ∀ i p o t x y l, AtC a b c i p o t → i < a.length → at3 a b i = (x : Nat) → at3 a c i = (y : Nat) → o ≤ x → t ≤ y → M (i + runN a b c i) (i + runN a b c i) (x + runN a b c i) (y + runN a b c i) l →
      M i p o t (pieceC (seg a p i) (seg b o x) (seg c t y) ++ (1, seg a i (i + runN a b c i), seg a i (i + runN a b c i), seg a i (i + runN a b c i)) :: l)) :
    ∀ (f i p o t : Nat), a.length - i ≤ f → AtC a b c i p o t → M i p o t (chGo a b c i p o t) := by
  intro f
  induction f with
  | zero =>
    intro i p o t hf h
    have hi : i = a.length := by have := h.top; omega
    subst hi
    rw [chGo, if_neg (by omega)]
    exact hend p o t h
  | succ f ih =>
    intro i p o t hf h
    rcases Nat.lt_or_ge i a.length with hi | hi
    · rw [chGo, if_pos hi]
      by_cases hn : at3 a b i < 0 ∨ at3 a c i < 0
      · rw [if_pos hn]
        exact hskip i p o t _ h hi hn (ih _ _ _ _ (by omega) (h.skip hi hn))
      · rw [if_neg hn]
        obtain ⟨x, hx⟩ : ∃ x : Nat, at3 a b i = x := ⟨(at3 a b i).toNat, by omega⟩
        obtain ⟨y, hy⟩ : ∃ y : Nat, at3 a c i = y := ⟨(at3 a c i).toNat, by omega⟩
        rw [hx, hy, Int.toNat_natCast, Int.toNat_natCast]
        have hb := h.before hx hy
        have hp := runN_pos a b c i
        exact hrun i p o t x y _ h hi hx hy hb.1 hb.2 (ih _ _ _ _ (by omega) (AtC.next hi hx hy))
    · have hi : i = a.length := by have := h.top; omega
      subst hi
      rw [chGo, if_neg (by omega)]
      exact hend p o t h
def chunks (a b c : List α) : List (Chk α) := chGo a b c 0 0 0 0
end

end Go.Proofs.YtakgddochbcjbaaDoor
namespace Go.Proofs.YtakgddochbcjbaaDoor

section
variable {α : Type}
theorem seg_get (l : List α) (i j k : Nat) : (seg l i j)[k]? = if i + k < j then l[i + k]? else none := by
  unfold seg
  rw [List.getElem?_drop, List.getElem?_take]
theorem seg_len (l : List α) {i j : Nat} (h : j ≤ l.length) : (seg l i j).length = j - i := by
  unfold seg; rw [List.length_drop, List.length_take, Nat.min_eq_left h]
theorem seg_drop (l : List α) {i j : Nat} (h1 : i ≤ j) (h2 : j ≤ l.length) : seg l i j ++ l.drop j = l.drop i := by
  unfold seg
  conv => rhs; rw [← List.take_append_drop j l]
  rw [List.drop_append_of_le_length (by rw [List.length_take]; omega)]
theorem seg_nil {l : List α} {i j : Nat} (h1 : i ≤ j) (h2 : j ≤ l.length) (h : seg l i j = []) : i = j := by
  have := seg_len l (i := i) h2
  rw [h] at this
  simp at this
  omega
theorem seg_same (l : List α) (i : Nat) : seg l i i = [] := by unfold seg; rw [List.drop_eq_nil_of_le]; rw [List.length_take]; omega
theorem drop_end (l : List α) (i : Nat) : l.drop i = seg l i l.length := by unfold seg; rw [List.take_length]
end

section
variable {α : Type} [DecidableEq α]
theorem pieceC_nil {b o t : List α} (h1 : b = []) (h2 : o = []) (h3 : t = []) : pieceC b o t = [] := by subst h1 h2 h3; rfl
theorem pieceC_one {b o t : List α} (h : ¬ (b = [] ∧ o = [] ∧ t = [])) : pieceC b o t = [(knd b o t, b, o, t)] := by
  unfold pieceC
  rw [if_neg]
  intro hl
  refine h ⟨List.eq_nil_of_length_eq_zero (by omega), List.eq_nil_of_length_eq_zero (by omega), List.eq_nil_of_length_eq_zero (by omega)⟩
theorem pieceC_flat {β : Type} (f : Chk α → List β) {b o t : List α} (h : b = [] → o = [] → t = [] → f (knd b o t, b, o, t) = []) : (pieceC b o t).flatMap f = f (knd b o t, b, o, t) := by
  by_cases hn : b = [] ∧ o = [] ∧ t = []
  · rw [pieceC_nil hn.1 hn.2.1 hn.2.2, h hn.1 hn.2.1 hn.2.2]; rfl
  · rw [pieceC_one hn]; simp
theorem run_same {a b c : List α} {i x y : Nat} (hi : i < a.length) (hx : at3 a b i = x) (hy : at3 a c i = y) : seg a i (i + runN a b c i) = seg b x (x + runN a b c i) ∧ seg a i (i + runN a b c i) = seg c y (y + runN a b c i) := by
  refine ⟨List.ext_getElem? fun k => ?_, List.ext_getElem? fun k => ?_⟩
  · rw [seg_get, seg_get]
    by_cases hk : k < runN a b c i
    · rw [if_pos (by omega), if_pos (by omega)]
      obtain ⟨z, h1, h2⟩ := at3_same (run_all hi hx hy hk).2.1
      rw [h1, h2]
    · rw [if_neg (by omega), if_neg (by omega)]
  · rw [seg_get, seg_get]
    by_cases hk : k < runN a b c i
    · rw [if_pos (by omega), if_pos (by omega)]
      obtain ⟨z, h1, h2⟩ := at3_same (run_all hi hx hy hk).2.2
      rw [h1, h2]
    · rw [if_neg (by omega), if_neg (by omega)]
theorem run_top {a b c : List α} {i x y : Nat} (hi : i < a.length) (hx : at3 a b i = x) (hy : at3 a c i = y) : i + runN a b c i ≤ a.length ∧ x + runN a b c i ≤ b.length ∧ y + runN a b c i ≤ c.length := by
  have h := AtC.next hi hx hy
  obtain ⟨q, h1⟩ := h.ours
  obtain ⟨r, h2⟩ := h.theirs
  exact ⟨h.top, (cut_le h1).2, (cut_le h2).2⟩
theorem AtC.tops {a b c : List α} {i p o t : Nat} (h : AtC a b c i p o t) : p ≤ a.length ∧ o ≤ b.length ∧ t ≤ c.length := by
  obtain ⟨q, h1⟩ := h.ours
  obtain ⟨r, h2⟩ := h.theirs
  exact ⟨(cut_le h1).1, (cut_le h1).2, (cut_le h2).2⟩

/-- one behind the other, the chunks are the three lists -/
theorem chunks_whole (a b c : List α) : (chunks a b c).flatMap (·.2.1) = a ∧ (chunks a b c).flatMap (·.2.2.1) = b ∧ (chunks a b c).flatMap (·.2.2.2) = c := by
  refine chGo_ind (a := a) (b := b) (c := c) (M := fun _ p o t l => l.flatMap (·.2.1) = a.drop p ∧ l.flatMap (·.2.2.1) = b.drop o ∧ l.flatMap (·.2.2.2) = c.drop t) ?_ ?_ ?_ a.length 0 0 0 0 (by omega) (AtC.start a b c)
  · intro p o t h
    exact ⟨pieceC_flat _ fun h _ _ => h, pieceC_flat _ fun _ h _ => h, pieceC_flat _ fun _ _ h => h⟩
  · intro i p o t l h hi hn hM; exact hM
  · intro i p o t x y l h hi hx hy ho ht ⟨m1, m2, m3⟩
    have hs := run_same hi hx hy
    have ht3 := run_top hi hx hy
    refine ⟨?_, ?_, ?_⟩
    · rw [List.flatMap_append, pieceC_flat _ fun h _ _ => h, List.flatMap_cons, m1, seg_drop a (Nat.le_add_right _ _) ht3.1, seg_drop a h.le h.top]
    · rw [List.flatMap_append, pieceC_flat _ fun _ h _ => h, List.flatMap_cons, m2]
      dsimp only
      rw [hs.1, seg_drop b (Nat.le_add_right _ _) ht3.2.1, seg_drop b ho (by omega)]
    · rw [List.flatMap_append, pieceC_flat _ fun _ _ h => h, List.flatMap_cons, m3]
      dsimp only
      rw [hs.2, seg_drop c (Nat.le_add_right _ _) ht3.2.2, seg_drop c ht (by omega)]

/-- the kind that a chunk should be of -/
def kindOf (b o t : List α) : Int := if o = b ∧ t = b then 1 else knd b o t
def RightK (ch : Chk α) : Prop := ch.1 = kindOf ch.2.1 ch.2.2.1 ch.2.2.2 ∧ ¬ (ch.2.1 = [] ∧ ch.2.2.1 = [] ∧ ch.2.2.2 = [])
theorem knd_ne (b o t : List α) : knd b o t ≠ 1 := by unfold knd; split <;> (try split) <;> (try split) <;> decide
theorem piece_right {b o t : List α} (h : o = b → t = b → b = []) : ∀ ch ∈ pieceC b o t, RightK ch := by
  by_cases hn : b = [] ∧ o = [] ∧ t = []
  · rw [pieceC_nil hn.1 hn.2.1 hn.2.2]; simp
  · rw [pieceC_one hn]
    intro ch hc
    obtain rfl := List.mem_singleton.1 hc
    refine ⟨?_, hn⟩
    dsimp only [kindOf]
    rw [if_neg]
    rintro ⟨h1, h2⟩
    have := h h1 h2
    exact hn ⟨this, by rw [h1, this], by rw [h2, this]⟩
theorem AtC.alone {a b c : List α} {i p o t x y : Nat} (s1 : SS a b) (s2 : SS a c) (h : AtC a b c i p o t) (hx : at3 a b i = x) (hy : at3 a c i = y) (h1 : seg b o x = seg a p i) (h2 : seg c t y = seg a p i) : seg a p i = [] := by
  obtain ⟨q, c1, _⟩ := at3_cut hx
  obtain ⟨r, c2, _⟩ := at3_cut hy
  have := AtC.alike s1 s2 h ⟨q, c1⟩ ⟨r, c2⟩ h1.symm h2.symm
  rw [this, seg_same]
theorem AtC.aloneEnd {a b c : List α} {p o t : Nat} (s1 : SS a b) (s2 : SS a c) (h : AtC a b c a.length p o t) (h1 : b.drop o = a.drop p) (h2 : c.drop t = a.drop p) : a.drop p = [] := by
  have c1 := CutAt.end_ (sc a b)
  have c2 := CutAt.end_ (sc a c)
  rw [sc_old, sc_new] at c1 c2
  rw [drop_end a, drop_end b] at h1
  rw [drop_end a, drop_end c] at h2
  have := AtC.alike s1 s2 h ⟨_, c1⟩ ⟨_, c2⟩ h1.symm h2.symm
  rw [this, List.drop_length]
theorem chunks_right (a b c : List α) (s1 : SS a b) (s2 : SS a c) : ∀ ch ∈ chunks a b c, RightK ch := by
  refine chGo_ind (a := a) (b := b) (c := c) (M := fun _ _ _ _ l => ∀ ch ∈ l, RightK ch) ?_ ?_ ?_ a.length 0 0 0 0 (by omega) (AtC.start a b c)
  · intro p o t h; exact piece_right fun h1 h2 => AtC.aloneEnd s1 s2 h h1 h2
  · intro i p o t l h hi hn hM; exact hM
  · intro i p o t x y l h hi hx hy ho ht hM ch hc
    rcases List.mem_append.1 hc with hc | hc
    · exact piece_right (fun h1 h2 => AtC.alone s1 s2 h hx hy h1 h2) ch hc
    · rcases List.mem_cons.1 hc with rfl | hc
      · refine ⟨by simp [kindOf], fun hn => ?_⟩
        have h1 := seg_len a (i := i) (run_top hi hx hy).1
        have h2 := runN_pos a b c i
        have h4 : seg a i (i + runN a b c i) = [] := hn.1
        have h3 : (seg a i (i + runN a b c i)).length = 0 := by rw [h4]; rfl
        omega
      · exact hM ch hc
/-- no two Stable ones side by side -/
def noTwo : List (Chk α) → Prop
  | [] => True
  | ch :: l => (ch.1 = 1 → ∀ d, l.head? = some d → d.1 ≠ 1) ∧ noTwo l
theorem chunks_noTwo (a b c : List α) : noTwo (chunks a b c) := by
  refine (chGo_ind (a := a) (b := b) (c := c) (M := fun _ p o t l => noTwo l ∧ ∀ d, l.head? = some d → d.1 = 1 → p < a.length ∧ at3 a b p = o ∧ at3 a c p = t) ?_ ?_ ?_ a.length 0 0 0 0 (by omega) (AtC.start a b c)).1
  · intro p o t h
    by_cases hn : a.drop p = [] ∧ b.drop o = [] ∧ c.drop t = []
    · rw [pieceC_nil hn.1 hn.2.1 hn.2.2]; exact ⟨trivial, by simp⟩
    · rw [pieceC_one hn]
      refine ⟨⟨fun h1 => absurd h1 (knd_ne _ _ _), trivial⟩, fun d hd h1 => ?_⟩
      simp only [List.head?_cons, Option.some.injEq] at hd
      subst hd
      exact absurd h1 (knd_ne _ _ _)
  · intro i p o t l h hi hn hM; exact hM
  · intro i p o t x y l h hi hx hy ho ht ⟨m1, m2⟩
    have hst : noTwo ((1, seg a i (i + runN a b c i), seg a i (i + runN a b c i), seg a i (i + runN a b c i)) :: l) := by
      refine ⟨fun _ d hd h1 => ?_, m1⟩
      have := m2 d hd h1
      exact run_stop hx hy this
    by_cases hn : seg a p i = [] ∧ seg b o x = [] ∧ seg c t y = []
    · rw [pieceC_nil hn.1 hn.2.1 hn.2.2, List.nil_append]
      have ht3 := run_top hi hx hy
      have e1 := seg_nil h.le h.top hn.1
      have e2 := seg_nil ho (by omega) hn.2.1
      have e3 := seg_nil ht (by omega) hn.2.2
      refine ⟨hst, fun d _ _ => ?_⟩
      rw [e1, e2, e3]
      exact ⟨hi, hx, hy⟩
    · rw [pieceC_one hn]
      refine ⟨⟨fun h1 => absurd h1 (knd_ne _ _ _), hst⟩, fun d hd h1 => ?_⟩
      simp only [List.cons_append, List.head?_cons, Option.some.injEq] at hd
      subst hd
      exact absurd h1 (knd_ne _ _ _)

/-- of three that have nothing firm there is one piece, or none -/
theorem chunks_none {a b c : List α} (h : ∀ x ∈ a, x ∉ b) : chunks a b c = pieceC a b c := by
  refine (chGo_ind (a := a) (b := b) (c := c) (M := fun _ p o t l => p = 0 → o = 0 → t = 0 → l = pieceC a b c) ?_ ?_ ?_ a.length 0 0 0 0 (by omega) (AtC.start a b c)) rfl rfl rfl
  · intro p o t _ h1 h2 h3; subst h1 h2 h3; rfl
  · intro i p o t l _ hi hn hM; exact hM
  · intro i p o t x y l _ hi hx hy ho ht _
    obtain ⟨z, h1, h2⟩ := at3_same hx
    exact absurd (List.mem_of_getElem? h2) (h z (List.mem_of_getElem? h1))
end

end Go.Proofs.YtakgddochbcjbaaDoor
namespace Go.Proofs.YtakgddochbcjbaaDoor

theorem goesOn_comm {X Y : Nat → Int} {len i n : Nat} : goesOn X Y len i n ↔ goesOn Y X len i n := ⟨fun ⟨h1, h2, h3⟩ => ⟨h1, h3, h2⟩, fun ⟨h1, h2, h3⟩ => ⟨h1, h3, h2⟩⟩
theorem ext_comm (X Y : Nat → Int) (len i : Nat) : ∀ f n, ext X Y len i f n = ext Y X len i f n
  | 0, n => rfl
  | f + 1, n => by
    rw [ext, ext, ext_comm X Y len i f (n + 1)]
    by_cases h : goesOn X Y len i n
    · rw [if_pos h, if_pos (goesOn_comm.1 h)]
    · rw [if_neg h, if_neg (fun h2 => h (goesOn_comm.1 h2))]

section
variable {α : Type}
/-- whether nothing clashes -/
def cleanC (l : List (Chk α)) : Bool := l.all fun ch => ch.1 != 5
/-- what the chunks come to -/
def mergeC (l : List (Chk α)) : List α := l.flatMap fun ch => if ch.1 = 3 then ch.2.2.2 else ch.2.2.1

theorem merge_congr {l : List (Chk α)} (f : Chk α → List α) (h : ∀ ch ∈ l, (if ch.1 = 3 then ch.2.2.2 else ch.2.2.1) = f ch) : mergeC l = l.flatMap f := by
  unfold mergeC
  induction l with
  | nil => rfl
  | cons ch l ih => rw [List.flatMap_cons, List.flatMap_cons, h ch (List.mem_cons_self ..), ih fun d hd => h d (List.mem_cons_of_mem _ hd)]

end

section
variable {α : Type} [DecidableEq α]
theorem at3_self {a : List α} {i : Nat} (h : i < a.length) : at3 a a i = i := by
  have c1 : Cut (sc a a) 0 0 := ⟨0, CutAt.start _⟩
  have c2 := CutAt.end_ (sc a a)
  rw [sc_old, sc_new] at c2
  have := piece_keep (SS.self a) c1 ⟨_, c2⟩ rfl (d := i) (by omega)
  simpa using this
theorem kindOf_ours {b t : List α} : kindOf b b t ≠ 5 ∧ (kindOf b b t = 3 ∨ t = b) := by
  unfold kindOf knd
  by_cases h : t = b
  · rw [if_pos ⟨rfl, h⟩]; exact ⟨by decide, .inr h⟩
  · rw [if_neg (fun hh => h hh.2), if_pos rfl]; exact ⟨by decide, .inl rfl⟩
theorem kindOf_theirs {b o : List α} : kindOf b o b ≠ 5 ∧ (kindOf b o b ≠ 3 ∨ o = b) := by
  unfold kindOf knd
  by_cases h : o = b
  · rw [if_pos ⟨h, rfl⟩]; exact ⟨by decide, .inr h⟩
  · rw [if_neg (fun hh => h hh.1), if_neg h, if_pos rfl]; exact ⟨by decide, .inl (by decide)⟩
theorem kindOf_both {b o : List α} : kindOf b o o ≠ 5 := by
  unfold kindOf knd
  by_cases h : o = b
  · rw [if_pos ⟨h, h⟩]; decide
  · rw [if_neg (fun hh => h hh.1), if_neg h, if_neg h, if_pos rfl]; decide
theorem clean_all {l : List (Chk α)} (h : ∀ ch ∈ l, RightK ch ∧ (ch.2.2.1 = ch.2.1 ∨ ch.2.2.2 = ch.2.1 ∨ ch.2.2.1 = ch.2.2.2)) : cleanC l = true := by
  unfold cleanC
  rw [List.all_eq_true]
  intro ch hc
  obtain ⟨⟨hk, _⟩, h2⟩ := h ch hc
  rw [bne_iff_ne, hk]
  rcases h2 with h2 | h2 | h2
  · rw [h2]; exact kindOf_ours.1
  · rw [h2]; exact kindOf_theirs.1
  · rw [h2]; exact kindOf_both
/-- where ours is as base, each chunk's ours is its base -/
theorem ours_same (a c : List α) : ∀ ch ∈ chunks a a c, ch.2.2.1 = ch.2.1 := by
  refine (chGo_ind (a := a) (b := a) (c := c) (M := fun _ p o _ l => o = p → ∀ ch ∈ l, ch.2.2.1 = ch.2.1) ?_ ?_ ?_ a.length 0 0 0 0 (by omega) (AtC.start a a c)) rfl
  · intro p o t _ hop ch hc
    subst hop
    unfold pieceC at hc
    split at hc
    · cases hc
    · obtain rfl := List.mem_singleton.1 hc; rfl
  · intro i p o t l _ _ _ hM; exact hM
  · intro i p o t x y l _ hi hx hy _ _ hM hop ch hc
    subst hop
    have hxi : x = i := by rw [at3_self hi] at hx; omega
    subst hxi
    rcases List.mem_append.1 hc with hc | hc
    · unfold pieceC at hc
      split at hc
      · cases hc
      · obtain rfl := List.mem_singleton.1 hc; rfl
    · rcases List.mem_cons.1 hc with rfl | hc
      · rfl
      · exact hM rfl ch hc
/-- with ours and theirs exchanged -/
def turnC (ch : Chk α) : Chk α := (if ch.1 = 2 then 3 else if ch.1 = 3 then 2 else ch.1, ch.2.1, ch.2.2.2, ch.2.2.1)
theorem runN_turn (a b c : List α) (i : Nat) : runN a c b i = runN a b c i := ext_comm _ _ _ _ _ _
theorem knd_turn {b o t : List α} (h : ¬ (o = b ∧ t = b)) : knd b t o = (if knd b o t = 2 then 3 else if knd b o t = 3 then 2 else knd b o t) := by
  unfold knd
  by_cases h1 : o = b
  · have h2 : t ≠ b := fun e => h ⟨h1, e⟩
    rw [if_pos h1, if_neg h2, if_pos h1]; rfl
  · by_cases h2 : t = b
    · rw [if_pos h2, if_neg h1, if_pos h2]; rfl
    · rw [if_neg h2, if_neg h1, if_neg h1, if_neg h2]
      by_cases h3 : o = t
      · rw [if_pos h3, if_pos h3.symm]; rfl
      · rw [if_neg h3, if_neg (fun e => h3 e.symm)]; rfl
theorem pieceC_turn {b o t : List α} (h : o = b → t = b → b = []) : pieceC b t o = (pieceC b o t).map turnC := by
  by_cases hn : b = [] ∧ o = [] ∧ t = []
  · rw [pieceC_nil hn.1 hn.2.1 hn.2.2, pieceC_nil hn.1 hn.2.2 hn.2.1]; rfl
  · rw [pieceC_one hn, pieceC_one (fun h => hn ⟨h.1, h.2.2, h.2.1⟩)]
    have hne : ¬ (o = b ∧ t = b) := fun ⟨h1, h2⟩ => by
      have := h h1 h2
      exact hn ⟨this, by rw [h1, this], by rw [h2, this]⟩
    rw [knd_turn hne]
    rfl
theorem chunks_turn (a b c : List α) (s1 : SS a b) (s2 : SS a c) : chunks a c b = (chunks a b c).map turnC := by
  refine chGo_ind (a := a) (b := b) (c := c) (M := fun i p o t l => chGo a c b i p t o = l.map turnC) ?_ ?_ ?_ a.length 0 0 0 0 (by omega) (AtC.start a b c)
  · intro p o t h
    rw [chGo, if_neg (by omega)]
    exact pieceC_turn fun h1 h2 => AtC.aloneEnd s1 s2 h h1 h2
  · intro i p o t l h hi hn hM
    rw [chGo, if_pos hi, if_pos hn.symm]
    exact hM
  · intro i p o t x y l h hi hx hy ho ht hM
    rw [chGo, if_pos hi, if_neg (by omega), hx, hy, Int.toNat_natCast, Int.toNat_natCast, runN_turn, hM, List.map_append, List.map_cons, pieceC_turn fun h1 h2 => AtC.alone s1 s2 h hx hy h1 h2]
    rfl
theorem theirs_same (a b : List α) (s1 : SS a b) : ∀ ch ∈ chunks a b a, ch.2.2.2 = ch.2.1 := by
  intro ch hc
  rw [chunks_turn a a b (SS.self a) s1, List.mem_map] at hc
  obtain ⟨d, hd, rfl⟩ := hc
  exact ours_same a b d hd
theorem both_same (a b : List α) : ∀ ch ∈ chunks a b b, ch.2.2.1 = ch.2.2.2 := by
  refine (chGo_ind (a := a) (b := b) (c := b) (M := fun _ _ o t l => o = t → ∀ ch ∈ l, ch.2.2.1 = ch.2.2.2) ?_ ?_ ?_ a.length 0 0 0 0 (by omega) (AtC.start a b b)) rfl
  · intro p o t _ hop ch hc
    subst hop
    unfold pieceC at hc
    split at hc
    · cases hc
    · obtain rfl := List.mem_singleton.1 hc; rfl
  · intro i p o t l _ _ _ hM; exact hM
  · intro i p o t x y l _ hi hx hy _ _ hM hop ch hc
    subst hop
    have hxy : x = y := by rw [hx] at hy; omega
    subst hxy
    rcases List.mem_append.1 hc with hc | hc
    · unfold pieceC at hc
      split at hc
      · cases hc
      · obtain rfl := List.mem_singleton.1 hc; rfl
    · rcases List.mem_cons.1 hc with rfl | hc
      · rfl
      · exact hM rfl ch hc

/-- where one side is as base, or both are alike: clean, and it comes to the other one -/
theorem one_ours (a b : List α) (s1 : SS a b) : cleanC (chunks a a b) = true ∧ mergeC (chunks a a b) = b := by
  have h1 := ours_same a b
  have h2 := chunks_right a a b (SS.self a) s1
  refine ⟨clean_all fun ch hc => ⟨h2 ch hc, .inl (h1 ch hc)⟩, ?_⟩
  rw [merge_congr (fun ch => ch.2.2.2) fun ch hc => ?_]
  · exact (chunks_whole a a b).2.2
  · have hk := (h2 ch hc).1
    rw [h1 ch hc] at hk
    split
    · rfl
    · rename_i hne
      rcases (kindOf_ours (b := ch.2.1) (t := ch.2.2.2)).2 with h3 | h3
      · exact absurd (hk.trans h3) hne
      · rw [h1 ch hc, h3]
theorem one_theirs (a b : List α) (s1 : SS a b) : cleanC (chunks a b a) = true ∧ mergeC (chunks a b a) = b := by
  have h1 := theirs_same a b s1
  have h2 := chunks_right a b a s1 (SS.self a)
  refine ⟨clean_all fun ch hc => ⟨h2 ch hc, .inr (.inl (h1 ch hc))⟩, ?_⟩
  rw [merge_congr (fun ch => ch.2.2.1) fun ch hc => ?_]
  · exact (chunks_whole a b a).2.1
  · have hk := (h2 ch hc).1
    rw [h1 ch hc] at hk
    split
    · rename_i he
      rcases (kindOf_theirs (b := ch.2.1) (o := ch.2.2.1)).2 with h3 | h3
      · exact absurd (hk.symm.trans he) h3
      · rw [h1 ch hc, h3]
    · rfl
theorem one_both (a b : List α) (s1 : SS a b) : cleanC (chunks a b b) = true ∧ mergeC (chunks a b b) = b := by
  have h1 := both_same a b
  have h2 := chunks_right a b b s1 s1
  refine ⟨clean_all fun ch hc => ⟨h2 ch hc, .inr (.inr (h1 ch hc))⟩, ?_⟩
  rw [merge_congr (fun ch => ch.2.2.1) fun ch hc => ?_]
  · exact (chunks_whole a b b).2.1
  · split
    · exact (h1 ch hc).symm
    · rfl
end

end Go.Proofs.YtakgddochbcjbaaDoor
namespace Go.Proofs.YtakgddochbcjbaaDoor

section
variable {α : Type}
theorem mem_keep {s : List (Int × α)} {x : α} (h : x ∈ keepL s) : ∃ s1 s3, s = s1 ++ (1, x) :: s3 := by
  unfold keepL at h
  rw [List.mem_map] at h
  obtain ⟨e, he, rfl⟩ := h
  rw [List.mem_filter] at he
  obtain ⟨s1, s3, rfl⟩ := List.append_of_mem he.1
  have h1 : e.1 = 1 := by simpa using he.2
  exact ⟨s1, s3, by rw [← h1]⟩
theorem once {a b a' b' : List α} {z : α} (ha : z ∉ a) (hb : z ∉ b) (h : a ++ z :: b = a' ++ z :: b') : a.length = a'.length := by
  rcases Nat.lt_trichotomy a.length a'.length with hl | hl | hl
  · exfalso
    have h1 : (a ++ z :: b)[a'.length]? = (a' ++ z :: b')[a'.length]? := by rw [h]
    rw [List.getElem?_append_right (by omega), List.getElem?_append_right (Nat.le_refl _), Nat.sub_self, List.getElem?_cons_zero] at h1
    obtain ⟨n, hn⟩ : ∃ n, a'.length - a.length = n + 1 := ⟨a'.length - a.length - 1, by omega⟩
    rw [hn, List.getElem?_cons_succ] at h1
    exact hb (List.mem_of_getElem? h1)
  · exact hl
  · exfalso
    have h1 : (a ++ z :: b)[a'.length]? = (a' ++ z :: b')[a'.length]? := by rw [h]
    rw [List.getElem?_append_left hl, List.getElem?_append_right (Nat.le_refl _), Nat.sub_self, List.getElem?_cons_zero] at h1
    exact ha (List.mem_of_getElem? h1)
theorem drop_sep (u v : List α) (z : α) (s : Nat) : (u ++ z :: v).drop (u.length + s) = (z :: v).drop s := by rw [← List.drop_drop, List.drop_left' rfl]
theorem sep_get (u v : List α) (z : α) (k : Nat) : (u ++ z :: v)[u.length + k]? = (z :: v)[k]? := by rw [List.getElem?_append_right (by omega), Nat.add_sub_cancel_left]
theorem sep_get' (u v v' : List α) (z : α) {k : Nat} (h : k ≤ u.length) : (u ++ z :: v)[k]? = (u ++ z :: v')[k]? := by
  rcases Nat.eq_or_lt_of_le h with rfl | hl
  · rw [List.getElem?_append_right (Nat.le_refl _), List.getElem?_append_right (Nat.le_refl _), Nat.sub_self]; rfl
  · rw [List.getElem?_append_left hl, List.getElem?_append_left hl]
theorem clean_app {l m : List (Chk α)} : cleanC (l ++ m) = (cleanC l && cleanC m) := by simp [cleanC]
theorem merge_app (l m : List (Chk α)) : mergeC (l ++ m) = mergeC l ++ mergeC m := by simp [mergeC]
theorem clean_stable {s : List α} {l : List (Chk α)} : cleanC ((1, s, s, s) :: l) = cleanC l := by simp [cleanC]
theorem merge_stable (s : List α) (l : List (Chk α)) : mergeC ((1, s, s, s) :: l) = s ++ mergeC l := by simp [mergeC]
end

section
variable {α : Type} [DecidableEq α]
theorem piece_ours {b t : List α} : cleanC (pieceC b b t) = true ∧ mergeC (pieceC b b t) = t := by
  by_cases hn : b = [] ∧ b = [] ∧ t = []
  · rw [pieceC_nil hn.1 hn.2.1 hn.2.2, hn.2.2]; exact ⟨rfl, rfl⟩
  · rw [pieceC_one hn]
    have hk : knd b b t = 3 := by unfold knd; rw [if_pos rfl]
    rw [hk]
    simp [cleanC, mergeC]
theorem piece_theirs {b o : List α} : cleanC (pieceC b o b) = true ∧ mergeC (pieceC b o b) = o := by
  by_cases hn : b = [] ∧ o = [] ∧ b = []
  · rw [pieceC_nil hn.1 hn.2.1 hn.2.2, hn.2.1]; exact ⟨rfl, rfl⟩
  · rw [pieceC_one hn]
    by_cases h : o = b
    · have hk : knd b o b = 3 := by unfold knd; rw [if_pos h]
      rw [hk, h]
      simp [cleanC, mergeC]
    · have hk : knd b o b = 2 := by unfold knd; rw [if_neg h, if_pos rfl]
      rw [hk]
      simp [cleanC, mergeC]
/-- a line that both have but once, what stands ahead of it or behind it alike, is kept -/
theorem sep_kept {a b x y : List α} {z : α} (hss : SS (a ++ z :: b) (x ++ z :: y)) (ha : z ∉ a) (hb : z ∉ b) (hx : z ∉ x) (hy : z ∉ y) (h : a = x ∨ b = y) : at3 (a ++ z :: b) (x ++ z :: y) a.length = (x.length : Nat) := by
  have hl : lcs (a ++ b) (x ++ y) + 1 ≤ lcs (a ++ z :: b) (x ++ z :: y) := by
    rcases h with rfl | rfl
    · rw [lcs_front, lcs_front, lcs_eq]; omega
    · have h1 := lcs_back a x b
      have h2 := lcs_back a x (z :: b)
      rw [h1, h2]; simp only [List.length_cons]; omega
  have hz : z ∈ keepL (sc (a ++ z :: b) (x ++ z :: y)) := by
    refine Classical.byContradiction fun hn => ?_
    have k2 := keepL_side 2 (sc (a ++ z :: b) (x ++ z :: y))
    have k3 := keepL_side 3 (sc (a ++ z :: b) (x ++ z :: y))
    rw [sc_old] at k2
    rw [sc_new] at k3
    have e := scr_keep (a ++ z :: b) (x ++ z :: y)
    rw [← hss] at e
    have cut : ∀ (u v k : List α), k.Sublist (u ++ z :: v) → z ∉ k → k.Sublist (u ++ v) := by
      intro u v k hk hzk
      obtain ⟨k1, k2, rfl, s1, s2⟩ := List.sublist_append_iff.1 hk
      rcases List.sublist_cons_iff.1 s2 with s2 | ⟨r, hr, _⟩
      · exact s1.append s2
      · exact absurd (by rw [hr]; simp) hzk
    have := lcs_all (cut _ _ _ k2 hn) (cut _ _ _ k3 hn)
    omega
  obtain ⟨s1, s3, e⟩ := mem_keep hz
  have h2 := sc_old (a ++ z :: b) (x ++ z :: y)
  have h3 := sc_new (a ++ z :: b) (x ++ z :: y)
  rw [e, side_append, side_cons_yes (by simp)] at h2 h3
  have l2 := once ha hb h2.symm
  have l3 := once hx hy h3.symm
  have hk := sc_kinds (a ++ z :: b) (x ++ z :: y)
  have hk1 : kinds3 s1 := fun d hd => hk d (by rw [e]; simp [hd])
  have hg := at3_get (a := a ++ z :: b) (b := x ++ z :: y) (i := a.length) (by simp)
  rw [e, plc_app _ hk1, List.getElem?_append_right (by rw [plc_len hk1]; omega), plc_len hk1, l2, Nat.sub_self, plc_1 rfl, List.getElem?_cons_zero] at hg
  have := Option.some.inj hg
  rw [← l2] at this
  rw [← this, l3]; omega
/-- what stands ahead of the line, if it is alike, is kept -/
theorem front_kept {a b y : List α} {z : α} (hss : SS (a ++ z :: b) (a ++ z :: y)) (ha : z ∉ a) (hb : z ∉ b) (hy : z ∉ y) {d : Nat} (hd : d ≤ a.length) : at3 (a ++ z :: b) (a ++ z :: y) d = (d : Nat) := by
  have hs := sep_kept hss ha hb ha hy (.inl rfl)
  rcases Nat.eq_or_lt_of_le hd with rfl | hlt
  · exact hs
  · obtain ⟨q, c, _⟩ := at3_cut hs
    have := piece_keep hss ⟨0, CutAt.start _⟩ ⟨q, c⟩ (by rw [List.take_left' rfl, List.take_left' rfl]) (d := d) (by omega)
    simpa using this
/-- what stands behind the line, if it is alike, is kept -/
theorem back_kept {a b x : List α} {z : α} (hss : SS (a ++ z :: b) (x ++ z :: b)) (ha : z ∉ a) (hb : z ∉ b) (hx : z ∉ x) {d : Nat} (hd : d ≤ b.length) : at3 (a ++ z :: b) (x ++ z :: b) (a.length + d) = ((x.length + d : Nat) : Int) := by
  have hs := sep_kept hss ha hb hx hb (.inr rfl)
  obtain ⟨q, c, _⟩ := at3_cut hs
  rcases Nat.eq_or_lt_of_le (Nat.zero_le d) with rfl | hpos
  · simpa using hs
  · have c2 := CutAt.end_ (sc (a ++ z :: b) (x ++ z :: b))
    rw [sc_old, sc_new] at c2
    have := piece_keep hss ⟨q, c⟩ ⟨_, c2⟩ (by rw [List.take_length, List.take_length, List.drop_left' rfl, List.drop_left' rfl]) (d := d) (by simp; omega)
    exact this
/-- changes that stand apart, a line that both keep between them, come together -/
theorem chunks_apart {a b x y : List α} {z : α} (s1 : SS (a ++ z :: b) (x ++ z :: b)) (s2 : SS (a ++ z :: b) (a ++ z :: y)) (ha : z ∉ a) (hb : z ∉ b) (hx : z ∉ x) (hy : z ∉ y) :
    cleanC (chunks (a ++ z :: b) (x ++ z :: b) (a ++ z :: y)) = true ∧ mergeC (chunks (a ++ z :: b) (x ++ z :: b) (a ++ z :: y)) = x ++ z :: y := by
  obtain ⟨A, hA⟩ : ∃ A, A = a ++ z :: b := ⟨_, rfl⟩
  obtain ⟨B, hB⟩ : ∃ B, B = x ++ z :: b := ⟨_, rfl⟩
  obtain ⟨C, hC⟩ : ∃ C, C = a ++ z :: y := ⟨_, rfl⟩
  obtain ⟨T, hT⟩ : ∃ T, T = x ++ z :: y := ⟨_, rfl⟩
  have kF : ∀ d, d ≤ a.length → at3 A C d = (d : Nat) := fun d hd => by rw [hA, hC]; exact front_kept s2 ha hb hy hd
  have kB : ∀ d, d ≤ b.length → at3 A B (a.length + d) = ((x.length + d : Nat) : Int) := fun d hd => by rw [hA, hB]; exact back_kept s1 ha hb hx hd
  have lA : A.length = a.length + 1 + b.length := by rw [hA]; simp; omega
  have lC : C.length = a.length + 1 + y.length := by rw [hC]; simp; omega
  have lB : B.length = x.length + 1 + b.length := by rw [hB]; simp; omega
  have lT : T.length = x.length + 1 + y.length := by rw [hT]; simp; omega
  have dT : ∀ s, T.drop (x.length + s) = C.drop (a.length + s) := fun s => by rw [hT, hC, drop_sep, drop_sep]
  have dB : ∀ s, A.drop (a.length + s) = B.drop (x.length + s) := fun s => by rw [hA, hB, drop_sep, drop_sep]
  have gT : ∀ k, k ≤ x.length → T[k]? = B[k]? := fun k hk => by rw [hT, hB]; exact sep_get' x y b z hk
  have gC : ∀ k, k ≤ a.length → A[k]? = C[k]? := fun k hk => by rw [hA, hC]; exact sep_get' a b y z hk
  have gTC : ∀ s, T[x.length + s]? = C[a.length + s]? := fun s => by rw [hT, hC, sep_get, sep_get]
  have gAB : ∀ s, A[a.length + s]? = B[x.length + s]? := fun s => by rw [hA, hB, sep_get, sep_get]
  rw [← hA, ← hB, ← hC, ← hT]
  have main := chGo_ind (a := A) (b := B) (c := C) (M := fun i p o t l =>
    (p ≤ a.length → t = p → i ≤ a.length → cleanC l = true ∧ mergeC l = T.drop o) ∧
    (a.length < p → a.length < t → o = x.length + (p - a.length) → cleanC l = true ∧ mergeC l = C.drop t)) ?_ ?_ ?_ A.length 0 0 0 0 (by omega) (AtC.start A B C)
  · have := main.1 (Nat.zero_le _) rfl (Nat.zero_le _)
    rw [List.drop_zero] at this
    exact this
  · intro p o t h
    refine ⟨fun _ _ h3 => by omega, fun h1 h2 h3 => ?_⟩
    have e : B.drop o = A.drop p := by
      rw [h3, ← dB, show a.length + (p - a.length) = p by omega]
    rw [e]
    exact piece_ours
  · intro i p o t l h hi hn hM
    refine ⟨fun h1 h2 h3 => hM.1 h1 h2 ?_, hM.2⟩
    rcases Nat.eq_or_lt_of_le h3 with rfl | h4
    · have k1 := kF a.length (Nat.le_refl _)
      have k2 := kB 0 (Nat.zero_le _)
      rw [Nat.add_zero] at k2
      omega
    · exact h4
  · intro i p o t u v l h hi hu hv ho ht hM
    have hs := run_same hi hu hv
    have htop := run_top hi hu hv
    have hpos := runN_pos A B C i
    have hall := fun d (hd : d < runN A B C i) => run_all hi hu hv hd
    obtain ⟨n, hn⟩ : ∃ n, n = runN A B C i := ⟨_, rfl⟩
    rw [← hn] at hs htop hpos hall hM ⊢
    clear hn
    refine ⟨fun h1 h2 h3 => ?_, fun h1 h2 h3 => ?_⟩
    · -- ahead of the line
      subst h2
      have hvi : v = i := by have := kF i h3; omega
      subst hvi
      have hux : u ≤ x.length := by
        obtain ⟨q, c1, _⟩ := at3_cut hu
        obtain ⟨r, c2, c3⟩ := at3_cut (kB 0 (Nat.zero_le _))
        exact (c1.mono c2 (cut_before c1 c3 h3)).2
      have e1 : seg C t v = seg A t v := List.ext_getElem? fun k => by
        rw [seg_get, seg_get]
        by_cases hk : t + k < v
        · rw [if_pos hk, if_pos hk, gC _ (by omega)]
        · rw [if_neg hk, if_neg hk]
      have e2 : seg B o u = seg T o u := List.ext_getElem? fun k => by
        rw [seg_get, seg_get]
        by_cases hk : o + k < u
        · rw [if_pos hk, if_pos hk, gT _ (by omega)]
        · rw [if_neg hk, if_neg hk]
      have e3 : seg A v (v + n) = seg T u (u + n) := List.ext_getElem? fun k => by
        rw [seg_get, seg_get]
        by_cases hk : k < n
        · rw [if_pos (by omega), if_pos (by omega)]
          obtain ⟨g1, g2, g3⟩ := hall k hk
          obtain ⟨w1, w2, w3⟩ := at3_same g2
          obtain ⟨w4, w5, w6⟩ := at3_same g3
          rcases Nat.lt_or_ge x.length (u + k) with hb1 | hb1
          · -- behind the line
            have hva : a.length < v + k := by
              rcases Nat.lt_or_ge a.length (v + k) with h5 | h5
              · exact h5
              · obtain ⟨q, c1, _⟩ := at3_cut g2
                obtain ⟨r, c2, c3⟩ := at3_cut (kB 0 (Nat.zero_le _))
                have := (c1.mono c2 (cut_before c1 c3 h5)).2
                omega
            have hk2 := kB (v + k - a.length) (by omega)
            rw [show a.length + (v + k - a.length) = v + k by omega, g2] at hk2
            have hk3 : u + k = x.length + (v + k - a.length) := by omega
            rw [hk3, gTC, show a.length + (v + k - a.length) = v + k by omega, w6, w5]
          · rw [gT _ hb1, w2, w3]
        · rw [if_neg (by omega), if_neg (by omega)]
      have hrest : cleanC l = true ∧ mergeC l = T.drop (u + n) := by
        rcases Nat.lt_or_ge a.length (v + n) with h5 | h5
        · have hx2 : u + n = x.length + (v + n - a.length) := by
            have hd := hall (a.length - v) (by omega)
            have hk2 := kB 0 (Nat.zero_le _)
            rw [show v + (a.length - v) = a.length by omega] at hd
            rw [Nat.add_zero] at hk2
            omega
          have := hM.2 h5 h5 hx2
          refine ⟨this.1, ?_⟩
          rw [this.2, hx2, dT, show a.length + (v + n - a.length) = v + n by omega]
        · exact hM.1 h5 rfl h5
      rw [e1, clean_app, merge_app, clean_stable, merge_stable, piece_theirs.1, piece_theirs.2, hrest.1, hrest.2, e2, e3]
      refine ⟨rfl, ?_⟩
      have hTl : u + n ≤ T.length := by
        have := congrArg List.length e3
        rw [seg_len A htop.1] at this
        unfold seg at this
        rw [List.length_drop, List.length_take] at this
        omega
      rw [seg_drop T (Nat.le_add_right _ _) hTl, seg_drop T ho (by omega)]
    · -- behind the line
      have hi2 : a.length < i := Nat.lt_of_lt_of_le h1 h.le
      have hu2 : u = x.length + (i - a.length) := by
        have := kB (i - a.length) (by omega)
        rw [show a.length + (i - a.length) = i by omega, hu] at this
        omega
      have e1 : seg B o u = seg A p i := List.ext_getElem? fun k => by
        rw [seg_get, seg_get]
        by_cases hk : p + k < i
        · rw [if_pos (by omega), if_pos hk, h3, show x.length + (p - a.length) + k = x.length + (p - a.length + k) by omega, ← gAB, show a.length + (p - a.length + k) = p + k by omega]
        · rw [if_neg (by omega), if_neg hk]
      have hr := hM.2 (by omega) (by omega) (by omega)
      rw [e1, clean_app, merge_app, clean_stable, merge_stable, piece_ours.1, piece_ours.2, hr.1, hr.2, hs.2]
      refine ⟨rfl, ?_⟩
      rw [seg_drop C (Nat.le_add_right _ _) htop.2.2, seg_drop C ht (by omega)]
theorem common_one {a b x y : List α} {z : α} : 1 ≤ lcs (a ++ z :: b) (x ++ z :: y) := by
  have h := lcs_all (c := [z]) (a := a ++ z :: b) (b := x ++ z :: y) (by simp) (by simp)
  simpa using h
end

end Go.Proofs.YtakgddochbcjbaaDoor
