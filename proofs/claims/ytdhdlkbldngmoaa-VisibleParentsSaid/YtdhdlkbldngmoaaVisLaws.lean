/- Plain laws of what is visible: putting numbers in their places; what the document's lists come to. No program in sight. -/
import Derived.Test.YtdhdlkbldngmoaaVisSpec
namespace Go.Proofs.Ytdhdlkbldngmoaa

theorem addAt_back {xs : List Int} {v : Int} {a : Nat} : ∀ k : Nat, (∀ j, a ≤ j → j < a + k → v < gi xs j) → addAt xs v (a + k) = addAt xs v a := by
  intro k
  induction k with
  | zero => intro _; rfl
  | succ k ih =>
    intro h
    rw [← Nat.add_assoc, addAt, if_pos (h (a + k) (by omega) (by omega))]
    exact ih fun j h1 h2 => h j h1 (by omega)
theorem addAt_here {xs : List Int} {v : Int} : ∀ a : Nat, (a = 0 ∨ gi xs (a - 1) ≤ v) → addAt xs v a = a := by
  intro a h
  cases a with
  | zero => rfl
  | succ a =>
    rw [addAt, if_neg]
    rcases h with h | h
    · omega
    · rw [Nat.add_sub_cancel] at h; omega
theorem selTo_parts {q : Nat → Bool} {i : Nat} (hq : q i = false) : ∀ d : Nat, ∃ B : List Int, selTo q (i + 1 + d) = selTo q i ++ B ∧ selTo (fun j => q j || j == i) (i + 1 + d) = selTo q i ++ [(i : Int)] ++ B ∧ ∀ b ∈ B, (i : Int) < b := by
  intro d
  induction d with
  | zero =>
    refine ⟨[], ?_, ?_, fun b hb => by cases hb⟩
    · rw [Nat.add_zero, selTo_no hq, List.append_nil]
    · rw [Nat.add_zero, selTo_yes (by simp), List.append_nil]
      rw [selTo_congr (p := fun j => q j || j == i) (q := q) fun j hj => by
        have : (j == i) = false := by simp; omega
        simp [this]]
  | succ d ih =>
    obtain ⟨B, h1, h2, h3⟩ := ih
    rw [← Nat.add_assoc]
    have hne : ((i + 1 + d) == i) = false := by simp; omega
    cases hp : q (i + 1 + d) with
    | false =>
      refine ⟨B, ?_, ?_, h3⟩
      · rw [selTo_no hp, h1]
      · rw [selTo_no (by rw [hp, hne]; rfl), h2]
    | true =>
      refine ⟨B ++ [((i + 1 + d : Nat) : Int)], ?_, ?_, fun b hb => ?_⟩
      · rw [selTo_yes hp, h1, List.append_assoc]
      · rw [selTo_yes (by rw [hp]; rfl), h2]; simp
      · rcases List.mem_append.1 hb with hb | hb
        · exact h3 b hb
        · rw [List.mem_singleton.1 hb]; omega
theorem inL_selTo {q : Nat → Bool} {n i : Nat} (hi : i < n) : inL (selTo q n) i = q i := by
  rw [Bool.eq_iff_iff, inL_iff, mem_selTo]
  simp; omega
theorem addL_selTo {q : Nat → Bool} {n i : Nat} (hi : i < n) : addL (selTo q n) i = selTo (fun j => q j || j == i) n := by
  unfold addL
  rw [inL_selTo hi]
  cases hq : q i with
  | true =>
    rw [if_pos rfl]
    refine selTo_congr fun j hj => ?_
    by_cases e : j = i
    · subst e; simp [hq]
    · have : (j == i) = false := by simpa using e
      simp [this]
  | false =>
    rw [if_neg (by simp)]
    obtain ⟨B, h1, h2, h3⟩ := selTo_parts hq (n - (i + 1))
    rw [show i + 1 + (n - (i + 1)) = n by omega] at h1 h2
    have hat : addAt (selTo q n) i (selTo q n).length = (selTo q i).length := by
      rw [h1, List.length_append, addAt_back B.length fun j hj1 hj2 => ?_]
      · refine addAt_here _ ?_
        rcases Nat.eq_zero_or_pos (selTo q i).length with h | h
        · exact .inl h
        · right
          rw [gi_append, if_pos (by omega)]
          have := (gi_selTo (p := q) (n := i) (k := (selTo q i).length - 1) (by omega)).2.1
          omega
      · rw [gi_append, if_neg (by omega)]
        refine h3 _ ?_
        simp only [gi, List.getD_eq_getElem?_getD]
        rw [List.getElem?_eq_getElem (by omega)]
        exact List.getElem_mem _
    rw [hat, h2]
    rw [h1, List.take_left, List.drop_left]

/-- who is seen, told as the document tells it: of some, all that stand above -/
def aboveSome (xs some : List Int) (j : Nat) : Bool := anyTo (fun t => above xs j (gi some t)) some.length
theorem aboveSome_iff {xs some : List Int} {j : Nat} : aboveSome xs some j = true ↔ ∃ x ∈ some, above xs j x = true := by
  unfold aboveSome
  rw [anyTo_iff]
  constructor
  · rintro ⟨t, ht, h⟩
    refine ⟨gi some t, ?_, h⟩
    simp only [gi, List.getD_eq_getElem?_getD, List.getElem?_eq_getElem ht, Option.getD_some]
    exact List.getElem_mem ht
  · rintro ⟨x, hx, h⟩
    obtain ⟨t, ht, rfl⟩ := List.mem_iff_getElem.1 hx
    exact ⟨t, ht, by simpa [gi, List.getElem?_eq_getElem ht] using h⟩
theorem seen_some {xs olds keep : List Int} (hr : right xs = true) {j : Nat} : aboveSome xs (liveL xs olds ++ keep) j = seenp xs olds keep j := by
  rw [Bool.eq_iff_iff, aboveSome_iff, seenp, anyTo_iff]
  constructor
  · rintro ⟨x, hx, ha⟩
    have hb := (above_isB ha).2.1
    obtain ⟨h0, h1, _⟩ := isB_iff.1 hb
    have e : ((x.toNat : Nat) : Int) = x := by omega
    refine ⟨x.toNat, by omega, ?_⟩
    rw [Bool.and_eq_true, e]
    refine ⟨?_, ha⟩
    unfold shown
    rw [Bool.or_eq_true, e]
    rcases List.mem_append.1 hx with hx | hx
    · rw [liveL_right hr] at hx
      exact .inl (mem_selTo.1 hx).2.2
    · exact .inr (inL_iff.2 hx)
  · rintro ⟨i, hi, h⟩
    rw [Bool.and_eq_true] at h
    refine ⟨(i : Int), ?_, h.2⟩
    have hs := h.1
    unfold shown at hs
    rw [Bool.or_eq_true] at hs
    rw [List.mem_append]
    rcases hs with hs | hs
    · left
      rw [liveL_right hr]
      exact mem_selTo.2 ⟨by omega, by omega, by simpa using hs⟩
    · exact .inr (inL_iff.1 hs)
theorem seenL_some {xs olds keep : List Int} : seenL xs olds keep = selTo (aboveSome xs (liveL xs olds ++ keep)) xs.length := by
  cases hr : right xs with
  | true => rw [seenL_right hr]; exact (selTo_congr fun j _ => seen_some hr).symm
  | false =>
    rw [seenL_none hr, selTo_none fun j _ => ?_]
    unfold aboveSome
    rw [anyTo_false]
    intro t _
    exact above_none (by simp [isB, hr])

theorem selTo_filter {p : Nat → Bool} {h : Nat → Bool} (hp : ∀ j, h j = true → p j = true) : ∀ n, (selTo p n).filter (fun x => h x.toNat) = selTo h n := by
  intro n
  induction n with
  | zero => rfl
  | succ n ih =>
    cases hh : h n with
    | true =>
      rw [selTo_yes (hp n hh), selTo_yes hh, List.filter_append, ih]
      simp [hh]
    | false =>
      rw [selTo_no hh]
      cases hpn : p n with
      | true =>
        rw [selTo_yes hpn, List.filter_append, ih]
        simp [hh]
      | false => rw [selTo_no hpn, ih]
/-- is no other one of the first k of a list under its i-th -/
def loneTo (xs L : List Int) (i k : Nat) : Bool := (List.range k).all fun t => t == i || !above xs (gi L i) (gi L t)
theorem loneTo_succ {xs L : List Int} {i k : Nat} : loneTo xs L i (k + 1) = (loneTo xs L i k && (k == i || !above xs (gi L i) (gi L k))) := by simp [loneTo, List.range_succ]
theorem lone_head {xs olds : List Int} (hr : right xs = true) {i : Nat} (hi : i < (liveL xs olds).length) : loneTo xs (liveL xs olds) i (liveL xs olds).length = headp xs olds (gi (liveL xs olds) i).toNat := by
  rw [liveL_right hr] at hi ⊢
  have hg := gi_selTo hi
  obtain ⟨a, ha⟩ : ∃ a : Nat, gi (selTo (livep olds) xs.length) i = a := ⟨(gi (selTo (livep olds) xs.length) i).toNat, by omega⟩
  rw [ha, Int.toNat_natCast] at hg ⊢
  unfold headp
  rw [hg.2.2, Bool.true_and, Bool.eq_iff_iff]
  unfold loneTo
  rw [List.all_eq_true, Bool.not_eq_true', underp, anyTo_false, ha]
  have mono : ∀ t u, t < u → u < (selTo (livep olds) xs.length).length → gi (selTo (livep olds) xs.length) t < gi (selTo (livep olds) xs.length) u := by
    intro t u htu hu
    obtain ⟨d, rfl⟩ : ∃ d, u = t + 1 + d := ⟨u - (t + 1), by omega⟩
    clear htu
    induction d with
    | zero => exact selTo_up _ t hu
    | succ d ih => exact Int.lt_trans (ih (by omega)) (selTo_up _ (t + 1 + d) hu)
  constructor
  · intro h b hb
    cases hl : livep olds b with
    | false => rfl
    | true =>
      by_cases hba : b = a
      · subst hba; simp
      · have hbm : (b : Int) ∈ selTo (livep olds) xs.length := mem_selTo.2 ⟨by omega, by omega, by simpa using hl⟩
        obtain ⟨t, ht, he⟩ := List.mem_iff_getElem.1 hbm
        have hgt : gi (selTo (livep olds) xs.length) t = b := by simpa [gi, List.getElem?_eq_getElem ht] using he
        have := h t (List.mem_range.2 ht)
        rw [hgt] at this
        have hti : (t == i) = false := by
          rw [beq_eq_false_iff_ne]
          rintro rfl
          rw [ha] at hgt; omega
        rw [hti, Bool.false_or] at this
        have h2 : above xs a b = false := by simpa using this
        simp [h2]
  · intro h t ht
    rw [List.mem_range] at ht
    by_cases hti : t = i
    · simp [hti]
    · have hgt := gi_selTo ht
      obtain ⟨b, hb⟩ : ∃ b : Nat, gi (selTo (livep olds) xs.length) t = b := ⟨(gi (selTo (livep olds) xs.length) t).toNat, by omega⟩
      rw [hb, Int.toNat_natCast] at hgt
      have h2 := h b (by omega)
      have hne : (b == a) = false := by
        rw [beq_eq_false_iff_ne]
        rintro rfl
        rcases Nat.lt_or_gt_of_ne hti with h3 | h3
        · have := mono t i h3 hi; omega
        · have := mono i t h3 ht; omega
      rw [hgt.2.2, hne] at h2
      have h3 : above xs a b = false := by simpa using h2
      rw [hb, h3]; simp
theorem heads_filter {xs olds : List Int} (hr : right xs = true) : (liveL xs olds).filter (fun x => headp xs olds x.toNat) = headL xs olds := by
  rw [liveL_right hr, headL_right hr]
  exact selTo_filter (fun j hj => by unfold headp at hj; rw [Bool.and_eq_true] at hj; exact hj.1) _

end Go.Proofs.Ytdhdlkbldngmoaa
