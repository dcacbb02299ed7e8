/- Plain laws of what is visible: what follows. No program in sight. -/
import Derived.Test.YtdhdlkbldngmoaaVisLaws
namespace Go.Proofs.Ytdhdlkbldngmoaa

theorem gi_mem {L : List Int} {i : Nat} (hi : i < L.length) : gi L i ∈ L := by
  simp only [gi, List.getD_eq_getElem?_getD, List.getElem?_eq_getElem hi, Option.getD_some]
  exact List.getElem_mem hi
theorem inL_live {xs olds : List Int} (hr : right xs = true) {t : Nat} (ht : t < xs.length) : inL (liveL xs olds) t = livep olds t := by rw [liveL_right hr, inL_selTo ht]
theorem inL_seen {xs olds keep : List Int} (hr : right xs = true) {t : Nat} (ht : t < xs.length) : inL (seenL xs olds keep) t = seenp xs olds keep t := by rw [seenL_right hr, inL_selTo ht]
theorem shown_seen {xs olds keep : List Int} (hr : right xs = true) {t : Nat} (ht : t < xs.length) (h : shown olds keep t = true) : seenp xs olds keep t = true :=
  anyTo_iff.2 ⟨t, ht, by rw [Bool.and_eq_true]; exact ⟨h, above_self (isB_nat hr ht)⟩⟩
/-- number i of those seen -/
theorem seen_at {xs olds keep : List Int} (hr : right xs = true) {i : Nat} (hi : i < (seenL xs olds keep).length) :
    ∃ s : Nat, gi (seenL xs olds keep) i = s ∧ s < xs.length ∧ seenp xs olds keep s = true ∧ (0 ≤ gi xs s → inL (seenL xs olds keep) (gi xs s) = true) := by
  have hi' := hi
  rw [seenL_right hr] at hi'
  have h := gi_selTo hi'
  rw [← seenL_right hr] at h
  refine ⟨(gi (seenL xs olds keep) i).toNat, by omega, by omega, h.2.2, fun h0 => ?_⟩
  obtain ⟨s, hs⟩ : ∃ s, s = (gi (seenL xs olds keep) i).toNat := ⟨_, rfl⟩
  rw [← hs] at h h0 ⊢
  have hsl : s < xs.length := by omega
  have hb := right_at hr hsl
  have e : gi xs s = ((gi xs s).toNat : Int) := by omega
  rw [e, inL_seen hr (by omega)]
  exact seenp_up hr hsl h0 h.2.2
theorem seen_up {xs olds keep : List Int} (hr : right xs = true) {i : Nat} (hi : i + 1 < (seenL xs olds keep).length) : gi (seenL xs olds keep) i < gi (seenL xs olds keep) (i + 1) := by
  rw [seenL_right hr] at hi ⊢
  exact selTo_up _ _ hi
theorem selTo_mono {p : Nat → Bool} {n t u : Nat} (htu : t < u) (hu : u < (selTo p n).length) : gi (selTo p n) t < gi (selTo p n) u := by
  obtain ⟨d, rfl⟩ : ∃ d, u = t + 1 + d := ⟨u - (t + 1), by omega⟩
  clear htu
  induction d with
  | zero => exact selTo_up _ t hu
  | succ d ih => exact Int.lt_trans (ih (by omega)) (selTo_up _ (t + 1 + d) hu)

theorem head_at {xs olds : List Int} (hr : right xs = true) {i : Nat} (hi : i < (headL xs olds).length) : ∃ s : Nat, gi (headL xs olds) i = s ∧ s < xs.length ∧ headp xs olds s = true := by
  have hi' := hi
  rw [headL_right hr] at hi'
  have h := gi_selTo hi'
  rw [← headL_right hr] at h
  exact ⟨(gi (headL xs olds) i).toNat, by omega, by omega, h.2.2⟩
theorem headp_live {xs olds : List Int} {s : Nat} (h : headp xs olds s = true) : livep olds s = true := by
  unfold headp at h
  rw [Bool.and_eq_true] at h
  exact h.1
theorem head_live {xs olds : List Int} (hr : right xs = true) {i : Nat} (hi : i < (headL xs olds).length) : inL (liveL xs olds) (gi (headL xs olds) i) = true := by
  obtain ⟨s, hs, hl, hh⟩ := head_at hr hi
  rw [hs, inL_live hr hl]
  exact headp_live hh
/-- no head stands on another one -/
theorem head_lone {xs olds : List Int} (hr : right xs = true) {i k : Nat} (hi : i < (headL xs olds).length) (hk : k < (headL xs olds).length) (hne : k ≠ i) : above xs (gi (headL xs olds) i) (gi (headL xs olds) k) = false := by
  obtain ⟨s, hs, hl, hh⟩ := head_at hr hi
  obtain ⟨t, ht, htl, hth⟩ := head_at hr hk
  have hst : s ≠ t := by
    intro e
    subst e
    have hL := headL_right (olds := olds) hr
    rw [hL] at hs ht hi hk
    rcases Nat.lt_or_gt_of_ne hne with h | h
    · have := selTo_mono h hi; omega
    · have := selTo_mono h hk; omega
  rw [hs, ht]
  unfold headp at hh
  rw [Bool.and_eq_true, Bool.not_eq_true', underp, anyTo_false] at hh
  have h2 := hh.2 t htl
  have e : (t == s) = false := by simp; omega
  rw [headp_live hth, e] at h2
  simpa using h2
theorem head_under {xs olds : List Int} (hr : right xs = true) : ∀ (d a : Nat), xs.length - a ≤ d → a < xs.length → livep olds a = true → ∃ h, h < xs.length ∧ headp xs olds h = true ∧ above xs a h = true := by
  intro d
  induction d with
  | zero => intro a h1 h2 _; omega
  | succ d ih =>
    intro a h1 h2 hl
    cases hu : underp xs olds a with
    | false => exact ⟨a, h2, by unfold headp; rw [hl, hu]; rfl, above_self (isB_nat hr h2)⟩
    | true =>
      obtain ⟨i, hi, hq⟩ := anyTo_iff.1 hu
      rw [Bool.and_eq_true, Bool.and_eq_true] at hq
      obtain ⟨q1, q2, q3⟩ := hq
      have hne : i ≠ a := by simpa using q2
      have hle := (above_isB q3).2.2
      obtain ⟨h, b1, b2, b3⟩ := ih i (by omega) hi q1
      exact ⟨h, b1, b2, above_trans q3 b3⟩
theorem live_under {xs olds : List Int} (hr : right xs = true) {i : Nat} (hi : i < (liveL xs olds).length) : anyTo (fun t => above xs (gi (liveL xs olds) i) (gi (headL xs olds) t)) (headL xs olds).length = true := by
  have hi' := hi
  rw [liveL_right hr] at hi'
  have h := gi_selTo hi'
  rw [← liveL_right hr] at h
  obtain ⟨a, ha⟩ : ∃ a : Nat, gi (liveL xs olds) i = a := ⟨(gi (liveL xs olds) i).toNat, by omega⟩
  rw [ha, Int.toNat_natCast] at h
  obtain ⟨b, hb, hh, hab⟩ := head_under hr xs.length a (by omega) (by omega) h.2.2
  have hm : (b : Int) ∈ headL xs olds := by
    rw [headL_right hr]
    exact mem_selTo.2 ⟨by omega, by omega, by simpa using hh⟩
  obtain ⟨t, ht, he⟩ := List.mem_iff_getElem.1 hm
  refine anyTo_iff.2 ⟨t, ht, ?_⟩
  have hg : gi (headL xs olds) t = b := by simpa [gi, List.getElem?_eq_getElem ht] using he
  rw [ha, hg]
  exact hab

end Go.Proofs.Ytdhdlkbldngmoaa
