/- A region that draws, one operation of which is free; some that only read may come up between it and what it does not wait for. -/
import Derived.Test.YtakgddochbcjbaaDoorPkMixS
namespace Go.Proofs.YtakgddochbcjbaaDoor
open Go

section
variable {P : Program} {ops : Array Oper} {md : Region.Mode} {Q : Exit → Act → World → Prop} {S : World → Prop}

/-- as wpFre; pf: what only reads, ahead of the free one where that comes last; te: the tail where it came before, tl: where it came last -/
def wpFri (P : Program) (ops : Array Oper) (Q : Exit → Act → World → Prop) (S : World → Prop) (R : Act → World → Prop) (al pf : List Oper) (te tl : List (List Oper × List Oper)) : List (List Oper × List Oper) → Act → World → Prop
  | [], a, w => wpQuiet P ops (fun w' => ∃ s : SW S, w' = s.w) (fun a' => wpList P ops (Exit.then (fun a w => S w ∧ wpSeq P ops Q S R tl a w) Q) al a' w) pf a
  | (pu, im) :: r, a, w => wpQuiet P ops (fun w' => ∃ s : SW S, w' = s.w) (fun a' =>
      wpList P ops (Exit.then (fun a w => S w ∧ wpSeq P ops Q S R (([], im) :: (r ++ te)) a w) Q) al a' w ∧
      wpList P ops (Exit.then (fun a w => S w ∧ wpFri P ops Q S R al pf te tl r a w) Q) im a' w) pu a
def ordFri (md : Region.Mode) (ops : Array Oper) (E : List Nat) (k : Array Bool → Bool) (al : Nat) (pf : List Nat) (te tl : List (List Nat × Nat)) : List (List Nat × Nat) → Array Bool → Bool
  | [], l => ordPuM md ops E (fun l => decide (Region.ready md ops l = [al]) && ordSeq md ops E k tl (l.setIfInBounds al true)) pf l
  | (pu, im) :: r, l => ordPuM md ops E (fun l => !E.contains im && (Region.ready md ops l).all (fun j => j == im || j == al) && !(Region.ready md ops l).isEmpty && ordSeq md ops E k (([], im) :: (r ++ te)) (l.setIfInBounds al true) && ordFri md ops E k al pf te tl r (l.setIfInBounds im true)) pu l

section
variable {l : List Oper} {E : List Nat} {R : Act → World → Prop} {k : Array Bool → Bool} {g : Nat}
theorem any_fri (al : Nat) (pf : List Nat) (te tl : List (List Nat × Nat)) (ht : seqLen te = pf.length + seqLen tl) (hs : Region.noSelect l.toArray = true) (hQ : ∀ c a t v w, Q (.panic c) (Act.put a (some t) v) w → Q (.panic c) a w)
    (hk : ∀ listed a w, S w → Fit md l.toArray listed → noneL E listed = true → k listed = true → R a w → wpAnyE P md l.toArray Q S E g listed a w) (hal : al ∉ E) :
    ∀ (segs : List (List Nat × Nat)) (listed : Array Bool) (a : Act) (w : World), S w → Fit md l.toArray listed → noneL E listed = true → ordFri md l.toArray E k al pf te tl segs listed = true → wpFri P l.toArray Q S R (pickL l [al]) (pickL l pf) (pickS l te) (pickS l tl) (pickS l segs) a w → wpAnyE P md l.toArray Q S E (seqLen segs + (seqLen te + 1) + g) listed a w
  | [], listed, a, w, hS, hle, hn, hB, h => by
    rw [seqLen, Nat.zero_add, ht, show pf.length + seqLen tl + 1 + g = pf.length + (seqLen tl + g + 1) by omega]
    exact any_puM hs hQ hS (fun listed a hle hn hB h => by
      simp only [Bool.and_eq_true, decide_eq_true_eq] at hB
      exact any_one hB.1 (fun a w hS h => any_seq hs hQ hk tl _ a w hS (hle.set (by rw [hB.1]; exact List.mem_singleton.2 rfl)) (by rw [noneL_set hal]; exact hn) hB.2 h) h) pf listed a hle hn hB h
  | (pu, im) :: r, listed, a, w, hS, hle, hn, hB, h => by
    rw [seqLen, show pu.length + (seqLen r + 1) + (seqLen te + 1) + g = pu.length + ((seqLen r + (seqLen te + 1) + g) + 1) by omega]
    refine any_puM hs hQ hS (fun listed a hle hn hB h => ?_) pu listed a hle hn hB h
    simp only [Bool.and_eq_true, Bool.not_eq_true', List.isEmpty_eq_false_iff] at hB
    obtain ⟨⟨⟨⟨hE, h1⟩, h0⟩, h2⟩, h3⟩ := hB
    have hE' : im ∉ E := fun h => by simp [h] at hE
    refine ⟨fun h00 => absurd h00 h0, fun j hj => ?_⟩
    obtain ⟨_, o, ho, _⟩ := mem_ready.1 hj
    have ho' : l[j]? = some o := by simpa using ho
    have hj2 := List.all_eq_true.1 h1 j hj
    simp only [Bool.or_eq_true, beq_iff_eq] at hj2
    by_cases hja : j = al
    · subst hja
      have h' := h.1
      rw [pickL_one ho'] at h'
      refine wpOp_mono (fun a' w' h' => ⟨fun _ => h'.1, ?_⟩) (wpOp_of_list ho h')
      have e : (([], pickL l [im]) :: (r.map (fun s => (pickL l s.1, pickL l [s.2])) ++ pickS l te) : List (List Oper × List Oper)) = pickS l (([], im) :: (r ++ te)) := by simp [pickS, pickL]
      have h4 := any_seq hs hQ hk (([], im) :: (r ++ te)) (listed.setIfInBounds j true) a' w' h'.1 (hle.set hj) (by rw [noneL_set hal]; exact hn) h2 (by rw [← e]; exact h'.2)
      rw [seqLen, seqLen_app] at h4
      rw [show seqLen r + (seqLen te + 1) + g = [].length + (seqLen r + seqLen te + 1) + g by simp only [List.length_nil]; omega]
      exact h4
    · rcases hj2 with rfl | hj2
      · have h' := h.2
        rw [pickL_one ho'] at h'
        exact wpOp_mono (fun a' w' h' => ⟨fun _ => h'.1, any_fri al pf te tl ht hs hQ hk hal r _ a' w' h'.1 (hle.set hj) (by rw [noneL_set hE']; exact hn) h3 h'.2⟩) (wpOp_of_list ho h')
      · exact absurd hj2 hja
end

def friB (ops : Array Oper) (al : Nat) (segs : List (List Nat × Nat)) (pf : List Nat) (te tl : List (List Nat × Nat)) (pz : List Nat) (tail : List (List Nat × List Nat)) : Bool :=
  Region.noSelect ops && decide (seqLen te = pf.length + seqLen tl) && decide (seqLen segs + (seqLen te + 1) + (pz.length + segLen tail) = ops.size) && !(tailE tail).contains al && ordFri .any ops (tailE tail) (ordPuM .any ops (tailE tail) (ordT .any ops (tailE tail) tail) pz) al pf te tl segs (Array.replicate ops.size false)

theorem wp_region_fri {id : Nat} {a : Act} {w : World} {l : List Oper} (S : World → Prop) (al : Nat) (segs : List (List Nat × Nat)) (pf : List Nat) (te tl : List (List Nat × Nat)) (pz : List Nat) (tail : List (List Nat × List Nat)) (hm : P.follows .mixedOrders = true) (hQ : ∀ c a t v w, Q (.panic c) (Act.put a (some t) v) w → Q (.panic c) a w) (hB : friB l.toArray al segs pf te tl pz tail = true) (hS : S w.drew)
    (h : wpFri P l.toArray Q S (wpRest P l.toArray Q S (pickL l pz) (pickT l tail)) (pickL l [al]) (pickL l pf) (pickS l te) (pickS l tl) (pickS l segs) a w.drew) : (Code.region id l.toArray true).wp P Q a w := by
  simp only [friB, Bool.and_eq_true, decide_eq_true_eq, Bool.not_eq_true'] at hB
  obtain ⟨⟨⟨⟨hs, ht⟩, hn⟩, hal⟩, hB⟩ := hB
  refine wp_region_any hm ?_
  have h1 := any_fri al pf te tl ht hs hQ (any_rest hs hQ) (fun h => by simp [h] at hal) segs _ a _ hS Fit_none (noneL_none _ _) hB h
  rw [hn] at h1
  exact wpAny_of_E _ _ _ _ h1

theorem wpFri_consK {R : Act → World → Prop} {al pf : List Oper} {te tl : List (List Oper × List Oper)} {pu im : List Oper} {r : List (List Oper × List Oper)} {a : Act} {w : World}
    (h : ∀ K1 : Act → World → Prop, RowKit.Hid (∀ a w, S w → wpSeq P ops Q S R (([], im) :: (r ++ te)) a w → K1 a w) → ∀ K2 : Act → World → Prop, RowKit.Hid (∀ a w, S w → wpFri P ops Q S R al pf te tl r a w → K2 a w) →
      ∀ K : Act → Prop, (∀ a, wpList P ops (Exit.then K1 Q) al a w → wpList P ops (Exit.then K2 Q) im a w → K a) → wpQuiet P ops (fun w' => ∃ s : SW S, w' = s.w) K pu a) : wpFri P ops Q S R al pf te tl ((pu, im) :: r) a w :=
  h _ (fun _ _ h1 h2 => ⟨h1, h2⟩) _ (fun _ _ h1 h2 => ⟨h1, h2⟩) _ (fun _ h1 h2 => ⟨h1, h2⟩)
theorem wpFri_nilK {R : Act → World → Prop} {al pf : List Oper} {te tl : List (List Oper × List Oper)} {a : Act} {w : World}
    (h : ∀ K1 : Act → World → Prop, RowKit.Hid (∀ a w, S w → wpSeq P ops Q S R tl a w → K1 a w) → ∀ K : Act → Prop, (∀ a, wpList P ops (Exit.then K1 Q) al a w → K a) → wpQuiet P ops (fun w' => ∃ s : SW S, w' = s.w) K pf a) : wpFri P ops Q S R al pf te tl [] a w :=
  h _ (fun _ _ h1 h2 => ⟨h1, h2⟩) _ (fun _ h => h)
end

end Go.Proofs.YtakgddochbcjbaaDoor
