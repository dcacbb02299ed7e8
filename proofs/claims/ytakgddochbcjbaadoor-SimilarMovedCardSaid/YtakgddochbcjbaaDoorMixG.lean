/- A region that draws: first some operations in their only order, then one operation more that is free. -/
import Derived.Test.YtakgddochbcjbaaDoorMixS
namespace Go.Proofs.YtakgddochbcjbaaDoor
open Go

section
variable {P : Program} {Q : Exit → Act → World → Prop}
def sfB (ops : Array Oper) (hd : List (List Nat × Nat)) (al : Nat) (segs tl : List (List Nat × Nat)) (pz : List Nat) (tail : List (List Nat × List Nat)) : Bool :=
  Region.noSelect ops && decide (seqLen hd + (seqLen segs + (seqLen tl + 1) + (pz.length + segLen tail)) = ops.size) && !(tailE tail).contains al && ordSeq .any ops (tailE tail) (fun l => ordFre .any ops (tailE tail) (ordPuM .any ops (tailE tail) (ordT .any ops (tailE tail) tail) pz) al tl segs l) hd (Array.replicate ops.size false)
theorem wp_region_sf {id : Nat} {a : Act} {w : World} {l : List Oper} (S : World → Prop) (hd : List (List Nat × Nat)) (al : Nat) (segs tl : List (List Nat × Nat)) (pz : List Nat) (tail : List (List Nat × List Nat)) (hm : P.follows .mixedOrders = true) (hQ : ∀ c a t v w, Q (.panic c) (Act.put a (some t) v) w → Q (.panic c) a w) (hB : sfB l.toArray hd al segs tl pz tail = true) (hS : S w.drew)
    (h : wpSeq P l.toArray Q S (wpFre P l.toArray Q S (wpRest P l.toArray Q S (pickL l pz) (pickT l tail)) (pickL l [al]) (pickS l tl) (pickS l segs)) (pickS l hd) a w.drew) : (Code.region id l.toArray true).wp P Q a w := by
  simp only [sfB, Bool.and_eq_true, decide_eq_true_eq, Bool.not_eq_true'] at hB
  obtain ⟨⟨⟨hs, hn⟩, hal⟩, hB⟩ := hB
  refine wp_region_any hm ?_
  have h1 := any_seq hs hQ (fun listed a w hS hF hN hB h => any_fre al tl hs hQ (any_rest hs hQ) (fun h => by simp [h] at hal) segs listed a w hS hF hN hB h) hd _ a _ hS Fit_none (noneL_none _ _) hB h
  rw [hn] at h1
  exact wpAny_of_E _ _ _ _ h1
end
end Go.Proofs.YtakgddochbcjbaaDoor
