/- The chunks' contracts, told by what they come to. -/
import Derived.Test.YtakgddochbcjbaaDoorPkOf
import Derived.Test.YtakgddochbcjbaaDoorPkChunkUse
namespace Go.Proofs.YtakgddochbcjbaaDoor
open Go.RowKit Go.Deep Go.MapKept

theorem mergeC_short {l : List ChkB} {M : Nat} (hM : (l.flatMap (·.2.2.1)).length + (l.flatMap (·.2.2.2)).length ≤ M) : ∀ k, (mergeC (l.take k)).length ≤ M := by
  have key : ∀ l : List ChkB, (mergeC l).length ≤ (l.flatMap (·.2.2.1)).length + (l.flatMap (·.2.2.2)).length := by
    intro l
    induction l with
    | nil => simp [mergeC]
    | cons ch l ih =>
      have e : mergeC (ch :: l) = (if ch.1 = 3 then ch.2.2.2 else ch.2.2.1) ++ mergeC l := by simp [mergeC]
      rw [e, List.length_append, List.flatMap_cons, List.flatMap_cons, List.length_append, List.length_append]
      split <;> omega
  intro k
  refine Nat.le_trans (key _) (Nat.le_trans ?_ hM)
  have h1 : ((l.take k).flatMap (·.2.2.1)).length ≤ (l.flatMap (·.2.2.1)).length := by
    conv => rhs; rw [← List.take_append_drop k l, List.flatMap_append, List.length_append]
    omega
  have h2 : ((l.take k).flatMap (·.2.2.2)).length ≤ (l.flatMap (·.2.2.2)).length := by
    conv => rhs; rw [← List.take_append_drop k l, List.flatMap_append, List.length_append]
    omega
  omega
/-- what chunks come to is not long -/
theorem merge_chunks (a b c : List ByteArray) : ∀ k, (mergeC ((chunks a b c).take k)).length ≤ b.length + c.length := by
  obtain ⟨_, h2, h3⟩ := chunks_whole a b c
  refine mergeC_short (M := b.length + c.length) ?_
  rw [h2, h3]
  exact Nat.le_refl _

/-- chunks of three, told to be l -/
theorem of_v (l : List ChkB) (Ba Bb Bc na nb nc ca cb cc : Nat) (A1 A2 A3 : Option Addr) (a b c : List ByteArray) (w : World) (hl : chunks a b c = l)
    (ha : Reads w Ba 1 A1 na (strs a)) (hb : Reads w Bb 1 A2 nb (strs b)) (hc : Reads w Bc 1 A3 nc (strs c)) (hBa : Ba ≤ w.heap.size) (hBb : Bb ≤ w.heap.size) (hBc : Bc ≤ w.heap.size)
    (hna : na ≤ 450) (hnb : nb ≤ 450) (hnc : nc ≤ 450) (hca : na ≤ ca) (hcb : nb ≤ cb) (hcc : nc ≤ cc) (hcaM : ca ≤ maxLen) (hcbM : cb ≤ maxLen) (hccM : cc ≤ maxLen) :
    Calls Tryd.prog 40 #[.slice A1 na ca, .slice A2 nb cb, .slice A3 nc cc] w fun e w' => ∃ A n q, e = .returned (.slice A n q) ∧ ChunksN w' w'.heap.size A n l ∧ Grows w w' ∧ n ≤ q ∧ q ≤ maxLen := by
  subst hl
  exact of_any Ba Bb Bc na nb nc ca cb cc A1 A2 A3 a b c w ha hb hc hBa hBb hBc hna hnb hnc hca hcb hcc hcaM hcbM hccM
/-- chunks are no more than lines, and one, each -/
theorem merged_v (m : List ByteArray) (B : Nat) (A : Option Addr) (n c : Nat) (l : List ChkB) (w : World) (hm : mergeC l = m) (hx : ChunksN w B A n l) (hB : B ≤ w.heap.size) (hn : n ≤ 1000000000) (hM : ∀ k, (mergeC (l.take k)).length ≤ 1000000000) :
    Calls Tryd.prog 44 #[.slice A n c] w fun e w' => ∃ A' c', e = .returned (.slice A' m.length c') ∧ m.length ≤ c' ∧ c' ≤ maxLen ∧ Reads w' w'.heap.size 1 A' m.length (strs m) ∧ Grows w w' := by
  subst hm
  refine (merged_any B A n c l w hx hB hn (fun k _ => hM k)).mono ?_
  rintro e w' ⟨v, rfl, hown, hg⟩
  obtain ⟨A', c', rfl, h1, h2⟩ := own_form hown
  exact ⟨A', c', rfl, h1, h2, Reads.of_own hown, hg⟩
theorem clean_v (v : Bool) (B : Nat) (A : Option Addr) (n c : Nat) (l : List ChkB) (w : World) (hv : cleanC l = v) (hx : ChunksN w B A n l) (hB : B ≤ w.heap.size) (hn : n ≤ maxLen) :
    Calls Tryd.prog 42 #[.slice A n c] w fun e w' => e = .returned (.bool v) ∧ Grows w w' := by
  subst hv
  exact clean_any B A n c l w hx hB hn
theorem ChunksN.len {w : World} {B n : Nat} {A : Option Addr} {l : List ChkB} (h : ChunksN w B A n l) : l.length = n := h.1
theorem pieceC_len1 (x y z : List ByteArray) : (pieceC x y z).length ≤ 1 := pieceC_len x y z
theorem chunks_len (a b c : List ByteArray) : (chunks a b c).length ≤ 2 * a.length + 1 := by
  have := chGo_ind (a := a) (b := b) (c := c) (M := fun i _ _ _ l => l.length ≤ 2 * (a.length - i) + 1) (fun p o t _ => by have := pieceC_len (a.drop p) (b.drop o) (c.drop t); omega)
    (fun i p o t l _ hi _ hl => by omega)
    (fun i p o t x y l _ hi _ _ _ _ hl => by
      have h1 := pieceC_len (seg a p i) (seg b o x) (seg c t y)
      have h2 := runN_pos a b c i
      rw [List.length_append, List.length_cons]
      omega) a.length 0 0 0 0 (by omega) (AtC.start a b c)
  exact this

end Go.Proofs.YtakgddochbcjbaaDoor
