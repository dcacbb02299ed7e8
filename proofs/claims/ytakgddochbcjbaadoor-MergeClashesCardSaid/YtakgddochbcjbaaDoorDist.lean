/- How far two lists are apart, and the chapter's first words: package diff's Distance, 'awake'. -/
import Derived.Test.YtakgddochbcjbaaDoorScript
namespace Go.Proofs.YtakgddochbcjbaaDoor
open Go.RowKit Go.Deep Go.MapKept

/-- a script, read -/
theorem script_r (l : List (Int × ByteArray)) (N B B' : Nat) (A A' : Option Addr) (n m c c' : Nat) (xs ys : List ByteArray) (w : World) (hv : script 400 xs ys = l) (hN : l.length = N) (hx : Reads w B 1 A n (strs xs)) (hy : Reads w B' 1 A' m (strs ys)) (hB : B ≤ w.heap.size) (hB' : B' ≤ w.heap.size) (hn : n ≤ 1000000) (hm : m ≤ 1000000) (hc : n ≤ c) (hc' : m ≤ c') (hcM : c ≤ maxLen) (hcM' : c' ≤ maxLen) :
    Calls Tryd.prog 109 #[.slice A n c, .slice A' m c'] w fun e w' => ∃ D b, e = .returned (.slice D N b) ∧ (N ≤ b ∧ b ≤ maxLen) ∧ Reads w' w'.heap.size 2 D N (edCells l) ∧ Grows w w' := by
  subst hv hN
  refine (script_any B B' A A' n m c c' xs ys w hx hy hB hB' hn hm hc hc' hcM hcM').mono ?_
  rintro e w' ⟨v, rfl, hown, hg⟩
  obtain ⟨D, b, rfl, h1, h2⟩ := own_form hown
  exact ⟨D, b, rfl, ⟨h1, h2⟩, Reads.of_own hown, hg⟩
theorem distN_take {l : List (Int × ByteArray)} {i : Nat} (h : i < l.length) : distN (l.take (i + 1)) = distN (l.take i) + (if gek l i = 1 then 0 else 1) := by
  rw [List.take_succ_eq_append_getElem h, distN_append]
  have e : l[i] = (gek l i, gel l i) := by simp [gek, gel, List.getElem?_eq_getElem h]
  rw [e, distN_cons]
  simp [distN]

end Go.Proofs.YtakgddochbcjbaaDoor
