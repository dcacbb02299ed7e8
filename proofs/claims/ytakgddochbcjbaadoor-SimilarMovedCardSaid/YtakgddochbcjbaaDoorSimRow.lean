/- slices.DeleteFunc over a row of numbers of the call's own; the two closures of similar's take. -/
import Derived.Test.YtakgddochbcjbaaDoorLone
import Derived.Test.YtakgddochbcjbaaDoorShelf2
namespace Go.Proofs.YtakgddochbcjbaaDoor
open Go.RowKit Go.Deep Go.MapKept Go.Shelf

abbrev encI : Int → Value := Value.int .i64
theorem putRow_grown (w : World) (g q : Nat) (d : Array Int) : w.grownBy (Go.Sort.putRow encI (Go.Sort.ahead w q) g 0 d) (some g) :=
  ⟨rfl, rfl, rfl, by simp [Go.Sort.ahead], fun k _ hne => by
    have : g ≠ k := fun e => hne (by rw [e])
    simp [Go.Sort.putRow, Go.Sort.mapBlock, Go.Sort.ahead, Array.getElem?_modify, this]⟩
theorem putRow_own {w : World} {B g n c : Nat} {xs : List Int} (h : w.ownsRow B 3 1 (.slice (some ⟨g, 0, none⟩) n c) n (ints xs)) (d : List Int) (hd : d.length = n) (m : Nat) (hm : m ≤ n) (q : Nat) :
    (Go.Sort.putRow encI (Go.Sort.ahead w q) g 0 d.toArray).ownsRow B 3 1 (.slice (some ⟨g, 0, none⟩) m c) m (ints (d.take m)) := by
  rcases h.2 with ⟨e, _⟩ | ⟨g', cap, cur, e, hb, hg, h1, h2, h3, h4⟩
  · cases e
  · cases e
    refine ⟨by simp [ints]; omega, .inr ⟨g, c, Go.Sort.putCells encI 0 d.toArray cur, rfl, hb, ?_, by omega, h2, by simp [Go.Sort.putCells, h3], ?_⟩⟩
    · simp [Go.Sort.putRow, Go.Sort.mapBlock, Go.Sort.ahead, Array.getElem?_modify, hg, Go.Sort.onCells]
    · apply List.ext_getElem?
      intro k
      rw [List.getElem?_take]
      by_cases hk : k < m
      · have hkc : k < cur.size := by omega
        have hkd : k < d.length := by omega
        rw [if_pos (by omega)]
        simp [Go.Sort.putCells, ints, hk, hkd, hkc]
      · rw [if_neg (by omega)]
        simp [ints, List.getElem?_take, hk]
/-- what is left of numbers when one goes -/
def delL (x : Int) (xs : List Int) : List Int := xs.filter fun j => !(j == x)
theorem delL_len (x : Int) (xs : List Int) : (delL x xs).length ≤ xs.length := List.length_filter_le _ _
set_option maxRecDepth 100000 in
set_option maxHeartbeats 1000000 in
theorem del_any (fn off b B g n c : Nat) (x : Int) (xs : List Int) (w : World) (hfn : ∀ (W : World) (j : Int), W.cell? ⟨b, off, none⟩ = some (.int .i64 x) → FnGives Tryd.prog fn #[.pointer (some ⟨b, 0, none⟩)] #[.int .i64 j] (.bool (j == x)) W)
    (eg : ∀ args w, (callFunc fn args).run Tryd.prog w = .ok (.enter fn args) w) (h : w.ownsRow B 3 1 (.slice (some ⟨g, 0, none⟩) n c) n (ints xs)) (hb : b < w.heap.size) (hne : b ≠ g) (hc : w.cell? ⟨b, off, none⟩ = some (.int .i64 x)) :
    Calls Tryd.prog 120 #[.slice (some ⟨g, 0, none⟩) n c, .func (.func fn) #[] #[.pointer (some ⟨b, 0, none⟩)]] w fun e w' =>
      e = .returned (.slice (some ⟨g, 0, none⟩) (delL x xs).length c) ∧ w'.ownsRow B 3 1 (.slice (some ⟨g, 0, none⟩) (delL x xs).length c) (delL x xs).length (ints (delL x xs)) ∧ w.grownBy w' (some g) := by
  have hl : xs.length = n := by have := h.1; simpa [ints] using this
  have hH : Go.Sort.Holds encI w g 0 xs.toArray := by
    rcases h.2 with ⟨e, _⟩ | ⟨g', cap, cur, e, hb', hg, h1, h2, h3, h4⟩
    · cases e
    · cases e
      intro j hj
      have hB : Blk w g 3 cur := hg
      have hj' : j < xs.length := by simpa using hj
      rw [Nat.zero_add, hB.cell, hB.frozen]
      refine ⟨?_, rfl⟩
      have e1 := congrArg (fun l : List Value => l[j]?) h4
      simp only [List.getElem?_take] at e1
      rw [if_pos (by omega)] at e1
      rw [← Array.getElem?_toList, e1]
      simp [ints, hj']
  have hcap : n ≤ c := by
    obtain ⟨A', c', e, h1, h2⟩ := own_form h
    cases e
    exact h1
  have hcM : c ≤ maxLen := by
    obtain ⟨A', c', e, h1, h2⟩ := own_form h
    cases e
    exact h2
  unfold maxLen at hcM
  have hp : PredAt Tryd.prog fn #[.pointer (some ⟨b, 0, none⟩)] encI (fun j => j == x) w := fun W j hW => hfn W j ((hW.cell (p := ⟨b, off, none⟩) hb).trans hc)
  have hpo : PredOver Tryd.prog fn #[.pointer (some ⟨b, 0, none⟩)] encI (fun j => j == x) g 0 xs.toArray.size w := fun k os dk j _ => hfn _ j (by
    unfold sortWorld
    rw [Go.Sort.cell?_grow _ _ _ (by show b < (Go.Sort.putRow _ _ _ _ _).heap.size; rw [Go.Sort.size_putRow]; exact hb), Go.Sort.cell?_putRow_other _ _ g 0 _ _ (Or.inl hne)]
    exact hc)
  have hcon := Tryd.slices_DeleteFunc encI (fun _ => rfl) (fun j => j == x) fn #[.pointer (some ⟨b, 0, none⟩)] eg 0 (by intro w; kernel_rfl) g 0 c xs.toArray w hp hpo hH (by simp; omega) (by simp; omega)
  have e0 : xs.toArray.size = n := by simpa using hl
  rw [e0] at hcon
  refine hcon.mono ?_
  rintro e w' ⟨rfl, q, rfl⟩
  have e1 : (xs.toArray.toList.filter fun j => !(j == x)) = delL x xs := by simp [delL]
  have hd := delL_len x xs
  rw [e1]
  refine ⟨rfl, ?_, putRow_grown _ _ _ _⟩
  have := putRow_own h (delL x xs ++ List.replicate (n - (delL x xs).length) 0) (by simp; omega) (delL x xs).length (by omega) q
  rw [List.take_left] at this
  exact this

theorem take1_gives (b : Nat) (x : Int) (W : World) (j : Int) (hc : W.cell? ⟨b, 0, none⟩ = some (.int .i64 x)) : FnGives Tryd.prog 121 #[.pointer (some ⟨b, 0, none⟩)] #[.int .i64 j] (.bool (j == x)) W := by
  show Calls Tryd.prog 121 #[.int .i64 j, .pointer (some ⟨b, 0, none⟩)] W _
  go_enter Tryd.func121, Tryd.ntmps121
  go_wp2
  go_ret
  exact ⟨rfl, 0, rfl⟩
theorem take2_gives (b : Nat) (x : Int) (W : World) (j : Int) (hc : W.cell? ⟨b, 1, none⟩ = some (.int .i64 x)) : FnGives Tryd.prog 122 #[.pointer (some ⟨b, 0, none⟩)] #[.int .i64 j] (.bool (j == x)) W := by
  show Calls Tryd.prog 122 #[.int .i64 j, .pointer (some ⟨b, 0, none⟩)] W _
  go_enter Tryd.func122, Tryd.ntmps122
  go_wp2
  go_ret
  exact ⟨rfl, 0, rfl⟩
end Go.Proofs.YtakgddochbcjbaaDoor
