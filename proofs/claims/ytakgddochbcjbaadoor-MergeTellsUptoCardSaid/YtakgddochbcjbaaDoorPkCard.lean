/- The wrap for a row that lists variables: the listed ones as they read, and the world's shape, are handed to the contract. A world for the witness of a row that lists variables and has a condition of its own. Slices of strings that came in: read whole. Slices of strings that came in: read whole, and how much they hold at most. -/
import Derived.Test.YtakgddochbcjbaaDoorTie
import Derived.Test.YtakgddochbcjbaaDoorCards
import Derived.Test.YtakgddochbcjbaaDoorPkShelf
import Derived.Test.YtakgddochbcjbaaDoorPkMergeTells
import Derived.ProofKit
import Derived.HandedShaped
import Derived.LaidMore
import Derived.Lay
import Derived.SevenTiedAt
import Derived.Deep.DeepHandedRow
import Derived.Test.YtakgddochbcjbaaDoorPkStrs
import Derived.SliceStrings
import Derived.ChangeMaps5
import Derived.Deep.Slices
import Derived.Deep.Fields
import Derived.Test.YtakgddochbcjbaaDoorPkSplSpec
import Derived.Test.YtakgddochbcjbaaDoorRows
namespace Go.Proofs.YtakgddochbcjbaaDoor
open Go.ChangeShapes Go.WideShapes Go.ChangeAt Go.RowKit

/-- as the kit's wrap for listed variables, the world's shape kept -/
theorem returns_listed {H : Type} {enc : TypeId × Value → H} {a : Assume} {C : Checked} {os : Os} {f : FuncId} {fn : Func} {s : ChangeSpec} {conds : List PathCond} {apart fresh handsOn again : Bool} {X : World → Array Value → Prop}
    (own : ownKnob C.prog.godebug = none) (started : os.Started) (noInit : C.prog.inits.idxOf? f = none) (hfn : C.prog.funcs[f]? = some fn)
    (witness : ∃ (w : World) (tape : Tape) (i : Input), w.os = os ∧ (w.forCall tape i).Shaped C.prog ∧ i.vars = [] ∧ Input.okWide C.prog (w.forCall tape i) .any w.heap.size f i ∧
      ((s.pre enc C.prog fn conds apart (w.forCall tape i).memory i.args ∧ X (w.forCall tape i).memory i.args) ∧ sizedMet enc C.prog fn (OpenSpec.ofChange s) apart (w.forCall tape i).memory i.args) ∧ a.holds C.prog (lone (Frame.enter C.prog f i.args .normal) [] (w.forCall tape i)))
    (contract : ∀ (W : World) (base : Nat) (args : Array Value) (ds gs : List (DataW H)) (before : List MemPlace),
      (∀ (j : Nat) t v, fn.params[j]? = some t → args[j]? = some v → Value.okWide C.prog W .any base t v) →
      DataW.Whole enc C.prog fn.params.toList s.vars apart W args.toList ds gs before →
      W.ShapedOpen C.prog →
      Calls C.prog f args W fun e W' => ∃ v, e = .returned v ∧ s.post enc C.prog fn apart fresh handsOn again W args v W') :
    ReturnsInHanded a C os f .any (fun w args => (s.pre enc C.prog fn conds apart w args ∧ X w args) ∧ sizedMet enc C.prog fn (OpenSpec.ofChange s) apart w args) (s.post enc C.prog fn apart fresh handsOn again) := by
  refine returnsInHanded_of_calls own started noInit witness ?_
  intro w tape i _ hsh _ hok hpre _
  obtain ⟨_, _, _, fn', hfn', _, _, _, _, hval⟩ := hok
  have e : fn' = fn := Option.some.inj (hfn'.symm.trans hfn)
  subst e
  obtain ⟨⟨⟨ds, gs, before, hw, _⟩, _⟩, _⟩ := hpre
  have hw' := DataW.Whole.of_heap (w' := w.forCall tape i) (by rfl) hw
  refine (contract (w.forCall tape i) w.heap.size i.args ds gs before hval hw' hsh).mono fun e W' ⟨v, he, hp⟩ => ?_
  subst he
  exact ChangeSpec.post_blind hp

/-- what the rows of this seat list -/
def laidHere : List (String × DataW Unit) := [("unicode/utf8.acceptRanges", Rows.laid_unicode_utf8_acceptRanges), ("unicode/utf8.first", Rows.laid_unicode_utf8_first)]
theorem max_of_shape {W : World} (h : W.ShapedOpen Tryd.prog) : ∃ m, W.cell? ⟨0, 0, none⟩ = some (.int .i64 m) := by
  first | exact Tryd.laysM219.s1_3 W h | exact Tryd.laysM146.s1_3 W h
end Go.Proofs.YtakgddochbcjbaaDoor
namespace Go.Proofs.YtakgddochbcjbaaDoor
open Go.ChangeShapes Go.WideShapes Go.ChangeAt Go.RowKit

theorem witness_listed {H : Type} {enc : TypeId × Value → H} {C : Checked} {os : Os} {f : FuncId} {fn : Func} {s : OpenSpec} {conds : List PathCond} {apart : Bool} {laid : List (String × DataW Unit)} (w0 : World) (args : Array Value) (hos : w0.os = os)
    (hsh : (w0.forCall (fun _ _ => 0) ⟨#[], args, []⟩).Shaped C.prog)
    (hok : Input.okWideB C.prog (w0.forCall (fun _ _ => 0) ⟨#[], args, []⟩) f ⟨#[], args, []⟩ = true)
    (hrow : s.preRow enc C.prog fn conds apart laid (w0.forCall (fun _ _ => 0) ⟨#[], args, []⟩).memory args) :
    ∃ (w : World) (tape : Tape) (i : Input), w.os = os ∧ (w.forCall tape i).Shaped C.prog ∧ i.vars = [] ∧ Input.okWide C.prog (w.forCall tape i) .any w.heap.size f i ∧
      s.preRow enc C.prog fn conds apart laid (w.forCall tape i).memory i.args ∧ ({} : Assume).holds C.prog (lone (Frame.enter C.prog f i.args .normal) [] (w.forCall tape i)) :=
  ⟨w0, fun _ _ => 0, ⟨#[], args, []⟩, hos, hsh, (Input.okWide_of_okWideB (base := 0) hok).1, (Input.okWide_of_okWideB hok).2, hrow, by
    simp only [Assume.holds]
    exact ⟨by simp, by simp, fun _ => Modest.zero, by simp, by simp⟩⟩
end Go.Proofs.YtakgddochbcjbaaDoor
namespace Go.Proofs.YtakgddochbcjbaaDoor
open Go.RowKit Go.WideShapes Go.ChangeShapes Go.ChangeAt Go.Deep

section
variable {H : Type} {enc : TypeId × Value → H} {P : Program}
theorem open_readsS {r : Reach} {b0 : Nat} {t e : TypeId} {v : Value} {d : DataW H} {ps : List MemPlace} {W : World} (ht : P.underlying t = some (.slice e)) (he : P.underlying e = some .string) (hc : P.cellsOf e = 1)
    (hval : Value.okWide P W r b0 t v) (h : DataW.Trod enc P W 0 (fun _ => true) true t v d ps) :
    ∃ A n c xs, v = .slice A n c ∧ Reads W W.heap.size 1 A n (Proofs.YtakgddochbcjbaaDoor.strs xs) ∧ n ≤ c ∧ c ≤ maxLen := by
  obtain ⟨a, n, c, rfl⟩ := okWide_slice ht hval
  obtain ⟨fuel, hf⟩ := h
  rcases open_strings ht he hc hf with ⟨hcs, _⟩ | ⟨a', len, cap, zs, hcs, _, hlc, hm, hz, _, hcell, _⟩
  · have e1 : Value.slice a n c = .slice none 0 0 := by simpa [Value.cells] using hcs
    cases e1
    exact ⟨none, 0, 0, [], rfl, Reads.none_, Nat.zero_le _, Nat.zero_le _⟩
  · have e1 : Value.slice a n c = .slice (some a') len cap := by simpa [Value.cells] using hcs
    cases e1
    rw [if_pos rfl] at hz
    refine ⟨_, _, _, zs.take n, rfl, ⟨by simp [Proofs.YtakgddochbcjbaaDoor.strs]; omega, fun h0 => ⟨a', rfl, ?_, fun j u hu => ?_⟩⟩, hlc, hm⟩
    · have h1 := hcell 0 (by omega)
      exact World.block_lt_of_cell? W _ h1
    · have hj : j < (zs.take n).length := by
        have := (List.getElem?_eq_some_iff.1 hu).1
        rwa [strs_len] at this
      rw [strs_get hj] at hu
      cases hu
      rw [List.length_take] at hj
      rw [hcell j (by omega)]
      congr 2
      simp [gs, show j < n by omega]

end

end Go.Proofs.YtakgddochbcjbaaDoor
namespace Go.Proofs.YtakgddochbcjbaaDoor
open Go.RowKit Go.WideShapes Go.ChangeShapes Go.ChangeAt Go.Deep

section
variable {H : Type} {enc : TypeId × Value → H} {P : Program}
theorem bulk_strs : ∀ xs : List ByteArray, (bl xs).flatten.length + xs.length ≤ Rows.uptoBulkAll (ChangeShapes.strs (H := H) xs)
  | [] => by simp [bl, ChangeShapes.strs, Rows.uptoBulkAll]
  | x :: r => by
    have h := bulk_strs r
    have e1 : Rows.uptoBulkAll (ChangeShapes.strs (H := H) (x :: r)) = x.data.toList.length + 1 + Rows.uptoBulkAll (ChangeShapes.strs (H := H) r) := by
      simp only [ChangeShapes.strs, List.map_cons, Rows.uptoBulkAll, Rows.uptoBulk]
    have e2 : (bl (x :: r)).flatten.length = x.data.toList.length + (bl r).flatten.length := by
      simp only [bl, List.map_cons, List.flatten_cons, List.length_append]
    rw [e1, e2, List.length_cons]
    omega
theorem open_readsSB {r : Reach} {b0 : Nat} {t e : TypeId} {v : Value} {d : DataW H} {ps : List MemPlace} {W : World} (ht : P.underlying t = some (.slice e)) (he : P.underlying e = some .string) (hc : P.cellsOf e = 1)
    (hval : Value.okWide P W r b0 t v) (h : DataW.Trod enc P W 0 (fun _ => true) true t v d ps) :
    ∃ A n c xs, v = .slice A n c ∧ Reads W W.heap.size 1 A n (Proofs.YtakgddochbcjbaaDoor.strs xs) ∧ n ≤ c ∧ c ≤ maxLen ∧ (bl xs).flatten.length + n ≤ Rows.uptoBulk d := by
  obtain ⟨a, n, c, rfl⟩ := okWide_slice ht hval
  obtain ⟨fuel, hf⟩ := h
  rcases open_strings ht he hc hf with ⟨hcs, _⟩ | ⟨a', len, cap, zs, hcs, _, hlc, hm, hz, hx, hcell, _⟩
  · have e1 : Value.slice a n c = .slice none 0 0 := by simpa [Value.cells] using hcs
    cases e1
    exact ⟨none, 0, 0, [], rfl, Reads.none_, Nat.zero_le _, Nat.zero_le _, Nat.zero_le _⟩
  · have e1 : Value.slice a n c = .slice (some a') len cap := by simpa [Value.cells] using hcs
    cases e1
    rw [if_pos rfl] at hz
    refine ⟨_, _, _, zs.take n, rfl, ⟨by simp [Proofs.YtakgddochbcjbaaDoor.strs]; omega, fun h0 => ⟨a', rfl, ?_, fun j u hu => ?_⟩⟩, hlc, hm, ?_⟩
    · have h1 := hcell 0 (by omega)
      exact World.block_lt_of_cell? W _ h1
    · have hj : j < (zs.take n).length := by
        have := (List.getElem?_eq_some_iff.1 hu).1
        rwa [strs_len] at this
      rw [strs_get hj] at hu
      cases hu
      rw [List.length_take] at hj
      rw [hcell j (by omega)]
      congr 2
      simp [gs, show j < n by omega]
    · have h1 := bulk_strs (H := H) (zs.take n)
      have h2 : (zs.take n).length = n := by rw [List.length_take]; omega
      have h3 : d = .slice (ChangeShapes.strs (zs.take n)) (ChangeShapes.strs (zs.drop n)) := congrArg Prod.fst hx
      rw [h3]
      simp only [Rows.uptoBulk]
      omega
end
end Go.Proofs.YtakgddochbcjbaaDoor
