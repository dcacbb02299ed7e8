/- Maps to int that a call makes, told by a function: their look-ups and stores. -/
import Derived.Test.YtakgddochbcjbaaDoorPkChunkUse
import Derived.Maps.OwnSet
import Derived.DeepKeys4
namespace Go.Proofs.YtakgddochbcjbaaDoor
open Go.RowKit Go.Deep Go.MapKept Go.Maps

def ok64 (i : Int) : Prop := -9223372036854775808 ≤ i ∧ i ≤ 9223372036854775807
theorem keyedInt : Keyed Tryd.prog 3 := int_keyed Tryd.underlying3
theorem Tryd.laidOut : laidOutB Tryd.prog = true := by kernel_rfl
theorem Tryd.rowPl : (116 : TypeId) < Tryd.prog.types.size := of_decide_eq_true (by kernel_rfl)
theorem Tryd.widePl : (match Tryd.prog.underlying 116 with | some (.array _ _) | some (.struct _) => true | _ => false) = true := by kernel_rfl
set_option maxRecDepth 100000 in
theorem keyedPl : Keyed Tryd.prog 116 := Keyed.of_law (deep_law_laid Tryd.laidOut (m := 3) (by omega) Tryd.rowPl (by kernel_rfl) Tryd.widePl)
theorem Tryd.zeroInt (w : World) : (zeroValue 3).run Tryd.prog w = .ok (.int .i64 0) w := by kernel_rfl
theorem Tryd.keyTypePl : Tryd.prog.keyType 116 = true := by kernel_rfl
theorem Tryd.cellsPl : Tryd.prog.cellsOf 116 = 2 := by kernel_rfl
theorem Tryd.cellsInt : Tryd.prog.cellsOf 3 = 1 := by kernel_rfl
theorem Tryd.sizeTypes : ∃ m, Tryd.prog.types.size = m + 1 := ⟨Tryd.prog.types.size - 1, by have h : 0 < Tryd.prog.types.size := Nat.lt_of_le_of_lt (Nat.zero_le _) Tryd.rowPl; omega⟩

/-- what a place reads as, as a key -/
def plKey (p : Int × Int) : Lit := .string (keyBytes [.int .i64 p.1, .int .i64 p.2])
theorem keyOf_place {a b : Int} (wa : (Lit.int .i64 a).wf = true) (wb : (Lit.int .i64 b).wf = true) : keyOf Tryd.prog 116 (.agg #[.int .i64 a, .int .i64 b]) = some (plKey (a, b)) := by
  obtain ⟨m, hm⟩ := Tryd.sizeTypes
  unfold keyOf
  simp only [Tryd.underlying116]
  rw [if_pos (by simp [Tryd.keyTypePl, Value.formed, Tryd.underlying116, Tryd.cellsPl]), hm]
  unfold Program.keyLits
  simp only [Tryd.underlying116, Value.cells]
  rw [if_pos (by rw [Tryd.cellsPl]; exact ⟨rfl, by simp⟩)]
  simp [Tryd.cellsInt, Program.keyLits, Tryd.underlying3, wa, wb, plKey]

section
variable {κ : Type}
/-- f with one thing put in -/
def putF [DecidableEq κ] (f : κ → Option Int) (i : κ) (v : Int) : κ → Option Int := fun j => if j = i then some v else f j
/-- block b is a map of at most n entries: f tells what it has -/
def MapFn (k : TypeId) (kl : κ → Lit) (ok : κ → Prop) (w : World) (b n : Nat) (f : κ → Option Int) : Prop :=
  ∃ D : DataW Unit, w.ownsMap Tryd.prog k (plainElem Tryd.prog 3) b n D ∧ ∀ i, ok i → has D (kl i) = (f i).isSome ∧ D.atKey (kl i) (.lit (.int .i64 0)) = .lit (.int .i64 ((f i).getD 0))
variable {k : TypeId} {kl : κ → Lit} {ok : κ → Prop} {w w' : World} {b n : Nat} {f g : κ → Option Int}
theorem MapFn.lt (h : MapFn k kl ok w b n f) : b < w.heap.size := by obtain ⟨D, h, _⟩ := h; exact h.lt
theorem MapFn.kept {row : Option Nat} (h : MapFn k kl ok w b n f) (hg : w.grownBy w' row) (hne : some b ≠ row) : MapFn k kl ok w' b n f := by
  obtain ⟨D, h, h2⟩ := h
  exact ⟨D, h.kept hg hne, h2⟩
theorem MapFn.block (h : MapFn k kl ok w b n f) (e : w'.heap[b]? = w.heap[b]?) : MapFn k kl ok w' b n f := by
  obtain ⟨D, ⟨es, c, hb, r⟩, h2⟩ := h
  exact ⟨D, ⟨es, c, e.trans hb, r⟩, h2⟩
theorem MapFn.grows (h : MapFn k kl ok w b n f) (hg : Grows w w') : MapFn k kl ok w' b n f := h.block (hg.block b h.lt)
theorem MapFn.drew (h : MapFn k kl ok w b n f) : MapFn k kl ok w.drew b n f := h
theorem MapFn.drewN (h : MapFn k kl ok w b n f) (d : Nat) : MapFn k kl ok (w.drewN d) b n f := h
theorem MapFn.alloc (h : MapFn k kl ok w b n f) (o : Obj) : MapFn k kl ok (w.alloc o) b n f := by
  obtain ⟨D, h, h2⟩ := h
  exact ⟨D, h.alloc o, h2⟩
theorem MapFn.congr (h : MapFn k kl ok w b n f) (e : ∀ i, ok i → f i = g i) : MapFn k kl ok w b n g := by
  obtain ⟨D, h, h2⟩ := h
  exact ⟨D, h, fun i hi => by rw [← e i hi]; exact h2 i hi⟩
theorem MapFn.mono {n' : Nat} (h : MapFn k kl ok w b n f) (hn : n ≤ n') : MapFn k kl ok w b n' f := by
  obtain ⟨D, h, h2⟩ := h
  exact ⟨D, h.mono hn, h2⟩
theorem MapFn.made (w : World) : MapFn k kl ok (w.alloc (.map #[] 0)) w.heap.size 0 (fun _ => none) :=
  ⟨.map [], World.ownsMap_made _ _ _ _, fun _ _ => ⟨rfl, rfl⟩⟩
theorem MapFn.put [DecidableEq κ] {t : TypeId} {mk : κ → Value} (K : Keyed Tryd.prog k) (hk : ∀ i, ok i → keyOf Tryd.prog k (mk i) = some (kl i)) (hinj : ∀ i j, mk i = mk j → i = j) (ht : Tryd.prog.underlying t = some (.map k 3))
    (h : MapFn k kl ok w b n f) (hn : n < maxLen) (i : κ) (hi : ok i) (v : Int) (hv : (Lit.int .i64 v).wf = true) :
    ∃ w', (Instr.mapUpdate t (.map (some b)) (mk i) (.int .i64 v)).run Tryd.prog w = .ok () w' ∧ MapFn k kl ok w' b (n + 1) (putF f i v) ∧ w.grownBy w' (some b) := by
  obtain ⟨D, hown, h2⟩ := h
  obtain ⟨w', h3, h4, h5⟩ := hown.update (val := .int .i64 v) K ht hn (hk i hi) (plainElem_int Tryd.underlying3 hv)
  refine ⟨w', h3, ⟨_, h4, fun j hj => ?_⟩, h5⟩
  unfold putF
  by_cases e : j = i
  · subst e
    rw [if_pos rfl]
    exact ⟨by rw [has_put_same hown.isMap (K.key (hk j hj))]; rfl, by rw [atKey_put_same hown.isMap (K.key (hk j hj))]; rfl⟩
  · rw [if_neg e]
    have hne : kl j ≠ kl i := fun he => e (hinj j i (K.inj (hk j hj) (by rw [he]; exact hk i hi)))
    rw [has_put_other hne, atKey_put_other hne]
    exact h2 j hj
theorem MapFn.look {t : TypeId} {mk : κ → Value} (K : Keyed Tryd.prog k) (hk : ∀ i, ok i → keyOf Tryd.prog k (mk i) = some (kl i)) (ht : Tryd.prog.underlying t = some (.map k 3))
    (h : MapFn k kl ok w b n f) (i : κ) (hi : ok i) : (Instr.lookup t (.map (some b)) (mk i) true).run Tryd.prog w = .ok (.tuple #[.int .i64 ((f i).getD 0), .bool (f i).isSome]) w := by
  obtain ⟨D, hown, h2⟩ := h
  obtain ⟨v, ps, h3, h4⟩ := hown.look_ok K ht (Tryd.zeroInt w) (plainElem_int Tryd.underlying3 (by decide)) (hk i hi)
  obtain ⟨h5, h6⟩ := h2 i hi
  rw [h6] at h4
  obtain ⟨c, rfl, h7, _⟩ := plainElem_int_inv Tryd.underlying3 h4
  simp only [Prod.mk.injEq, DataW.lit.injEq, Lit.int.injEq, true_and] at h7
  rw [h3, h5, h7.1]
end

/-- a map[int]int -/
abbrev MapI (w : World) (b n : Nat) (f : Int → Option Int) : Prop := MapFn 3 (fun i : Int => .int .i64 i) ok64 w b n f
/-- a map[place]int -/
abbrev MapP (w : World) (b n : Nat) (f : Int × Int → Option Int) : Prop := MapFn 116 plKey (fun p => ok64 p.1 ∧ ok64 p.2) w b n f
def placeV (p : Int × Int) : Value := .agg #[.int .i64 p.1, .int .i64 p.2]

theorem MapI.put {w : World} {b n : Nat} {f : Int → Option Int} (h : MapI w b n f) (hn : n < maxLen) (i : Int) (hi : ok64 i) (v : Int) (hv : ok64 v) :
    ∃ w', (Instr.mapUpdate 112 (.map (some b)) (.int .i64 i) (.int .i64 v)).run Tryd.prog w = .ok () w' ∧ MapI w' b (n + 1) (putF f i v) ∧ w.grownBy w' (some b) :=
  MapFn.put (mk := fun i => .int .i64 i) keyedInt (fun _ hi => keyOf_int_mk Tryd.underlying3 (WalkArith.wf_i64 hi)) (fun i j e => by injection e) Tryd.underlying112 h hn i hi v (WalkArith.wf_i64 hv)
theorem MapI.look {w : World} {b n : Nat} {f : Int → Option Int} (h : MapI w b n f) (i : Int) (hi : ok64 i) :
    (Instr.lookup 112 (.map (some b)) (.int .i64 i) true).run Tryd.prog w = .ok (.tuple #[.int .i64 ((f i).getD 0), .bool (f i).isSome]) w :=
  MapFn.look (mk := fun i => .int .i64 i) keyedInt (fun _ hi => keyOf_int_mk Tryd.underlying3 (WalkArith.wf_i64 hi)) Tryd.underlying112 h i hi
theorem placeV_inj (p q : Int × Int) (e : placeV p = placeV q) : p = q := by
  obtain ⟨a, b⟩ := p
  obtain ⟨c, d⟩ := q
  simpa [placeV] using e
theorem MapP.put {w : World} {b n : Nat} {f : Int × Int → Option Int} (h : MapP w b n f) (hn : n < maxLen) (p : Int × Int) (hp : ok64 p.1 ∧ ok64 p.2) (v : Int) (hv : ok64 v) :
    ∃ w', (Instr.mapUpdate 114 (.map (some b)) (placeV p) (.int .i64 v)).run Tryd.prog w = .ok () w' ∧ MapP w' b (n + 1) (putF f p v) ∧ w.grownBy w' (some b) :=
  MapFn.put (mk := placeV) keyedPl (fun _ hi => keyOf_place (WalkArith.wf_i64 hi.1) (WalkArith.wf_i64 hi.2)) placeV_inj Tryd.underlying114 h hn p hp v (WalkArith.wf_i64 hv)
theorem MapP.look {w : World} {b n : Nat} {f : Int × Int → Option Int} (h : MapP w b n f) (p : Int × Int) (hp : ok64 p.1 ∧ ok64 p.2) :
    (Instr.lookup 114 (.map (some b)) (placeV p) true).run Tryd.prog w = .ok (.tuple #[.int .i64 ((f p).getD 0), .bool (f p).isSome]) w :=
  MapFn.look (mk := placeV) keyedPl (fun _ hi => keyOf_place (WalkArith.wf_i64 hi.1) (WalkArith.wf_i64 hi.2)) Tryd.underlying114 h p hp

section
variable {ops : Array Oper} {rest : List Oper} {o : Oper} {a : Act} {Q : Exit → Act → World → Prop}
theorem wpList_putI {w : World} (hg : o.guard = none) (m x v : Operand) (hop : o.op = Op.mapUpdate 112 m x v) (b n : Nat) (f : Int → Option Int) (hm : a.eval m = .map (some b)) (h : MapI w b n f) (hn : n < maxLen)
    (i y : Int) (hx : a.eval x = .int .i64 i) (hv : a.eval v = .int .i64 y) (hi : ok64 i) (hy : ok64 y)
    (hK : ∀ w', MapI w' b (n + 1) (putF f i y) → w.grownBy w' (some b) → wpList Tryd.prog ops Q rest (a.put o.dst undef) w') : wpList Tryd.prog ops Q (o :: rest) a w := by
  refine wpList_plain hg fun K' hK' => ?_
  obtain ⟨w', hrun, r1, r2⟩ := MapI.put h hn i hi y hy
  unfold Oper.wp
  simp [execOp, hop, hm, hx, hv, hrun, Result.andThen]
  exact hK' _ _ (hK w' r1 r2)
theorem wpList_putP {w : World} (hg : o.guard = none) (m x v : Operand) (hop : o.op = Op.mapUpdate 114 m x v) (b n : Nat) (f : Int × Int → Option Int) (hm : a.eval m = .map (some b)) (h : MapP w b n f) (hn : n < maxLen)
    (i j y : Int) (hx : a.eval x = .agg #[.int .i64 i, .int .i64 j]) (hv : a.eval v = .int .i64 y) (hi : ok64 i) (hj : ok64 j) (hy : ok64 y)
    (hK : ∀ w', MapP w' b (n + 1) (putF f (i, j) y) → w.grownBy w' (some b) → wpList Tryd.prog ops Q rest (a.put o.dst undef) w') : wpList Tryd.prog ops Q (o :: rest) a w := by
  refine wpList_plain hg fun K' hK' => ?_
  obtain ⟨w', hrun, r1, r2⟩ := MapP.put h hn (i, j) ⟨hi, hj⟩ y hy
  simp only [placeV] at hrun
  unfold Oper.wp
  simp [execOp, hop, hm, hx, hv, hrun, Result.andThen]
  exact hK' _ _ (hK w' r1 r2)
theorem wpList_lookI {w : World} (hg : o.guard = none) (m x : Operand) (hop : o.op = Op.lookup 112 m x true) (b n : Nat) (f : Int → Option Int) (hm : a.eval m = .map (some b)) (h : MapI w b n f)
    (i : Int) (hx : a.eval x = .int .i64 i) (hi : ok64 i) (c : Int) (is : Bool) (hc : (f i).getD 0 = c) (his : (f i).isSome = is)
    (hK : wpList Tryd.prog ops Q rest (a.put o.dst (.tuple #[.int .i64 c, .bool is])) w) : wpList Tryd.prog ops Q (o :: rest) a w := by
  refine wpList_plain hg fun K' hK' => ?_
  have hrun := MapI.look h i hi
  rw [hc, his] at hrun
  unfold Oper.wp
  simp [execOp, hop, hm, hx, hrun, Result.andThen]
  exact hK' _ _ hK
theorem wpList_lookP {w : World} (hg : o.guard = none) (m x : Operand) (hop : o.op = Op.lookup 114 m x true) (b n : Nat) (f : Int × Int → Option Int) (hm : a.eval m = .map (some b)) (h : MapP w b n f)
    (i j : Int) (hx : a.eval x = .agg #[.int .i64 i, .int .i64 j]) (hi : ok64 i) (hj : ok64 j) (c : Int) (is : Bool) (hc : (f (i, j)).getD 0 = c) (his : (f (i, j)).isSome = is)
    (hK : wpList Tryd.prog ops Q rest (a.put o.dst (.tuple #[.int .i64 c, .bool is])) w) : wpList Tryd.prog ops Q (o :: rest) a w := by
  refine wpList_plain hg fun K' hK' => ?_
  have hrun := MapP.look h (i, j) ⟨hi, hj⟩
  simp only [placeV] at hrun
  rw [hc, his] at hrun
  unfold Oper.wp
  simp [execOp, hop, hm, hx, hrun, Result.andThen]
  exact hK' _ _ hK
end
end Go.Proofs.YtakgddochbcjbaaDoor
