/- Names of files: Parts, Right, Within, Clash of the program's package path. -/
import Derived.Test.YtakgddochbcjbaaDoorSplSpec
import Derived.Test.YtakgddochbcjbaaDoorShelf
import Derived.Laws.IdiomStrings
namespace Go.Proofs.YtakgddochbcjbaaDoor
open Go.RowKit Go.Deep Go.MapKept

/-- the cells of a list of bytes -/
def byteV (l : List UInt8) : List Value := l.map fun b => .int .u8 b.toNat
/-- a byte that may not stand in a name -/
def badB (b : UInt8) : Bool := decide (b.toNat < 33) || decide (126 < b.toNat)
/-- a part that may not stand in a name -/
def badS (s : ByteArray) : Bool := s == ⟨#[]⟩ || (s == ⟨#[46]⟩ || s == ⟨#[46, 46]⟩)
/-- is a name right? -/
def rightP (p : ByteArray) : Bool := decide (1 ≤ p.size ∧ p.size ≤ 100) && (!p.data.toList.any badB && !(pieces 47 0 p).any badS)
/-- a text, behind a name that the walk does not open -/
def dirT (d : ByteArray) : ByteArray := d ++ ⟨#[47]⟩
def withinP (p d : ByteArray) : Bool := Lib.hasPrefix p.data.toList (dirT d).data.toList
def clashP (a b : ByteArray) : Bool := a == b || (withinP a b || withinP b a)

theorem badS_list (s : ByteArray) : badS s = (s.toList.isEmpty || s.toList == [46] || s.toList == [46, 46]) := by
  have e0 : (ByteArray.mk #[]).toList = [] := by decide +kernel
  have e1 : (ByteArray.mk #[46]).toList = [46] := by decide +kernel
  have e2 : (ByteArray.mk #[46, 46]).toList = [46, 46] := by decide +kernel
  rw [badS, beq_toListBytes, beq_toListBytes, beq_toListBytes, e0, e1, e2, Bool.or_assoc]
  generalize s.toList = l
  cases l <;> rfl
/-- what IndexFunc tells: is there one that is bad? -/
def IdxBad (b : Bool) (r : Int) : Prop := (b = false → r = -1) ∧ (b = true → 0 ≤ r)
/-- element k of a list of bytes, behind a name that the walk does not open -/
def gby (l : List UInt8) (k : Nat) : UInt8 := l.getD k 0
theorem gby_some {l : List UInt8} {k : Nat} (h : k < l.length) : l[k]? = some (gby l k) := by simp [gby, h]
theorem any_take {α : Type} {l : List α} {k : Nat} {x : α} (f : α → Bool) (h : l[k]? = some x) : (l.take (k + 1)).any f = ((l.take k).any f || f x) := by
  obtain ⟨hk, e⟩ := List.getElem?_eq_some_iff.1 h
  rw [List.take_succ_eq_append_getElem hk, List.any_append, e]
  simp
theorem any_of {α : Type} {l : List α} {k : Nat} {x : α} (f : α → Bool) (h : l[k]? = some x) (hf : f x = true) : l.any f = true := by
  rw [List.any_eq_true]
  exact ⟨x, List.mem_of_getElem? h, hf⟩
theorem Reads.byteAt {w : World} {B n k : Nat} {A : Option Addr} {l : List UInt8} (h : Reads w B 1 A n (byteV l)) (hk : k < n) : ∃ ad, A = some ad ∧ ad.block < B ∧ w.cell? (ad.add k) = some (.int .u8 (gby l k).toNat) := by
  obtain ⟨ad, u, e, hb, hx, hc⟩ := h.at_ hk
  have hl : k < l.length := by have := h.1; simp [byteV] at this; omega
  refine ⟨ad, e, hb, hc.trans ?_⟩
  simp only [byteV, List.getElem?_map, gby_some hl, Option.map_some, Option.some.injEq] at hx
  rw [← hx]
theorem Reads.byteLen {w : World} {B n : Nat} {A : Option Addr} {l : List UInt8} (h : Reads w B 1 A n (byteV l)) : l.length = n := by have := h.1; simpa [byteV] using this

theorem gs_some {xs : List ByteArray} {k : Nat} (h : k < xs.length) : xs[k]? = some (gs xs k) := by simp [gs, h]
end Go.Proofs.YtakgddochbcjbaaDoor
