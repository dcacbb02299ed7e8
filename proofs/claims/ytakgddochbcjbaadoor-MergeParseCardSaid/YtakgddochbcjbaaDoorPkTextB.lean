/- merge3's text: a strings.Builder that lies in a struct: copyCheck, WriteString, WriteByte, String. merge3's mark (a range over a map), text.put, text.mark; lines.Join wherever its list lies. -/
import Derived.Shelf.Strings.BuilderK
import Derived.Test.YtakgddochbcjbaaDoorPkStrs
import Derived.Test.YtakgddochbcjbaaDoorPkMarks
import Derived.Test.YtakgddochbcjbaaDoorPkMixS
import Derived.Test.YtakgddochbcjbaaDoorPkPath
import Derived.Test.YtakgddochbcjbaaDoorPkShelf
import Derived.Maps.RangeWalk
import Derived.Sort.KeysCollected
namespace Go.Proofs.YtakgddochbcjbaaDoor
open Go.RowKit Go.Deep Go.MapKept Go.Shelf

abbrev TXT : TypeId := 76
theorem Tryd.infoByte : (Tryd.prog.info? 5).map (fun i => (i.zero, i.size, i.bytes)) = some (some (.int .u8 0), 1, 1) := by kernel_rfl
theorem sizeBuilder : (Tryd.prog.info? 74).map (·.size) = some 2 := by kernel_rfl
theorem liesBuilder : liesAt Tryd.prog Tryd.prog.depth TXT (2 / Tryd.prog.cellsOf TXT) 0 74 1 = true := by kernel_rfl
theorem cellsByte : Tryd.prog.cellsOf 5 = 1 := by kernel_rfl

set_option maxRecDepth 100000 in
set_option maxHeartbeats 1000000 in
set_option maxRecDepth 100000 in
theorem bcheck_used (b : Nat) (w : World) (h0 : w.cell? ⟨b, 0, none⟩ = some (.pointer (some ⟨b, 0, none⟩))) :
    Calls Tryd.prog 117 #[.pointer (some ⟨b, 0, none⟩)] w fun e w' => e = .returned (.tuple #[]) ∧ w' = w := by
  obtain ⟨j, hj, _⟩ := Option.map_eq_some_iff.1 sizeBuilder
  go_enter Tryd.func117, Tryd.ntmps117
  go_wp2_with fail
  rw [Lib.run_neq_ptr_same w _ Tryd.underlying71 hj]
  go_wp2_with fail
  go_end0
  exact ⟨rfl, rfl⟩
set_option maxRecDepth 100000 in
set_option maxHeartbeats 1000000 in
set_option maxRecDepth 100000 in
theorem bcheck_fresh (b : Nat) (w : World) (h0 : w.cell? ⟨b, 0, none⟩ = some (.pointer none)) (hsh : w.shape? b = some (TXT, 2)) (hfz : w.frozen? ⟨b, 0, none⟩ = false) :
    Calls Tryd.prog 117 #[.pointer (some ⟨b, 0, none⟩)] w fun e w' => e = .returned (.tuple #[]) ∧ w' = w.setCell ⟨b, 0, none⟩ (.pointer (some ⟨b, 0, none⟩)) := by
  obtain ⟨j, hj, hjs⟩ := Option.map_eq_some_iff.1 sizeBuilder
  go_enter Tryd.func117, Tryd.ntmps117
  go_wp2_with fail
  rw [Lib.run_to_unsafe w ⟨b, 0, none⟩ Tryd.underlying71 Tryd.underlying174 hj (by rw [hjs]; decide) hsh (Nat.zero_lt_succ 1)]
  simp only [Result.andThen]
  rw [Oper.upon_value]
  go_wp2_with fail
  rw [run_callFunc_extern Tryd.func143 (by kernel_rfl) (by kernel_rfl) (by kernel_rfl) (e := Extern.AbiNoEscape.same) (by kernel_rfl)]
  rw [Lib.run_noEscape]
  simp only [Result.andThen]
  rw [Oper.upon_value]
  go_wp2_with fail
  rw [Lib.run_from_unsafe w ⟨b, 0, none⟩ Tryd.underlying174 Tryd.underlying71 hj hsh liesBuilder]
  simp only [Result.andThen]
  rw [Oper.upon_value]
  go_wp2_with fail
  go_end0
  exact ⟨rfl, rfl⟩
/-- a text in a block of the call's own, holding these bytes -/
def TextB (B b : Nat) (l : List UInt8) (w : World) : Prop := Lib.IsBuilderF TXT 5 B b (Lib.byteCells l) w
/-- below B nothing has turned; nor has anything above it but block b and rows of bytes -/
abbrev BK (B b : Nat) (w w' : World) : Prop := Below B w w' ∧ Lib.OthersKept 5 (some b) w w'
theorem BK.refl (B b : Nat) (w : World) : BK B b w w := ⟨Below.refl B w, Lib.OthersKept.refl _ _ w⟩
theorem BK.trans {B b : Nat} {w w1 w2 : World} (h : BK B b w w1) (k : BK B b w1 w2) : BK B b w w2 := ⟨Below.trans h.1 k.1, h.2.trans k.2⟩
theorem BK.size {B b : Nat} {w w1 : World} (h : BK B b w w1) : w.heap.size ≤ w1.heap.size := Below.size h.1
theorem BK.of_grows {B b : Nat} {w w1 : World} (h : Grows w w1) (hB : B ≤ w.heap.size) : BK B b w w1 :=
  ⟨Below.mono h hB, fun k _ hk _ _ => (h.block k (Array.getElem?_eq_some_iff.1 hk).1).trans hk⟩
theorem BK.blk {B b g : Nat} {t : TypeId} {cs : Array Value} {w w1 : World} (h : BK B b w w1) (hb : Blk w g t cs) (hg : g ≠ b) (ht : t ≠ 5) : Blk w1 g t cs :=
  h.2 g _ hb (fun e => hg (Option.some.inj e)) (fun c fz e => ht (by injection e))
theorem bcheck_any (B b : Nat) (bs : List Value) (w : World) (h : Lib.IsBuilderF TXT 5 B b bs w) :
    Calls Tryd.prog 117 #[.pointer (some ⟨b, 0, none⟩)] w fun e w' => e = .returned (.tuple #[]) ∧ (Lib.BuilderAtF TXT 5 B b (.pointer (some ⟨b, 0, none⟩)) bs w' ∧ BK B b w w') := by
  rcases h with h | h
  · refine (bcheck_fresh b w h.cell0 h.shape h.frozen0).mono ?_
    rintro e w' ⟨rfl, rfl⟩
    exact ⟨rfl, h.used _, (Below.refl B w).setCell (p := ⟨b, 0, none⟩) h.1 _, (Lib.OthersKept.refl _ _ w).setCell ⟨b, 0, none⟩ rfl _⟩
  · refine (bcheck_used b w h.cell0).mono ?_
    rintro e w' ⟨rfl, rfl⟩
    exact ⟨rfl, h, BK.refl B b _⟩
theorem byteCells_append (l m : List UInt8) : Lib.byteCells (l ++ m) = Lib.byteCells l ++ Lib.byteCells m := by simp [Lib.byteCells]
theorem strCells_bytes (s : ByteArray) : Lib.strCells s = Lib.byteCells s.data.toList := by simp [Lib.strCells, Lib.byteCells]

set_option maxRecDepth 100000 in
set_option maxHeartbeats 2000000 in
set_option maxRecDepth 100000 in
theorem bwrite_any (B b : Nat) (l : List UInt8) (s : ByteArray) (w : World) (h : TextB B b l w) (hlen : l.length + s.size ≤ 1000000000000) (hBw : B ≤ w.heap.size) :
    Calls Tryd.prog 85 #[.pointer (some ⟨b, 0, none⟩), .string s] w fun e w' => e = .returned (.tuple #[.int .i64 s.size, .nilIface]) ∧ TextB B b (l ++ s.data.toList) w' ∧ BK B b w w' := by
  obtain ⟨i0, hi, hz0, hz1, hz2⟩ := info_parts Tryd.infoByte
  have hbl : (Lib.byteCells l).length = l.length := Lib.byteCells_length l
  go_enter Tryd.func85, Tryd.ntmps85
  go_wp2_with fail
  refine (bcheck_any B b _ _ h).mono ?_
  rintro e w1 ⟨rfl, h1, hb1, hk1⟩
  obtain ⟨hB, v, hbk, hown, hne⟩ := h1
  have c0 : w1.cell? ⟨b, 0, none⟩ = some (.pointer (some ⟨b, 0, none⟩)) := by rw [Lib.cell_of_heap hbk]; rfl
  have c1 : w1.cell? ⟨b, 1, none⟩ = some v := by rw [Lib.cell_of_heap hbk]; rfl
  go_wp2_with (at_builtin; refine Lib.wpList_append_own_stringF _ rfl _ _ 72 9 rfl B 5 i0 Tryd.underlying72 Tryd.underlying9 hi hz0 hz1 hz2 _ _ _ rfl hown s rfl ?c3 ?c4 ?c5 ?_)
  case c3 => unfold maxLen; omega
  case c4 => omega
  case c5 => have := hb1.size; omega
  intro v' w2 hown' hgrow _
  have hlt : b < w1.heap.size := by
    rcases Nat.lt_or_ge b w1.heap.size with h' | h'
    · exact h'
    · simp [Array.getElem?_eq_none h'] at hbk
  have hb2 : w2.heap[b]? = some (.cells #[.pointer (some ⟨b, 0, none⟩), v] TXT (0, 0)) := by
    rw [hgrow.block b hlt (fun e => hne e.symm)]
    exact hbk
  have d0 : w2.cell? ⟨b, 0, none⟩ = some (.pointer (some ⟨b, 0, none⟩)) := by rw [Lib.cell_of_heap hb2]; rfl
  have d1 : w2.cell? ⟨b, 1, none⟩ = some v := by rw [Lib.cell_of_heap hb2]; rfl
  have f1 : w2.frozen? ⟨b, 1, none⟩ = false := Lib.frozen_of_heap hb2 1
  obtain ⟨ao, n', cap, rfl⟩ : ∃ ao n' cap, v' = .slice ao n' cap := by
    rcases hown'.2 with ⟨hv, _⟩ | ⟨g, cap, cur, fz, hv, _⟩
    · exact ⟨_, _, _, hv⟩
    · exact ⟨_, _, _, hv⟩
  go_wp2_with fail
  go_ret2
  refine ⟨rfl, .inr ?_, ?_, (hk1.grown hgrow (Lib.ownsRowF_kind hown)).setCell ⟨b, 1, none⟩ rfl _⟩
  · rw [byteCells_append, ← strCells_bytes]
    exact Lib.BuilderAtF.put (T := TXT) (e := 5) hB hb2 (bs' := Lib.byteCells l ++ Lib.strCells s) (by simpa [Lib.strCells_length, hbl] using hown') (by decide)
  · exact (hb1.grown hgrow (by have := hb1.size; omega) (fun k hk => (hown.lt k hk).1)).setCell (p := ⟨b, 1, none⟩) hB _

set_option maxRecDepth 100000 in
set_option maxHeartbeats 2000000 in
set_option maxRecDepth 100000 in
theorem bbyte_any (B b : Nat) (l : List UInt8) (w : World) (h : TextB B b l w) (hlen : l.length + 1 ≤ 1000000000000) (hBw : B ≤ w.heap.size) :
    Calls Tryd.prog 87 #[.pointer (some ⟨b, 0, none⟩), .int .u8 10] w fun e w' => e = .returned .nilIface ∧ TextB B b (l ++ [10]) w' ∧ BK B b w w' := by
  obtain ⟨i0, hi, hz0, hz1, hz2⟩ := info_parts Tryd.infoByte
  have hbl : (Lib.byteCells l).length = l.length := Lib.byteCells_length l
  go_enter Tryd.func87, Tryd.ntmps87
  go_wp2_with fail
  refine (bcheck_any B b _ _ h).mono ?_
  rintro e w1 ⟨rfl, h1, hb1, hk1⟩
  obtain ⟨hB, v, hbk, hown, hne⟩ := h1
  have c0 : w1.cell? ⟨b, 0, none⟩ = some (.pointer (some ⟨b, 0, none⟩)) := by rw [Lib.cell_of_heap hbk]; rfl
  have c1 : w1.cell? ⟨b, 1, none⟩ = some v := by rw [Lib.cell_of_heap hbk]; rfl
  go_wp2_with (at_builtin; refine wpList_append_ownF _ rfl _ _ 72 rfl B 5 i0 (.int .u8 0) 1 1 Tryd.underlying72 hi hz0 hz1 hz2 rfl (by decide) _ _ _ rfl (hown.alloc _) ⟨w1.heap.size, 0, none⟩ 1 1 [.int .u8 10] rfl rfl ?c1 ?c2 ?c3 ?c4 ?c5 ?_)
  case c1 =>
    intro j u hj
    match j, hj with
    | 0, hj => simp at hj; subst hj; simp [Addr.add]
  case c2 => intro u hu; simp at hu; subst hu; rfl
  case c3 => unfold maxLen; omega
  case c4 => omega
  case c5 => have := hb1.size; simp; omega
  intro v' w2 hown' hgrow _
  have hlt : b < w1.heap.size := by
    rcases Nat.lt_or_ge b w1.heap.size with h' | h'
    · exact h'
    · simp [Array.getElem?_eq_none h'] at hbk
  have hb2 : w2.heap[b]? = some (.cells #[.pointer (some ⟨b, 0, none⟩), v] TXT (0, 0)) := by
    rw [hgrow.block b (by simp; omega) (fun e => hne e.symm), Lib.alloc_old w1 _ b hlt]
    exact hbk
  have d0 : w2.cell? ⟨b, 0, none⟩ = some (.pointer (some ⟨b, 0, none⟩)) := by rw [Lib.cell_of_heap hb2]; rfl
  have d1 : w2.cell? ⟨b, 1, none⟩ = some v := by rw [Lib.cell_of_heap hb2]; rfl
  have f1 : w2.frozen? ⟨b, 1, none⟩ = false := Lib.frozen_of_heap hb2 1
  obtain ⟨g, cap, rfl⟩ : ∃ g cap, v' = .slice (some ⟨g, 0, none⟩) (l.length + 1) cap := by
    rcases hown'.2 with ⟨_, h0⟩ | ⟨g, cap, cur, fz, hv, _⟩
    · omega
    · exact ⟨g, cap, hv⟩
  go_wp2_with fail
  go_ret
  refine ⟨rfl, .inr ?_, ?_, ((hk1.alloc _).grown hgrow (Lib.ownsRowF_kind (hown.alloc _))).setCell ⟨b, 1, none⟩ rfl _⟩
  · rw [byteCells_append, show Lib.byteCells [10] = [.int .u8 10] from rfl]
    exact Lib.BuilderAtF.put (T := TXT) (e := 5) hB hb2 (bs' := Lib.byteCells l ++ [.int .u8 10]) (by simpa [hbl] using hown') (by decide)
  · exact ((hb1.alloc (by have := hb1.size; omega) _).grown hgrow (by have := hb1.size; simp; omega) (fun k hk => (hown.lt k hk).1)).setCell (p := ⟨b, 1, none⟩) hB _
set_option maxRecDepth 100000 in
set_option maxHeartbeats 2000000 in
set_option maxRecDepth 100000 in
theorem bstr_some (B b : Nat) (l : List UInt8) (w : World) (h : TextB B b l w) (h0 : l ≠ []) :
    Calls Tryd.prog 47 #[.pointer (some ⟨b, 0, none⟩)] w fun e w' => e = .returned (.string ⟨l.toArray⟩) ∧ TextB B b l w' ∧ BK B b w w' := by
  obtain ⟨p, hp, hAt⟩ : ∃ p, (p = .pointer none ∨ p = .pointer (some ⟨b, 0, none⟩)) ∧ Lib.BuilderAtF TXT 5 B b p (Lib.byteCells l) w := by
    rcases h with h | h
    · exact ⟨_, .inl rfl, h⟩
    · exact ⟨_, .inr rfl, h⟩
  obtain ⟨hB, v, hbk, hown, hne⟩ := hAt
  have hl0 : l.length ≠ 0 := by simpa using h0
  rw [Lib.byteCells_length] at hown
  obtain ⟨g, cap, cur, fz, rfl, hbg, hg, hfz, hnc, hcm, hcs, htake⟩ : ∃ g cap cur fz, v = .slice (some ⟨g, 0, none⟩) l.length cap ∧ B ≤ g ∧ w.heap[g]? = some (.cells cur 5 fz) ∧ fz.2 ≤ l.length * 1 ∧ l.length ≤ cap ∧ cap ≤ maxLen ∧ cur.size = cap * 1 ∧ cur.toList.take (l.length * 1) = Lib.byteCells l := by
    rcases hown.2 with ⟨_, hz⟩ | ⟨g, cap, cur, fz, hv, r⟩
    · exact absurd hz hl0
    · exact ⟨g, cap, cur, fz, hv, r⟩
  have c1 : w.drew.cell? ⟨b, 1, none⟩ = some (.slice (some ⟨g, 0, none⟩) l.length cap) := by
    have : w.drew.heap[b]? = some (.cells #[p, .slice (some ⟨g, 0, none⟩) l.length cap] TXT (0, 0)) := hbk
    rw [Lib.cell_of_heap this]; rfl
  have hSD : (Builtin.unsafeSliceData_ #[72] 132 #[.slice (some ⟨g, 0, none⟩) l.length cap]).run Tryd.prog w.drew = .ok (.pointer (some ⟨g, 0, none⟩)) w.drew :=
    Lib.run_unsafeSliceData_row _ _ _ _ _ _ (by omega)
  have hUS : (Builtin.unsafeString_ #[132, 3] 9 #[.pointer (some ⟨g, 0, none⟩), .int .i64 l.length]).run Tryd.prog w.drew = .ok (.string ⟨l.toArray⟩) (w.drew.freeze ⟨g, 0, none⟩ l.length) := by
    refine Lib.run_unsafeString_row w.drew 132 3 9 5 Tryd.underlying132 cellsByte g cur.size (by have hg' : w.drew.heap[g]? = some (.cells cur 5 fz) := hg; simp [World.shape?, hg']) l h0 (by omega) (by unfold maxLen at hcm; omega) ?_
    intro j x hx
    have := hown.cells (g := g) rfl j (.int .u8 x.toNat) (by simp [Lib.byteCells, hx])
    exact this
  have hkeep : TextB B b l (w.drew.freeze ⟨g, 0, none⟩ l.length) := by
    have hA : Lib.BuilderAtF TXT 5 B b p (Lib.byteCells l) w.drew := ⟨hB, _, hbk, by rw [Lib.byteCells_length]; exact hown, hne⟩
    have hF := hA.froze (g := g) (cap := cap) (by rw [Lib.byteCells_length]; exact c1)
    rw [Lib.byteCells_length] at hF
    rcases hp with rfl | rfl
    · exact .inl hF
    · exact .inr hF
  clear htake
  have mixed : Tryd.prog.follows .mixedOrders = true := by kernel_rfl
  go_enter Tryd.func47, Tryd.ntmps47
  go_wp2_with fail
  go_region_o
  all_goals (go_wp2_with fail; go_ret; exact ⟨rfl, hkeep, Lib.below_freeze (Below.drew (Below.refl B w)) (p := ⟨g, 0, none⟩) hbg _, ((Lib.OthersKept.refl _ _ w).drew).freeze ⟨g, 0, none⟩ _ ⟨cur, fz, hg⟩⟩)
set_option maxRecDepth 100000 in
set_option maxHeartbeats 2000000 in
set_option maxRecDepth 100000 in
theorem bstr_nil (B b : Nat) (p : Value) (w : World) (hbk : w.heap[b]? = some (.cells #[p, .slice none 0 0] TXT (0, 0))) (hA : Lib.BuilderAtF TXT 5 B b p [] w) :
    Calls Tryd.prog 47 #[.pointer (some ⟨b, 0, none⟩)] w fun e w' => e = .returned (.string ⟨#[]⟩) ∧ Lib.BuilderAtF TXT 5 B b p [] w' ∧ BK B b w w' := by
  have hUS : ∀ (W : World) (q : Option Addr), (Builtin.unsafeString_ #[132, 3] 9 #[.pointer q, .int .i64 0]).run Tryd.prog W = .ok (.string .empty) W := fun W q => Lib.run_unsafeString_none W _ _ _ q
  have c1 : w.drew.cell? ⟨b, 1, none⟩ = some (.slice none 0 0) := by
    have : w.drew.heap[b]? = some (.cells #[p, .slice none 0 0] TXT (0, 0)) := hbk
    rw [Lib.cell_of_heap this]; rfl
  have hSD : (Builtin.unsafeSliceData_ #[72] 132 #[.slice none 0 0]).run Tryd.prog w.drew = .ok (.pointer none) w.drew := rfl
  have mixed : Tryd.prog.follows .mixedOrders = true := by kernel_rfl
  go_enter Tryd.func47, Tryd.ntmps47
  go_wp2_with fail
  go_region_o
  all_goals (go_wp2_with fail; go_ret; exact ⟨rfl, hA.drew, Below.drew (Below.refl B w), (Lib.OthersKept.refl _ _ w).drew⟩)
set_option maxRecDepth 100000 in
set_option maxHeartbeats 2000000 in
set_option maxRecDepth 100000 in
theorem bstr_noroom (B b g : Nat) (p : Value) (cur : Array Value) (w : World) (hBw : B ≤ w.heap.size) (hbk : w.heap[b]? = some (.cells #[p, .slice (some ⟨g, 0, none⟩) 0 0] TXT (0, 0))) (fz : Nat × Nat) (hg : w.heap[g]? = some (.cells cur 5 fz)) (hA : Lib.BuilderAtF TXT 5 B b p [] w) :
    Calls Tryd.prog 47 #[.pointer (some ⟨b, 0, none⟩)] w fun e w' => e = .returned (.string ⟨#[]⟩) ∧ Lib.BuilderAtF TXT 5 B b p [] w' ∧ BK B b w w' := by
  have hUS : ∀ (W : World) (q : Option Addr), (Builtin.unsafeString_ #[132, 3] 9 #[.pointer q, .int .i64 0]).run Tryd.prog W = .ok (.string .empty) W := fun W q => Lib.run_unsafeString_none W _ _ _ q
  have hlt : b < w.heap.size := by
    rcases Nat.lt_or_ge b w.heap.size with h' | h'
    · exact h'
    · simp [Array.getElem?_eq_none h'] at hbk
  have c1 : w.drew.cell? ⟨b, 1, none⟩ = some (.slice (some ⟨g, 0, none⟩) 0 0) := by
    have : w.drew.heap[b]? = some (.cells #[p, .slice (some ⟨g, 0, none⟩) 0 0] TXT (0, 0)) := hbk
    rw [Lib.cell_of_heap this]; rfl
  have hSD : (Builtin.unsafeSliceData_ #[72] 132 #[.slice (some ⟨g, 0, none⟩) 0 0]).run Tryd.prog w.drew = .ok (.pointer (some ⟨w.drew.heap.size, 0, none⟩)) (w.drew.alloc (.view ⟨g, 0, none⟩ 5)) :=
    Lib.run_unsafeSliceData_zero w.drew _ _ 5 Tryd.underlying132 ⟨g, 0, none⟩ 0 (5, cur.size) (by have hg' : w.drew.heap[g]? = some (.cells cur 5 fz) := hg; simp [World.shape?, hg'])
  have c2 : (w.drew.alloc (.view ⟨g, 0, none⟩ 5)).cell? ⟨b, 1, none⟩ = some (.slice (some ⟨g, 0, none⟩) 0 0) := by
    have : (w.drew.alloc (.view ⟨g, 0, none⟩ 5)).heap[b]? = _ := (Lib.alloc_old w.drew _ b hlt).trans hbk
    rw [Lib.cell_of_heap this]; rfl
  have c3 : (w.alloc (.view ⟨g, 0, none⟩ 5)).drew.cell? ⟨b, 1, none⟩ = some (.slice (some ⟨g, 0, none⟩) 0 0) := c2
  have c0 : w.cell? ⟨b, 1, none⟩ = some (.slice (some ⟨g, 0, none⟩) 0 0) := c1
  have mixed : Tryd.prog.follows .mixedOrders = true := by kernel_rfl
  go_enter Tryd.func47, Tryd.ntmps47
  go_wp2_with fail
  go_region_o
  all_goals (go_wp2_with fail; go_ret; exact ⟨rfl, hA.drew.alloc _, (Below.drew (Below.refl B w)).alloc hBw _, ((Lib.OthersKept.refl _ _ w).drew).alloc _⟩)
set_option maxRecDepth 100000 in
set_option maxHeartbeats 2000000 in
set_option maxRecDepth 100000 in
theorem bstr_room (B b g cap : Nat) (p : Value) (w : World) (hc0 : cap ≠ 0) (hbk : w.heap[b]? = some (.cells #[p, .slice (some ⟨g, 0, none⟩) 0 cap] TXT (0, 0))) (hA : Lib.BuilderAtF TXT 5 B b p [] w) :
    Calls Tryd.prog 47 #[.pointer (some ⟨b, 0, none⟩)] w fun e w' => e = .returned (.string ⟨#[]⟩) ∧ Lib.BuilderAtF TXT 5 B b p [] w' ∧ BK B b w w' := by
  have hUS : ∀ (W : World) (q : Option Addr), (Builtin.unsafeString_ #[132, 3] 9 #[.pointer q, .int .i64 0]).run Tryd.prog W = .ok (.string .empty) W := fun W q => Lib.run_unsafeString_none W _ _ _ q
  have c1 : w.drew.cell? ⟨b, 1, none⟩ = some (.slice (some ⟨g, 0, none⟩) 0 cap) := by
    have : w.drew.heap[b]? = some (.cells #[p, .slice (some ⟨g, 0, none⟩) 0 cap] TXT (0, 0)) := hbk
    rw [Lib.cell_of_heap this]; rfl
  have hSD : (Builtin.unsafeSliceData_ #[72] 132 #[.slice (some ⟨g, 0, none⟩) 0 cap]).run Tryd.prog w.drew = .ok (.pointer (some ⟨g, 0, none⟩)) w.drew :=
    Lib.run_unsafeSliceData_row _ _ _ _ _ _ hc0
  clear hc0
  have mixed : Tryd.prog.follows .mixedOrders = true := by kernel_rfl
  go_enter Tryd.func47, Tryd.ntmps47
  go_wp2_with fail
  go_region_o
  all_goals (go_wp2_with fail; go_ret; exact ⟨rfl, hA.drew, Below.drew (Below.refl B w), (Lib.OthersKept.refl _ _ w).drew⟩)
theorem bstr_any (B b : Nat) (l : List UInt8) (w : World) (h : TextB B b l w) (hBw : B ≤ w.heap.size) :
    Calls Tryd.prog 47 #[.pointer (some ⟨b, 0, none⟩)] w fun e w' => e = .returned (.string ⟨l.toArray⟩) ∧ TextB B b l w' ∧ BK B b w w' := by
  cases l with
  | cons x r => exact bstr_some B b (x :: r) w h (by simp)
  | nil =>
    obtain ⟨p, hp, hA⟩ : ∃ p, (p = .pointer none ∨ p = .pointer (some ⟨b, 0, none⟩)) ∧ Lib.BuilderAtF TXT 5 B b p [] w := by
      rcases h with h | h
      · exact ⟨_, .inl rfl, h⟩
      · exact ⟨_, .inr rfl, h⟩
    have fin : ∀ (e : Ending) (w' : World), (e = .returned (.string ⟨#[]⟩) ∧ Lib.BuilderAtF TXT 5 B b p [] w' ∧ BK B b w w') → e = .returned (.string ⟨#[]⟩) ∧ TextB B b [] w' ∧ BK B b w w' := by
      rintro e w' ⟨he, hk, hb⟩
      rcases hp with rfl | rfl
      · exact ⟨he, .inl hk, hb⟩
      · exact ⟨he, .inr hk, hb⟩
    have hA' := hA
    obtain ⟨hB, v, hbk, hown, hne⟩ := hA
    rcases hown.2 with ⟨rfl, _⟩ | ⟨g, cap, cur, fz, rfl, hbg, hg, _, _, _, _, _⟩
    · exact (bstr_nil B b p w hbk hA').mono fin
    · by_cases hc0 : cap = 0
      · subst hc0
        exact (bstr_noroom B b g p cur w hBw hbk fz hg hA').mono fin
      · exact (bstr_room B b g cap p w hc0 hbk hA').mono fin
end Go.Proofs.YtakgddochbcjbaaDoor
namespace Go.Proofs.YtakgddochbcjbaaDoor
open Go.RowKit Go.Deep Go.MapKept Go.Maps

theorem ownF_grows {w w' : World} {B e size n : Nat} {v : Value} {xs : List Value} (h : w.ownsRowF B e size v n xs) (hg : Grows w w') : w'.ownsRowF B e size v n xs := by
  refine ⟨h.1, ?_⟩
  rcases h.2 with h2 | ⟨g, cap, cur, fz, hv, hb, hgg, rest⟩
  · exact .inl h2
  · exact .inr ⟨g, cap, cur, fz, hv, hb, (hg.block g (Array.getElem?_eq_some_iff.1 hgg).1).trans hgg, rest⟩
theorem TextB.grows {B b : Nat} {l : List UInt8} {w w' : World} (h : TextB B b l w) (hg : Grows w w') : TextB B b l w' := by
  have one : ∀ p, Lib.BuilderAtF TXT 5 B b p (Lib.byteCells l) w → Lib.BuilderAtF TXT 5 B b p (Lib.byteCells l) w' := fun p h => by
    have hlt := h.lt
    obtain ⟨hB, v, hb, hown, hne⟩ := h
    exact ⟨hB, v, (hg.block b hlt).trans hb, ownF_grows hown hg, hne⟩
  exact h.elim (fun h => .inl (one _ h)) (fun h => .inr (one _ h))

theorem keyOf_str_inv {key : Value} {kl : Lit} (h : keyOf Tryd.prog 9 key = some kl) : ∃ x : List UInt8, key = .string ⟨x.toArray⟩ ∧ kl = .string x ∧ x.length ≤ maxLen := Maps.keyOf_str Tryd.underlying9 h
set_option maxRecDepth 100000 in
set_option maxHeartbeats 2000000 in
theorem mmark_any (p : Int) (mk : ByteArray) (hmk : markF mk = some p) (huniq : ∀ s, markF s = some p → s = mk) (hsz : mk.size ≤ maxLen) (w : World) :
    Calls Tryd.prog 88 #[.int .i64 p] w fun e w' => e = .returned (.string mk) ∧ Grows w w' := by
  go_enter Tryd.func88, Tryd.ntmps88
  go_wp2_with fail
  refine (marks_any w).mono ?_
  rintro e w1 ⟨b, rfl, ⟨D, hown, hD⟩, hg1, hb⟩
  have HD := Lib.hid hD
  have HMK := Lib.hid hmk
  have HU := Lib.hid huniq
  clear hD hmk huniq
  go_wp2_with (at_range; refine wpList_range_own _ rfl _ 80 rfl 9 3 keyedStr Tryd.underlying80 _ b 4 D rfl hown ?_; intro w0 hrg0 hg0 hs0)
  go_frame
  have hz1 := hg1.size
  have hgw0 : Grows w w0 := Below.grown hg1 hg0 hg1.size (fun k hk => by cases hk)
  clear hs0
  go_loopw [3] (fun _ wr => ∃ (left : Lit → Bool) (cnt : Nat), wr.ranges Tryd.prog 9 (plainElem Tryd.prog 3) b w1.heap.size 4 D left cnt ∧ (∀ kl, left kl = true → has D kl = true) ∧ left (.string mk.data.toList) = true ∧ Grows w wr)
    (fun _ wr => wr.rangeLeft b w1.heap.size)
  case atStart => exact ⟨_, _, hrg0, fun _ h => h, by rw [(HD.out mk hsz).1, HMK.out]; rfl, hgw0⟩
  case round =>
    obtain ⟨left, cnt, hrg, hin, hml, hgr⟩ := hrel
    have HIN := Lib.hid hin
    have HML := Lib.hid hml
    clear hin hml
    go_wp2_with (at_next; refine wpList_next_ranges _ rfl _ rfl 9 keyedStr (plainElem Tryd.prog 3) (fun l : List UInt8 => .string ⟨l.toArray⟩) (Value.int .i64) (fun key kl hk => by obtain ⟨x, hx, _⟩ := keyOf_str_inv hk; exact ⟨x, hx⟩) (fun v y hv => by obtain ⟨c, rfl, _⟩ := plainElem_int_inv Tryd.underlying3 hv; exact ⟨c, rfl⟩) b w1.heap.size 4 _ _ _ rfl hrg ?_ ?_)
    · intro _ hl0
      have := hl0 (.string mk.data.toList)
      rw [HML.out] at this
      cases this
    · intro x c kl yd yp w2 cnt2 hkey hlk hv hat hrg2 hlt hg2 hs2 hen
      obtain ⟨x', ex, rfl, hxl⟩ := keyOf_str_inv hkey
      obtain rfl : x = x' := by simpa using ex
      obtain ⟨c', ec, hy, _⟩ := plainElem_int_inv Tryd.underlying3 hv
      obtain rfl : c = c' := by simpa using ec
      obtain ⟨d1, d2⟩ := HD.out (tx x) (by rw [tx_size]; exact hxl)
      rw [data_tx] at d1 d2
      rw [HIN.out _ hlk] at d1
      rw [hat] at d2
      obtain ⟨m, hm⟩ := Option.isSome_iff_exists.1 d1.symm
      have hcm : markF (tx x) = some c := by
        rw [hm] at d2 ⊢
        simp only [Prod.mk.injEq] at hy
        rw [hy.1] at d2
        simpa using d2.symm
      have hgr2 : Grows w w2 := Below.grown hgr hg2 hgr.size (fun k hk => by cases hk; exact hz1)
      clear hs2 hkey hv hat d1 d2 hm ex ec hy
      have htx : (⟨x.toArray⟩ : ByteArray) = tx x := rfl
      rw [htx] at hen ⊢
      by_cases hcp : c = p
      · subst hcp
        have hs := HU.out _ hcm
        rw [hs] at hen ⊢
        clear htx
        go_wp2_with fail
        go_ret
        exact ⟨rfl, hgr2⟩
      · have hcp' : decide (c = p) = false := decide_eq_false hcp
        have HL2 := Lib.hid (show (left (.string mk.data.toList) && !(Lit.string mk.data.toList).sameKey (.string x)) = true by
          rw [HML.out, sameKey_ne (fun e => by
            injection e with e
            apply hcp
            have e2 : tx x = mk := by rw [← e]; exact tx_data mk
            rw [e2, HMK.out] at hcm
            exact (Option.some.inj hcm).symm)]
          rfl)
        have HIN2 := Lib.hid (show ∀ kl, (left kl && !kl.sameKey (.string x)) = true → has D kl = true from fun kl h => HIN.out kl (by simp only [Bool.and_eq_true] at h; exact h.1))
        clear htx
        go_wp2_with fail
        go_roundw
        case rel => exact ⟨_, cnt2, hrg2, HIN2.out, HL2.out, hgr2⟩
        case measure => rw [hrg2.left_eq, hrg.left_eq]; exact hlt

/-- lines.Join, wherever its list lies -/
theorem join_all (B : Nat) (A : Option Addr) (n c : Nat) (l : List ByteArray) (w : World) (h : Reads w B 1 A n (strs l)) (hB : B ≤ w.heap.size) (hn : n ≤ 1000000000000) (hc : n ≤ c) (hlen : (bl l).flatten.length ≤ 140737488355328) :
    Calls Tryd.prog 43 #[.slice A n c] w fun e w' => e = .returned (.string (joinT l)) ∧ Grows w w' := by
  have hl := h.strLen
  rcases Nat.eq_zero_or_pos n with h0 | h0
  · subst h0
    have hl0 : l = [] := List.eq_nil_of_length_eq_zero hl
    subst hl0
    clear h
    go_enter Tryd.func43, Tryd.ntmps43
    go_wp2_with fail
    refine (Tryd.strings_Join_none A c none_ w).mono ?_
    rintro e w' ⟨rfl, rfl⟩
    go_wp2_with fail
    go_ret
    exact ⟨rfl, Grows.refl _⟩
  · obtain ⟨ad, rfl, hb, hcell⟩ := h.2 h0
    have hspot : ad.spot = none := by
      obtain ⟨x, hx⟩ : ∃ x, l[0]? = some x := ⟨l[0]'(by omega), List.getElem?_eq_getElem (by omega)⟩
      have h1 := hcell 0 (.string x) (by rw [strs, List.getElem?_map, hx]; rfl)
      have h2 : ad.add 0 = ad := by simp [Addr.add]
      rw [h2] at h1
      unfold World.cell? at h1
      split at h1
      · split at h1
        · cases h1
        · rename_i hs
          simpa using hs
      · cases h1
    obtain ⟨g, o, rfl⟩ : ∃ g o, ad = ⟨g, o, none⟩ := ⟨ad.block, ad.off, by cases ad; simp_all⟩
    have hcall := Tryd.strings_Join g o c l none_ w (fun j x hx => by
      have h1 := hcell j (.string x) (by rw [strs, List.getElem?_map, hx]; rfl)
      have had : Addr.add ⟨g, o, none⟩ j = ⟨g, o + j, none⟩ := by unfold Addr.add; split <;> simp_all
      rw [had] at h1
      exact h1) (by exact Nat.lt_of_lt_of_le hb hB) (by omega) (by omega) (by
        show (Lib.join (bl l) []).length ≤ _
        rw [join_flat]; exact hlen)
    rw [hl] at hcall
    have hv : Value.string ⟨(Lib.join (l.map (·.data.toList)) none_.data.toList).toArray⟩ = .string (joinT l) := by
      show Value.string (tx (Lib.join (bl l) [])) = _
      rw [join_flat]
      rfl
    rw [hv] at hcall
    have HC := Lib.hid hcall
    clear hcall hv hcell h hspot
    go_enter Tryd.func43, Tryd.ntmps43
    go_wp2_with fail
    refine HC.out.mono ?_
    rintro e w' ⟨rfl, hg⟩
    have hg' : Grows w w' := hg
    go_wp2_with fail
    go_ret
    exact ⟨rfl, hg'⟩

theorem joinT_data (l : List ByteArray) : (joinT l).data.toList = (bl l).flatten := by rw [joinT, data_tx]
theorem joinT_size (l : List ByteArray) : (joinT l).size = (bl l).flatten.length := by rw [joinT, tx_size]
set_option maxRecDepth 100000 in
set_option maxHeartbeats 2000000 in
theorem tput_any (B b Bx : Nat) (A : Option Addr) (n c : Nat) (l : List UInt8) (xs : List ByteArray) (w : World) (h : TextB B b l w) (hB : B ≤ w.heap.size) (hx : Reads w Bx 1 A n (strs xs)) (hBx : Bx ≤ w.heap.size) (hn : n ≤ 1000000000000) (hc : n ≤ c) (hlen : l.length + (bl xs).flatten.length ≤ 1000000000000) :
    Calls Tryd.prog 45 #[.pointer (some ⟨b, 0, none⟩), .slice A n c] w fun e w' => e = .returned (.tuple #[]) ∧ TextB B b (l ++ (bl xs).flatten) w' ∧ BK B b w w' := by
  have HJ := Lib.hid (join_all Bx A n c xs w.drew hx.drew hBx hn hc (by omega))
  have HT := Lib.hid h
  have HS := Lib.hid (joinT_size xs)
  have HDT := Lib.hid (joinT_data xs)
  clear h hx
  go_enter Tryd.func45, Tryd.ntmps45
  obtain ⟨S, hS⟩ : ∃ S : World → Prop, S = fun w' => Grows w w' := ⟨_, rfl⟩
  have hSi : ∀ w', Grows w w' → S w' := by rw [hS]; exact fun _ h => h
  have hgd : Grows w w.drew := (Grows.refl w).drew
  have hS0 := hSi _ hgd
  clear hS
  haveI : Nonempty (SW S) := ⟨⟨_, hS0⟩⟩
  refine wp_region_seq S [([0, 1, 2, 3], 4)] [] [([], [5])] (by kernel_rfl) (fun _ _ _ _ _ h => h) (by kernel_rfl) hS0 ?_
  simp only [pickS, pickT, pickL, List.map_cons, List.map_nil, List.filterMap_cons, List.filterMap_nil, List.getElem?_cons_zero, List.getElem?_cons_succ]
  generalize w.drew = wd at HJ hgd hS0 ⊢
  refine wpSeq_consK fun K2 hK2 K hK => ?_
  repeat (show wpQuiet _ _ _ _ (_ :: _) _; go_big_quiet_step (fail))
  refine wpQuiet_nil (hK _ ?_)
  clear hK K
  show wpList _ _ _ [_] _ _
  go_wp2_with fail
  refine HJ.out.mono ?_
  rintro e w1 ⟨rfl, hg1⟩
  have hg1' := hgd.trans hg1
  have hz1 := hg1'.size
  go_wp2_with fail
  refine hK2.out _ _ (hSi _ hg1') ?_
  clear hK2 K2
  refine wpSeq_nil (wpRest_K fun K hK => ?_)
  refine wpQuiet_nil (hK _ ?_)
  clear hK K
  refine wpSegs_consK fun K2 hK2 K hK => ?_
  refine wpQuiet_nil (hK _ ?_)
  clear hK K
  show wpList _ _ _ [_] _ _
  go_wp2_with fail
  refine (bwrite_any B b l (joinT xs) w1 (HT.out.grows hg1') (by rw [HS.out]; omega) (by omega)).mono ?_
  rintro e w2 ⟨rfl, ht2, hb2⟩
  rw [HDT.out] at ht2
  have HT2 := Lib.hid ht2
  have HB2 := Lib.hid ((BK.of_grows hg1' hB).trans hb2)
  clear ht2 hb2
  go_wp2_with fail
  refine hK2.out _ _ ?_
  refine wpSegs_nil ?_
  go_wp2_with fail
  go_end0
  exact ⟨rfl, HT2.out, HB2.out⟩
/-- a text that ends with its last line -/
def endL (l : List UInt8) : List UInt8 := if l = [] then l else if Lib.hasSuffix l [10] = true then l else l ++ [10]
set_option maxRecDepth 100000 in
set_option maxHeartbeats 2000000 in
theorem tmark_any (B b : Nat) (p : Int) (mk : ByteArray) (hmk : markF mk = some p) (huniq : ∀ s, markF s = some p → s = mk) (hsz : mk.size ≤ 1000) (l : List UInt8) (w : World) (h : TextB B b l w) (hB : B ≤ w.heap.size) (hlen : l.length ≤ 100000000000) :
    Calls Tryd.prog 46 #[.pointer (some ⟨b, 0, none⟩), .int .i64 p] w fun e w' => e = .returned (.tuple #[]) ∧ TextB B b (endL l ++ mk.data.toList) w' ∧ BK B b w w' := by
  have HMM := Lib.hid (fun wx => mmark_any p mk hmk huniq (by unfold maxLen; omega) wx)
  clear hmk huniq
  obtain ⟨q, hq⟩ : ∃ q, (l ≠ [] → q = Lib.hasSuffix l [10]) ∧ endL l = (if l = [] then l else if q = true then l else l ++ [10]) := ⟨_, fun _ => rfl, rfl⟩
  have hsl : (tx l).size = l.length := tx_size l
  have HSU := Lib.hid (fun wx => (Tryd.strings_HasSuffix (tx l) { data := #[10] } wx (by omega)))
  rw [data_tx] at HSU
  go_enter Tryd.func46, Tryd.ntmps46
  go_wp2_with fail
  refine (bstr_any B b l w h hB).mono ?_
  rintro e w1 ⟨rfl, ht1, hb1⟩
  have HT1 := Lib.hid ht1
  have HB1 := Lib.hid hb1
  have hz1 := hb1.size
  clear ht1 hb1 h
  have htx : (⟨l.toArray⟩ : ByteArray) = tx l := rfl
  obtain ⟨sl, hsl2⟩ : ∃ sl, sl = tx l := ⟨_, rfl⟩
  rw [htx, ← hsl2]
  rw [← hsl2] at HSU hsl
  clear htx
  have hqe := hq.2
  have hq1 := hq.1
  clear hq
  by_cases h0 : l = []
  · have HQ := Lib.hid (show endL l = l by rw [hqe, if_pos h0])
    have hne : (sl.toList == []) = true := by rw [hsl2, h0, ByteArray.toList_eq]; rfl
    have HTZ := HT1
    have HBZ := HB1
    clear hqe hq1 h0 HT1 HB1 hsl2
    go_wp2_with fail
    obtain ⟨S, hS⟩ : ∃ S : World → Prop, S = fun w' => Grows w1 w' := ⟨_, rfl⟩
    have hSi : ∀ w', Grows w1 w' → S w' := by rw [hS]; exact fun _ h => h
    have hgd : Grows w1 w1.drew := (Grows.refl w1).drew
    have hS0 := hSi _ hgd
    clear hS
    haveI : Nonempty (SW S) := ⟨⟨_, hS0⟩⟩
    refine wp_region_seq S [([0, 1, 2, 3], 4)] [] [([], [5])] (by kernel_rfl) (fun _ _ _ _ _ h => h) (by kernel_rfl) hS0 ?_
    simp only [pickS, pickT, pickL, List.map_cons, List.map_nil, List.filterMap_cons, List.filterMap_nil, List.getElem?_cons_zero, List.getElem?_cons_succ]
    generalize w1.drew = wd at hgd hS0 ⊢
    refine wpSeq_consK fun K2 hK2 K hK => ?_
    repeat (show wpQuiet _ _ _ _ (_ :: _) _; go_big_quiet_step (fail))
    refine wpQuiet_nil (hK _ ?_)
    clear hK K
    show wpList _ _ _ [_] _ _
    go_wp2_with fail
    refine (HMM.out wd).mono ?_
    rintro e w5 ⟨rfl, hg5⟩
    have hg5' := hgd.trans hg5
    have hz5 := hg5'.size
    go_wp2_with fail
    refine hK2.out _ _ (hSi _ hg5') ?_
    clear hK2 K2
    refine wpSeq_nil (wpRest_K fun K hK => ?_)
    refine wpQuiet_nil (hK _ ?_)
    clear hK K
    refine wpSegs_consK fun K2 hK2 K hK => ?_
    refine wpQuiet_nil (hK _ ?_)
    clear hK K
    show wpList _ _ _ [_] _ _
    go_wp2_with fail
    refine (bwrite_any B b l mk w5 (HTZ.out.grows hg5') (by omega) (by omega)).mono ?_
    rintro e w6 ⟨rfl, ht6, hb6⟩
    have HT6 := Lib.hid ht6
    have HB6 := Lib.hid (HBZ.out.trans ((BK.of_grows hg5' (by omega)).trans hb6))
    clear ht6 hb6
    go_wp2_with fail
    refine hK2.out _ _ ?_
    refine wpSegs_nil ?_
    go_wp2_with fail
    go_end0
    exact ⟨rfl, by rw [HQ.out]; exact HT6.out, HB6.out⟩
  · have hne : ¬ (sl.toList = []) := by
      rw [hsl2, ByteArray.toList_eq, data_tx]
      exact h0
    have hne2 : sl.toList.isEmpty = false := by simpa using hne
    rw [if_neg h0] at hqe
    have hq2 := hq1 h0
    clear hq1
    have HSX := Lib.hid (HSU.out w1)
    rw [← hq2] at HSX
    cases q with
    | true =>
      have HQ := Lib.hid (show endL l = l by rw [hqe]; rfl)
      have HTZ := HT1
      have HBZ := HB1
      clear hqe hq2 h0 HT1 HB1 hsl2
      go_wp2_with fail
      refine HSX.out.mono ?_
      rintro e w9 ⟨rfl, h9⟩
      rw [h9]
      clear h9 w9
      go_wp2_with fail
      obtain ⟨S, hS⟩ : ∃ S : World → Prop, S = fun w' => Grows w1 w' := ⟨_, rfl⟩
      have hSi : ∀ w', Grows w1 w' → S w' := by rw [hS]; exact fun _ h => h
      have hgd : Grows w1 w1.drew := (Grows.refl w1).drew
      have hS0 := hSi _ hgd
      clear hS
      haveI : Nonempty (SW S) := ⟨⟨_, hS0⟩⟩
      refine wp_region_seq S [([0, 1, 2, 3], 4)] [] [([], [5])] (by kernel_rfl) (fun _ _ _ _ _ h => h) (by kernel_rfl) hS0 ?_
      simp only [pickS, pickT, pickL, List.map_cons, List.map_nil, List.filterMap_cons, List.filterMap_nil, List.getElem?_cons_zero, List.getElem?_cons_succ]
      generalize w1.drew = wd at hgd hS0 ⊢
      refine wpSeq_consK fun K2 hK2 K hK => ?_
      repeat (show wpQuiet _ _ _ _ (_ :: _) _; go_big_quiet_step (fail))
      refine wpQuiet_nil (hK _ ?_)
      clear hK K
      show wpList _ _ _ [_] _ _
      go_wp2_with fail
      refine (HMM.out wd).mono ?_
      rintro e w5 ⟨rfl, hg5⟩
      have hg5' := hgd.trans hg5
      have hz5 := hg5'.size
      go_wp2_with fail
      refine hK2.out _ _ (hSi _ hg5') ?_
      clear hK2 K2
      refine wpSeq_nil (wpRest_K fun K hK => ?_)
      refine wpQuiet_nil (hK _ ?_)
      clear hK K
      refine wpSegs_consK fun K2 hK2 K hK => ?_
      refine wpQuiet_nil (hK _ ?_)
      clear hK K
      show wpList _ _ _ [_] _ _
      go_wp2_with fail
      refine (bwrite_any B b l mk w5 (HTZ.out.grows hg5') (by omega) (by omega)).mono ?_
      rintro e w6 ⟨rfl, ht6, hb6⟩
      have HT6 := Lib.hid ht6
      have HB6 := Lib.hid (HBZ.out.trans ((BK.of_grows hg5' (by omega)).trans hb6))
      clear ht6 hb6
      go_wp2_with fail
      refine hK2.out _ _ ?_
      refine wpSegs_nil ?_
      go_wp2_with fail
      go_end0
      exact ⟨rfl, by rw [HQ.out]; exact HT6.out, HB6.out⟩
    | false =>
      have HQ := Lib.hid (show endL l = l ++ [10] by rw [hqe]; rfl)
      clear hqe hq2 h0 hsl2
      go_wp2_with fail
      refine HSX.out.mono ?_
      rintro e w9 ⟨rfl, h9⟩
      rw [h9]
      clear h9 w9
      go_wp2_with fail
      refine (bbyte_any B b l w1 HT1.out (by omega) (by omega)).mono ?_
      rintro e w2 ⟨rfl, ht2, hb2⟩
      have hz2 := hb2.size
      have HTZ := Lib.hid ht2
      have HBZ := Lib.hid (HB1.out.trans hb2)
      clear ht2 hb2 HT1 HB1
      go_wp2_with fail
      obtain ⟨S, hS⟩ : ∃ S : World → Prop, S = fun w' => Grows w2 w' := ⟨_, rfl⟩
      have hSi : ∀ w', Grows w2 w' → S w' := by rw [hS]; exact fun _ h => h
      have hgd : Grows w2 w2.drew := (Grows.refl w2).drew
      have hS0 := hSi _ hgd
      clear hS
      haveI : Nonempty (SW S) := ⟨⟨_, hS0⟩⟩
      refine wp_region_seq S [([0, 1, 2, 3], 4)] [] [([], [5])] (by kernel_rfl) (fun _ _ _ _ _ h => h) (by kernel_rfl) hS0 ?_
      simp only [pickS, pickT, pickL, List.map_cons, List.map_nil, List.filterMap_cons, List.filterMap_nil, List.getElem?_cons_zero, List.getElem?_cons_succ]
      generalize w2.drew = wd at hgd hS0 ⊢
      refine wpSeq_consK fun K2 hK2 K hK => ?_
      repeat (show wpQuiet _ _ _ _ (_ :: _) _; go_big_quiet_step (fail))
      refine wpQuiet_nil (hK _ ?_)
      clear hK K
      show wpList _ _ _ [_] _ _
      go_wp2_with fail
      refine (HMM.out wd).mono ?_
      rintro e w5 ⟨rfl, hg5⟩
      have hg5' := hgd.trans hg5
      have hz5 := hg5'.size
      go_wp2_with fail
      refine hK2.out _ _ (hSi _ hg5') ?_
      clear hK2 K2
      refine wpSeq_nil (wpRest_K fun K hK => ?_)
      refine wpQuiet_nil (hK _ ?_)
      clear hK K
      refine wpSegs_consK fun K2 hK2 K hK => ?_
      refine wpQuiet_nil (hK _ ?_)
      clear hK K
      show wpList _ _ _ [_] _ _
      go_wp2_with fail
      refine (bwrite_any B b (l ++ [10]) mk w5 (HTZ.out.grows hg5') (by simp; omega) (by omega)).mono ?_
      rintro e w6 ⟨rfl, ht6, hb6⟩
      have HT6 := Lib.hid ht6
      have HB6 := Lib.hid (HBZ.out.trans ((BK.of_grows hg5' (by omega)).trans hb6))
      clear ht6 hb6
      go_wp2_with fail
      refine hK2.out _ _ ?_
      refine wpSegs_nil ?_
      go_wp2_with fail
      go_end0
      exact ⟨rfl, by rw [HQ.out]; exact HT6.out, HB6.out⟩
end Go.Proofs.YtakgddochbcjbaaDoor
