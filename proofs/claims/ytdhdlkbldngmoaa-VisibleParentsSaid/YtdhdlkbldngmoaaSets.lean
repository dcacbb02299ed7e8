/- The bit sets of packages graph and visible: made, put, has: each said of a predicate on numbers. -/
import Derived.Test.YtdhdlkbldngmoaaBase
import Derived.Deep.OwnRows
namespace Go.Proofs.Ytdhdlkbldngmoaa
open Go.RowKit Go.Deep

/-- block g is a set of numbers below 64*m: those of which p says yes -/
def SetAt (w : World) (g m : Nat) (p : Nat → Bool) : Prop :=
  ∃ W : Nat → Nat, (∀ i, W i < 18446744073709551616) ∧ w.rowIs g 55 m (fun i => .int .u64 (W i)) ∧ ∀ i, i / 64 < m → p i = (W (i / 64)).testBit (i % 64)
theorem SetAt.lt {w : World} {g m : Nat} {p : Nat → Bool} (h : SetAt w g m p) : g < w.heap.size := by obtain ⟨W, _, h, _⟩ := h; exact h.lt
theorem SetAt.of_block {w w' : World} {g m : Nat} {p : Nat → Bool} (h : SetAt w g m p) (e : w'.heap[g]? = w.heap[g]?) : SetAt w' g m p := by
  obtain ⟨W, h1, h2, h3⟩ := h
  exact ⟨W, h1, h2.of_block e, h3⟩
theorem SetAt.below {w w' : World} {B g m : Nat} {p : Nat → Bool} (h : SetAt w g m p) (hb : Below B w w') (hg : g < B) : SetAt w' g m p := h.of_block (hb.block g hg)
theorem SetAt.grows {w w' : World} {g m : Nat} {p : Nat → Bool} (h : SetAt w g m p) (hb : Grows w w') : SetAt w' g m p := h.below hb h.lt
theorem SetAt.alloc {w : World} {g m : Nat} {p : Nat → Bool} (h : SetAt w g m p) (o : Obj) : SetAt (w.alloc o) g m p := h.grows ((Grows.refl w).alloc o)
theorem SetAt.congr {w : World} {g m : Nat} {p q : Nat → Bool} (h : SetAt w g m p) (e : ∀ i, i / 64 < m → p i = q i) : SetAt w g m q := by
  obtain ⟨W, h1, h2, h3⟩ := h
  exact ⟨W, h1, h2, fun i hi => (e i hi).symm.trans (h3 i hi)⟩

theorem bit_has (x k : Nat) (hx : x < 18446744073709551616) : (bits BinOp.and IntKind.u64 ((x : Int) / 2 ^ k) 1 == 1) = x.testBit k := by
  have e : ((x : Int) / 2 ^ k) = ((x / 2 ^ k : Nat) : Int) := by simp
  have hl : x / 2 ^ k ≤ x := Nat.div_le_self _ _
  rw [e, Nat.testBit_eq_decide_div_mod_eq]
  generalize x / 2 ^ k = y at hl
  rw [and_one_u64 _ (by omega) (by omega), Bool.eq_iff_iff]
  simp only [beq_iff_eq, decide_eq_true_eq]
  omega
theorem pow_wrap (k : Nat) (hk : k < 64) : IntKind.u64.wrap (2 ^ k) = ((2 ^ k : Nat) : Int) := by
  have h : 2 ^ k < 2 ^ 64 := Nat.pow_lt_pow_right (by omega) hk
  rw [IntKind.wrap_u64]
  have e : ((2 : Int) ^ k) = ((2 ^ k : Nat) : Int) := by simp
  rw [e]
  generalize 2 ^ k = y at h ⊢
  omega
theorem bit_or_lt (x k : Nat) (hx : x < 18446744073709551616) (hk : k < 64) : x ||| 2 ^ k < 18446744073709551616 :=
  Nat.or_lt_two_pow (n := 64) hx (Nat.pow_lt_pow_right (by omega) hk)
theorem bit_put (x k : Nat) (hx : x < 18446744073709551616) (hk : k < 64) : bits BinOp.or IntKind.u64 (x : Int) (IntKind.u64.wrap (2 ^ k)) = ((x ||| 2 ^ k : Nat) : Int) := by
  rw [pow_wrap k hk]
  exact bits_or_u64_nat x (2 ^ k) hx (Nat.pow_lt_pow_right (m := k) (n := 64) (by omega) hk)

theorem SetAt.put {w : World} {g m i : Nat} {p : Nat → Bool} {W : Nat → Nat} (h1 : ∀ i, W i < 18446744073709551616) (h2 : w.rowIs g 55 m (fun i => .int .u64 (W i))) (h3 : ∀ i, i / 64 < m → p i = (W (i / 64)).testBit (i % 64)) :
    SetAt (w.setCell ⟨g, i / 64, none⟩ (.int .u64 ((W (i / 64) ||| 2 ^ (i % 64) : Nat) : Int))) g m (fun j => p j || j == i) := by
  refine ⟨fun k => if k = i / 64 then W (i / 64) ||| 2 ^ (i % 64) else W k, fun k => ?_, (h2.set (i / 64) _).congr fun k _ => ?_, fun j hj => ?_⟩
  · dsimp only
    split
    · exact bit_or_lt _ _ (h1 _) (by omega)
    · exact h1 k
  · dsimp only
    split <;> rfl
  · dsimp only
    rw [h3 j hj]
    by_cases e : j / 64 = i / 64
    · rw [if_pos e, Nat.testBit_or, Nat.testBit_two_pow, e]
      congr 1
      rw [Bool.eq_iff_iff]
      simp only [beq_iff_eq, decide_eq_true_eq]
      omega
    · rw [if_neg e]
      have : (j == i) = false := by rw [beq_eq_false_iff_ne]; rintro rfl; exact e rfl
      rw [this, Bool.or_false]

theorem SetAt.made (w : World) (m : Nat) : SetAt (w.alloc (.cells (madeCells #[.int .u64 0] m) 55)) w.heap.size m (fun _ => false) :=
  ⟨fun _ => 0, fun _ => show (0 : Nat) < 18446744073709551616 by decide, (World.rowIs_made w (.int .u64 0) m 55).congr fun _ _ => rfl, fun _ _ => by simp⟩

theorem only_set {w : World} {p : Addr} (u : Value) : w.grownBy (w.setCell p u) (some p.block) :=
  ⟨rfl, rfl, rfl, by simp [World.setCell], fun k _ hne => Below.heap_setCell _ _ _ _ (fun e => hne (by rw [e]))⟩

theorem Try.infoU64 : (Try.prog.info? 55).map (fun i => (i.zero, i.size, i.bytes)) = some (some (.int .u64 0), 1, 8) := by kernel_rfl

set_option maxHeartbeats 400000 in
theorem graph_has (w : World) (g m c i : Nat) (p : Nat → Bool) (h : SetAt w g m p) (hi : i / 64 < m) (hi2 : i ≤ 1000000000000) :
    Calls Try.prog 41 #[.slice (some ⟨g, 0, none⟩) m c, .int .i64 i] w fun e w' => e = .returned (.bool (p i)) ∧ w = w' := by
  obtain ⟨W, h1, h2, h3⟩ := h
  have hc := h2.cell hi
  have hx := h1 (i / 64)
  have hb := Lib.hid (bit_has (W (i / 64)) (i % 64) hx)
  have h3' := Lib.hid (h3 i hi)
  clear h1 h2 h3
  generalize hW : W (i / 64) = x at hc hx hb h3'
  clear hW
  go_enter Try.func41, Try.ntmps41
  go_wp2
  go_ret
  exact ⟨ret_bool (hb.out.trans h3'.out.symm), rfl⟩

set_option maxHeartbeats 400000 in
theorem graph_put (w : World) (g m c i : Nat) (p : Nat → Bool) (h : SetAt w g m p) (hi : i / 64 < m) (hi2 : i ≤ 1000000000000) :
    Calls Try.prog 42 #[.slice (some ⟨g, 0, none⟩) m c, .int .i64 i] w fun e w' => e = .returned (.tuple #[]) ∧ SetAt w' g m (fun j => p j || j == i) ∧ w.grownBy w' (some g) ∧ w'.heap.size = w.heap.size := by
  obtain ⟨W, h1, h2, h3⟩ := h
  have hc := h2.cell hi
  have hf := h2.frozen (i / 64)
  have hx := h1 (i / 64)
  have hb := Lib.hid (bit_put (W (i / 64)) (i % 64) hx (by omega))
  have hfin := Lib.hid (SetAt.put (i := i) h1 h2 h3)
  clear h1 h2 h3
  generalize hW : W (i / 64) = x at hc hx hb hfin
  clear hW
  go_enter Try.func42, Try.ntmps42
  go_wp2
  go_end0
  rw [hb.out]
  exact ⟨rfl, hfin.out, only_set (p := ⟨g, i / 64, none⟩) _, by simp [World.setCell]⟩

set_option maxHeartbeats 400000 in
theorem graph_made (w : World) (n : Nat) (hn : n ≤ 1000000000000) :
    Calls Try.prog 40 #[.int .i64 n] w fun e w' => e = .returned (.slice (some ⟨w.heap.size, 0, none⟩) ((n + 63) / 64) ((n + 63) / 64)) ∧ SetAt w' w.heap.size ((n + 63) / 64) (fun _ => false) ∧ Grows w w' ∧ w'.heap.size = w.heap.size + 1 := by
  have e1 : ((n : Int) + 64 - 1) / 64 = (((n + 63) / 64 : Nat) : Int) := by omega
  have hmk := fun (W : World) => run_make_row' (P := Try.prog) 44 55 (.int .u64 0) 8 Try.underlying44 Try.infoU64 rfl .i64 .i64 ((n + 63) / 64) (by omega) (by omega) W
  rw [← e1] at hmk
  clear e1
  go_enter Try.func40, Try.ntmps40
  go_wp2
  go_ret
  exact ⟨rfl, SetAt.made w _, (Grows.refl w).alloc _, by simp⟩

set_option maxHeartbeats 400000 in
theorem visible_has (w : World) (g m c i : Nat) (p : Nat → Bool) (h : SetAt w g m p) (hi : i / 64 < m) (hi2 : i ≤ 1000000000000) :
    Calls Try.prog 48 #[.slice (some ⟨g, 0, none⟩) m c, .int .i64 i] w fun e w' => e = .returned (.bool (p i)) ∧ w = w' := by
  obtain ⟨W, h1, h2, h3⟩ := h
  have hc := h2.cell hi
  have hx := h1 (i / 64)
  have hb := Lib.hid (bit_has (W (i / 64)) (i % 64) hx)
  have h3' := Lib.hid (h3 i hi)
  clear h1 h2 h3
  generalize hW : W (i / 64) = x at hc hx hb h3'
  clear hW
  go_enter Try.func48, Try.ntmps48
  go_wp2
  go_ret
  exact ⟨ret_bool (hb.out.trans h3'.out.symm), rfl⟩

set_option maxHeartbeats 400000 in
theorem visible_put (w : World) (g m c i : Nat) (p : Nat → Bool) (h : SetAt w g m p) (hi : i / 64 < m) (hi2 : i ≤ 1000000000000) :
    Calls Try.prog 47 #[.slice (some ⟨g, 0, none⟩) m c, .int .i64 i] w fun e w' => e = .returned (.tuple #[]) ∧ SetAt w' g m (fun j => p j || j == i) ∧ w.grownBy w' (some g) ∧ w'.heap.size = w.heap.size := by
  obtain ⟨W, h1, h2, h3⟩ := h
  have hc := h2.cell hi
  have hf := h2.frozen (i / 64)
  have hx := h1 (i / 64)
  have hb := Lib.hid (bit_put (W (i / 64)) (i % 64) hx (by omega))
  have hfin := Lib.hid (SetAt.put (i := i) h1 h2 h3)
  clear h1 h2 h3
  generalize hW : W (i / 64) = x at hc hx hb hfin
  clear hW
  go_enter Try.func47, Try.ntmps47
  go_wp2
  go_end0
  rw [hb.out]
  exact ⟨rfl, hfin.out, only_set (p := ⟨g, i / 64, none⟩) _, by simp [World.setCell]⟩

set_option maxHeartbeats 400000 in
theorem visible_made (w : World) (n : Nat) (hn : n ≤ 1000000000000) :
    Calls Try.prog 50 #[.int .i64 n] w fun e w' => e = .returned (.slice (some ⟨w.heap.size, 0, none⟩) ((n + 63) / 64) ((n + 63) / 64)) ∧ SetAt w' w.heap.size ((n + 63) / 64) (fun _ => false) ∧ Grows w w' ∧ w'.heap.size = w.heap.size + 1 := by
  have e1 : ((n : Int) + 64 - 1) / 64 = (((n + 63) / 64 : Nat) : Int) := by omega
  have hmk := fun (W : World) => run_make_row' (P := Try.prog) 51 55 (.int .u64 0) 8 Try.underlying51 Try.infoU64 rfl .i64 .i64 ((n + 63) / 64) (by omega) (by omega) W
  rw [← e1] at hmk
  clear e1
  go_enter Try.func50, Try.ntmps50
  go_wp2
  go_ret
  exact ⟨rfl, SetAt.made w _, (Grows.refl w).alloc _, by simp⟩

end Go.Proofs.Ytdhdlkbldngmoaa
