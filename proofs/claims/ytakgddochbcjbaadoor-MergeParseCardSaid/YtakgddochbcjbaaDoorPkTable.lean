/- The document's table of what the rests of two lists have in common. -/
import Derived.Test.YtakgddochbcjbaaDoorPkCommon
namespace Go.Proofs.YtakgddochbcjbaaDoor
open Go.RowKit Go.Deep Go.MapKept

theorem Tryd.infoRow : (Tryd.prog.info? 27).map (fun i => (i.zero, i.size, i.bytes)) = some (some (.slice none 0 0), 1, 24) := by kernel_rfl

/-- the rows from k on are done -/
def RowsFrom (w : World) (X Y : List ByteArray) (T n m M k : Nat) (R : Nat → Nat) : Prop :=
  w.rowIs T 27 (n + 1) (fun i => if k ≤ i then .slice (some ⟨R i, 0, none⟩) M M else .slice none 0 0) ∧ ∀ i, k ≤ i → i ≤ n → R i ≠ T ∧ ∃ F : Nat → Int, w.rowIs (R i) 3 M (fun j => .int .i64 (F j)) ∧ ∀ j, j ≤ m → F j = (lcsAt X Y i j : Nat)

theorem RowsFrom.cellT {w : World} {X Y : List ByteArray} {T n m M k i : Nat} {R : Nat → Nat} (h : RowsFrom w X Y T n m M k R) (h1 : k ≤ i) (h2 : i ≤ n) : w.cell? ⟨T, i, none⟩ = some (.slice (some ⟨R i, 0, none⟩) M M) := by
  have := h.1.cell (i := i) (by omega)
  rw [if_pos h1] at this
  exact this
theorem RowsFrom.cellNil {w : World} {X Y : List ByteArray} {T n m M k i : Nat} {R : Nat → Nat} (h : RowsFrom w X Y T n m M k R) (h1 : i < k) (h2 : i ≤ n) : w.cell? ⟨T, i, none⟩ = some (.slice none 0 0) := by
  have := h.1.cell (i := i) (by omega)
  rw [if_neg (by omega)] at this
  exact this
theorem RowsFrom.cellR {w : World} {X Y : List ByteArray} {T n m M k i j : Nat} {R : Nat → Nat} (h : RowsFrom w X Y T n m M k R) (h1 : k ≤ i) (h2 : i ≤ n) (h3 : j ≤ m) (hM : M = m + 1) : w.cell? ⟨R i, j, none⟩ = some (.int .i64 (lcsAt X Y i j : Nat)) := by
  obtain ⟨_, F, hr, hF⟩ := h.2 i h1 h2
  have := hr.cell (i := j) (by omega)
  rw [hF j h3] at this
  exact this
/-- the row that is being filled, done from column l on -/
def RowTo (w : World) (X Y : List ByteArray) (m M k l g : Nat) : Prop :=
  ∃ F : Nat → Int, w.rowIs g 3 M (fun j => .int .i64 (F j)) ∧ ∀ j, l ≤ j → j ≤ m → F j = (lcsAt X Y k j : Nat)
theorem RowTo.cell {w : World} {X Y : List ByteArray} {m M k l g j : Nat} (h : RowTo w X Y m M k l g) (h1 : l ≤ j) (h2 : j ≤ m) (hM : M = m + 1) : w.cell? ⟨g, j, none⟩ = some (.int .i64 (lcsAt X Y k j : Nat)) := by
  obtain ⟨F, hr, hF⟩ := h
  have := hr.cell (i := j) (by omega)
  rw [hF j h1 h2] at this
  exact this
theorem RowTo.some {w : World} {X Y : List ByteArray} {m M k l g j : Nat} (h : RowTo w X Y m M k l g) (hj : j < M) : ∃ v, w.cell? ⟨g, j, none⟩ = some v ∧ w.frozen? ⟨g, j, none⟩ = false := by
  obtain ⟨F, hr, hF⟩ := h
  exact ⟨_, hr.cell hj, hr.frozen j⟩
theorem RowTo.put {w : World} {X Y : List ByteArray} {m M k l g : Nat} (h : RowTo w X Y m M k (l + 1) g) (v : Int) (hv : v = (lcsAt X Y k l : Nat)) : RowTo (w.setCell ⟨g, l, none⟩ (.int .i64 v)) X Y m M k l g := by
  obtain ⟨F, hr, hF⟩ := h
  refine ⟨fun j => if j = l then v else F j, (hr.set l _).congr fun i _ => by dsimp only; split <;> rfl, fun j h1 h2 => ?_⟩
  dsimp only
  by_cases e : j = l
  · subst e; rw [if_pos rfl, hv]
  · rw [if_neg e]; exact hF j (by omega) h2
/-- a store into a row that is none of these leaves them -/
theorem RowsFrom.far {w : World} {X Y : List ByteArray} {T n m M k : Nat} {R : Nat → Nat} (h : RowsFrom w X Y T n m M k R) {a : Addr} (u : Value) (hT : T ≠ a.block) (hR : ∀ i, k ≤ i → i ≤ n → R i ≠ a.block) : RowsFrom (w.setCell a u) X Y T n m M k R :=
  ⟨h.1.setOther hT u, fun i h1 h2 => by
    obtain ⟨hne, F, hr, hF⟩ := h.2 i h1 h2
    exact ⟨hne, F, hr.setOther (hR i h1 h2) u, hF⟩⟩
theorem RowsFrom.alloc {w : World} {X Y : List ByteArray} {T n m M k : Nat} {R : Nat → Nat} (h : RowsFrom w X Y T n m M k R) (o : Obj) : RowsFrom (w.alloc o) X Y T n m M k R :=
  ⟨h.1.alloc o, fun i h1 h2 => by
    obtain ⟨hne, F, hr, hF⟩ := h.2 i h1 h2
    exact ⟨hne, F, hr.alloc o, hF⟩⟩
theorem RowsFrom.drewN {w : World} {X Y : List ByteArray} {T n m M k : Nat} {R : Nat → Nat} (h : RowsFrom w X Y T n m M k R) (d : Nat) : RowsFrom (w.drewN d) X Y T n m M k R := h
theorem RowTo.drewN {w : World} {X Y : List ByteArray} {m M k l g : Nat} (h : RowTo w X Y m M k l g) (d : Nat) : RowTo (w.drewN d) X Y m M k l g := h
theorem RowsFrom.lt {w : World} {X Y : List ByteArray} {T n m M k : Nat} {R : Nat → Nat} (h : RowsFrom w X Y T n m M k R) : T < w.heap.size ∧ ∀ i, k ≤ i → i ≤ n → R i < w.heap.size :=
  ⟨h.1.lt, fun i h1 h2 => by obtain ⟨_, F, hr, _⟩ := h.2 i h1 h2; exact hr.lt⟩
/-- the next row, laid into the table -/
theorem RowsFrom.lay {w : World} {X Y : List ByteArray} {T n m M k g : Nat} {R : Nat → Nat} (h : RowsFrom w X Y T n m M (k + 1) R) (hk : k ≤ n) :
    (w.setCell ⟨T, k, none⟩ (.slice (some ⟨g, 0, none⟩) M M)).rowIs T 27 (n + 1) (fun i => if k ≤ i then .slice (some ⟨(if i = k then g else R i), 0, none⟩) M M else .slice none 0 0) :=
  (h.1.set k _).congr fun i _ => by
    by_cases e : i = k
    · subst e; simp
    · simp only [if_neg e]
      by_cases e2 : k ≤ i
      · rw [if_pos e2, if_pos (by omega)]
      · rw [if_neg e2, if_neg (by omega)]
/-- a row is done: it joins the others -/
theorem RowsFrom.join {w : World} {X Y : List ByteArray} {T n m M k g : Nat} {R : Nat → Nat} (hT : w.rowIs T 27 (n + 1) (fun i => if k ≤ i then .slice (some ⟨(if i = k then g else R i), 0, none⟩) M M else .slice none 0 0)) (hR : ∀ i, k + 1 ≤ i → i ≤ n → R i ≠ T ∧ ∃ F : Nat → Int, w.rowIs (R i) 3 M (fun j => .int .i64 (F j)) ∧ ∀ j, j ≤ m → F j = (lcsAt X Y i j : Nat)) (hg : g ≠ T) (hr : RowTo w X Y m M k 0 g) : RowsFrom w X Y T n m M k (fun i => if i = k then g else R i) := by
  refine ⟨hT, fun i h1 h2 => ?_⟩
  dsimp only
  by_cases e : i = k
  · subst e
    rw [if_pos rfl]
    obtain ⟨F, h3, h4⟩ := hr
    exact ⟨hg, F, h3, fun j hj => h4 j (Nat.zero_le _) hj⟩
  · rw [if_neg e]
    exact hR i (by omega) h2

/-- row k is being filled, those behind it are done -/
structure MidRow (w : World) (X Y : List ByteArray) (T n m M k l g : Nat) (R : Nat → Nat) : Prop where
  top : w.rowIs T 27 (n + 1) (fun i => if k ≤ i then .slice (some ⟨(if i = k then g else R i), 0, none⟩) M M else .slice none 0 0)
  rest : ∀ i, k + 1 ≤ i → i ≤ n → R i ≠ T ∧ R i ≠ g ∧ ∃ F : Nat → Int, w.rowIs (R i) 3 M (fun j => .int .i64 (F j)) ∧ ∀ j, j ≤ m → F j = (lcsAt X Y i j : Nat)
  ne : g ≠ T
  row : RowTo w X Y m M k l g
  wide : M = m + 1
section
variable {w : World} {X Y : List ByteArray} {T n m M k l g : Nat} {R : Nat → Nat}
theorem MidRow.cellT0 (h : MidRow w X Y T n m M k l g R) (hk : k ≤ n) : w.cell? ⟨T, k, none⟩ = some (.slice (some ⟨g, 0, none⟩) M M) := by
  have := h.top.cell (i := k) (by omega)
  rw [if_pos (Nat.le_refl _), if_pos rfl] at this
  exact this
theorem MidRow.cellT1 (h : MidRow w X Y T n m M k l g R) (hk : k + 1 ≤ n) : w.cell? ⟨T, k + 1, none⟩ = some (.slice (some ⟨R (k + 1), 0, none⟩) M M) := by
  have := h.top.cell (i := k + 1) (by omega)
  rw [if_pos (by omega), if_neg (by omega)] at this
  exact this
theorem MidRow.cellR1 (h : MidRow w X Y T n m M k l g R) (hk : k + 1 ≤ n) {j : Nat} (hj : j ≤ m) : w.cell? ⟨R (k + 1), j, none⟩ = some (.int .i64 (lcsAt X Y (k + 1) j : Nat)) := by
  obtain ⟨_, _, F, hr, hF⟩ := h.rest (k + 1) (Nat.le_refl _) hk
  have := hr.cell (i := j) (by have := h.wide; omega)
  rw [hF j hj] at this
  exact this
theorem MidRow.cellG (h : MidRow w X Y T n m M k l g R) {j : Nat} (h1 : l ≤ j) (hj : j ≤ m) : w.cell? ⟨g, j, none⟩ = some (.int .i64 (lcsAt X Y k j : Nat)) := h.row.cell h1 hj h.wide
theorem MidRow.put (h : MidRow w X Y T n m M k (l + 1) g R) (v : Int) (hv : v = (lcsAt X Y k l : Nat)) : MidRow (w.setCell ⟨g, l, none⟩ (.int .i64 v)) X Y T n m M k l g R :=
  ⟨h.top.setOther (Ne.symm h.ne) _, fun i h1 h2 => by obtain ⟨e1, e2, F, hr, hF⟩ := h.rest i h1 h2; exact ⟨e1, e2, F, hr.setOther e2 _, hF⟩, h.ne, h.row.put v hv, h.wide⟩
theorem MidRow.drewN (h : MidRow w X Y T n m M k l g R) (d : Nat) : MidRow (w.drewN d) X Y T n m M k l g R := ⟨h.top, h.rest, h.ne, h.row, h.wide⟩
theorem MidRow.done (h : MidRow w X Y T n m M k 0 g R) : RowsFrom w X Y T n m M k (fun i => if i = k then g else R i) :=
  RowsFrom.join h.top (fun i h1 h2 => by obtain ⟨e1, _, F, hr, hF⟩ := h.rest i h1 h2; exact ⟨e1, F, hr, hF⟩) h.ne h.row
theorem RowsFrom.mid {o : Obj} (h : RowsFrom w X Y T n m M (k + 1) R) (hk : k ≤ n) (hY : Y.length = m) (hM : M = m + 1) (hrow : (w.alloc o).rowIs w.heap.size 3 M (fun _ => .int .i64 0)) :
    MidRow ((w.alloc o).setCell ⟨T, k, none⟩ (.slice (some ⟨w.heap.size, 0, none⟩) M M)) X Y T n m M k m w.heap.size R := by
  have hl := h.lt
  have ha := h.alloc o
  refine ⟨ha.lay hk, fun i h1 h2 => ?_, by omega, ⟨fun _ => 0, hrow.setOther (show w.heap.size ≠ T by omega) _, fun j h1 h2 => ?_⟩, hM⟩
  · obtain ⟨e1, F, hr, hF⟩ := ha.2 i h1 h2
    have := hl.2 i h1 h2
    exact ⟨e1, by omega, F, hr.setOther e1 _, hF⟩
  · rw [lcsAt_end (.inr (by omega))]; rfl
end

set_option maxRecDepth 100000 in
set_option maxHeartbeats 4000000 in
set_option maxRecDepth 100000 in
theorem table_any (B B' : Nat) (A A' : Option Addr) (n m c c' : Nat) (xs ys : List ByteArray) (w : World) (hx : Reads w B 1 A n (strs xs)) (hy : Reads w B' 1 A' m (strs ys)) (hB : B ≤ w.heap.size) (hB' : B' ≤ w.heap.size) (hn : n ≤ 1000000) (hm : m ≤ 1000000) :
    Calls Tryd.prog 106 #[.slice A n c, .slice A' m c'] w fun e w' => ∃ (T : Nat) (R : Nat → Nat), e = .returned (.slice (some ⟨T, 0, none⟩) (n + 1) (n + 1)) ∧ RowsFrom w' xs ys T n m (m + 1) 0 R ∧ Grows w w' := by
  have HLx := Lib.hid hx.strLen
  have HLy := Lib.hid hy.strLen
  have HX := Lib.hid hx; clear hx
  have HY := Lib.hid hy; clear hy
  obtain ⟨t0, hi0, hz0, hz1, hz2⟩ := info_parts Tryd.infoInt
  obtain ⟨t1, hj0, hy0, hy1, hy2⟩ := info_parts Tryd.infoRow
  obtain ⟨M, hM⟩ : ∃ M, M = m + 1 := ⟨_, rfl⟩
  obtain ⟨N, hN⟩ : ∃ N, N = n + 1 := ⟨_, rfl⟩
  have HMI := Lib.hid (show ((m : Int) + 1) = (M : Int) by omega)
  have HNI := Lib.hid (show ((n : Int) + 1) = (N : Int) by omega)
  have HM := Lib.hid hM
  have HN := Lib.hid hN
  have hMM : M ≤ 1000001 := by omega
  have hNM : N ≤ 1000001 := by omega
  have hnN : (n : Int) < N := by omega
  rw [← hM]
  clear hM hN
  go_enter Tryd.func106, Tryd.ntmps106
  go_wp2_with (first
    | (at_make; refine wpList_make_row _ rfl (.tmp 10) (.tmp 10) 148 rfl 27 t1 (.slice none 0 0) Tryd.underlying148 hj0 hy0 hy1 rfl .i64 .i64 N (congrArg (Value.int .i64) HNI.out) (congrArg (Value.int .i64) HNI.out) (by rw [hy2]; omega) (by omega) ?_; have hrowT : (w.alloc (.cells (madeCells #[.slice none 0 0] N) 27)).rowIs w.heap.size 27 N (fun _ => .slice none 0 0) := World.rowIs_made w _ _ _; have hg1 : Grows w (w.alloc (.cells (madeCells #[.slice none 0 0] N) 27)) := (Grows.refl w).alloc _; have hTw : w.heap.size ≤ w.heap.size := Nat.le_refl _; generalize (w.alloc (.cells (madeCells #[.slice none 0 0] N) 27)) = w1 at hrowT hg1 ⊢; generalize hTT : w.heap.size = T at hrowT ⊢; have HTT := Lib.hid hTT; clear hTT hTw)
    | (at_make; refine wpList_make_row _ rfl (.tmp 17) (.tmp 17) 27 rfl 3 t0 (.int .i64 0) Tryd.underlying27 hi0 hz0 hz1 rfl .i64 .i64 M (congrArg (Value.int .i64) HMI.out) (congrArg (Value.int .i64) HMI.out) (by rw [hz2]; omega) (by omega) ?_; have hrowg : (w1.alloc (.cells (madeCells #[.int .i64 0] M) 3)).rowIs w1.heap.size 3 M (fun _ => .int .i64 0) := World.rowIs_made w1 _ _ _; have hg2 := hg1.alloc (.cells (madeCells #[.int .i64 0] M) 3); have hrowT2 := hrowT.alloc (.cells (madeCells #[.int .i64 0] M) 3); have hlt1 := hrowT.lt; generalize (w1.alloc (.cells (madeCells #[.int .i64 0] M) 3)) = w2 at hrowg hg2 hrowT2 ⊢; generalize w1.heap.size = g at hrowg hlt1 ⊢; have hcT := hrowT2.cell (i := n) (by have := HN.out; omega); have hfT := hrowT2.frozen n))
  have hRF : RowsFrom (w2.setCell ⟨T, n, none⟩ (.slice (some ⟨g, 0, none⟩) M M)) xs ys T n m M n (fun _ => g) := by
    have h1 := hrowT2.set n (.slice (some ⟨g, 0, none⟩) M M)
    rw [HN.out] at h1
    refine ⟨h1.congr fun i hi => ?_, fun i h2 h3 => ⟨show g ≠ T by omega, fun _ => 0, hrowg.setOther (show g ≠ T by omega) _, fun j _ => ?_⟩⟩
    · dsimp only
      by_cases e : i = n
      · subst e; rw [if_pos rfl, if_pos (Nat.le_refl _)]
      · rw [if_neg e, if_neg (show ¬ n ≤ i by omega)]
    · rw [lcsAt_end (.inl (by rw [HLx.out]; omega))]; rfl
  have hg3 : Grows w (w2.setCell ⟨T, n, none⟩ (.slice (some ⟨g, 0, none⟩) M M)) := Below.setCell hg2 (Nat.le_of_eq HTT.out) _
  clear hrowT hg1 hrowg hg2 hrowT2 hcT hfT
  generalize (w2.setCell ⟨T, n, none⟩ (.slice (some ⟨g, 0, none⟩) M M)) = w3 at hRF hg3 ⊢
  go_loopg [6] n (fun gk q wr => ∃ (k : Nat) (z : Int) (R : Nat → Nat), q = .int .i64 z ∧ z + 1 = k ∧ k ≤ n ∧ gk = k ∧ RowsFrom wr xs ys T n m M k R ∧ Grows w wr)
  case atStart => exact ⟨n, (n : Int) - 1, fun _ => g, rfl, by omega, by omega, rfl, hRF, hg3⟩
  case round =>
    clear hRF hg3
    obtain ⟨k, z, R, rfl, hz, hk, hgk, hRF, hgr⟩ := hrel
    have HG := Lib.hid hgk; clear hgk
    by_cases hk0 : k = 0
    · have hz' : z = -1 := by omega
      subst hz'
      have HK0 := Lib.hid hk0
      go_wp2
      go_ret
      refine ⟨T, R, by rw [← HN.out]; rfl, ?_, hgr⟩
      rw [HK0.out] at hRF
      exact hRF
    · obtain ⟨k', hk'⟩ : ∃ k', k = k' + 1 := ⟨k - 1, by omega⟩
      have hz' : z = (k' : Int) := by omega
      subst hz'
      have HK := Lib.hid hk'
      have hkn : k' < n := by omega
      rw [hk'] at hRF
      clear hz hk0 hk'
      have i0 : (0 : Int) ≤ k' := by omega
      have i1 : (k' : Int) < N := by omega
      go_wp2_with (at_make; refine wpList_make_row _ rfl (.tmp 31) (.tmp 31) 27 rfl 3 t0 (.int .i64 0) Tryd.underlying27 hi0 hz0 hz1 rfl .i64 .i64 M (congrArg (Value.int .i64) HMI.out) (congrArg (Value.int .i64) HMI.out) (by rw [hz2]; omega) (by omega) ?_; (have hMid := RowsFrom.mid (k := k') hRF (by omega) HLy.out HM.out (World.rowIs_made wr (.int .i64 0) M 3); have hg4 := Below.setCell (hgr.alloc (.cells (madeCells #[.int .i64 0] M) 3)) (p := ⟨T, k', none⟩) (Nat.le_of_eq HTT.out) (.slice (some ⟨wr.heap.size, 0, none⟩) M M); have hcT : (wr.alloc (.cells (madeCells #[.int .i64 0] M) 3)).cell? ⟨T, k', none⟩ = some (.slice none 0 0) := (hRF.alloc (.cells (madeCells #[.int .i64 0] M) 3)).cellNil (Nat.lt_succ_self k') (Nat.le_of_lt hkn); have hfT := (hRF.alloc (.cells (madeCells #[.int .i64 0] M) 3)).1.frozen k'; have hgs := hgr.size; generalize (wr.alloc (.cells (madeCells #[.int .i64 0] M) 3)) = wo at hMid hg4 hcT hfT ⊢; generalize wr.heap.size = g4 at hMid hg4 hgs ⊢))
      have hg5 : Grows w (wo.setCell ⟨T, k', none⟩ (.slice (some ⟨g4, 0, none⟩) M M)) := hg4
      clear hRF hgr hg4 hcT hfT
      generalize (wo.setCell ⟨T, k', none⟩ (.slice (some ⟨g4, 0, none⟩) M M)) = w5 at hMid hg5 ⊢
      go_loopg [7] m (fun gk q wx => ∃ (l : Nat) (y : Int), q = .int .i64 y ∧ y + 1 = l ∧ l ≤ m ∧ gk = l ∧ MidRow wx xs ys T n m M k' l g4 R ∧ Grows w wx)
      case atStart => exact ⟨m, (m : Int) - 1, rfl, by omega, by omega, rfl, hMid, hg5⟩
      case round =>
        clear hMid hg5
        obtain ⟨l, y, rfl, hy, hl, hgk, hM, hgx⟩ := hrel
        have HG2 := Lib.hid hgk; clear hgk
        by_cases hl0 : l = 0
        · have hy' : y = -1 := by omega
          subst hy'
          have HL0 := Lib.hid hl0
          go_wp2
          go_roundg k'
          case measure => rw [HG.out, HK.out]; omega
          case rel => exact ⟨k', (k' : Int) - 1, fun i => if i = k' then g4 else R i, by go_num, by omega, by omega, rfl, MidRow.done (by rw [HL0.out] at hM; exact hM), hgx⟩
        · obtain ⟨l', hl'⟩ : ∃ l', l = l' + 1 := ⟨l - 1, by omega⟩
          have hy' : y = (l' : Int) := by omega
          subst hy'
          have HLL := Lib.hid hl'
          have hlm : l' < m := by omega
          rw [hl'] at hM
          clear hy hl0 hl'
          obtain ⟨ad, rfl, had, hc⟩ := (HX.out.grows hB hgx).str hkn
          obtain ⟨ad', rfl, had', hc'⟩ := (HY.out.grows hB' hgx).str hlm
          have m0 : (k' : Int) < n := by omega
          have m1 : (k' : Int) + 1 < N := by omega
          have j0 : (0 : Int) ≤ l' := by omega
          have j1 : (l' : Int) < m := by omega
          have j2 : (l' : Int) < M := by have := HM.out; omega
          have j3 : (l' : Int) + 1 < M := by have := HM.out; omega
          have hk5 : k' < xs.length := by rw [HLx.out]; exact hkn
          have hl5 : l' < ys.length := by rw [HLy.out]; exact hlm
          have HK5 := Lib.hid hk5
          have HL5 := Lib.hid hl5
          clear hk5 hl5
          cases he : ((gs xs k').toList == (gs ys l').toList) with
          | true =>
            have hval := Lib.hid (lcsAt_eq HK5.out HL5.out he)
            have hle := lcsAt_le (xs := xs) (ys := ys) (i := k' + 1) (j := l' + 1)
            rw [HLx.out] at hle
            go_wp2
            go_quiet (fail)
            have hmd := hM.drewN nq
            have hgx2 : Grows w (wr.drewN nq) := hgx.drewN nq
            clear hM hgx hc hc'
            generalize wr.drewN nq = wz at hmd hgx2 ⊢
            have HMD := Lib.hid hmd
            clear hmd
            have hT0 := HMD.out.cellT0 (by omega)
            have hT1 := HMD.out.cellT1 (by omega)
            obtain ⟨ov, hov, hfr⟩ := HMD.out.row.some (j := l') (by have := HM.out; omega)
            have hR1 := HMD.out.cellR1 (j := l' + 1) (by omega) (by omega)
            obtain ⟨v, hv⟩ : ∃ v : Nat, v = lcsAt xs ys (k' + 1) (l' + 1) := ⟨_, rfl⟩
            rw [← hv] at hval hle hR1
            clear hv
            go_wp2_with fail
            refine wp_region_quiet_tail 16 (by kernel_rfl) (by kernel_rfl) ?_
            simp only [List.take_succ_cons, List.take_zero, List.drop_succ_cons, List.drop_zero]
            repeat (go_big_quiet_step (fail))
            refine wpQuiet_nil ?_
            intro _ hw'
            obtain ⟨nq, hw''⟩ := hw'
            subst hw''
            go_wp2_with fail
            go_roundg l'
            case measure => rw [HG2.out, HLL.out]; omega
            case rel => exact ⟨l', (l' : Int) - 1, by go_num, by omega, by omega, rfl, (HMD.out.drewN nq).put ((v : Int) + 1) (by rw [hval.out]; omega), Below.setCell (hgx2.drewN nq) hgs _⟩
          | false =>
            have hval := Lib.hid (lcsAt_ne HK5.out HL5.out he)
            have hle1 := lcsAt_le (xs := xs) (ys := ys) (i := k' + 1) (j := l')
            have hle2 := lcsAt_le (xs := xs) (ys := ys) (i := k') (j := l' + 1)
            rw [HLx.out] at hle1 hle2
            go_wp2
            go_quiet (fail)
            have hmd := hM.drewN nq
            have hgx2 : Grows w (wr.drewN nq) := hgx.drewN nq
            clear hM hgx hc hc'
            generalize wr.drewN nq = wz at hmd hgx2 ⊢
            have HMD := Lib.hid hmd
            clear hmd
            have hT0 := HMD.out.cellT0 (by omega)
            have hT1 := HMD.out.cellT1 (by omega)
            obtain ⟨ov, hov, hfr⟩ := HMD.out.row.some (j := l') (by have := HM.out; omega)
            have hR1 := HMD.out.cellR1 (j := l') (by omega) (by omega)
            have hR2 := HMD.out.cellG (j := l' + 1) (Nat.le_refl _) (by omega)
            obtain ⟨v1, hv1⟩ : ∃ v1 : Nat, v1 = lcsAt xs ys (k' + 1) l' := ⟨_, rfl⟩
            obtain ⟨v2, hv2⟩ : ∃ v2 : Nat, v2 = lcsAt xs ys k' (l' + 1) := ⟨_, rfl⟩
            rw [← hv1] at hval hle1 hR1
            rw [← hv2] at hval hle2 hR2
            clear hv1 hv2
            go_wp2_with fail
            refine wp_region_quiet_tail 23 (by kernel_rfl) (by kernel_rfl) ?_
            simp only [List.take_succ_cons, List.take_zero, List.drop_succ_cons, List.drop_zero]
            repeat (go_big_quiet_step (fail))
            refine wpQuiet_nil ?_
            intro _ hw'
            obtain ⟨nq, hw''⟩ := hw'
            subst hw''
            go_wp2_with fail
            ·
              go_roundg l'
              case measure => rw [HG2.out, HLL.out]; omega
              case rel => exact ⟨l', (l' : Int) - 1, by go_num, by omega, by omega, rfl, (HMD.out.drewN nq).put ((v2 : Int)) (by rw [hval.out]; omega), Below.setCell (hgx2.drewN nq) hgs _⟩
            ·
              go_roundg l'
              case measure => rw [HG2.out, HLL.out]; omega
              case rel => exact ⟨l', (l' : Int) - 1, by go_num, by omega, by omega, rfl, (HMD.out.drewN nq).put ((v1 : Int)) (by rw [hval.out]; omega), Below.setCell (hgx2.drewN nq) hgs _⟩

end Go.Proofs.YtakgddochbcjbaaDoor
