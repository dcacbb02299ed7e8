/- The grid of package diff: at, made. -/
import Derived.Test.YtakgddochbcjbaaDoorPkDiff1
namespace Go.Proofs.YtakgddochbcjbaaDoor
open Go.RowKit Go.Deep Go.MapKept

theorem blk_two_0 {w : World} {p : Nat} {t : TypeId} {u v : Value} (h : Blk w p t #[u, v]) : w.cell? ⟨p, 0, none⟩ = some u := h.cell 0
theorem blk_two_1 {w : World} {p : Nat} {t : TypeId} {u v : Value} (h : Blk w p t #[u, v]) : w.cell? ⟨p, 1, none⟩ = some v := h.cell 1

set_option maxRecDepth 100000 in
set_option maxHeartbeats 1000000 in
set_option maxRecDepth 100000 in
theorem at_any (p g S W i j : Nat) (F : Nat → Int) (w : World) (hb : Blk w p 187 #[.slice (some ⟨g, 0, none⟩) S S, .int .i64 W]) (hr : w.rowIs g 21 S (fun i => .int .i32 (F i))) (hij : i * W + j < S) (hS : S ≤ 1000000) :
    Calls Tryd.prog 137 #[.pointer (some ⟨p, 0, none⟩), .int .i64 i, .int .i64 j] w fun e w' => e = .returned (.int .i32 (F (i * W + j))) ∧ ∃ d, w' = w.drewN d := by
  have hc0 : w.cell? ⟨p, 0, none⟩ = some (.slice (some ⟨g, 0, none⟩) S S) := hb.cell 0
  have hc1 : w.cell? ⟨p, 1, none⟩ = some (.int .i64 W) := hb.cell 1
  obtain ⟨q, hq⟩ : ∃ q : Nat, q = i * W := ⟨_, rfl⟩
  rw [← hq] at hij ⊢
  obtain ⟨r, hrr⟩ : ∃ r : Nat, r = q + j := ⟨_, rfl⟩
  rw [← hrr] at hij ⊢
  have a1 : IntKind.i64.wrap ((i : Int) * (W : Int)) = (q : Int) := by
    rw [← Int.natCast_mul, ← hq, wrap_small (by omega) (by omega)]
  have a2 : IntKind.i64.wrap ((q : Int) + (j : Int)) = (r : Int) := by rw [wrap_small (by omega) (by omega)]; omega
  have b1 : (0 : Int) ≤ r := by omega
  have b2 : (r : Int) < S := by omega
  have hc2 := hr.cell hij
  clear hq hrr hb hr
  go_enter Tryd.func137, Tryd.ntmps137
  go_wp2
  go_quiet (fail)
  go_wp2
  go_ret
  exact ⟨rfl, _, rfl⟩
theorem at_int (p g S W i j : Nat) (x y : Int) (F : Nat → Int) (w : World) (hb : Blk w p 187 #[.slice (some ⟨g, 0, none⟩) S S, .int .i64 W]) (hr : w.rowIs g 21 S (fun i => .int .i32 (F i))) (hij : i * W + j < S) (hS : S ≤ 1000000) (hx : x = i) (hy : y = j) (v : Int) (hv : F (i * W + j) = v) :
    Calls Tryd.prog 137 #[.pointer (some ⟨p, 0, none⟩), .int .i64 x, .int .i64 y] w fun e w' => e = .returned (.int .i32 v) ∧ ∃ d, w' = w.drewN d := by
  subst hx hy hv
  exact at_any p g S W i j F w hb hr hij hS

theorem Tryd.infoI32 : (Tryd.prog.info? 21).map (fun i => (i.zero, i.size, i.bytes)) = some (some (.int .i32 0), 1, 4) := by kernel_rfl

/-- the grid's number of one place in both -/
def lcsAt (xs ys : List ByteArray) (i j : Nat) : Nat := lcs (xs.drop i) (ys.drop j)
theorem lcsAt_end {xs ys : List ByteArray} {i j : Nat} (h : xs.length ≤ i ∨ ys.length ≤ j) : lcsAt xs ys i j = 0 := by
  unfold lcsAt
  rcases h with h | h
  · rw [List.drop_eq_nil_of_le h, lcs_nil]
  · rw [List.drop_eq_nil_of_le h, lcs_nil']
theorem gs_drop {xs : List ByteArray} {i : Nat} (h : i < xs.length) : xs.drop i = gs xs i :: xs.drop (i + 1) := by
  rw [List.drop_eq_getElem_cons h]
  simp [gs, List.getElem?_eq_getElem h]
theorem lcsAt_eq {xs ys : List ByteArray} {i j : Nat} (hi : i < xs.length) (hj : j < ys.length) (he : ((gs xs i).toList == (gs ys j).toList) = true) : lcsAt xs ys i j = lcsAt xs ys (i + 1) (j + 1) + 1 := by
  rw [← beq_toListBytes, bytes_beq] at he
  unfold lcsAt
  rw [gs_drop hi, gs_drop hj, he, lcs_eq]
theorem lcsAt_ne {xs ys : List ByteArray} {i j : Nat} (hi : i < xs.length) (hj : j < ys.length) (he : ((gs xs i).toList == (gs ys j).toList) = false) : lcsAt xs ys i j = max (lcsAt xs ys (i + 1) j) (lcsAt xs ys i (j + 1)) := by
  have hne : gs xs i ≠ gs ys j := fun h => by rw [h] at he; simp at he
  unfold lcsAt
  rw [gs_drop hi, gs_drop hj, lcs_ne hne]
theorem lcsAt_le {xs ys : List ByteArray} {i j : Nat} : lcsAt xs ys i j ≤ xs.length := Nat.le_trans (lcs_le_left _ _) (by rw [List.length_drop]; omega)
/-- what of the grid is done: all rows from k on, and of row k - 1 all columns from l on -/
def GridTo (xs ys : List ByteArray) (n m : Nat) (F : Nat → Int) (k l : Nat) : Prop := ∀ i j, i ≤ n → j ≤ m → (k ≤ i ∨ j = m ∨ (i + 1 = k ∧ l ≤ j)) → F (i * (m + 1) + j) = (lcsAt xs ys i j : Nat)
theorem idx_inj {W i j i' j' : Nat} (hj : j < W) (hj' : j' < W) (h : i * W + j = i' * W + j') : i = i' ∧ j = j' := by
  have h1 : (i * W + j) / W = i := by rw [Nat.mul_comm, Nat.mul_add_div (by omega), Nat.div_eq_of_lt hj]; omega
  have h2 : (i' * W + j') / W = i' := by rw [Nat.mul_comm, Nat.mul_add_div (by omega), Nat.div_eq_of_lt hj']; omega
  have e : i = i' := by rw [← h1, h, h2]
  subst e
  exact ⟨rfl, by omega⟩
theorem idx_lt {n m i j : Nat} (hi : i ≤ n) (hj : j ≤ m) : i * (m + 1) + j < (n + 1) * (m + 1) := by
  have := Nat.mul_le_mul_right (m + 1) hi
  rw [Nat.add_mul]
  omega
theorem GridTo.start {xs ys : List ByteArray} {n m : Nat} (hx : xs.length = n) (hy : ys.length = m) : GridTo xs ys n m (fun _ => 0) n m := by
  intro i j hi hj h
  rw [lcsAt_end (by omega)]; rfl
theorem GridTo.next {xs ys : List ByteArray} {n m : Nat} {F : Nat → Int} {k : Nat} (h : GridTo xs ys n m F (k + 1) m) : GridTo xs ys n m F (k + 1) m := h
theorem GridTo.row {xs ys : List ByteArray} {n m : Nat} {F : Nat → Int} {k : Nat} (h : GridTo xs ys n m F (k + 1) 0) : GridTo xs ys n m F k m := by
  intro i j hi hj hd
  refine h i j hi hj ?_
  omega
theorem GridTo.put {xs ys : List ByteArray} {n m : Nat} {F : Nat → Int} {k l : Nat} (h : GridTo xs ys n m F (k + 1) (l + 1)) (hl : l < m) (v : Int) (hv : v = (lcsAt xs ys k l : Nat)) : GridTo xs ys n m (fun r => if r = k * (m + 1) + l then v else F r) (k + 1) l := by
  intro i j hi hj hd
  dsimp only
  by_cases e : i * (m + 1) + j = k * (m + 1) + l
  · obtain ⟨rfl, rfl⟩ := idx_inj (by omega) (by omega) e
    rw [if_pos rfl, hv]
  · rw [if_neg e]
    refine h i j hi hj ?_
    rcases hd with hd | hd | ⟨hd1, hd2⟩
    · exact .inl hd
    · exact .inr (.inl hd)
    · have : j ≠ l := by
        rintro rfl
        have : i = k := by omega
        subst this
        exact e rfl
      omega

set_option maxRecDepth 100000 in
set_option maxHeartbeats 4000000 in
set_option maxRecDepth 100000 in
theorem made_any (B B' : Nat) (A A' : Option Addr) (n m c c' : Nat) (xs ys : List ByteArray) (w : World) (hx : Reads w B 1 A n (strs xs)) (hy : Reads w B' 1 A' m (strs ys)) (hB : B ≤ w.heap.size) (hB' : B' ≤ w.heap.size) (hn : n ≤ 400) (hm : m ≤ 400) :
    Calls Tryd.prog 136 #[.slice A n c, .slice A' m c'] w fun e w' => ∃ (p g : Nat) (F : Nat → Int), e = .returned (.pointer (some ⟨p, 0, none⟩)) ∧ Blk w' p 187 #[.slice (some ⟨g, 0, none⟩) ((n + 1) * (m + 1)) ((n + 1) * (m + 1)), .int .i64 ((m + 1 : Nat) : Int)] ∧ w'.rowIs g 21 ((n + 1) * (m + 1)) (fun i => .int .i32 (F i)) ∧ (∀ i j, i ≤ n → j ≤ m → F (i * (m + 1) + j) = (lcsAt xs ys i j : Nat)) ∧ w.heap.size ≤ p ∧ w.heap.size ≤ g ∧ Grows w w' := by
  have HLx := Lib.hid hx.strLen
  have HLy := Lib.hid hy.strLen
  have HX := Lib.hid hx; clear hx
  have HY := Lib.hid hy; clear hy
  obtain ⟨t0, hi0, hz0, hz1, hz2⟩ := info_parts Tryd.infoI32
  have hS0 : (n + 1) * (m + 1) ≤ 401 * 401 := Nat.mul_le_mul (by omega) (by omega)
  obtain ⟨S, hS⟩ : ∃ S : Nat, S = (n + 1) * (m + 1) := ⟨_, rfl⟩
  rw [← hS] at hS0
  have HS := Lib.hid hS
  have hmul : wrap64 (((n : Int) + 1) * ((m : Int) + 1)) = (S : Int) := by
    have e : ((n : Int) + 1) * ((m : Int) + 1) = (S : Int) := by rw [hS]; simp
    rw [e]; unfold wrap64; omega
  have HM := Lib.hid hmul
  rw [← hS]
  clear hS hmul
  go_enter Tryd.func136, Tryd.ntmps136
  go_wp2_with (at_make; refine wpList_make_row _ rfl (.tmp 14) (.tmp 14) 139 rfl 21 t0 (.int .i32 0) Tryd.underlying139 hi0 hz0 hz1 rfl .i64 .i64 S (congrArg (Value.int .i64) HM.out) (congrArg (Value.int .i64) HM.out) (by rw [hz2]; omega) (by omega) ?_)
  have hrow1 : (((w.alloc (.cells (madeCells #[.int .i32 0] S) 21)).alloc (.cells #[.slice (some ⟨w.heap.size, 0, none⟩) S S, .int .i64 ((m : Int) + 1)] 187))).rowIs w.heap.size 21 S (fun _ => .int .i32 0) := (World.rowIs_made w _ _ _).alloc _
  have hblk1 : Blk (((w.alloc (.cells (madeCells #[.int .i32 0] S) 21)).alloc (.cells #[.slice (some ⟨w.heap.size, 0, none⟩) S S, .int .i64 ((m : Int) + 1)] 187))) (w.heap.size + 1) 187 #[.slice (some ⟨w.heap.size, 0, none⟩) S S, .int .i64 ((m : Int) + 1)] := by
    have := Blk.new (w.alloc (.cells (madeCells #[.int .i32 0] S) 21)) 187 #[.slice (some ⟨w.heap.size, 0, none⟩) S S, .int .i64 ((m : Int) + 1)]
    simpa using this
  have hg1 : Grows w (((w.alloc (.cells (madeCells #[.int .i32 0] S) 21)).alloc (.cells #[.slice (some ⟨w.heap.size, 0, none⟩) S S, .int .i64 ((m : Int) + 1)] 187))) := ((Grows.refl w).alloc _).alloc _
  obtain ⟨W, hW⟩ : ∃ W : Nat, W = m + 1 := ⟨_, rfl⟩
  have eW : (m : Int) + 1 = (W : Int) := by omega
  obtain ⟨g, hg⟩ : ∃ g, g = w.heap.size := ⟨_, rfl⟩
  obtain ⟨p, hp⟩ : ∃ p, p = w.heap.size + 1 := ⟨_, rfl⟩
  rw [eW] at hrow1 hblk1 hg1 ⊢
  rw [← hp] at hblk1 ⊢
  rw [← hg] at hblk1 hrow1 hg1 ⊢
  generalize ((w.alloc (.cells (madeCells #[.int .i32 0] S) 21)).alloc (.cells #[.slice (some ⟨g, 0, none⟩) S S, .int .i64 (W : Int)] 187)) = w1 at hrow1 hblk1 hg1 ⊢
  have HW := Lib.hid hW
  have hpg : p ≠ g := by omega
  have HGE := Lib.hid hg
  have HPE := Lib.hid hp
  clear hW eW hg hp
  go_loopg [6] n (fun gk q wr => ∃ (k : Nat) (z : Int) (F : Nat → Int), q = .int .i64 z ∧ z + 1 = k ∧ k ≤ n ∧ gk = k ∧ GridTo xs ys n m F k m ∧ wr.rowIs g 21 S (fun i => .int .i32 (F i)) ∧ Blk wr p 187 #[.slice (some ⟨g, 0, none⟩) S S, .int .i64 (W : Int)] ∧ Grows w wr)
  case atStart => exact ⟨n, (n : Int) - 1, fun _ => 0, rfl, by omega, by omega, rfl, GridTo.start HLx.out HLy.out, hrow1, hblk1, hg1⟩
  case round =>
    obtain ⟨k, z, F, rfl, hz, hk, hgk, hto, hrow, hblk, hgr⟩ := hrel
    have HG := Lib.hid hgk; clear hgk
    have HTO := Lib.hid hto; clear hto
    by_cases hk0 : k = 0
    · have hz' : z = -1 := by omega
      subst hz'
      go_wp2
      go_ret
      refine ⟨p, g, F, rfl, ?_, ?_, ?_, by have := HPE.out; omega, by have := HGE.out; omega, hgr⟩
      · rw [← HW.out]; exact hblk
      · exact hrow
      · intro i j hi hj
        exact HTO.out i j hi hj (by omega)
    · obtain ⟨k', hk'⟩ : ∃ k', k = k' + 1 := ⟨k - 1, by omega⟩
      have hz' : z = (k' : Int) := by omega
      subst hz'
      have HK := Lib.hid hk'
      have hkn : k' < n := by omega
      clear hz hk0 hk'
      obtain ⟨wo, rfl⟩ : ∃ wo : World, wo = wr := ⟨_, rfl⟩
      go_wp2_with fail
      go_loopg [7] m (fun gk q wx => ∃ (l : Nat) (y : Int) (F : Nat → Int), q = .int .i64 y ∧ y + 1 = l ∧ l ≤ m ∧ gk = l ∧ GridTo xs ys n m F (k' + 1) l ∧ wx.rowIs g 21 S (fun i => .int .i32 (F i)) ∧ Blk wx p 187 #[.slice (some ⟨g, 0, none⟩) S S, .int .i64 (W : Int)] ∧ Grows w wx)
      case atStart => exact ⟨m, (m : Int) - 1, F, rfl, by omega, by omega, rfl, by rw [← HK.out]; exact HTO.out, hrow, hblk, hgr⟩
      case round =>
        clear hrow hblk HTO
        obtain ⟨l, y, F', rfl, hy, hl, hgk, hto, hrow, hblk, hgx⟩ := hrel
        have HG2 := Lib.hid hgk; clear hgk
        have HTO := Lib.hid hto; clear hto
        by_cases hl0 : l = 0
        · have hy' : y = -1 := by omega
          subst hy'
          have HL0 := Lib.hid hl0
          go_wp2
          go_roundg k'
          case measure => rw [HG.out, HK.out]; omega
          case rel => exact ⟨k', (k' : Int) - 1, F', by go_num, by omega, by omega, rfl, GridTo.row (by have := HTO.out; rw [HL0.out] at this; exact this), hrow, hblk, hgx⟩
        · obtain ⟨l', hl'⟩ : ∃ l', l = l' + 1 := ⟨l - 1, by omega⟩
          have hy' : y = (l' : Int) := by omega
          subst hy'
          have HLL := Lib.hid hl'
          have hlm : l' < m := by omega
          clear hy hl0 hl'
          obtain ⟨ad, rfl, had, hc⟩ := (HX.out.grows hB hgx).str hkn
          obtain ⟨ad', rfl, had', hc'⟩ := (HY.out.grows hB' hgx).str hlm
          have i0 : (0 : Int) ≤ k' := by omega
          have i1 : (k' : Int) < n := by omega
          have j0 : (0 : Int) ≤ l' := by omega
          have j1 : (l' : Int) < m := by omega
          have hlt0 : k' * W + l' < S := by rw [HW.out, HS.out]; exact idx_lt (by omega) (by omega)
          have T1 := Lib.hid (show (k' + 1) * W + (l' + 1) < S by rw [HW.out, HS.out]; exact idx_lt (by omega) (by omega))
          have T2 := Lib.hid (show (k' + 1) * W + l' < S by rw [HW.out, HS.out]; exact idx_lt (by omega) (by omega))
          have T3 := Lib.hid (show k' * W + (l' + 1) < S by rw [HW.out, HS.out]; exact idx_lt (by omega) (by omega))
          obtain ⟨q, hq⟩ : ∃ q : Nat, q = k' * W := ⟨_, rfl⟩
          rw [← hq] at hlt0
          have HQ := Lib.hid hq
          obtain ⟨r, hr⟩ : ∃ r : Nat, r = q + l' := ⟨_, rfl⟩
          rw [← hr] at hlt0
          have r0 : (0 : Int) ≤ r := by omega
          have r1 : (r : Int) < S := by omega
          have a1 : IntKind.i64.wrap ((k' : Int) * (W : Int)) = (q : Int) := by
            rw [← Int.natCast_mul, ← hq, wrap_small (by omega) (by omega)]
          have a2 : IntKind.i64.wrap ((q : Int) + (l' : Int)) = (r : Int) := by rw [wrap_small (by omega) (by omega)]; omega
          have a1' : wrap64 ((k' : Int) * (W : Int)) = (q : Int) := by rw [IntKind.wrap_i64] at a1; unfold wrap64; exact a1
          have a2' : wrap64 ((q : Int) + (l' : Int)) = (r : Int) := by rw [IntKind.wrap_i64] at a2; unfold wrap64; exact a2
          have HRR := Lib.hid (show r = k' * (m + 1) + l' by rw [hr, hq, HW.out])
          clear hq hr
          have hk5 : k' < xs.length := by rw [HLx.out]; exact hkn
          have hl5 : l' < ys.length := by rw [HLy.out]; exact hlm
          have HK5 := Lib.hid hk5
          have HL5 := Lib.hid hl5
          clear hk5 hl5
          cases he : ((gs xs k').toList == (gs ys l').toList) with
          | true =>
            have hval := Lib.hid (lcsAt_eq HK5.out HL5.out he)
            have hle := lcsAt_le (xs := xs) (ys := ys) (i := k' + 1) (j := l' + 1)
            rw [HLx.out] at hle
            have hF1 := Lib.hid (show F' ((k' + 1) * W + (l' + 1)) = (lcsAt xs ys (k' + 1) (l' + 1) : Nat) by rw [HW.out]; exact HTO.out _ _ (by omega) (by omega) (by omega))
            obtain ⟨v, hv⟩ : ∃ v : Nat, v = lcsAt xs ys (k' + 1) (l' + 1) := ⟨_, rfl⟩
            rw [← hv] at hval hF1 hle
            clear hv
            go_wp2
            go_quiet (fail)
            have hrow2 : (wr.drewN nq).rowIs g 21 S (fun i => .int .i32 (F' i)) := hrow
            have hblk2 : Blk (wr.drewN nq) p 187 #[.slice (some ⟨g, 0, none⟩) S S, .int .i64 (W : Int)] := hblk
            have hgx2 : Grows w (wr.drewN nq) := hgx.drewN nq
            clear hrow hblk hgx hc hc'
            generalize wr.drewN nq = wz at hrow2 hblk2 hgx2 ⊢
            have hcr := hrow2.cell hlt0
            have hfr := hrow2.frozen r
            have hp0 := blk_two_0 hblk2
            have hp1 := blk_two_1 hblk2
            go_wp2
            refine wp_region_quiet_tail 20 (by kernel_rfl) (by kernel_rfl) ?_
            simp only [List.take_succ_cons, List.take_zero, List.drop_succ_cons, List.drop_zero]
            have AT1 : ∀ d, Calls Tryd.prog 137 #[.pointer (some ⟨p, 0, none⟩), .int .i64 ((k' : Int) + 1), .int .i64 ((l' : Int) + 1)] (wz.drewN d) fun e w' => e = .returned (.int .i32 (v : Int)) ∧ ∃ m, w' = (wz.drewN d).drewN m := fun d => at_int p g S W (k' + 1) (l' + 1) _ _ F' (wz.drewN d) hblk2 hrow2 T1.out (by omega) (by omega) (by omega) _ hF1.out
            repeat (go_big_quiet_step (exact Calls.quiet_of (AT1 _)))
            refine wpQuiet_nil ?_
            intro _ hw'
            obtain ⟨nq, hw''⟩ := hw'
            subst hw''
            go_wp2_with fail
            go_roundg l'
            case measure => rw [HG2.out, HLL.out]; omega
            case rel =>
              refine ⟨l', (l' : Int) - 1, fun r0 => if r0 = r then ((v : Int) + 1) else F' r0, by go_num, by omega, by omega, rfl, ?_, ?_, ?_, ?_⟩
              · have h0 := HTO.out
                rw [HLL.out] at h0
                have h1 := GridTo.put h0 hlm ((v : Int) + 1) (by rw [hval.out]; omega)
                rw [HRR.out]; exact h1
              · exact (World.rowIs.set (w := wz.drewN nq) hrow2 r _).congr fun i _ => by dsimp only; split <;> rfl
              · exact (hblk2.drewN nq).far hpg _
              · exact Below.setCell (hgx2.drewN nq) (by rw [HGE.out]; exact Nat.le_refl _) _
          | false =>
            have hval := Lib.hid (lcsAt_ne HK5.out HL5.out he)
            have hle1 := lcsAt_le (xs := xs) (ys := ys) (i := k' + 1) (j := l')
            have hle2 := lcsAt_le (xs := xs) (ys := ys) (i := k') (j := l' + 1)
            rw [HLx.out] at hle1 hle2
            have hF1 := Lib.hid (show F' ((k' + 1) * W + l') = (lcsAt xs ys (k' + 1) l' : Nat) by rw [HW.out]; exact HTO.out _ _ (by omega) (by omega) (by omega))
            have hF2 := Lib.hid (show F' (k' * W + (l' + 1)) = (lcsAt xs ys k' (l' + 1) : Nat) by rw [HW.out]; exact HTO.out _ _ (by omega) (by omega) (by have := HLL.out; omega))
            obtain ⟨v1, hv1⟩ : ∃ v1 : Nat, v1 = lcsAt xs ys (k' + 1) l' := ⟨_, rfl⟩
            obtain ⟨v2, hv2⟩ : ∃ v2 : Nat, v2 = lcsAt xs ys k' (l' + 1) := ⟨_, rfl⟩
            rw [← hv1] at hval hF1 hle1
            rw [← hv2] at hval hF2 hle2
            clear hv1 hv2
            go_wp2
            go_quiet (fail)
            have hrow2 : (wr.drewN nq).rowIs g 21 S (fun i => .int .i32 (F' i)) := hrow
            have hblk2 : Blk (wr.drewN nq) p 187 #[.slice (some ⟨g, 0, none⟩) S S, .int .i64 (W : Int)] := hblk
            have hgx2 : Grows w (wr.drewN nq) := hgx.drewN nq
            clear hrow hblk hgx hc hc'
            generalize wr.drewN nq = wz at hrow2 hblk2 hgx2 ⊢
            have hcr := hrow2.cell hlt0
            have hfr := hrow2.frozen r
            have hp0 := blk_two_0 hblk2
            have hp1 := blk_two_1 hblk2
            go_wp2
            refine wp_region_quiet_tail 24 (by kernel_rfl) (by kernel_rfl) ?_
            simp only [List.take_succ_cons, List.take_zero, List.drop_succ_cons, List.drop_zero]
            have AT1 : ∀ d, Calls Tryd.prog 137 #[.pointer (some ⟨p, 0, none⟩), .int .i64 ((k' : Int) + 1), .int .i64 (l' : Int)] (wz.drewN d) fun e w' => e = .returned (.int .i32 (v1 : Int)) ∧ ∃ m, w' = (wz.drewN d).drewN m := fun d => at_int p g S W (k' + 1) l' _ _ F' (wz.drewN d) hblk2 hrow2 T2.out (by omega) (by omega) (by omega) _ hF1.out
            have AT2 : ∀ d, Calls Tryd.prog 137 #[.pointer (some ⟨p, 0, none⟩), .int .i64 (k' : Int), .int .i64 ((l' : Int) + 1)] (wz.drewN d) fun e w' => e = .returned (.int .i32 (v2 : Int)) ∧ ∃ m, w' = (wz.drewN d).drewN m := fun d => at_int p g S W k' (l' + 1) _ _ F' (wz.drewN d) hblk2 hrow2 T3.out (by omega) (by omega) (by omega) _ hF2.out
            repeat (go_big_quiet_step (first | with_reducible exact Calls.quiet_of (AT1 _) | with_reducible exact Calls.quiet_of (AT2 _)))
            refine wpQuiet_nil ?_
            intro _ hw'
            obtain ⟨nq, hw''⟩ := hw'
            subst hw''
            go_wp2_with fail
            ·
              go_roundg l'
              case measure => rw [HG2.out, HLL.out]; omega
              case rel =>
                refine ⟨l', (l' : Int) - 1, fun r0 => if r0 = r then (v2 : Int) else F' r0, by go_num, by omega, by omega, rfl, ?_, ?_, ?_, ?_⟩
                · have h0 := HTO.out
                  rw [HLL.out] at h0
                  have h1 := GridTo.put h0 hlm (v2 : Int) (by rw [hval.out]; omega)
                  rw [HRR.out]; exact h1
                · exact (World.rowIs.set (w := wz.drewN nq) hrow2 r _).congr fun i _ => by dsimp only; split <;> rfl
                · exact (hblk2.drewN nq).far hpg _
                · exact Below.setCell (hgx2.drewN nq) (by rw [HGE.out]; exact Nat.le_refl _) _
            ·
              go_roundg l'
              case measure => rw [HG2.out, HLL.out]; omega
              case rel =>
                refine ⟨l', (l' : Int) - 1, fun r0 => if r0 = r then (v1 : Int) else F' r0, by go_num, by omega, by omega, rfl, ?_, ?_, ?_, ?_⟩
                · have h0 := HTO.out
                  rw [HLL.out] at h0
                  have h1 := GridTo.put h0 hlm (v1 : Int) (by rw [hval.out]; omega)
                  rw [HRR.out]; exact h1
                · exact (World.rowIs.set (w := wz.drewN nq) hrow2 r _).congr fun i _ => by dsimp only; split <;> rfl
                · exact (hblk2.drewN nq).far hpg _
                · exact Below.setCell (hgx2.drewN nq) (by rw [HGE.out]; exact Nat.le_refl _) _

end Go.Proofs.YtakgddochbcjbaaDoor
