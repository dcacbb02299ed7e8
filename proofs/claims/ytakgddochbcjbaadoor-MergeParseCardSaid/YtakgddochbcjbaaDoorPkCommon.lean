/- What two lists have in common: package diff's answer. -/
import Derived.Test.YtakgddochbcjbaaDoorPkGrid
namespace Go.Proofs.YtakgddochbcjbaaDoor
open Go.RowKit Go.Deep Go.MapKept

theorem Reads.takeS {w : World} {B n k : Nat} {A : Option Addr} {xs : List ByteArray} (h : Reads w B 1 A n (strs xs)) (hk : k ≤ n) : Reads w B 1 A k (strs (xs.take k)) := by
  have hl := h.strLen
  refine ⟨by simp [strs]; omega, fun h0 => ?_⟩
  obtain ⟨ad, e, hb, hc⟩ := h.2 (by omega)
  refine ⟨ad, e, hb, fun j u hu => hc j u ?_⟩
  rw [strs, List.map_take, List.getElem?_take] at hu
  split at hu
  · exact hu
  · cases hu
theorem Reads.dropS {w : World} {B n k c : Nat} {A : Option Addr} {xs : List ByteArray} (h : Reads w B 1 A n (strs xs)) (hk : k ≤ n) (hc : n ≤ c) : Reads w B 1 (if c = k then A else A.map (·.add k)) (n - k) (strs (xs.drop k)) := by
  have := h.cut (k := k) (cap := c) hk hc
  rw [Nat.mul_one] at this
  rw [strs, List.map_drop]
  exact this

theorem lcs_strip {xs ys : List ByteArray} {k : Nat} (h : xs.take k = ys.take k) (hk : k ≤ xs.length) : lcs xs ys = k + lcs (xs.drop k) (ys.drop k) := by
  have h1 := lcs_front (xs.take k) (xs.drop k) (ys.drop k)
  rw [List.take_append_drop, h, List.take_append_drop, ← h, List.length_take] at h1
  rw [h1]; omega
theorem lcs_strip_end {xs ys : List ByteArray} {n m e : Nat} (hx : xs.length = n) (hn : e ≤ n) (h : xs.drop (n - e) = ys.drop (m - e)) : lcs xs ys = lcs (xs.take (n - e)) (ys.take (m - e)) + e := by
  have h1 := lcs_back (xs.take (n - e)) (ys.take (m - e)) (xs.drop (n - e))
  rw [List.take_append_drop, h, List.take_append_drop, ← h, List.length_drop] at h1
  rw [h1]; omega

theorem row_drewN {w : World} {b : Nat} {t : TypeId} {n : Nat} {f : Nat → Value} (h : w.rowIs b t n f) (d : Nat) : (w.drewN d).rowIs b t n f := h

set_option maxRecDepth 100000 in
set_option maxHeartbeats 4000000 in
set_option maxRecDepth 100000 in
theorem common_any (B B' : Nat) (A A' : Option Addr) (n m c c' : Nat) (xs ys : List ByteArray) (w : World) (hx : Reads w B 1 A n (strs xs)) (hy : Reads w B' 1 A' m (strs ys)) (hB : B ≤ w.heap.size) (hB' : B' ≤ w.heap.size) (hn : n ≤ 1000000) (hm : m ≤ 1000000) (hc : n ≤ c) (hc' : m ≤ c') (hcM : c ≤ maxLen) (hcM' : c' ≤ maxLen) :
    Calls Tryd.prog 60 #[.slice A n c, .slice A' m c'] w fun e w' => e = .returned (.int .i64 (lcs xs ys : Nat)) ∧ Grows w w' := by
  have hML : n ≤ maxLen := by unfold maxLen; omega
  have hML' : m ≤ maxLen := by unfold maxLen; omega
  have HLx := Lib.hid hx.strLen
  have HLy := Lib.hid hy.strLen
  have HX := Lib.hid hx; clear hx
  have HY := Lib.hid hy; clear hy
  obtain ⟨t0, hi0, hz0, hz1, hz2⟩ := info_parts Tryd.infoI32
  go_enter Tryd.func60, Tryd.ntmps60
  go_wp2_with fail
  have HB0 := Lib.hid (beg_le xs ys)
  have HBT := Lib.hid (beg_take xs ys)
  have HBE := Lib.hid (begin_any B B' A A' n m c c' xs ys w HX.out HY.out hML hML')
  obtain ⟨k, hk⟩ : ∃ k, k = beg xs ys := ⟨_, rfl⟩
  rw [← hk] at HB0 HBT HBE
  have HK := Lib.hid hk
  clear hk
  refine HBE.out.mono ?_
  rintro e w1 ⟨rfl, d1, rfl⟩
  have hk1 : k ≤ n := by have := HB0.out; rw [HLx.out] at this; exact this.1
  have hk2 : k ≤ m := by have := HB0.out; rw [HLy.out] at this; exact this.2
  clear HBE
  have k0 : (0 : Int) ≤ k := by omega
  have k1 : (k : Int) ≤ n := by omega
  have k2 : (k : Int) ≤ m := by omega
  have k3 : (n : Int) ≤ c := by omega
  have k4 : (m : Int) ≤ c' := by omega
  go_wp2_with fail
  go_quiet (fail)
  have HX1 := Lib.hid (HX.out.dropS hk1 hc)
  have HY1 := Lib.hid (HY.out.dropS hk2 hc')
  have HLC := Lib.hid (lcs_strip HBT.out HB0.out.1)
  clear HBT HB0 HK HX HY
  generalize (if c = k then A else Option.map (fun x => x.add k) A) = A1 at HX1 ⊢
  generalize (if c' = k then A' else Option.map (fun x => x.add k) A') = A1' at HY1 ⊢
  obtain ⟨n1, hn1⟩ : ∃ n1, n1 = n - k := ⟨_, rfl⟩
  obtain ⟨m1, hm1⟩ : ∃ m1, m1 = m - k := ⟨_, rfl⟩
  rw [← hn1] at HX1 ⊢
  rw [← hm1] at HY1 ⊢
  obtain ⟨c1, hc1⟩ : ∃ c1, c1 = c - k := ⟨_, rfl⟩
  obtain ⟨c1', hc1'⟩ : ∃ c1', c1' = c' - k := ⟨_, rfl⟩
  rw [← hc1, ← hc1']
  have hnc1 : n1 ≤ c1 := by omega
  have hmc1 : m1 ≤ c1' := by omega
  have hn1M : n1 ≤ 1000000 := by omega
  have hm1M : m1 ≤ 1000000 := by omega
  have hc1M : c1 ≤ maxLen := by omega
  have hc1M' : c1' ≤ maxLen := by omega
  have hML1 : n1 ≤ maxLen := by omega
  have hML1' : m1 ≤ maxLen := by omega
  have hkS : k ≤ 1000000 := by omega
  clear hn1 hm1 hc1 hc1' k1 k2 k3 k4 hc hc' hcM hcM' hML hML'
  have HL1 := Lib.hid HX1.out.strLen
  have HL1' := Lib.hid HY1.out.strLen
  generalize xs.drop k = xs1 at HX1 HLC HL1
  generalize ys.drop k = ys1 at HY1 HLC HL1'
  go_wp2_with fail
  refine (end_any B B' A1 A1' n1 m1 c1 c1' xs1 ys1 (w.drewN (d1 + nq)) HX1.out HY1.out hML1 hML1').mono ?_
  rintro e w2 ⟨e, rfl, ⟨he1, he2, he3⟩, d2, rfl⟩
  have e0 : (0 : Int) ≤ e := by omega
  have HLE := Lib.hid (lcs_strip_end HL1.out he1 he3)
  clear he3
  obtain ⟨n2, hn2⟩ : ∃ n2, n2 = n1 - e := ⟨_, rfl⟩
  obtain ⟨m2, hm2⟩ : ∃ m2, m2 = m1 - e := ⟨_, rfl⟩
  have a1 : IntKind.i64.wrap ((n1 : Int) - (e : Int)) = (n2 : Int) := by rw [wrap_small (by omega) (by omega)]; omega
  have a2 : IntKind.i64.wrap ((m1 : Int) - (e : Int)) = (m2 : Int) := by rw [wrap_small (by omega) (by omega)]; omega
  rw [← hn2, ← hm2] at HLE
  have hn2n : n2 ≤ n1 := by omega
  have hm2m : m2 ≤ m1 := by omega
  have b0 : (0 : Int) ≤ n2 := by omega
  have b1 : (0 : Int) ≤ m2 := by omega
  have b2 : (n2 : Int) ≤ c1 := by omega
  have b3 : (m2 : Int) ≤ c1' := by omega
  clear hn2 hm2
  obtain ⟨wz, hwz⟩ : ∃ wz : World, wz = (w.drewN (d1 + nq)).drewN d2 := ⟨_, rfl⟩
  have hg0 : Grows w wz := by rw [hwz]; exact ((Grows.refl w).drewN _).drewN _
  rw [← hwz]
  clear hwz
  go_wp2_with fail
  go_quiet (fail)
  have hg1 : Grows w (wz.drewN nq) := hg0.drewN _
  generalize wz.drewN nq = w3 at hg1 ⊢
  have HX2 := Lib.hid (HX1.out.takeS hn2n)
  have HY2 := Lib.hid (HY1.out.takeS hm2m)
  have hL2 := HX2.out.strLen
  have hL2' := HY2.out.strLen
  generalize xs1.take n2 = X at HX2 HLE hL2
  generalize ys1.take m2 = Y at HY2 HLE hL2'
  have HL2 := Lib.hid hL2
  have HL2' := Lib.hid hL2'
  clear hL2 hL2' HX1 HY1 HL1 HL1' a1 a2 b2 b3
  have hn2M : n2 ≤ 1000000 := by omega
  have hm2M : m2 ≤ 1000000 := by omega
  have heM : e ≤ 1000000 := by omega
  obtain ⟨M, hM⟩ : ∃ M, M = m2 + 1 := ⟨_, rfl⟩
  have HM := Lib.hid (show ((m2 : Int) + 1) = (M : Int) by omega)
  have HMN := Lib.hid hM
  have hMM : M ≤ 1000001 := by omega
  clear hM
  go_wp2_with (at_make; refine wpList_make_row _ rfl (.tmp 37) (.tmp 37) 139 rfl 21 t0 (.int .i32 0) Tryd.underlying139 hi0 hz0 hz1 rfl .i64 .i64 M (congrArg (Value.int .i64) HM.out) (congrArg (Value.int .i64) HM.out) (by rw [hz2]; omega) (by omega) ?_)
  have hrow0 : (w3.alloc (.cells (madeCells #[.int .i32 0] M) 21)).rowIs w3.heap.size 21 M (fun _ => .int .i32 0) := World.rowIs_made w3 _ _ _
  have hg2 : Grows w (w3.alloc (.cells (madeCells #[.int .i32 0] M) 21)) := hg1.alloc _
  have hG0 : w.heap.size ≤ w3.heap.size := hg1.size
  generalize w3.heap.size = G0 at hrow0 hG0 ⊢
  generalize (w3.alloc (.cells (madeCells #[.int .i32 0] M) 21)) = w4 at hrow0 hg2 ⊢
  go_loopg [7, 8] n2 (fun gk last q wr => ∃ (k : Nat) (z : Int) (G : Nat) (F : Nat → Int), last = .slice (some ⟨G, 0, none⟩) M M ∧ q = .int .i64 z ∧ z + 1 = k ∧ k ≤ n2 ∧ gk = k ∧ (∀ j, j ≤ m2 → F j = (lcsAt X Y k j : Nat)) ∧ wr.rowIs G 21 M (fun i => .int .i32 (F i)) ∧ w.heap.size ≤ G ∧ Grows w wr)
  case atStart =>
    exact ⟨n2, (n2 : Int) - 1, G0, fun _ => 0, rfl, rfl, by omega, by omega, rfl, fun j _ => by rw [lcsAt_end (.inl (by rw [HL2.out]; omega))]; rfl, hrow0, hG0, hg2⟩
  case round =>
    clear hrow0 hg2 hG0
    obtain ⟨i, z, G, F, rfl, rfl, hz, hi, hgk, hF, hrow, hG, hgr⟩ := hrel
    have HG := Lib.hid hgk; clear hgk
    have HF := Lib.hid hF; clear hF
    by_cases hi0' : i = 0
    · have hz' : z = -1 := by omega
      subst hz'
      have HF0 := Lib.hid (HF.out 0 (by omega))
      obtain ⟨v, hv⟩ : ∃ v : Nat, v = lcsAt X Y i 0 := ⟨_, rfl⟩
      rw [← hv] at HF0
      have hvl : v ≤ n2 := by have := lcsAt_le (xs := X) (ys := Y) (i := i) (j := 0); rw [HL2.out] at this; omega
      have HV := Lib.hid hv
      have HI0 := Lib.hid hi0'
      clear hv hi0' hz
      have hcl := hrow.cell (i := 0) (by rw [HMN.out]; omega)
      rw [HF0.out] at hcl
      have hMpos : (0 : Int) < M := by have := HMN.out; omega
      go_wp2
      go_ret
      refine ⟨?_, hgr⟩
      have h1 := HLC.out
      have h2 := HLE.out
      have h3 := HV.out
      rw [HI0.out] at h3
      have h4 : lcsAt X Y 0 0 = lcs X Y := rfl
      have h5 : (lcs xs ys : Int) = (k : Int) + (e : Int) + (v : Int) := by omega
      exact ret_int (by omega)
    · obtain ⟨i', hi'⟩ : ∃ i', i = i' + 1 := ⟨i - 1, by omega⟩
      have hz' : z = (i' : Int) := by omega
      subst hz'
      have HK := Lib.hid hi'
      have hkn : i' < n2 := by omega
      clear hz hi0' hi'
      go_wp2_with (at_make; refine wpList_make_row _ rfl (.tmp 48) (.tmp 48) 139 rfl 21 t0 (.int .i32 0) Tryd.underlying139 hi0 hz0 hz1 rfl .i64 .i64 M (congrArg (Value.int .i64) HM.out) (congrArg (Value.int .i64) HM.out) (by rw [hz2]; omega) (by omega) ?_)
      have hrow0 : (wr.alloc (.cells (madeCells #[.int .i32 0] M) 21)).rowIs wr.heap.size 21 M (fun _ => .int .i32 0) := World.rowIs_made wr _ _ _
      have hrow' : (wr.alloc (.cells (madeCells #[.int .i32 0] M) 21)).rowIs G 21 M (fun i => .int .i32 (F i)) := hrow.alloc _
      have hgr' : Grows w (wr.alloc (.cells (madeCells #[.int .i32 0] M) 21)) := hgr.alloc _
      have hR : w.heap.size ≤ wr.heap.size := hgr.size
      have hRG : G ≠ wr.heap.size := Nat.ne_of_lt hrow.lt
      clear hrow hgr
      generalize wr.heap.size = R at hrow0 hR hRG ⊢
      generalize (wr.alloc (.cells (madeCells #[.int .i32 0] M) 21)) = wo at hrow0 hrow' hgr' ⊢
      go_loopg [10] m2 (fun gk q wx => ∃ (l : Nat) (y : Int) (F' : Nat → Int), q = .int .i64 y ∧ y + 1 = l ∧ l ≤ m2 ∧ gk = l ∧ (∀ j, l ≤ j → j ≤ m2 → F' j = (lcsAt X Y i' j : Nat)) ∧ wx.rowIs R 21 M (fun i => .int .i32 (F' i)) ∧ wx.rowIs G 21 M (fun i => .int .i32 (F i)) ∧ Grows w wx)
      case atStart => exact ⟨m2, (m2 : Int) - 1, fun _ => 0, rfl, by omega, by omega, rfl, fun j h1 h2 => by rw [lcsAt_end (.inr (by rw [HL2'.out]; omega))]; rfl, hrow0, hrow', hgr'⟩
      case round =>
        clear hrow0 hrow' hgr'
        obtain ⟨l, y, F', rfl, hy, hl, hgk, hF', hrow, hrowG, hgx⟩ := hrel
        have HG2 := Lib.hid hgk; clear hgk
        have HF' := Lib.hid hF'; clear hF'
        by_cases hl0 : l = 0
        · have hy' : y = -1 := by omega
          subst hy'
          have HL0 := Lib.hid hl0
          go_wp2
          go_roundg i'
          case measure => rw [HG.out, HK.out]; omega
          case rel => exact ⟨i', (i' : Int) - 1, R, F', rfl, by go_num, by omega, by omega, rfl, fun j hj => HF'.out j (by rw [HL0.out]; omega) hj, hrow, hR, hgx⟩
        · obtain ⟨l', hl'⟩ : ∃ l', l = l' + 1 := ⟨l - 1, by omega⟩
          have hy' : y = (l' : Int) := by omega
          subst hy'
          have HLL := Lib.hid hl'
          have hlm : l' < m2 := by omega
          clear hy hl0 hl'
          obtain ⟨ad, rfl, had, hc⟩ := ((HX2.out.grows hB hgx)).str hkn
          obtain ⟨ad', rfl, had', hc'⟩ := ((HY2.out.grows hB' hgx)).str hlm
          have i0 : (0 : Int) ≤ i' := by omega
          have i1 : (i' : Int) < n2 := by omega
          have j0 : (0 : Int) ≤ l' := by omega
          have j1 : (l' : Int) < m2 := by omega
          have j2 : (l' : Int) < M := by have := HMN.out; omega
          have j3 : (l' : Int) + 1 < M := by have := HMN.out; omega
          have hk5 : i' < X.length := by rw [HL2.out]; exact hkn
          have hl5 : l' < Y.length := by rw [HL2'.out]; exact hlm
          have HK5 := Lib.hid hk5
          have HL5 := Lib.hid hl5
          clear hk5 hl5
          have hl6 : l' < M := by omega
          have hl7 : l' + 1 < M := by omega
          cases he : ((gs X i').toList == (gs Y l').toList) with
          | true =>
            have hval := Lib.hid (lcsAt_eq HK5.out HL5.out he)
            have hle := lcsAt_le (xs := X) (ys := Y) (i := i' + 1) (j := l' + 1)
            rw [HL2.out] at hle
            have hF1 := Lib.hid (show F (l' + 1) = (lcsAt X Y (i' + 1) (l' + 1) : Nat) by have := HF.out (l' + 1) (by omega); rw [HK.out] at this; exact this)
            obtain ⟨v, hv⟩ : ∃ v : Nat, v = lcsAt X Y (i' + 1) (l' + 1) := ⟨_, rfl⟩
            rw [← hv] at hval hF1 hle
            clear hv
            go_wp2
            go_quiet (fail)
            have hrow2 : (wr.drewN nq).rowIs R 21 M (fun i => .int .i32 (F' i)) := hrow
            have hrowG2 : (wr.drewN nq).rowIs G 21 M (fun i => .int .i32 (F i)) := hrowG
            have hgx2 : Grows w (wr.drewN nq) := hgx.drewN nq
            clear hrow hrowG hgx hc hc'
            generalize wr.drewN nq = wz at hrow2 hrowG2 hgx2 ⊢
            have HRW := Lib.hid hrow2
            have HRG := Lib.hid hrowG2
            clear hrow2 hrowG2
            have hcG := HRG.out.cell hl7
            rw [hF1.out] at hcG
            have hcR := HRW.out.cell hl6
            have hfr := HRW.out.frozen l'
            go_wp2
            have hrowR := HRW.out
            have hrowG := HRG.out
            have hgx := hgx2
            go_roundg l'
            case measure => rw [HG2.out, HLL.out]; omega
            case rel =>
              refine ⟨l', (l' : Int) - 1, fun r0 => if r0 = l' then (((v : Int) + 1) : Int) else F' r0, by go_num, by omega, by omega, rfl, ?_, ?_, ?_, ?_⟩
              · intro j h1 h2
                dsimp only
                by_cases hj : j = l'
                · subst hj; rw [if_pos rfl, hval.out]; omega
                · rw [if_neg hj]; exact HF'.out j (by rw [HLL.out]; omega) h2
              · exact (World.rowIs.set hrowR l' _).congr fun i _ => by dsimp only; split <;> rfl
              · exact hrowG.setOther hRG _
              · exact Below.setCell hgx hR _
          | false =>
            have hval := Lib.hid (lcsAt_ne HK5.out HL5.out he)
            have hle1 := lcsAt_le (xs := X) (ys := Y) (i := i' + 1) (j := l')
            have hle2 := lcsAt_le (xs := X) (ys := Y) (i := i') (j := l' + 1)
            rw [HL2.out] at hle1 hle2
            have hF1 := Lib.hid (show F l' = (lcsAt X Y (i' + 1) l' : Nat) by have := HF.out l' (by omega); rw [HK.out] at this; exact this)
            have hF2 := Lib.hid (show F' (l' + 1) = (lcsAt X Y i' (l' + 1) : Nat) from HF'.out (l' + 1) (by rw [HLL.out]; exact Nat.le_refl _) (by omega))
            obtain ⟨v1, hv1⟩ : ∃ v1 : Nat, v1 = lcsAt X Y (i' + 1) l' := ⟨_, rfl⟩
            obtain ⟨v2, hv2⟩ : ∃ v2 : Nat, v2 = lcsAt X Y i' (l' + 1) := ⟨_, rfl⟩
            rw [← hv1] at hval hF1 hle1
            rw [← hv2] at hval hF2 hle2
            clear hv1 hv2
            go_wp2
            go_quiet (fail)
            have hrow2 : (wr.drewN nq).rowIs R 21 M (fun i => .int .i32 (F' i)) := hrow
            have hrowG2 : (wr.drewN nq).rowIs G 21 M (fun i => .int .i32 (F i)) := hrowG
            have hgx2 : Grows w (wr.drewN nq) := hgx.drewN nq
            clear hrow hrowG hgx hc hc'
            generalize wr.drewN nq = wz at hrow2 hrowG2 hgx2 ⊢
            have HRW := Lib.hid hrow2
            have HRG := Lib.hid hrowG2
            clear hrow2 hrowG2
            have hcG := HRG.out.cell hl6
            rw [hF1.out] at hcG
            have hcR2 := HRW.out.cell hl7
            rw [hF2.out] at hcR2
            have hcR := HRW.out.cell hl6
            have hfr := HRW.out.frozen l'
            go_wp2_with fail
            refine wp_region_quiet_tail 13 (by kernel_rfl) (by kernel_rfl) ?_
            simp only [List.take_succ_cons, List.take_zero, List.drop_succ_cons, List.drop_zero]
            repeat (go_big_quiet_step (fail))
            refine wpQuiet_nil ?_
            intro _ hw'
            obtain ⟨nq, hw''⟩ := hw'
            subst hw''
            go_wp2_with fail
            ·
              have hrowR := row_drewN HRW.out nq
              have hrowG := row_drewN HRG.out nq
              have hgx := hgx2.drewN nq
              go_roundg l'
              case measure => rw [HG2.out, HLL.out]; omega
              case rel =>
                refine ⟨l', (l' : Int) - 1, fun r0 => if r0 = l' then (v2 : Int) else F' r0, by go_num, by omega, by omega, rfl, ?_, ?_, ?_, ?_⟩
                · intro j h1 h2
                  dsimp only
                  by_cases hj : j = l'
                  · subst hj; rw [if_pos rfl, hval.out]; omega
                  · rw [if_neg hj]; exact HF'.out j (by rw [HLL.out]; omega) h2
                · exact (World.rowIs.set hrowR l' _).congr fun i _ => by dsimp only; split <;> rfl
                · exact hrowG.setOther hRG _
                · exact Below.setCell hgx hR _
            ·
              have hrowR := row_drewN HRW.out nq
              have hrowG := row_drewN HRG.out nq
              have hgx := hgx2.drewN nq
              go_roundg l'
              case measure => rw [HG2.out, HLL.out]; omega
              case rel =>
                refine ⟨l', (l' : Int) - 1, fun r0 => if r0 = l' then (v1 : Int) else F' r0, by go_num, by omega, by omega, rfl, ?_, ?_, ?_, ?_⟩
                · intro j h1 h2
                  dsimp only
                  by_cases hj : j = l'
                  · subst hj; rw [if_pos rfl, hval.out]; omega
                  · rw [if_neg hj]; exact HF'.out j (by rw [HLL.out]; omega) h2
                · exact (World.rowIs.set hrowR l' _).congr fun i _ => by dsimp only; split <;> rfl
                · exact hrowG.setOther hRG _
                · exact Below.setCell hgx hR _

end Go.Proofs.YtakgddochbcjbaaDoor
