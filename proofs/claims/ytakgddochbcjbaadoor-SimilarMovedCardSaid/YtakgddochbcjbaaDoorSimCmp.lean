/- cmp.Compare, cmp.Or and the comparison of similar's Renames. -/
import Derived.Test.YtakgddochbcjbaaDoorSimAlikeW
namespace Go.Proofs.YtakgddochbcjbaaDoor
open Go.RowKit Go.Deep Go.MapKept Go.Shelf

theorem bl_irrefl : ∀ x : List UInt8, Op.bytesLess x x = false
  | [] => rfl
  | a :: x => by
    rw [Op.bytesLess, bl_irrefl x]
    simp
theorem bl_trans : ∀ x y z : List UInt8, Op.bytesLess x y = true → Op.bytesLess y z = true → Op.bytesLess x z = true
  | x, [], _, h, _ => absurd h (by cases x <;> simp [Op.bytesLess])
  | _, _ :: _, [], _, h => absurd h (by simp [Op.bytesLess])
  | [], _ :: _, _ :: _, _, _ => by simp [Op.bytesLess]
  | a :: x, b :: y, c :: z, h1, h2 => by
    simp only [Op.bytesLess, Bool.or_eq_true, Bool.and_eq_true, decide_eq_true_eq, beq_iff_eq] at h1 h2 ⊢
    rcases h1 with h1 | ⟨rfl, h1⟩
    · rcases h2 with h2 | ⟨rfl, h2⟩
      · exact .inl (UInt8.lt_trans h1 h2)
      · exact .inl h1
    · rcases h2 with h2 | ⟨rfl, h2⟩
      · exact .inl h2
      · exact .inr ⟨rfl, bl_trans x y z h1 h2⟩
theorem bl_tri : ∀ x y : List UInt8, Op.bytesLess x y = false → Op.bytesLess y x = false → x = y
  | [], [], _, _ => rfl
  | [], _ :: _, h, _ => by simp [Op.bytesLess] at h
  | _ :: _, [], _, h => by simp [Op.bytesLess] at h
  | a :: x, b :: y, h1, h2 => by
    simp only [Op.bytesLess, Bool.or_eq_false_iff, Bool.and_eq_false_iff, decide_eq_false_iff_not, beq_eq_false_iff_ne] at h1 h2
    have e : a = b := UInt8.le_antisymm (UInt8.not_lt.1 h2.1) (UInt8.not_lt.1 h1.1)
    subst e
    have e1 : Op.bytesLess x y = false := h1.2.resolve_left (fun h => h rfl)
    have e2 : Op.bytesLess y x = false := h2.2.resolve_left (fun h => h rfl)
    rw [bl_tri x y e1 e2]
/-- does a text stand ahead of another one? -/
def lessT (a b : ByteArray) : Bool := Op.bytesLess a.toList b.toList
theorem lessT_irrefl (a : ByteArray) : lessT a a = false := bl_irrefl _
theorem lessT_trans {a b c : ByteArray} (h1 : lessT a b = true) (h2 : lessT b c = true) : lessT a c = true := bl_trans _ _ _ h1 h2
theorem lessT_tri {a b : ByteArray} (h1 : lessT a b = false) (h2 : lessT b a = false) : a = b := by
  have h := bl_tri _ _ h1 h2
  have e : eqT a b = true := by rw [← eqT_list, h]; simp
  exact of_decide_eq_true e
def cmpB (a b : ByteArray) : Int := if lessT a b = true then -1 else if eqT a b = true then 0 else 1

theorem cmpS_any (a b : ByteArray) (w : World) : Calls Tryd.prog 67 #[.string a, .string b] w fun e w' => e = .returned (.int .i64 (cmpB a b)) ∧ w = w' := by
  have he := eqT_list a b
  obtain ⟨z, hz⟩ : ∃ z, z = eqT a b := ⟨_, rfl⟩
  obtain ⟨y, hy⟩ : ∃ y, y = lessT a b := ⟨_, rfl⟩
  have hy' : Op.bytesLess a.toList b.toList = y := hy.symm
  have HR := Lib.hid (show cmpB a b = if y = true then -1 else if z = true then 0 else 1 by rw [hz, hy]; rfl)
  rw [← hz] at he
  clear hz hy
  cases y with
  | true =>
    go_enter Tryd.func67, Tryd.ntmps67
    go_wp2
    go_ret
    exact ⟨by rw [HR.out]; rfl, rfl⟩
  | false =>
    cases z with
    | true =>
      go_enter Tryd.func67, Tryd.ntmps67
      go_wp2
      go_ret
      exact ⟨by rw [HR.out]; rfl, rfl⟩
    | false =>
      go_enter Tryd.func67, Tryd.ntmps67
      go_wp2
      go_ret
      exact ⟨by rw [HR.out]; rfl, rfl⟩
theorem cmpI_any (a b : Int) (w : World) : Calls Tryd.prog 68 #[.int .i64 a, .int .i64 b] w fun e w' => e = .returned (.int .i64 (Lib.compareInt a b)) ∧ w = w' := by
  have HR := Lib.hid (show Lib.compareInt a b = if a < b then -1 else if a > b then 1 else 0 from rfl)
  by_cases h1 : a < b
  · have HV := Lib.hid (show Lib.compareInt a b = -1 by rw [HR.out, if_pos h1])
    go_enter Tryd.func68, Tryd.ntmps68
    go_wp2
    go_ret
    exact ⟨by rw [HV.out]; rfl, rfl⟩
  · by_cases h2 : b < a
    · have HV := Lib.hid (show Lib.compareInt a b = 1 by rw [HR.out, if_neg h1, if_pos h2])
      go_enter Tryd.func68, Tryd.ntmps68
      go_wp2
      go_ret
      exact ⟨by rw [HV.out]; rfl, rfl⟩
    · have HV := Lib.hid (show Lib.compareInt a b = 0 by rw [HR.out, if_neg h1, if_neg (by omega)])
      go_enter Tryd.func68, Tryd.ntmps68
      go_wp2
      go_ret
      exact ⟨by rw [HV.out]; rfl, rfl⟩
/-- the first that is not nought -/
def orI (a b : Int) : Int := if a = 0 then b else a
theorem or_any (g : Nat) (a b : Int) (w : World) (h : Blk w g 3 #[.int .i64 a, .int .i64 b]) : Calls Tryd.prog 66 #[.slice (some ⟨g, 0, none⟩) 2 2] w fun e w' => e = .returned (.int .i64 (orI a b)) ∧ w = w' := by
  have hc0 := h.cell 0
  have hc1 := h.cell 1
  simp only [List.getElem?_toArray, List.getElem?_cons_succ, List.getElem?_cons_zero] at hc0 hc1
  have HR := Lib.hid (show orI a b = if a = 0 then b else a from rfl)
  clear h
  go_enter Tryd.func66, Tryd.ntmps66
  go_wp2
  go_loopg [8] 2 (fun gk q wr => w = wr ∧ ∃ k : Nat, q = .int .i64 k ∧ k ≤ 2 ∧ gk = 2 - k ∧ (0 < k → a = 0) ∧ (1 < k → b = 0))
  case atStart => exact ⟨rfl, 0, rfl, by omega, rfl, fun h => absurd h (by omega), fun h => absurd h (by omega)⟩
  case round =>
    obtain ⟨rfl, k, rfl, hk, hgk, ha, hb⟩ := hrel
    have HG := Lib.hid hgk
    clear hgk
    rcases (by omega : k = 0 ∨ k = 1 ∨ k = 2) with rfl | rfl | rfl
    · by_cases h0 : a = 0
      · go_wp2
        go_roundg 1
        case measure => rw [HG.out]; omega
        case rel => exact ⟨rfl, 1, by go_num, by omega, rfl, fun _ => h0, fun h => absurd h (by omega)⟩
      · go_wp2
        go_ret
        exact ⟨by rw [HR.out, if_neg h0]; rfl, rfl⟩
    · have ha0 := ha (by omega)
      by_cases h0 : b = 0
      · go_wp2
        go_roundg 0
        case measure => rw [HG.out]; omega
        case rel => exact ⟨rfl, 2, by go_num, by omega, rfl, fun _ => ha0, fun _ => h0⟩
      · go_wp2
        go_ret
        exact ⟨by rw [HR.out, if_pos ha0]; rfl, rfl⟩
    · have ha0 := ha (by omega)
      have hb0 := hb (by omega)
      go_wp2
      go_ret
      exact ⟨by rw [HR.out, if_pos ha0, hb0]; rfl, rfl⟩

theorem grow_three (W W2 : World) (o1 o2 o3 : Obj) (h : W2 = (W.alloc o1).alloc o2) : ∃ q os, W2.drew.alloc o3 = Go.Sort.grow (W.drewN q) os := by
  refine ⟨1, (#[o1] ++ #[o2]) ++ #[o3], ?_⟩
  have e1 : ∀ (w : World) (os : Array Obj), (Go.Sort.grow w os).drew = Go.Sort.grow w.drew os := fun _ _ => rfl
  rw [h]
  simp only [Go.Sort.alloc_eq_grow, e1, Go.Sort.grow_grow]
  rfl
/-- how two pairs compare: by the path of the first, then by its place -/
def cmpP (l : List FileB) (p q : Int × Int) : Int := orI (cmpB (fp l p.1.toNat) (fp l q.1.toNat)) (Lib.compareInt p.1 q.1)
set_option maxRecDepth 100000 in
set_option maxHeartbeats 2000000 in
theorem ren1_any (B : Nat) (W : World) (bq n c : Nat) (A : Option Addr) (l : List FileB) (i j : Nat) (x y : Int) (hb : Blk W bq 51 #[.slice A n c]) (hl : Reads W B 3 A n (fileCells l)) (hB : B ≤ W.heap.size) (hi : i < n) (hj : j < n) :
    Calls Tryd.prog 65 #[.agg #[.int .i64 i, .int .i64 x], .agg #[.int .i64 j, .int .i64 y], .pointer (some ⟨bq, 0, none⟩)] W fun e w' => e = .returned (.int .i64 (cmpP l (i, x) (j, y))) ∧ ∃ q os, w' = Go.Sort.grow (W.drewN q) os := by
  obtain ⟨W2, hW2⟩ : ∃ W2, W2 = (W.alloc (.cells #[.int .i64 i, .int .i64 x] 103)).alloc (.cells #[.int .i64 j, .int .i64 y] 103) := ⟨_, rfl⟩
  have hg2 : Grows W W2 := by rw [hW2]; exact ((Grows.refl W).alloc _).alloc _
  obtain ⟨b1, hb1⟩ : ∃ b1, b1 = W.heap.size := ⟨_, rfl⟩
  obtain ⟨b2, hb2⟩ : ∃ b2, b2 = W.heap.size + 1 := ⟨_, rfl⟩
  have hP1 : Blk W2 b1 103 #[.int .i64 i, .int .i64 x] := by rw [hW2, hb1]; exact (Blk.new _ _ _).alloc _
  have hP2 : Blk W2 b2 103 #[.int .i64 j, .int .i64 y] := by
    have := Blk.new (W.alloc (.cells #[.int .i64 i, .int .i64 x] 103)) 103 #[.int .i64 j, .int .i64 y]
    rw [hW2, hb2]
    simpa using this
  have hbq := Blk.growsF hb hg2
  have HLF := Lib.hid (hl.grows hB hg2)
  have HW2 := Lib.hid hW2
  have HB1 := Lib.hid hb1
  have HB2 := Lib.hid hb2
  have HGS := Lib.hid (grow_three W W2 _ _ (.cells #[.int .i64 (cmpB (fp l i) (fp l j)), .int .i64 (Lib.compareInt i j)] 3) hW2)
  clear hW2 hb1 hb2 hb hl
  have hgz := hg2.size
  go_enter Tryd.func65, Tryd.ntmps65
  go_wp2_with fail
  rw [← HW2.out, ← HB2.out, ← HB1.out]
  obtain ⟨a1, rfl, ha1, p0, p1, p2⟩ := HLF.out.file hi
  obtain ⟨S, hS⟩ : ∃ S : World → Prop, S = fun w' => Grows W2 w' := ⟨_, rfl⟩
  have hSb : ∀ s : SW S, Grows W2 s.w := fun s => by
    have := s.ok
    subst hS
    exact this
  have hS1 : ∀ s : SW S, s.w.cell? ⟨bq, 0, none⟩ = some (.slice (some a1) n c) := fun s => (Blk.growsF hbq (hSb s)).cell 0
  have hS2 : ∀ s : SW S, s.w.cell? ⟨b1, 0, none⟩ = some (.int .i64 i) := fun s => (Blk.growsF hP1 (hSb s)).cell 0
  have hS3 : ∀ s : SW S, s.w.cell? ⟨b2, 0, none⟩ = some (.int .i64 j) := fun s => (Blk.growsF hP2 (hSb s)).cell 0
  have hBW : B ≤ W2.heap.size := Nat.le_trans hB hg2.size
  have hS4 : ∀ s : SW S, s.w.cell? (a1.add (i * 3)) = some (.string (fp l i)) := fun s => ((HLF.out.grows hBW (hSb s)).fileAt hi).1
  have hS5 : ∀ s : SW S, s.w.cell? (a1.add (j * 3)) = some (.string (fp l j)) := fun s => ((HLF.out.grows hBW (hSb s)).fileAt hj).1
  have hS0 : S W2.drew := by rw [hS]; exact (Grows.refl W2).drew
  have hSi : ∀ w', Grows W2 w' → S w' := by rw [hS]; exact fun _ h => h
  clear hS hSb p0 p1 p2
  haveI : Nonempty (SW S) := ⟨⟨_, hS0⟩⟩
  have i0 : (0 : Int) ≤ i := by omega
  have i1 : (i : Int) < n := by omega
  have j0 : (0 : Int) ≤ j := by omega
  have j1 : (j : Int) < n := by omega
  refine wp_region_seq S [([0, 1, 2, 3, 4, 5, 6, 7, 8, 9, 10, 11, 13, 14, 15, 16], 12), ([], 17), ([], 18), ([], 19)] [20] [] (by kernel_rfl) (fun _ _ _ _ _ h => h) (by kernel_rfl) hS0 ?_
  simp only [pickS, pickT, pickL, List.map_cons, List.map_nil, List.filterMap_cons, List.filterMap_nil, List.getElem?_cons_zero, List.getElem?_cons_succ]
  refine wpSeq_consK fun K2 hK2 K hK => ?_
  repeat (show wpQuiet _ _ _ _ (_ :: _) _; go_big_quiet_step (fail))
  refine wpQuiet_nil (hK _ ?_)
  clear hK K
  show wpList _ _ _ [_] _ _
  go_wp2_with fail
  refine (cmpS_any (fp l i) (fp l j) W2.drew).mono ?_
  rintro e _ ⟨rfl, rfl⟩
  go_wp2_with fail
  refine hK2.out _ _ hS0 ?_
  clear hK2 K2
  refine wpSeq_consK fun K2 hK2 K hK => ?_
  repeat (show wpQuiet _ _ _ _ (_ :: _) _; go_big_quiet_step (fail))
  refine wpQuiet_nil (hK _ ?_)
  clear hK K
  show wpList _ _ _ [_] _ _
  go_wp2_with fail
  refine (cmpI_any i j W2.drew).mono ?_
  rintro e _ ⟨rfl, rfl⟩
  go_wp2_with fail
  refine hK2.out _ _ hS0 ?_
  clear hK2 K2
  refine wpSeq_consK fun K2 hK2 K hK => ?_
  refine wpQuiet_nil (hK _ ?_)
  clear hK K
  show wpList _ _ _ [_] _ _
  go_wp2_with fail
  have hgr : Grows W2 (W2.alloc (.cells #[.int .i64 (cmpB (fp l i) (fp l j)), .int .i64 (Lib.compareInt i j)] 3)).drew := ((Grows.refl W2).alloc _).drew
  have hrow : Blk (W2.alloc (.cells #[.int .i64 (cmpB (fp l i) (fp l j)), .int .i64 (Lib.compareInt i j)] 3)).drew W2.heap.size 3 #[.int .i64 (cmpB (fp l i) (fp l j)), .int .i64 (Lib.compareInt i j)] := (Blk.new W2 3 _).drew
  have HGS2 := Lib.hid (show ∃ q os, (W2.alloc (.cells #[.int .i64 (cmpB (fp l i) (fp l j)), .int .i64 (Lib.compareInt i j)] 3)).drew = Go.Sort.grow (W.drewN q) os from HGS.out)
  have hS3' := hSi _ hgr
  generalize (W2.alloc (.cells #[.int .i64 (cmpB (fp l i) (fp l j)), .int .i64 (Lib.compareInt i j)] 3)).drew = W5 at hgr hrow HGS2 hS3' ⊢
  refine hK2.out _ _ hS3' ?_
  clear hK2 K2
  refine wpSeq_consK fun K2 hK2 K hK => ?_
  refine wpQuiet_nil (hK _ ?_)
  clear hK K
  show wpList _ _ _ [_] _ _
  have hor := or_any W2.heap.size (cmpB (fp l i) (fp l j)) (Lib.compareInt i j) W5 hrow
  go_wp2_with fail
  refine hor.mono ?_
  rintro e _ ⟨rfl, rfl⟩
  go_wp2_with fail
  refine hK2.out _ _ hS3' ?_
  clear hK2 K2
  refine wpSeq_nil (wpRest_K fun K hK => ?_)
  repeat (show wpQuiet _ _ _ _ (_ :: _) _; go_big_quiet_step (fail))
  refine wpQuiet_nil (hK _ ?_)
  clear hK K
  refine wpSegs_nil ?_
  go_wp2_with fail
  obtain ⟨q, os, e⟩ := HGS2.out
  go_ret
  exact ⟨rfl, q, os, e⟩
end Go.Proofs.YtakgddochbcjbaaDoor
