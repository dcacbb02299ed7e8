/- LinesParts: the walk. -/
import Derived.Test.YtmfgbkbbmeedjaaDoorLinesEnds
namespace Go.Proofs.YtmfgbkbbmeedjaaDoor
open Go.RowKit Go.Deep Go.MapKept

/-- texts, a line's end behind each -/
def allB (l : List ByteArray) : List UInt8 := (l.map (fun x => x.data.toList ++ [10])).flatten
def allT (l : List ByteArray) : ByteArray := tx (allB l)
theorem allB_app (l m : List ByteArray) : allB (l ++ m) = allB l ++ allB m := by simp [allB]
theorem allB_end : ∀ l : List ByteArray, l ≠ [] → ∃ u, allB l = u ++ [10] := by
  intro l h
  obtain ⟨l', x, rfl⟩ : ∃ l' x, l = l' ++ [x] := ⟨l.dropLast, l.getLast h, (List.dropLast_concat_getLast h).symm⟩
  refine ⟨allB l' ++ x.data.toList, ?_⟩
  rw [allB_app]
  simp [allB]
theorem lnL_allB (l : List ByteArray) (x : ByteArray) : lnL (allB (l ++ [x])) = lnL (allB l) ++ lnL (x.data.toList ++ [10]) := by
  have e : allB [x] = x.data.toList ++ [10] := by simp [allB]
  rw [allB_app, e]
  rcases List.eq_nil_or_concat l with rfl | ⟨l', y, rfl⟩
  · rw [show allB [] = [] from rfl, lnL_nil]; rfl
  · obtain ⟨u, hu⟩ := allB_end (l' ++ [y]) (by simp)
    rw [List.concat_eq_append, hu, List.append_assoc, List.singleton_append, lnL_app]
/-- the first k -/
def allK (l : List ByteArray) (k : Nat) : ByteArray := allT (l.take k)
theorem take_gs {l : List ByteArray} {k : Nat} (h : k < l.length) : l.take (k + 1) = l.take k ++ [gs l k] := by
  rw [List.take_succ_eq_append_getElem h, gs_def, List.getD_eq_getElem?_getD, List.getElem?_eq_getElem h]; rfl
theorem allK_succ {l : List ByteArray} {k : Nat} (h : k < l.length) : allK l (k + 1) = allK l k ++ (gs l k ++ { data := #[10] }) := by
  rw [allK, allK, take_gs h, allT, allT, allB_app]
  apply ByteArray.ext
  rw [ByteArray.data_append, ByteArray.data_append]
  simp [tx, allB]
theorem lines_allK {l : List ByteArray} {k : Nat} (h : k < l.length) : linesT (allK l (k + 1)) = linesT (allK l k) ++ linesT (gs l k ++ { data := #[10] }) := by
  rw [linesT, linesT, linesT, allK, allK, take_gs h, allT, allT, data_tx, data_tx, lnL_allB, List.map_append, ByteArray.data_append, Array.toList_append]
theorem good_e : goodT [ByteArray.empty] = false := by kernel_rfl
theorem good_ab : goodT [lA, lB] = false := by kernel_rfl

set_option maxRecDepth 100000 in
set_option maxHeartbeats 2000000 in
theorem lparts_any (B : Nat) (A : Option Addr) (n c : Nat) (l : List ByteArray) (w : World) (hx : Reads w B 1 A n (strs l)) (hB : B ≤ w.heap.size) (hm : MaxL w) : Calls Tryd.prog 10 #[.slice A n c] w fun e w' => e = .returned (.bool true) ∧ Grows w w' := by
  have HL := Lib.hid hx.strLen
  have HX := Lib.hid hx; clear hx
  by_cases ha : 20 < n
  · have k1 : (n : Int) > 20 := by omega
    go_enter Tryd.func10, Tryd.ntmps10
    go_wp2_with fail
    refine (lawake_any w hm).mono ?_
    rintro e w1 ⟨rfl, hg⟩
    go_wp2_with fail
    go_ret
    exact ⟨rfl, hg⟩
  have k1 : ¬ ((n : Int) > 20) := by omega
  obtain ⟨s0, hs0, hs1, hs2, hs3⟩ := info_parts Tryd.infoStr
  go_enter Tryd.func10, Tryd.ntmps10
  go_wp2_with fail
  go_loopg [5, 4, 3] n (fun gk q v a wr => ∃ (k : Nat), q = .int .i64 k ∧ k ≤ n ∧ gk = n - k ∧ a = .string (allK l k) ∧ (allK l k).size ≤ k * 101 ∧ wr.ownsRow w.heap.size 9 1 v (linesT (allK l k)).length (strs (linesT (allK l k))) ∧ Grows w wr)
  case atStart => exact ⟨0, rfl, by omega, rfl, rfl, Nat.le_refl 0, World.ownsRow_nil _ _ _ _, Grows.refl _⟩
  case round =>
    obtain ⟨k, rfl, hk, hgk, rfl, hsz, hown, hgr⟩ := hrel
    have HG := Lib.hid hgk; clear hgk
    by_cases hlt : k < n
    · obtain ⟨ad, rfl, had, p0⟩ := (HX.out.grows hB hgr).str hlt
      have k2 : (0 : Int) ≤ k := by omega
      have k3 : (k : Int) < n := by omega
      have hlk := Lib.hid (lines_allK (l := l) (k := k) (by rw [HL.out]; exact hlt))
      have hak := Lib.hid (allK_succ (l := l) (k := k) (by rw [HL.out]; exact hlt))
      obtain ⟨x, hx⟩ : ∃ x, gs l k = x := ⟨_, rfl⟩
      rw [hx] at p0 hlk hak
      clear hx
      by_cases hx : 100 < x.size
      · have x1 : (x.size : Int) > 100 := by omega
        go_wp2_with fail
        refine (lawake_any wr (hm.grows hgr)).mono ?_
        rintro e w1 ⟨rfl, hg⟩
        go_wp2_with fail
        go_ret
        exact ⟨rfl, hgr.trans hg⟩
      · have x1 : ¬ ((x.size : Int) > 100) := by omega
        have hnl : ({ data := #[10] } : ByteArray).size = 1 := rfl
        have zn : (x ++ { data := #[10] } : ByteArray).size ≤ 101 := by rw [ByteArray.size_append]; omega
        have zk : (allK l k).size ≤ 2020 := by
          have : k * 101 ≤ 20 * 101 := Nat.mul_le_mul_right _ (by omega)
          omega
        go_wp2_with fail
        refine (split_any _ wr (hm.grows hgr) (Nat.lt_of_le_of_lt zn (by decide))).mono ?_
        rintro e w1 ⟨v, rfl, g, c1, rfl, _, _, hr1, hg1⟩
        have zl := lines_len (x ++ { data := #[10] })
        have zl2 := lines_len (allK l k)
        have hown1 := own_grows hown hg1
        have hg1' := hgr.trans hg1
        have hsz1 := hg1'.size
        obtain ⟨L1, hL1⟩ : ∃ L1, linesT (x ++ { data := #[10] }) = L1 := ⟨_, rfl⟩
        obtain ⟨L0, hL0⟩ : ∃ L0, linesT (allK l k) = L0 := ⟨_, rfl⟩
        rw [hL1] at hr1 zl hlk ⊢
        rw [hL0] at hown1 zl2 hlk
        have hL := Lib.hid hlk.out
        clear hL1 hL0 hlk hown hg1
        go_wp2_with (at_builtin; refine wpList_append_any _ rfl (.tmp 32) (.tmp 34) _ rfl w.heap.size 9 s0 _ 1 16 Tryd.underlying22 hs0 hs1 hs2 hs3 rfl (by decide) _ _ _ rfl hown1 _ _ _ _ _ rfl hr1 (strs_oneCell _) (by simp only [maxLen]; omega) (by omega) hsz1 ?_; intro v2 w2 hown2 hgb2 hor2; have hg2 : Grows w w2 := Below.grown hg1' hgb2 hsz1 (fun k hk => (hown1.lt k hk).1))
        go_roundg (n - (k + 1))
        case measure => rw [HG.out]; omega
        case rel =>
          refine ⟨k + 1, by go_num, by omega, rfl, by rw [hak.out], ?_, ?_, hg2⟩
          · rw [hak.out, ByteArray.size_append]; omega
          · rw [hL.out, strs_append, List.length_append]; exact hown2
    · have hkn : k = n := by omega
      subst hkn
      have k3 : ¬ ((k : Int) < k) := by omega
      have zk : (allK l k).size ≤ 2020 := by
        have : k * 101 ≤ 20 * 101 := Nat.mul_le_mul_right _ (by omega)
        omega
      obtain ⟨s, hs⟩ : ∃ s, allK l k = s := ⟨_, rfl⟩
      rw [hs] at zk hown ⊢
      have hgd := Lib.hid (good_lines s)
      have hfl := Lib.hid (flat_lines s)
      have hnn := Lib.hid (lines_len s)
      obtain ⟨A1, c1, rfl, _, _⟩ := own_form hown
      have HR := Lib.hid (Reads.of_own hown)
      clear hown hs hsz
      go_wp2_with fail
      refine (lawake_any wr (hm.grows hgr)).mono ?_
      rintro e w1 ⟨rfl, hg1⟩
      have HR1 := Lib.hid (HR.out.grows (Nat.le_refl _) hg1)
      have hg1' := hgr.trans hg1
      have hm1 := hm.grows hg1'
      have hsz1 := hg1.size
      clear HR hg1
      go_wp2_with fail
      refine (split_any s w1 hm1 (by omega)).mono ?_
      rintro e w2 ⟨v, rfl, g2, c2, rfl, _, _, hr2, hg2⟩
      have HR2 := Lib.hid hr2
      have HR1' := Lib.hid (HR1.out.grows hsz1 hg2)
      have hg2' := hg1'.trans hg2
      clear HR1 hr2 hg2 hg1'
      go_wp2_with fail
      refine (plainS_yes' _ _ _ _ _ _ _ _ _ _ _ rfl HR2.out HR1'.out (by have := hnn.out; omega)).mono ?_
      rintro e w3 ⟨rfl, d, rfl⟩
      have HR3 := Lib.hid (HR1'.out.drewN d)
      have hg3 := hg2'.drewN d
      clear HR1' HR2 hg2'
      obtain ⟨w3, hw3⟩ : ∃ w3, w2.drewN d = w3 := ⟨_, rfl⟩
      rw [hw3] at HR3 hg3 ⊢
      clear hw3 hsz1 hm1
      go_wp2_with fail
      refine (whole_any _ _ _ _ _ w3 HR3.out (by have := hnn.out; omega) (fun i hi => by have := gs_flat hi; rw [hfl.out] at this; omega)).mono ?_
      rw [hgd.out]
      rintro e w' ⟨rfl, rfl⟩
      go_wp2_with fail
      have hr4 := (Reads.newRow w3 9 (strs [ByteArray.empty]) (0, 0))
      refine (whole_any (w3.heap.size + 1) _ 1 _ [ByteArray.empty] _ hr4 (by decide) (fun i hi => by have : i = 0 := by omega
                                                                                                     subst this; decide)).mono ?_
      rw [good_e]
      rintro e w' ⟨rfl, rfl⟩
      have hg4 := hg3.alloc (.cells (strs [ByteArray.empty]).toArray 9 (0, 0))
      obtain ⟨w4, hw4⟩ : ∃ w4, w3.alloc (.cells (strs [ByteArray.empty]).toArray 9 (0, 0)) = w4 := ⟨_, rfl⟩
      rw [hw4] at hg4 ⊢
      clear hw4 hr4 hg3
      go_wp2_with fail
      have hr5 := (Reads.newRow w4 9 (strs [lA, lB]) (0, 0))
      refine (whole_any (w4.heap.size + 1) _ 2 _ [lA, lB] _ hr5 (by decide) (fun i hi => by
        rcases (by omega : i = 0 ∨ i = 1) with rfl | rfl <;> decide)).mono ?_
      rw [good_ab]
      rintro e w' ⟨rfl, rfl⟩
      have hg5 := hg4.alloc (.cells (strs [lA, lB]).toArray 9 (0, 0))
      go_wp2_with fail
      go_ret
      exact ⟨rfl, hg5⟩
end Go.Proofs.YtmfgbkbbmeedjaaDoor
