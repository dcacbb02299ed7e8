/- GraphChildren: the walk of the law. -/
import Derived.Test.YtdhdlkbldngmoaaGraphAwake
import Derived.Test.YtdhdlkbldngmoaaGraphLaws
import Derived.Test.YtdhdlkbldngmoaaGraphTells
namespace Go.Proofs.Ytdhdlkbldngmoaa
open Go.RowKit

set_option maxHeartbeats 4000000 in
set_option maxRecDepth 100000 in
theorem gchildren_any (A : Option Addr) (n c : Nat) (xs : List Int) (w : World) (h : Reads w w.heap.size 1 A n (ints xs)) (hn : n ≤ maxLen) :
    Calls Try.prog 5 #[.slice A n c] w fun e w' => e = .returned (.bool true) ∧ Grows w w' := by
  have H := Lib.hid h; clear h
  obtain ⟨G, hG0⟩ : ∃ G, parents xs 40 = G := ⟨_, rfl⟩
  have hr0 : right G = true := by rw [← hG0]; exact right_parents _ _
  have hl0 : G.length ≤ 40 := by rw [← hG0, parents_len]; omega
  obtain ⟨N, hN⟩ : ∃ N, G.length = N := ⟨_, rfl⟩
  have HGL := Lib.hid hN
  have HR := Lib.hid hr0
  have HG := Lib.hid hG0
  rw [hN] at hl0
  clear hN hr0 hG0
  go_enter Try.func5, Try.ntmps5
  go_wp2_with fail
  refine (parents_any _ _ _ _ _ 40 _ H.out (Nat.le_refl _) hn (by omega)).mono fun e w1 h => ?_
  obtain ⟨A1, c1, rfl, hr1, hg1⟩ := retL G N HG.out HGL.out h
  have HR1 := Lib.hid hr1
  clear h hr1
  go_wp2_with fail
  go_loopg [5, 4] (N + 1) (fun gk q v wr => ∃ i : Int, q = .int .i64 i ∧ -1 ≤ i ∧ i ≤ N ∧ gk = (N - i).toNat ∧ v = .int .i64 (fewer G i N) ∧ Grows w1 wr)
  case atStart => exact ⟨-1, rfl, by omega, by omega, by omega, by rw [← HGL.out, fewer_none HR.out]; rfl, Grows.refl _⟩
  case round =>
    obtain ⟨i, rfl, hi0, hi1, hgk, rfl, hgr⟩ := hrel
    have HGK := Lib.hid hgk; clear hgk
    have hfl := fewer_le G i N
    have hsz := hgr.size
    by_cases hlt : i < N
    · have HR2 := Lib.hid (HR1.out.grows (Nat.le_refl _) hgr)
      go_wp2_with fail
      refine (children_any _ _ _ _ _ _ _ HR2.out hsz (by omega)).mono fun e w2 h => ?_
      obtain ⟨L, hL⟩ : ∃ L, L = (children G i).length := ⟨_, rfl⟩
      have hcr := Lib.hid (show children G i = selTo (fun k => gi G k == i) N by rw [children_right HR.out, HGL.out])
      obtain ⟨A2, c2, rfl, hr2, hg2⟩ := retL (children G i) L rfl hL.symm h
      clear h
      have hLN : L ≤ N := by rw [hL, hcr.out]; exact selTo_len _ _
      have HLe := Lib.hid hL
      have HS := Lib.hid (show ((fewer G i N : Nat) : Int) + (L : Int) = ((fewer G (i + 1) N : Nat) : Int) by rw [fewer_succ, hL, hcr.out]; omega)
      clear hL
      have HC := Lib.hid hr2
      have hgr2 := hgr.trans hg2
      have HR3 := Lib.hid (HR2.out.grows hsz hg2)
      clear hr2
      go_wp2_with fail
      go_loopg [7] L (fun gk q wr => (∃ m, wr = w2.drewN m) ∧ ∃ j : Nat, q = .int .i64 j ∧ j ≤ L ∧ gk = L - j)
      case atStart => exact ⟨⟨0, rfl⟩, 0, rfl, by omega, by omega⟩
      case round =>
        obtain ⟨⟨m, rfl⟩, j, rfl, hj, hgk⟩ := hrel
        have HGJ := Lib.hid hgk; clear hgk
        by_cases hjl : j < L
        · obtain ⟨ad, rfl, _, hc⟩ := HC.out.int hjl
          have hg := gi_selTo (p := fun k => gi G k == i) (n := N) (k := j) (by rw [← hcr.out, ← HLe.out]; exact hjl)
          rw [← hcr.out] at hg
          obtain ⟨q, hq⟩ : ∃ q : Nat, gi (children G i) j = q := ⟨(gi (children G i) j).toNat, by omega⟩
          obtain ⟨hq0, hq1, hq2⟩ := hg
          rw [hq] at hc hq0 hq1 hq2
          rw [Int.toNat_natCast] at hq2
          have hqN : q < N := by omega
          obtain ⟨ag, rfl, _, hcg⟩ := HR3.out.int hqN
          rw [show gi G q = i from eq_of_beq hq2] at hcg
          have k0 : (0 : Int) ≤ j := by omega
          have k1 : (j : Int) < L := by omega
          have d2 : decide ((q : Int) < 0) = false := decide_eq_false (by omega)
          have d3 : decide (N ≤ q) = false := decide_eq_false (by omega)
          have d4 : (i != i) = false := by simp
          have HQ := Lib.hid hq
          clear hq hq2
          by_cases hj0 : j = 0
          · subst hj0
            have hc' : w2.cell? ad = some (Value.int .i64 q) := hc
            have d5 : decide ((0 : Int) < 0) = false := rfl
            go_wp2
            go_quiet (fail)
            go_wp2
            go_roundg (L - 1)
            case measure => rw [HGJ.out]; omega
            case rel => exact ⟨⟨m + nq, rfl⟩, 1, rfl, by omega, rfl⟩
          · obtain ⟨k, rfl⟩ : ∃ k, j = k + 1 := ⟨j - 1, by omega⟩
            have hcp := HC.out.intAt (show k < L by omega)
            have hup := selTo_up (p := fun k => gi G k == i) N k (by rw [← hcr.out, ← HLe.out]; omega)
            rw [← hcr.out, HQ.out] at hup
            have hc' : w2.cell? ⟨ad.block, ad.off + (k + 1), none⟩ = some (Value.int .i64 q) := hc
            have ek : (((k + 1 : Nat) : Int)) = (k : Int) + 1 := by omega
            have s1 : IntKind.i64.wrap (k : Int) = (k : Int) := by rw [IntKind.wrap_i64]; omega
            have s2 : (0 : Int) ≤ (k : Int) + 1 := by omega
            have s3 : ((k : Int) + 1).toNat = k + 1 := by omega
            have k2 : (0 : Int) ≤ k := by omega
            have k3 : (k : Int) < L := by omega
            have k4 : (k : Int) + 1 < L := by omega
            generalize gi (children G i) k = y at hcp hup
            have d6 : decide ((q : Int) ≤ y) = false := decide_eq_false (by omega)
            have d5 : decide ((0 : Int) < (k : Int) + 1) = true := decide_eq_true (by omega)
            go_wp2
            go_quiet (fail)
            go_wp2
            go_roundg (L - (k + 1 + 1))
            case measure => rw [HGJ.out]; omega
            case rel => exact ⟨⟨m + nq, rfl⟩, k + 1 + 1, by go_num, by omega, rfl⟩
        · go_wp2
          go_roundg (N - (i + 1)).toNat
          case measure => rw [HGK.out]; omega
          case rel => exact ⟨i + 1, rfl, by omega, by omega, rfl, by rw [← HS.out], hgr2.drewN m⟩
    · have hiN : i = N := by omega
      have HF := Lib.hid (show fewer G i N = N by rw [hiN, ← HGL.out, fewer_all HR.out])
      obtain ⟨F, hF⟩ : ∃ F, F = fewer G i N := ⟨_, rfl⟩
      rw [← hF] at HF ⊢
      have hFN : F = N := HF.out
      subst hFN
      clear hF hfl
      go_wp2_with fail
      refine (gawake_any _).mono ?_
      rintro e w3 ⟨rfl, hg3⟩
      have hgr3 := hgr.trans hg3
      have HR2 := Lib.hid (HR1.out.grows (Nat.le_refl _) hgr3)
      have hsz3 := hgr3.size
      have t1 : ((F : Int) == F) = true := by simp
      go_wp2_with fail
      refine (children_any _ _ _ _ _ _ _ HR2.out hsz3 (by omega)).mono fun e w4 h => ?_
      obtain ⟨A4, c4, rfl, _, hg4⟩ := retL [] 0 (children_out (.inl (by omega))) rfl h
      clear h
      have hfin := hg1.trans (hgr3.trans hg4)
      go_wp2_with fail
      go_ret
      exact ⟨rfl, hfin⟩

end Go.Proofs.Ytdhdlkbldngmoaa
