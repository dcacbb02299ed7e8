/- DiffLeads: a script leads from the one list to the other. -/
import Derived.Test.YtlimfndipapfdaaDiffSame
namespace Go.Proofs.Ytlimfndipapfdaa
open Go.RowKit Go.Deep Go.MapKept

theorem leads_facts {xs ys : List ByteArray} (hx : xs.length ≤ 400) (hy : ys.length ≤ 400) : (script 400 xs ys).length + lcs xs ys = xs.length + ys.length ∧ dst xs ys + 2 * lcs xs ys = xs.length + ys.length ∧ lcs ys xs = lcs xs ys := by
  refine ⟨?_, dst_lcs hx hy, lcs_symm _ _⟩
  rw [script_short hx hy]
  exact scr_len xs ys
theorem common_v (v B B' : Nat) (A A' : Option Addr) (n m c c' : Nat) (xs ys : List ByteArray) (w : World) (hv : lcs xs ys = v) (hx : Reads w B 1 A n (strs xs)) (hy : Reads w B' 1 A' m (strs ys)) (hB : B ≤ w.heap.size) (hB' : B' ≤ w.heap.size) (hn : n ≤ 1000000) (hm : m ≤ 1000000) (hc : n ≤ c) (hc' : m ≤ c') (hcM : c ≤ maxLen) (hcM' : c' ≤ maxLen) :
    Calls Try.prog 18 #[.slice A n c, .slice A' m c'] w fun e w' => e = .returned (.int .i64 (v : Nat)) ∧ Grows w w' := by
  subst hv
  exact common_any B B' A A' n m c c' xs ys w hx hy hB hB' hn hm hc hc' hcM hcM'
/-- a script, read -/
theorem script_r (l : List (Int × ByteArray)) (N B B' : Nat) (A A' : Option Addr) (n m c c' : Nat) (xs ys : List ByteArray) (w : World) (hv : script 400 xs ys = l) (hN : l.length = N) (hx : Reads w B 1 A n (strs xs)) (hy : Reads w B' 1 A' m (strs ys)) (hB : B ≤ w.heap.size) (hB' : B' ≤ w.heap.size) (hn : n ≤ 1000000) (hm : m ≤ 1000000) (hc : n ≤ c) (hc' : m ≤ c') (hcM : c ≤ maxLen) (hcM' : c' ≤ maxLen) :
    Calls Try.prog 16 #[.slice A n c, .slice A' m c'] w fun e w' => ∃ D b, e = .returned (.slice D N b) ∧ (N ≤ b ∧ b ≤ maxLen) ∧ Reads w' w'.heap.size 2 D N (edCells l) ∧ Grows w w' := by
  subst hv hN
  refine (script_any B B' A A' n m c c' xs ys w hx hy hB hB' hn hm hc hc' hcM hcM').mono ?_
  rintro e w' ⟨v, rfl, hown, hg⟩
  obtain ⟨D, b, rfl, h1, h2⟩ := own_form hown
  exact ⟨D, b, rfl, ⟨h1, h2⟩, Reads.of_own hown, hg⟩
/-- one side of edits, read -/
theorem old_r (ys : List ByteArray) (N B : Nat) (A : Option Addr) (n c : Nat) (l : List (Int × ByteArray)) (w : World) (hv : side 2 l = ys) (hN : ys.length = N) (hx : Reads w B 2 A n (edCells l)) (hB : B ≤ w.heap.size) (hn : n ≤ 1000000000000) :
    Calls Try.prog 26 #[.slice A n c] w fun e w' => ∃ D b, e = .returned (.slice D N b) ∧ (N ≤ b ∧ b ≤ maxLen) ∧ Reads w' w'.heap.size 1 D N (strs ys) ∧ Grows w w' := by
  subst hv hN
  refine (old_any B A n c l w hx hB hn).mono ?_
  rintro e w' ⟨v, rfl, hown, hg⟩
  obtain ⟨D, b, rfl, h1, h2⟩ := own_form hown
  exact ⟨D, b, rfl, ⟨h1, h2⟩, Reads.of_own hown, hg⟩
theorem new_r (ys : List ByteArray) (N B : Nat) (A : Option Addr) (n c : Nat) (l : List (Int × ByteArray)) (w : World) (hv : side 3 l = ys) (hN : ys.length = N) (hx : Reads w B 2 A n (edCells l)) (hB : B ≤ w.heap.size) (hn : n ≤ 1000000000000) :
    Calls Try.prog 28 #[.slice A n c] w fun e w' => ∃ D b, e = .returned (.slice D N b) ∧ (N ≤ b ∧ b ≤ maxLen) ∧ Reads w' w'.heap.size 1 D N (strs ys) ∧ Grows w w' := by
  subst hv hN
  refine (new_any B A n c l w hx hB hn).mono ?_
  rintro e w' ⟨v, rfl, hown, hg⟩
  obtain ⟨D, b, rfl, h1, h2⟩ := own_form hown
  exact ⟨D, b, rfl, ⟨h1, h2⟩, Reads.of_own hown, hg⟩

set_option maxHeartbeats 2000000 in
theorem dleads_any (A0 A1 : Option Addr) (n0 c0 n1 c1 : Nat) (x0 x1 : List ByteArray) (w : World) (hr0 : Reads w w.heap.size 1 A0 n0 (strs x0)) (hn0 : n0 ≤ c0) (hc0 : c0 ≤ maxLen) (hr1 : Reads w w.heap.size 1 A1 n1 (strs x1)) (hn1 : n1 ≤ c1) (hc1 : c1 ≤ maxLen) :
    Calls Try.prog 7 #[.slice A0 n0 c0, .slice A1 n1 c1] w fun e w' => e = .returned (.bool true) ∧ Grows w w' := by
  have L0 := Lib.hid hr0.strLen
  have L1 := Lib.hid hr1.strLen
  have H0 := Lib.hid hr0
  have H1 := Lib.hid hr1
  clear hr0 hr1
  go_enter Try.func7, Try.ntmps7
  by_cases hbig : 120 < n0 ∨ 120 < n1
  · have hsp : (120 : Int) < n0 ∨ ¬ ((120 : Int) < n0) ∧ (120 : Int) < n1 := by omega
    clear hbig
    have HSP := Lib.hid hsp
    clear hsp
    rcases HSP.out with g0 | ⟨g0, g1⟩
    all_goals
      go_wp2_with fail
      refine (dawake_any w).mono ?_
      rintro e w1 ⟨rfl, hg⟩
      go_wp2_with fail
      go_ret
      exact ⟨rfl, hg⟩
  · have g0 : n0 ≤ 120 := by omega
    have g1 : n1 ≤ 120 := by omega
    clear hbig
    have M0 := Lib.hid (show x0.length ≤ 400 by rw [L0.out]; omega)
    have M1 := Lib.hid (show x1.length ≤ 400 by rw [L1.out]; omega)
    have hF := leads_facts M0.out M1.out
    rw [L0.out, L1.out] at hF
    obtain ⟨l, hl⟩ : ∃ l, script 400 x0 x1 = l := ⟨_, rfl⟩
    obtain ⟨N, hN⟩ : ∃ N, l.length = N := ⟨_, rfl⟩
    obtain ⟨C, hC⟩ : ∃ C, lcs x0 x1 = C := ⟨_, rfl⟩
    obtain ⟨D, hD⟩ : ∃ D, dst x0 x1 = D := ⟨_, rfl⟩
    have hO := script_old 400 x0 x1
    have hW := script_new 400 x0 x1
    rw [hl] at hO hW
    rw [hl, hN, hC, hD] at hF
    obtain ⟨f1, f2, f3⟩ := hF
    have E1 := Lib.hid hl
    have E2 := Lib.hid hN
    have E3 := Lib.hid hC
    have E4 := Lib.hid hD
    have E5 := Lib.hid f3
    have E6 := Lib.hid hO
    have E7 := Lib.hid hW
    have f4 : N + C ≤ n0 + n1 := by omega
    have f5 : n0 + n1 ≤ N + C := by omega
    have f6 : D + 2 * C ≤ n0 + n1 := by omega
    have f7 : n0 + n1 ≤ D + 2 * C := by omega
    clear hl hN hC hD f1 f2 f3 hO hW
    have k0 : (n0 : Int) ≤ 120 := by omega
    have k1 : (n1 : Int) ≤ 120 := by omega
    go_wp2_with fail
    refine (script_r l N w.heap.size w.heap.size A0 A1 n0 n1 c0 c1 x0 x1 w E1.out E2.out H0.out H1.out (Nat.le_refl _) (Nat.le_refl _) (by omega) (by omega) hn0 hn1 hc0 hc1).mono ?_
    rintro e w1 ⟨Al, bl, rfl, hbl, hrl, hg1⟩
    have HRL := Lib.hid hrl
    clear hrl hbl
    go_wp2_with fail
    refine (common_v C w.heap.size w.heap.size A0 A1 n0 n1 c0 c1 x0 x1 w1 E3.out (H0.out.grows (Nat.le_refl _) hg1) (H1.out.grows (Nat.le_refl _) hg1) hg1.size hg1.size (by omega) (by omega) hn0 hn1 hc0 hc1).mono ?_
    rintro e w2 ⟨rfl, hg2⟩
    have HL2 := Lib.hid (HRL.out.grows (Nat.le_refl _) hg2)
    have hs2 := hg2.size
    replace hg2 := hg1.trans hg2
    go_wp2_with fail
    refine (dawake_any w2).mono ?_
    rintro e w3 ⟨rfl, hg3⟩
    have HL3 := Lib.hid (HL2.out.grows hs2 hg3)
    have hs3 := Nat.le_trans hs2 hg3.size
    replace hg3 := hg2.trans hg3
    clear hg1 hg2
    go_wp2_with fail
    refine (old_r x0 n0 w1.heap.size Al N bl l w3 E6.out L0.out HL3.out hs3 (by omega)).mono ?_
    rintro e w4 ⟨Ao, bo, rfl, hbo, hro, hg4⟩
    have HL4 := Lib.hid (HL3.out.grows hs3 hg4)
    have hs4 := Nat.le_trans hs3 hg4.size
    replace hg4 := hg3.trans hg4
    clear hg3
    go_wp2_with fail
    refine (plainS_any w4.heap.size w.heap.size Ao A0 n0 n0 bo c0 x0 x0 w4 hro (H0.out.grows (Nat.le_refl _) hg4) (by omega)).mono ?_
    rintro e w5 ⟨rfl, d5, rfl⟩
    rw [eqS_self]
    clear hro hbo
    have HL5 := Lib.hid (HL4.out.drewN d5)
    have hs5 := size_drewN hs4 d5
    have hg5 := hg4.drewN d5
    clear hs4 hg4
    generalize w4.drewN d5 = w5 at HL5 hs5 hg5 ⊢
    go_wp2_with fail
    refine (new_r x1 n1 w1.heap.size Al N bl l w5 E7.out L1.out HL5.out hs5 (by omega)).mono ?_
    rintro e w6 ⟨An, bn, rfl, hbn, hrn, hg6⟩
    replace hg6 := hg5.trans hg6
    clear hg5
    go_wp2_with fail
    refine (plainS_any w6.heap.size w.heap.size An A1 n1 n1 bn c1 x1 x1 w6 hrn (H1.out.grows (Nat.le_refl _) hg6) (by omega)).mono ?_
    rintro e w7 ⟨rfl, d7, rfl⟩
    rw [eqS_self]
    clear hrn hbn
    have hg7 := hg6.drewN d7
    clear hg6
    generalize w6.drewN d7 = w7 at hg7 ⊢
    go_wp2_with fail
    refine (dist_any D w.heap.size w.heap.size A0 A1 n0 n1 c0 c1 x0 x1 w7 E4.out (H0.out.grows (Nat.le_refl _) hg7) (H1.out.grows (Nat.le_refl _) hg7) hg7.size hg7.size (by omega) (by omega) hn0 hn1 hc0 hc1).mono ?_
    rintro e w8 ⟨rfl, hg8⟩
    replace hg8 := hg7.trans hg8
    clear hg7
    go_wp2_with fail
    refine (common_v C w.heap.size w.heap.size A1 A0 n1 n0 c1 c0 x1 x0 w8 E5.out (H1.out.grows (Nat.le_refl _) hg8) (H0.out.grows (Nat.le_refl _) hg8) hg8.size hg8.size (by omega) (by omega) hn1 hn0 hc1 hc0).mono ?_
    rintro e w9 ⟨rfl, hg9⟩
    replace hg9 := hg8.trans hg9
    clear hg8
    go_wp2_with fail
    go_ret
    exact ⟨rfl, hg9⟩

end Go.Proofs.Ytlimfndipapfdaa
