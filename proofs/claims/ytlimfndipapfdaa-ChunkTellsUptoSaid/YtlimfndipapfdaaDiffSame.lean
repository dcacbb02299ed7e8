/- DiffSame: distances of lists. -/
import Derived.Test.YtlimfndipapfdaaDiffAwake
namespace Go.Proofs.Ytlimfndipapfdaa
open Go.RowKit Go.Deep Go.MapKept

/-- how far two lists are apart -/
def dst (xs ys : List ByteArray) : Nat := distN (script 400 xs ys)
theorem dst_lcs {xs ys : List ByteArray} (hx : xs.length ≤ 400) (hy : ys.length ≤ 400) : dst xs ys + 2 * lcs xs ys = xs.length + ys.length := by
  unfold dst
  rw [script_short hx hy]
  exact scr_dist xs ys
theorem dst_self {xs : List ByteArray} (hx : xs.length ≤ 400) : dst xs xs = 0 := by
  have := dst_lcs hx hx
  rw [lcs_self] at this
  omega
theorem dst_nil {xs : List ByteArray} (hx : xs.length ≤ 400) : dst [] xs = xs.length := by
  have := dst_lcs (xs := []) (by simp) hx
  rw [lcs_nil] at this
  simpa using this
theorem dst_nil' {xs : List ByteArray} (hx : xs.length ≤ 400) : dst xs [] = xs.length := by
  have := dst_lcs (ys := []) hx (by simp)
  rw [lcs_nil'] at this
  simpa using this
theorem dst_symm {xs ys : List ByteArray} (hx : xs.length ≤ 400) (hy : ys.length ≤ 400) : dst ys xs = dst xs ys := by
  have h1 := dst_lcs hx hy
  have h2 := dst_lcs hy hx
  rw [lcs_symm] at h2
  omega
theorem dst_tri {xs ys zs : List ByteArray} (hx : xs.length ≤ 400) (hy : ys.length ≤ 400) (hz : zs.length ≤ 400) : dst xs zs ≤ dst xs ys + dst ys zs := by
  have h1 := dst_lcs hx hy
  have h2 := dst_lcs hy hz
  have h3 := dst_lcs hx hz
  have h4 := lcs_three xs ys zs
  omega
theorem dst_zero {xs ys : List ByteArray} (hx : xs.length ≤ 400) (hy : ys.length ≤ 400) : eqS xs ys = decide (dst xs ys = 0) := by
  rw [Bool.eq_iff_iff, eqS_iff, decide_eq_true_eq]
  constructor
  · rintro rfl; exact dst_self hx
  · intro h
    have h1 := dst_lcs hx hy
    have h2 := lcs_le_left xs ys
    have h3 := lcs_le_right xs ys
    exact lcs_full (by omega) (by omega)
theorem dst_le (xs ys : List ByteArray) : dst xs ys ≤ xs.length + ys.length := Nat.le_trans (distN_le _) (script_len_le xs ys)

theorem dist_any (v B B' : Nat) (A A' : Option Addr) (n m c c' : Nat) (xs ys : List ByteArray) (w : World) (hv : dst xs ys = v) (hx : Reads w B 1 A n (strs xs)) (hy : Reads w B' 1 A' m (strs ys)) (hB : B ≤ w.heap.size) (hB' : B' ≤ w.heap.size) (hn : n ≤ 1000000) (hm : m ≤ 1000000) (hc : n ≤ c) (hc' : m ≤ c') (hcM : c ≤ maxLen) (hcM' : c' ≤ maxLen) :
    Calls Try.prog 20 #[.slice A n c, .slice A' m c'] w fun e w' => e = .returned (.int .i64 (v : Nat)) ∧ Grows w w' := by
  subst hv
  exact distance_any B B' A A' n m c c' xs ys w hx hy hB hB' hn hm hc hc' hcM hcM'

set_option maxHeartbeats 2000000 in
theorem dsame_any (A0 A1 A2 : Option Addr) (n0 c0 n1 c1 n2 c2 : Nat) (x0 x1 x2 : List ByteArray) (w : World) (hr0 : Reads w w.heap.size 1 A0 n0 (strs x0)) (hn0 : n0 ≤ c0) (hc0 : c0 ≤ maxLen) (hr1 : Reads w w.heap.size 1 A1 n1 (strs x1)) (hn1 : n1 ≤ c1) (hc1 : c1 ≤ maxLen) (hr2 : Reads w w.heap.size 1 A2 n2 (strs x2)) (hn2 : n2 ≤ c2) (hc2 : c2 ≤ maxLen) :
    Calls Try.prog 5 #[.slice A0 n0 c0, .slice A1 n1 c1, .slice A2 n2 c2] w fun e w' => e = .returned (.bool true) ∧ Grows w w' := by
  have L0 := Lib.hid hr0.strLen
  have L1 := Lib.hid hr1.strLen
  have L2 := Lib.hid hr2.strLen
  have H0 := Lib.hid hr0
  have H1 := Lib.hid hr1
  have H2 := Lib.hid hr2
  clear hr0 hr1 hr2
  go_enter Try.func5, Try.ntmps5
  by_cases hbig : 60 < n0 ∨ 60 < n1 ∨ 60 < n2
  · have hsp : (60 : Int) < n0 ∨ ¬ ((60 : Int) < n0) ∧ (60 : Int) < n1 ∨ ¬ ((60 : Int) < n0) ∧ ¬ ((60 : Int) < n1) ∧ (60 : Int) < n2 := by omega
    clear hbig
    have HSP := Lib.hid hsp
    clear hsp
    rcases HSP.out with g0 | ⟨g0, g1⟩ | ⟨g0, g1, g2⟩
    all_goals
      go_wp2_with fail
      refine (dawake_any w).mono ?_
      rintro e w1 ⟨rfl, hg⟩
      go_wp2_with fail
      go_ret
      exact ⟨rfl, hg⟩
  · have g0 : n0 ≤ 60 := by omega
    have g1 : n1 ≤ 60 := by omega
    have g2 : n2 ≤ 60 := by omega
    clear hbig
    have M0 := Lib.hid (show x0.length ≤ 400 by rw [L0.out]; omega)
    have M1 := Lib.hid (show x1.length ≤ 400 by rw [L1.out]; omega)
    have M2 := Lib.hid (show x2.length ≤ 400 by rw [L2.out]; omega)
    have k0 : (n0 : Int) ≤ 60 := by omega
    have k1 : (n1 : Int) ≤ 60 := by omega
    have k2 : (n2 : Int) ≤ 60 := by omega
    have ht := dst_tri M0.out M1.out M2.out
    have hl1 := dst_le x0 x1
    have hl2 := dst_le x1 x2
    have hl3 := dst_le x0 x2
    rw [L0.out, L1.out] at hl1
    rw [L1.out, L2.out] at hl2
    rw [L0.out, L2.out] at hl3
    have hz := dst_zero M0.out M1.out
    obtain ⟨D01, hd1⟩ : ∃ D, dst x0 x1 = D := ⟨_, rfl⟩
    obtain ⟨D12, hd2⟩ : ∃ D, dst x1 x2 = D := ⟨_, rfl⟩
    obtain ⟨D02, hd3⟩ : ∃ D, dst x0 x2 = D := ⟨_, rfl⟩
    rw [hd1] at ht hl1 hz
    rw [hd2] at ht hl2
    rw [hd3] at ht hl3
    have E1 := Lib.hid hd1
    have E2 := Lib.hid hd2
    have E3 := Lib.hid hd3
    have E4 := Lib.hid ((dst_symm M0.out M1.out).trans hd1)
    have E5 := Lib.hid (dst_self M0.out)
    have E6 := Lib.hid ((dst_nil M0.out).trans L0.out)
    have E7 := Lib.hid ((dst_nil' M0.out).trans L0.out)
    have HZ := Lib.hid hz
    clear hd1 hd2 hd3 hz
    go_wp2_with fail
    refine (dawake_any w).mono ?_
    rintro e w1 ⟨rfl, hg1⟩
    go_wp2_with fail
    refine (dist_any _ w.heap.size w.heap.size A0 A0 n0 n0 c0 c0 x0 x0 w1 E5.out (H0.out.grows (Nat.le_refl _) hg1) (H0.out.grows (Nat.le_refl _) hg1) hg1.size hg1.size (by omega) (by omega) hn0 hn0 hc0 hc0).mono ?_
    rintro e w2 ⟨rfl, hg2⟩
    replace hg2 := hg1.trans hg2
    clear hg1
    go_wp2_with fail
    refine (dist_any _ w.heap.size w.heap.size none A0 0 n0 0 c0 [] x0 w2 E6.out Reads.none_ (H0.out.grows (Nat.le_refl _) hg2) hg2.size hg2.size (by omega) (by omega) (Nat.le_refl _) hn0 (Nat.zero_le _) hc0).mono ?_
    rintro e w3 ⟨rfl, hg3⟩
    replace hg3 := hg2.trans hg3
    clear hg2
    go_wp2_with fail
    refine (dist_any _ w.heap.size w.heap.size A0 none n0 0 c0 0 x0 [] w3 E7.out (H0.out.grows (Nat.le_refl _) hg3) Reads.none_ hg3.size hg3.size (by omega) (by omega) hn0 (Nat.le_refl _) hc0 (Nat.zero_le _)).mono ?_
    rintro e w4 ⟨rfl, hg4⟩
    replace hg4 := hg3.trans hg4
    clear hg3
    go_wp2_with fail
    refine (dist_any _ w.heap.size w.heap.size A0 A1 n0 n1 c0 c1 x0 x1 w4 E1.out (H0.out.grows (Nat.le_refl _) hg4) (H1.out.grows (Nat.le_refl _) hg4) hg4.size hg4.size (by omega) (by omega) hn0 hn1 hc0 hc1).mono ?_
    rintro e w5 ⟨rfl, hg5⟩
    replace hg5 := hg4.trans hg5
    clear hg4
    go_wp2_with fail
    refine (dist_any _ w.heap.size w.heap.size A1 A0 n1 n0 c1 c0 x1 x0 w5 E4.out (H1.out.grows (Nat.le_refl _) hg5) (H0.out.grows (Nat.le_refl _) hg5) hg5.size hg5.size (by omega) (by omega) hn1 hn0 hc1 hc0).mono ?_
    rintro e w6 ⟨rfl, hg6⟩
    replace hg6 := hg5.trans hg6
    clear hg5
    go_wp2_with fail
    refine (dist_any _ w.heap.size w.heap.size A0 A2 n0 n2 c0 c2 x0 x2 w6 E3.out (H0.out.grows (Nat.le_refl _) hg6) (H2.out.grows (Nat.le_refl _) hg6) hg6.size hg6.size (by omega) (by omega) hn0 hn2 hc0 hc2).mono ?_
    rintro e w7 ⟨rfl, hg7⟩
    replace hg7 := hg6.trans hg7
    clear hg6
    go_wp2_with fail
    refine (dist_any _ w.heap.size w.heap.size A0 A1 n0 n1 c0 c1 x0 x1 w7 E1.out (H0.out.grows (Nat.le_refl _) hg7) (H1.out.grows (Nat.le_refl _) hg7) hg7.size hg7.size (by omega) (by omega) hn0 hn1 hc0 hc1).mono ?_
    rintro e w8 ⟨rfl, hg8⟩
    replace hg8 := hg7.trans hg8
    clear hg7
    go_wp2_with fail
    refine (dist_any _ w.heap.size w.heap.size A1 A2 n1 n2 c1 c2 x1 x2 w8 E2.out (H1.out.grows (Nat.le_refl _) hg8) (H2.out.grows (Nat.le_refl _) hg8) hg8.size hg8.size (by omega) (by omega) hn1 hn2 hc1 hc2).mono ?_
    rintro e w9 ⟨rfl, hg9⟩
    replace hg9 := hg8.trans hg9
    clear hg8
    go_wp2_with fail
    refine (dist_any _ w.heap.size w.heap.size A0 A1 n0 n1 c0 c1 x0 x1 w9 E1.out (H0.out.grows (Nat.le_refl _) hg9) (H1.out.grows (Nat.le_refl _) hg9) hg9.size hg9.size (by omega) (by omega) hn0 hn1 hc0 hc1).mono ?_
    rintro e w10 ⟨rfl, hg10⟩
    replace hg10 := hg9.trans hg10
    clear hg9
    go_wp2_with fail
    refine (plainS_any w.heap.size w.heap.size A0 A1 n0 n1 c0 c1 x0 x1 w10 (H0.out.grows (Nat.le_refl _) hg10) (H1.out.grows (Nat.le_refl _) hg10) (by omega)).mono ?_
    rintro e w11 ⟨rfl, d, rfl⟩
    rw [HZ.out]
    go_wp2_with fail
    go_ret
    refine ⟨ret_bool (a := ((D01 : Int) == 0) == decide (D01 = 0)) ?_, hg10.drewN d⟩
    by_cases hD : D01 = 0
    · subst hD; rfl
    · have h2 : ((D01 : Int) == 0) = false := by simp [hD]
      have h3 : decide (D01 = 0) = false := by simp [hD]
      rw [h2, h3]; rfl

end Go.Proofs.Ytlimfndipapfdaa
