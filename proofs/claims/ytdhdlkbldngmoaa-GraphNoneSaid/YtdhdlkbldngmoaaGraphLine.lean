/- GraphLine: of a line of commits each stands on all ahead of it. -/
import Derived.Test.YtdhdlkbldngmoaaGraphAwake
namespace Go.Proofs.Ytdhdlkbldngmoaa
open Go.RowKit

theorem mod_u64 (x : Int) (m : Nat) (h0 : 0 < m) (h1 : m ≤ 1000000000000) : ∃ k : Nat, k < m ∧ wrap64 ((IntKind.u64.wrap x).tmod (m : Int)) = k := by
  rw [IntKind.wrap_u64]
  have h := Int.emod_nonneg x (b := 18446744073709551616) (by omega)
  rw [Int.tmod_eq_emod_of_nonneg h]
  generalize x % 18446744073709551616 = y at h
  have h2 := Int.emod_nonneg y (b := (m : Int)) (by omega)
  have h3 := Int.emod_lt_of_pos y (b := (m : Int)) (by omega)
  generalize y % (m : Int) = z at h2 h3
  exact ⟨z.toNat, by omega, by unfold wrap64; omega⟩

/-- a line of commits, each on the one ahead -/
def lineTo (k : Nat) : List Int := (List.range k).map fun (j : Nat) => (j : Int) - 1
theorem lineTo_succ (k : Nat) : lineTo (k + 1) = lineTo k ++ [(k : Int) - 1] := by simp [lineTo, List.range_succ]
theorem lineTo_len (k : Nat) : (lineTo k).length = k := by simp [lineTo]
theorem gi_lineTo {k j : Nat} (h : j < k) : gi (lineTo k) j = (j : Int) - 1 := by simp [gi, lineTo, h]
theorem right_line (n : Nat) : right (lineTo n) = true := by
  unfold right rightTo
  rw [List.all_eq_true]
  intro i hi
  rw [List.mem_range, lineTo_len] at hi
  rw [gi_lineTo hi]
  simp; omega
theorem up_line (n : Nat) : ∀ i : Nat, i < n → up (lineTo n) i = (List.range (i + 1)).map fun (k : Nat) => (i : Int) - k := by
  intro i
  induction i with
  | zero =>
    intro h
    rw [up_step (right_line n) (by omega) (by rw [lineTo_len]; omega)]
    simp only [Int.toNat_natCast]
    rw [gi_lineTo h, up_neg (by omega)]
    simp
  | succ i ih =>
    intro h
    rw [up_step (right_line n) (by omega) (by rw [lineTo_len]; omega), Int.toNat_natCast, gi_lineTo h]
    have e : ((i + 1 : Nat) : Int) - 1 = (i : Int) := by omega
    rw [e, ih (by omega), List.range_succ_eq_map (n := i + 1), List.map_cons, List.map_map]
    refine congr (congrArg List.cons ?_) ?_
    · simp
    · refine List.map_congr_left fun k _ => ?_
      simp only [Function.comp, Nat.succ_eq_add_one]; omega
theorem isB_line {n i : Nat} (h : i < n) : isB (lineTo n) i = true := isB_iff.2 ⟨by omega, by rw [lineTo_len]; omega, right_line n⟩
theorem chain_line {n i : Nat} (h : i < n) : chain (lineTo n) i = (List.range (i + 1)).map fun (k : Nat) => (i : Int) - k := by rw [chain_up (isB_line h), up_line n i h]
theorem gi_chain_line {n i k : Nat} (h : i < n) (hk : k < i + 1) : gi (chain (lineTo n) i) k = (i : Int) - k := by rw [chain_line h]; simp [gi, hk]
theorem above_line {n a b : Nat} (h : b < n) : above (lineTo n) a b = decide (a ≤ b) := by
  rw [above, chain_line h, Bool.eq_iff_iff, List.contains_iff_mem]
  simp only [List.mem_map, List.mem_range, decide_eq_true_eq]
  constructor
  · rintro ⟨k, h1, h2⟩; omega
  · intro h1; exact ⟨b - a, by omega, by omega⟩
theorem under_line {n i : Nat} (h : i ≤ n) : under (lineTo n) i = (List.range (n - i)).map fun (k : Nat) => (i : Int) + k := by
  have key : ∀ d, i + d ≤ n → selTo (fun k => above (lineTo n) i k) (i + d) = (List.range d).map fun (k : Nat) => (i : Int) + k := by
    intro d
    induction d with
    | zero =>
      intro _
      refine selTo_none fun j hj => ?_
      rw [Nat.add_zero] at hj
      rw [above_line (by omega), decide_eq_false_iff_not]; omega
    | succ d ih =>
      intro hd
      rw [← Nat.add_assoc, selTo_yes (by rw [above_line (by omega), decide_eq_true_eq]; omega), ih (by omega), List.range_succ, List.map_append]
      congr 1
  rw [under, lineTo_len]
  have := key (n - i) (by omega)
  rwa [show i + (n - i) = n by omega] at this
theorem gi_under_line {n i k : Nat} (hk : k < n - i) : gi (under (lineTo n) i) k = (i : Int) + k := by rw [under_line (by omega)]; simp [gi, hk]
theorem base_line {n i : Nat} (h : i < n) : base (lineTo n) i ((n : Int) - 1) = i := by
  have e : ((n : Int) - 1) = ((n - 1 : Nat) : Int) := by omega
  have h2 : above (lineTo n) i ((n - 1 : Nat) : Int) = true := by rw [above_line (by omega), decide_eq_true_eq]; omega
  rw [e, base, chain_line h, List.range_succ_eq_map, List.map_cons, List.find?_cons_of_pos (p := fun x => above (lineTo n) x ((n - 1 : Nat) : Int)) (by simpa using h2)]
  simp

set_option maxHeartbeats 1000000 in
theorem gline_any (n i : Int) (w : World) : Calls Try.prog 3 #[.int .i64 n, .int .i64 i] w fun e w' => e = .returned (.bool true) ∧ Grows w w' := by
  obtain ⟨t0, hi0, hz0, hz1, hz2⟩ := info_parts Try.infoInt
  obtain ⟨N, hN, he1⟩ : ∃ N : Nat, (1 ≤ N ∧ N ≤ 50) ∧ wrap64 (1 + wrap64 ((IntKind.u64.wrap n).tmod 50)) = N := by
    obtain ⟨k, hk, e⟩ := mod_u64 n 50 (by omega) (by omega)
    have e' : wrap64 ((IntKind.u64.wrap n).tmod 50) = (k : Int) := e
    exact ⟨1 + k, by omega, by rw [e']; unfold wrap64; omega⟩
  obtain ⟨I, hI, he2⟩ := mod_u64 i N (by omega) (by omega)
  have hL0 := Lib.hid (chain_line hI)
  go_enter Try.func3, Try.ntmps3
  go_wp2_with fail
  simp only [he1, he2]
  clear he1 he2
  go_loopg [5, 6] N (fun gk v q wr => ∃ k : Nat, q = .int .i64 k ∧ k ≤ N ∧ gk = N - k ∧ wr.ownsRow w.heap.size 3 1 v k (ints (lineTo k)) ∧ Grows w wr)
  case atStart => exact ⟨0, rfl, by omega, rfl, World.ownsRow_nil _ _ _ _, Grows.refl _⟩
  case round =>
    obtain ⟨k, rfl, hk, hgk, hown, hgr⟩ := hrel
    have HG := Lib.hid hgk; clear hgk
    have hsz := hgr.size
    by_cases hlt : k < N
    · go_wp2_with (at_builtin; refine wpList_push rfl (.tmp 27) (.tmp 30) _ rfl (w.heap.size) 3 t0 _ 1 8 Try.underlying23 hi0 hz0 hz1 hz2 rfl (by decide) _ _ _ rfl ((hown).alloc _) ⟨(wr).heap.size, 0, none⟩ 1 1 [.int .i64 ((k : Int) - 1)] rfl rfl (cell_one_new _ _ _) (by intro u hu; simp at hu; subst hu; rfl) (by simp only [maxLen]; omega) (by omega) (by simp; omega) ?_; intro v' w1 hown1 hb1; have hgr1 : Grows w w1 := Below.trans (hgr.alloc _) hb1)
      go_roundg (N - (k + 1))
      case measure => rw [HG.out]; omega
      case rel => exact ⟨k + 1, by go_num, by omega, rfl, by rw [lineTo_succ, ints_append, ints_one]; exact hown1, hgr1⟩
    · obtain rfl : k = N := by omega
      clear HG hlt hk
      obtain ⟨A0, c0, rfl, _, _⟩ := own_form hown
      have HR := Lib.hid (Reads.of_own hown)
      clear hown
      go_wp2_with fail
      refine (chain_any _ _ _ _ _ _ _ HR.out (Nat.le_refl _) (by omega)).mono fun e w1 h => ?_
      obtain ⟨A1, c1, rfl, hr1, hg1⟩ := retL (chain (lineTo k) I) (I + 1) rfl (by rw [hL0.out]; simp) h
      clear h
      have HR1 := Lib.hid (HR.out.grows (Nat.le_refl _) hg1)
      go_wp2_with fail
      refine (under_any _ _ _ _ _ _ _ HR1.out hg1.size (by omega)).mono fun e w2 h => ?_
      obtain ⟨A2, c2, rfl, hr2, hg2⟩ := retL (under (lineTo k) I) (k - I) rfl (by rw [under_line (by omega)]; simp) h
      clear h
      have hr1' := hr1.grows (Nat.le_refl _) hg2
      clear hr1
      go_wp2_with fail
      refine (gawake_any _).mono ?_
      rintro e w3 ⟨rfl, hg3⟩
      have HC := Lib.hid (hr1'.grows hg2.size hg3)
      have HU := Lib.hid (hr2.grows (Nat.le_refl _) hg3)
      have hgr3 := (hg1.trans hg2).trans hg3
      have HR3 := Lib.hid (HR.out.grows (Nat.le_refl _) hgr3)
      clear hr1' hr2 HR1
      have e1 : (((I : Int) + 1) != ((I : Int) + 1)) = false := by simp
      have e2 : (((k - I : Nat) : Int) != (k : Int) - I) = false := by simp; omega
      go_wp2_with fail
      go_loopg [9] (I + 1) (fun gk q wr => w3 = wr ∧ ∃ j : Nat, q = .int .i64 j ∧ j ≤ I + 1 ∧ gk = I + 1 - j)
      case atStart => exact ⟨rfl, 0, rfl, by omega, by omega⟩
      case round =>
        obtain ⟨rfl, j, rfl, hj, hgk⟩ := hrel
        have HG := Lib.hid hgk; clear hgk
        by_cases hlt : j < I + 1
        · obtain ⟨ad, rfl, _, hc⟩ := HC.out.int hlt
          have e3 : (gi (chain (lineTo k) I) j != (I : Int) - j) = false := by rw [gi_chain_line hI hlt]; simp
          go_wp2
          go_roundg (I + 1 - (j + 1))
          case measure => rw [HG.out]; omega
          case rel => exact ⟨rfl, j + 1, by go_num, by omega, rfl⟩
        · clear HG hj
          go_wp2_with fail
          go_loopg [10] (k - I) (fun gk q wr => w3 = wr ∧ ∃ j : Nat, q = .int .i64 j ∧ j ≤ k - I ∧ gk = k - I - j)
          case atStart => exact ⟨rfl, 0, rfl, by omega, by omega⟩
          case round =>
            obtain ⟨rfl, j, rfl, hj, hgk⟩ := hrel
            have HG := Lib.hid hgk; clear hgk
            by_cases hlt : j < k - I
            · obtain ⟨ad, rfl, _, hc⟩ := HU.out.int hlt
              have e3 : (gi (under (lineTo k) I) j != (I : Int) + j) = false := by rw [gi_under_line hlt]; simp
              go_wp2
              go_roundg (k - I - (j + 1))
              case measure => rw [HG.out]; omega
              case rel => exact ⟨rfl, j + 1, by go_num, by omega, rfl⟩
            · clear HG hj
              go_wp2_with fail
              refine (base_any _ _ _ _ _ _ _ _ HR3.out (by omega)).mono ?_
              rintro e w4 ⟨rfl, rfl⟩
              rw [base_line hI]
              have e4 : ((I : Int) == I) = true := by simp
              go_wp2_with fail
              refine (chain_any _ _ _ _ _ _ _ HR3.out hgr3.size (by omega)).mono fun e w4 h => ?_
              obtain ⟨A4, c4, rfl, _, hg4⟩ := retL [] 0 (chain_none (by simp [isB, lineTo_len])) rfl h
              clear h
              have HR4 := Lib.hid (HR3.out.grows hgr3.size hg4)
              have hgr4 := hgr3.trans hg4
              go_wp2_with fail
              refine (under_any _ _ _ _ _ _ _ HR4.out hgr4.size (by omega)).mono fun e w5 h => ?_
              obtain ⟨A5, c5, rfl, _, hg5⟩ := retL [] 0 (under_none (by simp [isB])) rfl h
              clear h
              have HR5 := Lib.hid (HR4.out.grows hgr4.size hg5)
              have hgr5 := hgr4.trans hg5
              go_wp2_with fail
              refine (base_any _ _ _ _ _ _ _ _ HR5.out (by omega)).mono ?_
              rintro e w6 ⟨rfl, rfl⟩
              rw [base_none (.inl (by simp [isB]))]
              have hfin := hgr.trans hgr5
              go_wp2_with fail
              go_ret
              exact ⟨rfl, hfin⟩

end Go.Proofs.Ytdhdlkbldngmoaa
