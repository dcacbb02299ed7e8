/- PathBytes: the walk. -/
import Derived.Test.YtmfgbkbbmeedjaaDoorPathPartsLaw
import Derived.Laws.Shifts
namespace Go.Proofs.YtmfgbkbbmeedjaaDoor
open Go.RowKit Go.Deep Go.MapKept

def lA1 : ByteArray := ⟨#[97]⟩
def longA : Nat → ByteArray
  | 0 => none_
  | k + 1 => longA k ++ lA1
def oneB (k : Nat) : ByteArray := ⟨#[UInt8.ofNat k]⟩
def oneOk (k : Nat) : Bool := decide (33 ≤ k) && (decide (k ≤ 126) && (decide (k ≠ 46) && decide (k ≠ 47)))
set_option maxRecDepth 100000 in
theorem ones : ((List.range 256).all fun k => rightP (oneB k) == oneOk k) = true := by kernel_rfl
set_option maxRecDepth 100000 in
theorem longs : ((List.range 20).all fun k => rightP (longA (90 + k)) == decide (90 + k ≤ 100)) = true := by kernel_rfl
theorem one_right {k : Nat} (h : k < 256) : rightP (oneB k) = oneOk k := by
  have := List.all_eq_true.1 ones k (List.mem_range.2 h)
  simpa using this
theorem long_right {n : Nat} (h0 : 90 ≤ n) (h1 : n < 110) : rightP (longA n) = decide (n ≤ 100) := by
  have := List.all_eq_true.1 longs (n - 90) (List.mem_range.2 (by omega))
  rw [beq_iff_eq, show 90 + (n - 90) = n by omega] at this
  exact this
theorem long_size : ∀ n, (longA n).size = n
  | 0 => rfl
  | n + 1 => by rw [longA, ByteArray.size_append, long_size n]; rfl

def pDot : ByteArray := { data := #[46] }
def pDots : ByteArray := { data := #[46, 46] }
def pThree : ByteArray := { data := #[46, 46, 46] }
def pADB : ByteArray := { data := #[97, 47, 46, 98] }
theorem adr_zero' (a : Addr) : a.add 0 = a := by unfold Addr.add; split <;> simp_all
theorem r_dot : rightP pDot = false := by kernel_rfl
theorem r_dots : rightP pDots = false := by kernel_rfl
theorem r_three : rightP pThree = true := by kernel_rfl
theorem r_ab : rightP pADB = true := by kernel_rfl
theorem count_of (x : Int) : ∃ N : Nat, 90 ≤ N ∧ N < 110 ∧ wrap64 (90 + wrap64 ((IntKind.u64.wrap x).tmod 20)) = N := by
  have h0 := wrap_u64_nonneg x
  have h1 : 0 ≤ (IntKind.u64.wrap x).tmod 20 := Int.tmod_nonneg 20 h0
  have h2 : (IntKind.u64.wrap x).tmod 20 < 20 := Int.tmod_lt_of_pos _ (by decide)
  refine ⟨(90 + (IntKind.u64.wrap x).tmod 20).toNat, by omega, by omega, ?_⟩
  unfold wrap64
  omega
/-- a word that is not opened: the world behind a byte's row -/
def oneRow (w : World) (k : Nat) : World := w.alloc (.cells #[.int .u8 k] 5)

set_option maxRecDepth 100000 in
set_option maxHeartbeats 8000000 in
theorem pbytes_any (k : Nat) (x : Int) (w : World) (hk : k < 256) (hm : MaxL w) :
    Calls Tryd.prog 4 #[.int .u8 k, .int .i64 x] w fun e w' => e = .returned (.bool true) ∧ Grows w w' := by
  obtain ⟨N, hN0, hN1, hN⟩ := count_of x
  have hconv : (convert 29 9 (.slice (some ⟨w.heap.size, 0, none⟩) 1 1)).run Tryd.prog (w.alloc (.cells #[.int .u8 k] 5)) = .ok (.string (oneB k)) (w.alloc (.cells #[.int .u8 k] 5)) := run_convert_bytes_back (P := Tryd.prog) (w.alloc (.cells #[.int .u8 k] 5)) 29 9 5 ⟨w.heap.size, 0, none⟩ 1 [UInt8.ofNat k] Tryd.underlying29 Tryd.underlying5 Tryd.underlying9 (by
    intro j hj
    have hj0 : j = 0 := by simp at hj; omega
    subst hj0
    rw [adr_zero', cell_of_row _ _ _ _ _ _ (heap_alloc_new w _)]
    simp only [List.getElem_cons_zero, UInt8.toNat_ofNat', Nat.mod_eq_of_lt hk]
    rfl)
  have hg1 : Grows w (w.alloc (.cells #[.int .u8 k] 5)) := (Grows.refl w).alloc _
  have HM1 := Lib.hid (hm.grows hg1)
  have HG1 := Lib.hid hg1
  clear hg1
  have HM := Lib.hid hm; clear hm
  have HLR := Lib.hid (long_right hN0 hN1)
  go_enter Tryd.func4, Tryd.ntmps4
  go_wp2_with fail
  rw [hN]
  clear hN
  go_loopg [6, 5] N (fun gk q s wr => w = wr ∧ ∃ i : Nat, q = .int .i64 i ∧ s = .string (longA i) ∧ i ≤ N ∧ gk = N - i)
  case atStart => exact ⟨rfl, 0, rfl, rfl, by omega, rfl⟩
  case round =>
    obtain ⟨rfl, i, rfl, rfl, hi, hgk⟩ := hrel
    have HG := Lib.hid hgk; clear hgk
    by_cases hlt : i < N
    · have q0 : (0 : Int) ≤ i := by omega
      have q1 : (i : Int) < N := by omega
      have zl := long_size i
      have hn := Lib.hid (show Value.string (longA i ++ ⟨#[97]⟩) = .string (longA (i + 1)) from rfl)
      go_wp2_with fail
      go_roundg (N - (i + 1))
      case measure => rw [HG.out]; omega
      case rel => exact ⟨rfl, i + 1, by go_num, hn.out, by omega, rfl⟩
    · have hin : i = N := by omega
      subst hin
      by_cases b1 : k < 33
      · have b1' : ¬ ((k : Int) ≥ 33) := by omega
        have H1 := Lib.hid (show rightP (oneB k) = false by rw [one_right hk]; simp [oneOk]; omega)
        go_wp2_with fail
        refine (right_any (oneB k) _ HM1.out).mono ?_
        rw [H1.out]
        rintro e w2 ⟨rfl, hg⟩
        have hm2 := Lib.hid (HM1.out.grows hg)
        have hg2 := Lib.hid (HG1.out.trans hg)
        clear hg
        go_wp2_with fail
        refine (pawake_any w2 hm2.out).mono ?_
        rintro e w3 ⟨rfl, hg⟩
        have hm3 := Lib.hid (hm2.out.grows hg)
        have hg3 := Lib.hid (hg2.out.trans hg)
        clear hg
        go_wp2_with fail
        refine (right_any (longA i) w3 hm3.out).mono ?_
        rw [HLR.out]
        rintro e w4 ⟨rfl, hg⟩
        have hm4 := Lib.hid (hm3.out.grows hg)
        have hg4 := Lib.hid (hg3.out.trans hg)
        clear hg
        go_wp2_with fail
        refine (right_any pDot w4 hm4.out).mono ?_
        rw [r_dot]
        rintro e w5 ⟨rfl, hg⟩
        have hm5 := Lib.hid (hm4.out.grows hg)
        have hg5 := Lib.hid (hg4.out.trans hg)
        clear hg
        go_wp2_with fail
        refine (right_any pDots w5 hm5.out).mono ?_
        rw [r_dots]
        rintro e w6 ⟨rfl, hg⟩
        have hm6 := Lib.hid (hm5.out.grows hg)
        have hg6 := Lib.hid (hg5.out.trans hg)
        clear hg
        go_wp2_with fail
        refine (right_any pThree w6 hm6.out).mono ?_
        rw [r_three]
        rintro e w7 ⟨rfl, hg⟩
        have hm7 := Lib.hid (hm6.out.grows hg)
        have hg7 := Lib.hid (hg6.out.trans hg)
        clear hg
        go_wp2_with fail
        refine (right_any pADB w7 hm7.out).mono ?_
        rw [r_ab]
        rintro e w8 ⟨rfl, hg⟩
        have hm8 := Lib.hid (hm7.out.grows hg)
        have hg8 := Lib.hid (hg7.out.trans hg)
        clear hg
        go_wp2_with fail
        go_ret
        exact ⟨rfl, hg8.out⟩
      · have b1' : (k : Int) ≥ 33 := by omega
        by_cases b2 : 126 < k
        · have b2' : ¬ ((k : Int) ≤ 126) := by omega
          have H1 := Lib.hid (show rightP (oneB k) = false by rw [one_right hk]; simp [oneOk]; omega)
          go_wp2_with fail
          refine (right_any (oneB k) _ HM1.out).mono ?_
          rw [H1.out]
          rintro e w2 ⟨rfl, hg⟩
          have hm2 := Lib.hid (HM1.out.grows hg)
          have hg2 := Lib.hid (HG1.out.trans hg)
          clear hg
          go_wp2_with fail
          refine (pawake_any w2 hm2.out).mono ?_
          rintro e w3 ⟨rfl, hg⟩
          have hm3 := Lib.hid (hm2.out.grows hg)
          have hg3 := Lib.hid (hg2.out.trans hg)
          clear hg
          go_wp2_with fail
          refine (right_any (longA i) w3 hm3.out).mono ?_
          rw [HLR.out]
          rintro e w4 ⟨rfl, hg⟩
          have hm4 := Lib.hid (hm3.out.grows hg)
          have hg4 := Lib.hid (hg3.out.trans hg)
          clear hg
          go_wp2_with fail
          refine (right_any pDot w4 hm4.out).mono ?_
          rw [r_dot]
          rintro e w5 ⟨rfl, hg⟩
          have hm5 := Lib.hid (hm4.out.grows hg)
          have hg5 := Lib.hid (hg4.out.trans hg)
          clear hg
          go_wp2_with fail
          refine (right_any pDots w5 hm5.out).mono ?_
          rw [r_dots]
          rintro e w6 ⟨rfl, hg⟩
          have hm6 := Lib.hid (hm5.out.grows hg)
          have hg6 := Lib.hid (hg5.out.trans hg)
          clear hg
          go_wp2_with fail
          refine (right_any pThree w6 hm6.out).mono ?_
          rw [r_three]
          rintro e w7 ⟨rfl, hg⟩
          have hm7 := Lib.hid (hm6.out.grows hg)
          have hg7 := Lib.hid (hg6.out.trans hg)
          clear hg
          go_wp2_with fail
          refine (right_any pADB w7 hm7.out).mono ?_
          rw [r_ab]
          rintro e w8 ⟨rfl, hg⟩
          have hm8 := Lib.hid (hm7.out.grows hg)
          have hg8 := Lib.hid (hg7.out.trans hg)
          clear hg
          go_wp2_with fail
          go_ret
          exact ⟨rfl, hg8.out⟩
        · have b2' : (k : Int) ≤ 126 := by omega
          by_cases b3 : k = 46
          · have b3' : ((k : Int) != 46) = false := by rw [b3]; rfl
            have H1 := Lib.hid (show rightP (oneB k) = false by rw [one_right hk]; simp [oneOk]; omega)
            clear b3
            go_wp2_with fail
            refine (right_any (oneB k) _ HM1.out).mono ?_
            rw [H1.out]
            rintro e w2 ⟨rfl, hg⟩
            have hm2 := Lib.hid (HM1.out.grows hg)
            have hg2 := Lib.hid (HG1.out.trans hg)
            clear hg
            go_wp2_with fail
            refine (pawake_any w2 hm2.out).mono ?_
            rintro e w3 ⟨rfl, hg⟩
            have hm3 := Lib.hid (hm2.out.grows hg)
            have hg3 := Lib.hid (hg2.out.trans hg)
            clear hg
            go_wp2_with fail
            refine (right_any (longA i) w3 hm3.out).mono ?_
            rw [HLR.out]
            rintro e w4 ⟨rfl, hg⟩
            have hm4 := Lib.hid (hm3.out.grows hg)
            have hg4 := Lib.hid (hg3.out.trans hg)
            clear hg
            go_wp2_with fail
            refine (right_any pDot w4 hm4.out).mono ?_
            rw [r_dot]
            rintro e w5 ⟨rfl, hg⟩
            have hm5 := Lib.hid (hm4.out.grows hg)
            have hg5 := Lib.hid (hg4.out.trans hg)
            clear hg
            go_wp2_with fail
            refine (right_any pDots w5 hm5.out).mono ?_
            rw [r_dots]
            rintro e w6 ⟨rfl, hg⟩
            have hm6 := Lib.hid (hm5.out.grows hg)
            have hg6 := Lib.hid (hg5.out.trans hg)
            clear hg
            go_wp2_with fail
            refine (right_any pThree w6 hm6.out).mono ?_
            rw [r_three]
            rintro e w7 ⟨rfl, hg⟩
            have hm7 := Lib.hid (hm6.out.grows hg)
            have hg7 := Lib.hid (hg6.out.trans hg)
            clear hg
            go_wp2_with fail
            refine (right_any pADB w7 hm7.out).mono ?_
            rw [r_ab]
            rintro e w8 ⟨rfl, hg⟩
            have hm8 := Lib.hid (hm7.out.grows hg)
            have hg8 := Lib.hid (hg7.out.trans hg)
            clear hg
            go_wp2_with fail
            go_ret
            exact ⟨rfl, hg8.out⟩
          · have b3' : ((k : Int) != 46) = true := by rw [bne_iff_ne]; omega
            by_cases b4 : k = 47
            · have b4' : ((k : Int) != 47) = false := by rw [b4]; rfl
              have H1 := Lib.hid (show rightP (oneB k) = false by rw [one_right hk]; simp [oneOk]; omega)
              clear b4
              go_wp2_with fail
              refine (right_any (oneB k) _ HM1.out).mono ?_
              rw [H1.out]
              rintro e w2 ⟨rfl, hg⟩
              have hm2 := Lib.hid (HM1.out.grows hg)
              have hg2 := Lib.hid (HG1.out.trans hg)
              clear hg
              go_wp2_with fail
              refine (pawake_any w2 hm2.out).mono ?_
              rintro e w3 ⟨rfl, hg⟩
              have hm3 := Lib.hid (hm2.out.grows hg)
              have hg3 := Lib.hid (hg2.out.trans hg)
              clear hg
              go_wp2_with fail
              refine (right_any (longA i) w3 hm3.out).mono ?_
              rw [HLR.out]
              rintro e w4 ⟨rfl, hg⟩
              have hm4 := Lib.hid (hm3.out.grows hg)
              have hg4 := Lib.hid (hg3.out.trans hg)
              clear hg
              go_wp2_with fail
              refine (right_any pDot w4 hm4.out).mono ?_
              rw [r_dot]
              rintro e w5 ⟨rfl, hg⟩
              have hm5 := Lib.hid (hm4.out.grows hg)
              have hg5 := Lib.hid (hg4.out.trans hg)
              clear hg
              go_wp2_with fail
              refine (right_any pDots w5 hm5.out).mono ?_
              rw [r_dots]
              rintro e w6 ⟨rfl, hg⟩
              have hm6 := Lib.hid (hm5.out.grows hg)
              have hg6 := Lib.hid (hg5.out.trans hg)
              clear hg
              go_wp2_with fail
              refine (right_any pThree w6 hm6.out).mono ?_
              rw [r_three]
              rintro e w7 ⟨rfl, hg⟩
              have hm7 := Lib.hid (hm6.out.grows hg)
              have hg7 := Lib.hid (hg6.out.trans hg)
              clear hg
              go_wp2_with fail
              refine (right_any pADB w7 hm7.out).mono ?_
              rw [r_ab]
              rintro e w8 ⟨rfl, hg⟩
              have hm8 := Lib.hid (hm7.out.grows hg)
              have hg8 := Lib.hid (hg7.out.trans hg)
              clear hg
              go_wp2_with fail
              go_ret
              exact ⟨rfl, hg8.out⟩
            · have b4' : ((k : Int) != 47) = true := by rw [bne_iff_ne]; omega
              have H1 := Lib.hid (show rightP (oneB k) = true by rw [one_right hk]; simp [oneOk]; omega)
              go_wp2_with fail
              refine (right_any (oneB k) _ HM1.out).mono ?_
              rw [H1.out]
              rintro e w2 ⟨rfl, hg⟩
              have hm2 := Lib.hid (HM1.out.grows hg)
              have hg2 := Lib.hid (HG1.out.trans hg)
              clear hg
              go_wp2_with fail
              refine (pawake_any w2 hm2.out).mono ?_
              rintro e w3 ⟨rfl, hg⟩
              have hm3 := Lib.hid (hm2.out.grows hg)
              have hg3 := Lib.hid (hg2.out.trans hg)
              clear hg
              go_wp2_with fail
              refine (right_any (longA i) w3 hm3.out).mono ?_
              rw [HLR.out]
              rintro e w4 ⟨rfl, hg⟩
              have hm4 := Lib.hid (hm3.out.grows hg)
              have hg4 := Lib.hid (hg3.out.trans hg)
              clear hg
              go_wp2_with fail
              refine (right_any pDot w4 hm4.out).mono ?_
              rw [r_dot]
              rintro e w5 ⟨rfl, hg⟩
              have hm5 := Lib.hid (hm4.out.grows hg)
              have hg5 := Lib.hid (hg4.out.trans hg)
              clear hg
              go_wp2_with fail
              refine (right_any pDots w5 hm5.out).mono ?_
              rw [r_dots]
              rintro e w6 ⟨rfl, hg⟩
              have hm6 := Lib.hid (hm5.out.grows hg)
              have hg6 := Lib.hid (hg5.out.trans hg)
              clear hg
              go_wp2_with fail
              refine (right_any pThree w6 hm6.out).mono ?_
              rw [r_three]
              rintro e w7 ⟨rfl, hg⟩
              have hm7 := Lib.hid (hm6.out.grows hg)
              have hg7 := Lib.hid (hg6.out.trans hg)
              clear hg
              go_wp2_with fail
              refine (right_any pADB w7 hm7.out).mono ?_
              rw [r_ab]
              rintro e w8 ⟨rfl, hg⟩
              have hm8 := Lib.hid (hm7.out.grows hg)
              have hg8 := Lib.hid (hg7.out.trans hg)
              clear hg
              go_wp2_with fail
              go_ret
              exact ⟨rfl, hg8.out⟩
end Go.Proofs.YtmfgbkbbmeedjaaDoor
