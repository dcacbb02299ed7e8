/- ChunkNone: of three that have nothing firm there is one chunk, or none. -/
import Derived.Test.YtlimfndipapfdaaChunkOne
namespace Go.Proofs.Ytlimfndipapfdaa
open Go.RowKit Go.Deep Go.MapKept

theorem inS_false {xs : List ByteArray} {x : ByteArray} (h : x ∉ xs) : inS xs x = false := by
  cases h1 : inS xs x with
  | false => rfl
  | true => exact absurd (inS_iff.1 h1) h
theorem inS_v (v : Bool) (B : Nat) (A : Option Addr) (n c : Nat) (xs : List ByteArray) (x : ByteArray) (w : World) (hv : inS xs x = v) (h : Reads w B 1 A n (strs xs)) (hn : n ≤ 1000000000000) :
    Calls Try.prog 19 #[.slice A n c, .string x] w fun e w' => e = .returned (.bool v) ∧ w = w' := by
  subst hv
  exact inS_any B A n c xs x w h hn
theorem gs_mem {xs : List ByteArray} {k : Nat} (h : k < xs.length) : xs[k]? = some (gs xs k) := by
  rw [gs_def]
  simp [List.getD_eq_getElem?_getD, List.getElem?_eq_getElem h]

set_option maxRecDepth 100000 in
set_option maxHeartbeats 4000000 in
theorem cnone_any (A0 A1 A2 : Option Addr) (n0 c0 n1 c1 n2 c2 : Nat) (x0 x1 x2 : List ByteArray) (w : World) (hr0 : Reads w w.heap.size 1 A0 n0 (strs x0)) (hn0 : n0 ≤ c0) (hc0 : c0 ≤ maxLen) (hr1 : Reads w w.heap.size 1 A1 n1 (strs x1)) (hn1 : n1 ≤ c1) (hc1 : c1 ≤ maxLen) (hr2 : Reads w w.heap.size 1 A2 n2 (strs x2)) (hn2 : n2 ≤ c2) (hc2 : c2 ≤ maxLen) :
    Calls Try.prog 14 #[.slice A0 n0 c0, .slice A1 n1 c1, .slice A2 n2 c2] w fun e w' => e = .returned (.bool true) ∧ Grows w w' := by
  have L0 := Lib.hid hr0.strLen
  have L1 := Lib.hid hr1.strLen
  have L2 := Lib.hid hr2.strLen
  have H0 := Lib.hid hr0
  have H1 := Lib.hid hr1
  have H2 := Lib.hid hr2
  clear hr0 hr1 hr2
  go_enter Try.func14, Try.ntmps14
  by_cases hfew : n0 ≤ 60 ∧ n1 ≤ 60 ∧ n2 ≤ 60
  · have HD := Lib.hid (show decide (n0 ≤ 60 ∧ n1 ≤ 60 ∧ n2 ≤ 60) = true from decide_eq_true hfew)
    obtain ⟨g0, g1, g2⟩ := hfew
    go_wp2_with fail
    refine (few_v true A0 A1 A2 n0 n1 n2 c0 c1 c2 w HD.out).mono ?_
    rintro e _ ⟨rfl, rfl⟩
    go_wp2_with fail
    go_loopg [7] n0 (fun gk q wr => w = wr ∧ ∃ k : Nat, q = .int .i64 k ∧ k ≤ n0 ∧ gk = n0 - k ∧ ∀ j, j < k → gs x0 j ∉ x1)
    case atStart => exact ⟨rfl, 0, rfl, by omega, rfl, fun j hj => absurd hj (by omega)⟩
    case round =>
      obtain ⟨rfl, k, rfl, hk, hgk, hno⟩ := hrel
      have HG := Lib.hid hgk; clear hgk
      have HN := Lib.hid hno; clear hno
      by_cases hlt : k < n0
      · obtain ⟨ad, rfl, had, hc⟩ := H0.out.str hlt
        have k0 : (0 : Int) ≤ k := by omega
        have k1 : (k : Int) < n0 := by omega
        by_cases hin : gs x0 k ∈ x1
        · have HI := Lib.hid (inS_iff.2 hin)
          clear hin
          go_wp2_with fail
          refine (inS_v true w.heap.size A1 n1 c1 x1 _ w HI.out H1.out (by omega)).mono ?_
          rintro e _ ⟨rfl, rfl⟩
          go_wp2_with fail
          refine (cawake_any w).mono ?_
          rintro e w1 ⟨rfl, hg⟩
          go_wp2_with fail
          go_ret
          exact ⟨rfl, hg⟩
        · have HI := Lib.hid (inS_false hin)
          by_cases hin2 : gs x0 k ∈ x2
          · have HI2 := Lib.hid (inS_iff.2 hin2)
            clear hin hin2
            go_wp2_with fail
            refine (inS_v false w.heap.size A1 n1 c1 x1 _ w HI.out H1.out (by omega)).mono ?_
            rintro e _ ⟨rfl, rfl⟩
            go_wp2_with fail
            refine (inS_v true w.heap.size A2 n2 c2 x2 _ w HI2.out H2.out (by omega)).mono ?_
            rintro e _ ⟨rfl, rfl⟩
            go_wp2_with fail
            refine (cawake_any w).mono ?_
            rintro e w1 ⟨rfl, hg⟩
            go_wp2_with fail
            go_ret
            exact ⟨rfl, hg⟩
          · have HI2 := Lib.hid (inS_false hin2)
            have HN2 := Lib.hid (show ∀ j, j < k + 1 → gs x0 j ∉ x1 from fun j hj => by
              rcases Nat.lt_or_ge j k with h | h
              · exact HN.out j h
              · obtain rfl : j = k := by omega
                exact hin)
            clear hin hin2
            go_wp2_with fail
            refine (inS_v false w.heap.size A1 n1 c1 x1 _ w HI.out H1.out (by omega)).mono ?_
            rintro e _ ⟨rfl, rfl⟩
            go_wp2_with fail
            refine (inS_v false w.heap.size A2 n2 c2 x2 _ w HI2.out H2.out (by omega)).mono ?_
            rintro e _ ⟨rfl, rfl⟩
            go_wp2_with fail
            go_roundg (n0 - (k + 1))
            case measure => rw [HG.out]; omega
            case rel => exact ⟨rfl, k + 1, by go_num, by omega, rfl, HN2.out⟩
      · have hkn : k = n0 := by omega
        have HCH := Lib.hid (show chunks x0 x1 x2 = pieceC x0 x1 x2 from chunks_none (fun x hx => by
          obtain ⟨j, hj, rfl⟩ := List.getElem_of_mem hx
          have h1 := HN.out j (by rw [hkn, ← L0.out]; exact hj)
          have h2 := gs_mem hj
          rw [List.getElem?_eq_getElem hj] at h2
          injection h2 with h2
          rw [h2]
          exact h1))
        have k0 : (0 : Int) ≤ n0 := by omega
        have k1 : (0 : Int) ≤ n1 := by omega
        have k2 : (0 : Int) ≤ n2 := by omega
        have k3 : (n0 : Int) ≤ 60 := by omega
        have k4 : (n1 : Int) ≤ 60 := by omega
        have k5 : (n2 : Int) ≤ 60 := by omega
        go_wp2_with fail
        refine (of_v _ w.heap.size w.heap.size w.heap.size n0 n1 n2 c0 c1 c2 A0 A1 A2 x0 x1 x2 w HCH.out H0.out H1.out H2.out (Nat.le_refl _) (Nat.le_refl _) (Nat.le_refl _) (by omega) (by omega) (by omega) hn0 hn1 hn2 hc0 hc1 hc2).mono ?_
        rintro e w1 ⟨B1, m1, q1, rfl, hC1, hg1, hq1, hqM1⟩
        by_cases hz : n0 + n1 + n2 = 0
        · have hpe : pieceC x0 x1 x2 = [] := by unfold pieceC; rw [if_pos (by rw [L0.out, L1.out, L2.out]; exact hz)]
          have hm := hC1.len
          rw [hpe] at hm
          have hm0 : m1 = 0 := hm.symm
          subst hm0
          have hzz : ((n0 : Int) + n1 + n2 == 0) = true := by simp; omega
          clear hC1 hm hpe hlt
          go_wp2_with fail
          refine (cawake_any w1).mono ?_
          rintro e w2 ⟨rfl, hg2⟩
          have hg2 := hg1.trans hg2
          go_wp2_with fail
          go_ret
          exact ⟨rfl, hg2⟩
        · have hpe : pieceC x0 x1 x2 = [(knd x0 x1 x2, x0, x1, x2)] := by unfold pieceC; rw [if_neg (by rw [L0.out, L1.out, L2.out]; exact hz)]
          rw [hpe] at hC1
          have hm := hC1.len
          have hm0 : m1 = 1 := hm.symm
          subst hm0
          have hzz : ((n0 : Int) + n1 + n2 == 0) = false := by simp; omega
          have HC1 := Lib.hid hC1
          clear hC1 hm hpe hlt hz
          go_wp2_with fail
          refine (cawake_any w1).mono ?_
          rintro e w2 ⟨rfl, hg2⟩
          have hC2 := HC1.out.grows (Nat.le_refl _) hg2
          obtain ⟨ad, rfl, had, hk0, ⟨E1, p1, q1', hp1, hr1⟩, ⟨E2, p2, q2', hp2, hr2⟩, ⟨E3, p3, q3', hp3, hr3⟩⟩ := hC2.at_ (k := 0) (by omega)
          have e0 : gch [(knd x0 x1 x2, x0, x1, x2)] 0 = (knd x0 x1 x2, x0, x1, x2) := rfl
          rw [e0] at hr1 hr2 hr3
          simp only [Nat.zero_mul, addr_add_zero] at hp1 hp2 hp3
          have hg2 := hg1.trans hg2
          have R1 := Lib.hid hr1
          have R2 := Lib.hid hr2
          have R3 := Lib.hid hr3
          clear hr1 hr2 hr3 hk0 hC2 e0
          go_wp2_with fail
          refine (plainS_eq w1.heap.size w.heap.size E1 A0 p1 n0 q1' c0 x0 w2 R1.out (H0.out.grows (Nat.le_refl _) hg2) (by have := R1.out.strLen; rw [L0.out] at this; omega)).mono ?_
          rintro e w3 ⟨rfl, d3, rfl⟩
          go_wp2_with fail
          refine (plainS_eq w1.heap.size w.heap.size E2 A1 p2 n1 q2' c1 x1 (w2.drewN d3) (R2.out.drewN _) ((H1.out.grows (Nat.le_refl _) hg2).drewN _) (by have := R2.out.strLen; rw [L1.out] at this; omega)).mono ?_
          rintro e w4 ⟨rfl, d4, rfl⟩
          go_wp2_with fail
          refine (plainS_eq w1.heap.size w.heap.size E3 A2 p3 n2 q3' c2 x2 (w2.drewN (d3 + d4)) (R3.out.drewN _) ((H2.out.grows (Nat.le_refl _) hg2).drewN _) (by have := R3.out.strLen; rw [L2.out] at this; omega)).mono ?_
          rintro e w5 ⟨rfl, d5, rfl⟩
          go_wp2_with fail
          go_ret
          exact ⟨rfl, hg2.drewN _⟩
  · have HD := Lib.hid (show decide (n0 ≤ 60 ∧ n1 ≤ 60 ∧ n2 ≤ 60) = false from decide_eq_false hfew)
    clear hfew
    go_wp2_with fail
    refine (few_v false A0 A1 A2 n0 n1 n2 c0 c1 c2 w HD.out).mono ?_
    rintro e _ ⟨rfl, rfl⟩
    go_wp2_with fail
    refine (cawake_any w).mono ?_
    rintro e w1 ⟨rfl, hg⟩
    go_wp2_with fail
    go_ret
    exact ⟨rfl, hg⟩

end Go.Proofs.Ytlimfndipapfdaa
