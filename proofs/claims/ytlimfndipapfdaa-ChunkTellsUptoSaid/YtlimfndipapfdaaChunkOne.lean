/- ChunkOne: where one side is as base, or both are alike. -/
import Derived.Test.YtlimfndipapfdaaChunkAwake
namespace Go.Proofs.Ytlimfndipapfdaa
open Go.RowKit Go.Deep Go.MapKept

/-- chunks of three, told to be l -/
theorem of_v (l : List ChkB) (Ba Bb Bc na nb nc ca cb cc : Nat) (A1 A2 A3 : Option Addr) (a b c : List ByteArray) (w : World) (hl : chunks a b c = l)
    (ha : Reads w Ba 1 A1 na (strs a)) (hb : Reads w Bb 1 A2 nb (strs b)) (hc : Reads w Bc 1 A3 nc (strs c)) (hBa : Ba ≤ w.heap.size) (hBb : Bb ≤ w.heap.size) (hBc : Bc ≤ w.heap.size)
    (hna : na ≤ 400) (hnb : nb ≤ 400) (hnc : nc ≤ 400) (hca : na ≤ ca) (hcb : nb ≤ cb) (hcc : nc ≤ cc) (hcaM : ca ≤ maxLen) (hcbM : cb ≤ maxLen) (hccM : cc ≤ maxLen) :
    Calls Try.prog 34 #[.slice A1 na ca, .slice A2 nb cb, .slice A3 nc cc] w fun e w' => ∃ A n q, e = .returned (.slice A n q) ∧ ChunksN w' w'.heap.size A n l ∧ Grows w w' ∧ n ≤ q ∧ q ≤ maxLen := by
  subst hl
  exact of_any Ba Bb Bc na nb nc ca cb cc A1 A2 A3 a b c w ha hb hc hBa hBb hBc hna hnb hnc hca hcb hcc hcaM hcbM hccM
/-- chunks are no more than lines, and one, each -/
theorem merged_v (m : List ByteArray) (B : Nat) (A : Option Addr) (n c : Nat) (l : List ChkB) (w : World) (hm : mergeC l = m) (hx : ChunksN w B A n l) (hB : B ≤ w.heap.size) (hn : n ≤ 1000000000) (hM : ∀ k, (mergeC (l.take k)).length ≤ 1000000000) :
    Calls Try.prog 39 #[.slice A n c] w fun e w' => ∃ A' c', e = .returned (.slice A' m.length c') ∧ m.length ≤ c' ∧ c' ≤ maxLen ∧ Reads w' w'.heap.size 1 A' m.length (strs m) ∧ Grows w w' := by
  subst hm
  refine (merged_any B A n c l w hx hB hn (fun k _ => hM k)).mono ?_
  rintro e w' ⟨v, rfl, hown, hg⟩
  obtain ⟨A', c', rfl, h1, h2⟩ := own_form hown
  exact ⟨A', c', rfl, h1, h2, Reads.of_own hown, hg⟩
theorem clean_v (v : Bool) (B : Nat) (A : Option Addr) (n c : Nat) (l : List ChkB) (w : World) (hv : cleanC l = v) (hx : ChunksN w B A n l) (hB : B ≤ w.heap.size) (hn : n ≤ maxLen) :
    Calls Try.prog 37 #[.slice A n c] w fun e w' => e = .returned (.bool v) ∧ Grows w w' := by
  subst hv
  exact clean_any B A n c l w hx hB hn
theorem few_v (v : Bool) (A1 A2 A3 : Option Addr) (n1 n2 n3 c1 c2 c3 : Nat) (w : World) (hv : decide (n1 ≤ 60 ∧ n2 ≤ 60 ∧ n3 ≤ 60) = v) :
    Calls Try.prog 31 #[.slice A1 n1 c1, .slice A2 n2 c2, .slice A3 n3 c3] w fun e w' => e = .returned (.bool v) ∧ w = w' := by
  subst hv
  exact few_any A1 A2 A3 n1 n2 n3 c1 c2 c3 w
theorem ChunksN.len {w : World} {B n : Nat} {A : Option Addr} {l : List ChkB} (h : ChunksN w B A n l) : l.length = n := h.1
theorem pieceC_len1 (x y z : List ByteArray) : (pieceC x y z).length ≤ 1 := pieceC_len x y z
theorem chunks_len (a b c : List ByteArray) : (chunks a b c).length ≤ 2 * a.length + 1 := by
  have := chGo_ind (a := a) (b := b) (c := c) (M := fun i _ _ _ l => l.length ≤ 2 * (a.length - i) + 1) (fun p o t _ => by have := pieceC_len (a.drop p) (b.drop o) (c.drop t); omega)
    (fun i p o t l _ hi _ hl => by omega)
    (fun i p o t x y l _ hi _ _ _ _ hl => by
      have h1 := pieceC_len (seg a p i) (seg b o x) (seg c t y)
      have h2 := runN_pos a b c i
      rw [List.length_append, List.length_cons]
      omega) a.length 0 0 0 0 (by omega) (AtC.start a b c)
  exact this

set_option maxRecDepth 100000 in
set_option maxHeartbeats 4000000 in
theorem cone_any (A0 A1 : Option Addr) (n0 c0 n1 c1 : Nat) (x0 x1 : List ByteArray) (w : World) (hr0 : Reads w w.heap.size 1 A0 n0 (strs x0)) (hn0 : n0 ≤ c0) (hc0 : c0 ≤ maxLen) (hr1 : Reads w w.heap.size 1 A1 n1 (strs x1)) (hn1 : n1 ≤ c1) (hc1 : c1 ≤ maxLen) :
    Calls Try.prog 11 #[.slice A0 n0 c0, .slice A1 n1 c1] w fun e w' => e = .returned (.bool true) ∧ Grows w w' := by
  have L0 := Lib.hid hr0.strLen
  have L1 := Lib.hid hr1.strLen
  have H0 := Lib.hid hr0
  have H1 := Lib.hid hr1
  clear hr0 hr1
  go_enter Try.func11, Try.ntmps11
  by_cases hfew : n0 ≤ 60 ∧ n1 ≤ 60
  · obtain ⟨g0, g1⟩ := hfew
    have HD := Lib.hid (show decide (n0 ≤ 60 ∧ n1 ≤ 60 ∧ 0 ≤ 60) = true from decide_eq_true ⟨g0, g1, by omega⟩)
    go_wp2_with fail
    refine (few_v true A0 A1 none n0 n1 0 c0 c1 0 w HD.out).mono ?_
    rintro e _ ⟨rfl, rfl⟩
    go_wp2_with fail
    obtain ⟨l1, hl1⟩ : ∃ l, chunks x0 x0 x1 = l := ⟨_, rfl⟩
    obtain ⟨l2, hl2⟩ : ∃ l, chunks x0 x1 x0 = l := ⟨_, rfl⟩
    obtain ⟨l3, hl3⟩ : ∃ l, chunks x0 x1 x1 = l := ⟨_, rfl⟩
    have E1 := Lib.hid hl1
    have E2 := Lib.hid hl2
    have E3 := Lib.hid hl3
    have o1 := one_ours x0 x1
    have o2 := one_theirs x0 x1
    have o3 := one_both x0 x1
    rw [hl1] at o1
    rw [hl2] at o2
    rw [hl3] at o3
    have M1 := Lib.hid (fun k => Nat.le_trans (hl1 ▸ merge_chunks x0 x0 x1 k) (show x0.length + x1.length ≤ 1000000000 by rw [L0.out, L1.out]; omega))
    have M2 := Lib.hid (fun k => Nat.le_trans (hl2 ▸ merge_chunks x0 x1 x0 k) (show x1.length + x0.length ≤ 1000000000 by rw [L0.out, L1.out]; omega))
    have M3 := Lib.hid (fun k => Nat.le_trans (hl3 ▸ merge_chunks x0 x1 x1 k) (show x1.length + x1.length ≤ 1000000000 by rw [L1.out]; omega))
    have N1 := chunks_len x0 x0 x1
    have N2 := chunks_len x0 x1 x0
    have N3 := chunks_len x0 x1 x1
    rw [hl1, L0.out] at N1
    rw [hl2, L0.out] at N2
    rw [hl3, L0.out] at N3
    have O1 := Lib.hid o1
    have O2 := Lib.hid o2
    have O3 := Lib.hid o3
    clear o1 o2 o3 hl1 hl2 hl3
    refine (of_v l1 w.heap.size w.heap.size w.heap.size n0 n0 n1 c0 c0 c1 A0 A0 A1 x0 x0 x1 w E1.out H0.out H0.out H1.out (Nat.le_refl _) (Nat.le_refl _) (Nat.le_refl _) (by omega) (by omega) (by omega) hn0 hn0 hn1 hc0 hc0 hc1).mono ?_
    rintro e w1 ⟨B1, m1, q1, rfl, hC1, hg1, hq1, hqM1⟩
    have k1 := hC1.len
    go_wp2_with fail
    refine (of_v l2 w.heap.size w.heap.size w.heap.size n0 n1 n0 c0 c1 c0 A0 A1 A0 x0 x1 x0 w1 E2.out (H0.out.grows (Nat.le_refl _) hg1) (H1.out.grows (Nat.le_refl _) hg1) (H0.out.grows (Nat.le_refl _) hg1) hg1.size hg1.size hg1.size (by omega) (by omega) (by omega) hn0 hn1 hn0 hc0 hc1 hc0).mono ?_
    rintro e w2 ⟨B2, m2, q2, rfl, hC2, hg2, hq2, hqM2⟩
    have k2 := hC2.len
    have hC1 := hC1.grows (Nat.le_refl _) hg2
    have z1 := hg2.size
    have hg2 := hg1.trans hg2
    go_wp2_with fail
    refine (of_v l3 w.heap.size w.heap.size w.heap.size n0 n1 n1 c0 c1 c1 A0 A1 A1 x0 x1 x1 w2 E3.out (H0.out.grows (Nat.le_refl _) hg2) (H1.out.grows (Nat.le_refl _) hg2) (H1.out.grows (Nat.le_refl _) hg2) hg2.size hg2.size hg2.size (by omega) (by omega) (by omega) hn0 hn1 hn1 hc0 hc1 hc1).mono ?_
    rintro e w3 ⟨B3, m3, q3, rfl, hC3, hg3, hq3, hqM3⟩
    have k3 := hC3.len
    have C1 := Lib.hid (hC1.grows z1 hg3)
    have C2 := Lib.hid (hC2.grows (Nat.le_refl _) hg3)
    have C3 := Lib.hid hC3
    have z2 : w1.heap.size ≤ w3.heap.size := Nat.le_trans z1 hg3.size
    have z3 := hg3.size
    have hg := hg2.trans hg3
    clear hC1 hC2 hC3 hg1 hg2 hg3 z1 E1 E2 E3
    go_wp2_with fail
    refine (cawake_any w3).mono ?_
    rintro e w4 ⟨rfl, h4⟩
    have hg4 := hg.trans h4
    go_wp2_with fail
    refine (clean_v true w1.heap.size B1 m1 q1 l1 w4 O1.out.1 (C1.out.grows z2 h4) (Nat.le_trans z2 h4.size) (Nat.le_trans hq1 hqM1)).mono ?_
    rintro e w5 ⟨rfl, h5⟩
    have h5 := h4.trans h5
    go_wp2_with fail
    refine (clean_v true w2.heap.size B2 m2 q2 l2 w5 O2.out.1 (C2.out.grows z3 h5) (Nat.le_trans z3 h5.size) (Nat.le_trans hq2 hqM2)).mono ?_
    rintro e w6 ⟨rfl, h6⟩
    have h6 := h5.trans h6
    go_wp2_with fail
    refine (clean_v true w3.heap.size B3 m3 q3 l3 w6 O3.out.1 (C3.out.grows (Nat.le_refl _) h6) h6.size (Nat.le_trans hq3 hqM3)).mono ?_
    rintro e w7 ⟨rfl, h7⟩
    have h7 := h6.trans h7
    clear h4 h5 h6 hg4
    go_wp2_with fail
    refine (merged_v x1 w1.heap.size B1 m1 q1 l1 w7 O1.out.2 (C1.out.grows z2 h7) (Nat.le_trans z2 h7.size) (by omega) M1.out).mono ?_
    rintro e w8 ⟨A8, c8, rfl, _, _, hr8, h8⟩
    have h8 := h7.trans h8
    go_wp2_with fail
    refine (plainS_eq w8.heap.size w.heap.size A8 A1 x1.length n1 c8 c1 x1 w8 hr8 (H1.out.grows (Nat.le_refl _) (hg.trans h8)) (by rw [L1.out]; omega)).mono ?_
    rintro e w9 ⟨rfl, d, rfl⟩
    have h9 := h8.drewN d
    clear hr8 h8 h7
    generalize w8.drewN d = w9 at h9 ⊢
    go_wp2_with fail
    refine (merged_v x1 w2.heap.size B2 m2 q2 l2 w9 O2.out.2 (C2.out.grows z3 h9) (Nat.le_trans z3 h9.size) (by omega) M2.out).mono ?_
    rintro e w10 ⟨A10, c10, rfl, _, _, hr10, h10⟩
    have h10 := h9.trans h10
    go_wp2_with fail
    refine (plainS_eq w10.heap.size w.heap.size A10 A1 x1.length n1 c10 c1 x1 w10 hr10 (H1.out.grows (Nat.le_refl _) (hg.trans h10)) (by rw [L1.out]; omega)).mono ?_
    rintro e w11 ⟨rfl, d, rfl⟩
    have h11 := h10.drewN d
    clear hr10 h10 h9
    generalize w10.drewN d = w11 at h11 ⊢
    go_wp2_with fail
    refine (merged_v x1 w3.heap.size B3 m3 q3 l3 w11 O3.out.2 (C3.out.grows (Nat.le_refl _) h11) h11.size (by omega) M3.out).mono ?_
    rintro e w12 ⟨A12, c12, rfl, _, _, hr12, h12⟩
    have h12 := h11.trans h12
    go_wp2_with fail
    refine (plainS_eq w12.heap.size w.heap.size A12 A1 x1.length n1 c12 c1 x1 w12 hr12 (H1.out.grows (Nat.le_refl _) (hg.trans h12)) (by rw [L1.out]; omega)).mono ?_
    rintro e w13 ⟨rfl, d, rfl⟩
    have h13 := hg.trans (h12.drewN d)
    clear hr12 h12 h11
    go_wp2_with fail
    go_ret
    exact ⟨rfl, h13⟩
  · have HD := Lib.hid (show decide (n0 ≤ 60 ∧ n1 ≤ 60 ∧ 0 ≤ 60) = false from decide_eq_false (fun h => hfew ⟨h.1, h.2.1⟩))
    clear hfew
    go_wp2_with fail
    refine (few_v false A0 A1 none n0 n1 0 c0 c1 0 w HD.out).mono ?_
    rintro e _ ⟨rfl, rfl⟩
    go_wp2_with fail
    refine (cawake_any w).mono ?_
    rintro e w1 ⟨rfl, hg⟩
    go_wp2_with fail
    go_ret
    exact ⟨rfl, hg⟩

end Go.Proofs.Ytlimfndipapfdaa
