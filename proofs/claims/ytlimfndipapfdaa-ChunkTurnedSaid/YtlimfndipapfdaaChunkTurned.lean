/- ChunkTurned: with ours and theirs exchanged the chunks are the same, turned. -/
import Derived.Test.YtlimfndipapfdaaChunkOne
namespace Go.Proofs.Ytlimfndipapfdaa
open Go.RowKit Go.Deep Go.MapKept

theorem gch_turn {l : List ChkB} {k : Nat} (h : k < l.length) : gch (l.map turnC) k = turnC (gch l k) := by
  simp [gch, List.getD_eq_getElem?_getD, h]
theorem plainS_q (B B' : Nat) (A A' : Option Addr) (n n' c c' : Nat) (xs : List ByteArray) (w : World) (hx : Reads w B 1 A n (strs xs)) (hy : Reads w B' 1 A' n' (strs xs)) (hn : n ≤ 1000000000000) (d : Nat) :
    Calls Try.prog 21 #[.slice A n c, .slice A' n' c'] (w.drewN d) fun e w' => e = .returned (.bool true) ∧ ∃ m, w' = (w.drewN d).drewN m :=
  plainS_eq B B' A A' n n' c c' xs (w.drewN d) (hx.drewN d) (hy.drewN d) hn

set_option maxRecDepth 100000 in
set_option maxHeartbeats 4000000 in
theorem cturned_any (A0 A1 A2 : Option Addr) (n0 c0 n1 c1 n2 c2 : Nat) (x0 x1 x2 : List ByteArray) (w : World) (hr0 : Reads w w.heap.size 1 A0 n0 (strs x0)) (hn0 : n0 ≤ c0) (hc0 : c0 ≤ maxLen) (hr1 : Reads w w.heap.size 1 A1 n1 (strs x1)) (hn1 : n1 ≤ c1) (hc1 : c1 ≤ maxLen) (hr2 : Reads w w.heap.size 1 A2 n2 (strs x2)) (hn2 : n2 ≤ c2) (hc2 : c2 ≤ maxLen) :
    Calls Try.prog 12 #[.slice A0 n0 c0, .slice A1 n1 c1, .slice A2 n2 c2] w fun e w' => e = .returned (.bool true) ∧ Grows w w' := by
  have L0 := Lib.hid hr0.strLen
  have L1 := Lib.hid hr1.strLen
  have L2 := Lib.hid hr2.strLen
  have H0 := Lib.hid hr0
  have H1 := Lib.hid hr1
  have H2 := Lib.hid hr2
  clear hr0 hr1 hr2
  go_enter Try.func12, Try.ntmps12
  by_cases hfew : n0 ≤ 60 ∧ n1 ≤ 60 ∧ n2 ≤ 60
  · have HD := Lib.hid (show decide (n0 ≤ 60 ∧ n1 ≤ 60 ∧ n2 ≤ 60) = true from decide_eq_true hfew)
    obtain ⟨g0, g1, g2⟩ := hfew
    go_wp2_with fail
    refine (few_v true A0 A1 A2 n0 n1 n2 c0 c1 c2 w HD.out).mono ?_
    rintro e _ ⟨rfl, rfl⟩
    go_wp2_with fail
    obtain ⟨l, hl⟩ : ∃ l, chunks x0 x1 x2 = l := ⟨_, rfl⟩
    have HL := Lib.hid hl
    have HL' := Lib.hid (show chunks x0 x2 x1 = l.map turnC by rw [chunks_turn, hl])
    have hN := chunks_len x0 x1 x2
    rw [hl, L0.out] at hN
    have hw := chunks_whole x0 x1 x2
    rw [hl] at hw
    have HSH := Lib.hid (show ∀ ch ∈ l, ch.2.1.length ≤ 1000000000000 ∧ ch.2.2.1.length ≤ 1000000000000 ∧ ch.2.2.2.length ≤ 1000000000000 from fun ch hch => by
      have key : ∀ (f : ChkB → List ByteArray) (x : List ByteArray), l.flatMap f = x → (f ch).length ≤ x.length := fun f x hx => by
        rw [← hx]
        obtain ⟨s, t, rfl⟩ := List.append_of_mem hch
        rw [List.flatMap_append, List.flatMap_cons, List.length_append, List.length_append]
        omega
      have k1 := key _ _ hw.1
      have k2 := key _ _ hw.2.1
      have k3 := key _ _ hw.2.2
      rw [L0.out] at k1
      rw [L1.out] at k2
      rw [L2.out] at k3
      omega)
    clear hl hw
    refine (of_v l w.heap.size w.heap.size w.heap.size n0 n1 n2 c0 c1 c2 A0 A1 A2 x0 x1 x2 w HL.out H0.out H1.out H2.out (Nat.le_refl _) (Nat.le_refl _) (Nat.le_refl _) (by omega) (by omega) (by omega) hn0 hn1 hn2 hc0 hc1 hc2).mono ?_
    rintro e w1 ⟨B1, m1, q1, rfl, hC1, hg1, hq1, hqM1⟩
    have k1 := hC1.len
    go_wp2_with fail
    refine (of_v (l.map turnC) w.heap.size w.heap.size w.heap.size n0 n2 n1 c0 c2 c1 A0 A2 A1 x0 x2 x1 w1 HL'.out (H0.out.grows (Nat.le_refl _) hg1) (H2.out.grows (Nat.le_refl _) hg1) (H1.out.grows (Nat.le_refl _) hg1) hg1.size hg1.size hg1.size (by omega) (by omega) (by omega) hn0 hn2 hn1 hc0 hc2 hc1).mono ?_
    rintro e w2 ⟨B2, m2, q2, rfl, hC2, hg2, hq2, hqM2⟩
    have k2 := hC2.len
    rw [List.length_map] at k2
    have hmm : m2 = m1 := k2.symm.trans k1
    subst hmm
    have hC1 := hC1.grows (Nat.le_refl _) hg2
    have z1 : w1.heap.size ≤ w2.heap.size := hg2.size
    have hg2 := hg1.trans hg2
    go_wp2_with fail
    refine (cawake_any w2).mono ?_
    rintro e w3 ⟨rfl, h3⟩
    have C1 := Lib.hid (hC1.grows z1 h3)
    have C2 := Lib.hid (hC2.grows (Nat.le_refl _) h3)
    have z2 : w1.heap.size ≤ w3.heap.size := Nat.le_trans z1 h3.size
    have z3 : w2.heap.size ≤ w3.heap.size := h3.size
    have hg3 := hg2.trans h3
    have KL := Lib.hid k1
    clear hC1 hC2 hg1 hg2 h3 z1 k1 k2
    go_wp2_with fail
    go_loopg [9] m2 (fun gk q wr => Grows w3 wr ∧ ∃ k : Nat, q = .int .i64 k ∧ k ≤ m2 ∧ gk = m2 - k)
    case atStart => exact ⟨Grows.refl _, 0, rfl, by omega, rfl⟩
    case round =>
      obtain ⟨hgr, k, rfl, hk, hgk⟩ := hrel
      have HG := Lib.hid hgk; clear hgk
      by_cases hlt : k < m2
      · obtain ⟨ad, rfl, had, ha⟩ := (C1.out.grows z2 hgr).at_ hlt
        obtain ⟨ad', rfl, had', ha'⟩ := (C2.out.grows z3 hgr).at_ hlt
        have hkl : k < l.length := by rw [KL.out]; exact hlt
        have hmem : gch l k ∈ l := by
          have : gch l k = l[k] := by simp [gch, List.getElem?_eq_getElem hkl]
          rw [this]; exact List.getElem_mem _
        have hlen := HSH.out _ hmem
        rw [gch_turn hkl] at ha'
        obtain ⟨ch, hch⟩ : ∃ ch, gch l k = ch := ⟨_, rfl⟩
        rw [hch] at ha ha' hlen
        clear hch hmem
        obtain ⟨kd, y1, y2, y3⟩ := ch
        obtain ⟨p0, ⟨E1, v1, q1', p1, r1⟩, ⟨E2, v2, q2', p2, r2⟩, ⟨E3, v3, q3', p3, r3⟩⟩ := ha
        obtain ⟨o0, ⟨F1, m1, d1', o1, s1⟩, ⟨F2, m2', d2', o2, s2⟩, ⟨F3, m3, d3', o3, s3⟩⟩ := ha'
        unfold turnC at o0
        dsimp only [turnC] at p0 o0 r1 r2 r3 s1 s2 s3 hlen
        have k0 : (0 : Int) ≤ k := by omega
        have k1 : (k : Int) < m2 := by omega
        have l1 : v1 ≤ 1000000000000 := by have := r1.strLen; omega
        have l2 : v2 ≤ 1000000000000 := by have := r2.strLen; omega
        have l3 : v3 ≤ 1000000000000 := by have := r3.strLen; omega
        have AT1 := Lib.hid (fun d => plainS_q w1.heap.size w2.heap.size E1 F1 v1 m1 q1' d1' y1 wr r1 s1 l1 d)
        have AT2 := Lib.hid (fun d => plainS_q w1.heap.size w2.heap.size E2 F3 v2 m3 q2' d3' y2 wr r2 s3 l2 d)
        have AT3 := Lib.hid (fun d => plainS_q w1.heap.size w2.heap.size E3 F2 v3 m2' q3' d2' y3 wr r3 s2 l3 d)
        clear r1 r2 r3 s1 s2 s3 hlen
        by_cases h2 : kd = 2
        · subst h2
          simp only [if_true] at o0
          go_wp2_with fail
          go_quiet ((first | with_reducible exact Calls.quiet_of (AT1.out _) | with_reducible exact Calls.quiet_of (AT2.out _) | with_reducible exact Calls.quiet_of (AT3.out _)))
          go_wp2_with fail
          go_roundg (m2 - (k + 1))
          case measure => rw [HG.out]; omega
          case rel => exact ⟨hgr.drewN _, k + 1, by go_num, by omega, rfl⟩
        · by_cases h3 : kd = 3
          · subst h3
            rw [if_neg (by decide), if_pos rfl] at o0
            clear h2
            go_wp2_with fail
            go_quiet ((first | with_reducible exact Calls.quiet_of (AT1.out _) | with_reducible exact Calls.quiet_of (AT2.out _) | with_reducible exact Calls.quiet_of (AT3.out _)))
            go_wp2_with fail
            go_roundg (m2 - (k + 1))
            case measure => rw [HG.out]; omega
            case rel => exact ⟨hgr.drewN _, k + 1, by go_num, by omega, rfl⟩
          · rw [if_neg h2, if_neg h3] at o0
            have e2 : (kd == 2) = false := by simp [h2]
            have e3 : (kd == 3) = false := by simp [h3]
            clear h2 h3
            go_wp2_with fail
            go_quiet ((first | with_reducible exact Calls.quiet_of (AT1.out _) | with_reducible exact Calls.quiet_of (AT2.out _) | with_reducible exact Calls.quiet_of (AT3.out _)))
            go_wp2_with fail
            go_roundg (m2 - (k + 1))
            case measure => rw [HG.out]; omega
            case rel => exact ⟨hgr.drewN _, k + 1, by go_num, by omega, rfl⟩
      · go_wp2_with fail
        go_ret
        exact ⟨rfl, hg3.trans hgr⟩
  · have HD := Lib.hid (show decide (n0 ≤ 60 ∧ n1 ≤ 60 ∧ n2 ≤ 60) = false from decide_eq_false hfew)
    clear hfew
    go_wp2_with fail
    refine (few_v false A0 A1 A2 n0 n1 n2 c0 c1 c2 w HD.out).mono ?_
    rintro e _ ⟨rfl, rfl⟩
    go_wp2_with fail
    refine (cawake_any w).mono ?_
    rintro e w1 ⟨rfl, hg⟩
    go_wp2_with fail
    go_ret
    exact ⟨rfl, hg⟩

end Go.Proofs.Ytlimfndipapfdaa
