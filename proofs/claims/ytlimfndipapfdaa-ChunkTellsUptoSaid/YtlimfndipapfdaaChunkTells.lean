/- ChunkTells: the chunks of any three lists, whether any are clean, and what they come to. -/
import Derived.Test.YtlimfndipapfdaaRefOf
import Derived.Test.YtlimfndipapfdaaChunkUse
namespace Go.Proofs.Ytlimfndipapfdaa
open Go.RowKit Go.Deep Go.MapKept

theorem rowIs_grows {w w' : World} {g N : Nat} {t : TypeId} {f : Nat → Value} (h : w.rowIs g t N f) (hg : Grows w w') : w'.rowIs g t N f := by
  obtain ⟨c, hb, h1, h2⟩ := h
  exact ⟨c, (hg.block g (show Blk w g t c from hb).lt).trans hb, h1, h2⟩
theorem rof_v (l : List ChkB) (Ba Bb Bc na nb nc ca cb cc : Nat) (A1 A2 A3 : Option Addr) (a b c : List ByteArray) (w : World) (hl : chunks a b c = l)
    (ha : Reads w Ba 1 A1 na (strs a)) (hb : Reads w Bb 1 A2 nb (strs b)) (hc : Reads w Bc 1 A3 nc (strs c)) (hBa : Ba ≤ w.heap.size) (hBb : Bb ≤ w.heap.size) (hBc : Bc ≤ w.heap.size)
    (hna : na ≤ 400) (hnb : nb ≤ 400) (hnc : nc ≤ 400) (hca : na ≤ ca) (hcb : nb ≤ cb) (hcc : nc ≤ cc) (hcaM : ca ≤ maxLen) (hcbM : cb ≤ maxLen) (hccM : cc ≤ maxLen) :
    Calls Try.prog 35 #[.slice A1 na ca, .slice A2 nb cb, .slice A3 nc cc] w fun e w' => ∃ A n q, e = .returned (.slice A n q) ∧ ChunksN w' w'.heap.size A n l ∧ Grows w w' ∧ n ≤ q ∧ q ≤ maxLen := by
  subst hl
  exact rof_any Ba Bb Bc na nb nc ca cb cc A1 A2 A3 a b c w ha hb hc hBa hBb hBc hna hnb hnc hca hcb hcc hcaM hcbM hccM
theorem ChunksN.more {w : World} {B B' n : Nat} {A : Option Addr} {l : List ChkB} (h : ChunksN w B A n l) (hB : B ≤ B') : ChunksN w B' A n l :=
  ⟨h.1, fun hn => by
    obtain ⟨ad, e, hb, hc⟩ := h.2 hn
    exact ⟨ad, e, by omega, fun k hk => (hc k hk).more hB⟩⟩
theorem sameCh_eq (B n n' c c' : Nat) (A A' : Option Addr) (l : List ChkB) (w : World) (hx : ChunksN w B A n l) (hy : ChunksN w B A' n' l) (hB : B ≤ w.heap.size) (hn : n ≤ 1000000000000) (hl : ∀ ch ∈ l, ch.2.1.length ≤ 1000000000000 ∧ ch.2.2.1.length ≤ 1000000000000 ∧ ch.2.2.2.length ≤ 1000000000000) :
    Calls Try.prog 33 #[.slice A n c, .slice A' n' c', .func (.func 36) #[] #[]] w fun e w' => e = .returned (.bool true) ∧ Grows w w' := by
  have := sameCh_any B A A' n n' c c' l l w hx hy hB hn hl
  rw [show eqChs l l = true by simp [eqChs]] at this
  exact this
theorem rclean_v (v : Bool) (B : Nat) (A : Option Addr) (n c : Nat) (l : List ChkB) (w : World) (hv : cleanC l = v) (hx : ChunksN w B A n l) (hn : n ≤ maxLen) :
    Calls Try.prog 38 #[.slice A n c] w fun e w' => e = .returned (.bool v) ∧ w = w' := by
  subst hv
  exact rclean_any B A n c l w hx hn
theorem rmerged_v (m : List ByteArray) (B : Nat) (A : Option Addr) (n c : Nat) (l : List ChkB) (w : World) (hm : mergeC l = m) (hx : ChunksN w B A n l) (hB : B ≤ w.heap.size) (hn : n ≤ 1000000000) (hM : ∀ k, (mergeC (l.take k)).length ≤ 1000000000) :
    Calls Try.prog 40 #[.slice A n c] w fun e w' => ∃ A' c', e = .returned (.slice A' m.length c') ∧ Reads w' w'.heap.size 1 A' m.length (strs m) ∧ Grows w w' := by
  subst hm
  refine (rmerged_any B A n c l w hx hB hn (fun k _ => hM k)).mono ?_
  rintro e w' ⟨v, rfl, hown, hg⟩
  obtain ⟨A', c', rfl, h1, h2⟩ := own_form hown
  exact ⟨A', c', rfl, Reads.of_own hown, hg⟩
theorem chunks_short {a b c : List ByteArray} {M : Nat} (ha : a.length ≤ M) (hb : b.length ≤ M) (hc : c.length ≤ M) : ∀ ch ∈ chunks a b c, ch.2.1.length ≤ M ∧ ch.2.2.1.length ≤ M ∧ ch.2.2.2.length ≤ M := by
  intro ch hch
  have hw := chunks_whole a b c
  have key : ∀ (f : ChkB → List ByteArray) (x : List ByteArray), (chunks a b c).flatMap f = x → (f ch).length ≤ x.length := fun f x hx => by
    rw [← hx]
    obtain ⟨s, t, e⟩ := List.append_of_mem hch
    rw [e, List.flatMap_append, List.flatMap_cons, List.length_append, List.length_append]
    omega
  have k1 := key _ _ hw.1
  have k2 := key _ _ hw.2.1
  have k3 := key _ _ hw.2.2
  omega

set_option maxRecDepth 100000 in
set_option maxHeartbeats 4000000 in
theorem ctells_any (A0 A1 A2 A3 : Option Addr) (n0 c0 n1 c1 n2 c2 n3 c3 : Nat) (x0 x1 x2 : List ByteArray) (l : List ChkB) (w : World) (hr0 : Reads w w.heap.size 1 A0 n0 (strs x0)) (hn0 : n0 ≤ c0) (hc0 : c0 ≤ maxLen) (hr1 : Reads w w.heap.size 1 A1 n1 (strs x1)) (hn1 : n1 ≤ c1) (hc1 : c1 ≤ maxLen) (hr2 : Reads w w.heap.size 1 A2 n2 (strs x2)) (hn2 : n2 ≤ c2) (hc2 : c2 ≤ maxLen)
    (hl : ChunksN w w.heap.size A3 n3 l) (hn3 : n3 ≤ maxLen) (hM : (l.flatMap (·.2.2.1)).length + (l.flatMap (·.2.2.2)).length ≤ 1000000000) :
    Calls Try.prog 9 #[.slice A0 n0 c0, .slice A1 n1 c1, .slice A2 n2 c2, .slice A3 n3 c3] w fun e w' => e = .returned (.bool true) ∧ Grows w w' := by
  have L0 := Lib.hid hr0.strLen
  have L1 := Lib.hid hr1.strLen
  have L2 := Lib.hid hr2.strLen
  have H0 := Lib.hid hr0
  have H1 := Lib.hid hr1
  have H2 := Lib.hid hr2
  have HLL := Lib.hid hl
  have HMM := Lib.hid (mergeC_short hM)
  clear hr0 hr1 hr2 hl hM
  go_enter Try.func9, Try.ntmps9
  by_cases hfew : n0 ≤ 60 ∧ n1 ≤ 60 ∧ n2 ≤ 60
  · have HD := Lib.hid (show decide (n0 ≤ 60 ∧ n1 ≤ 60 ∧ n2 ≤ 60) = true from decide_eq_true hfew)
    obtain ⟨g0, g1, g2⟩ := hfew
    by_cases hbig : 30 < n3
    · have e0 : (30 : Int) < n3 := by omega
      go_wp2_with fail
      refine (few_v true A0 A1 A2 n0 n1 n2 c0 c1 c2 w HD.out).mono ?_
      rintro e _ ⟨rfl, rfl⟩
      go_wp2_with fail
      refine (cawake_any w).mono ?_
      rintro e w1 ⟨rfl, hg⟩
      go_wp2_with fail
      go_ret
      exact ⟨rfl, hg⟩
    · have e0 : ¬ ((30 : Int) < n3) := by omega
      have g3 : n3 ≤ 30 := by omega
      clear hbig
      go_wp2_with fail
      refine (few_v true A0 A1 A2 n0 n1 n2 c0 c1 c2 w HD.out).mono ?_
      rintro e _ ⟨rfl, rfl⟩
      obtain ⟨ch, hch⟩ : ∃ ch, chunks x0 x1 x2 = ch := ⟨_, rfl⟩
      have E := Lib.hid hch
      have hcl := chunks_len x0 x1 x2
      rw [hch, L0.out] at hcl
      have SH := Lib.hid (show ∀ c ∈ ch, c.2.1.length ≤ 1000000000000 ∧ c.2.2.1.length ≤ 1000000000000 ∧ c.2.2.2.length ≤ 1000000000000 by rw [← hch]; exact chunks_short (by rw [L0.out]; omega) (by rw [L1.out]; omega) (by rw [L2.out]; omega))
      clear hch
      obtain ⟨cl, hcl2⟩ : ∃ cl, cleanC l = cl := ⟨_, rfl⟩
      have CL := Lib.hid hcl2
      clear hcl2
      obtain ⟨mg, hmg⟩ : ∃ mg, mergeC l = mg := ⟨_, rfl⟩
      have hml : mg.length ≤ 1000000000 := by
        have := HMM.out l.length
        rw [List.take_length, hmg] at this
        exact this
      have MG := Lib.hid hmg
      clear hmg
      go_wp2_with fail
      refine (ownS_any w.heap.size A1 n1 c1 x1 _ w H1.out (Nat.le_refl _) (by omega)).mono ?_
      rintro e w1 ⟨rfl, hrow, hg1⟩
      have hin := reads_rowS hrow (fun i hi => by rw [ownCellS, if_pos hi]) L1.out (by omega)
      have HI := Lib.hid hin
      have HROW := Lib.hid hrow
      clear hin hrow
      have hgs := hg1.size
      go_wp2_with fail
      refine (cawake_any w1).mono ?_
      rintro e w2 ⟨rfl, hg2⟩
      have hg12 := hg1.trans hg2
      have hlt1 : w.heap.size + 1 ≤ w1.heap.size := HROW.out.lt
      go_wp2_with fail
      refine (of_v ch w.heap.size (w.heap.size + 1) w.heap.size n0 n1 n2 c0 (n1 + 3) c2 A0 _ A2 x0 x1 x2 w2 E.out (H0.out.grows (Nat.le_refl _) hg12) (HI.out.grows hlt1 hg2) (H2.out.grows (Nat.le_refl _) hg12) hg12.size (Nat.le_trans hlt1 hg2.size) hg12.size (by omega) (by omega) (by omega) hn0 (by omega) hn2 hc0 (by unfold maxLen; omega) hc2).mono ?_
      rintro e w3 ⟨B1, m1, q1, rfl, hC1, hg3, hq1, hqM1⟩
      have k1 := hC1.len
      have hg13 := hg12.trans hg3
      have hs23 := hg3.size
      go_wp2_with fail
      refine (rof_v ch w.heap.size w.heap.size w.heap.size n0 n1 n2 c0 c1 c2 A0 A1 A2 x0 x1 x2 w3 E.out (H0.out.grows (Nat.le_refl _) hg13) (H1.out.grows (Nat.le_refl _) hg13) (H2.out.grows (Nat.le_refl _) hg13) hg13.size hg13.size hg13.size (by omega) (by omega) (by omega) hn0 hn1 hn2 hc0 hc1 hc2).mono ?_
      rintro e w4 ⟨B2, m2, q2, rfl, hC2, hg4, hq2, hqM2⟩
      have hg14 := hg13.trans hg4
      have hg24 := hg2.trans (hg3.trans hg4)
      go_wp2_with fail
      refine (sameCh_eq w4.heap.size m1 m2 q1 q2 B1 B2 ch w4 ((hC1.grows (Nat.le_refl _) hg4).more hg4.size) hC2 (Nat.le_refl _) (by omega) SH.out).mono ?_
      rintro e w5 ⟨rfl, hg5⟩
      have hg15 := hg14.trans hg5
      have hg25 := hg24.trans hg5
      clear hC1 hC2 hg3 hg4 hg5 hg14 hg13 hg12 hg24 hs23 hg2
      go_wp2_with fail
      refine (clean_v cl w.heap.size A3 n3 c3 l w5 CL.out (HLL.out.grows (Nat.le_refl _) hg15) hg15.size hn3).mono ?_
      rintro e w6 ⟨rfl, hg6⟩
      have hg16 := hg15.trans hg6
      have hg26 := hg25.trans hg6
      go_wp2_with fail
      refine (rclean_v cl w.heap.size A3 n3 c3 l w6 CL.out (HLL.out.grows (Nat.le_refl _) hg16) hn3).mono ?_
      rintro e _ ⟨rfl, rfl⟩
      have hcl : (cl == cl) = true := by simp
      go_wp2_with fail
      refine (merged_v mg w.heap.size A3 n3 c3 l w6 MG.out (HLL.out.grows (Nat.le_refl _) hg16) hg16.size (by omega) HMM.out).mono ?_
      rintro e w7 ⟨A7, d7, rfl, _, _, hr7, hg7⟩
      have hg17 := hg16.trans hg7
      have hg27 := hg26.trans hg7
      go_wp2_with fail
      refine (rmerged_v mg w.heap.size A3 n3 c3 l w7 MG.out (HLL.out.grows (Nat.le_refl _) hg17) hg17.size (by omega) HMM.out).mono ?_
      rintro e w8 ⟨A8, d8, rfl, hr8, hg8⟩
      have hr7' := hr7.grows (Nat.le_refl _) hg8
      have hg18 := hg17.trans hg8
      have hg28 := hg27.trans hg8
      go_wp2_with fail
      refine (plainS_eq w7.heap.size w8.heap.size A7 A8 mg.length mg.length d7 d8 mg w8 hr7' hr8 (by omega)).mono ?_
      rintro e w9 ⟨rfl, dd, rfl⟩
      have hg19 := hg18.drewN dd
      have hg29 := hg28.drewN dd
      clear hr7 hr7' hr8 hg8 hg7 hg17 hg27 hg16 hg26 hg15 hg25 hg18 hg28
      generalize w8.drewN dd = w9 at hg19 hg29 ⊢
      go_wp2_with fail
      refine (keptS_any w.heap.size A1 n1 c1 w.heap.size x1 { data := #[55, 49] } w9 (H1.out.grows (Nat.le_refl _) hg19) (rowIs_grows HROW.out hg29) (by omega)).mono ?_
      rintro e w10 ⟨rfl, de, rfl⟩
      go_wp2_with fail
      go_ret
      exact ⟨rfl, hg19.drewN _⟩
  · have HD := Lib.hid (show decide (n0 ≤ 60 ∧ n1 ≤ 60 ∧ n2 ≤ 60) = false from decide_eq_false hfew)
    clear hfew
    go_wp2_with fail
    refine (few_v false A0 A1 A2 n0 n1 n2 c0 c1 c2 w HD.out).mono ?_
    rintro e _ ⟨rfl, rfl⟩
    go_wp2_with fail
    refine (cawake_any w).mono ?_
    rintro e w1 ⟨rfl, hg⟩
    go_wp2_with fail
    go_ret
    exact ⟨rfl, hg⟩

end Go.Proofs.Ytlimfndipapfdaa
