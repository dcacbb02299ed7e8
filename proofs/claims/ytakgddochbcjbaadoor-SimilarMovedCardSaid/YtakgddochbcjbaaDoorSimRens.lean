/- SimilarRenames: the walk of the law. -/
import Derived.Test.YtakgddochbcjbaaDoorSimLaw
import Derived.Test.YtakgddochbcjbaaDoorSimRef
namespace Go.Proofs.YtakgddochbcjbaaDoor
open Go.RowKit Go.Deep Go.MapKept Go.Shelf

theorem TreeOK.size {l : List FileB} (h : TreeOK l) {k : Nat} (hk : k < l.length) : (ft l k).size ≤ 2000 := (h.2 _ (gf_mem hk)).2
/-- similar.Renames, at two trees -/
theorem ren_tree (w : World) (hM : MaxL w) (A A' : Option Addr) (c c' : Nat) (a b : List FileB) (ha : a.length ≤ 1000) (hb : b.length ≤ 1000) (hta : ∀ k, k < a.length → (ft a k).size ≤ 100000) (htb : ∀ k, k < b.length → (ft b k).size ≤ 100000)
    (h1 : Reads w w.heap.size 3 A a.length (fileCells a)) (h2 : Reads w w.heap.size 3 A' b.length (fileCells b)) :
    Calls Tryd.prog 34 #[.slice A a.length c, .slice A' b.length c'] w fun e w' => (∃ Ar cr O, O.Perm (outOf a b).O ∧ SortedP a O ∧ e = .returned (.slice Ar (renL a b O).length cr) ∧ (renL a b O).length ≤ cr ∧ cr ≤ maxLen ∧ Reads w' w'.heap.size 2 Ar (renL a b O).length (rnCells (renL a b O))) ∧ Grows w w' := by
  refine (ren_any w a.length b.length c c' A A' a b hM ha hb h1 h2 hta htb).mono ?_
  rintro e w' ⟨v, rfl, O, hp, hs, ho, hg⟩
  have e2 : O.length = (renL a b O).length := by simp [renL]
  rw [renCells_eq, e2] at ho
  obtain ⟨Ar, cr, rfl, h3, h4⟩ := own_form ho
  exact ⟨⟨Ar, cr, O, hp, hs, rfl, h3, h4, Reads.of_own ho⟩, hg⟩
/-- none -/
theorem ren_none (w : World) (hM : MaxL w) (A A' : Option Addr) (c c' : Nat) (a b : List FileB) (ha : a.length ≤ 1000) (hb : b.length ≤ 1000) (hta : ∀ k, k < a.length → (ft a k).size ≤ 100000) (htb : ∀ k, k < b.length → (ft b k).size ≤ 100000)
    (h1 : Reads w w.heap.size 3 A a.length (fileCells a)) (h2 : Reads w w.heap.size 3 A' b.length (fileCells b)) (hno : (∀ x, x ∉ loneL a b) ∨ (∀ x, x ∉ loneL b a)) :
    Calls Tryd.prog 34 #[.slice A a.length c, .slice A' b.length c'] w fun e w' => (∃ Ar cr, e = .returned (.slice Ar 0 cr)) ∧ Grows w w' := by
  refine (ren_tree w hM A A' c c' a b ha hb hta htb h1 h2).mono ?_
  rintro e w' ⟨⟨Ar, cr, O, hp, _, rfl, _⟩, hg⟩
  have := out_none hno hp
  subst this
  exact ⟨⟨Ar, cr, rfl⟩, hg⟩
theorem eqT_empty (x : ByteArray) : (x.toList == []) = eqT x ByteArray.empty := by
  rw [← eqT_list, show ByteArray.empty.toList = [] by rw [ByteArray.toList_eq]; rfl]
theorem lessT_leq {p q : ByteArray} (h : lessT p q = true) : Op.bytesLess q.toList p.toList = false ∧ (q.toList == p.toList) = false := by
  have h1 : Op.bytesLess q.toList p.toList = false := by
    cases h2 : Op.bytesLess q.toList p.toList with
    | false => rfl
    | true =>
      have h3 := lessT_trans h (show lessT q p = true from h2)
      rw [lessT_irrefl] at h3
      exact absurd h3 (by simp)
  refine ⟨h1, ?_⟩
  rw [eqT_list, eqT, decide_eq_false_iff_not]
  rintro rfl
  rw [lessT_irrefl] at h
  cases h

set_option maxRecDepth 100000 in
set_option pp.deepTerms true in
set_option pp.maxSteps 1000000 in
set_option maxRecDepth 100000 in
set_option maxHeartbeats 4000000 in
theorem srens_any (B1 B2 : Nat) (A1 A2 : Option Addr) (n1 n2 c1 c2 : Nat) (l1 l2 : List FileB) (w : World) (hm : MaxL w) (h1 : Reads w B1 3 A1 n1 (fileCells l1)) (h2 : Reads w B2 3 A2 n2 (fileCells l2)) (hB1 : B1 ≤ w.heap.size) (hB2 : B2 ≤ w.heap.size) (hn1 : n1 ≤ maxLen) (hn2 : n2 ≤ maxLen) :
    Calls Tryd.prog 9 #[.slice A1 n1 c1, .slice A2 n2 c2] w fun e w' => e = .returned (.bool true) ∧ Grows w w' := by
  have HX1 := Lib.hid h1
  have HX2 := Lib.hid h2
  clear h1 h2
  go_enter Tryd.func9, Tryd.ntmps9
  go_wp2_with fail
  refine (few_any B1 A1 n1 c1 l1 w HX1.out hn1).mono ?_
  rintro e _ ⟨⟨⟨b1, rfl⟩, hb1⟩, rfl⟩
  cases b1 with
  | false =>
    clear hb1
    go_wp2_with fail
    refine (sawake_any w hm).mono ?_
    rintro e w1 ⟨rfl, hg1⟩
    go_wp2_with fail
    go_ret
    exact ⟨rfl, hg1⟩
  | true =>
    have hz1 : n1 ≤ 20 := by
      rcases Nat.lt_or_ge 20 n1 with h | h
      · have := hb1 h; cases this
      · exact h
    clear hb1
    go_wp2_with fail
    refine (few_any B2 A2 n2 c2 l2 w HX2.out hn2).mono ?_
    rintro e _ ⟨⟨⟨b2, rfl⟩, hb2⟩, rfl⟩
    cases b2 with
    | false =>
      clear hb2
      go_wp2_with fail
      refine (sawake_any w hm).mono ?_
      rintro e w1 ⟨rfl, hg1⟩
      go_wp2_with fail
      go_ret
      exact ⟨rfl, hg1⟩
    | true =>
      have hz2 : n2 ≤ 20 := by
        rcases Nat.lt_or_ge 20 n2 with h | h
        · have := hb2 h; cases this
        · exact h
      clear hb2
      go_wp2_with fail
      refine (rtree_any B1 A1 n1 c1 l1 w HX1.out hB1 (by omega)).mono ?_
      rintro e w1 ⟨v1, rfl, a, ha, hal, ho1, hg1⟩
      obtain ⟨Aa, ca, rfl, hca, _⟩ := own_form ho1
      have HRa := Lib.hid (Reads.of_own ho1)
      clear ho1
      go_wp2_with fail
      refine (rtree_any B2 A2 n2 c2 l2 w1 (HX2.out.grows hB2 hg1) (Nat.le_trans hB2 hg1.size) (by omega)).mono ?_
      rintro e w2 ⟨v2, rfl, b, hb, hbl, ho2, hg2⟩
      obtain ⟨Ab, cb, rfl, hcb, _⟩ := own_form ho2
      have HRb := Lib.hid (Reads.of_own ho2)
      have HRa2 := Lib.hid ((HRa.out.grows (Nat.le_refl _) hg2).more hg2.size)
      have HG2 := Lib.hid (hg1.trans hg2)
      have HA := Lib.hid ha
      have HB := Lib.hid hb
      have HTA := Lib.hid (fun k (hk : k < a.length) => show (ft a k).size ≤ 100000 from Nat.le_trans (ha.size hk) (by decide))
      have HTB := Lib.hid (fun k (hk : k < b.length) => show (ft b k).size ≤ 100000 from Nat.le_trans (hb.size hk) (by decide))
      clear ho2 HRa HX1 HX2 ha hb hg1 hg2
      go_wp2_with fail
      refine (ren_tree w2 (hm.grows HG2.out) Aa Ab ca cb a b (by omega) (by omega) HTA.out HTB.out HRa2.out HRb.out).mono ?_
      rintro e w3 ⟨⟨Ar, cr, O, hp, hs, rfl, hrc, hrM, hrd⟩, hg3⟩
      have HOK := Lib.hid (ren_ok HA.out HB.out hp hs)
      clear hp hs
      generalize renL a b O = r at hrc hrd HOK ⊢
      clear O
      have HR3 := Lib.hid hrd
      have HRa3 := Lib.hid ((HRa2.out.grows (Nat.le_refl _) hg3).more hg3.size)
      have HRb3 := Lib.hid ((HRb.out.grows (Nat.le_refl _) hg3).more hg3.size)
      have HG3 := Lib.hid (HG2.out.trans hg3)
      clear hrd hg3 HRa2 HRb HG2
      unfold maxLen at hrM
      go_wp2_with fail
      go_loopg [8] r.length (fun gk q wr => Grows w3 wr ∧ ∃ i : Nat, q = .int .i64 i ∧ i ≤ r.length ∧ gk = r.length - i)
      case atStart => exact ⟨Grows.refl _, 0, rfl, by omega, rfl⟩
      case round =>
        obtain ⟨hgr, i, rfl, hi, hgk⟩ := hrel
        have HG := Lib.hid hgk
        clear hgk
        have HGR := Lib.hid hgr
        clear hgr
        by_cases hlt : i < r.length
        · have i0 : (0 : Int) ≤ i := by omega
          have i1 : (i : Int) < r.length := by omega
          have hzr := HGR.out.size
          obtain ⟨ad, rfl, had, -, -⟩ := HR3.out.rn hlt
          have CR := Lib.hid (fun wx (hg : Grows w3 wx) k (hk : k < r.length) => (HR3.out.grows (Nat.le_refl _) hg).rnAt hk)
          obtain ⟨p0, p1⟩ := CR.out _ HGR.out i hlt
          obtain ⟨z1, z2, z3, z4⟩ := HOK.out.one i hlt
          have HZ1 := Lib.hid z1
          have HZ2 := Lib.hid z2
          have HZ3 := Lib.hid z3
          have HZ4 := Lib.hid z4
          clear z1 z2 z3 z4
          go_wp2_with fail
          refine (rfind_any _ Aa a.length ca a (grf r i) wr (HRa3.out.grows (Nat.le_refl _) HGR.out) hzr (by omega)).mono ?_
          rintro e x1 ⟨⟨f1, rfl, hf1⟩, hx1⟩
          have HF1 := Lib.hid hf1
          obtain ⟨v1, hv1⟩ : ∃ v, v = x1.alloc (.cells #[.string f1.1, .bool f1.2.1, .string f1.2.2] 57) := ⟨_, rfl⟩
          have hb1 : Blk v1 x1.heap.size 57 #[.string f1.1, .bool f1.2.1, .string f1.2.2] := by rw [hv1]; exact Blk.new _ _ _
          have hw1 : Grows wr v1 := by rw [hv1]; exact hx1.alloc _
          have HV1 := Lib.hid (HGR.out.trans hw1)
          obtain ⟨q10, q11⟩ := CR.out _ HV1.out i hlt
          rw [hv1] at q10 q11
          have HE1 := Lib.hid hv1.symm
          have HW1 := Lib.hid hw1
          have HBK1 := Lib.hid hb1
          obtain ⟨b1, hbq1⟩ : ∃ b, b = x1.heap.size := ⟨_, rfl⟩
          rw [← hbq1] at HBK1
          have HBQ1 := Lib.hid hbq1.symm
          clear hf1 hv1 hb1 hw1 hx1 hbq1
          rw [HZ1.out]
          go_wp2_with fail
          rw [HE1.out, HBQ1.out]
          clear q10 q11 HE1 HBQ1
          refine (rfind_any _ Ab b.length cb b (grt r i) v1 (HRb3.out.grows (Nat.le_refl _) HV1.out) HV1.out.size (by omega)).mono ?_
          rintro e x2 ⟨⟨f2, rfl, hf2⟩, hx2⟩
          have HF2 := Lib.hid hf2
          obtain ⟨v2, hv2⟩ : ∃ v, v = x2.alloc (.cells #[.string f2.1, .bool f2.2.1, .string f2.2.2] 57) := ⟨_, rfl⟩
          have hb2 : Blk v2 x2.heap.size 57 #[.string f2.1, .bool f2.2.1, .string f2.2.2] := by rw [hv2]; exact Blk.new _ _ _
          have hw2 : Grows v1 v2 := by rw [hv2]; exact hx2.alloc _
          have HV2 := Lib.hid (HV1.out.trans hw2)
          obtain ⟨q20, q21⟩ := CR.out _ HV2.out i hlt
          rw [hv2] at q20 q21
          have HE2 := Lib.hid hv2.symm
          have HW2 := Lib.hid hw2
          have HBK2 := Lib.hid hb2
          obtain ⟨b2, hbq2⟩ : ∃ b, b = x2.heap.size := ⟨_, rfl⟩
          rw [← hbq2] at HBK2
          have HBQ2 := Lib.hid hbq2.symm
          clear hf2 hv2 hb2 hw2 hx2 hbq2
          rw [HZ2.out]
          go_wp2_with fail
          rw [HE2.out, HBQ2.out]
          clear q20 q21 HE2 HBQ2
          refine (rfind_any _ Ab b.length cb b (grf r i) v2 (HRb3.out.grows (Nat.le_refl _) HV2.out) HV2.out.size (by omega)).mono ?_
          rintro e x3 ⟨⟨f3, rfl, hf3⟩, hx3⟩
          have HF3 := Lib.hid hf3
          obtain ⟨v3, hv3⟩ : ∃ v, v = x3.alloc (.cells #[.string f3.1, .bool f3.2.1, .string f3.2.2] 57) := ⟨_, rfl⟩
          have hb3 : Blk v3 x3.heap.size 57 #[.string f3.1, .bool f3.2.1, .string f3.2.2] := by rw [hv3]; exact Blk.new _ _ _
          have hw3 : Grows v2 v3 := by rw [hv3]; exact hx3.alloc _
          have HV3 := Lib.hid (HV2.out.trans hw3)
          obtain ⟨q30, q31⟩ := CR.out _ HV3.out i hlt
          rw [hv3] at q30 q31
          have HE3 := Lib.hid hv3.symm
          have HW3 := Lib.hid hw3
          have HBK3 := Lib.hid hb3
          obtain ⟨b3, hbq3⟩ : ∃ b, b = x3.heap.size := ⟨_, rfl⟩
          rw [← hbq3] at HBK3
          have HBQ3 := Lib.hid hbq3.symm
          clear hf3 hv3 hb3 hw3 hx3 hbq3
          rw [HZ3.out]
          go_wp2_with fail
          rw [HE3.out, HBQ3.out]
          clear q30 q31 HE3 HBQ3
          refine (rfind_any _ Aa a.length ca a (grt r i) v3 (HRa3.out.grows (Nat.le_refl _) HV3.out) HV3.out.size (by omega)).mono ?_
          rintro e x4 ⟨⟨f4, rfl, hf4⟩, hx4⟩
          have HF4 := Lib.hid hf4
          obtain ⟨v4, hv4⟩ : ∃ v, v = x4.alloc (.cells #[.string f4.1, .bool f4.2.1, .string f4.2.2] 57) := ⟨_, rfl⟩
          have hb4 : Blk v4 x4.heap.size 57 #[.string f4.1, .bool f4.2.1, .string f4.2.2] := by rw [hv4]; exact Blk.new _ _ _
          have hw4 : Grows v3 v4 := by rw [hv4]; exact hx4.alloc _
          have HV4 := Lib.hid (HV3.out.trans hw4)
          obtain ⟨q40, q41⟩ := CR.out _ HV4.out i hlt
          rw [hv4] at q40 q41
          have HE4 := Lib.hid hv4.symm
          have HW4 := Lib.hid hw4
          have HBK4 := Lib.hid hb4
          obtain ⟨b4, hbq4⟩ : ∃ b, b = x4.heap.size := ⟨_, rfl⟩
          rw [← hbq4] at HBK4
          have HBQ4 := Lib.hid hbq4.symm
          clear hf4 hv4 hb4 hw4 hx4 hbq4
          rw [HZ4.out]
          go_wp2_with fail
          rw [HE4.out, HBQ4.out]
          clear q40 q41 HE4 HBQ4
          have HB1 := Lib.hid (Blk.growsF HBK1.out (HW2.out.trans (HW3.out.trans HW4.out)))
          have HB2 := Lib.hid (Blk.growsF HBK2.out (HW3.out.trans HW4.out))
          have HVA := Lib.hid (HG3.out.trans HV4.out)
          obtain ⟨t1, t2, t3, t4⟩ := HOK.out.txt i hlt f1 f2 HF1.out HF2.out
          have HT1 := Lib.hid t1
          have HT2 := Lib.hid t2
          clear t1 t2 HF1 HF2 HF3 HF4 HBK1 HBK2 HBK3 HBK4 HW1 HW2 HW3 HV1 HV2 HV3 HGR HW4 hzr p0 p1 HZ1 HZ2 HZ3 HZ4 x1 x2 x3 x4
          go_upto_region 12 with fail
          go_cut [8, 129] (fun s8 s129 wz => s8 = .int .i64 i ∧ s129 = .bool false ∧ Grows v4 wz)
          case first =>
            obtain ⟨S, hS⟩ : ∃ S : World → Prop, S = fun w' => Grows v4 w' := ⟨_, rfl⟩
            have hSb : ∀ s : SW S, Grows v4 s.w := fun s => by
              have := s.ok
              subst hS
              exact this
            have hS1 : ∀ s : SW S, s.w.cell? ⟨b1, 2, none⟩ = some (.string f1.2.2) := fun s => (Blk.growsF HB1.out (hSb s)).cell 2
            have hS2 : ∀ s : SW S, s.w.cell? ⟨b2, 2, none⟩ = some (.string f2.2.2) := fun s => (Blk.growsF HB2.out (hSb s)).cell 2
            have hS3 : ∀ s : SW S, s.w.cell? (ad.add (i * 2)) = some (.string (grf r i)) := fun s => (CR.out _ (HV4.out.trans (hSb s)) i hlt).1
            have hS4 : 0 < i → ∀ s : SW S, s.w.cell? (ad.add ((i - 1) * 2)) = some (.string (grf r (i - 1))) := fun h0 s => (CR.out _ (HV4.out.trans (hSb s)) (i - 1) (by omega)).1
            have hSi : ∀ w', Grows v4 w' → S w' := by rw [hS]; exact fun _ h => h
            have hgd : Grows v4 v4.drew := (Grows.refl v4).drew
            have hS0 := hSi _ hgd
            clear hS hSb
            haveI : Nonempty (SW S) := ⟨⟨_, hS0⟩⟩
            have het : (f1.2.2.toList == []) = false := by rw [eqT_empty]; exact HT1.out
            have heq := eqT_list f1.2.2 f2.2.2
            have hrat := rratio_any f1.2.2 f2.2.2 v4.drew (by omega) (by omega)
            refine wp_region_seq S [([0, 1, 2, 3, 4, 5, 6, 7, 8, 9, 10, 11, 12, 13, 14, 15, 16, 17, 18, 19, 20, 21, 22, 23, 24, 25, 26, 27], 28)] [29, 30, 31, 32, 33, 34, 35, 36, 37, 38, 39, 40, 41, 42, 43, 44, 45, 46, 47, 48, 49] [] (by kernel_rfl) (fun _ _ _ _ _ h => h) (by kernel_rfl) hS0 ?_
            simp only [pickS, pickT, pickL, List.map_cons, List.map_nil, List.filterMap_cons, List.filterMap_nil, List.getElem?_cons_zero, List.getElem?_cons_succ]
            cases he : eqT f1.2.2 f2.2.2 with
            | true =>
              rw [he] at heq
              clear he hrat
              refine wpSeq_consK fun K2 hK2 K hK => ?_
              repeat (show wpQuiet _ _ _ _ (_ :: _) _; go_big_quiet_step (fail))
              refine wpQuiet_nil (hK _ ?_)
              clear hK K
              show wpList _ _ _ [_] _ _
              go_wp2_with fail
              refine hK2.out _ _ hS0 ?_
              clear hK2 K2
              refine wpSeq_nil (wpRest_K fun K hK => ?_)
              by_cases h0 : 0 < i
              · have h0' : (0 : Int) < i := by omega
                have hS5 := hS4 h0
                have hasc := HOK.out.asc i h0 hlt
                have e1 : ((i - 1 : Nat) : Int) = (i : Int) - 1 := by omega
                obtain ⟨m1, hm1⟩ : ∃ m1, m1 = i - 1 := ⟨_, rfl⟩
                rw [← hm1] at hS5 e1 hasc
                have hm2 : (i : Int) - 1 = m1 := e1.symm
                have hm3 : (m1 : Int) < r.length := by omega
                have hm4 : (0 : Int) ≤ m1 := by omega
                obtain ⟨y1, y2⟩ := lessT_leq hasc
                have y3 : Op.bytesLess (grf r m1).toList (grf r i).toList = true := hasc
                clear hm1 e1 hasc hS4
                repeat (show wpQuiet _ _ _ _ (_ :: _) _; go_big_quiet_step (fail))
                refine wpQuiet_nil (hK _ ?_)
                clear hK K
                refine wpSegs_nil ?_
                go_wp2_with fail
                go_meet
                exact ⟨rfl, rfl, hgd⟩
              · have h0' : ¬ ((0 : Int) < i) := by omega
                clear hS4
                repeat (show wpQuiet _ _ _ _ (_ :: _) _; go_big_quiet_step (fail))
                refine wpQuiet_nil (hK _ ?_)
                clear hK K
                refine wpSegs_nil ?_
                go_wp2_with fail
                go_meet
                exact ⟨rfl, rfl, hgd⟩
            | false =>
              rw [he] at heq
              have HR50 := Lib.hid (show 50 ≤ ratioT f1.2.2 f2.2.2 by
                rcases HT2.out with h | h
                · rw [he] at h; cases h
                · exact h)
              clear he
              refine wpSeq_consK fun K2 hK2 K hK => ?_
              repeat (show wpQuiet _ _ _ _ (_ :: _) _; go_big_quiet_step (fail))
              refine wpQuiet_nil (hK _ ?_)
              clear hK K
              show wpList _ _ _ [_] _ _
              go_wp2_with fail
              refine hrat.mono ?_
              rintro e w5 ⟨rfl, hg5⟩
              have hg6 := hgd.trans hg5
              obtain ⟨ra, hra⟩ : ∃ ra, ra = ratioT f1.2.2 f2.2.2 := ⟨_, rfl⟩
              rw [← hra] at HR50 ⊢
              clear hra
              have h50 : decide (((ra : Nat) : Int) < 50) = false := decide_eq_false (by have := HR50.out; omega)
              go_wp2_with fail
              refine hK2.out _ _ (hSi _ hg6) ?_
              clear hK2 K2
              refine wpSeq_nil (wpRest_K fun K hK => ?_)
              by_cases h0 : 0 < i
              · have h0' : (0 : Int) < i := by omega
                have hS5 := hS4 h0
                have hasc := HOK.out.asc i h0 hlt
                have e1 : ((i - 1 : Nat) : Int) = (i : Int) - 1 := by omega
                obtain ⟨m1, hm1⟩ : ∃ m1, m1 = i - 1 := ⟨_, rfl⟩
                rw [← hm1] at hS5 e1 hasc
                have hm2 : (i : Int) - 1 = m1 := e1.symm
                have hm3 : (m1 : Int) < r.length := by omega
                have hm4 : (0 : Int) ≤ m1 := by omega
                obtain ⟨y1, y2⟩ := lessT_leq hasc
                have y3 : Op.bytesLess (grf r m1).toList (grf r i).toList = true := hasc
                clear hm1 e1 hasc hS4
                repeat (show wpQuiet _ _ _ _ (_ :: _) _; go_big_quiet_step (fail))
                refine wpQuiet_nil (hK _ ?_)
                clear hK K
                refine wpSegs_nil ?_
                go_wp2_with fail
                go_meet
                exact ⟨rfl, rfl, hg6⟩
              · have h0' : ¬ ((0 : Int) < i) := by omega
                clear hS4
                repeat (show wpQuiet _ _ _ _ (_ :: _) _; go_big_quiet_step (fail))
                refine wpQuiet_nil (hK _ ?_)
                clear hK K
                refine wpSegs_nil ?_
                go_wp2_with fail
                go_meet
                exact ⟨rfl, rfl, hg6⟩
          case rest =>
            obtain ⟨rfl, rfl, hgz⟩ := hcut
            have HZ := Lib.hid (HV4.out.trans hgz)
            clear hgz HB1 HB2 HT1 HT2 t3 t4
            go_wp2_with fail
            go_loopg [17] i (fun gk q wy => Grows w3 wy ∧ ∃ k : Nat, q = .int .i64 k ∧ k ≤ i ∧ gk = i - k)
            case atStart => exact ⟨HZ.out, 0, rfl, by omega, rfl⟩
            case round =>
              obtain ⟨hgy, k, rfl, hk, hgk⟩ := hrel
              have HK := Lib.hid hgk
              clear hgk
              have HGY := Lib.hid hgy
              clear hgy
              by_cases hki : k < i
              · have k0 : (0 : Int) ≤ k := by omega
                have k1 : (k : Int) < i := by omega
                have k2 : (k : Int) < r.length := by omega
                have d1 := HOK.out.dist k i hki hlt
                rw [← eqT_list] at d1
                obtain ⟨-, s1⟩ := CR.out _ HGY.out i hlt
                obtain ⟨-, s2⟩ := CR.out _ HGY.out k (by omega)
                go_wp2_with fail
                go_quiet (fail)
                go_wp2_with fail
                go_roundg (i - (k + 1))
                case measure => rw [HK.out]; omega
                case rel => exact ⟨HGY.out.drewN nq, k + 1, by go_num, by omega, rfl⟩
              · have hke : k = i := by omega
                subst hke
                have k1 : ¬ ((k : Int) < k) := by omega
                go_wp2_with fail
                go_roundg (r.length - (k + 1))
                case measure => rw [HG.out]; omega
                case rel => exact ⟨HGY.out, k + 1, by go_num, by omega, rfl⟩
        · have hir : i = r.length := by omega
          have i1 : ¬ ((i : Int) < r.length) := by omega
          have hzr := HGR.out.size
          have hM5 := hm.grows (HG3.out.trans HGR.out)
          clear HOK HR3
          go_wp2_with fail
          refine (sawake_any wr hM5).mono ?_
          rintro e w5 ⟨rfl, hg5⟩
          have HG5 := Lib.hid (HGR.out.trans hg5)
          have HRa5 := Lib.hid ((HRa3.out.grows (Nat.le_refl _) HG5.out).more HG5.out.size)
          have hM6 : ∀ wx, Grows w5 wx → MaxL wx := fun wx hg => hm.grows (HG3.out.trans (HG5.out.trans hg))
          have HM6 := Lib.hid hM6
          have HRb5 := Lib.hid ((HRb3.out.grows (Nat.le_refl _) HG5.out).more HG5.out.size)
          clear hM6 hM5 hg5 hzr HRa3 HRb3
          go_wp2_with fail
          refine (ren_none w5 (HM6.out _ (Grows.refl _)) Aa Aa ca ca a a (by omega) (by omega) HTA.out HTA.out HRa5.out HRa5.out (.inl (lone_self a))).mono ?_
          rintro e w6 ⟨⟨Ac, cc, rfl⟩, hg6⟩
          have HRa6 := Lib.hid ((HRa5.out.grows (Nat.le_refl _) hg6).more hg6.size)
          have HRb6 := Lib.hid ((HRb5.out.grows (Nat.le_refl _) hg6).more hg6.size)
          have HG6 := Lib.hid hg6
          clear HRa5 HRb5 hg6
          go_wp2_with fail
          refine (ren_none w6 (HM6.out _ HG6.out) Aa none ca 0 a [] (by omega) (by simp) HTA.out (fun k hk => absurd hk (by simp)) HRa6.out (Reads.none_) (.inr (lone_nil a))).mono ?_
          rintro e w7 ⟨⟨Ad, cd, rfl⟩, hg7⟩
          have HRb7 := Lib.hid ((HRb6.out.grows (Nat.le_refl _) hg7).more hg7.size)
          have HG7 := Lib.hid (HG6.out.trans hg7)
          clear HRa6 HRb6 hg7
          go_wp2_with fail
          refine (ren_none w7 (HM6.out _ HG7.out) none Ab 0 cb [] b (by simp) (by omega) (fun k hk => absurd hk (by simp)) HTB.out (Reads.none_) HRb7.out (.inl (lone_nil b))).mono ?_
          rintro e w8 ⟨⟨Ae, ce, rfl⟩, hg8⟩
          go_wp2_with fail
          go_ret
          exact ⟨rfl, HG3.out.trans (HG5.out.trans (HG7.out.trans hg8))⟩
end Go.Proofs.YtakgddochbcjbaaDoor
