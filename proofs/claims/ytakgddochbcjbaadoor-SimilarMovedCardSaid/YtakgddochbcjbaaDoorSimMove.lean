/- SimilarMoved: the walk of the law. -/
import Derived.Test.YtakgddochbcjbaaDoorSimRens
import Derived.Test.YtakgddochbcjbaaDoorMixG
namespace Go.Proofs.YtakgddochbcjbaaDoor
open Go.RowKit Go.Deep Go.MapKept Go.Shelf

theorem modK (x : Int) {m : Nat} (h0 : 0 < m) (hm : m ≤ 1000) : ∃ k : Nat, k < m ∧ wrap64 ((IntKind.u64.wrap x).tmod (m : Int)) = k := by
  have h2 := wrap_u64_nonneg x
  have h1 : 0 ≤ (IntKind.u64.wrap x).tmod (m : Int) := Int.tmod_nonneg _ h2
  have h3 : (IntKind.u64.wrap x).tmod (m : Int) < m := Int.tmod_lt_of_pos _ (by omega)
  refine ⟨((IntKind.u64.wrap x).tmod (m : Int)).toNat, by omega, ?_⟩
  unfold wrap64
  omega
theorem wrapU_small {m : Nat} (hm : m ≤ 1000) : IntKind.u64.wrap (m : Int) = m := by
  simp only [IntKind.wrap, IntKind.signed, IntKind.bits, Bool.false_and]
  rw [if_neg (by simp)]
  omega
/-- the moves, where one file moved -/
theorem moved_L {a L : List FileB} {k : Nat} {tp : ByteArray} (ha : TreeOK a) (hk : k < a.length) (hal : a.length ≤ 30) (ht : eqT (ft a k) ByteArray.empty = false) (hto : hasF a tp = false) (hr : rightP tp = true)
    (h : InsF (withoutTo (withoutTo a (fp a k) a.length) tp (withoutTo a (fp a k) a.length).length) (tp, fx a k, ft a k) L) : TreeOK L ∧ L.length ≤ 31 ∧ ∀ O, O.Perm (outOf a L).O → renL a L O = [(fp a k, tp)] := by
  obtain ⟨m1, m2⟩ := ha.without (fp a k)
  obtain ⟨m3, m4⟩ := m1.without tp
  obtain ⟨t1, t2⟩ := m1.put (f := (tp, fx a k, ft a k)) h (right_size hr) (ha.size hk)
  have hl := withoutTo_len a (fp a k) a.length
  refine ⟨t1, by omega, fun O hO => out_moved ha hk ht hto t1 (fun x => ?_) hO⟩
  rw [h.mem x, m4, m2]
  constructor
  · rintro (h1 | ⟨⟨h1, h2⟩, _⟩)
    · exact .inl h1
    · refine .inr ⟨h1, fun e => ?_⟩
      rw [eqT, decide_eq_false_iff_not] at h2
      exact h2 e
  · rintro (h1 | ⟨h1, h2⟩)
    · exact .inl h1
    · refine .inr ⟨⟨h1, decide_eq_false h2⟩, decide_eq_false fun e => ?_⟩
      rw [hasF_mem.2 ⟨x, h1, e⟩] at hto
      cases hto

set_option maxRecDepth 100000 in
set_option pp.deepTerms true in
set_option pp.maxSteps 1000000 in
set_option maxRecDepth 100000 in
set_option maxHeartbeats 4000000 in
theorem smoved_any (B1 : Nat) (A1 : Option Addr) (n1 c1 : Nat) (l1 : List FileB) (x : Int) (tp : ByteArray) (w : World) (hm : MaxL w) (h1 : Reads w B1 3 A1 n1 (fileCells l1)) (hB1 : B1 ≤ w.heap.size) (hn1 : n1 ≤ maxLen) :
    Calls Tryd.prog 10 #[.slice A1 n1 c1, .int .i64 x, .string tp] w fun e w' => e = .returned (.bool true) ∧ Grows w w' := by
  have HX1 := Lib.hid h1
  clear h1
  go_enter Tryd.func10, Tryd.ntmps10
  go_wp2_with fail
  refine (few_any B1 A1 n1 c1 l1 w HX1.out hn1).mono ?_
  rintro e _ ⟨⟨⟨b1, rfl⟩, hb1⟩, rfl⟩
  cases b1 with
  | false =>
    clear hb1
    go_wp2_with fail
    refine (sawake_any w hm).mono ?_
    rintro e w1 ⟨rfl, hg1⟩
    go_wp2_with fail
    go_ret
    exact ⟨rfl, hg1⟩
  | true =>
    have hz1 : n1 ≤ 20 := by
      rcases Nat.lt_or_ge 20 n1 with h | h
      · have := hb1 h; cases this
      · exact h
    clear hb1
    by_cases h50 : 50 < tp.size
    · have h50' : ((tp.size : Nat) : Int) > 50 := by omega
      go_wp2_with fail
      refine (sawake_any w hm).mono ?_
      rintro e w1 ⟨rfl, hg1⟩
      go_wp2_with fail
      go_ret
      exact ⟨rfl, hg1⟩
    · have h50' : ¬ (((tp.size : Nat) : Int) > 50) := by omega
      go_wp2_with fail
      refine (rtree_any B1 A1 n1 c1 l1 w HX1.out hB1 (by omega)).mono ?_
      rintro e w1 ⟨v1, rfl, a, ha, hal, ho1, hg1⟩
      obtain ⟨Aa, ca, rfl, hca, hcM⟩ := own_form ho1
      have HRa := Lib.hid (Reads.of_own ho1)
      have HA := Lib.hid ha
      have HG1 := Lib.hid hg1
      clear ho1 ha hg1 HX1
      by_cases h0 : a.length = 0
      · have h0' : ((a.length : Nat) : Int) = 0 := by omega
        go_wp2_with fail
        refine (sawake_any w1 (hm.grows HG1.out)).mono ?_
        rintro e w2 ⟨rfl, hg2⟩
        go_wp2_with fail
        go_ret
        exact ⟨rfl, HG1.out.trans hg2⟩
      · have h0' : ¬ (((a.length : Nat) : Int) = 0) := by omega
        obtain ⟨k, hk, hkx⟩ := modK x (show 0 < a.length by omega) (show a.length ≤ 1000 by omega)
        have hwl := wrapU_small (show a.length ≤ 1000 by omega)
        obtain ⟨ad, rfl, had, p0, p1, p2⟩ := HRa.out.file hk
        have k0 : (0 : Int) ≤ k := by omega
        have k1 : (k : Int) < a.length := by omega
        go_wp2_with fail
        have hg2 := HG1.out.alloc (.cells #[.string (fp a k), .bool (fx a k), .string (ft a k)] 57)
        have hb2 := Blk.new w1 57 #[.string (fp a k), .bool (fx a k), .string (ft a k)]
        have hw2 := (Grows.refl w1).alloc (.cells #[.string (fp a k), .bool (fx a k), .string (ft a k)] 57)
        generalize w1.alloc (.cells #[.string (fp a k), .bool (fx a k), .string (ft a k)] 57) = w2 at hg2 hb2 hw2 ⊢
        generalize w1.heap.size = b8 at hb2 had ⊢
        have HRa2 := Lib.hid ((HRa.out.grows (Nat.le_refl _) hw2).more hw2.size)
        clear HRa p0 p1 p2 hw2 HG1 hkx hwl
        refine (rdrop_any _ (some ad) a.length ca a (fp a k) w2 HRa2.out (Nat.le_refl _) (by omega)).mono ?_
        rintro e w3 ⟨⟨v, en, rfl, hv⟩, hg3⟩
        have hg03 := hg2.trans hg3
        have hb3 := Blk.growsF hb2 hg3
        have HRa3 := Lib.hid ((HRa2.out.grows (Nat.le_refl _) hg3).more hg3.size)
        have HHv := Lib.hid hv
        clear hv hb2 HRa2
        have hz2 := hg3.size
        by_cases hen : en = 0
        · subst hen
          obtain ⟨Ab, cb, rfl, hcb, hcbM, hob⟩ : ∃ Ab cb, v = .slice Ab (withoutTo a (fp a k) a.length).length cb ∧ (withoutTo a (fp a k) a.length).length ≤ cb ∧ cb ≤ maxLen ∧ w3.ownsRow w2.heap.size 57 3 v (withoutTo a (fp a k) a.length).length (fileCells (withoutTo a (fp a k) a.length)) := by
            rcases HHv.out with ⟨_, h⟩ | ⟨_, h⟩
            · exact absurd rfl h
            · obtain ⟨Ab, cb, e, h1, h2⟩ := own_form h
              exact ⟨Ab, cb, e, h1, h2, h⟩
          have HRb3 := Lib.hid (Reads.of_own hob)
          clear hob HHv
          have c2 := hb3.cell 2
          simp only [List.getElem?_toArray, List.getElem?_cons_succ, List.getElem?_cons_zero] at c2
          have het := eqT_empty (ft a k)
          cases hem : eqT (ft a k) ByteArray.empty with
          | true =>
            rw [hem] at het
            clear hem
            go_wp2_with fail
            refine (sawake_any _ (hm.grows hg03)).mono ?_
            rintro e wz ⟨rfl, hgz⟩
            go_wp2_with fail
            go_ret
            exact ⟨rfl, (hg03).trans hgz⟩
          | false =>
            rw [hem] at het
            have HEM := Lib.hid hem
            clear hem
            go_wp2_with fail
            refine (rfind_any _ (some ad) a.length ca a tp w3 HRa3.out (Nat.le_refl _) (by omega)).mono ?_
            rintro e w4 ⟨⟨f4, rfl, -⟩, hg4⟩
            have HB4 := Lib.hid (Blk.growsF hb3 (hg4.alloc (.cells #[.string f4.1, .bool f4.2.1, .string f4.2.2] 57)))
            obtain ⟨w5, hw5⟩ : ∃ w5, w5 = w4.alloc (.cells #[.string f4.1, .bool f4.2.1, .string f4.2.2] 57) := ⟨_, rfl⟩
            have hg35 : Grows w3 w5 := by rw [hw5]; exact hg4.alloc _
            rw [← hw5] at HB4
            have hb6 := Blk.new w5 57 #[.string tp, .bool (fx a k), .string (ft a k)]
            have hg56 : Grows w5 (w5.alloc (.cells #[.string tp, .bool (fx a k), .string (ft a k)] 57)) := (Grows.refl w5).alloc _
            have e0 := HB4.out.cell 0
            have e1 := HB4.out.cell 1
            have e2 := HB4.out.cell 2
            simp only [List.getElem?_toArray, List.getElem?_cons_succ, List.getElem?_cons_zero] at e0 e1 e2
            have HW5 := Lib.hid hw5.symm
            rw [hw5] at e0 e1 e2
            clear hw5
            go_wp2_with fail
            rw [HW5.out]
            have hg06 := hg03.trans (hg35.trans hg56)
            have hg36 := hg35.trans hg56
            have HB6 := Lib.hid (Blk.growsF HB4.out hg56)
            have HRb6 := Lib.hid ((HRb3.out.grows (Nat.le_refl _) hg36).more hg36.size)
            have HRa6 := Lib.hid ((HRa3.out.grows (Nat.le_refl _) hg36).more hg36.size)
            clear HRb3 HRa3 hg4 hg35 hg56 hg36 hb3 c2 HB4 e0 e1 e2 HW5
            generalize w5.alloc (.cells #[.string tp, .bool (fx a k), .string (ft a k)] 57) = w6 at *
            obtain ⟨M, hM⟩ : ∃ M, M = withoutTo a (fp a k) a.length := ⟨_, rfl⟩
            have hMT := HA.out.without (fp a k)
            have hML := withoutTo_len a (fp a k) a.length
            rw [← hM] at hMT hML hcb HRb6 ⊢
            have HPT := Lib.hid (fun (L : List FileB) (hto : hasF a tp = false) (hr : rightP tp = true) (h : InsF (withoutTo M tp M.length) (tp, fx a k, ft a k) L) => moved_L HA.out hk hal HEM.out hto hr (by rw [← hM]; exact h))
            have HMS := Lib.hid (fun j (hj : j < M.length) => (hMT.1.2 _ (gf_mem hj)).1)
            clear hM hMT
            refine (rput_any _ Ab M.length cb M (tp, fx a k, ft a k) w6 HRb6.out (Nat.le_refl _) (by omega) HMS.out).mono ?_
            rintro e w7 ⟨⟨v, en, rfl, hv⟩, hg7⟩
            have hg07 := hg06.trans hg7
            have HHV := Lib.hid hv
            have HB7 := Lib.hid (Blk.growsF HB6.out hg7)
            have HRa7 := Lib.hid ((HRa6.out.grows (Nat.le_refl _) hg7).more hg7.size)
            clear hv HB6 HRa6 HRb6 HMS hb6
            cases hto : hasF a tp with
            | true =>
              clear hto
              go_wp2_with fail
              refine (sawake_any _ (hm.grows hg07)).mono ?_
              rintro e wz ⟨rfl, hgz⟩
              go_wp2_with fail
              go_ret
              exact ⟨rfl, (hg07).trans hgz⟩
            | false =>
              have HTO := Lib.hid hto
              clear hto
              by_cases hen : en = 0
              · subst hen
                obtain ⟨L, hLr, Al, cl, rfl, hcl, hclM, hol⟩ : ∃ L, (TreeOK L ∧ L.length ≤ 31 ∧ ∀ O, O.Perm (outOf a L).O → renL a L O = [(fp a k, tp)]) ∧ ∃ Al cl, v = .slice Al L.length cl ∧ L.length ≤ cl ∧ cl ≤ maxLen ∧ w7.ownsRow w6.heap.size 57 3 v L.length (fileCells L) := by
                  rcases HHV.out with ⟨_, h⟩ | ⟨_, hr, _, L, hin, ho⟩
                  · exact absurd rfl h
                  · obtain ⟨Al, cl, e, h1, h2⟩ := own_form ho
                    exact ⟨L, HPT.out L HTO.out hr hin, Al, cl, e, h1, h2, ho⟩
                have HRl7 := Lib.hid (Reads.of_own hol)
                have HLR := Lib.hid hLr
                have hl31 := hLr.2.1
                clear hol HHV HPT hLr
                go_wp2_with fail
                obtain ⟨S, hS⟩ : ∃ S : World → Prop, S = fun w' => Grows w7 w' := ⟨_, rfl⟩
                have hSb : ∀ s : SW S, Grows w7 s.w := fun s => by
                  have := s.ok
                  subst hS
                  exact this
                have hS1 : ∀ s : SW S, s.w.cell? ⟨b8, 0, none⟩ = some (.string (fp a k)) := fun s => (Blk.growsF HB7.out (hSb s)).cell 0
                have hSi : ∀ w', Grows w7 w' → S w' := by rw [hS]; exact fun _ h => h
                have hgd : Grows w7 w7.drew := (Grows.refl w7).drew
                have hS0 := hSi _ hgd
                clear hS hSb
                haveI : Nonempty (SW S) := ⟨⟨_, hS0⟩⟩
                refine wp_region_sf S [([], 0)] 9 [([1, 2, 3, 5, 6, 7, 8], 4)] [([], 10)] [11, 12] [] (by kernel_rfl) (fun _ _ _ _ _ h => h) (by kernel_rfl) hS0 ?_
                simp only [pickS, pickT, pickL, List.map_cons, List.map_nil, List.filterMap_cons, List.filterMap_nil, List.getElem?_cons_zero, List.getElem?_cons_succ]
                generalize w7.drew = wd at hgd hS0 ⊢
                refine wpSeq_consK fun K2 hK2 K hK => ?_
                refine wpQuiet_nil (hK _ ?_)
                clear hK K
                show wpList _ _ _ [_] _ _
                go_wp2_with fail
                refine (sawake_any wd (hm.grows (hg07.trans hgd))).mono ?_
                rintro e wf ⟨rfl, hgf'⟩
                have hgf := hgd.trans hgf'
                clear hgf'
                go_wp2_with fail
                refine hK2.out _ _ (hSi _ hgf) ?_
                clear hK2 K2
                refine wpSeq_nil ?_
                refine wpFre_consK fun K1 hK1 K2 hK2 K hK => ?_
                repeat (show wpQuiet _ _ _ _ (_ :: _) _; go_big_quiet_step (fail))
                refine wpQuiet_nil (hK _ ?_ ?_)
                · clear hK K hK2 K2
                  show wpList _ _ _ [_] _ _
                  go_wp2_with fail
                  have hnw := (Blk.new wf 61 #[.string (fp a k), .string tp]).reads2
                  have hgn : Grows wf (wf.alloc (.cells #[.string (fp a k), .string tp] 61)) := (Grows.refl wf).alloc _
                  generalize wf.alloc (.cells #[.string (fp a k), .string tp] 61) = wn at hnw hgn ⊢
                  generalize wf.heap.size = bn at hnw ⊢
                  have hgn7 := hgf.trans hgn
                  refine hK1.out _ _ (hSi _ hgn7) ?_
                  clear hK1 K1
                  refine wpSeq_consK fun K2 hK2 K hK => ?_
                  refine wpQuiet_nil (hK _ ?_)
                  clear hK K
                  show wpList _ _ _ [_] _ _
                  go_wp2_with fail
                  refine (ren_tree wn (hm.grows (hg07.trans hgn7)) (some ad) Al ca cl a L (by omega) (by omega) (fun j hj => Nat.le_trans (HA.out.size hj) (by decide)) (fun j hj => Nat.le_trans (HLR.out.1.size hj) (by decide)) ((HRa7.out.grows (Nat.le_refl _) hgn7).more hgn7.size) ((HRl7.out.grows (Nat.le_refl _) hgn7).more hgn7.size)).mono ?_
                  rintro e wp ⟨⟨Ar, cr, O, hp, -, rfl, hrc, -, hrd⟩, hgp⟩
                  rw [HLR.out.2.2 O hp] at hrd hrc ⊢
                  clear hp O
                  have hgp7 := hgn7.trans hgp
                  have hpl := plainR_any _ _ Ar (some ⟨bn, 0, none⟩) 1 1 cr 1 [(fp a k, tp)] [(fp a k, tp)] wp hrd (hnw.grows (Nat.le_refl _) hgp) (Nat.le_refl _) hgp.size (by omega)
                  rw [eqR_self] at hpl
                  rw [show [(fp a k, tp)].length = 1 from rfl]
                  go_wp2_with fail
                  refine hK2.out _ _ (hSi _ hgp7) ?_
                  clear hK2 K2
                  refine wpSeq_consK fun K2 hK2 K hK => ?_
                  refine wpQuiet_nil (hK _ ?_)
                  clear hK K
                  show wpList _ _ _ [_] _ _
                  go_wp2_with fail
                  refine hpl.mono ?_
                  rintro e wq ⟨rfl, hgq⟩
                  have hgq7 := hgp7.trans hgq
                  go_wp2_with fail
                  refine hK2.out _ _ (hSi _ hgq7) ?_
                  clear hK2 K2
                  refine wpSeq_nil (wpRest_K fun K hK => ?_)
                  repeat (show wpQuiet _ _ _ _ (_ :: _) _; go_big_quiet_step (fail))
                  refine wpQuiet_nil (hK _ ?_)
                  clear hK K
                  refine wpSegs_nil ?_
                  go_wp2_with fail
                  go_ret
                  exact ⟨rfl, hg07.trans hgq7⟩
                · clear hK K hK1 K1
                  show wpList _ _ _ [_] _ _
                  go_wp2_with fail
                  refine (ren_tree wf (hm.grows (hg07.trans hgf)) (some ad) Al ca cl a L (by omega) (by omega) (fun j hj => Nat.le_trans (HA.out.size hj) (by decide)) (fun j hj => Nat.le_trans (HLR.out.1.size hj) (by decide)) ((HRa7.out.grows (Nat.le_refl _) hgf).more hgf.size) ((HRl7.out.grows (Nat.le_refl _) hgf).more hgf.size)).mono ?_
                  rintro e wp ⟨⟨Ar, cr, O, hp, -, rfl, hrc, -, hrd⟩, hgp⟩
                  rw [HLR.out.2.2 O hp] at hrd hrc ⊢
                  clear hp O
                  have hgp7 := hgf.trans hgp
                  rw [show [(fp a k, tp)].length = 1 from rfl]
                  go_wp2_with fail
                  refine hK2.out _ _ (hSi _ hgp7) ?_
                  clear hK2 K2
                  refine wpFre_nilK fun K1 hK1 => ?_
                  show wpList _ _ _ [_] _ _
                  go_wp2_with fail
                  have hnw := (Blk.new wp 61 #[.string (fp a k), .string tp]).reads2
                  have hgn : Grows wp (wp.alloc (.cells #[.string (fp a k), .string tp] 61)) := (Grows.refl wp).alloc _
                  generalize wp.alloc (.cells #[.string (fp a k), .string tp] 61) = wn at hnw hgn ⊢
                  generalize hbn : wp.heap.size = bn at hnw ⊢
                  have hpl := plainR_any _ _ Ar (some ⟨bn, 0, none⟩) 1 1 cr 1 [(fp a k, tp)] [(fp a k, tp)] wn (hrd.grows (Nat.le_refl _) hgn) hnw hgn.size (Nat.le_refl _) (by omega)
                  rw [eqR_self] at hpl
                  have hgn7 := hgp7.trans hgn
                  refine hK1.out _ _ (hSi _ hgn7) ?_
                  clear hK1 K1 hbn
                  refine wpSeq_consK fun K2 hK2 K hK => ?_
                  refine wpQuiet_nil (hK _ ?_)
                  clear hK K
                  show wpList _ _ _ [_] _ _
                  go_wp2_with fail
                  refine hpl.mono ?_
                  rintro e wq ⟨rfl, hgq⟩
                  have hgq7 := hgn7.trans hgq
                  go_wp2_with fail
                  refine hK2.out _ _ (hSi _ hgq7) ?_
                  clear hK2 K2
                  refine wpSeq_nil (wpRest_K fun K hK => ?_)
                  repeat (show wpQuiet _ _ _ _ (_ :: _) _; go_big_quiet_step (fail))
                  refine wpQuiet_nil (hK _ ?_)
                  clear hK K
                  refine wpSegs_nil ?_
                  go_wp2_with fail
                  go_ret
                  exact ⟨rfl, hg07.trans hgq7⟩
              · have hen' : decide (en = 0) = false := decide_eq_false hen
                clear HHV
                go_wp2_with fail
                refine (sawake_any _ (hm.grows hg07)).mono ?_
                rintro e wz ⟨rfl, hgz⟩
                go_wp2_with fail
                go_ret
                exact ⟨rfl, (hg07).trans hgz⟩
        · have hen' : decide (en = 0) = false := decide_eq_false hen
          clear HHv
          go_wp2_with fail
          refine (sawake_any _ (hm.grows hg03)).mono ?_
          rintro e wz ⟨rfl, hgz⟩
          go_wp2_with fail
          go_ret
          exact ⟨rfl, (hg03).trans hgz⟩
end Go.Proofs.YtakgddochbcjbaaDoor
