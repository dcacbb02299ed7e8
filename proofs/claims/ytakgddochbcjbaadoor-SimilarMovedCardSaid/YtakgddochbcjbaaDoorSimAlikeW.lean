/- similar's alike, walked. -/
import Derived.Test.YtakgddochbcjbaaDoorSimAlike
namespace Go.Proofs.YtakgddochbcjbaaDoor
open Go.RowKit Go.Deep Go.MapKept Go.Shelf

theorem St.map_ {w0 w w' : World} {ps mb : Nat} {va vb vf vt vo : Value} {F T : List Int} {O : List (Int × Int)} {f f' : Int × Int → Option Int} {q q' : Nat} (h : St w0 w ps mb va vb vf vt vo F T O f q) (hg : w.grownBy w' (some mb)) (hm : MapR w' mb q' f') : St w0 w' ps mb va vb vf vt vo F T O f' q' :=
  ⟨Below.grown h.gr hg h.gr.size (fun k hk => by cases hk; exact h.gm), h.gp, h.gm, h.blk.grown hg (fun e => blk_map_ne h.blk h.map (by cases e; rfl)), h.oF.kept hg (.inr (own_map_ne h.oF h.map)), h.oT.kept hg (.inr (own_map_ne h.oT h.map)), h.oO.kept hg (.inr (own_map_ne h.oO h.map)), h.ne, hm⟩
set_option maxRecDepth 100000 in
set_option maxHeartbeats 4000000 in
theorem alike_any (w0 w : World) (ps mb n n' c c' : Nat) (A A' : Option Addr) (l m : List FileB) (vf vt vo : Value) (F T : List Int) (O : List (Int × Int)) (hM : MaxL w0) (h : St w0 w ps mb (.slice A n c) (.slice A' n' c') vf vt vo F T O (fun _ => none) 0)
    (hF : ∀ x ∈ F, 0 ≤ x ∧ x < n) (hT : ∀ x ∈ T, 0 ≤ x ∧ x < n') (hn : n ≤ 1000) (hn' : n' ≤ 1000) (hFl : F.length ≤ 1000) (hTl : T.length ≤ 1000) (hO : F.length + O.length ≤ 1000)
    (hl : Reads w0 w0.heap.size 3 A n (fileCells l)) (hm : Reads w0 w0.heap.size 3 A' n' (fileCells m)) (hlt : ∀ k, k < n → (ft l k).size ≤ 100000) (hmt : ∀ k, k < n' → (ft m k).size ≤ 100000) :
    Calls Tryd.prog 63 #[.pointer (some ⟨ps, 0, none⟩)] w fun e w' => e = .returned (.tuple #[]) ∧ ∃ vf' vt' vo' f q, f = fillTo (ratioF l m) F T (fun _ => none) F.length ∧ St w0 w' ps mb (.slice A n c) (.slice A' n' c') vf' vt' vo' (alikeE f ⟨F, T, O⟩).F (alikeE f ⟨F, T, O⟩).T (alikeE f ⟨F, T, O⟩).O f q := by
  obtain ⟨AF, cF, rfl, _, _⟩ := own_form h.oF
  obtain ⟨AT, cT, rfl, _, _⟩ := own_form h.oT
  have hp2 := h.blk.cell 2
  simp only [List.getElem?_toArray, List.getElem?_cons_succ, List.getElem?_cons_zero] at hp2
  have HS := Lib.hid h
  clear h
  go_enter Tryd.func63, Tryd.ntmps63
  go_wp2_with fail
  clear hp2
  go_loopg [13] F.length (fun gk q' wr => ∃ k : Nat, q' = .int .i64 k ∧ k ≤ F.length ∧ gk = F.length - k ∧ ∃ q, q ≤ 1000 * k ∧ St w0 wr ps mb (.slice A n c) (.slice A' n' c') (.slice AF F.length cF) (.slice AT T.length cT) vo F T O (fillTo (ratioF l m) F T (fun _ => none) k) q)
  case atStart => exact ⟨0, rfl, by omega, rfl, 0, by omega, HS.out⟩
  case round =>
    obtain ⟨k, rfl, hk, hgk, q, hq, hst⟩ := hrel
    have HG := Lib.hid hgk
    clear hgk HS
    by_cases hlk : k < F.length
    · obtain ⟨gF, cF', e, _, _⟩ := hst.oF.form (by omega)
      cases e
      have hcf := own_cell hst.oF hlk
      have hFk := hF _ (gi_mem hlk)
      have HNX := Lib.hid (show fillTo (ratioF l m) F T (fun _ => none) (k + 1) = fillRow (ratioF l m) (gi F k) T (fillTo (ratioF l m) F T (fun _ => none) k) T.length from rfl)
      obtain ⟨i, hi⟩ : ∃ i : Nat, gi F k = i := ⟨(gi F k).toNat, by omega⟩
      rw [hi] at hcf hFk HNX
      have hp3 := hst.blk.cell 3
      simp only [List.getElem?_toArray, List.getElem?_cons_succ, List.getElem?_cons_zero] at hp3
      have k0 : (0 : Int) ≤ k := by omega
      have k1 : (k : Int) < F.length := by omega
      generalize fillTo (ratioF l m) F T (fun _ => none) k = f0 at hst HNX
      have HST := Lib.hid hst
      clear hst hi
      go_wp2_with fail
      clear hcf hp3
      go_loopg [22] T.length (fun gj q' wx => ∃ j : Nat, q' = .int .i64 j ∧ j ≤ T.length ∧ gj = T.length - j ∧ ∃ q, q ≤ 1000 * k + j ∧ St w0 wx ps mb (.slice A n c) (.slice A' n' c') (.slice (some ⟨gF, 0, none⟩) F.length cF) (.slice AT T.length cT) vo F T O (fillRow (ratioF l m) (i : Int) T f0 j) q)
      case atStart => exact ⟨0, rfl, by omega, rfl, q, by omega, HST.out⟩
      case round =>
        obtain ⟨j, rfl, hj, hgj, q2, hq2, hst⟩ := hrel
        have HJ := Lib.hid hgj
        clear hgj HST
        by_cases hjl : j < T.length
        · obtain ⟨gT, cT', e, _, _⟩ := hst.oT.form (by omega)
          cases e
          have hct := own_cell hst.oT hjl
          have hTj := hT _ (gi_mem hjl)
          have HNJ := Lib.hid (show fillRow (ratioF l m) (i : Int) T f0 (j + 1) = putF (fillRow (ratioF l m) (i : Int) T f0 j) ((i : Int), gi T j) (ratioF l m i (gi T j)) from rfl)
          obtain ⟨x, hx⟩ : ∃ x : Nat, gi T j = x := ⟨(gi T j).toNat, by omega⟩
          rw [hx] at hct hTj HNJ
          have HRX := Lib.hid (show ratioF l m (i : Int) (x : Int) = (ratioT (ft l i) (ft m x) : Nat) from rfl)
          generalize fillRow (ratioF l m) (i : Int) T f0 j = f1 at hst HNJ
          have j0 : (0 : Int) ≤ j := by omega
          have j1 : (j : Int) < T.length := by omega
          clear hx
          go_wp2_with fail
          obtain ⟨a1, rfl, ha1, p0, p1, p2⟩ := (hl.grows (Nat.le_refl _) hst.gr).file (k := i) (by omega)
          obtain ⟨a2, rfl, ha2, q0', q1', q2'⟩ := (hm.grows (Nat.le_refl _) hst.gr).file (k := x) (by omega)
          obtain ⟨S, hS⟩ : ∃ S : World → Prop, S = fun w' => Grows wr w' := ⟨_, rfl⟩
          have hSb : ∀ s : SW S, Grows wr s.w := fun s => by
            have := s.ok
            subst hS
            exact this
          have hS1 : ∀ s : SW S, s.w.cell? ⟨ps, 0, none⟩ = some (.slice (some a1) n c) := fun s => (Blk.growsF hst.blk (hSb s)).cell 0
          have hS2 : ∀ s : SW S, s.w.cell? ⟨ps, 1, none⟩ = some (.slice (some a2) n' c') := fun s => (Blk.growsF hst.blk (hSb s)).cell 1
          have hS3 : ∀ s : SW S, s.w.cell? ⟨ps, 4, none⟩ = some (.map (some mb)) := fun s => (Blk.growsF hst.blk (hSb s)).cell 4
          have hz := hst.gr.size
          have hS4 : ∀ s : SW S, s.w.cell? ⟨(a1.add (i * 3)).block, (a1.add (i * 3)).off + 2, none⟩ = some (.string (ft l i)) := fun s => by
            obtain ⟨a1', e, _, _, _, h2⟩ := (hl.grows (Nat.le_refl _) (hst.gr.trans (hSb s))).file (k := i) (by omega)
            cases e
            exact h2
          have hS5 : ∀ s : SW S, s.w.cell? ⟨(a2.add (x * 3)).block, (a2.add (x * 3)).off + 2, none⟩ = some (.string (ft m x)) := fun s => by
            obtain ⟨a2', e, _, _, _, h2⟩ := (hm.grows (Nat.le_refl _) (hst.gr.trans (hSb s))).file (k := x) (by omega)
            cases e
            exact h2
          have hS0 : S wr.drew := by rw [hS]; exact (Grows.refl wr).drew
          have hSi : ∀ w', Grows wr w' → S w' := by rw [hS]; exact fun _ h => h
          clear hS hSb p0 p1 p2 q0' q1' q2'
          haveI : Nonempty (SW S) := ⟨⟨_, hS0⟩⟩
          have i0 : (0 : Int) ≤ i := by omega
          have i1 : (i : Int) < n := by omega
          have x0 : (0 : Int) ≤ x := by omega
          have x1 : (x : Int) < n' := by omega
          refine wp_region_seq S [([0, 1, 2, 3, 4, 5, 6, 7, 8, 9, 10, 11, 12, 13, 14, 15, 16, 17, 18, 19, 20, 21, 22], 23)] [] [([], [24])] (by kernel_rfl) (fun _ _ _ _ _ h => h) (by kernel_rfl) hS0 ?_
          simp only [pickS, pickT, pickL, List.map_cons, List.map_nil, List.filterMap_cons, List.filterMap_nil, List.getElem?_cons_zero, List.getElem?_cons_succ]
          refine wpSeq_consK fun K2 hK2 K hK => ?_
          repeat (show wpQuiet _ _ _ _ (_ :: _) _; go_big_quiet_step (fail))
          refine wpQuiet_nil (hK _ ?_)
          clear hK K
          show wpList _ _ _ [_] _ _
          have hrt := ratio_any (ft l i) (ft m x) wr.drew (hM.grows (hst.gr.drew)) (hlt i (by omega)) (hmt x (by omega))
          go_wp2_with fail
          refine hrt.mono ?_
          rintro e w5 ⟨rfl, hg5⟩
          have hg5' := (Grows.refl wr).drew.trans hg5
          clear hrt
          go_wp2_with fail
          refine hK2.out _ _ (hSi _ hg5') ?_
          clear hK2 K2
          refine wpSeq_nil (wpRest_K fun K hK => ?_)
          refine wpQuiet_nil (hK _ ?_)
          clear hK K
          refine wpSegs_consK fun K2 hK2 K hK => ?_
          refine wpQuiet_nil (hK _ ?_)
          clear hK K
          show wpList _ _ _ [_] _ _
          have hst5 := hst.grows hg5'
          have hrl := ratio_le (ft l i) (ft m x)
          clear hS1 hS2 hS3 hS4 hS5 hS0 hSi this
          clear S
          refine wpList_putR rfl _ _ _ rfl mb q2 f1 rfl hst5.map (by unfold maxLen; omega) i x (ratioT (ft l i) (ft m x) : Nat) rfl rfl ⟨by omega, by omega⟩ ⟨by omega, by omega⟩ ⟨by omega, by omega⟩ ?_
          intro w6 hm6 hg6
          have hst6 := hst5.map_ hg6 hm6
          go_wp2_with fail
          refine hK2.out _ _ (wpSegs_nil ?_)
          clear hK2 K2
          simp only [Act.put]
          go_wp2_with fail
          go_roundg (T.length - (j + 1))
          case measure => rw [HJ.out]; omega
          case rel => exact ⟨j + 1, by go_num, by omega, rfl, q2 + 1, by omega, by rw [HNJ.out, HRX.out]; exact hst6⟩
        · have hjn : j = T.length := by omega
          have j1 : ¬ ((j : Int) < T.length) := by omega
          rw [hjn, ← HNX.out] at hst
          have hq3 : q2 ≤ 1000 * (k + 1) := by omega
          clear hjn
          go_wp2_with fail
          go_roundg (F.length - (k + 1))
          case measure => rw [HG.out]; omega
          case rel => exact ⟨k + 1, by go_num, by omega, rfl, q2, hq3, hst⟩
    · have hkn : k = F.length := by omega
      have k1 : ¬ ((k : Int) < F.length) := by omega
      rw [hkn] at hst
      obtain ⟨f, hf⟩ : ∃ f, f = fillTo (ratioF l m) F T (fun _ => none) F.length := ⟨_, rfl⟩
      rw [← hf] at hst
      have HFF := Lib.hid hf
      clear hf hkn
      have HST := Lib.hid hst
      clear hst
      go_wp2_with fail
      go_loopg [7] (F.length + 1) (fun gj q' wx => ∃ (s : SSt) (vf vt vo : Value), St w0 wx ps mb (.slice A n c) (.slice A' n' c') vf vt vo s.F s.T s.O f q ∧ s.F.length < gj ∧ alikeE f ⟨F, T, O⟩ = alikeE f s ∧ (∀ x ∈ s.F, 0 ≤ x ∧ x < n) ∧ (∀ x ∈ s.T, 0 ≤ x ∧ x < n') ∧ s.F.length ≤ 1000 ∧ s.T.length ≤ 1000 ∧ s.F.length + s.O.length ≤ 1000)
      case atStart => exact ⟨⟨F, T, O⟩, _, _, _, HST.out, Nat.lt_succ_self _, rfl, hF, hT, hFl, hTl, hO⟩
      case round =>
        obtain ⟨s, vf, vt, vo, hst, hgj, hsame, hsF, hsT, hsFl, hsTl, hsO⟩ := hrel
        have HJ := Lib.hid hgj
        have HSM := Lib.hid hsame
        clear hgj hsame HST
        have hbo := best_any w0 wr ps mb _ _ _ _ _ s.F s.T s.O f q hst (fun x hx => ⟨by have := hsF x hx; omega, by have := hsF x hx; omega⟩) (fun x hx => ⟨by have := hsT x hx; omega, by have := hsT x hx; omega⟩) hsFl hsTl
        by_cases h50 : 50 ≤ (bestOf f s.F s.T).2
        · rw [decide_eq_true h50] at hbo
          have hin := best_in h50
          have HN := Lib.hid (alikeE_step h50)
          have hdl := delL_lt hin.1
          have hT0 := List.length_pos_of_mem hin.2.1
          have hF0 := List.length_pos_of_mem hin.1
          have hdlT := delL_len (bestOf f s.F s.T).1.2 s.T
          clear hin h50
          generalize bestOf f s.F s.T = b at hbo HN hdl hdlT
          obtain ⟨⟨b1, b2⟩, b3⟩ := b
          go_wp2_with fail
          refine hbo.mono ?_
          rintro e w1 ⟨rfl, hg1⟩
          have hst2 := hst.grows (hg1.alloc (.cells #[.int .i64 b1, .int .i64 b2] 103))
          have hc0 := (Blk.new w1 103 #[.int .i64 b1, .int .i64 b2]).cell 0
          have hc1 := (Blk.new w1 103 #[.int .i64 b1, .int .i64 b2]).cell 1
          simp only [List.getElem?_toArray, List.getElem?_cons_succ, List.getElem?_cons_zero] at hc0 hc1
          have htk := take_any w0 _ ps mb _ _ _ _ _ s.F s.T s.O f q hst2 b1 b2 hF0 hT0 (by omega)
          clear hbo
          go_wp2_with fail
          refine htk.mono ?_
          rintro e w2 ⟨rfl, vf2, vt2, vo2, hst3, _, _, _⟩
          clear htk hc0 hc1 hst2
          go_wp2_with fail
          go_roundg (s.F.length)
          case measure => exact HJ.out
          case rel => exact ⟨s.take b1 b2, _, _, _, hst3, hdl, by rw [HSM.out, HN.out], fun x hx => hsF x (mem_delL.1 hx).1, fun x hx => hsT x (mem_delL.1 hx).1, by show (delL b1 s.F).length ≤ 1000; omega, by show (delL b2 s.T).length ≤ 1000; omega, by show (delL b1 s.F).length + (s.O ++ [(b1, b2)]).length ≤ 1000; rw [List.length_append]; simp only [List.length_singleton]; omega⟩
        · rw [decide_eq_false h50] at hbo
          have HN := Lib.hid (alikeE_stop h50)
          clear h50
          generalize bestOf f s.F s.T = b at hbo
          obtain ⟨⟨b1, b2⟩, b3⟩ := b
          go_wp2_with fail
          refine hbo.mono ?_
          rintro e w1 ⟨rfl, hg1⟩
          have hst2 := hst.grows (hg1.alloc (.cells #[.int .i64 b1, .int .i64 b2] 103))
          clear hbo hst
          go_wp2_with fail
          (try simp only [Exit.inBlock, Exit.then])
          refine bodyPost_ret (v := .tuple #[]) ?_ rfl ?_
          · exact results_none rfl _ _ _
          exact ⟨rfl, _, _, _, f, q, HFF.out, by rw [HSM.out, HN.out]; exact hst2⟩
end Go.Proofs.YtakgddochbcjbaaDoor
