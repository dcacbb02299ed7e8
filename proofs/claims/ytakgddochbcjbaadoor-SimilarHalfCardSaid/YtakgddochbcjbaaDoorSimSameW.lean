/- similar's same, walked: pairs of the same text. -/
import Derived.Test.YtakgddochbcjbaaDoorSimSame
namespace Go.Proofs.YtakgddochbcjbaaDoor
open Go.RowKit Go.Deep Go.MapKept Go.Shelf

theorem cloneI_any (B : Nat) (w : World) (vf : Value) (F : List Int) (ho : w.ownsRow B 3 1 vf F.length (ints F)) (hF : F.length ≤ 1000000) :
    Calls Tryd.prog 97 #[vf] w fun e w' => ∃ v', e = .returned v' ∧ w'.ownsRow w.heap.size 3 1 v' F.length (ints F) ∧ Grows w w' := by
  obtain ⟨t0, hi0, hz0, hz1, hz2⟩ := info_parts Tryd.infoInt
  rcases ho.2 with ⟨e, h0⟩ | ⟨g, cap, cur, e, _, _, h1, h2, _, _⟩
  · subst e
    refine (Tryd.slices_Clone_nil_f97 0 0 w).mono ?_
    rintro e w' ⟨rfl, rfl⟩
    have : F = [] := List.length_eq_zero_iff.1 h0
    subst this
    exact ⟨_, rfl, World.ownsRow_nil _ _ _ _, Grows.refl _⟩
  · subst e
    refine (Tryd.slices_Clone_f97 t0 _ 1 8 hi0 hz0 hz1 hz2 rfl (by decide) (fun w => by kernel_rfl) g 0 F.length cap (ints F) w (by simp [ints]) (by unfold maxLen; omega) (by omega) (fun j u hu => ?_) (fun u hu => ?_)).mono ?_
    · have hcs := ho.cells (g := g) rfl j u hu
      have e2 : Addr.add ⟨g, 0, none⟩ j = ⟨g, j, none⟩ := by unfold Addr.add; split <;> simp_all
      rw [Nat.zero_add, ← e2, hcs]
    · simp only [ints, List.mem_map] at hu
      obtain ⟨x, _, rfl⟩ := hu
      rfl
    · rintro e w' ⟨v', rfl, h1, _, h3⟩
      exact ⟨v', rfl, h1, h3⟩

/-- what is left, and what was taken -/
structure SSt where
  F : List Int
  T : List Int
  O : List (Int × Int)
def SSt.take (s : SSt) (i k : Int) : SSt := ⟨delL i s.F, delL k s.T, s.O ++ [(i, k)]⟩
def sameStep (l m : List FileB) (s : SSt) (i : Int) : SSt := if idxT l m i s.T < 0 then s else s.take i (gi s.T (idxT l m i s.T).toNat)
def sameTo (l m : List FileB) (F T : List Int) : Nat → SSt
  | 0 => ⟨F, T, []⟩
  | k + 1 => sameStep l m (sameTo l m F T k) (gi F k)
/-- numbers that rise -/
def Asc (F : List Int) : Prop := ∀ j k, j < k → k < F.length → gi F j < gi F k
structure SInv (F T : List Int) (k : Nat) (s : SSt) : Prop where
  inF : ∀ j, k ≤ j → j < F.length → gi F j ∈ s.F
  subF : ∀ x ∈ s.F, x ∈ F
  subT : ∀ x ∈ s.T, x ∈ T
  lenF : s.F.length ≤ F.length
  lenT : s.T.length ≤ T.length
  lenO : s.O.length ≤ k
theorem mem_delL {x y : Int} {F : List Int} : y ∈ delL x F ↔ y ∈ F ∧ y ≠ x := by
  simp [delL]
theorem sameTo_inv {l m : List FileB} {F T : List Int} (hA : Asc F) : ∀ k, k ≤ F.length → SInv F T k (sameTo l m F T k)
  | 0, _ => ⟨fun j _ hj => gi_mem hj, fun _ h => h, fun _ h => h, Nat.le_refl _, Nat.le_refl _, Nat.le_refl _⟩
  | k + 1, hk => by
    have h := sameTo_inv (l := l) (m := m) (T := T) hA k (by omega)
    rw [sameTo, sameStep]
    split
    · exact ⟨fun j hj => h.inF j (by omega), h.subF, h.subT, h.lenF, h.lenT, Nat.le_succ_of_le h.lenO⟩
    · refine ⟨fun j hj hl => mem_delL.2 ⟨h.inF j (by omega) hl, ?_⟩, fun x hx => h.subF x (mem_delL.1 hx).1, fun x hx => h.subT x (mem_delL.1 hx).1, Nat.le_trans (delL_len _ _) h.lenF, Nat.le_trans (delL_len _ _) h.lenT, ?_⟩
      · have := hA k j (by omega) hl
        omega
      · simp only [SSt.take, List.length_append, List.length_singleton]
        exact Nat.add_le_add_right h.lenO 1

theorem own_kept {w w' : World} {B e size n ps : Nat} {v vf vt vo : Value} {xs : List Value} (h : w.ownsRow B e size v n xs) (hk : Kept w w' ps vf vt vo) (h1 : ∀ g, v.ownBlock = some g → g ≠ ps ∧ vf.ownBlock ≠ some g ∧ vt.ownBlock ≠ some g ∧ vo.ownBlock ≠ some g) : w'.ownsRow B e size v n xs := by
  refine ⟨h.1, ?_⟩
  rcases h.2 with h2 | ⟨g, cap, cur, hv, hb, hh, rest⟩
  · exact .inl h2
  · obtain ⟨a, b, c, d⟩ := h1 g (by rw [hv]; rfl)
    exact .inr ⟨g, cap, cur, hv, hb, (hk.2 g (Array.getElem?_eq_some_iff.1 hh).1 a b c d).trans hh, rest⟩
theorem blk_kept {w w' : World} {g ps : Nat} {t : TypeId} {cs : Array Value} {vf vt vo : Value} (h : Blk w g t cs) (hk : Kept w w' ps vf vt vo) (h1 : g ≠ ps ∧ vf.ownBlock ≠ some g ∧ vt.ownBlock ≠ some g ∧ vo.ownBlock ≠ some g) : Blk w' g t cs :=
  (hk.2 g h.lt h1.1 h1.2.1 h1.2.2.1 h1.2.2.2).trans h
theorem own_cell {w : World} {B g n c k : Nat} {xs : List Int} (h : w.ownsRow B 3 1 (.slice (some ⟨g, 0, none⟩) n c) n (ints xs)) (hk : k < xs.length) : w.cell? ⟨g, k, none⟩ = some (.int .i64 (gi xs k)) := by
  have hcs := h.cells (g := g) rfl k (.int .i64 (gi xs k)) (by simp [ints, gi, hk])
  have e2 : Addr.add ⟨g, 0, none⟩ k = ⟨g, k, none⟩ := by unfold Addr.add; split <;> simp_all
  rw [← e2, hcs]
set_option maxRecDepth 100000 in
set_option maxHeartbeats 2000000 in
theorem same_any (w0 w : World) (ps mb n n' c c' : Nat) (A A' : Option Addr) (l m : List FileB) (vf vt vo : Value) (F T : List Int) (f : Int × Int → Option Int) (q : Nat) (h : St w0 w ps mb (.slice A n c) (.slice A' n' c') vf vt vo F T [] f q) (hA : Asc F) (hF : ∀ x ∈ F, 0 ≤ x ∧ x < n) (hT : ∀ x ∈ T, 0 ≤ x ∧ x < n') (hFl : F.length ≤ 1000) (hTl : T.length ≤ 1000)
    (hl : Reads w0 w0.heap.size 3 A n (fileCells l)) (hm : Reads w0 w0.heap.size 3 A' n' (fileCells m)) :
    Calls Tryd.prog 62 #[.pointer (some ⟨ps, 0, none⟩)] w fun e w' => e = .returned (.tuple #[]) ∧ ∃ vf' vt' vo', St w0 w' ps mb (.slice A n c) (.slice A' n' c') vf' vt' vo' (sameTo l m F T F.length).F (sameTo l m F T F.length).T (sameTo l m F T F.length).O f q := by
  obtain ⟨bs, hbs⟩ : ∃ bs, bs = w.heap.size := ⟨_, rfl⟩
  obtain ⟨w1, hw1⟩ : ∃ w1, w1 = w.alloc (.cells #[.pointer (some ⟨ps, 0, none⟩)] 95) := ⟨_, rfl⟩
  have hg1 : Grows w w1 := by rw [hw1]; exact (Grows.refl w).alloc _
  have hbx : Blk w1 bs 95 #[.pointer (some ⟨ps, 0, none⟩)] := by rw [hw1, hbs]; exact Blk.new _ _ _
  have HW1 := Lib.hid hw1
  have HBS := Lib.hid hbs
  have hs1 := h.grows hg1
  have hq2 := (h.blk.alloc (.cells #[.pointer (some ⟨ps, 0, none⟩)] 95)).cell 2
  simp only [List.getElem?_toArray, List.getElem?_cons_succ, List.getElem?_cons_zero] at hq2
  clear hw1 hbs h
  have hb1 := hs1.blk
  have hx0 := hbx.cell 0
  have hp2 := hb1.cell 2
  simp only [List.getElem?_toArray, List.getElem?_cons_succ, List.getElem?_cons_zero] at hx0 hp2
  obtain ⟨AF, cF, rfl, _, _⟩ := own_form hs1.oF
  have hcl := cloneI_any w0.heap.size w1 (.slice AF F.length cF) F hs1.oF (by omega)
  have HS1 := Lib.hid hs1
  clear hs1 hb1
  go_enter Tryd.func62, Tryd.ntmps62
  go_wp2_with fail
  rw [← HW1.out, ← HBS.out]
  refine hcl.mono ?_
  rintro e w2 ⟨vc, rfl, hoc, hg2⟩
  obtain ⟨AC, cC, rfl, _, _⟩ := own_form hoc
  clear hcl hp2 hx0 hq2
  go_wp2_with fail
  have hdis0 : ∀ g, (Value.slice AC F.length cC).ownBlock = some g → (Value.slice AF F.length cF).ownBlock ≠ some g ∧ vt.ownBlock ≠ some g := fun g hg => by
    have h1 := (hoc.lt g hg).1
    refine ⟨fun e => ?_, fun e => ?_⟩
    · have := (HS1.out.oF.lt g e).2; omega
    · have := (HS1.out.oT.lt g e).2; omega
  go_loopg [11] F.length (fun gk q' wr => ∃ k : Nat, q' = .int .i64 k ∧ k ≤ F.length ∧ gk = F.length - k ∧ ∃ vf vt vo, St w0 wr ps mb (.slice A n c) (.slice A' n' c') vf vt vo (sameTo l m F T k).F (sameTo l m F T k).T (sameTo l m F T k).O f q ∧ wr.ownsRow w1.heap.size 3 1 (.slice AC F.length cC) F.length (ints F) ∧ Blk wr bs 95 #[.pointer (some ⟨ps, 0, none⟩)] ∧ ∀ g, (Value.slice AC F.length cC).ownBlock = some g → vf.ownBlock ≠ some g ∧ vt.ownBlock ≠ some g)
  case atStart => exact ⟨0, rfl, by omega, rfl, _, _, _, HS1.out.grows hg2, hoc, Blk.growsF hbx hg2, hdis0⟩
  case round =>
    obtain ⟨k, rfl, hk, hgk, vf1, vt1, vo1, hst, hoc, hbx, hdis⟩ := hrel
    have HG := Lib.hid hgk
    clear hgk hdis0 hg2 HS1
    have hinv := sameTo_inv (l := l) (m := m) (T := T) hA k hk
    by_cases hlt : k < F.length
    · obtain ⟨gC, cC', e, _, _⟩ := hoc.form (by omega)
      cases e
      have hFk := hF _ (gi_mem hlt)
      have hcc := own_cell hoc hlt
      obtain ⟨i, hi⟩ : ∃ i : Nat, gi F k = i := ⟨(gi F k).toNat, by omega⟩
      have HSS := Lib.hid (show sameTo l m F T (k + 1) = sameStep l m (sameTo l m F T k) i by rw [sameTo, hi])
      have hinF := hinv.inF k (Nat.le_refl _) hlt
      rw [hi] at hcc hFk hinF
      generalize sameTo l m F T k = S0 at hst HSS hinv hinF
      have k0 : (0 : Int) ≤ k := by omega
      have k1 : (k : Int) < F.length := by omega
      obtain ⟨AT, cT, rfl, _, _⟩ := own_form hst.oT
      obtain ⟨wq, hwq⟩ : ∃ wq, wq = wr.alloc (.cells #[.int .i64 (i : Int)] 3) := ⟨_, rfl⟩
      obtain ⟨bi, hbi⟩ : ∃ bi, bi = wr.heap.size := ⟨_, rfl⟩
      have hgq : Grows wr wq := by rw [hwq]; exact (Grows.refl wr).alloc _
      have hbiq : Blk wq bi 3 #[.int .i64 (i : Int)] := by rw [hwq, hbi]; exact Blk.new _ _ _
      have hxL := (hbx.alloc (.cells #[.int .i64 (i : Int)] 3)).cell 0
      have hpL := (hst.blk.alloc (.cells #[.int .i64 (i : Int)] 3)).cell 3
      simp only [List.getElem?_toArray, List.getElem?_cons_succ, List.getElem?_cons_zero] at hxL hpL
      have hgw := hst.gr.trans hgq
      have hIX := indexT_any w0 wq ps bs bi n n' c c' A A' l m _ _ _ _ _ i S0.T hgw.size ((Blk.growsF hbx hgq).cell 0) (hbiq.cell 0) (Blk.growsF hbx hgq).lt hbiq.lt (Blk.growsF hst.blk hgq) (hl.grows (Nat.le_refl _) hgw) (hm.grows (Nat.le_refl _) hgw) (by omega) (fun j hj => hT j (hinv.subT j hj)) (own_grows hst.oT hgq) (by have := hinv.lenT; omega)
      have HWQ := Lib.hid hwq
      have HBI := Lib.hid hbi
      have hgC := hdis gC rfl
      have HDIS := Lib.hid hdis
      clear hwq hbi hdis
      go_wp2_with fail
      rw [← HWQ.out, ← HBI.out]
      refine hIX.mono ?_
      rintro e w5 ⟨rfl, dq, rfl⟩
      clear hIX hxL hpL hcc
      rcases idxT_cases l m i S0.T with ⟨hr, hno⟩ | ⟨r, hr, hrl, hrw, hno⟩
      · rw [hr]
        have HS2 := Lib.hid (show sameTo l m F T (k + 1) = S0 by rw [HSS.out, sameStep, hr]; rfl)
        clear hno hr
        go_wp2_with fail
        go_roundg (F.length - (k + 1))
        case measure => rw [HG.out]; omega
        case rel => exact ⟨k + 1, by go_num, by omega, rfl, _, _, _, by rw [HS2.out]; exact (hst.grows hgq).grows ((Grows.refl wq).drewN dq), own_grows (own_grows hoc hgq) ((Grows.refl wq).drewN dq), (Blk.growsF hbx hgq).drewN dq, HDIS.out⟩
      · rw [hr]
        have HS2 := Lib.hid (show sameTo l m F T (k + 1) = S0.take i (gi S0.T r) by rw [HSS.out, sameStep, hr, if_neg (by omega)]; rfl)
        clear hno hr hrw
        have r0 : (0 : Int) ≤ r := by omega
        go_wp2_with fail
        have hst5 := (hst.grows hgq).grows ((Grows.refl wq).drewN dq)
        have hbx5 := (Blk.growsF hbx hgq).drewN dq
        have hbi5 := hbiq.drewN dq
        have hoc5 := own_grows (own_grows hoc hgq) ((Grows.refl wq).drewN dq)
        clear hst hbx hbiq hoc hgw hgq HWQ HBI
        generalize wq.drewN dq = w5 at hst5 hbx5 hbi5 hoc5 ⊢
        obtain ⟨gT, cT', e, hgT, _⟩ := hst5.oT.form (by omega)
        cases e
        have hct := own_cell hst5.oT hrl
        have hb5 := hst5.blk
        obtain ⟨S, hS⟩ : ∃ S : World → Prop, S = fun w' => Blk w' ps 100 #[.slice A n c, .slice A' n' c', vf1, .slice (some ⟨gT, 0, none⟩) S0.T.length cT, .map (some mb), vo1] ∧ Blk w' bs 95 #[.pointer (some ⟨ps, 0, none⟩)] ∧ Blk w' bi 3 #[.int .i64 (i : Int)] ∧ w'.cell? ⟨gT, r, none⟩ = some (.int .i64 (gi S0.T r)) := ⟨_, rfl⟩
        have hSb : ∀ s : SW S, Blk s.w ps 100 #[.slice A n c, .slice A' n' c', vf1, .slice (some ⟨gT, 0, none⟩) S0.T.length cT, .map (some mb), vo1] ∧ Blk s.w bs 95 #[.pointer (some ⟨ps, 0, none⟩)] ∧ Blk s.w bi 3 #[.int .i64 (i : Int)] ∧ s.w.cell? ⟨gT, r, none⟩ = some (.int .i64 (gi S0.T r)) := fun s => by
          have := s.ok
          subst hS
          exact this
        have hS1 : ∀ s : SW S, s.w.cell? ⟨ps, 3, none⟩ = some (.slice (some ⟨gT, 0, none⟩) S0.T.length cT) := fun s => (hSb s).1.cell 3
        have hS2 : ∀ s : SW S, s.w.cell? ⟨bs, 0, none⟩ = some (.pointer (some ⟨ps, 0, none⟩)) := fun s => (hSb s).2.1.cell 0
        have hS3 : ∀ s : SW S, s.w.cell? ⟨bi, 0, none⟩ = some (.int .i64 (i : Int)) := fun s => (hSb s).2.2.1.cell 0
        have hS4 : ∀ s : SW S, s.w.cell? ⟨gT, r, none⟩ = some (.int .i64 (gi S0.T r)) := fun s => (hSb s).2.2.2
        clear hSb
        have hS0 : S w5.drew := by rw [hS]; exact ⟨hb5.drew, hbx5.drew, hbi5.drew, hct⟩
        clear hS hct hb5 hbi5
        haveI : Nonempty (SW S) := ⟨⟨_, hS0⟩⟩
        have r1 : (r : Int) < S0.T.length := by omega
        refine wp_region_seq S [] [0, 1, 2, 3, 4, 5, 6, 7, 8, 9] [([], [10])] (by kernel_rfl) (fun _ _ _ _ _ h => h) (by kernel_rfl) hS0 ?_
        simp only [pickS, pickT, pickL, List.map_cons, List.map_nil, List.filterMap_cons, List.filterMap_nil, List.getElem?_cons_zero, List.getElem?_cons_succ]
        refine wpSeq_nil (wpRest_K fun K hK => ?_)
        repeat (show wpQuiet _ _ _ _ (_ :: _) _; go_big_quiet_step (fail))
        refine wpQuiet_nil (hK _ ?_)
        clear hK K
        refine wpSegs_consK fun K2 hK2 K hK => ?_
        refine wpQuiet_nil (hK _ ?_)
        clear hK K
        show wpList _ _ _ [_] _ _
        have htk := take_any w0 w5.drew ps mb _ _ _ _ _ _ _ _ f q (hst5.grows ((Grows.refl w5).drew)) i (gi S0.T r) (List.length_pos_of_mem hinF) (by omega) (by have := hinv.lenO; omega)
        clear hS1 hS2 hS3 hS4 hS0 this
        clear S
        have hne1 : ∀ g, (Value.slice (some ⟨gC, 0, none⟩) F.length cC).ownBlock = some g → g ≠ ps ∧ vf1.ownBlock ≠ some g ∧ (Value.slice (some ⟨gT, 0, none⟩) S0.T.length cT).ownBlock ≠ some g ∧ vo1.ownBlock ≠ some g := fun g hg => by
          refine ⟨fun e => own_blk_ne hoc5 hst5.blk (by decide) (by rw [hg, e]), (HDIS.out g hg).1, (HDIS.out g hg).2, fun e => ?_⟩
          rcases own_own_ne hoc5 hst5.oO (by decide) with h | h
          · rw [h] at hg; cases hg
          · exact h (by rw [hg, e])
        have hne2 : bs ≠ ps ∧ vf1.ownBlock ≠ some bs ∧ (Value.slice (some ⟨gT, 0, none⟩) S0.T.length cT).ownBlock ≠ some bs ∧ vo1.ownBlock ≠ some bs :=
          ⟨Blk.ne_ hbx5 hst5.blk (by decide), own_blk_ne hst5.oF hbx5 (by decide), own_blk_ne hst5.oT hbx5 (by decide), own_blk_ne hst5.oO hbx5 (by decide)⟩
        go_wp2_with fail
        refine htk.mono ?_
        rintro e w6 ⟨rfl, vf2, vt2, vo2, hst6, e1, e2, hk6⟩
        have hoc6 := own_kept hoc5.drew hk6 hne1
        have hbx6 := blk_kept hbx5.drew hk6 hne2
        clear htk
        go_wp2_with fail
        refine hK2.out _ _ (wpSegs_nil ?_)
        clear hK2 K2
        go_wp2_with fail
        go_roundg (F.length - (k + 1))
        case measure => rw [HG.out]; omega
        case rel => exact ⟨k + 1, by go_num, by omega, rfl, _, _, _, by rw [HS2.out]; exact hst6, hoc6, hbx6, fun g hg => ⟨by rw [e1]; exact (HDIS.out g hg).1, by rw [e2]; exact (HDIS.out g hg).2⟩⟩
    · have hkn : k = F.length := by omega
      have k1 : ¬ ((k : Int) < F.length) := by omega
      rw [hkn] at hst
      go_wp2_with fail
      go_end0
      exact ⟨rfl, _, _, _, hst⟩
end Go.Proofs.YtakgddochbcjbaaDoor
