/- chunk's texts: the step through firm lines. -/
import Derived.Test.YtakgddochbcjbaaDoorPkTexts
import Derived.Deep.MidRow
namespace Go.Proofs.YtakgddochbcjbaaDoor
open Go.RowKit Go.Deep Go.MapKept

theorem Reads.segS {w : World} {B n p q c : Nat} {A : Option Addr} {xs : List ByteArray} (h : Reads w B 1 A n (strs xs)) (hq : q ≤ n) (hp : p ≤ q) (hc : n ≤ c) : Reads w B 1 (if c = p then A else A.map (·.add p)) (q - p) (strs (seg xs p q)) :=
  (h.takeS hq).dropS hp (by omega)

theorem Blk.grows {w w' : World} {g : Nat} {t : TypeId} {cs : Array Value} (h : Blk w g t cs) (hg : Grows w w') : Blk w' g t cs := (hg.block g h.lt).trans h

theorem Tryd.infoChunk : (Tryd.prog.info? 36).map (fun i => (i.zero, i.size, i.bytes)) = some (some (.agg #[.int .i64 0, .slice none 0 0, .slice none 0 0, .slice none 0 0]), 4, 80) := by kernel_rfl
theorem cell_four_new (w : World) (u1 u2 u3 u4 : Value) (t : TypeId) : ∀ j x, [u1, u2, u3, u4][j]? = some x → (w.alloc (.cells #[u1, u2, u3, u4] t)).cell? (Addr.add ⟨w.heap.size, 0, none⟩ j) = some x := by
  intro j x hx
  have e2 : Addr.add ⟨w.heap.size, 0, none⟩ j = ⟨w.heap.size, j, none⟩ := by unfold Addr.add; split <;> simp_all
  rw [e2, cell_of_row _ w.heap.size j _ _ _ (heap_alloc_new w _)]
  match j, hx with
  | 0, hx => simpa using hx
  | 1, hx => simpa using hx
  | 2, hx => simpa using hx
  | 3, hx => simpa using hx
theorem grown_setCell (w : World) (a : Addr) (u : Value) : w.grownBy (w.setCell a u) (some a.block) :=
  ⟨rfl, rfl, rfl, by simp, fun k _ hne => Below.heap_setCell w a u k fun e => hne (by rw [e])⟩
theorem OwnS.kept {w w' : World} {v : Value} {ys : List ByteArray} {row : Option Nat} (h : OwnS w v ys) (hg : w.grownBy w' row) (hne : v.ownBlock ≠ row) : OwnS w' v ys := World.ownsRow.kept h hg (.inr hne)
theorem own_isRow {w : World} {B e size n : Nat} {v : Value} {xs : List Value} (h : w.ownsRow B e size v n xs) (he : e = 121 ∨ e = 36) : ∀ g, v.ownBlock = some g → B ≤ g ∧ ∃ cs t fr, w.heap[g]? = some (.cells cs t fr) ∧ (t = 121 ∨ t = 36) := by
  intro g hg
  rcases h.2 with ⟨rfl, _⟩ | ⟨g', cap, cur, rfl, hb, hh, _⟩
  · simp [Value.ownBlock] at hg
  · have : g' = g := by simpa [Value.ownBlock] using hg
    subst this
    exact ⟨hb, _, _, _, hh, he⟩
theorem TX.put {w : World} {B T : Nat} {sa sb sc : Value} {p o t : Nat} {v : Value} {out : List ChkB} (h : TX w B T sa sb sc p o t v out) (hB : B ≤ w.heap.size) (i : Nat) (u : Value) {p' o' t' : Nat} (e : (#[sa, sb, sc, .int .i64 p, .int .i64 o, .int .i64 t, v] : Array Value).setIfInBounds i u = #[sa, sb, sc, .int .i64 p', .int .i64 o', .int .i64 t', v]) :
    TX (w.setCell ⟨T, i, none⟩ u) B T sa sb sc p' o' t' v out ∧ Turn B w (w.setCell ⟨T, i, none⟩ u) ∧ B ≤ (w.setCell ⟨T, i, none⟩ u).heap.size := by
  obtain ⟨h1, h2, xs, h3, h4⟩ := h
  have hg := grown_setCell w ⟨T, i, none⟩ u
  have h5 := h2.set_ i u
  rw [e] at h5
  exact ⟨⟨h1, h5, xs, World.ownsRow.kept h3 hg (.inr (own_blk_ne h3 h2 (by decide))), Parts.mono (fun u ys h => h.kept hg (own_blk_ne h h2 (by decide))) h4⟩,
    Turn.of_row hg hB (fun g hg => by cases hg; exact ⟨h1, _, _, _, h2, .inl rfl⟩), Nat.le_trans hB hg.size⟩
theorem TX.moved {w : World} {B T : Nat} {sa sb sc : Value} {p o t : Nat} {v : Value} {out : List ChkB} (h : TX w B T sa sb sc p o t v out) (hB : B ≤ w.heap.size) (p' o' t' : Nat) :
    TX ((w.setCell ⟨T, 3, none⟩ (.int .i64 p')).setCells T 4 [.int .i64 o', .int .i64 t']) B T sa sb sc p' o' t' v out ∧ Turn B w ((w.setCell ⟨T, 3, none⟩ (.int .i64 p')).setCells T 4 [.int .i64 o', .int .i64 t']) := by
  obtain ⟨a1, a2, a3⟩ := h.put hB 3 (.int .i64 p') (p' := p') (o' := o) (t' := t) rfl
  obtain ⟨b1, b2, b3⟩ := a1.put a3 4 (.int .i64 o') (p' := p') (o' := o') (t' := t) rfl
  obtain ⟨c1, c2, _⟩ := b1.put b3 5 (.int .i64 t') (p' := p') (o' := o') (t' := t') rfl
  exact ⟨c1, a2.trans (b2.trans c2)⟩
theorem TX.there {w : World} {B T : Nat} {sa sb sc : Value} {p o t : Nat} {v : Value} {out : List ChkB} (h : TX w B T sa sb sc p o t v out) (hB : B ≤ w.heap.size) (p' : Nat) : (w.setCell ⟨T, 3, none⟩ (.int .i64 p')).there T 4 2 := by
  obtain ⟨a1, _, _⟩ := h.put hB 3 (.int .i64 p') (p' := p') (o' := o) (t' := t) rfl
  intro j hj
  rw [a1.blk.cell, a1.blk.frozen]
  refine ⟨?_, rfl⟩
  match j, hj with
  | 0, _ => rfl
  | 1, _ => rfl
theorem slice_one (A : Option Addr) (n c : Nat) : (Value.slice A n c).oneCell' = true := rfl

set_option maxRecDepth 100000 in
set_option maxHeartbeats 1000000 in
theorem firm_any (B Ba T na ca p o t k : Nat) (A : Option Addr) (xs : List ByteArray) (sb sc v : Value) (out : List ChkB) (w : World)
    (h : TX w B T (.slice A na ca) sb sc p o t v out) (hx : Reads w Ba 1 A na (strs xs)) (hBa : Ba ≤ B) (hBw : B ≤ w.heap.size) (hpk : p + k ≤ na) (hna : na ≤ 450) (hca : na ≤ ca) (hcaM : ca ≤ maxLen) (ho : o + k ≤ 1000) (ht : t + k ≤ 1000) (hout : out.length ≤ 1000) :
    Calls Tryd.prog 80 #[.pointer (some ⟨T, 0, none⟩), .int .i64 k] w fun e w' => (∃ u, e = .returned u) ∧ (∃ v', TX w' B T (.slice A na ca) sb sc (p + k) (o + k) (t + k) v' (out ++ [(1, seg xs p (p + k), seg xs p (p + k), seg xs p (p + k))])) ∧ Turn B w w' := by
  have hs0 := hx.segS (p := p) (q := p + k) (c := ca) hpk (by omega) hca
  rw [show p + k - p = k by omega] at hs0
  have HS := Lib.hid hs0
  have HB := h.base
  have hb0 := h.blk
  have HT := Lib.hid h
  have hT := hb0.lt
  have i0 : (0 : Int) ≤ p := by omega
  have i1 : (0 : Int) ≤ k := by omega
  have i2 : (p : Int) + k ≤ ca := by omega
  have i3 : (p : Int) ≤ p + k := by omega
  have i5 : (p : Int) + k ≤ 450 := by omega
  have i6 : (ca : Int) ≤ 9223372036854775807 := by unfold maxLen at hcaM; omega
  have i7 : (0 : Int) ≤ o := by omega
  have i8 : (o : Int) + k ≤ 1000 := by omega
  have i9 : (0 : Int) ≤ t := by omega
  have i10 : (t : Int) + k ≤ 1000 := by omega
  have hc0 := hb0.cell 0
  have hc3 := hb0.cell 3
  have hc4 := hb0.cell 4
  have hc5 := hb0.cell 5
  have hc6 := hb0.cell 6
  simp only [List.getElem?_toArray, List.getElem?_cons_succ, List.getElem?_cons_zero] at hc0 hc3 hc4 hc5 hc6
  clear hs0 h hx
  obtain ⟨t1, hj0, hy0, hy1, hy2⟩ := info_parts Tryd.infoChunk
  obtain ⟨xr, hrow, hparts⟩ := HT.out.row
  have HR := Lib.hid hrow
  have HP := Lib.hid hparts
  clear hrow hparts
  go_enter Tryd.func80, Tryd.ntmps80
  go_wp2_with fail
  go_quiet (fail)
  rw [show p + k - p = k by omega]
  generalize (if ca = p then A else Option.map (fun x => x.add p) A) = A0 at HS ⊢
  have HT1 := Lib.hid (HT.out.grows ((Grows.refl w).drewN nq))
  have hG1 := Lib.hid ((Grows.refl w).drewN nq)
  have HS1 := Lib.hid (HS.out.drewN nq)
  have hz1 : w.heap.size ≤ (w.drewN nq).heap.size := hG1.out.size
  clear hc0 hc3 hc4 hc5 hc6 hb0 HT HS
  generalize w.drewN nq = w1 at HT1 HS1 hz1 hG1 ⊢
  obtain ⟨x, hxx⟩ : ∃ x, x = seg xs p (p + k) := ⟨_, rfl⟩
  rw [← hxx] at HS1
  have HXX := Lib.hid hxx
  clear hxx
  obtain ⟨S, hS⟩ : ∃ S : World → Prop, S = fun w' => Blk w' T 121 #[.slice A na ca, sb, sc, .int .i64 p, .int .i64 o, .int .i64 t, v] := ⟨_, rfl⟩
  have hSc : ∀ s : SW S, s.w.cell? ⟨T, 6, none⟩ = some v := fun s => by
    have h1 : Blk s.w T 121 #[.slice A na ca, sb, sc, .int .i64 p, .int .i64 o, .int .i64 t, v] := by
      have := s.ok
      subst hS
      exact this
    exact h1.cell 6
  go_wp2_with fail
  have hS0 : S w1.drew := by rw [hS]; exact HT1.out.blk.drew
  have HSS := Lib.hid hS
  have hSi : ∀ w', Blk w' T 121 #[.slice A na ca, sb, sc, .int .i64 p, .int .i64 o, .int .i64 t, v] → S w' := by rw [hS]; exact fun _ h => h
  have hB1 : Ba ≤ w1.drew.heap.size := Nat.le_trans hBa (Nat.le_trans hBw hz1)
  clear hS
  haveI : Nonempty (SW S) := ⟨⟨_, hS0⟩⟩
  refine wp_region_seq S [([0, 1, 2, 3, 4, 5, 7, 9], 6), ([], 8), ([], 10), ([11], 12), ([], 13)] [] [([], [14, 15, 16])] (by kernel_rfl) (fun _ _ _ _ _ h => h) (by kernel_rfl) hS0 ?_
  simp only [pickS, pickT, pickL, List.map_cons, List.map_nil, List.filterMap_cons, List.filterMap_nil, List.getElem?_cons_zero, List.getElem?_cons_succ]
  refine wpSeq_consK fun K2 hK2 K hK => ?_
  repeat (show wpQuiet _ _ _ _ (_ :: _) _; go_big_quiet_step (fail))
  refine wpQuiet_nil (hK _ ?_)
  clear hK K
  show wpList _ _ _ [_] _ _
  go_wp2_with fail
  refine (clone_any Ba A0 k (ca - p) x w1.drew HS1.out.drew hB1 (by omega)).mono ?_
  rintro e wa ⟨va, rfl, hva, hga⟩
  go_wp2_with fail
  have hb := hSi _ (HT1.out.blk.drew.grows hga)
  refine hK2.out _ _ hb ?_
  clear hK2 K2 hb
  refine wpSeq_consK fun K2 hK2 K hK => ?_
  refine wpQuiet_nil (hK _ ?_)
  clear hK K
  show wpList _ _ _ [_] _ _
  go_wp2_with fail
  refine (clone_any Ba A0 k (ca - p) x wa (HS1.out.drew.grows hB1 hga) (Nat.le_trans hB1 hga.size) (by omega)).mono ?_
  rintro e wb ⟨vb, rfl, hvb, hgb⟩
  have hva1 := hva.grows hgb
  have hgb1 := hga.trans hgb
  clear hva hga hgb
  go_wp2_with fail
  have hb := hSi _ (HT1.out.blk.drew.grows hgb1)
  refine hK2.out _ _ hb ?_
  clear hK2 K2 hb
  refine wpSeq_consK fun K2 hK2 K hK => ?_
  refine wpQuiet_nil (hK _ ?_)
  clear hK K
  show wpList _ _ _ [_] _ _
  go_wp2_with fail
  refine (clone_any Ba A0 k (ca - p) x wb (HS1.out.drew.grows hB1 hgb1) (Nat.le_trans hB1 hgb1.size) (by omega)).mono ?_
  rintro e wc ⟨vc, rfl, hvc, hgc⟩
  have hva2 := hva1.grows hgc
  have hvb2 := hvb.grows hgc
  have hgc1 := hgb1.trans hgc
  clear hva1 hvb hgb1 hgc
  go_wp2_with fail
  have hb := hSi _ (HT1.out.blk.drew.grows hgc1)
  refine hK2.out _ _ hb ?_
  clear hK2 K2 hb
  obtain ⟨Aa, qa, rfl, _, _⟩ := hva2.form
  obtain ⟨Ab, qb, rfl, _, _⟩ := hvb2.form
  obtain ⟨Ac, qc, rfl, _, _⟩ := hvc.form
  refine wpSeq_consK fun K2 hK2 K hK => ?_
  repeat (show wpQuiet _ _ _ _ (_ :: _) _; go_big_quiet_step (fail))
  refine wpQuiet_nil (hK _ ?_)
  clear hK K
  show wpList _ _ _ [_] _ _
  go_wp2_with fail
  have hgc2 : Grows w1.drew (wc.alloc (.cells #[.int .i64 1, .slice Aa x.length qa, .slice Ab x.length qb, .slice Ac x.length qc] 36)) := hgc1.alloc _
  have hrow1 : (wc.alloc (.cells #[.int .i64 1, .slice Aa x.length qa, .slice Ab x.length qb, .slice Ac x.length qc] 36)).ownsRow B 36 4 v out.length xr := own_grows HR.out (hG1.out.drew.trans hgc2)
  have hnews := cell_four_new wc (.int .i64 1) (.slice Aa x.length qa) (.slice Ab x.length qb) (.slice Ac x.length qc) 36
  have hszc : wc.heap.size < (wc.alloc (.cells #[.int .i64 1, .slice Aa x.length qa, .slice Ab x.length qb, .slice Ac x.length qc] 36)).heap.size := by simp
  have hva3 := hva2.grows ((Grows.refl wc).alloc (.cells #[.int .i64 1, .slice Aa x.length qa, .slice Ab x.length qb, .slice Ac x.length qc] 36))
  have hvb3 := hvb2.grows ((Grows.refl wc).alloc (.cells #[.int .i64 1, .slice Aa x.length qa, .slice Ab x.length qb, .slice Ac x.length qc] 36))
  have hvc3 := hvc.grows ((Grows.refl wc).alloc (.cells #[.int .i64 1, .slice Aa x.length qa, .slice Ab x.length qb, .slice Ac x.length qc] 36))
  have hblk3 := HT1.out.blk.drew.grows hgc2
  clear hva2 hvb2 hvc hgc1
  generalize wc.alloc (.cells #[.int .i64 1, .slice Aa x.length qa, .slice Ab x.length qb, .slice Ac x.length qc] 36) = wd at hgc2 hrow1 hnews hva3 hvb3 hvc3 hszc hblk3 ⊢
  have hb := hSi _ hblk3
  refine hK2.out _ _ hb ?_
  clear hK2 K2 hb
  refine wpSeq_consK fun K2 hK2 K hK => ?_
  refine wpQuiet_nil (hK _ ?_)
  clear hK K
  show wpList _ _ _ [_] _ _
  go_wp2_with (at_builtin; refine wpList_append_own _ rfl (.tmp 24) (.tmp 32) _ rfl B 36 t1 _ 4 80 Tryd.underlying30 hj0 hy0 hy1 hy2 rfl (by decide) v out.length xr rfl hrow1 ⟨wc.heap.size, 0, none⟩ 1 1 [.int .i64 1, .slice Aa x.length qa, .slice Ab x.length qb, .slice Ac x.length qc] rfl rfl hnews (by intro u hu; simp at hu; rcases hu with rfl | rfl | rfl | rfl <;> rfl) (by simp only [maxLen]; omega) (by omega) (Nat.le_trans hBw (Nat.le_trans hz1 hgc2.size)) ?_; intro v' we hrow2 hgb2 hor2)
  have hblk4 := Blk.grown hblk3 hgb2 (Ne.symm (own_blk_ne hrow1 hblk3 (by decide)))
  have hva4 := hva3.beside hrow1 (by decide) hgb2
  have hvb4 := hvb3.beside hrow1 (by decide) hgb2
  have hvc4 := hvc3.beside hrow1 (by decide) hgb2
  have hP4 : Parts we (out ++ [(1, x, x, x)]) (xr ++ [.int .i64 1, .slice Aa x.length qa, .slice Ab x.length qb, .slice Ac x.length qc]) := Parts.app (Parts.mono (fun u ys h => ((h.grows (hG1.out.drew.trans hgc2)).beside hrow1 (by decide) hgb2)) HP.out) (Parts.one hva4 hvb4 hvc4)
  obtain ⟨A9, c9, rfl, hc9, hc9M⟩ := own_form hrow2
  have hb := hSi _ hblk4
  refine hK2.out _ _ hb ?_
  clear hK2 K2 hb
  refine wpSeq_nil (wpRest_K fun K hK => ?_)
  refine wpQuiet_nil (hK _ ?_)
  clear hK K
  refine wpSegs_consK fun K2 hK2 K hK => ?_
  refine wpQuiet_nil (hK _ ?_)
  clear hK K
  show wpList _ _ _ [_, _, _] _ _
  have hblk5 := hblk4.set_ 6 (.slice A9 (out.length + 1) c9)
  have hfz := hblk4.frozen 6
  have hcl := hblk4.cell 6
  simp only [List.getElem?_toArray, List.getElem?_cons_succ, List.getElem?_cons_zero] at hcl
  go_wp2_with fail
  refine hK2.out _ _ (wpSegs_nil ?_)
  clear hK2 K2
  have hne := own_blk_ne hrow2 hblk4 (by decide)
  have hg6 := grown_setCell we ⟨T, 6, none⟩ (.slice A9 (out.length + 1) c9)
  have hrow6 := World.ownsRow.kept hrow2 hg6 (.inr hne)
  have hP6 := Parts.mono (fun u ys h => h.kept hg6 (own_blk_ne h hblk4 (by decide))) hP4
  have hz2 : w1.heap.size ≤ (we.setCell ⟨T, 6, none⟩ (.slice A9 (out.length + 1) c9)).heap.size := Nat.le_trans hgc2.size (Nat.le_trans hgb2.size hg6.size)
  have hTurn6 : Turn B w (we.setCell ⟨T, 6, none⟩ (.slice A9 (out.length + 1) c9)) := (Turn.of_grows (hG1.out.drew.trans hgc2) hBw).trans ((Turn.of_row hgb2 (Nat.le_trans hBw (Nat.le_trans hz1 hgc2.size)) (own_isRow hrow1 (.inr rfl))).trans (Turn.of_row hg6 (Nat.le_trans hBw (Nat.le_trans hz1 (Nat.le_trans hgc2.size hgb2.size))) (fun g hg => by cases hg; exact ⟨HB, _, _, _, hblk4, .inl rfl⟩)))
  have hblk6 : Blk (we.setCell ⟨T, 6, none⟩ (.slice A9 (out.length + 1) c9)) T 121 #[.slice A na ca, sb, sc, .int .i64 p, .int .i64 o, .int .i64 t, .slice A9 (out.length + 1) c9] := hblk5
  clear hg6 hrow2 hP4 hblk5 hblk4 hva4 hvb4 hvc4 hfz hcl hgb2 hgc2 hor2 hrow1 hva3 hvb3 hvc3 hnews hblk3 hszc
  have HR6 := Lib.hid hrow6
  have HP6 := Lib.hid hP6
  have HT6 := Lib.hid hTurn6
  have HZ6 := Lib.hid (Nat.le_trans hz1 hz2)
  clear hrow6 hP6 hTurn6 hz2 hz1 HSS hSc hS0 hSi this hB1
  clear S
  generalize we.setCell ⟨T, 6, none⟩ (.slice A9 (out.length + 1) c9) = w6 at hblk6 HR6 HP6 HT6 HZ6 ⊢
  obtain ⟨S, hS⟩ : ∃ S : World → Prop, S = fun w' => Blk w' T 121 #[.slice A na ca, sb, sc, .int .i64 p, .int .i64 o, .int .i64 t, .slice A9 (out.length + 1) c9] := ⟨_, rfl⟩
  have hSb : ∀ s : SW S, Blk s.w T 121 #[.slice A na ca, sb, sc, .int .i64 p, .int .i64 o, .int .i64 t, .slice A9 (out.length + 1) c9] := fun s => by
    have := s.ok
    subst hS
    exact this
  have hS3 : ∀ s : SW S, s.w.cell? ⟨T, 3, none⟩ = some (.int .i64 p) := fun s => (hSb s).cell 3
  have hS4 : ∀ s : SW S, s.w.cell? ⟨T, 4, none⟩ = some (.int .i64 o) := fun s => (hSb s).cell 4
  have hS5 : ∀ s : SW S, s.w.cell? ⟨T, 5, none⟩ = some (.int .i64 t) := fun s => (hSb s).cell 5
  clear hSb
  have hS0 : S w6.drew := by rw [hS]; exact hblk6.drew
  clear hS
  haveI : Nonempty (SW S) := ⟨⟨_, hS0⟩⟩
  go_wp2_with fail
  refine wp_region_seq S [] [0, 2, 3, 4, 5, 6, 7, 8, 9, 10, 11, 12, 15, 16, 17, 18, 19, 23, 24] [([1, 13, 14, 20, 21, 22], [25]), ([], [26, 27]), ([], [28])] (by kernel_rfl) (fun _ _ _ _ _ h => h) (by kernel_rfl) hS0 ?_
  simp only [pickS, pickT, pickL, List.map_cons, List.map_nil, List.filterMap_cons, List.filterMap_nil, List.getElem?_cons_zero, List.getElem?_cons_succ]
  refine wpSeq_nil (wpRest_K fun K hK => ?_)
  repeat (show wpQuiet _ _ _ _ (_ :: _) _; go_big_quiet_step (fail))
  refine wpQuiet_nil (hK _ ?_)
  clear hK K
  refine wpSegs_consK fun K2 hK2 K hK => ?_
  repeat (show wpQuiet _ _ _ _ (_ :: _) _; go_big_quiet_step (fail))
  refine wpQuiet_nil (hK _ ?_)
  clear hK K
  show wpList _ _ _ [_] _ _
  have hX6 : TX w6.drew B T (.slice A na ca) sb sc p o t (.slice A9 (out.length + 1) c9) (out ++ [(1, x, x, x)]) := ⟨HB, hblk6.drew, _, by rw [List.length_append]; exact HR6.out.drew, Parts.mono (fun u ys h => h.grows ((Grows.refl _).drew)) HP6.out⟩
  have hB6 : B ≤ w6.drew.heap.size := Nat.le_trans hBw HZ6.out
  have hM6 := hX6.moved hB6 (p + k) (o + k) (t + k)
  have hth := hX6.there hB6 (p + k)
  have hc3 := hX6.blk.cell 3
  simp only [List.getElem?_toArray, List.getElem?_cons_succ, List.getElem?_cons_zero] at hc3
  have hf3 := hX6.blk.frozen 3
  have ep : ((p + k : Nat) : Int) = (p : Int) + k := by omega
  have eo : ((o + k : Nat) : Int) = (o : Int) + k := by omega
  have et : ((t + k : Nat) : Int) = (t : Int) + k := by omega
  rw [ep] at hth
  rw [ep, eo, et] at hM6
  have HM6 := Lib.hid hM6
  have HTT := Lib.hid (HT6.out.trans ((Turn.of_grows ((Grows.refl w6).drew) (by exact hB6))))
  clear hM6 hX6 hblk6
  go_wp2_with fail
  refine hK2.out _ _ ?_
  clear hK2 K2
  refine wpSegs_consK fun K2 hK2 K hK => ?_
  refine wpQuiet_nil (hK _ ?_)
  clear hK K
  show wpList _ _ _ [_, _] _ _
  go_wp2_with fail
  refine hK2.out _ _ ?_
  clear hK2 K2
  refine wpSegs_consK fun K2 hK2 K hK => ?_
  refine wpQuiet_nil (hK _ ?_)
  clear hK K
  show wpList _ _ _ [_] _ _
  refine wpList_store_mid rfl _ (.tmp 62) (.tmp 58) rfl T 4 #[.int .i64 (o + k), .int .i64 (t + k)] rfl rfl hth (by kernel_rfl) (by simp [Value.oneCell']) ?_
  go_wp2_with fail
  refine hK2.out _ _ (wpSegs_nil ?_)
  clear hK2 K2
  go_wp2_with fail
  simp only [Act.put]
  go_end0
  rw [← HXX.out]
  exact ⟨⟨_, rfl⟩, ⟨_, HM6.out.1⟩, HTT.out.trans HM6.out.2⟩

end Go.Proofs.YtakgddochbcjbaaDoor
