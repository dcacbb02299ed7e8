/- similar's search: what stands while pairs are taken; take. -/
import Derived.Test.YtakgddochbcjbaaDoorSimRow
import Derived.Test.YtakgddochbcjbaaDoorSimMap
import Derived.Test.YtakgddochbcjbaaDoorMixS
namespace Go.Proofs.YtakgddochbcjbaaDoor
open Go.RowKit Go.Deep Go.MapKept Go.Shelf

def prCells (l : List (Int × Int)) : List Value := l.flatMap fun p => [.int .i64 p.1, .int .i64 p.2]
theorem prCells_append (l m : List (Int × Int)) : prCells (l ++ m) = prCells l ++ prCells m := by simp [prCells]
theorem prCells_one (p : Int × Int) : prCells [p] = [.int .i64 p.1, .int .i64 p.2] := rfl
theorem Tryd.infoPair : (Tryd.prog.info? 103).map (fun i => (i.zero, i.size, i.bytes)) = some (some (.agg #[.int .i64 0, .int .i64 0]), 2, 16) := by kernel_rfl
/-- the search, as it stands: its block ps, its map mb, the places that are left, the pairs that were taken; nothing below w0 has turned -/
structure St (w0 w : World) (ps mb : Nat) (va vb vf vt vo : Value) (F T : List Int) (O : List (Int × Int)) (f : Int × Int → Option Int) (q : Nat) : Prop where
  gr : Grows w0 w
  gp : w0.heap.size ≤ ps
  gm : w0.heap.size ≤ mb
  blk : Blk w ps 100 #[va, vb, vf, vt, .map (some mb), vo]
  oF : w.ownsRow w0.heap.size 3 1 vf F.length (ints F)
  oT : w.ownsRow w0.heap.size 3 1 vt T.length (ints T)
  oO : w.ownsRow w0.heap.size 103 2 vo O.length (prCells O)
  ne : ∀ g, vf.ownBlock = some g → vt.ownBlock ≠ some g
  map : MapR w mb q f
section
variable {w0 w w' : World} {ps mb : Nat} {va vb vf vt vo : Value} {F T : List Int} {O : List (Int × Int)} {f : Int × Int → Option Int} {q : Nat}
theorem own_map_ne {B size n b m : Nat} {e : TypeId} {v : Value} {xs : List Value} {f : Int × Int → Option Int} (h : w.ownsRow B e size v n xs) (hm : MapR w b m f) : v.ownBlock ≠ some b := by
  obtain ⟨D, ⟨es, c, hb, _⟩, _⟩ := hm
  rcases h.2 with ⟨rfl, _⟩ | ⟨g, cap, cur, rfl, _, hg, _⟩
  · simp [Value.ownBlock]
  · intro he
    have : g = b := by simpa [Value.ownBlock] using he
    subst this
    rw [hg] at hb
    cases hb
theorem blk_map_ne {g b m : Nat} {t : TypeId} {cs : Array Value} {f : Int × Int → Option Int} (h : Blk w g t cs) (hm : MapR w b m f) : g ≠ b := by
  obtain ⟨D, ⟨es, c, hb, _⟩, _⟩ := hm
  rintro rfl
  unfold Blk at h
  rw [h] at hb
  cases hb
/-- all that was there stays, but for the search's block and its rows -/
def Kept (w w' : World) (ps : Nat) (vf vt vo : Value) : Prop := w.heap.size ≤ w'.heap.size ∧ ∀ b, b < w.heap.size → b ≠ ps → vf.ownBlock ≠ some b → vt.ownBlock ≠ some b → vo.ownBlock ≠ some b → w'.heap[b]? = w.heap[b]?
theorem Kept.of_grows (hg : Grows w w') : Kept w w' ps vf vt vo := ⟨hg.size, fun b hb _ _ _ _ => hg.block b hb⟩
theorem Kept.row {w2 : World} {row : Option Nat} (h : Kept w w' ps vf vt vo) (hg : w'.grownBy w2 row) (hr : row = some ps ∨ row = vf.ownBlock ∨ row = vt.ownBlock ∨ row = vo.ownBlock ∨ (∃ g, row = some g ∧ w.heap.size ≤ g)) : Kept w w2 ps vf vt vo :=
  ⟨Nat.le_trans h.1 hg.size, fun b hb h1 h2 h3 h4 => (hg.block b (Nat.lt_of_lt_of_le hb h.1) (fun e => by
    rcases hr with hr | hr | hr | hr | ⟨g, hr, hgw⟩
    · rw [hr] at e; cases e; exact h1 rfl
    · exact h2 (by rw [← hr, ← e])
    · exact h3 (by rw [← hr, ← e])
    · exact h4 (by rw [← hr, ← e])
    · rw [hr] at e; cases e; omega)).trans (h.2 b hb h1 h2 h3 h4)⟩
theorem Kept.grows {w2 : World} (h : Kept w w' ps vf vt vo) (hg : Grows w' w2) : Kept w w2 ps vf vt vo :=
  ⟨Nat.le_trans h.1 hg.size, fun b hb h1 h2 h3 h4 => (hg.block b (Nat.lt_of_lt_of_le hb h.1)).trans (h.2 b hb h1 h2 h3 h4)⟩
theorem St.grows (h : St w0 w ps mb va vb vf vt vo F T O f q) (hg : Grows w w') : St w0 w' ps mb va vb vf vt vo F T O f q :=
  ⟨h.gr.trans hg, h.gp, h.gm, Blk.growsF h.blk hg, own_grows h.oF hg, own_grows h.oT hg, own_grows h.oO hg, h.ne, h.map.grows hg⟩
theorem St.out {vo' : Value} {O' : List (Int × Int)} (h : St w0 w ps mb va vb vf vt vo F T O f q) (hg : w.grownBy w' vo.ownBlock) (ho : w'.ownsRow w0.heap.size 103 2 vo' O'.length (prCells O')) :
    Blk w' ps 100 #[va, vb, vf, vt, .map (some mb), vo] ∧ St w0 (w'.setCell ⟨ps, 5, none⟩ vo') ps mb va vb vf vt vo' F T O' f q := by
  have hb := h.blk.grown hg (fun e => own_blk_ne h.oO h.blk (by decide) e.symm)
  have hs := grown_setC w' ⟨ps, 5, none⟩ vo'
  have hF := h.oF.kept hg (own_own_ne h.oF h.oO (by decide))
  have hT := h.oT.kept hg (own_own_ne h.oT h.oO (by decide))
  have hm := h.map.kept hg (fun e => own_map_ne h.oO h.map e.symm)
  have hgr1 : Grows w0 w' := Below.grown h.gr hg h.gr.size (fun k hk => (h.oO.lt k hk).1)
  refine ⟨hb, Below.grown hgr1 hs hgr1.size (fun k hk => by cases hk; exact h.gp), h.gp, h.gm, hb.set_ 5 vo', hF.kept hs (.inr (own_blk_ne hF hb (by decide))), hT.kept hs (.inr (own_blk_ne hT hb (by decide))), ho.kept hs (.inr (own_blk_ne ho hb (by decide))), h.ne, hm.kept hs (fun e => blk_map_ne hb hm (by cases e; rfl))⟩
theorem St.from_ {vf' : Value} {F' : List Int} {g : Nat} (h : St w0 w ps mb va vb vf vt vo F T O f q) (hv : vf.ownBlock = some g) (hv' : vf'.ownBlock = some g) (hg : w.grownBy w' (some g)) (ho : w'.ownsRow w0.heap.size 3 1 vf' F'.length (ints F')) :
    Blk w' ps 100 #[va, vb, vf, vt, .map (some mb), vo] ∧ St w0 (w'.setCell ⟨ps, 2, none⟩ vf') ps mb va vb vf' vt vo F' T O f q := by
  rw [← hv] at hg
  have hb := h.blk.grown hg (fun e => own_blk_ne h.oF h.blk (by decide) e.symm)
  have hs := grown_setC w' ⟨ps, 2, none⟩ vf'
  have hO := h.oO.kept hg (own_own_ne h.oO h.oF (by decide))
  have hT := h.oT.kept hg (.inr (by rw [hv]; exact h.ne g hv))
  have hm := h.map.kept hg (fun e => own_map_ne h.oF h.map e.symm)
  have hgr1 : Grows w0 w' := Below.grown h.gr hg h.gr.size (fun k hk => (h.oF.lt k hk).1)
  refine ⟨hb, Below.grown hgr1 hs hgr1.size (fun k hk => by cases hk; exact h.gp), h.gp, h.gm, hb.set_ 2 vf', ho.kept hs (.inr (own_blk_ne ho hb (by decide))), hT.kept hs (.inr (own_blk_ne hT hb (by decide))), hO.kept hs (.inr (own_blk_ne hO hb (by decide))), fun g' hg' => by rw [hv'] at hg'; cases hg'; exact h.ne g hv, hm.kept hs (fun e => blk_map_ne hb hm (by cases e; rfl))⟩
theorem St.to_ {vt' : Value} {T' : List Int} {g : Nat} (h : St w0 w ps mb va vb vf vt vo F T O f q) (hv : vt.ownBlock = some g) (hv' : vt'.ownBlock = some g) (hg : w.grownBy w' (some g)) (ho : w'.ownsRow w0.heap.size 3 1 vt' T'.length (ints T')) :
    Blk w' ps 100 #[va, vb, vf, vt, .map (some mb), vo] ∧ St w0 (w'.setCell ⟨ps, 3, none⟩ vt') ps mb va vb vf vt' vo F T' O f q := by
  rw [← hv] at hg
  have hb := h.blk.grown hg (fun e => own_blk_ne h.oT h.blk (by decide) e.symm)
  have hs := grown_setC w' ⟨ps, 3, none⟩ vt'
  have hO := h.oO.kept hg (own_own_ne h.oO h.oT (by decide))
  have hF := h.oF.kept hg (.inr (by rw [hv]; exact fun e => h.ne g e hv))
  have hm := h.map.kept hg (fun e => own_map_ne h.oT h.map e.symm)
  have hgr1 : Grows w0 w' := Below.grown h.gr hg h.gr.size (fun k hk => (h.oT.lt k hk).1)
  refine ⟨hb, Below.grown hgr1 hs hgr1.size (fun k hk => by cases hk; exact h.gp), h.gp, h.gm, hb.set_ 3 vt', hF.kept hs (.inr (own_blk_ne hF hb (by decide))), ho.kept hs (.inr (own_blk_ne ho hb (by decide))), hO.kept hs (.inr (own_blk_ne hO hb (by decide))), fun g' hg' e => by rw [hv'] at e; cases e; exact h.ne g hg' hv, hm.kept hs (fun e => blk_map_ne hb hm (by cases e; rfl))⟩
end
theorem Blk.reads1 {w : World} {g : Nat} {t : TypeId} {a b : Value} (h : Blk w g t #[a, b]) : Reads w w.heap.size 2 (some ⟨g, 0, none⟩) 1 [a, b] := by
  refine ⟨rfl, fun _ => ⟨_, rfl, h.lt, fun j u hu => ?_⟩⟩
  have e2 : Addr.add ⟨g, 0, none⟩ j = ⟨g, j, none⟩ := by unfold Addr.add; split <;> simp_all
  rw [e2, h.cell]
  match j, hu with
  | 0, hu => simpa using hu
  | 1, hu => simpa using hu
set_option maxRecDepth 100000 in
set_option maxHeartbeats 2000000 in
theorem take_any (w0 w : World) (ps mb : Nat) (va vb vf vt vo : Value) (F T : List Int) (O : List (Int × Int)) (f : Int × Int → Option Int) (q : Nat) (h : St w0 w ps mb va vb vf vt vo F T O f q) (i k : Int) (hF : 0 < F.length) (hT : 0 < T.length) (hO : O.length ≤ 1000) :
    Calls Tryd.prog 100 #[.pointer (some ⟨ps, 0, none⟩), .agg #[.int .i64 i, .int .i64 k]] w fun e w' => e = .returned (.tuple #[]) ∧ ∃ vf' vt' vo', St w0 w' ps mb va vb vf' vt' vo' (delL i F) (delL k T) (O ++ [(i, k)]) f q ∧ vf'.ownBlock = vf.ownBlock ∧ vt'.ownBlock = vt.ownBlock ∧ Kept w w' ps vf vt vo := by
  obtain ⟨t1, hj0, hy0, hy1, hy2⟩ := info_parts Tryd.infoPair
  obtain ⟨gF, cF, rfl, hF1, hF2⟩ := h.oF.form hF
  obtain ⟨gT, cT, rfl, hT1, hT2⟩ := h.oT.form hT
  obtain ⟨bp, hbp⟩ : ∃ bp, bp = w.heap.size := ⟨_, rfl⟩
  obtain ⟨w1, hw1⟩ : ∃ w1, w1 = w.alloc (.cells #[.int .i64 i, .int .i64 k] 103) := ⟨_, rfl⟩
  have hg1 : Grows w w1 := by rw [hw1]; exact (Grows.refl w).alloc _
  have hbx : Blk w1 bp 103 #[.int .i64 i, .int .i64 k] := by rw [hw1, hbp]; exact Blk.new _ _ _
  have hblk := Blk.growsF h.blk hg1
  have HZW := Lib.hid (show w1.heap.size = w.heap.size + 1 by rw [hw1]; simp)
  have HW1 := Lib.hid hw1
  have HBP := Lib.hid hbp
  have hown := own_grows h.oO hg1
  have hownb : ∀ g, vo.ownBlock = some g → g ≠ bp := fun g hg e => by
    have := (h.oO.lt g hg).2
    omega
  have HH := Lib.hid h
  have hgr0 := h.gr.trans hg1
  have hz0 := h.gr.size
  have hgpp := h.gp
  clear h hw1 hbp
  go_enter Tryd.func100, Tryd.ntmps100
  go_wp2_with fail
  rw [← HW1.out, ← HBP.out]
  obtain ⟨S, hS⟩ : ∃ S : World → Prop, S = fun w' => Blk w' ps 100 #[va, vb, .slice (some ⟨gF, 0, none⟩) F.length cF, .slice (some ⟨gT, 0, none⟩) T.length cT, .map (some mb), vo] ∧ Blk w' bp 103 #[.int .i64 i, .int .i64 k] := ⟨_, rfl⟩
  have hSb : ∀ s : SW S, Blk s.w ps 100 #[va, vb, .slice (some ⟨gF, 0, none⟩) F.length cF, .slice (some ⟨gT, 0, none⟩) T.length cT, .map (some mb), vo] ∧ Blk s.w bp 103 #[.int .i64 i, .int .i64 k] := fun s => by
    have := s.ok
    subst hS
    exact this
  have hS5 : ∀ s : SW S, s.w.cell? ⟨ps, 5, none⟩ = some vo := fun s => (hSb s).1.cell 5
  have hS6 : ∀ s : SW S, s.w.cell? ⟨bp, 0, none⟩ = some (.int .i64 i) := fun s => (hSb s).2.cell 0
  have hS7 : ∀ s : SW S, s.w.cell? ⟨bp, 1, none⟩ = some (.int .i64 k) := fun s => (hSb s).2.cell 1
  clear hSb
  have hS0 : S w1.drew := by rw [hS]; exact ⟨hblk.drew, hbx.drew⟩
  have hSi : ∀ w', Blk w' ps 100 #[va, vb, .slice (some ⟨gF, 0, none⟩) F.length cF, .slice (some ⟨gT, 0, none⟩) T.length cT, .map (some mb), vo] → Blk w' bp 103 #[.int .i64 i, .int .i64 k] → S w' := by rw [hS]; exact fun _ h h' => ⟨h, h'⟩
  clear hS
  haveI : Nonempty (SW S) := ⟨⟨_, hS0⟩⟩
  refine wp_region_seq S [([0, 1, 2, 3, 4, 5], 6), ([], 7)] [] [([], [8, 9, 10])] (by kernel_rfl) (fun _ _ _ _ _ h => h) (by kernel_rfl) hS0 ?_
  simp only [pickS, pickT, pickL, List.map_cons, List.map_nil, List.filterMap_cons, List.filterMap_nil, List.getElem?_cons_zero, List.getElem?_cons_succ]
  refine wpSeq_consK fun K2 hK2 K hK => ?_
  repeat (show wpQuiet _ _ _ _ (_ :: _) _; go_big_quiet_step (fail))
  refine wpQuiet_nil (hK _ ?_)
  clear hK K
  show wpList _ _ _ [_] _ _
  go_wp2_with fail
  have hg2 : Grows w1 (w1.alloc (.cells #[.int .i64 i, .int .i64 k] 103)).drew := ((Grows.refl w1).alloc _).drew
  have hnw : Blk (w1.alloc (.cells #[.int .i64 i, .int .i64 k] 103)).drew w1.heap.size 103 #[.int .i64 i, .int .i64 k] := Blk.new _ _ _
  refine hK2.out _ _ (hSi _ (Blk.growsF hblk hg2) (Blk.growsF hbx hg2)) ?_
  clear hK2 K2
  generalize (w1.alloc (.cells #[.int .i64 i, .int .i64 k] 103)).drew = w2 at hg2 hnw ⊢
  refine wpSeq_consK fun K2 hK2 K hK => ?_
  refine wpQuiet_nil (hK _ ?_)
  clear hK K
  show wpList _ _ _ [_] _ _
  have hz2 := Nat.le_trans hgr0.size hg2.size
  have hown2 := own_grows hown hg2
  go_wp2_with (at_builtin; refine wpList_append_any _ rfl (.tmp 8) (.tmp 10) _ rfl (w0.heap.size) 103 t1 _ 2 16 Tryd.underlying98 hj0 hy0 hy1 hy2 rfl (by decide) _ _ _ rfl hown2 _ _ _ _ _ rfl hnw.reads1 (by intro u hu; simp at hu; rcases hu with rfl | rfl <;> rfl) (by simp only [maxLen]; omega) (by omega) (by omega) ?_; intro vo2 w3 hown3 hgb3 hor3)
  obtain ⟨A9, c9, rfl, _, _⟩ := own_form hown3
  obtain ⟨hb3, hst3⟩ := St.out (O' := O ++ [(i, k)]) (HH.out.grows (hg1.trans hg2)) hgb3 (by rw [prCells_append, List.length_append]; exact hown3)
  have hx3 := (Blk.growsF hbx hg2).grown hgb3 (fun e => hownb bp e.symm rfl)
  refine hK2.out _ _ (hSi _ hb3 hx3) ?_
  clear hK2 K2
  refine wpSeq_nil (wpRest_K fun K hK => ?_)
  refine wpQuiet_nil (hK _ ?_)
  clear hK K
  refine wpSegs_consK fun K2 hK2 K hK => ?_
  refine wpQuiet_nil (hK _ ?_)
  clear hK K
  show wpList _ _ _ [_, _, _] _ _
  have hfz := hb3.frozen 5
  have hcl := hb3.cell 5
  simp only [List.getElem?_toArray, List.getElem?_cons_succ, List.getElem?_cons_zero] at hcl
  go_wp2_with fail
  refine hK2.out _ _ (wpSegs_nil ?_)
  clear hK2 K2
  have HK4 := Lib.hid (((Kept.of_grows (ps := ps) (vf := .slice (some ⟨gF, 0, none⟩) F.length cF) (vt := .slice (some ⟨gT, 0, none⟩) T.length cT) (vo := vo) (hg1.trans hg2)).row hgb3 (.inr (.inr (.inr (.inl rfl))))).row (grown_setC w3 ⟨ps, 5, none⟩ (.slice A9 (O.length + 1) c9)) (.inl rfl))
  have hx4 := hx3.grown (grown_setC w3 ⟨ps, 5, none⟩ (.slice A9 (O.length + 1) c9)) (fun e => Blk.ne_ hb3 hx3 (by decide) (by cases e; rfl))
  clear hfz hcl hgb3 hor3 hown3 hown2 hnw hown hownb hS5 hS6 hS7 hS0 hSi this
  clear S
  have HST3 := Lib.hid hst3
  clear hst3
  generalize w3.setCell ⟨ps, 5, none⟩ (.slice A9 (O.length + 1) c9) = w4 at hx4 HST3 HK4 ⊢
  have hb4 := HST3.out.blk
  have hp2 := hb4.cell 2
  simp only [List.getElem?_toArray, List.getElem?_cons_succ, List.getElem?_cons_zero] at hp2
  have hdF := del_any 121 0 bp w0.heap.size gF F.length cF i F w4 (fun W j hc => take1_gives bp i W j hc) (enters_of Tryd.func121 (by kernel_rfl) rfl) HST3.out.oF hx4.lt (fun e => by
    have := HBP.out
    omega) (hx4.cell 0)
  clear hbx hblk hb3 hx3
  go_wp2_with fail
  refine hdF.mono ?_
  rintro e w5 ⟨rfl, ho5, hg5⟩
  clear hdF hp2 hb4
  obtain ⟨hb5, hst5⟩ := St.from_ (F' := delL i F) HST3.out rfl rfl hg5 ho5
  have hx5 := hx4.grown hg5 (fun e => by
    have := HBP.out
    cases e
    omega)
  have hx6 := hx5.grown (grown_setC w5 ⟨ps, 2, none⟩ (.slice (some ⟨gF, 0, none⟩) (delL i F).length cF)) (fun e => Blk.ne_ hb5 hx5 (by decide) (by cases e; rfl))
  have hfz := hb5.frozen 2
  have hcl := hb5.cell 2
  simp only [List.getElem?_toArray, List.getElem?_cons_succ, List.getElem?_cons_zero] at hcl
  have hq3 := hb5.cell 3
  simp only [List.getElem?_toArray, List.getElem?_cons_succ, List.getElem?_cons_zero] at hq3
  have hb6 := hst5.blk
  have hp3 := hb6.cell 3
  simp only [List.getElem?_toArray, List.getElem?_cons_succ, List.getElem?_cons_zero] at hp3
  have HK6 := Lib.hid ((HK4.out.row hg5 (.inr (.inl rfl))).row (grown_setC w5 ⟨ps, 2, none⟩ (.slice (some ⟨gF, 0, none⟩) (delL i F).length cF)) (.inl rfl))
  have HST5 := Lib.hid hst5
  clear hst5 hx4 HST3 ho5 hg5
  obtain ⟨w6, hw6⟩ : ∃ w6, w6 = w5.setCell ⟨ps, 2, none⟩ (.slice (some ⟨gF, 0, none⟩) (delL i F).length cF) := ⟨_, rfl⟩
  rw [← hw6] at hp3 hx6 HST5 hb6 HK6
  have HW6 := Lib.hid hw6
  clear hw6
  go_wp2_with fail
  rw [← HW6.out]
  clear hfz hcl hq3 hb5 hx5
  have hdT := del_any 122 1 bp w0.heap.size gT T.length cT k T w6 (fun W j hc => take2_gives bp k W j hc) (enters_of Tryd.func122 (by kernel_rfl) rfl) HST5.out.oT hx6.lt (fun e => by
    have := HBP.out
    omega) (hx6.cell 1)
  refine hdT.mono ?_
  rintro e w7 ⟨rfl, ho7, hg7⟩
  clear hdT hp3 hb6
  obtain ⟨hb7, hst7⟩ := St.to_ (T' := delL k T) HST5.out rfl rfl hg7 ho7
  have hfz := hb7.frozen 3
  have hcl := hb7.cell 3
  simp only [List.getElem?_toArray, List.getElem?_cons_succ, List.getElem?_cons_zero] at hcl
  have HK8 := Lib.hid ((HK6.out.row hg7 (.inr (.inr (.inl rfl)))).row (grown_setC w7 ⟨ps, 3, none⟩ (.slice (some ⟨gT, 0, none⟩) (delL k T).length cT)) (.inl rfl))
  have HST7 := Lib.hid hst7
  clear hst7 HW6
  go_wp2_with fail
  go_end0
  exact ⟨rfl, _, _, _, HST7.out, rfl, rfl, HK8.out⟩
end Go.Proofs.YtakgddochbcjbaaDoor
