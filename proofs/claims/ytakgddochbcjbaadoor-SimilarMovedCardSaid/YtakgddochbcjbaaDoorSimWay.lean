/- similar's search: what stands while pairs are taken; take. similar's same: pairs of the same text. similar's same, walked: pairs of the same text. similar's best, walked: the pair that is most alike. -/
import Derived.Test.YtakgddochbcjbaaDoorSimRow
import Derived.Test.YtakgddochbcjbaaDoorSimMap
import Derived.Test.YtakgddochbcjbaaDoorMixS
namespace Go.Proofs.YtakgddochbcjbaaDoor
open Go.RowKit Go.Deep Go.MapKept Go.Shelf

def prCells (l : List (Int × Int)) : List Value := l.flatMap fun p => [.int .i64 p.1, .int .i64 p.2]
theorem prCells_append (l m : List (Int × Int)) : prCells (l ++ m) = prCells l ++ prCells m := by simp [prCells]
theorem prCells_one (p : Int × Int) : prCells [p] = [.int .i64 p.1, .int .i64 p.2] := rfl
theorem Tryd.infoPair : (Tryd.prog.info? 103).map (fun i => (i.zero, i.size, i.bytes)) = some (some (.agg #[.int .i64 0, .int .i64 0]), 2, 16) := by kernel_rfl
/-- the search, as it stands: its block ps, its map mb, the places that are left, the pairs that were taken; nothing below w0 has turned -/
structure St (w0 w : World) (ps mb : Nat) (va vb vf vt vo : Value) (F T : List Int) (O : List (Int × Int)) (f : Int × Int → Option Int) (q : Nat) : Prop where
  gr : Grows w0 w
  gp : w0.heap.size ≤ ps
  gm : w0.heap.size ≤ mb
  blk : Blk w ps 100 #[va, vb, vf, vt, .map (some mb), vo]
  oF : w.ownsRow w0.heap.size 3 1 vf F.length (ints F)
  oT : w.ownsRow w0.heap.size 3 1 vt T.length (ints T)
  oO : w.ownsRow w0.heap.size 103 2 vo O.length (prCells O)
  ne : ∀ g, vf.ownBlock = some g → vt.ownBlock ≠ some g
  map : MapR w mb q f
section
variable {w0 w w' : World} {ps mb : Nat} {va vb vf vt vo : Value} {F T : List Int} {O : List (Int × Int)} {f : Int × Int → Option Int} {q : Nat}
theorem own_map_ne {B size n b m : Nat} {e : TypeId} {v : Value} {xs : List Value} {f : Int × Int → Option Int} (h : w.ownsRow B e size v n xs) (hm : MapR w b m f) : v.ownBlock ≠ some b := by
  obtain ⟨D, ⟨es, c, hb, _⟩, _⟩ := hm
  rcases h.2 with ⟨rfl, _⟩ | ⟨g, cap, cur, rfl, _, hg, _⟩
  · simp [Value.ownBlock]
  · intro he
    have : g = b := by simpa [Value.ownBlock] using he
    subst this
    rw [hg] at hb
    cases hb
theorem blk_map_ne {g b m : Nat} {t : TypeId} {cs : Array Value} {f : Int × Int → Option Int} (h : Blk w g t cs) (hm : MapR w b m f) : g ≠ b := by
  obtain ⟨D, ⟨es, c, hb, _⟩, _⟩ := hm
  rintro rfl
  unfold Blk at h
  rw [h] at hb
  cases hb
/-- all that was there stays, but for the search's block and its rows -/
def Kept (w w' : World) (ps : Nat) (vf vt vo : Value) : Prop := w.heap.size ≤ w'.heap.size ∧ ∀ b, b < w.heap.size → b ≠ ps → vf.ownBlock ≠ some b → vt.ownBlock ≠ some b → vo.ownBlock ≠ some b → w'.heap[b]? = w.heap[b]?
theorem Kept.of_grows (hg : Grows w w') : Kept w w' ps vf vt vo := ⟨hg.size, fun b hb _ _ _ _ => hg.block b hb⟩
theorem Kept.row {w2 : World} {row : Option Nat} (h : Kept w w' ps vf vt vo) (hg : w'.grownBy w2 row) (hr : row = some ps ∨ row = vf.ownBlock ∨ row = vt.ownBlock ∨ row = vo.ownBlock ∨ (∃ g, row = some g ∧ w.heap.size ≤ g)) : Kept w w2 ps vf vt vo :=
  ⟨Nat.le_trans h.1 hg.size, fun b hb h1 h2 h3 h4 => (hg.block b (Nat.lt_of_lt_of_le hb h.1) (fun e => by
    rcases hr with hr | hr | hr | hr | ⟨g, hr, hgw⟩
    · rw [hr] at e; cases e; exact h1 rfl
    · exact h2 (by rw [← hr, ← e])
    · exact h3 (by rw [← hr, ← e])
    · exact h4 (by rw [← hr, ← e])
    · rw [hr] at e; cases e; omega)).trans (h.2 b hb h1 h2 h3 h4)⟩
theorem Kept.grows {w2 : World} (h : Kept w w' ps vf vt vo) (hg : Grows w' w2) : Kept w w2 ps vf vt vo :=
  ⟨Nat.le_trans h.1 hg.size, fun b hb h1 h2 h3 h4 => (hg.block b (Nat.lt_of_lt_of_le hb h.1)).trans (h.2 b hb h1 h2 h3 h4)⟩
theorem St.grows (h : St w0 w ps mb va vb vf vt vo F T O f q) (hg : Grows w w') : St w0 w' ps mb va vb vf vt vo F T O f q :=
  ⟨h.gr.trans hg, h.gp, h.gm, Blk.growsF h.blk hg, own_grows h.oF hg, own_grows h.oT hg, own_grows h.oO hg, h.ne, h.map.grows hg⟩
theorem St.out {vo' : Value} {O' : List (Int × Int)} (h : St w0 w ps mb va vb vf vt vo F T O f q) (hg : w.grownBy w' vo.ownBlock) (ho : w'.ownsRow w0.heap.size 103 2 vo' O'.length (prCells O')) :
    Blk w' ps 100 #[va, vb, vf, vt, .map (some mb), vo] ∧ St w0 (w'.setCell ⟨ps, 5, none⟩ vo') ps mb va vb vf vt vo' F T O' f q := by
  have hb := h.blk.grown hg (fun e => own_blk_ne h.oO h.blk (by decide) e.symm)
  have hs := grown_setC w' ⟨ps, 5, none⟩ vo'
  have hF := h.oF.kept hg (own_own_ne h.oF h.oO (by decide))
  have hT := h.oT.kept hg (own_own_ne h.oT h.oO (by decide))
  have hm := h.map.kept hg (fun e => own_map_ne h.oO h.map e.symm)
  have hgr1 : Grows w0 w' := Below.grown h.gr hg h.gr.size (fun k hk => (h.oO.lt k hk).1)
  refine ⟨hb, Below.grown hgr1 hs hgr1.size (fun k hk => by cases hk; exact h.gp), h.gp, h.gm, hb.set_ 5 vo', hF.kept hs (.inr (own_blk_ne hF hb (by decide))), hT.kept hs (.inr (own_blk_ne hT hb (by decide))), ho.kept hs (.inr (own_blk_ne ho hb (by decide))), h.ne, hm.kept hs (fun e => blk_map_ne hb hm (by cases e; rfl))⟩
theorem St.from_ {vf' : Value} {F' : List Int} {g : Nat} (h : St w0 w ps mb va vb vf vt vo F T O f q) (hv : vf.ownBlock = some g) (hv' : vf'.ownBlock = some g) (hg : w.grownBy w' (some g)) (ho : w'.ownsRow w0.heap.size 3 1 vf' F'.length (ints F')) :
    Blk w' ps 100 #[va, vb, vf, vt, .map (some mb), vo] ∧ St w0 (w'.setCell ⟨ps, 2, none⟩ vf') ps mb va vb vf' vt vo F' T O f q := by
  rw [← hv] at hg
  have hb := h.blk.grown hg (fun e => own_blk_ne h.oF h.blk (by decide) e.symm)
  have hs := grown_setC w' ⟨ps, 2, none⟩ vf'
  have hO := h.oO.kept hg (own_own_ne h.oO h.oF (by decide))
  have hT := h.oT.kept hg (.inr (by rw [hv]; exact h.ne g hv))
  have hm := h.map.kept hg (fun e => own_map_ne h.oF h.map e.symm)
  have hgr1 : Grows w0 w' := Below.grown h.gr hg h.gr.size (fun k hk => (h.oF.lt k hk).1)
  refine ⟨hb, Below.grown hgr1 hs hgr1.size (fun k hk => by cases hk; exact h.gp), h.gp, h.gm, hb.set_ 2 vf', ho.kept hs (.inr (own_blk_ne ho hb (by decide))), hT.kept hs (.inr (own_blk_ne hT hb (by decide))), hO.kept hs (.inr (own_blk_ne hO hb (by decide))), fun g' hg' => by rw [hv'] at hg'; cases hg'; exact h.ne g hv, hm.kept hs (fun e => blk_map_ne hb hm (by cases e; rfl))⟩
theorem St.to_ {vt' : Value} {T' : List Int} {g : Nat} (h : St w0 w ps mb va vb vf vt vo F T O f q) (hv : vt.ownBlock = some g) (hv' : vt'.ownBlock = some g) (hg : w.grownBy w' (some g)) (ho : w'.ownsRow w0.heap.size 3 1 vt' T'.length (ints T')) :
    Blk w' ps 100 #[va, vb, vf, vt, .map (some mb), vo] ∧ St w0 (w'.setCell ⟨ps, 3, none⟩ vt') ps mb va vb vf vt' vo F T' O f q := by
  rw [← hv] at hg
  have hb := h.blk.grown hg (fun e => own_blk_ne h.oT h.blk (by decide) e.symm)
  have hs := grown_setC w' ⟨ps, 3, none⟩ vt'
  have hO := h.oO.kept hg (own_own_ne h.oO h.oT (by decide))
  have hF := h.oF.kept hg (.inr (by rw [hv]; exact fun e => h.ne g e hv))
  have hm := h.map.kept hg (fun e => own_map_ne h.oT h.map e.symm)
  have hgr1 : Grows w0 w' := Below.grown h.gr hg h.gr.size (fun k hk => (h.oT.lt k hk).1)
  refine ⟨hb, Below.grown hgr1 hs hgr1.size (fun k hk => by cases hk; exact h.gp), h.gp, h.gm, hb.set_ 3 vt', hF.kept hs (.inr (own_blk_ne hF hb (by decide))), ho.kept hs (.inr (own_blk_ne ho hb (by decide))), hO.kept hs (.inr (own_blk_ne hO hb (by decide))), fun g' hg' e => by rw [hv'] at e; cases e; exact h.ne g hg' hv, hm.kept hs (fun e => blk_map_ne hb hm (by cases e; rfl))⟩
end
theorem Blk.reads1 {w : World} {g : Nat} {t : TypeId} {a b : Value} (h : Blk w g t #[a, b]) : Reads w w.heap.size 2 (some ⟨g, 0, none⟩) 1 [a, b] := by
  refine ⟨rfl, fun _ => ⟨_, rfl, h.lt, fun j u hu => ?_⟩⟩
  have e2 : Addr.add ⟨g, 0, none⟩ j = ⟨g, j, none⟩ := by unfold Addr.add; split <;> simp_all
  rw [e2, h.cell]
  match j, hu with
  | 0, hu => simpa using hu
  | 1, hu => simpa using hu
set_option maxRecDepth 100000 in
set_option maxHeartbeats 2000000 in
theorem take_any (w0 w : World) (ps mb : Nat) (va vb vf vt vo : Value) (F T : List Int) (O : List (Int × Int)) (f : Int × Int → Option Int) (q : Nat) (h : St w0 w ps mb va vb vf vt vo F T O f q) (i k : Int) (hF : 0 < F.length) (hT : 0 < T.length) (hO : O.length ≤ 1000) :
    Calls Tryd.prog 100 #[.pointer (some ⟨ps, 0, none⟩), .agg #[.int .i64 i, .int .i64 k]] w fun e w' => e = .returned (.tuple #[]) ∧ ∃ vf' vt' vo', St w0 w' ps mb va vb vf' vt' vo' (delL i F) (delL k T) (O ++ [(i, k)]) f q ∧ vf'.ownBlock = vf.ownBlock ∧ vt'.ownBlock = vt.ownBlock ∧ Kept w w' ps vf vt vo := by
  obtain ⟨t1, hj0, hy0, hy1, hy2⟩ := info_parts Tryd.infoPair
  obtain ⟨gF, cF, rfl, hF1, hF2⟩ := h.oF.form hF
  obtain ⟨gT, cT, rfl, hT1, hT2⟩ := h.oT.form hT
  obtain ⟨bp, hbp⟩ : ∃ bp, bp = w.heap.size := ⟨_, rfl⟩
  obtain ⟨w1, hw1⟩ : ∃ w1, w1 = w.alloc (.cells #[.int .i64 i, .int .i64 k] 103) := ⟨_, rfl⟩
  have hg1 : Grows w w1 := by rw [hw1]; exact (Grows.refl w).alloc _
  have hbx : Blk w1 bp 103 #[.int .i64 i, .int .i64 k] := by rw [hw1, hbp]; exact Blk.new _ _ _
  have hblk := Blk.growsF h.blk hg1
  have HZW := Lib.hid (show w1.heap.size = w.heap.size + 1 by rw [hw1]; simp)
  have HW1 := Lib.hid hw1
  have HBP := Lib.hid hbp
  have hown := own_grows h.oO hg1
  have hownb : ∀ g, vo.ownBlock = some g → g ≠ bp := fun g hg e => by
    have := (h.oO.lt g hg).2
    omega
  have HH := Lib.hid h
  have hgr0 := h.gr.trans hg1
  have hz0 := h.gr.size
  have hgpp := h.gp
  clear h hw1 hbp
  go_enter Tryd.func100, Tryd.ntmps100
  go_wp2_with fail
  rw [← HW1.out, ← HBP.out]
  obtain ⟨S, hS⟩ : ∃ S : World → Prop, S = fun w' => Blk w' ps 100 #[va, vb, .slice (some ⟨gF, 0, none⟩) F.length cF, .slice (some ⟨gT, 0, none⟩) T.length cT, .map (some mb), vo] ∧ Blk w' bp 103 #[.int .i64 i, .int .i64 k] := ⟨_, rfl⟩
  have hSb : ∀ s : SW S, Blk s.w ps 100 #[va, vb, .slice (some ⟨gF, 0, none⟩) F.length cF, .slice (some ⟨gT, 0, none⟩) T.length cT, .map (some mb), vo] ∧ Blk s.w bp 103 #[.int .i64 i, .int .i64 k] := fun s => by
    have := s.ok
    subst hS
    exact this
  have hS5 : ∀ s : SW S, s.w.cell? ⟨ps, 5, none⟩ = some vo := fun s => (hSb s).1.cell 5
  have hS6 : ∀ s : SW S, s.w.cell? ⟨bp, 0, none⟩ = some (.int .i64 i) := fun s => (hSb s).2.cell 0
  have hS7 : ∀ s : SW S, s.w.cell? ⟨bp, 1, none⟩ = some (.int .i64 k) := fun s => (hSb s).2.cell 1
  clear hSb
  have hS0 : S w1.drew := by rw [hS]; exact ⟨hblk.drew, hbx.drew⟩
  have hSi : ∀ w', Blk w' ps 100 #[va, vb, .slice (some ⟨gF, 0, none⟩) F.length cF, .slice (some ⟨gT, 0, none⟩) T.length cT, .map (some mb), vo] → Blk w' bp 103 #[.int .i64 i, .int .i64 k] → S w' := by rw [hS]; exact fun _ h h' => ⟨h, h'⟩
  clear hS
  haveI : Nonempty (SW S) := ⟨⟨_, hS0⟩⟩
  refine wp_region_seq S [([0, 1, 2, 3, 4, 5], 6), ([], 7)] [] [([], [8, 9, 10])] (by kernel_rfl) (fun _ _ _ _ _ h => h) (by kernel_rfl) hS0 ?_
  simp only [pickS, pickT, pickL, List.map_cons, List.map_nil, List.filterMap_cons, List.filterMap_nil, List.getElem?_cons_zero, List.getElem?_cons_succ]
  refine wpSeq_consK fun K2 hK2 K hK => ?_
  repeat (show wpQuiet _ _ _ _ (_ :: _) _; go_big_quiet_step (fail))
  refine wpQuiet_nil (hK _ ?_)
  clear hK K
  show wpList _ _ _ [_] _ _
  go_wp2_with fail
  have hg2 : Grows w1 (w1.alloc (.cells #[.int .i64 i, .int .i64 k] 103)).drew := ((Grows.refl w1).alloc _).drew
  have hnw : Blk (w1.alloc (.cells #[.int .i64 i, .int .i64 k] 103)).drew w1.heap.size 103 #[.int .i64 i, .int .i64 k] := Blk.new _ _ _
  refine hK2.out _ _ (hSi _ (Blk.growsF hblk hg2) (Blk.growsF hbx hg2)) ?_
  clear hK2 K2
  generalize (w1.alloc (.cells #[.int .i64 i, .int .i64 k] 103)).drew = w2 at hg2 hnw ⊢
  refine wpSeq_consK fun K2 hK2 K hK => ?_
  refine wpQuiet_nil (hK _ ?_)
  clear hK K
  show wpList _ _ _ [_] _ _
  have hz2 := Nat.le_trans hgr0.size hg2.size
  have hown2 := own_grows hown hg2
  go_wp2_with (at_builtin; refine wpList_append_any _ rfl (.tmp 8) (.tmp 10) _ rfl (w0.heap.size) 103 t1 _ 2 16 Tryd.underlying98 hj0 hy0 hy1 hy2 rfl (by decide) _ _ _ rfl hown2 _ _ _ _ _ rfl hnw.reads1 (by intro u hu; simp at hu; rcases hu with rfl | rfl <;> rfl) (by simp only [maxLen]; omega) (by omega) (by omega) ?_; intro vo2 w3 hown3 hgb3 hor3)
  obtain ⟨A9, c9, rfl, _, _⟩ := own_form hown3
  obtain ⟨hb3, hst3⟩ := St.out (O' := O ++ [(i, k)]) (HH.out.grows (hg1.trans hg2)) hgb3 (by rw [prCells_append, List.length_append]; exact hown3)
  have hx3 := (Blk.growsF hbx hg2).grown hgb3 (fun e => hownb bp e.symm rfl)
  refine hK2.out _ _ (hSi _ hb3 hx3) ?_
  clear hK2 K2
  refine wpSeq_nil (wpRest_K fun K hK => ?_)
  refine wpQuiet_nil (hK _ ?_)
  clear hK K
  refine wpSegs_consK fun K2 hK2 K hK => ?_
  refine wpQuiet_nil (hK _ ?_)
  clear hK K
  show wpList _ _ _ [_, _, _] _ _
  have hfz := hb3.frozen 5
  have hcl := hb3.cell 5
  simp only [List.getElem?_toArray, List.getElem?_cons_succ, List.getElem?_cons_zero] at hcl
  go_wp2_with fail
  refine hK2.out _ _ (wpSegs_nil ?_)
  clear hK2 K2
  have HK4 := Lib.hid (((Kept.of_grows (ps := ps) (vf := .slice (some ⟨gF, 0, none⟩) F.length cF) (vt := .slice (some ⟨gT, 0, none⟩) T.length cT) (vo := vo) (hg1.trans hg2)).row hgb3 (.inr (.inr (.inr (.inl rfl))))).row (grown_setC w3 ⟨ps, 5, none⟩ (.slice A9 (O.length + 1) c9)) (.inl rfl))
  have hx4 := hx3.grown (grown_setC w3 ⟨ps, 5, none⟩ (.slice A9 (O.length + 1) c9)) (fun e => Blk.ne_ hb3 hx3 (by decide) (by cases e; rfl))
  clear hfz hcl hgb3 hor3 hown3 hown2 hnw hown hownb hS5 hS6 hS7 hS0 hSi this
  clear S
  have HST3 := Lib.hid hst3
  clear hst3
  generalize w3.setCell ⟨ps, 5, none⟩ (.slice A9 (O.length + 1) c9) = w4 at hx4 HST3 HK4 ⊢
  have hb4 := HST3.out.blk
  have hp2 := hb4.cell 2
  simp only [List.getElem?_toArray, List.getElem?_cons_succ, List.getElem?_cons_zero] at hp2
  have hdF := del_any 121 0 bp w0.heap.size gF F.length cF i F w4 (fun W j hc => take1_gives bp i W j hc) (enters_of Tryd.func121 (by kernel_rfl) rfl) HST3.out.oF hx4.lt (fun e => by
    have := HBP.out
    omega) (hx4.cell 0)
  clear hbx hblk hb3 hx3
  go_wp2_with fail
  refine hdF.mono ?_
  rintro e w5 ⟨rfl, ho5, hg5⟩
  clear hdF hp2 hb4
  obtain ⟨hb5, hst5⟩ := St.from_ (F' := delL i F) HST3.out rfl rfl hg5 ho5
  have hx5 := hx4.grown hg5 (fun e => by
    have := HBP.out
    cases e
    omega)
  have hx6 := hx5.grown (grown_setC w5 ⟨ps, 2, none⟩ (.slice (some ⟨gF, 0, none⟩) (delL i F).length cF)) (fun e => Blk.ne_ hb5 hx5 (by decide) (by cases e; rfl))
  have hfz := hb5.frozen 2
  have hcl := hb5.cell 2
  simp only [List.getElem?_toArray, List.getElem?_cons_succ, List.getElem?_cons_zero] at hcl
  have hq3 := hb5.cell 3
  simp only [List.getElem?_toArray, List.getElem?_cons_succ, List.getElem?_cons_zero] at hq3
  have hb6 := hst5.blk
  have hp3 := hb6.cell 3
  simp only [List.getElem?_toArray, List.getElem?_cons_succ, List.getElem?_cons_zero] at hp3
  have HK6 := Lib.hid ((HK4.out.row hg5 (.inr (.inl rfl))).row (grown_setC w5 ⟨ps, 2, none⟩ (.slice (some ⟨gF, 0, none⟩) (delL i F).length cF)) (.inl rfl))
  have HST5 := Lib.hid hst5
  clear hst5 hx4 HST3 ho5 hg5
  obtain ⟨w6, hw6⟩ : ∃ w6, w6 = w5.setCell ⟨ps, 2, none⟩ (.slice (some ⟨gF, 0, none⟩) (delL i F).length cF) := ⟨_, rfl⟩
  rw [← hw6] at hp3 hx6 HST5 hb6 HK6
  have HW6 := Lib.hid hw6
  clear hw6
  go_wp2_with fail
  rw [← HW6.out]
  clear hfz hcl hq3 hb5 hx5
  have hdT := del_any 122 1 bp w0.heap.size gT T.length cT k T w6 (fun W j hc => take2_gives bp k W j hc) (enters_of Tryd.func122 (by kernel_rfl) rfl) HST5.out.oT hx6.lt (fun e => by
    have := HBP.out
    omega) (hx6.cell 1)
  refine hdT.mono ?_
  rintro e w7 ⟨rfl, ho7, hg7⟩
  clear hdT hp3 hb6
  obtain ⟨hb7, hst7⟩ := St.to_ (T' := delL k T) HST5.out rfl rfl hg7 ho7
  have hfz := hb7.frozen 3
  have hcl := hb7.cell 3
  simp only [List.getElem?_toArray, List.getElem?_cons_succ, List.getElem?_cons_zero] at hcl
  have HK8 := Lib.hid ((HK6.out.row hg7 (.inr (.inr (.inl rfl)))).row (grown_setC w7 ⟨ps, 3, none⟩ (.slice (some ⟨gT, 0, none⟩) (delL k T).length cT)) (.inl rfl))
  have HST7 := Lib.hid hst7
  clear hst7 HW6
  go_wp2_with fail
  go_end0
  exact ⟨rfl, _, _, _, HST7.out, rfl, rfl, HK8.out⟩
end Go.Proofs.YtakgddochbcjbaaDoor
namespace Go.Proofs.YtakgddochbcjbaaDoor
open Go.RowKit Go.Deep Go.MapKept Go.Shelf

set_option maxRecDepth 100000 in
set_option maxHeartbeats 2000000 in
theorem same1_gives (w0 W : World) (ps bs bi n n' c c' : Nat) (A A' : Option Addr) (l m : List FileB) (x y z u : Value) (i j : Nat) (hs : W.cell? ⟨bs, 0, none⟩ = some (.pointer (some ⟨ps, 0, none⟩))) (hi : W.cell? ⟨bi, 0, none⟩ = some (.int .i64 i))
    (hb : Blk W ps 100 #[.slice A n c, .slice A' n' c', x, y, z, u]) (hl : Reads W w0.heap.size 3 A n (fileCells l)) (hm : Reads W w0.heap.size 3 A' n' (fileCells m)) (hin : i < n) (hjn : j < n') :
    FnGives Tryd.prog 99 #[.pointer (some ⟨bs, 0, none⟩), .pointer (some ⟨bi, 0, none⟩)] #[.int .i64 j] (.bool (eqT (ft m j) (ft l i))) W := by
  show Calls Tryd.prog 99 #[.int .i64 j, .pointer (some ⟨bs, 0, none⟩), .pointer (some ⟨bi, 0, none⟩)] W _
  obtain ⟨a1, rfl, ha1, p0, p1, p2⟩ := hl.file hin
  obtain ⟨a2, rfl, ha2, q0, q1, q2⟩ := hm.file hjn
  clear hl hm
  have c0 := hb.cell 0
  have c1 := hb.cell 1
  simp only [List.getElem?_toArray, List.getElem?_cons_succ, List.getElem?_cons_zero] at c0 c1
  have k1 : (i : Int) < n := by omega
  have k2 : (j : Int) < n' := by omega
  have k3 : (0 : Int) ≤ i := by omega
  have k4 : (0 : Int) ≤ j := by omega
  have he := eqT_list (ft m j) (ft l i)
  go_enter Tryd.func99, Tryd.ntmps99
  go_wp2_with fail
  go_quiet (fail)
  go_wp2_with fail
  go_ret
  exact ⟨rfl, nq, rfl⟩

/-- are two files' texts the same? -/
def wants (l m : List FileB) (i j : Int) : Bool := eqT (ft m j.toNat) (ft l i.toNat)
/-- where the first one stands that has the text -/
def idxT (l m : List FileB) (i : Int) (T : List Int) : Int := Lib.idxBy (fun _ j => wants l m i j) T 0
theorem idx_from (p : Int → Bool) : ∀ (T : List Int) (k : Nat), (Lib.idxByFrom (fun _ j => p j) (0 : Int) T k = -1 ∧ ∀ j ∈ T, p j = false) ∨
    ∃ r : Nat, Lib.idxByFrom (fun _ j => p j) (0 : Int) T k = ((k + r : Nat) : Int) ∧ r < T.length ∧ p (gi T r) = true ∧ ∀ j, j < r → p (gi T j) = false
  | [], k => .inl ⟨rfl, fun j h => by cases h⟩
  | x :: T, k => by
    rw [Lib.idxByFrom]
    cases hx : p x with
    | true => exact .inr ⟨0, by simp, by simp, by simpa [gi] using hx, fun j h => absurd h (Nat.not_lt_zero _)⟩
    | false =>
      rcases idx_from p T (k + 1) with ⟨e, h⟩ | ⟨r, e, hr, hp, hno⟩
      · refine .inl ⟨by simpa using e, fun j hj => ?_⟩
        rcases List.mem_cons.1 hj with rfl | hj
        · exact hx
        · exact h j hj
      · refine .inr ⟨r + 1, by simp only [Bool.false_eq_true, if_false]; rw [e]; congr 1; omega, by simpa using hr, by simpa [gi] using hp, fun j hj => ?_⟩
        cases j with
        | zero => simpa [gi] using hx
        | succ j => have := hno j (by omega); simpa [gi] using this
theorem idxT_cases (l m : List FileB) (i : Int) (T : List Int) : (idxT l m i T = -1 ∧ ∀ j ∈ T, wants l m i j = false) ∨ ∃ r : Nat, idxT l m i T = (r : Int) ∧ r < T.length ∧ wants l m i (gi T r) = true ∧ ∀ j, j < r → wants l m i (gi T j) = false := by
  have h := idx_from (wants l m i) T 0
  simp only [Nat.zero_add] at h
  exact h
theorem idx_map {κ : Type} (p : Int → Bool) (g : κ → Int) (d : κ) : ∀ (zs : List κ) (k : Nat), Lib.idxByFrom (fun _ y => p (g y)) d zs k = Lib.idxByFrom (fun _ j => p j) (0 : Int) (zs.map g) k
  | [], _ => rfl
  | z :: zs, k => by rw [List.map_cons, Lib.idxByFrom, Lib.idxByFrom, idx_map p g d zs (k + 1)]
/-- numbers below a bound, as such -/
def finL (n : Nat) (T : List Int) (h : ∀ j ∈ T, 0 ≤ j ∧ j < n) : List (Fin n) := T.attach.map fun j => ⟨j.1.toNat, by have := h j.1 j.2; omega⟩
theorem finL_map (n : Nat) (T : List Int) (h : ∀ j ∈ T, 0 ≤ j ∧ j < n) : (finL n T h).map (fun j : Fin n => ((j.1 : Nat) : Int)) = T := by
  rw [finL, List.map_map]
  have : ((fun j : Fin n => ((j.1 : Nat) : Int)) ∘ fun j : {x // x ∈ T} => (⟨j.1.toNat, by have := h j.1 j.2; omega⟩ : Fin n)) = fun j : {x // x ∈ T} => j.1 := by
    funext j
    have := h j.1 j.2
    show ((j.1.toNat : Nat) : Int) = j.1
    omega
  rw [this]
  simp
theorem gi_mem {T : List Int} {k : Nat} (h : k < T.length) : gi T k ∈ T := by
  rw [gi, List.getD_eq_getElem?_getD, List.getElem?_eq_getElem h]
  exact List.getElem_mem h

set_option maxRecDepth 100000 in
set_option maxHeartbeats 2000000 in
theorem indexT_any (w0 w : World) (ps bs bi n n' c c' : Nat) (A A' : Option Addr) (l m : List FileB) (x y z u vt : Value) (i : Nat) (T : List Int) (hw0 : w0.heap.size ≤ w.heap.size) (hs : w.cell? ⟨bs, 0, none⟩ = some (.pointer (some ⟨ps, 0, none⟩))) (hi : w.cell? ⟨bi, 0, none⟩ = some (.int .i64 i)) (hbs : bs < w.heap.size) (hbi : bi < w.heap.size)
    (hb : Blk w ps 100 #[.slice A n c, .slice A' n' c', x, y, z, u]) (hl : Reads w w0.heap.size 3 A n (fileCells l)) (hm : Reads w w0.heap.size 3 A' n' (fileCells m)) (hin : i < n) (hT : ∀ j ∈ T, 0 ≤ j ∧ j < n') (ho : w.ownsRow w0.heap.size 3 1 vt T.length (ints T)) (hTl : T.length ≤ 1000000) :
    Calls Tryd.prog 98 #[vt, .func (.func 99) #[] #[.pointer (some ⟨bs, 0, none⟩), .pointer (some ⟨bi, 0, none⟩)]] w fun e w' => e = .returned (.int .i64 (idxT l m i T)) ∧ ∃ q, w' = w.drewN q := by
  have eg : ∀ args w, (callFunc 99 args).run Tryd.prog w = .ok (.enter 99 args) w := enters_of Tryd.func99 (by kernel_rfl) rfl
  rcases Nat.eq_zero_or_pos T.length with h0 | h0
  · obtain ⟨A1, c1, rfl, _, _⟩ := own_form ho
    obtain rfl := List.length_eq_zero_iff.1 h0
    have := Tryd.slices_IndexFunc_empty_f98 (α := Int) A1 c1 (.func (.func 99) #[] #[.pointer (some ⟨bs, 0, none⟩), .pointer (some ⟨bi, 0, none⟩)]) w
    refine this.mono ?_
    rintro e w' ⟨rfl, rfl⟩
    exact ⟨rfl, 0, rfl⟩
  · obtain ⟨g, c1, rfl, _, _⟩ := ho.form h0
    have hin' : 0 < n' := by have := hT _ (gi_mem h0); omega
    haveI : Inhabited (Fin n') := ⟨⟨0, hin'⟩⟩
    have hmap := finL_map n' T hT
    generalize finL n' T hT = zs at hmap
    have hzl : zs.length = T.length := by rw [← hmap]; simp
    have hp : PredAt Tryd.prog 99 #[.pointer (some ⟨bs, 0, none⟩), .pointer (some ⟨bi, 0, none⟩)] (fun j : Fin n' => Value.int .i64 ((j.1 : Nat) : Int)) (fun j : Fin n' => wants l m i ((j.1 : Nat) : Int)) w := fun W j hW => by
      have := same1_gives w0 W ps bs bi n n' c c' A A' l m x y z u i j.1 ((hW.cell (p := ⟨bs, 0, none⟩) hbs).trans hs) ((hW.cell (p := ⟨bi, 0, none⟩) hbi).trans hi) (Blk.growsF hb hW) (hl.grows hw0 hW) (hm.grows hw0 hW) hin j.2
      exact this
    have hcell : ∀ j, j < zs.length → w.cell? ⟨g, 0 + j, none⟩ = some (Value.int .i64 (((zs[j]!).1 : Nat) : Int)) := fun j hj => by
      have hcs := ho.cells (g := g) rfl j (.int .i64 (gi T j)) (by rw [hzl] at hj; simp [ints, gi, hj])
      have e2 : Addr.add ⟨g, 0, none⟩ j = ⟨g, j, none⟩ := by unfold Addr.add; split <;> simp_all
      rw [Nat.zero_add, ← e2, hcs]
      congr 2
      rw [← hmap, gi, List.getD_eq_getElem?_getD, List.getElem?_map, List.getElem?_eq_getElem hj, getElem!_pos zs j hj]
      rfl
    have := Tryd.slices_IndexFunc_f98 (fun j : Fin n' => Value.int .i64 ((j.1 : Nat) : Int)) (fun j : Fin n' => wants l m i ((j.1 : Nat) : Int)) 99 #[.pointer (some ⟨bs, 0, none⟩), .pointer (some ⟨bi, 0, none⟩)] eg g 0 T.length c1 zs w hp (by omega) (by omega) hcell
    refine this.mono ?_
    rintro e w' ⟨rfl, q, rfl⟩
    refine ⟨?_, q, rfl⟩
    rw [List.take_of_length_le (by omega)]
    have e := idx_map (wants l m i) (fun j : Fin n' => ((j.1 : Nat) : Int)) default zs 0
    rw [hmap] at e
    exact congrArg (fun r => Ending.returned (Value.int .i64 r)) e
end Go.Proofs.YtakgddochbcjbaaDoor
namespace Go.Proofs.YtakgddochbcjbaaDoor
open Go.RowKit Go.Deep Go.MapKept Go.Shelf

theorem cloneI_any (B : Nat) (w : World) (vf : Value) (F : List Int) (ho : w.ownsRow B 3 1 vf F.length (ints F)) (hF : F.length ≤ 1000000) :
    Calls Tryd.prog 97 #[vf] w fun e w' => ∃ v', e = .returned v' ∧ w'.ownsRow w.heap.size 3 1 v' F.length (ints F) ∧ Grows w w' := by
  obtain ⟨t0, hi0, hz0, hz1, hz2⟩ := info_parts Tryd.infoInt
  rcases ho.2 with ⟨e, h0⟩ | ⟨g, cap, cur, e, _, _, h1, h2, _, _⟩
  · subst e
    refine (Tryd.slices_Clone_nil_f97 0 0 w).mono ?_
    rintro e w' ⟨rfl, rfl⟩
    have : F = [] := List.length_eq_zero_iff.1 h0
    subst this
    exact ⟨_, rfl, World.ownsRow_nil _ _ _ _, Grows.refl _⟩
  · subst e
    refine (Tryd.slices_Clone_f97 t0 _ 1 8 hi0 hz0 hz1 hz2 rfl (by decide) (fun w => by kernel_rfl) g 0 F.length cap (ints F) w (by simp [ints]) (by unfold maxLen; omega) (by omega) (fun j u hu => ?_) (fun u hu => ?_)).mono ?_
    · have hcs := ho.cells (g := g) rfl j u hu
      have e2 : Addr.add ⟨g, 0, none⟩ j = ⟨g, j, none⟩ := by unfold Addr.add; split <;> simp_all
      rw [Nat.zero_add, ← e2, hcs]
    · simp only [ints, List.mem_map] at hu
      obtain ⟨x, _, rfl⟩ := hu
      rfl
    · rintro e w' ⟨v', rfl, h1, _, h3⟩
      exact ⟨v', rfl, h1, h3⟩

/-- what is left, and what was taken -/
structure SSt where
  F : List Int
  T : List Int
  O : List (Int × Int)
def SSt.take (s : SSt) (i k : Int) : SSt := ⟨delL i s.F, delL k s.T, s.O ++ [(i, k)]⟩
def sameStep (l m : List FileB) (s : SSt) (i : Int) : SSt := if idxT l m i s.T < 0 then s else s.take i (gi s.T (idxT l m i s.T).toNat)
def sameTo (l m : List FileB) (F T : List Int) : Nat → SSt
  | 0 => ⟨F, T, []⟩
  | k + 1 => sameStep l m (sameTo l m F T k) (gi F k)
/-- numbers that rise -/
def Asc (F : List Int) : Prop := ∀ j k, j < k → k < F.length → gi F j < gi F k
structure SInv (F T : List Int) (k : Nat) (s : SSt) : Prop where
  inF : ∀ j, k ≤ j → j < F.length → gi F j ∈ s.F
  subF : ∀ x ∈ s.F, x ∈ F
  subT : ∀ x ∈ s.T, x ∈ T
  lenF : s.F.length ≤ F.length
  lenT : s.T.length ≤ T.length
  lenO : s.O.length ≤ k
theorem mem_delL {x y : Int} {F : List Int} : y ∈ delL x F ↔ y ∈ F ∧ y ≠ x := by
  simp [delL]
theorem sameTo_inv {l m : List FileB} {F T : List Int} (hA : Asc F) : ∀ k, k ≤ F.length → SInv F T k (sameTo l m F T k)
  | 0, _ => ⟨fun j _ hj => gi_mem hj, fun _ h => h, fun _ h => h, Nat.le_refl _, Nat.le_refl _, Nat.le_refl _⟩
  | k + 1, hk => by
    have h := sameTo_inv (l := l) (m := m) (T := T) hA k (by omega)
    rw [sameTo, sameStep]
    split
    · exact ⟨fun j hj => h.inF j (by omega), h.subF, h.subT, h.lenF, h.lenT, Nat.le_succ_of_le h.lenO⟩
    · refine ⟨fun j hj hl => mem_delL.2 ⟨h.inF j (by omega) hl, ?_⟩, fun x hx => h.subF x (mem_delL.1 hx).1, fun x hx => h.subT x (mem_delL.1 hx).1, Nat.le_trans (delL_len _ _) h.lenF, Nat.le_trans (delL_len _ _) h.lenT, ?_⟩
      · have := hA k j (by omega) hl
        omega
      · simp only [SSt.take, List.length_append, List.length_singleton]
        exact Nat.add_le_add_right h.lenO 1

theorem own_kept {w w' : World} {B e size n ps : Nat} {v vf vt vo : Value} {xs : List Value} (h : w.ownsRow B e size v n xs) (hk : Kept w w' ps vf vt vo) (h1 : ∀ g, v.ownBlock = some g → g ≠ ps ∧ vf.ownBlock ≠ some g ∧ vt.ownBlock ≠ some g ∧ vo.ownBlock ≠ some g) : w'.ownsRow B e size v n xs := by
  refine ⟨h.1, ?_⟩
  rcases h.2 with h2 | ⟨g, cap, cur, hv, hb, hh, rest⟩
  · exact .inl h2
  · obtain ⟨a, b, c, d⟩ := h1 g (by rw [hv]; rfl)
    exact .inr ⟨g, cap, cur, hv, hb, (hk.2 g (Array.getElem?_eq_some_iff.1 hh).1 a b c d).trans hh, rest⟩
theorem blk_kept {w w' : World} {g ps : Nat} {t : TypeId} {cs : Array Value} {vf vt vo : Value} (h : Blk w g t cs) (hk : Kept w w' ps vf vt vo) (h1 : g ≠ ps ∧ vf.ownBlock ≠ some g ∧ vt.ownBlock ≠ some g ∧ vo.ownBlock ≠ some g) : Blk w' g t cs :=
  (hk.2 g h.lt h1.1 h1.2.1 h1.2.2.1 h1.2.2.2).trans h
theorem own_cell {w : World} {B g n c k : Nat} {xs : List Int} (h : w.ownsRow B 3 1 (.slice (some ⟨g, 0, none⟩) n c) n (ints xs)) (hk : k < xs.length) : w.cell? ⟨g, k, none⟩ = some (.int .i64 (gi xs k)) := by
  have hcs := h.cells (g := g) rfl k (.int .i64 (gi xs k)) (by simp [ints, gi, hk])
  have e2 : Addr.add ⟨g, 0, none⟩ k = ⟨g, k, none⟩ := by unfold Addr.add; split <;> simp_all
  rw [← e2, hcs]
set_option maxRecDepth 100000 in
set_option maxHeartbeats 2000000 in
theorem same_any (w0 w : World) (ps mb n n' c c' : Nat) (A A' : Option Addr) (l m : List FileB) (vf vt vo : Value) (F T : List Int) (f : Int × Int → Option Int) (q : Nat) (h : St w0 w ps mb (.slice A n c) (.slice A' n' c') vf vt vo F T [] f q) (hA : Asc F) (hF : ∀ x ∈ F, 0 ≤ x ∧ x < n) (hT : ∀ x ∈ T, 0 ≤ x ∧ x < n') (hFl : F.length ≤ 1000) (hTl : T.length ≤ 1000)
    (hl : Reads w0 w0.heap.size 3 A n (fileCells l)) (hm : Reads w0 w0.heap.size 3 A' n' (fileCells m)) :
    Calls Tryd.prog 62 #[.pointer (some ⟨ps, 0, none⟩)] w fun e w' => e = .returned (.tuple #[]) ∧ ∃ vf' vt' vo', St w0 w' ps mb (.slice A n c) (.slice A' n' c') vf' vt' vo' (sameTo l m F T F.length).F (sameTo l m F T F.length).T (sameTo l m F T F.length).O f q := by
  obtain ⟨bs, hbs⟩ : ∃ bs, bs = w.heap.size := ⟨_, rfl⟩
  obtain ⟨w1, hw1⟩ : ∃ w1, w1 = w.alloc (.cells #[.pointer (some ⟨ps, 0, none⟩)] 95) := ⟨_, rfl⟩
  have hg1 : Grows w w1 := by rw [hw1]; exact (Grows.refl w).alloc _
  have hbx : Blk w1 bs 95 #[.pointer (some ⟨ps, 0, none⟩)] := by rw [hw1, hbs]; exact Blk.new _ _ _
  have HW1 := Lib.hid hw1
  have HBS := Lib.hid hbs
  have hs1 := h.grows hg1
  have hq2 := (h.blk.alloc (.cells #[.pointer (some ⟨ps, 0, none⟩)] 95)).cell 2
  simp only [List.getElem?_toArray, List.getElem?_cons_succ, List.getElem?_cons_zero] at hq2
  clear hw1 hbs h
  have hb1 := hs1.blk
  have hx0 := hbx.cell 0
  have hp2 := hb1.cell 2
  simp only [List.getElem?_toArray, List.getElem?_cons_succ, List.getElem?_cons_zero] at hx0 hp2
  obtain ⟨AF, cF, rfl, _, _⟩ := own_form hs1.oF
  have hcl := cloneI_any w0.heap.size w1 (.slice AF F.length cF) F hs1.oF (by omega)
  have HS1 := Lib.hid hs1
  clear hs1 hb1
  go_enter Tryd.func62, Tryd.ntmps62
  go_wp2_with fail
  rw [← HW1.out, ← HBS.out]
  refine hcl.mono ?_
  rintro e w2 ⟨vc, rfl, hoc, hg2⟩
  obtain ⟨AC, cC, rfl, _, _⟩ := own_form hoc
  clear hcl hp2 hx0 hq2
  go_wp2_with fail
  have hdis0 : ∀ g, (Value.slice AC F.length cC).ownBlock = some g → (Value.slice AF F.length cF).ownBlock ≠ some g ∧ vt.ownBlock ≠ some g := fun g hg => by
    have h1 := (hoc.lt g hg).1
    refine ⟨fun e => ?_, fun e => ?_⟩
    · have := (HS1.out.oF.lt g e).2; omega
    · have := (HS1.out.oT.lt g e).2; omega
  go_loopg [11] F.length (fun gk q' wr => ∃ k : Nat, q' = .int .i64 k ∧ k ≤ F.length ∧ gk = F.length - k ∧ ∃ vf vt vo, St w0 wr ps mb (.slice A n c) (.slice A' n' c') vf vt vo (sameTo l m F T k).F (sameTo l m F T k).T (sameTo l m F T k).O f q ∧ wr.ownsRow w1.heap.size 3 1 (.slice AC F.length cC) F.length (ints F) ∧ Blk wr bs 95 #[.pointer (some ⟨ps, 0, none⟩)] ∧ ∀ g, (Value.slice AC F.length cC).ownBlock = some g → vf.ownBlock ≠ some g ∧ vt.ownBlock ≠ some g)
  case atStart => exact ⟨0, rfl, by omega, rfl, _, _, _, HS1.out.grows hg2, hoc, Blk.growsF hbx hg2, hdis0⟩
  case round =>
    obtain ⟨k, rfl, hk, hgk, vf1, vt1, vo1, hst, hoc, hbx, hdis⟩ := hrel
    have HG := Lib.hid hgk
    clear hgk hdis0 hg2 HS1
    have hinv := sameTo_inv (l := l) (m := m) (T := T) hA k hk
    by_cases hlt : k < F.length
    · obtain ⟨gC, cC', e, _, _⟩ := hoc.form (by omega)
      cases e
      have hFk := hF _ (gi_mem hlt)
      have hcc := own_cell hoc hlt
      obtain ⟨i, hi⟩ : ∃ i : Nat, gi F k = i := ⟨(gi F k).toNat, by omega⟩
      have HSS := Lib.hid (show sameTo l m F T (k + 1) = sameStep l m (sameTo l m F T k) i by rw [sameTo, hi])
      have hinF := hinv.inF k (Nat.le_refl _) hlt
      rw [hi] at hcc hFk hinF
      generalize sameTo l m F T k = S0 at hst HSS hinv hinF
      have k0 : (0 : Int) ≤ k := by omega
      have k1 : (k : Int) < F.length := by omega
      obtain ⟨AT, cT, rfl, _, _⟩ := own_form hst.oT
      obtain ⟨wq, hwq⟩ : ∃ wq, wq = wr.alloc (.cells #[.int .i64 (i : Int)] 3) := ⟨_, rfl⟩
      obtain ⟨bi, hbi⟩ : ∃ bi, bi = wr.heap.size := ⟨_, rfl⟩
      have hgq : Grows wr wq := by rw [hwq]; exact (Grows.refl wr).alloc _
      have hbiq : Blk wq bi 3 #[.int .i64 (i : Int)] := by rw [hwq, hbi]; exact Blk.new _ _ _
      have hxL := (hbx.alloc (.cells #[.int .i64 (i : Int)] 3)).cell 0
      have hpL := (hst.blk.alloc (.cells #[.int .i64 (i : Int)] 3)).cell 3
      simp only [List.getElem?_toArray, List.getElem?_cons_succ, List.getElem?_cons_zero] at hxL hpL
      have hgw := hst.gr.trans hgq
      have hIX := indexT_any w0 wq ps bs bi n n' c c' A A' l m _ _ _ _ _ i S0.T hgw.size ((Blk.growsF hbx hgq).cell 0) (hbiq.cell 0) (Blk.growsF hbx hgq).lt hbiq.lt (Blk.growsF hst.blk hgq) (hl.grows (Nat.le_refl _) hgw) (hm.grows (Nat.le_refl _) hgw) (by omega) (fun j hj => hT j (hinv.subT j hj)) (own_grows hst.oT hgq) (by have := hinv.lenT; omega)
      have HWQ := Lib.hid hwq
      have HBI := Lib.hid hbi
      have hgC := hdis gC rfl
      have HDIS := Lib.hid hdis
      clear hwq hbi hdis
      go_wp2_with fail
      rw [← HWQ.out, ← HBI.out]
      refine hIX.mono ?_
      rintro e w5 ⟨rfl, dq, rfl⟩
      clear hIX hxL hpL hcc
      rcases idxT_cases l m i S0.T with ⟨hr, hno⟩ | ⟨r, hr, hrl, hrw, hno⟩
      · rw [hr]
        have HS2 := Lib.hid (show sameTo l m F T (k + 1) = S0 by rw [HSS.out, sameStep, hr]; rfl)
        clear hno hr
        go_wp2_with fail
        go_roundg (F.length - (k + 1))
        case measure => rw [HG.out]; omega
        case rel => exact ⟨k + 1, by go_num, by omega, rfl, _, _, _, by rw [HS2.out]; exact (hst.grows hgq).grows ((Grows.refl wq).drewN dq), own_grows (own_grows hoc hgq) ((Grows.refl wq).drewN dq), (Blk.growsF hbx hgq).drewN dq, HDIS.out⟩
      · rw [hr]
        have HS2 := Lib.hid (show sameTo l m F T (k + 1) = S0.take i (gi S0.T r) by rw [HSS.out, sameStep, hr, if_neg (by omega)]; rfl)
        clear hno hr hrw
        have r0 : (0 : Int) ≤ r := by omega
        go_wp2_with fail
        have hst5 := (hst.grows hgq).grows ((Grows.refl wq).drewN dq)
        have hbx5 := (Blk.growsF hbx hgq).drewN dq
        have hbi5 := hbiq.drewN dq
        have hoc5 := own_grows (own_grows hoc hgq) ((Grows.refl wq).drewN dq)
        clear hst hbx hbiq hoc hgw hgq HWQ HBI
        generalize wq.drewN dq = w5 at hst5 hbx5 hbi5 hoc5 ⊢
        obtain ⟨gT, cT', e, hgT, _⟩ := hst5.oT.form (by omega)
        cases e
        have hct := own_cell hst5.oT hrl
        have hb5 := hst5.blk
        obtain ⟨S, hS⟩ : ∃ S : World → Prop, S = fun w' => Blk w' ps 100 #[.slice A n c, .slice A' n' c', vf1, .slice (some ⟨gT, 0, none⟩) S0.T.length cT, .map (some mb), vo1] ∧ Blk w' bs 95 #[.pointer (some ⟨ps, 0, none⟩)] ∧ Blk w' bi 3 #[.int .i64 (i : Int)] ∧ w'.cell? ⟨gT, r, none⟩ = some (.int .i64 (gi S0.T r)) := ⟨_, rfl⟩
        have hSb : ∀ s : SW S, Blk s.w ps 100 #[.slice A n c, .slice A' n' c', vf1, .slice (some ⟨gT, 0, none⟩) S0.T.length cT, .map (some mb), vo1] ∧ Blk s.w bs 95 #[.pointer (some ⟨ps, 0, none⟩)] ∧ Blk s.w bi 3 #[.int .i64 (i : Int)] ∧ s.w.cell? ⟨gT, r, none⟩ = some (.int .i64 (gi S0.T r)) := fun s => by
          have := s.ok
          subst hS
          exact this
        have hS1 : ∀ s : SW S, s.w.cell? ⟨ps, 3, none⟩ = some (.slice (some ⟨gT, 0, none⟩) S0.T.length cT) := fun s => (hSb s).1.cell 3
        have hS2 : ∀ s : SW S, s.w.cell? ⟨bs, 0, none⟩ = some (.pointer (some ⟨ps, 0, none⟩)) := fun s => (hSb s).2.1.cell 0
        have hS3 : ∀ s : SW S, s.w.cell? ⟨bi, 0, none⟩ = some (.int .i64 (i : Int)) := fun s => (hSb s).2.2.1.cell 0
        have hS4 : ∀ s : SW S, s.w.cell? ⟨gT, r, none⟩ = some (.int .i64 (gi S0.T r)) := fun s => (hSb s).2.2.2
        clear hSb
        have hS0 : S w5.drew := by rw [hS]; exact ⟨hb5.drew, hbx5.drew, hbi5.drew, hct⟩
        clear hS hct hb5 hbi5
        haveI : Nonempty (SW S) := ⟨⟨_, hS0⟩⟩
        have r1 : (r : Int) < S0.T.length := by omega
        refine wp_region_seq S [] [0, 1, 2, 3, 4, 5, 6, 7, 8, 9] [([], [10])] (by kernel_rfl) (fun _ _ _ _ _ h => h) (by kernel_rfl) hS0 ?_
        simp only [pickS, pickT, pickL, List.map_cons, List.map_nil, List.filterMap_cons, List.filterMap_nil, List.getElem?_cons_zero, List.getElem?_cons_succ]
        refine wpSeq_nil (wpRest_K fun K hK => ?_)
        repeat (show wpQuiet _ _ _ _ (_ :: _) _; go_big_quiet_step (fail))
        refine wpQuiet_nil (hK _ ?_)
        clear hK K
        refine wpSegs_consK fun K2 hK2 K hK => ?_
        refine wpQuiet_nil (hK _ ?_)
        clear hK K
        show wpList _ _ _ [_] _ _
        have htk := take_any w0 w5.drew ps mb _ _ _ _ _ _ _ _ f q (hst5.grows ((Grows.refl w5).drew)) i (gi S0.T r) (List.length_pos_of_mem hinF) (by omega) (by have := hinv.lenO; omega)
        clear hS1 hS2 hS3 hS4 hS0 this
        clear S
        have hne1 : ∀ g, (Value.slice (some ⟨gC, 0, none⟩) F.length cC).ownBlock = some g → g ≠ ps ∧ vf1.ownBlock ≠ some g ∧ (Value.slice (some ⟨gT, 0, none⟩) S0.T.length cT).ownBlock ≠ some g ∧ vo1.ownBlock ≠ some g := fun g hg => by
          refine ⟨fun e => own_blk_ne hoc5 hst5.blk (by decide) (by rw [hg, e]), (HDIS.out g hg).1, (HDIS.out g hg).2, fun e => ?_⟩
          rcases own_own_ne hoc5 hst5.oO (by decide) with h | h
          · rw [h] at hg; cases hg
          · exact h (by rw [hg, e])
        have hne2 : bs ≠ ps ∧ vf1.ownBlock ≠ some bs ∧ (Value.slice (some ⟨gT, 0, none⟩) S0.T.length cT).ownBlock ≠ some bs ∧ vo1.ownBlock ≠ some bs :=
          ⟨Blk.ne_ hbx5 hst5.blk (by decide), own_blk_ne hst5.oF hbx5 (by decide), own_blk_ne hst5.oT hbx5 (by decide), own_blk_ne hst5.oO hbx5 (by decide)⟩
        go_wp2_with fail
        refine htk.mono ?_
        rintro e w6 ⟨rfl, vf2, vt2, vo2, hst6, e1, e2, hk6⟩
        have hoc6 := own_kept hoc5.drew hk6 hne1
        have hbx6 := blk_kept hbx5.drew hk6 hne2
        clear htk
        go_wp2_with fail
        refine hK2.out _ _ (wpSegs_nil ?_)
        clear hK2 K2
        go_wp2_with fail
        go_roundg (F.length - (k + 1))
        case measure => rw [HG.out]; omega
        case rel => exact ⟨k + 1, by go_num, by omega, rfl, _, _, _, by rw [HS2.out]; exact hst6, hoc6, hbx6, fun g hg => ⟨by rw [e1]; exact (HDIS.out g hg).1, by rw [e2]; exact (HDIS.out g hg).2⟩⟩
    · have hkn : k = F.length := by omega
      have k1 : ¬ ((k : Int) < F.length) := by omega
      rw [hkn] at hst
      go_wp2_with fail
      go_end0
      exact ⟨rfl, _, _, _, hst⟩
end Go.Proofs.YtakgddochbcjbaaDoor
namespace Go.Proofs.YtakgddochbcjbaaDoor
open Go.RowKit Go.Deep Go.MapKept Go.Shelf

def stepJ (f : Int × Int → Option Int) (i : Int) (b : (Int × Int) × Int) (j : Int) : (Int × Int) × Int := if b.2 < (f (i, j)).getD 0 then ((i, j), (f (i, j)).getD 0) else b
def rowTo (f : Int × Int → Option Int) (i : Int) (T : List Int) (b : (Int × Int) × Int) : Nat → (Int × Int) × Int
  | 0 => b
  | k + 1 => stepJ f i (rowTo f i T b k) (gi T k)
def bestTo (f : Int × Int → Option Int) (F T : List Int) : Nat → (Int × Int) × Int
  | 0 => ((0, 0), 49)
  | k + 1 => rowTo f (gi F k) T (bestTo f F T k) T.length
def bestOf (f : Int × Int → Option Int) (F T : List Int) : (Int × Int) × Int := bestTo f F T F.length

theorem set_two {w w0 : World} {g : Nat} {t : TypeId} {a0 a1 : Value} (hb : Blk w g t #[a0, a1]) (hg : Grows w0 w) (hge : w0.heap.size ≤ g) (u0 u1 : Value) :
    Blk ((w.setCell ⟨g, 0, none⟩ u0).setCell ⟨g, 1, none⟩ u1) g t #[u0, u1] ∧ Grows w0 ((w.setCell ⟨g, 0, none⟩ u0).setCell ⟨g, 1, none⟩ u1) := by
  obtain ⟨a, b⟩ := set_one (i := 0) hb hg hge u0
  obtain ⟨a', b'⟩ := set_one (i := 1) a b hge u1
  exact ⟨a', b'⟩
set_option maxRecDepth 100000 in
set_option maxHeartbeats 2000000 in
theorem best_any (w0 w : World) (ps mb : Nat) (va vb vf vt vo : Value) (F T : List Int) (O : List (Int × Int)) (f : Int × Int → Option Int) (q : Nat) (h : St w0 w ps mb va vb vf vt vo F T O f q) (hF : ∀ x ∈ F, ok64 x) (hT : ∀ x ∈ T, ok64 x) (hFl : F.length ≤ 1000) (hTl : T.length ≤ 1000) :
    Calls Tryd.prog 101 #[.pointer (some ⟨ps, 0, none⟩)] w fun e w' => e = .returned (.tuple #[.agg #[.int .i64 (bestOf f F T).1.1, .int .i64 (bestOf f F T).1.2], .bool (decide (50 ≤ (bestOf f F T).2))]) ∧ Grows w w' := by
  obtain ⟨br, hbr⟩ : ∃ br, br = w.heap.size := ⟨_, rfl⟩
  obtain ⟨bb, hbb⟩ : ∃ bb, bb = w.heap.size + 1 := ⟨_, rfl⟩
  obtain ⟨w1, hw1⟩ : ∃ w1, w1 = (w.alloc (.cells #[.int .i64 0, .int .i64 0] 103)).alloc (.cells #[.int .i64 0, .int .i64 0] 103) := ⟨_, rfl⟩
  have hg1 : Grows w w1 := by rw [hw1]; exact ((Grows.refl w).alloc _).alloc _
  have hR1 : Blk w1 br 103 #[.int .i64 0, .int .i64 0] := by rw [hw1, hbr]; exact (Blk.new _ _ _).alloc _
  have hB1 : Blk w1 bb 103 #[.int .i64 0, .int .i64 0] := by
    have := Blk.new (w.alloc (.cells #[.int .i64 0, .int .i64 0] 103)) 103 #[.int .i64 0, .int .i64 0]
    rw [hw1, hbb]
    simpa using this
  have hge1 : w.heap.size ≤ br := by omega
  have hge2 : w.heap.size ≤ bb := by omega
  have hnb : br ≠ bb := by omega
  have HW1 := Lib.hid hw1
  have HBR := Lib.hid hbr
  have HBB := Lib.hid hbb
  have hpL := ((h.blk.alloc (.cells #[.int .i64 0, .int .i64 0] 103)).alloc (.cells #[.int .i64 0, .int .i64 0] 103)).cell 2
  obtain ⟨AF, cF, rfl, _, _⟩ := own_form h.oF
  obtain ⟨AT, cT, rfl, _, _⟩ := own_form h.oT
  simp only [List.getElem?_toArray, List.getElem?_cons_succ, List.getElem?_cons_zero] at hpL
  have HS := Lib.hid h
  clear hw1 hbr hbb h
  go_enter Tryd.func101, Tryd.ntmps101
  go_wp2_with fail
  rw [← HW1.out, ← HBB.out, ← HBR.out]
  clear HW1 HBB HBR hpL
  go_loopg [17, 5] F.length (fun gk q' mv wr => ∃ k : Nat, q' = .int .i64 k ∧ k ≤ F.length ∧ gk = F.length - k ∧ ∃ b, b = bestTo f F T k ∧ mv = .int .i64 b.2 ∧ Grows w wr ∧ Blk wr bb 103 #[.int .i64 b.1.1, .int .i64 b.1.2] ∧ Blk wr br 103 #[.int .i64 0, .int .i64 0])
  case atStart => exact ⟨0, rfl, by omega, rfl, _, rfl, rfl, hg1, hB1, hR1⟩
  case round =>
    obtain ⟨k, rfl, hk, hgk, b0, hb0, rfl, hgr, hbB, hbR⟩ := hrel
    have HG := Lib.hid hgk
    have HB0 := Lib.hid hb0
    clear hgk hb0 hg1 hB1 hR1
    by_cases hlt : k < F.length
    · have hst := HS.out.grows hgr
      obtain ⟨gF, cF', e, _, _⟩ := hst.oF.form (by omega)
      cases e
      have hcf := own_cell hst.oF hlt
      have hiF := hF _ (gi_mem hlt)
      have HNX := Lib.hid (show bestTo f F T (k + 1) = rowTo f (gi F k) T b0 T.length by rw [bestTo, HB0.out])
      generalize gi F k = i at hcf hiF HNX
      have hp3 := hst.blk.cell 3
      simp only [List.getElem?_toArray, List.getElem?_cons_succ, List.getElem?_cons_zero] at hp3
      have k0 : (0 : Int) ≤ k := by omega
      have k1 : (k : Int) < F.length := by omega
      clear hst
      go_wp2_with fail
      clear hcf hp3
      go_loopg [26, 5] T.length (fun gj q' mv wx => ∃ j : Nat, q' = .int .i64 j ∧ j ≤ T.length ∧ gj = T.length - j ∧ ∃ b, b = rowTo f i T b0 j ∧ mv = .int .i64 b.2 ∧ Grows w wx ∧ Blk wx bb 103 #[.int .i64 b.1.1, .int .i64 b.1.2] ∧ Blk wx br 103 #[.int .i64 0, .int .i64 0])
      case atStart => exact ⟨0, rfl, by omega, rfl, _, rfl, rfl, hgr, hbB, hbR⟩
      case round =>
        obtain ⟨j, rfl, hj, hgj, b, hb, rfl, hgx, hxB, hxR⟩ := hrel
        have HJ := Lib.hid hgj
        have HB := Lib.hid hb
        clear hgj hb hgr hbB hbR
        by_cases hjl : j < T.length
        · have hst := HS.out.grows hgx
          obtain ⟨gT, cT', e, _, _⟩ := hst.oT.form (by omega)
          cases e
          have hct := own_cell hst.oT hjl
          have hjT := hT _ (gi_mem hjl)
          have HNJ := Lib.hid (show rowTo f i T b0 (j + 1) = stepJ f i b (gi T j) by rw [rowTo, HB.out])
          generalize gi T j = x at hct hjT HNJ
          have hp4 := hst.blk.cell 4
          simp only [List.getElem?_toArray, List.getElem?_cons_succ, List.getElem?_cons_zero] at hp4
          have hmap := hst.map
          have j0 : (0 : Int) ≤ j := by omega
          have j1 : (j : Int) < T.length := by omega
          clear hst
          obtain ⟨v, hv⟩ : ∃ v, (f (i, x)).getD 0 = v := ⟨_, rfl⟩
          by_cases hgt : b.2 < v
          · have HN2 := Lib.hid (show rowTo f i T b0 (j + 1) = ((i, x), v) by rw [HNJ.out, stepJ, hv, if_pos hgt])
            have HV := Lib.hid hv
            clear hv
            have hf0 := hxB.frozen 0
            have hf1 := hxB.frozen 1
            have hc0 := hxB.cell 0
            have hc1 := hxB.cell 1
            simp only [List.getElem?_toArray, List.getElem?_cons_succ, List.getElem?_cons_zero] at hc0 hc1
            go_wp2_with (at_lookup; refine wpList_lookR rfl _ _ rfl mb q f rfl hmap i x rfl hiF hjT v HV.out ?_)
            obtain ⟨p1, p2⟩ := set_two hxB hgx hge2 (.int .i64 i) (.int .i64 x)
            have p3 := (hxR.far (p := ⟨bb, 0, none⟩) hnb (.int .i64 i)).far (p := ⟨bb, 1, none⟩) hnb (.int .i64 x)
            go_roundg (T.length - (j + 1))
            case measure => rw [HJ.out]; omega
            case rel => exact ⟨j + 1, by go_num, by omega, rfl, _, rfl, by rw [HN2.out], p2, by rw [HN2.out]; exact p1, p3⟩
          · have HN2 := Lib.hid (show rowTo f i T b0 (j + 1) = b by rw [HNJ.out, stepJ, hv, if_neg hgt])
            have HV := Lib.hid hv
            clear hv
            go_wp2_with (at_lookup; refine wpList_lookR rfl _ _ rfl mb q f rfl hmap i x rfl hiF hjT v HV.out ?_)
            go_roundg (T.length - (j + 1))
            case measure => rw [HJ.out]; omega
            case rel => exact ⟨j + 1, by go_num, by omega, rfl, _, rfl, by rw [HN2.out], hgx, by rw [HN2.out]; exact hxB, hxR⟩
        · have hjn : j = T.length := by omega
          have j1 : ¬ ((j : Int) < T.length) := by omega
          have HN3 := Lib.hid (show bestTo f F T (k + 1) = b by rw [HNX.out, HB.out, hjn])
          clear hjn
          go_wp2_with fail
          go_roundg (F.length - (k + 1))
          case measure => rw [HG.out]; omega
          case rel => exact ⟨k + 1, by go_num, by omega, rfl, _, rfl, by rw [HN3.out], hgx, by rw [HN3.out]; exact hxB, hxR⟩
    · have hkn : k = F.length := by omega
      have k1 : ¬ ((k : Int) < F.length) := by omega
      have HE := Lib.hid (show bestOf f F T = b0 by rw [bestOf, HB0.out, hkn])
      clear hkn
      have hc0 := hbB.cell 0
      have hc1 := hbB.cell 1
      have hd0 := hbR.cell 0
      have hd1 := hbR.cell 1
      have hf0 := hbR.frozen 0
      have hf1 := hbR.frozen 1
      simp only [List.getElem?_toArray, List.getElem?_cons_succ, List.getElem?_cons_zero] at hc0 hc1 hd0 hd1
      go_wp2_with fail
      obtain ⟨p1, p2⟩ := set_two hbR hgr hge1 (.int .i64 b0.1.1) (.int .i64 b0.1.2)
      clear hc0 hc1 hd0 hd1 hf0 hf1 hbB hbR
      generalize (wr.setCell ⟨br, 0, none⟩ (.int .i64 b0.1.1)).setCell ⟨br, 1, none⟩ (.int .i64 b0.1.2) = wf at p1 p2 ⊢
      have z0 := p1.cell 0
      have z1 := p1.cell 1
      simp only [List.getElem?_toArray, List.getElem?_cons_succ, List.getElem?_cons_zero] at z0 z1
      (try simp only [Exit.inBlock, Exit.then])
      refine bodyPost_ret (v := .tuple #[.agg #[.int .i64 b0.1.1, .int .i64 b0.1.2], .bool (decide (50 ≤ b0.2))]) ?_ rfl ⟨by rw [HE.out], p2⟩
      rw [results_cell_tmp rfl]
      go_simp
end Go.Proofs.YtakgddochbcjbaaDoor
