/- A line, put where it belongs: the walk of merge3.put. Written by gen_put.py. -/
import Derived.Test.YtakgddochbcjbaaDoorPkParseSt
namespace Go.Proofs.YtakgddochbcjbaaDoor
open Go.RowKit Go.Deep Go.MapKept

theorem Tryd.infoChunkM : (Tryd.prog.info? 36).map (fun i => (i.zero, i.size, i.bytes)) = some (some (.agg #[.int .i64 0, .slice none 0 0, .slice none 0 0, .slice none 0 0]), 4, 80) := by kernel_rfl
theorem reads_oneS (w : World) (s : ByteArray) (b : Nat) (hb : b = w.heap.size) : Reads (w.alloc (.cells #[.string s] 9)) (w.heap.size + 1) 1 (some ⟨b, 0, none⟩) 1 [.string s] := by
  subst hb
  exact ⟨rfl, fun _ => ⟨_, rfl, Nat.lt_succ_self _, cell_one_new w _ _⟩⟩
theorem one_cell (s : ByteArray) : ∀ u ∈ [Value.string s], u.oneCell' = true := by
  intro u hu
  rw [List.mem_singleton.1 hu]; rfl
theorem reads_chunk (w : World) (k : Int) : Reads (w.alloc (.cells #[.int .i64 k, .slice none 0 0, .slice none 0 0, .slice none 0 0] 36)) (w.heap.size + 1) 4 (some ⟨w.heap.size, 0, none⟩) 1 [.int .i64 k, .slice none 0 0, .slice none 0 0, .slice none 0 0] :=
  ⟨rfl, fun _ => ⟨_, rfl, Nat.lt_succ_self _, fun j u hu => by
    have e2 : Addr.add ⟨w.heap.size, 0, none⟩ j = ⟨w.heap.size, j, none⟩ := by unfold Addr.add; split <;> simp_all
    rw [e2, cell_of_row _ w.heap.size j _ _ _ (heap_alloc_new w _)]
    match j, hu with
    | 0, hu => simpa using hu
    | 1, hu => simpa using hu
    | 2, hu => simpa using hu
    | 3, hu => simpa using hu⟩⟩
theorem chunk_one (k : Int) : ∀ u ∈ [Value.int .i64 k, .slice none 0 0, .slice none 0 0, .slice none 0 0], u.oneCell' = true := by
  intro u hu
  simp only [List.mem_cons, List.not_mem_nil, or_false] at hu
  rcases hu with rfl | rfl | rfl | rfl <;> rfl
theorem below_alloc {B : Nat} {w w' : World} (hB : B ≤ w.heap.size) (o : Obj) (h : Below B (w.alloc o) w') : Below B w w' := Below.trans (Below.mono ((Grows.refl w).alloc o) hB) h
/-- a list of chunks of the call's own -/
def PS (w : World) (B : Nat) (v : Value) (l : List ChkB) : Prop := (l = [] ∧ v = .slice none 0 0) ∨ ∃ init c N g cap xs vb vo vt, l = init ++ [c] ∧ Last w B N v init c g cap xs vb vo vt
theorem alloc_le {N : Nat} {w : World} (h : N ≤ w.heap.size) (o : Obj) : N ≤ (w.alloc o).heap.size := Nat.le_trans h (by simp)
theorem le_maxLen {k : Nat} (h : k ≤ 1000000000) : k ≤ maxLen := by simp only [maxLen]; omega

set_option maxRecDepth 100000 in
set_option maxHeartbeats 2000000 in
theorem put_ours (B N g cap : Nat) (v : Value) (init : List ChkB) (c : ChkB) (xs : List Value) (vb vo vt : Value) (s : ByteArray) (w : World) (h : Last w B N v init c g cap xs vb vo vt) (hi : init.length ≤ 10000000) (hc : c.2.2.1.length ≤ 10000000) :
    Calls Tryd.prog 49 #[v, .int .i64 1, .string s] w fun e w' => ∃ v', e = .returned v' ∧ PS w' B v' (init ++ [addC 1 s c]) ∧ Below B w w' := by
  obtain ⟨s0, hs0, hs1, hs2, hs3⟩ := info_parts Tryd.infoStr
  have HL := Lib.hid h
  have hf := h.form
  subst hf
  have c2 := h.cell2
  obtain ⟨Ao, co, rfl, _, _⟩ := own_form h.ro
  have hN := h.size
  clear h
  go_enter Tryd.func49, Tryd.ntmps49
  go_wp2_with (at_builtin; refine wpList_append_any _ rfl (.tmp 44) (.tmp 46) _ rfl (N) 9 s0 _ 1 16 Tryd.underlying28 hs0 hs1 hs2 hs3 rfl (by decide) _ _ _ rfl (World.ownsRow.alloc (HL.out.ro) (.cells #[.string (s)] 9)) _ _ _ _ _ rfl (reads_oneS (w) (s) _ (by simp)) (one_cell _) (le_maxLen (by omega)) (by omega) (alloc_le (by assumption) _) ?_; intro v' w2 hown2 hgb2 hor2; obtain ⟨A2, c2', rfl, _, _⟩ := own_form hown2; obtain ⟨hfz, hcl⟩ := HL.out.mid2 ((Grows.refl w).alloc (.cells #[.string s] 9)) hgb2)
  go_ret
  obtain ⟨h1, h2⟩ := HL.out.put2 ((Grows.refl w).alloc (.cells #[.string s] 9)) hown2 hgb2 hor2
  exact ⟨_, rfl, .inr ⟨_, _, _, _, _, _, _, _, _, rfl, h1⟩, below_alloc (Nat.le_trans HL.out.le HL.out.size) _ h2⟩

set_option maxRecDepth 100000 in
set_option maxHeartbeats 2000000 in
theorem put_base (B N g cap : Nat) (v : Value) (init : List ChkB) (c : ChkB) (xs : List Value) (vb vo vt : Value) (s : ByteArray) (w : World) (h : Last w B N v init c g cap xs vb vo vt) (hi : init.length ≤ 10000000) (hc : c.2.1.length ≤ 10000000) :
    Calls Tryd.prog 49 #[v, .int .i64 2, .string s] w fun e w' => ∃ v', e = .returned v' ∧ PS w' B v' (init ++ [addC 2 s c]) ∧ Below B w w' := by
  obtain ⟨s0, hs0, hs1, hs2, hs3⟩ := info_parts Tryd.infoStr
  have HL := Lib.hid h
  have hf := h.form
  subst hf
  have c2 := h.cell1
  obtain ⟨Ao, co, rfl, _, _⟩ := own_form h.rb
  have hN := h.size
  clear h
  go_enter Tryd.func49, Tryd.ntmps49
  go_wp2_with (at_builtin; refine wpList_append_any _ rfl (.tmp 60) (.tmp 62) _ rfl (N) 9 s0 _ 1 16 Tryd.underlying28 hs0 hs1 hs2 hs3 rfl (by decide) _ _ _ rfl (World.ownsRow.alloc (HL.out.rb) (.cells #[.string (s)] 9)) _ _ _ _ _ rfl (reads_oneS (w) (s) _ (by simp)) (one_cell _) (le_maxLen (by omega)) (by omega) (alloc_le (by assumption) _) ?_; intro v' w2 hown2 hgb2 hor2; obtain ⟨A2, c2', rfl, _, _⟩ := own_form hown2; obtain ⟨hfz, hcl⟩ := HL.out.mid1 ((Grows.refl w).alloc (.cells #[.string s] 9)) hgb2)
  go_ret
  obtain ⟨h1, h2⟩ := HL.out.put1 ((Grows.refl w).alloc (.cells #[.string s] 9)) hown2 hgb2 hor2
  exact ⟨_, rfl, .inr ⟨_, _, _, _, _, _, _, _, _, rfl, h1⟩, below_alloc (Nat.le_trans HL.out.le HL.out.size) _ h2⟩

set_option maxRecDepth 100000 in
set_option maxHeartbeats 2000000 in
theorem put_theirs (B N g cap : Nat) (v : Value) (init : List ChkB) (c : ChkB) (xs : List Value) (vb vo vt : Value) (s : ByteArray) (w : World) (h : Last w B N v init c g cap xs vb vo vt) (hi : init.length ≤ 10000000) (hc : c.2.2.2.length ≤ 10000000) :
    Calls Tryd.prog 49 #[v, .int .i64 3, .string s] w fun e w' => ∃ v', e = .returned v' ∧ PS w' B v' (init ++ [addC 3 s c]) ∧ Below B w w' := by
  obtain ⟨s0, hs0, hs1, hs2, hs3⟩ := info_parts Tryd.infoStr
  have HL := Lib.hid h
  have hf := h.form
  subst hf
  have c2 := h.cell3
  obtain ⟨Ao, co, rfl, _, _⟩ := own_form h.rt
  have hN := h.size
  clear h
  go_enter Tryd.func49, Tryd.ntmps49
  go_wp2_with (at_builtin; refine wpList_append_any _ rfl (.tmp 76) (.tmp 78) _ rfl (N) 9 s0 _ 1 16 Tryd.underlying28 hs0 hs1 hs2 hs3 rfl (by decide) _ _ _ rfl (World.ownsRow.alloc (HL.out.rt) (.cells #[.string (s)] 9)) _ _ _ _ _ rfl (reads_oneS (w) (s) _ (by simp)) (one_cell _) (le_maxLen (by omega)) (by omega) (alloc_le (by assumption) _) ?_; intro v' w2 hown2 hgb2 hor2; obtain ⟨A2, c2', rfl, _, _⟩ := own_form hown2; obtain ⟨hfz, hcl⟩ := HL.out.mid3 ((Grows.refl w).alloc (.cells #[.string s] 9)) hgb2)
  go_ret
  obtain ⟨h1, h2⟩ := HL.out.put3 ((Grows.refl w).alloc (.cells #[.string s] 9)) hown2 hgb2 hor2
  exact ⟨_, rfl, .inr ⟨_, _, _, _, _, _, _, _, _, rfl, h1⟩, below_alloc (Nat.le_trans HL.out.le HL.out.size) _ h2⟩

set_option maxRecDepth 100000 in
set_option maxHeartbeats 4000000 in
theorem put_out_old (B N0 g cap : Nat) (v : Value) (init : List ChkB) (c : ChkB) (xs : List Value) (vb vo vt : Value) (s : ByteArray) (w : World) (h : Last w B N0 v init c g cap xs vb vo vt) (hi : init.length ≤ 10000000) (hcb : c.2.1.length ≤ 10000000) (hco : c.2.2.1.length ≤ 10000000) (hct : c.2.2.2.length ≤ 10000000) (hk : c.1 = 1) :
    Calls Tryd.prog 49 #[v, .int .i64 0, .string s] w fun e w' => ∃ v', e = .returned v' ∧ PS w' B v' (init ++ [addC 0 s c]) ∧ Below B w w' := by
  obtain ⟨s0, hs0, hs1, hs2, hs3⟩ := info_parts Tryd.infoStr
  have HL := Lib.hid h
  have hf := h.form
  subst hf
  have k0 := h.cell0
  rw [hk] at k0
  have k2 := h.cell2
  obtain ⟨Ao, co, rfl, _, _⟩ := own_form h.ro
  obtain ⟨Ab, cb, rfl, _, _⟩ := own_form h.rb
  obtain ⟨At, ct, rfl, _, _⟩ := own_form h.rt
  have hN := h.size
  have hr0 := Lib.hid (show w.ownsRow N0 9 1 (.slice Ao c.2.2.1.length co) c.2.2.1.length (strs c.2.2.1) from h.ro)
  have n0 : (((init.length : Int) + 1) == 0) = false := by rw [beq_eq_false_iff_ne]; omega
  clear h hk
  go_enter Tryd.func49, Tryd.ntmps49
  go_wp2_with (first
    | (at_builtin; refine wpList_append_any _ rfl (.tmp 44) (.tmp 46) _ rfl (N0) 9 s0 _ 1 16 Tryd.underlying28 hs0 hs1 hs2 hs3 rfl (by decide) _ _ _ rfl (World.ownsRow.alloc (hr0.out) (.cells #[.string (s)] 9)) _ _ _ _ _ rfl (reads_oneS (w) (s) _ (by simp)) (one_cell _) (le_maxLen (by omega)) (by omega) (alloc_le (by assumption) _) ?_; intro va wa howna hgba hora; obtain ⟨Aa, ca, rfl, _, _⟩ := own_form howna; obtain ⟨hfza, hcla⟩ := HL.out.mid2 ((Grows.refl _).alloc (.cells #[.string s] 9)) hgba; obtain ⟨hLa, hba⟩ := HL.out.put2 ((Grows.refl _).alloc (.cells #[.string s] 9)) howna hgba hora; have HLa := Lib.hid hLa; have Ba := Lib.hid hba; have ka := hLa.cell1; have za : N0 ≤ wa.heap.size := Nat.le_trans (Nat.le_trans hN (Grows.size ((Grows.refl _).alloc _))) hgba.size; have za2 := hLa.size; have hra := Lib.hid (show (wa.setCell ⟨g, init.length * 4 + 2, none⟩ (.slice Aa (c.2.2.1.length + 1) ca)).ownsRow N0 9 1 (.slice Ab c.2.1.length cb) c.2.1.length (strs c.2.1) from hLa.rb); clear hLa hba howna hgba hora)
    | (at_builtin; refine wpList_append_any _ rfl (.tmp 60) (.tmp 62) _ rfl (N0) 9 s0 _ 1 16 Tryd.underlying28 hs0 hs1 hs2 hs3 rfl (by decide) _ _ _ rfl (World.ownsRow.alloc (hra.out) (.cells #[.string (s)] 9)) _ _ _ _ _ rfl (reads_oneS ((wa.setCell ⟨g, init.length * 4 + 2, none⟩ (.slice Aa (c.2.2.1.length + 1) ca))) (s) _ (by simp)) (one_cell _) (le_maxLen (by omega)) (by omega) (alloc_le (by assumption) _) ?_; intro vb2 wb hownb hgbb horb; obtain ⟨Ab2, cb2, rfl, _, _⟩ := own_form hownb; obtain ⟨hfzb, hclb⟩ := HLa.out.mid1 ((Grows.refl _).alloc (.cells #[.string s] 9)) hgbb; obtain ⟨hLb, hbb⟩ := HLa.out.put1 ((Grows.refl _).alloc (.cells #[.string s] 9)) hownb hgbb horb; have HLb := Lib.hid hLb; have Bb := Lib.hid hbb; have kb := hLb.cell3; have zb : N0 ≤ wb.heap.size := Nat.le_trans (Nat.le_trans za2 (Grows.size ((Grows.refl _).alloc _))) hgbb.size; have zb2 := hLb.size; have hrb := Lib.hid (show (wb.setCell ⟨g, init.length * 4 + 1, none⟩ (.slice Ab2 (c.2.1.length + 1) cb2)).ownsRow N0 9 1 (.slice At c.2.2.2.length ct) c.2.2.2.length (strs c.2.2.2) from hLb.rt); clear hLb hbb hownb hgbb horb)
    | (at_builtin; refine wpList_append_any _ rfl (.tmp 76) (.tmp 78) _ rfl (N0) 9 s0 _ 1 16 Tryd.underlying28 hs0 hs1 hs2 hs3 rfl (by decide) _ _ _ rfl (World.ownsRow.alloc (hrb.out) (.cells #[.string (s)] 9)) _ _ _ _ _ rfl (reads_oneS ((wb.setCell ⟨g, init.length * 4 + 1, none⟩ (.slice Ab2 (c.2.1.length + 1) cb2))) (s) _ (by simp)) (one_cell _) (le_maxLen (by omega)) (by omega) (alloc_le (by assumption) _) ?_; intro vc wc hownc hgbc horc; obtain ⟨Ac, cc, rfl, _, _⟩ := own_form hownc; obtain ⟨hfzc, hclc⟩ := HLb.out.mid3 ((Grows.refl _).alloc (.cells #[.string s] 9)) hgbc; obtain ⟨hLc, hbc⟩ := HLb.out.put3 ((Grows.refl _).alloc (.cells #[.string s] 9)) hownc hgbc horc; have HLc := Lib.hid hLc; have Bc := Lib.hid hbc; clear hLc hbc hownc hgbc horc))
  go_ret
  have hB := Nat.le_trans HL.out.le HL.out.size
  exact ⟨_, rfl, .inr ⟨_, _, _, _, _, _, _, _, _, rfl, HLc.out⟩, below_alloc hB _ (Below.trans Ba.out (below_alloc (Nat.le_trans HLa.out.le HLa.out.size) _ (Below.trans Bb.out (below_alloc (Nat.le_trans HLb.out.le HLb.out.size) _ Bc.out))))⟩

set_option maxRecDepth 100000 in
set_option maxHeartbeats 4000000 in
theorem put_out_nil (B cap : Nat) (A : Option Addr) (l : List ChkB) (xs : List Value) (s : ByteArray) (w : World) (hown : w.ownsRow B 36 4 (.slice A l.length cap) l.length xs) (hp : Parts w l xs) (hBw : B ≤ w.heap.size) (hi : l.length ≤ 10000000) (h0 : l.length = 0) :
    Calls Tryd.prog 49 #[.slice A l.length cap, .int .i64 0, .string s] w fun e w' => ∃ v', e = .returned v' ∧ PS w' B v' (l ++ [addC 0 s (1, [], [], [])]) ∧ Below B w w' := by
  obtain ⟨s0, hs0, hs1, hs2, hs3⟩ := info_parts Tryd.infoStr
  obtain ⟨t1, hj0, hy0, hy1, hy2⟩ := info_parts Tryd.infoChunkM
  have HO := Lib.hid hown
  have HP := Lib.hid hp
  have n0 : ((l.length : Int) == 0) = true := by rw [h0]; rfl
  clear hown hp h0
  go_enter Tryd.func49, Tryd.ntmps49
  go_wp2_with (first
    | (at_builtin; refine wpList_append_any _ rfl (.tmp 25) (.tmp 27) _ rfl B 36 t1 _ 4 80 Tryd.underlying30 hj0 hy0 hy1 hy2 rfl (by decide) _ _ _ rfl (World.ownsRow.alloc HO.out (.cells #[.int .i64 1, .slice none 0 0, .slice none 0 0, .slice none 0 0] 36)) _ _ _ _ _ rfl (reads_chunk w 1) (chunk_one 1) (le_maxLen (by omega)) (by omega) (alloc_le hBw _) ?_; intro v2 w2 hown2 hgb2 hor2; have hBw2 : B ≤ w2.heap.size := Nat.le_trans (alloc_le hBw _) hgb2.size; obtain ⟨g2, cap2, hL2⟩ := Last.snoc (l := l) (kd := 1) (World.ownsRow.alloc HO.out (.cells #[.int .i64 1, .slice none 0 0, .slice none 0 0, .slice none 0 0] 36)) (Parts.mono (fun _ _ ho => OwnS.alloc ho _) HP.out) hBw2 hgb2 rfl hown2; have hf2 := hL2.form; subst hf2; have HL2 := Lib.hid hL2; have hr0 := Lib.hid (show w2.ownsRow w2.heap.size 9 1 (.slice none 0 0) 0 [] from hL2.ro); have k2 := hL2.cell2; have hbp := Lib.hid ((Below.refl B (w.alloc (.cells #[.int .i64 1, .slice none 0 0, .slice none 0 0, .slice none 0 0] 36))).grown hgb2 (alloc_le hBw _) (fun k hk => (World.ownsRow.lt HO.out k hk).1)); clear hown2 hgb2 hor2 hL2; obtain ⟨N0, hN0⟩ : ∃ N0, w2.heap.size = N0 := ⟨_, rfl⟩; have hN : N0 ≤ w2.heap.size := Nat.le_of_eq hN0.symm; rw [hN0] at HL2 hr0; clear hN0)
    | (at_builtin; refine wpList_append_any _ rfl (.tmp 44) (.tmp 46) _ rfl (N0) 9 s0 _ 1 16 Tryd.underlying28 hs0 hs1 hs2 hs3 rfl (by decide) _ _ _ rfl (World.ownsRow.alloc (hr0.out) (.cells #[.string (s)] 9)) _ _ _ _ _ rfl (reads_oneS (w2) (s) _ (by simp)) (one_cell _) (le_maxLen (by omega)) (by omega) (alloc_le (by assumption) _) ?_; intro va wa howna hgba hora; obtain ⟨Aa, ca, rfl, _, _⟩ := own_form howna; obtain ⟨hfza, hcla⟩ := HL2.out.mid2 ((Grows.refl _).alloc (.cells #[.string s] 9)) hgba; obtain ⟨hLa, hba⟩ := HL2.out.put2 ((Grows.refl _).alloc (.cells #[.string s] 9)) howna hgba hora; have HLa := Lib.hid hLa; have Ba := Lib.hid hba; have ka := hLa.cell1; have za : N0 ≤ wa.heap.size := Nat.le_trans (Nat.le_trans hN (Grows.size ((Grows.refl _).alloc _))) hgba.size; have za2 := hLa.size; have hra := Lib.hid (show (wa.setCell ⟨g2, l.length * 4 + 2, none⟩ (.slice Aa (0 + 1) ca)).ownsRow N0 9 1 (.slice none 0 0) 0 [] from hLa.rb); clear hLa hba howna hgba hora)
    | (at_builtin; refine wpList_append_any _ rfl (.tmp 60) (.tmp 62) _ rfl (N0) 9 s0 _ 1 16 Tryd.underlying28 hs0 hs1 hs2 hs3 rfl (by decide) _ _ _ rfl (World.ownsRow.alloc (hra.out) (.cells #[.string (s)] 9)) _ _ _ _ _ rfl (reads_oneS ((wa.setCell ⟨g2, l.length * 4 + 2, none⟩ (.slice Aa (0 + 1) ca))) (s) _ (by simp)) (one_cell _) (le_maxLen (by omega)) (by omega) (alloc_le (by assumption) _) ?_; intro vb2 wb hownb hgbb horb; obtain ⟨Ab2, cb2, rfl, _, _⟩ := own_form hownb; obtain ⟨hfzb, hclb⟩ := HLa.out.mid1 ((Grows.refl _).alloc (.cells #[.string s] 9)) hgbb; obtain ⟨hLb, hbb⟩ := HLa.out.put1 ((Grows.refl _).alloc (.cells #[.string s] 9)) hownb hgbb horb; have HLb := Lib.hid hLb; have Bb := Lib.hid hbb; have kb := hLb.cell3; have zb : N0 ≤ wb.heap.size := Nat.le_trans (Nat.le_trans za2 (Grows.size ((Grows.refl _).alloc _))) hgbb.size; have zb2 := hLb.size; have hrb := Lib.hid (show (wb.setCell ⟨g2, l.length * 4 + 1, none⟩ (.slice Ab2 (0 + 1) cb2)).ownsRow N0 9 1 (.slice none 0 0) 0 [] from hLb.rt); clear hLb hbb hownb hgbb horb)
    | (at_builtin; refine wpList_append_any _ rfl (.tmp 76) (.tmp 78) _ rfl (N0) 9 s0 _ 1 16 Tryd.underlying28 hs0 hs1 hs2 hs3 rfl (by decide) _ _ _ rfl (World.ownsRow.alloc (hrb.out) (.cells #[.string (s)] 9)) _ _ _ _ _ rfl (reads_oneS ((wb.setCell ⟨g2, l.length * 4 + 1, none⟩ (.slice Ab2 (0 + 1) cb2))) (s) _ (by simp)) (one_cell _) (le_maxLen (by omega)) (by omega) (alloc_le (by assumption) _) ?_; intro vc wc hownc hgbc horc; obtain ⟨Ac, cc, rfl, _, _⟩ := own_form hownc; obtain ⟨hfzc, hclc⟩ := HLb.out.mid3 ((Grows.refl _).alloc (.cells #[.string s] 9)) hgbc; obtain ⟨hLc, hbc⟩ := HLb.out.put3 ((Grows.refl _).alloc (.cells #[.string s] 9)) hownc hgbc horc; have HLc := Lib.hid hLc; have Bc := Lib.hid hbc; clear hLc hbc hownc hgbc horc))
  go_ret
  exact ⟨_, rfl, .inr ⟨_, _, _, _, _, _, _, _, _, rfl, HLc.out⟩, below_alloc hBw _ (Below.trans hbp.out (below_alloc (Nat.le_trans HL2.out.le HL2.out.size) _ (Below.trans Ba.out (below_alloc (Nat.le_trans HLa.out.le HLa.out.size) _ (Below.trans Bb.out (below_alloc (Nat.le_trans HLb.out.le HLb.out.size) _ Bc.out))))))⟩

set_option maxRecDepth 100000 in
set_option maxHeartbeats 4000000 in
theorem put_out_new (B g cap m : Nat) (k : Int) (l : List ChkB) (xs : List Value) (s : ByteArray) (w : World) (hown : w.ownsRow B 36 4 (.slice (some ⟨g, 0, none⟩) l.length cap) l.length xs) (hp : Parts w l xs) (hBw : B ≤ w.heap.size) (hi : l.length ≤ 10000000) (hm : l.length = m + 1) (k0 : w.cell? ⟨g, m * 4, none⟩ = some (.int .i64 k)) (hk : k ≠ 1) :
    Calls Tryd.prog 49 #[.slice (some ⟨g, 0, none⟩) l.length cap, .int .i64 0, .string s] w fun e w' => ∃ v', e = .returned v' ∧ PS w' B v' (l ++ [addC 0 s (1, [], [], [])]) ∧ Below B w w' := by
  obtain ⟨s0, hs0, hs1, hs2, hs3⟩ := info_parts Tryd.infoStr
  obtain ⟨t1, hj0, hy0, hy1, hy2⟩ := info_parts Tryd.infoChunkM
  have HO := Lib.hid hown
  have HP := Lib.hid hp
  have n0 : ((l.length : Int) == 0) = false := by rw [beq_eq_false_iff_ne]; omega
  have n1 : ((l.length : Int) - 1) = m := by omega
  have n2 : (0 : Int) ≤ m := by omega
  have n3 : (m : Int) < l.length := by omega
  have hk1 : (k != 1) = true := by simp [hk]
  clear hown hp hk hm
  go_enter Tryd.func49, Tryd.ntmps49
  go_wp2_with (first
    | (at_builtin; refine wpList_append_any _ rfl (.tmp 25) (.tmp 27) _ rfl B 36 t1 _ 4 80 Tryd.underlying30 hj0 hy0 hy1 hy2 rfl (by decide) _ _ _ rfl (World.ownsRow.alloc HO.out (.cells #[.int .i64 1, .slice none 0 0, .slice none 0 0, .slice none 0 0] 36)) _ _ _ _ _ rfl (reads_chunk w 1) (chunk_one 1) (le_maxLen (by omega)) (by omega) (alloc_le hBw _) ?_; intro v2 w2 hown2 hgb2 hor2; have hBw2 : B ≤ w2.heap.size := Nat.le_trans (alloc_le hBw _) hgb2.size; obtain ⟨g2, cap2, hL2⟩ := Last.snoc (l := l) (kd := 1) (World.ownsRow.alloc HO.out (.cells #[.int .i64 1, .slice none 0 0, .slice none 0 0, .slice none 0 0] 36)) (Parts.mono (fun _ _ ho => OwnS.alloc ho _) HP.out) hBw2 hgb2 rfl hown2; have hf2 := hL2.form; subst hf2; have HL2 := Lib.hid hL2; have hr0 := Lib.hid (show w2.ownsRow w2.heap.size 9 1 (.slice none 0 0) 0 [] from hL2.ro); have k2 := hL2.cell2; have hbp := Lib.hid ((Below.refl B (w.alloc (.cells #[.int .i64 1, .slice none 0 0, .slice none 0 0, .slice none 0 0] 36))).grown hgb2 (alloc_le hBw _) (fun k hk => (World.ownsRow.lt HO.out k hk).1)); clear hown2 hgb2 hor2 hL2; obtain ⟨N0, hN0⟩ : ∃ N0, w2.heap.size = N0 := ⟨_, rfl⟩; have hN : N0 ≤ w2.heap.size := Nat.le_of_eq hN0.symm; rw [hN0] at HL2 hr0; clear hN0)
    | (at_builtin; refine wpList_append_any _ rfl (.tmp 44) (.tmp 46) _ rfl (N0) 9 s0 _ 1 16 Tryd.underlying28 hs0 hs1 hs2 hs3 rfl (by decide) _ _ _ rfl (World.ownsRow.alloc (hr0.out) (.cells #[.string (s)] 9)) _ _ _ _ _ rfl (reads_oneS (w2) (s) _ (by simp)) (one_cell _) (le_maxLen (by omega)) (by omega) (alloc_le (by assumption) _) ?_; intro va wa howna hgba hora; obtain ⟨Aa, ca, rfl, _, _⟩ := own_form howna; obtain ⟨hfza, hcla⟩ := HL2.out.mid2 ((Grows.refl _).alloc (.cells #[.string s] 9)) hgba; obtain ⟨hLa, hba⟩ := HL2.out.put2 ((Grows.refl _).alloc (.cells #[.string s] 9)) howna hgba hora; have HLa := Lib.hid hLa; have Ba := Lib.hid hba; have ka := hLa.cell1; have za : N0 ≤ wa.heap.size := Nat.le_trans (Nat.le_trans hN (Grows.size ((Grows.refl _).alloc _))) hgba.size; have za2 := hLa.size; have hra := Lib.hid (show (wa.setCell ⟨g2, l.length * 4 + 2, none⟩ (.slice Aa (0 + 1) ca)).ownsRow N0 9 1 (.slice none 0 0) 0 [] from hLa.rb); clear hLa hba howna hgba hora)
    | (at_builtin; refine wpList_append_any _ rfl (.tmp 60) (.tmp 62) _ rfl (N0) 9 s0 _ 1 16 Tryd.underlying28 hs0 hs1 hs2 hs3 rfl (by decide) _ _ _ rfl (World.ownsRow.alloc (hra.out) (.cells #[.string (s)] 9)) _ _ _ _ _ rfl (reads_oneS ((wa.setCell ⟨g2, l.length * 4 + 2, none⟩ (.slice Aa (0 + 1) ca))) (s) _ (by simp)) (one_cell _) (le_maxLen (by omega)) (by omega) (alloc_le (by assumption) _) ?_; intro vb2 wb hownb hgbb horb; obtain ⟨Ab2, cb2, rfl, _, _⟩ := own_form hownb; obtain ⟨hfzb, hclb⟩ := HLa.out.mid1 ((Grows.refl _).alloc (.cells #[.string s] 9)) hgbb; obtain ⟨hLb, hbb⟩ := HLa.out.put1 ((Grows.refl _).alloc (.cells #[.string s] 9)) hownb hgbb horb; have HLb := Lib.hid hLb; have Bb := Lib.hid hbb; have kb := hLb.cell3; have zb : N0 ≤ wb.heap.size := Nat.le_trans (Nat.le_trans za2 (Grows.size ((Grows.refl _).alloc _))) hgbb.size; have zb2 := hLb.size; have hrb := Lib.hid (show (wb.setCell ⟨g2, l.length * 4 + 1, none⟩ (.slice Ab2 (0 + 1) cb2)).ownsRow N0 9 1 (.slice none 0 0) 0 [] from hLb.rt); clear hLb hbb hownb hgbb horb)
    | (at_builtin; refine wpList_append_any _ rfl (.tmp 76) (.tmp 78) _ rfl (N0) 9 s0 _ 1 16 Tryd.underlying28 hs0 hs1 hs2 hs3 rfl (by decide) _ _ _ rfl (World.ownsRow.alloc (hrb.out) (.cells #[.string (s)] 9)) _ _ _ _ _ rfl (reads_oneS ((wb.setCell ⟨g2, l.length * 4 + 1, none⟩ (.slice Ab2 (0 + 1) cb2))) (s) _ (by simp)) (one_cell _) (le_maxLen (by omega)) (by omega) (alloc_le (by assumption) _) ?_; intro vc wc hownc hgbc horc; obtain ⟨Ac, cc, rfl, _, _⟩ := own_form hownc; obtain ⟨hfzc, hclc⟩ := HLb.out.mid3 ((Grows.refl _).alloc (.cells #[.string s] 9)) hgbc; obtain ⟨hLc, hbc⟩ := HLb.out.put3 ((Grows.refl _).alloc (.cells #[.string s] 9)) hownc hgbc horc; have HLc := Lib.hid hLc; have Bc := Lib.hid hbc; clear hLc hbc hownc hgbc horc))
  go_ret
  exact ⟨_, rfl, .inr ⟨_, _, _, _, _, _, _, _, _, rfl, HLc.out⟩, below_alloc hBw _ (Below.trans hbp.out (below_alloc (Nat.le_trans HL2.out.le HL2.out.size) _ (Below.trans Ba.out (below_alloc (Nat.le_trans HLa.out.le HLa.out.size) _ (Below.trans Bb.out (below_alloc (Nat.le_trans HLb.out.le HLb.out.size) _ Bc.out))))))⟩
end Go.Proofs.YtakgddochbcjbaaDoor
