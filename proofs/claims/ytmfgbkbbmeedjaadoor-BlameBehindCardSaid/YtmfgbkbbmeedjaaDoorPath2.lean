/- Names of files: Parts and Right of the program; the document's Parts, Path, Within, Clash. -/
import Derived.Test.YtmfgbkbbmeedjaaDoorPath
import Derived.Lib.SplitLaws
namespace Go.Proofs.YtmfgbkbbmeedjaaDoor
open Go.RowKit Go.Deep Go.MapKept

/-- the library's own variable holds some number -/
def MaxL (w : World) : Prop := ∃ m, w.cell? ⟨0, 0, none⟩ = some (.int .i64 m)
theorem MaxL.pos {w : World} (h : MaxL w) : 0 < w.heap.size := by
  obtain ⟨m, hm⟩ := h
  rcases Nat.eq_zero_or_pos w.heap.size with h0 | h0
  · exfalso
    simp only [World.cell?] at hm
    rw [Array.getElem?_eq_none (by omega)] at hm
    cases hm
  · exact h0
theorem MaxL.grows {w w' : World} (h : MaxL w) (hg : Grows w w') : MaxL w' := by
  have hp := h.pos
  obtain ⟨m, hm⟩ := h
  exact ⟨m, (Below.cell hg (by exact hp)).trans hm⟩
theorem MaxL.drewN {w : World} (h : MaxL w) (n : Nat) : MaxL (w.drewN n) := h
theorem MaxL.drew {w : World} (h : MaxL w) : MaxL w.drew := h
theorem MaxL.alloc {w : World} (h : MaxL w) (o : Obj) : MaxL (w.alloc o) := h.grows ((Grows.refl w).alloc o)

theorem count_one (c : UInt8) : ∀ l : List UInt8, Lib.count l [c] = l.count c :=
  sp_ind (M := fun l => Lib.count l [c] = l.count c) (fun l h => by rw [Lib.count_miss (index_no h), List.count_eq_zero_of_not_mem h]) (fun u v h ih => by
    rw [Lib.count_hit (by simp) (index_at h)]
    have e : (u ++ c :: v).drop (u.length + [c].length) = v := by
      rw [show (u.length + [c].length) = (u ++ [c]).length by simp, show u ++ c :: v = (u ++ [c]) ++ v by simp, List.drop_left' rfl]
    rw [e, ih, List.count_append, List.count_eq_zero_of_not_mem h, List.count_cons_self]
    omega)
theorem countB_one (s : ByteArray) (c : UInt8) : Lib.countB s ⟨#[c]⟩ = s.data.toList.count c := count_one c _
theorem sp_len (c : UInt8) (save : Nat) : ∀ l : List UInt8, (sp c save l).length = l.count c + 1 :=
  sp_ind (M := fun l => (sp c save l).length = l.count c + 1) (fun l h => by rw [sp_no h, List.count_eq_zero_of_not_mem h]; rfl) (fun u v h ih => by
    rw [sp_at h, List.length_cons, ih, List.count_append, List.count_eq_zero_of_not_mem h, List.count_cons_self]
    omega)
theorem pieces_len (c : UInt8) (save : Nat) (s : ByteArray) : (pieces c save s).length = s.data.toList.count c + 1 := by rw [pieces, List.length_map, sp_len]
theorem count_size (c : UInt8) (s : ByteArray) : s.data.toList.count c ≤ s.size := by
  have h := List.count_le_length (a := c) (l := s.data.toList)
  rw [Array.length_toList] at h
  exact h

theorem Reads.newRow (w : World) (t : TypeId) (vs : List Value) (fz : Nat × Nat) : Reads (w.alloc (.cells vs.toArray t fz)) (w.heap.size + 1) 1 (some ⟨w.heap.size, 0, none⟩) vs.length vs := by
  refine ⟨by omega, fun _ => ⟨_, rfl, Nat.lt_succ_self _, fun j u hu => ?_⟩⟩
  have had : Addr.add ⟨w.heap.size, 0, none⟩ j = ⟨w.heap.size, j, none⟩ := by unfold Addr.add; split <;> simp_all
  rw [had, cell_of_row _ _ _ _ _ _ (heap_alloc_new w _)]
  simpa using hu

/-- a fresh row of pieces, and the world behind -/
def RowOf (w w' : World) (v : Value) (xs : List ByteArray) : Prop := ∃ A c, v = .slice A xs.length c ∧ xs.length ≤ c ∧ c ≤ 1000000000000 ∧ Reads w' w'.heap.size 1 A xs.length (strs xs) ∧ Grows w w'
theorem parts_any (p : ByteArray) (w : World) (hm : MaxL w) (hs : p.size < 4294967281) :
    Calls Tryd.prog 16 #[.string p] w fun e w' => ∃ v, e = .returned v ∧ RowOf w w' v (pieces 47 0 p) := by
  obtain ⟨m, hm⟩ := hm
  have hc := Lib.hid (count_size 47 p)
  have hl := Lib.hid (pieces_len 47 0 p)
  have he := Lib.hid (pieces_shelf 47 0 (Lib.countB p ⟨#[47]⟩) p (Nat.le_of_eq (countB_one p 47).symm))
  have hcn := Lib.hid (countB_one p 47)
  go_enter Tryd.func16, Tryd.ntmps16
  go_wp2_with fail
  refine (Tryd.strings_Split p ⟨#[47]⟩ m w hs hm (by decide)).mono ?_
  rintro e w' ⟨rfl, rfl⟩
  rw [he.out, hcn.out, ← hl.out]
  go_wp2_with fail
  go_ret
  refine ⟨_, rfl, _, _, rfl, Nat.le_refl _, by rw [hl.out]; have := hc.out; omega, ?_, (Grows.refl w).alloc _⟩
  have := Reads.newRow w 9 (strs (pieces 47 0 p)) (0, 0)
  rw [strs_len] at this
  exact this.more (by simp)

theorem Reads.bytesRow_ (w : World) (s : ByteArray) (t : TypeId) (cap : Nat) (fz : Nat × Nat) : Reads (w.alloc (.cells (bytesRow s cap) t fz)) (w.alloc (.cells (bytesRow s cap) t fz)).heap.size 1 (some ⟨w.heap.size, 0, none⟩) s.size (byteV s.data.toList) := by
  refine ⟨by rw [byteV, List.length_map, Array.length_toList, Nat.mul_one]; rfl, fun _ => ⟨_, rfl, by simp, fun j u hu => ?_⟩⟩
  have had : Addr.add ⟨w.heap.size, 0, none⟩ j = ⟨w.heap.size, j, none⟩ := by unfold Addr.add; split <;> simp_all
  have hj : j < s.data.size := by
    have := (List.getElem?_eq_some_iff.1 hu).1
    simpa [byteV] using this
  rw [had, cell_of_row _ _ _ _ _ _ (heap_alloc_new w _)]
  rw [bytesRow, Array.getElem?_append_left (by simpa using hj)]
  simpa [byteV] using hu

set_option maxRecDepth 100000 in
set_option maxHeartbeats 1000000 in
theorem right_any (p : ByteArray) (w : World) (hm : MaxL w) :
    Calls Tryd.prog 15 #[.string p] w fun e w' => e = .returned (.bool (rightP p)) ∧ Grows w w' := by
  have hf := Lib.hid (show rightP p = (decide (1 ≤ p.size ∧ p.size ≤ 100) && (!p.data.toList.any badB && !(pieces 47 0 p).any badS)) from rfl)
  by_cases h0 : p.size = 0
  · have k0 : (p.size : Int) = 0 := by omega
    go_enter Tryd.func15, Tryd.ntmps15
    go_wp2_with fail
    go_ret
    exact ⟨ret_bool (by rw [hf.out]; simp [h0]), Grows.refl _⟩
  · have k0 : ¬ ((p.size : Int) = 0) := by omega
    by_cases h1 : 100 < p.size
    · have k1 : (p.size : Int) > 100 := by omega
      go_enter Tryd.func15, Tryd.ntmps15
      go_wp2_with fail
      go_ret
      have hd : decide (1 ≤ p.size ∧ p.size ≤ 100) = false := decide_eq_false (by omega)
      exact ⟨ret_bool (by rw [hf.out, hd]; rfl), Grows.refl _⟩
    · have k1 : ¬ ((p.size : Int) > 100) := by omega
      have hd := Lib.hid (show decide (1 ≤ p.size ∧ p.size ≤ 100) = true by simp; omega)
      obtain ⟨cap, hcap⟩ : ∃ cap, grownCap w p.size 0 5 = cap := ⟨_, rfl⟩
      have hconv := run_bytes_of_string (P := Tryd.prog) w 9 29 5 p Tryd.underlying9 Tryd.underlying29 Tryd.underlying5
      rw [hcap] at hconv
      obtain ⟨fz, hfz⟩ : ∃ fz : Nat × Nat, ((bytesRow p cap).size, (bytesRow p cap).size + 1) = fz := ⟨_, rfl⟩
      rw [hfz] at hconv
      have hg1 : Grows w (w.drew.alloc (.cells (bytesRow p cap) 5 fz)) := (Grows.refl w).drew.alloc _
      have hr1 := Lib.hid (Reads.bytesRow_ w.drew p 5 cap fz)
      obtain ⟨w1, hw1⟩ : ∃ w1, w.drew.alloc (.cells (bytesRow p cap) 5 fz) = w1 := ⟨_, rfl⟩
      rw [hw1] at hconv hg1 hr1
      clear hw1 hfz hcap
      have hm1 := Lib.hid (hm.grows hg1)
      have HG1 := Lib.hid hg1
      clear hg1 hm
      go_enter Tryd.func15, Tryd.ntmps15
      go_wp2_with fail
      refine (containsB_any w1.heap.size _ p.size cap p.data.toList w1 hr1.out (by omega)).mono ?_
      rintro e w' ⟨rfl, rfl⟩
      cases hb : p.data.toList.any badB with
      | true =>
        have hf2 := Lib.hid (show rightP p = false by rw [hf.out, hd.out, hb]; rfl)
        go_wp2_with fail
        go_ret
        exact ⟨ret_bool hf2.out.symm, HG1.out⟩
      | false =>
        have hf2 := Lib.hid (show rightP p = !(pieces 47 0 p).any badS by rw [hf.out, hd.out, hb]; rfl)
        have hcnt := Lib.hid (show (pieces 47 0 p).length ≤ 1000 by rw [pieces_len]; have := count_size 47 p; omega)
        go_wp2_with fail
        refine (parts_any p w1 hm1.out (by omega)).mono ?_
        rintro e w2 ⟨v, rfl, A, c, rfl, _, _, hr2, hg2⟩
        have HR := Lib.hid hr2
        have HG2 := Lib.hid (HG1.out.trans hg2)
        clear hr2 hg2
        go_wp2_with fail
        refine (containsS_any _ A _ c _ w2 HR.out (Nat.le_trans hcnt.out (by decide))).mono ?_
        rintro e w' ⟨rfl, rfl⟩
        go_wp2_with fail
        go_ret
        exact ⟨ret_bool hf2.out.symm, HG2.out⟩
end Go.Proofs.YtmfgbkbbmeedjaaDoor
