/- Three lists, piece by piece: the document's way, in plain Lean. -/
import Derived.Test.YtakgddochbcjbaaDoorPlaces
namespace Go.Proofs.YtakgddochbcjbaaDoor

section
variable {α : Type} [DecidableEq α]
/-- where line i of the one list stands in the other one; -1 -/
def at3 (a b : List α) (i : Nat) : Int := (plc (scr a b) 0).getD i (-1)
def Cut (s : List (Int × α)) (p o : Nat) : Prop := ∃ q, CutAt s q p o
theorem plc_size (a b : List α) : (plc (scr a b) 0).length = a.length := by rw [plc_len (scr_kinds a b), scr_old]
theorem at3_get {a b : List α} {i : Nat} (h : i < a.length) : (plc (scr a b) 0)[i]? = some (at3 a b i) := by
  unfold at3
  rw [List.getD_eq_getElem?_getD, List.getElem?_eq_getElem (by rw [plc_size]; exact h)]
  rfl
theorem at3_out {a b : List α} {i : Nat} (h : a.length ≤ i) : at3 a b i = -1 := by
  unfold at3
  rw [List.getD_eq_getElem?_getD, List.getElem?_eq_none (by rw [plc_size]; exact h)]
  rfl
theorem at3_in {a b : List α} {i : Nat} (h : 0 ≤ at3 a b i) : i < a.length := by
  rcases Nat.lt_or_ge i a.length with h1 | h1
  · exact h1
  · rw [at3_out h1] at h; omega
theorem at3_ge (a b : List α) (i : Nat) : -1 ≤ at3 a b i := by
  rcases Nat.lt_or_ge i a.length with h1 | h1
  · exact plc_neg (scr_kinds a b) (at3_get h1)
  · rw [at3_out h1]; omega
theorem at3_cut {a b : List α} {i j : Nat} (h : at3 a b i = j) : ∃ q, CutAt (scr a b) q i j ∧ CutAt (scr a b) (q + 1) (i + 1) (j + 1) := by
  have hi : i < a.length := at3_in (b := b) (by omega)
  obtain ⟨q, x, _, h1, h2⟩ := cut_keep (scr_kinds a b) (by rw [at3_get hi, h])
  exact ⟨q, h1, h2⟩
theorem cut_sides {a b : List α} {q p o : Nat} (h : CutAt (scr a b) q p o) : side 2 ((scr a b).take q) = a.take p ∧ side 3 ((scr a b).take q) = b.take o ∧ side 2 ((scr a b).drop q) = a.drop p ∧ side 3 ((scr a b).drop q) = b.drop o := by
  have h2 := scr_old a b
  have h3 := scr_new a b
  rw [← List.take_append_drop q (scr a b), side_append] at h2 h3
  have t2 := congrArg (List.take p) h2
  have t3 := congrArg (List.take o) h3
  have d2 := congrArg (List.drop p) h2
  have d3 := congrArg (List.drop o) h3
  rw [List.take_left' h.2.1] at t2
  rw [List.take_left' h.2.2] at t3
  rw [List.drop_left' h.2.1] at d2
  rw [List.drop_left' h.2.2] at d3
  exact ⟨t2, t3, d2, d3⟩
theorem cut_le {a b : List α} {q p o : Nat} (h : CutAt (scr a b) q p o) : p ≤ a.length ∧ o ≤ b.length := by
  have h1 := h.mono (CutAt.end_ (scr a b)) h.1
  rw [scr_old, scr_new] at h1
  exact h1
/-- a kept line is the same in both -/
theorem at3_same {a b : List α} {i j : Nat} (h : at3 a b i = j) : ∃ x, a[i]? = some x ∧ b[j]? = some x := by
  have hi : i < a.length := at3_in (b := b) (by omega)
  obtain ⟨s1, x, s3, e, h1, h2⟩ := plc_split (scr_kinds a b) (by rw [at3_get hi, h]) (by omega : (0 : Int) ≤ (j : Int))
  have ha := scr_old a b
  have hb := scr_new a b
  rw [e, side_append, side_cons_yes (by simp)] at ha hb
  refine ⟨x, ?_, ?_⟩
  · rw [← ha, ← h1]; simp
  · rw [← hb]
    have : j = (side 3 s1).length := by omega
    rw [this]; simp
/-- what lies between two cuts, alike on both sides, is kept -/
theorem piece_keep {a b : List α} {p o i j : Nat} (h1 : Cut (scr a b) p o) (h2 : Cut (scr a b) i j) (he : (a.take i).drop p = (b.take j).drop o) {d : Nat} (hd : p + d < i) : at3 a b (p + d) = ((o + d : Nat) : Int) := by
  obtain ⟨q1, h1⟩ := h1
  obtain ⟨q2, h2⟩ := h2
  rcases Nat.lt_or_ge q2 q1 with hq | hq
  · have := h2.mono h1 (by omega); omega
  · have e1 := cut_sides h1
    have e2 := cut_sides h2
    have f2 := take_side (s := scr a b) 2 hq
    have f3 := take_side (s := scr a b) 3 hq
    rw [e1.1, e2.1] at f2
    rw [e1.2.1, e2.2.1] at f3
    have hs : scr a b = (scr a b).take q1 ++ ((scr a b).take q2).drop q1 ++ (scr a b).drop q2 := by
      have : (scr a b).take q1 = ((scr a b).take q2).take q1 := by rw [List.take_take, Nat.min_eq_left hq]
      rw [this, List.take_append_drop, List.take_append_drop]
    have hle := cut_le h1
    have hle2 := cut_le h2
    have g2 : side 2 (((scr a b).take q2).drop q1) = (a.take i).drop p := by
      rw [f2, List.drop_left' (by rw [List.length_take]; omega)]
    have g3 : side 3 (((scr a b).take q2).drop q1) = (b.take j).drop o := by
      rw [f3, List.drop_left' (by rw [List.length_take]; omega)]
    have hp := part_keep hs (by rw [g2, g3, he])
    rw [g2] at hp
    have hia : p + d < a.length := by omega
    have hg := at3_get (b := b) hia
    rw [hs, List.append_assoc, plc_app _ (fun e hm => scr_kinds a b e (List.mem_of_mem_take hm)), Nat.zero_add, e1.2.1, hp] at hg
    have hk : kinds3 (((a.take i).drop p).map fun x => ((1 : Int), x)) := by
      intro e hm; simp only [List.mem_map] at hm; obtain ⟨x, _, rfl⟩ := hm; simp
    have hlen1 : (plc ((scr a b).take q1) 0).length = p := by rw [plc_len (fun e hm => scr_kinds a b e (List.mem_of_mem_take hm)), e1.1, List.length_take]; omega
    rw [List.getElem?_append_right (by omega), hlen1, Nat.add_sub_cancel_left, plc_app _ hk] at hg
    have hz : d < ((a.take i).drop p).length := by rw [List.length_drop, List.length_take]; omega
    have hob : (b.take o).length = o := by rw [List.length_take]; omega
    rw [List.getElem?_append_left (by rw [plc_len hk, side_map_yes (by decide)]; exact hz), hob, plc_all _ _ _ hz] at hg
    exact (Option.some.inj hg).symm
end

end Go.Proofs.YtakgddochbcjbaaDoor
