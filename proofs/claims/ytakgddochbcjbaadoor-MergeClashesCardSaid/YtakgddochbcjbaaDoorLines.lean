/- Lines: Split, Join of the program. -/
import Derived.Test.YtakgddochbcjbaaDoorLinesSpec
import Derived.Test.YtakgddochbcjbaaDoorPath2
import Derived.Test.YtakgddochbcjbaaDoorOwnS
namespace Go.Proofs.YtakgddochbcjbaaDoor
open Go.RowKit Go.Deep Go.MapKept

theorem join_flat (xs : List (List UInt8)) : Lib.join xs [] = xs.flatten := by
  cases xs with
  | nil => rfl
  | cons x r => rw [Lib.join_cons, Lib.joinTail]; simp
def none_ : ByteArray := { data := #[] }
/-- a fresh row that begins its block, and the world behind -/
def RowAt (w w' : World) (v : Value) (xs : List ByteArray) : Prop := ∃ g c, v = .slice (some ⟨g, 0, none⟩) xs.length c ∧ xs.length ≤ c ∧ (c ≤ 1000000000000 ∧ w'.ownsRow w.heap.size 9 1 v xs.length (strs xs)) ∧ Reads w' w'.heap.size 1 (some ⟨g, 0, none⟩) xs.length (strs xs) ∧ Grows w w'
theorem cellsOf_full {l : List ByteArray} {N : Nat} (h : l.length = N) : Lib.cellsOf l N = (strs l).toArray := by
  rw [Lib.cellsOf, h, Nat.sub_self]
  simp [strs]
theorem after_any (s : ByteArray) (w : World) (hm : MaxL w) (hs : s.size < 4294967281) :
    Calls Tryd.prog 81 #[.string s, .string ⟨#[10]⟩] w fun e w' => ∃ v, e = .returned v ∧ RowAt w w' v (pieces 10 1 s) := by
  obtain ⟨m, hm⟩ := hm
  have hc := Lib.hid (count_size 10 s)
  have hl := Lib.hid (pieces_len 10 1 s)
  have hcn := Lib.hid (countB_one s 10)
  have he := Lib.hid (pieces_shelf 10 1 (s.data.toList.count 10 + 1 - 1) s (by omega))
  have hcall := Tryd.strings_genSplit s ⟨#[10]⟩ 1 (-1) (s.data.toList.count 10 + 1) m w hs hm (by decide) (by decide) (by decide) (by decide) (by rw [if_pos (by decide), hcn.out]; have := hc.out; omega)
  rw [he.out, hl.out, cellsOf_full hl.out, ← hl.out] at hcall
  have HC := Lib.hid hcall
  clear hcall
  go_enter Tryd.func81, Tryd.ntmps81
  go_wp2_with fail
  refine HC.out.mono ?_
  rintro e w' ⟨rfl, rfl⟩
  go_wp2_with fail
  go_ret
  refine ⟨_, rfl, _, _, rfl, Nat.le_refl _, ⟨by rw [hl.out]; have := hc.out; omega, World.ownsRow_lit w (strs (pieces 10 1 s)).toArray _ (Nat.le_refl _) (by rw [hl.out]; have := hc.out; simp only [maxLen]; omega) (by simp [strs])⟩, ?_, (Grows.refl w).alloc _⟩
  have := Reads.newRow w 9 (strs (pieces 10 1 s)) (0, 0)
  rw [strs_len] at this
  exact this.more (by simp)

theorem takeS' {w : World} {B n k : Nat} {A : Option Addr} {xs : List ByteArray} (h : Reads w B 1 A n (strs xs)) (hk : k ≤ n) : Reads w B 1 A k (strs (xs.take k)) := by
  have hl := h.strLen
  refine ⟨by simp [strs]; omega, fun h0 => ?_⟩
  obtain ⟨ad, e, hb, hc⟩ := h.2 (by omega)
  refine ⟨ad, e, hb, fun j u hu => hc j u ?_⟩
  rw [strs, List.map_take, List.getElem?_take] at hu
  split at hu
  · exact hu
  · cases hu
theorem lines_cut {s : ByteArray} {K : Nat} (hK : (pieces 10 1 s).length = K + 1) : linesT s = if (gs (pieces 10 1 s) K).toList.isEmpty then (pieces 10 1 s).take K else pieces 10 1 s := by
  have hl : (sp 10 1 s.data.toList).length = K + 1 := by rw [pieces, List.length_map] at hK; exact hK
  have hlast : (sp 10 1 s.data.toList).getLast? = some ((gs (pieces 10 1 s) K).data.toList) := by
    rw [List.getLast?_eq_getElem?, hl, Nat.add_sub_cancel, List.getElem?_eq_getElem (by omega)]
    congr 1
    simp [gs, pieces, hl, data_tx]
  have hl2 : (gs (pieces 10 1 s) K).toList = (gs (pieces 10 1 s) K).data.toList := ByteArray.toList_eq _
  rw [hl2, linesT, lnL, dropE, hlast]
  simp only [Option.some.injEq, List.isEmpty_iff]
  split
  · rw [List.dropLast_eq_take, hl, Nat.add_sub_cancel, List.map_take]; rfl
  · rfl
set_option maxRecDepth 100000 in
set_option maxHeartbeats 1000000 in
theorem split_any (s : ByteArray) (w : World) (hm : MaxL w) (hs : s.size < 4294967281) :
    Calls Tryd.prog 41 #[.string s] w fun e w' => ∃ v, e = .returned v ∧ RowAt w w' v (linesT s) := by
  obtain ⟨K, hK⟩ : ∃ K, (pieces 10 1 s).length = K + 1 := ⟨_, pieces_len 10 1 s⟩
  have hc := Lib.hid (lines_cut hK)
  have hk2 : K < 4294967281 := by have := pieces_len 10 1 s; have := count_size 10 s; omega
  go_enter Tryd.func41, Tryd.ntmps41
  go_wp2_with fail
  refine (after_any s w hm hs).mono ?_
  rintro e w1 ⟨v, rfl, g, c, rfl, hc1, ⟨hc2, how⟩, hr, hg⟩
  rw [hK] at hr hc1 how ⊢
  have HOW := Lib.hid how
  clear how
  have hcell := hr.strAt (k := K) (by omega)
  have had : Addr.add ⟨g, 0, none⟩ K = ⟨g, K, none⟩ := by unfold Addr.add; split <;> simp_all
  rw [had] at hcell
  have HR := Lib.hid hr
  have HG := Lib.hid hg
  have HK := Lib.hid hK
  clear hr hg hK
  cases he : (gs (pieces 10 1 s) K).toList.isEmpty with
  | true =>
    have hf := Lib.hid (show linesT s = (pieces 10 1 s).take K by rw [hc.out, he]; rfl)
    have hl := Lib.hid (show (linesT s).length = K by rw [hf.out, List.length_take, HK.out]; omega)
    go_wp2_with fail
    go_ret
    exact ⟨_, rfl, g, c, by rw [hl.out]; rfl, by rw [hl.out]; omega, ⟨hc2, by rw [hl.out, hf.out]; exact own_take HOW.out (by omega)⟩, by rw [hl.out, hf.out]; exact takeS' HR.out (by omega), HG.out⟩
  | false =>
    have hf := Lib.hid (show linesT s = pieces 10 1 s by rw [hc.out, he]; rfl)
    have hl := Lib.hid (show (linesT s).length = K + 1 by rw [hf.out, HK.out])
    go_wp2_with fail
    go_ret
    exact ⟨_, rfl, g, c, by rw [hl.out]; rfl, by rw [hl.out]; omega, ⟨hc2, by rw [hl.out, hf.out]; exact HOW.out⟩, by rw [hl.out, hf.out]; exact HR.out, HG.out⟩

theorem join_any (B : Nat) (A : Option Addr) (n c : Nat) (l : List ByteArray) (w : World) (hA : ∀ ad, A = some ad → ad = ⟨ad.block, 0, none⟩) (h : Reads w B 1 A n (strs l)) (hB : B ≤ w.heap.size) (hn : n ≤ 1000000000000) (hc : n ≤ c) (hlen : (bl l).flatten.length ≤ 140737488355328) :
    Calls Tryd.prog 43 #[.slice A n c] w fun e w' => e = .returned (.string (joinT l)) ∧ Grows w w' := by
  have hl := h.strLen
  rcases Nat.eq_zero_or_pos n with h0 | h0
  · subst h0
    have hl0 : l = [] := List.eq_nil_of_length_eq_zero hl
    subst hl0
    clear hA h
    go_enter Tryd.func43, Tryd.ntmps43
    go_wp2_with fail
    refine (Tryd.strings_Join_none A c none_ w).mono ?_
    rintro e w' ⟨rfl, rfl⟩
    go_wp2_with fail
    go_ret
    exact ⟨rfl, Grows.refl _⟩
  · obtain ⟨ad, rfl, hb, hcell⟩ := h.2 h0
    have had := hA ad rfl
    obtain ⟨g, rfl⟩ : ∃ g, ad = ⟨g, 0, none⟩ := ⟨_, had⟩
    clear had
    have hcall := Tryd.strings_Join g 0 c l none_ w (fun j x hx => by
      have h1 := hcell j (.string x) (by rw [strs, List.getElem?_map, hx]; rfl)
      have had : Addr.add ⟨g, 0, none⟩ j = ⟨g, j, none⟩ := by unfold Addr.add; split <;> simp_all
      rw [had] at h1
      rw [Nat.zero_add]
      exact h1) (by exact Nat.lt_of_lt_of_le hb hB) (by omega) (by omega) (by
        show (Lib.join (bl l) []).length ≤ _
        rw [join_flat]; exact hlen)
    rw [hl] at hcall
    have hv : Value.string ⟨(Lib.join (l.map (·.data.toList)) none_.data.toList).toArray⟩ = .string (joinT l) := by
      show Value.string (tx (Lib.join (bl l) [])) = _
      rw [join_flat]
      rfl
    rw [hv] at hcall
    have HC := Lib.hid hcall
    clear hcall hv hA hcell h
    go_enter Tryd.func43, Tryd.ntmps43
    go_wp2_with fail
    refine HC.out.mono ?_
    rintro e w' ⟨rfl, hg⟩
    have hg' : Grows w w' := hg
    go_wp2_with fail
    go_ret
    exact ⟨rfl, hg'⟩
end Go.Proofs.YtakgddochbcjbaaDoor
