/- Names of files: Parts, Right, Within, Clash of the program's package path. Names of files: Parts and Right of the program; the document's Parts, Path, Within, Clash. Lines: Split, Join of the program. -/
import Derived.Test.YtakgddochbcjbaaDoorPkSplSpec
import Derived.Test.YtakgddochbcjbaaDoorPkShelf
import Derived.Laws.IdiomStrings
import Derived.Lib.SplitLaws
import Derived.Test.YtakgddochbcjbaaDoorPkOwnS
namespace Go.Proofs.YtakgddochbcjbaaDoor
open Go.RowKit Go.Deep Go.MapKept

/-- the cells of a list of bytes -/
def byteV (l : List UInt8) : List Value := l.map fun b => .int .u8 b.toNat
/-- a byte that may not stand in a name -/
def badB (b : UInt8) : Bool := decide (b.toNat < 33) || decide (126 < b.toNat)
/-- a part that may not stand in a name -/
def badS (s : ByteArray) : Bool := s == ⟨#[]⟩ || (s == ⟨#[46]⟩ || s == ⟨#[46, 46]⟩)
/-- is a name right? -/
def rightP (p : ByteArray) : Bool := decide (1 ≤ p.size ∧ p.size ≤ 100) && (!p.data.toList.any badB && !(pieces 47 0 p).any badS)
/-- a text, behind a name that the walk does not open -/
def dirT (d : ByteArray) : ByteArray := d ++ ⟨#[47]⟩
def withinP (p d : ByteArray) : Bool := Lib.hasPrefix p.data.toList (dirT d).data.toList
def clashP (a b : ByteArray) : Bool := a == b || (withinP a b || withinP b a)

theorem badS_list (s : ByteArray) : badS s = (s.toList.isEmpty || s.toList == [46] || s.toList == [46, 46]) := by
  have e0 : (ByteArray.mk #[]).toList = [] := by decide +kernel
  have e1 : (ByteArray.mk #[46]).toList = [46] := by decide +kernel
  have e2 : (ByteArray.mk #[46, 46]).toList = [46, 46] := by decide +kernel
  rw [badS, beq_toListBytes, beq_toListBytes, beq_toListBytes, e0, e1, e2, Bool.or_assoc]
  generalize s.toList = l
  cases l <;> rfl
/-- what IndexFunc tells: is there one that is bad? -/
def IdxBad (b : Bool) (r : Int) : Prop := (b = false → r = -1) ∧ (b = true → 0 ≤ r)
/-- element k of a list of bytes, behind a name that the walk does not open -/
def gby (l : List UInt8) (k : Nat) : UInt8 := l.getD k 0
theorem gby_some {l : List UInt8} {k : Nat} (h : k < l.length) : l[k]? = some (gby l k) := by simp [gby, h]
theorem any_take {α : Type} {l : List α} {k : Nat} {x : α} (f : α → Bool) (h : l[k]? = some x) : (l.take (k + 1)).any f = ((l.take k).any f || f x) := by
  obtain ⟨hk, e⟩ := List.getElem?_eq_some_iff.1 h
  rw [List.take_succ_eq_append_getElem hk, List.any_append, e]
  simp
theorem any_of {α : Type} {l : List α} {k : Nat} {x : α} (f : α → Bool) (h : l[k]? = some x) (hf : f x = true) : l.any f = true := by
  rw [List.any_eq_true]
  exact ⟨x, List.mem_of_getElem? h, hf⟩
theorem Reads.byteAt {w : World} {B n k : Nat} {A : Option Addr} {l : List UInt8} (h : Reads w B 1 A n (byteV l)) (hk : k < n) : ∃ ad, A = some ad ∧ ad.block < B ∧ w.cell? (ad.add k) = some (.int .u8 (gby l k).toNat) := by
  obtain ⟨ad, u, e, hb, hx, hc⟩ := h.at_ hk
  have hl : k < l.length := by have := h.1; simp [byteV] at this; omega
  refine ⟨ad, e, hb, hc.trans ?_⟩
  simp only [byteV, List.getElem?_map, gby_some hl, Option.map_some, Option.some.injEq] at hx
  rw [← hx]
theorem Reads.byteLen {w : World} {B n : Nat} {A : Option Addr} {l : List UInt8} (h : Reads w B 1 A n (byteV l)) : l.length = n := by have := h.1; simpa [byteV] using this

theorem gs_some {xs : List ByteArray} {k : Nat} (h : k < xs.length) : xs[k]? = some (gs xs k) := by simp [gs, h]
end Go.Proofs.YtakgddochbcjbaaDoor
namespace Go.Proofs.YtakgddochbcjbaaDoor
open Go.RowKit Go.Deep Go.MapKept

/-- the library's own variable holds some number -/
def MaxL (w : World) : Prop := ∃ m, w.cell? ⟨0, 0, none⟩ = some (.int .i64 m)
theorem MaxL.pos {w : World} (h : MaxL w) : 0 < w.heap.size := by
  obtain ⟨m, hm⟩ := h
  rcases Nat.eq_zero_or_pos w.heap.size with h0 | h0
  · exfalso
    simp only [World.cell?] at hm
    rw [Array.getElem?_eq_none (by omega)] at hm
    cases hm
  · exact h0
theorem MaxL.grows {w w' : World} (h : MaxL w) (hg : Grows w w') : MaxL w' := by
  have hp := h.pos
  obtain ⟨m, hm⟩ := h
  exact ⟨m, (Below.cell hg (by exact hp)).trans hm⟩
theorem MaxL.drewN {w : World} (h : MaxL w) (n : Nat) : MaxL (w.drewN n) := h
theorem MaxL.drew {w : World} (h : MaxL w) : MaxL w.drew := h
theorem MaxL.alloc {w : World} (h : MaxL w) (o : Obj) : MaxL (w.alloc o) := h.grows ((Grows.refl w).alloc o)

theorem count_one (c : UInt8) : ∀ l : List UInt8, Lib.count l [c] = l.count c :=
  sp_ind (M := fun l => Lib.count l [c] = l.count c) (fun l h => by rw [Lib.count_miss (index_no h), List.count_eq_zero_of_not_mem h]) (fun u v h ih => by
    rw [Lib.count_hit (by simp) (index_at h)]
    have e : (u ++ c :: v).drop (u.length + [c].length) = v := by
      rw [show (u.length + [c].length) = (u ++ [c]).length by simp, show u ++ c :: v = (u ++ [c]) ++ v by simp, List.drop_left' rfl]
    rw [e, ih, List.count_append, List.count_eq_zero_of_not_mem h, List.count_cons_self]
    omega)
theorem countB_one (s : ByteArray) (c : UInt8) : Lib.countB s ⟨#[c]⟩ = s.data.toList.count c := count_one c _
theorem sp_len (c : UInt8) (save : Nat) : ∀ l : List UInt8, (sp c save l).length = l.count c + 1 :=
  sp_ind (M := fun l => (sp c save l).length = l.count c + 1) (fun l h => by rw [sp_no h, List.count_eq_zero_of_not_mem h]; rfl) (fun u v h ih => by
    rw [sp_at h, List.length_cons, ih, List.count_append, List.count_eq_zero_of_not_mem h, List.count_cons_self]
    omega)
theorem pieces_len (c : UInt8) (save : Nat) (s : ByteArray) : (pieces c save s).length = s.data.toList.count c + 1 := by rw [pieces, List.length_map, sp_len]
theorem count_size (c : UInt8) (s : ByteArray) : s.data.toList.count c ≤ s.size := by
  have h := List.count_le_length (a := c) (l := s.data.toList)
  rw [Array.length_toList] at h
  exact h

theorem Reads.newRow (w : World) (t : TypeId) (vs : List Value) (fz : Nat × Nat) : Reads (w.alloc (.cells vs.toArray t fz)) (w.heap.size + 1) 1 (some ⟨w.heap.size, 0, none⟩) vs.length vs := by
  refine ⟨by omega, fun _ => ⟨_, rfl, Nat.lt_succ_self _, fun j u hu => ?_⟩⟩
  have had : Addr.add ⟨w.heap.size, 0, none⟩ j = ⟨w.heap.size, j, none⟩ := by unfold Addr.add; split <;> simp_all
  rw [had, cell_of_row _ _ _ _ _ _ (heap_alloc_new w _)]
  simpa using hu

/-- a fresh row of pieces, and the world behind -/
def RowOf (w w' : World) (v : Value) (xs : List ByteArray) : Prop := ∃ A c, v = .slice A xs.length c ∧ xs.length ≤ c ∧ c ≤ 1000000000000 ∧ Reads w' w'.heap.size 1 A xs.length (strs xs) ∧ Grows w w'
theorem Reads.bytesRow_ (w : World) (s : ByteArray) (t : TypeId) (cap : Nat) (fz : Nat × Nat) : Reads (w.alloc (.cells (bytesRow s cap) t fz)) (w.alloc (.cells (bytesRow s cap) t fz)).heap.size 1 (some ⟨w.heap.size, 0, none⟩) s.size (byteV s.data.toList) := by
  refine ⟨by rw [byteV, List.length_map, Array.length_toList, Nat.mul_one]; rfl, fun _ => ⟨_, rfl, by simp, fun j u hu => ?_⟩⟩
  have had : Addr.add ⟨w.heap.size, 0, none⟩ j = ⟨w.heap.size, j, none⟩ := by unfold Addr.add; split <;> simp_all
  have hj : j < s.data.size := by
    have := (List.getElem?_eq_some_iff.1 hu).1
    simpa [byteV] using this
  rw [had, cell_of_row _ _ _ _ _ _ (heap_alloc_new w _)]
  rw [bytesRow, Array.getElem?_append_left (by simpa using hj)]
  simpa [byteV] using hu

end Go.Proofs.YtakgddochbcjbaaDoor
namespace Go.Proofs.YtakgddochbcjbaaDoor
open Go.RowKit Go.Deep Go.MapKept

theorem join_flat (xs : List (List UInt8)) : Lib.join xs [] = xs.flatten := by
  cases xs with
  | nil => rfl
  | cons x r => rw [Lib.join_cons, Lib.joinTail]; simp
def none_ : ByteArray := { data := #[] }
/-- a fresh row that begins its block, and the world behind -/
def RowAt (w w' : World) (v : Value) (xs : List ByteArray) : Prop := ∃ g c, v = .slice (some ⟨g, 0, none⟩) xs.length c ∧ xs.length ≤ c ∧ (c ≤ 1000000000000 ∧ w'.ownsRow w.heap.size 9 1 v xs.length (strs xs)) ∧ Reads w' w'.heap.size 1 (some ⟨g, 0, none⟩) xs.length (strs xs) ∧ Grows w w'
theorem cellsOf_full {l : List ByteArray} {N : Nat} (h : l.length = N) : Lib.cellsOf l N = (strs l).toArray := by
  rw [Lib.cellsOf, h, Nat.sub_self]
  simp [strs]
theorem after_any (s : ByteArray) (w : World) (hm : MaxL w) (hs : s.size < 4294967281) :
    Calls Tryd.prog 81 #[.string s, .string ⟨#[10]⟩] w fun e w' => ∃ v, e = .returned v ∧ RowAt w w' v (pieces 10 1 s) := by
  obtain ⟨m, hm⟩ := hm
  have hc := Lib.hid (count_size 10 s)
  have hl := Lib.hid (pieces_len 10 1 s)
  have hcn := Lib.hid (countB_one s 10)
  have he := Lib.hid (pieces_shelf 10 1 (s.data.toList.count 10 + 1 - 1) s (by omega))
  have hcall := Tryd.strings_genSplit s ⟨#[10]⟩ 1 (-1) (s.data.toList.count 10 + 1) m w hs hm (by decide) (by decide) (by decide) (by decide) (by rw [if_pos (by decide), hcn.out]; have := hc.out; omega)
  rw [he.out, hl.out, cellsOf_full hl.out, ← hl.out] at hcall
  have HC := Lib.hid hcall
  clear hcall
  go_enter Tryd.func81, Tryd.ntmps81
  go_wp2_with fail
  refine HC.out.mono ?_
  rintro e w' ⟨rfl, rfl⟩
  go_wp2_with fail
  go_ret
  refine ⟨_, rfl, _, _, rfl, Nat.le_refl _, ⟨by rw [hl.out]; have := hc.out; omega, World.ownsRow_lit w (strs (pieces 10 1 s)).toArray _ (Nat.le_refl _) (by rw [hl.out]; have := hc.out; simp only [maxLen]; omega) (by simp [strs])⟩, ?_, (Grows.refl w).alloc _⟩
  have := Reads.newRow w 9 (strs (pieces 10 1 s)) (0, 0)
  rw [strs_len] at this
  exact this.more (by simp)

theorem takeS' {w : World} {B n k : Nat} {A : Option Addr} {xs : List ByteArray} (h : Reads w B 1 A n (strs xs)) (hk : k ≤ n) : Reads w B 1 A k (strs (xs.take k)) := by
  have hl := h.strLen
  refine ⟨by simp [strs]; omega, fun h0 => ?_⟩
  obtain ⟨ad, e, hb, hc⟩ := h.2 (by omega)
  refine ⟨ad, e, hb, fun j u hu => hc j u ?_⟩
  rw [strs, List.map_take, List.getElem?_take] at hu
  split at hu
  · exact hu
  · cases hu
theorem lines_cut {s : ByteArray} {K : Nat} (hK : (pieces 10 1 s).length = K + 1) : linesT s = if (gs (pieces 10 1 s) K).toList.isEmpty then (pieces 10 1 s).take K else pieces 10 1 s := by
  have hl : (sp 10 1 s.data.toList).length = K + 1 := by rw [pieces, List.length_map] at hK; exact hK
  have hlast : (sp 10 1 s.data.toList).getLast? = some ((gs (pieces 10 1 s) K).data.toList) := by
    rw [List.getLast?_eq_getElem?, hl, Nat.add_sub_cancel, List.getElem?_eq_getElem (by omega)]
    congr 1
    simp [gs, pieces, hl, data_tx]
  have hl2 : (gs (pieces 10 1 s) K).toList = (gs (pieces 10 1 s) K).data.toList := ByteArray.toList_eq _
  rw [hl2, linesT, lnL, dropE, hlast]
  simp only [Option.some.injEq, List.isEmpty_iff]
  split
  · rw [List.dropLast_eq_take, hl, Nat.add_sub_cancel, List.map_take]; rfl
  · rfl
set_option maxRecDepth 100000 in
set_option maxHeartbeats 1000000 in
theorem split_any (s : ByteArray) (w : World) (hm : MaxL w) (hs : s.size < 4294967281) :
    Calls Tryd.prog 41 #[.string s] w fun e w' => ∃ v, e = .returned v ∧ RowAt w w' v (linesT s) := by
  obtain ⟨K, hK⟩ : ∃ K, (pieces 10 1 s).length = K + 1 := ⟨_, pieces_len 10 1 s⟩
  have hc := Lib.hid (lines_cut hK)
  have hk2 : K < 4294967281 := by have := pieces_len 10 1 s; have := count_size 10 s; omega
  go_enter Tryd.func41, Tryd.ntmps41
  go_wp2_with fail
  refine (after_any s w hm hs).mono ?_
  rintro e w1 ⟨v, rfl, g, c, rfl, hc1, ⟨hc2, how⟩, hr, hg⟩
  rw [hK] at hr hc1 how ⊢
  have HOW := Lib.hid how
  clear how
  have hcell := hr.strAt (k := K) (by omega)
  have had : Addr.add ⟨g, 0, none⟩ K = ⟨g, K, none⟩ := by unfold Addr.add; split <;> simp_all
  rw [had] at hcell
  have HR := Lib.hid hr
  have HG := Lib.hid hg
  have HK := Lib.hid hK
  clear hr hg hK
  cases he : (gs (pieces 10 1 s) K).toList.isEmpty with
  | true =>
    have hf := Lib.hid (show linesT s = (pieces 10 1 s).take K by rw [hc.out, he]; rfl)
    have hl := Lib.hid (show (linesT s).length = K by rw [hf.out, List.length_take, HK.out]; omega)
    go_wp2_with fail
    go_ret
    exact ⟨_, rfl, g, c, by rw [hl.out]; rfl, by rw [hl.out]; omega, ⟨hc2, by rw [hl.out, hf.out]; exact own_take HOW.out (by omega)⟩, by rw [hl.out, hf.out]; exact takeS' HR.out (by omega), HG.out⟩
  | false =>
    have hf := Lib.hid (show linesT s = pieces 10 1 s by rw [hc.out, he]; rfl)
    have hl := Lib.hid (show (linesT s).length = K + 1 by rw [hf.out, HK.out])
    go_wp2_with fail
    go_ret
    exact ⟨_, rfl, g, c, by rw [hl.out]; rfl, by rw [hl.out]; omega, ⟨hc2, by rw [hl.out, hf.out]; exact HOW.out⟩, by rw [hl.out, hf.out]; exact HR.out, HG.out⟩

theorem join_any (B : Nat) (A : Option Addr) (n c : Nat) (l : List ByteArray) (w : World) (hA : ∀ ad, A = some ad → ad = ⟨ad.block, 0, none⟩) (h : Reads w B 1 A n (strs l)) (hB : B ≤ w.heap.size) (hn : n ≤ 1000000000000) (hc : n ≤ c) (hlen : (bl l).flatten.length ≤ 140737488355328) :
    Calls Tryd.prog 43 #[.slice A n c] w fun e w' => e = .returned (.string (joinT l)) ∧ Grows w w' := by
  have hl := h.strLen
  rcases Nat.eq_zero_or_pos n with h0 | h0
  · subst h0
    have hl0 : l = [] := List.eq_nil_of_length_eq_zero hl
    subst hl0
    clear hA h
    go_enter Tryd.func43, Tryd.ntmps43
    go_wp2_with fail
    refine (Tryd.strings_Join_none A c none_ w).mono ?_
    rintro e w' ⟨rfl, rfl⟩
    go_wp2_with fail
    go_ret
    exact ⟨rfl, Grows.refl _⟩
  · obtain ⟨ad, rfl, hb, hcell⟩ := h.2 h0
    have had := hA ad rfl
    obtain ⟨g, rfl⟩ : ∃ g, ad = ⟨g, 0, none⟩ := ⟨_, had⟩
    clear had
    have hcall := Tryd.strings_Join g 0 c l none_ w (fun j x hx => by
      have h1 := hcell j (.string x) (by rw [strs, List.getElem?_map, hx]; rfl)
      have had : Addr.add ⟨g, 0, none⟩ j = ⟨g, j, none⟩ := by unfold Addr.add; split <;> simp_all
      rw [had] at h1
      rw [Nat.zero_add]
      exact h1) (by exact Nat.lt_of_lt_of_le hb hB) (by omega) (by omega) (by
        show (Lib.join (bl l) []).length ≤ _
        rw [join_flat]; exact hlen)
    rw [hl] at hcall
    have hv : Value.string ⟨(Lib.join (l.map (·.data.toList)) none_.data.toList).toArray⟩ = .string (joinT l) := by
      show Value.string (tx (Lib.join (bl l) [])) = _
      rw [join_flat]
      rfl
    rw [hv] at hcall
    have HC := Lib.hid hcall
    clear hcall hv hA hcell h
    go_enter Tryd.func43, Tryd.ntmps43
    go_wp2_with fail
    refine HC.out.mono ?_
    rintro e w' ⟨rfl, hg⟩
    have hg' : Grows w w' := hg
    go_wp2_with fail
    go_ret
    exact ⟨rfl, hg'⟩
end Go.Proofs.YtakgddochbcjbaaDoor
