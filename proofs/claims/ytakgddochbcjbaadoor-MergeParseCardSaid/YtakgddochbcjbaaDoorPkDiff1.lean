/- The first walks of package diff: begin, end, edits, lines. A region that draws its order: a quiet head (loads, reckoning, calls that only draw), then a tail in the order of the text. -/
import Derived.Test.YtakgddochbcjbaaDoorPkLcs
import Derived.Test.YtakgddochbcjbaaDoorPkBase
import Derived.StillTailTactics
import Derived.BigQuiet
namespace Go.Proofs.YtakgddochbcjbaaDoor
open Go.RowKit Go.Deep Go.MapKept

theorem takeS_succ {xs ys : List ByteArray} {k n m : Nat} (hx : xs.length = n) (hy : ys.length = m) (hk : k < n) (hk' : k < m) (h : xs.take k = ys.take k) (he : ((gs xs k).toList == (gs ys k).toList) = true) : xs.take (k + 1) = ys.take (k + 1) := by
  rw [← beq_toListBytes, bytes_beq] at he
  rw [List.take_succ_eq_append_getElem (by omega), List.take_succ_eq_append_getElem (by omega), h]
  have e1 : gs xs k = xs[k] := by simp [gs, List.getElem?_eq_getElem (show k < xs.length by omega)]
  have e2 : gs ys k = ys[k] := by simp [gs, List.getElem?_eq_getElem (show k < ys.length by omega)]
  rw [e1, e2] at he
  rw [he]
theorem begS_stop {xs ys : List ByteArray} {k n m : Nat} (hx : xs.length = n) (hy : ys.length = m) (hk : k < n) (hk' : k < m) (h : xs.take k = ys.take k) (he : ((gs xs k).toList == (gs ys k).toList) = false) : beg xs ys = k := by
  have e1 : xs[k]? = some (gs xs k) := by simp [gs, List.getElem?_eq_getElem (show k < xs.length by omega)]
  have e2 : ys[k]? = some (gs ys k) := by simp [gs, List.getElem?_eq_getElem (show k < ys.length by omega)]
  refine beg_stop e1 e2 h fun hh => ?_
  rw [hh] at he
  simp at he

set_option maxRecDepth 100000 in
set_option maxHeartbeats 1000000 in
theorem begin_any (B B' : Nat) (A A' : Option Addr) (n m c c' : Nat) (xs ys : List ByteArray) (w : World) (hx : Reads w B 1 A n (strs xs)) (hy : Reads w B' 1 A' m (strs ys)) (hn : n ≤ maxLen) (hm : m ≤ maxLen) :
    Calls Tryd.prog 94 #[.slice A n c, .slice A' m c'] w fun e w' => e = .returned (.int .i64 (beg xs ys : Nat)) ∧ ∃ m, w' = w.drewN m := by
  unfold maxLen at hn hm
  have HLx := Lib.hid hx.strLen
  have HLy := Lib.hid hy.strLen
  have HX := Lib.hid hx; clear hx
  have HY := Lib.hid hy; clear hy
  go_enter Tryd.func94, Tryd.ntmps94
  go_wp2
  go_loopg [5] n (fun gk q wr => (∃ m, wr = w.drewN m) ∧ ∃ k : Nat, q = .int .i64 k ∧ k ≤ n ∧ k ≤ m ∧ gk = n - k ∧ xs.take k = ys.take k)
  case atStart => exact ⟨⟨0, rfl⟩, 0, rfl, by omega, by omega, rfl, rfl⟩
  case round =>
    obtain ⟨⟨d, rfl⟩, k, rfl, hk, hk2, hgk, hno⟩ := hrel
    have HG := Lib.hid hgk; clear hgk
    have HN := Lib.hid hno; clear hno
    have k0 : (0 : Int) ≤ k := by omega
    cases h1 : decide (k < n) with
    | false =>
      have hf := Lib.hid (show beg xs ys = k from beg_end HN.out (.inl (by simp at h1; rw [HLx.out]; omega)) (by rw [HLx.out]; omega) (by rw [HLy.out]; omega))
      have h1' : decide ((k : Int) < n) = false := by simp at h1 ⊢; omega
      go_wp2
      go_quiet (fail)
      go_wp2
      go_ret
      exact ⟨by rw [hf.out]; rfl, d + nq, by rw [World.drewN_drewN]⟩
    | true =>
      have hlt : k < n := by simpa using h1
      have h1' : decide ((k : Int) < n) = true := by simp; omega
      obtain ⟨ad, rfl, had, hc⟩ := HX.out.str hlt
      cases h2 : decide (k < m) with
      | false =>
        have hf := Lib.hid (show beg xs ys = k from beg_end HN.out (.inr (by simp at h2; rw [HLy.out]; omega)) (by rw [HLx.out]; omega) (by rw [HLy.out]; omega))
        have h2' : decide ((k : Int) < m) = false := by simp at h2 ⊢; omega
        go_wp2
        go_quiet (fail)
        go_wp2
        go_ret
        exact ⟨by rw [hf.out]; rfl, d + nq, by rw [World.drewN_drewN]⟩
      | true =>
        have hlt2 : k < m := by simpa using h2
        have h2' : decide ((k : Int) < m) = true := by simp; omega
        have k1 : (k : Int) < n := by omega
        have k2 : (k : Int) < m := by omega
        obtain ⟨ad', rfl, had', hc'⟩ := HY.out.str hlt2
        cases he : ((gs xs k).toList == (gs ys k).toList) with
        | true =>
          have hf := Lib.hid (takeS_succ HLx.out HLy.out hlt hlt2 HN.out he)
          go_wp2
          go_quiet (fail)
          go_wp2
          go_roundg (n - (k + 1))
          case measure => rw [HG.out]; omega
          case rel => exact ⟨⟨_, rfl⟩, k + 1, by go_num, by omega, by omega, rfl, hf.out⟩
        | false =>
          have hf := Lib.hid (begS_stop HLx.out HLy.out hlt hlt2 HN.out he)
          go_wp2
          go_quiet (fail)
          go_wp2
          go_ret
          exact ⟨by rw [hf.out]; rfl, d + nq, by rw [World.drewN_drewN]⟩

theorem dropS_more {xs ys : List ByteArray} {i j : Nat} (hi : i < xs.length) (hj : j < ys.length) (h : xs.drop (i + 1) = ys.drop (j + 1)) (he : ((gs xs i).toList == (gs ys j).toList) = true) : xs.drop i = ys.drop j := by
  rw [← beq_toListBytes, bytes_beq] at he
  rw [List.drop_eq_getElem_cons hi, List.drop_eq_getElem_cons hj, h]
  have e1 : gs xs i = xs[i] := by simp [gs, List.getElem?_eq_getElem hi]
  have e2 : gs ys j = ys[j] := by simp [gs, List.getElem?_eq_getElem hj]
  rw [e1, e2] at he
  rw [he]
theorem wrap_small {x : Int} (h0 : 0 ≤ x) (h1 : x ≤ 9223372036854775807) : IntKind.i64.wrap x = x := by rw [IntKind.wrap_i64]; omega

set_option maxRecDepth 100000 in
set_option maxHeartbeats 1000000 in
theorem end_any (B B' : Nat) (A A' : Option Addr) (n m c c' : Nat) (xs ys : List ByteArray) (w : World) (hx : Reads w B 1 A n (strs xs)) (hy : Reads w B' 1 A' m (strs ys)) (hn : n ≤ maxLen) (hm : m ≤ maxLen) :
    Calls Tryd.prog 95 #[.slice A n c, .slice A' m c'] w fun e w' => ∃ k : Nat, e = .returned (.int .i64 k) ∧ (k ≤ n ∧ k ≤ m ∧ xs.drop (n - k) = ys.drop (m - k)) ∧ ∃ d, w' = w.drewN d := by
  unfold maxLen at hn hm
  have HLx := Lib.hid hx.strLen
  have HLy := Lib.hid hy.strLen
  have HX := Lib.hid hx; clear hx
  have HY := Lib.hid hy; clear hy
  go_enter Tryd.func95, Tryd.ntmps95
  go_wp2
  go_loopg [5] n (fun gk q wr => (∃ d, wr = w.drewN d) ∧ ∃ k : Nat, q = .int .i64 k ∧ k ≤ n ∧ k ≤ m ∧ gk = n - k ∧ xs.drop (n - k) = ys.drop (m - k))
  case atStart => exact ⟨⟨0, rfl⟩, 0, rfl, by omega, by omega, rfl, by rw [List.drop_eq_nil_of_le (by rw [HLx.out]; omega), List.drop_eq_nil_of_le (by rw [HLy.out]; omega)]⟩
  case round =>
    obtain ⟨⟨d, rfl⟩, k, rfl, hk, hk2, hgk, hno⟩ := hrel
    have HG := Lib.hid hgk; clear hgk
    have HN := Lib.hid hno; clear hno
    have k0 : (0 : Int) ≤ k := by omega
    cases h1 : decide (k < n) with
    | false =>
      have h1' : decide ((k : Int) < n) = false := by simp at h1 ⊢; omega
      go_wp2
      go_quiet (fail)
      go_wp2
      go_ret
      exact ⟨k, rfl, ⟨hk, hk2, HN.out⟩, d + nq, by rw [World.drewN_drewN]⟩
    | true =>
      have hlt : k < n := by simpa using h1
      have h1' : decide ((k : Int) < n) = true := by simp; omega
      cases h2 : decide (k < m) with
      | false =>
        have h2' : decide ((k : Int) < m) = false := by simp at h2 ⊢; omega
        go_wp2
        go_quiet (fail)
        go_wp2
        go_ret
        exact ⟨k, rfl, ⟨hk, hk2, HN.out⟩, d + nq, by rw [World.drewN_drewN]⟩
      | true =>
        have hlt2 : k < m := by simpa using h2
        have h2' : decide ((k : Int) < m) = true := by simp; omega
        obtain ⟨n1, hn1⟩ : ∃ n1, n = n1 + 1 := ⟨n - 1, by omega⟩
        obtain ⟨m1, hm1⟩ : ∃ m1, m = m1 + 1 := ⟨m - 1, by omega⟩
        obtain ⟨i, hi⟩ : ∃ i, i = n1 - k := ⟨_, rfl⟩
        obtain ⟨j, hj⟩ : ∃ j, j = m1 - k := ⟨_, rfl⟩
        have a1 : IntKind.i64.wrap ((n : Int) - 1) = (n1 : Int) := by rw [wrap_small (by omega) (by omega)]; omega
        have a2 : IntKind.i64.wrap ((n1 : Int) - (k : Int)) = (i : Int) := by rw [wrap_small (by omega) (by omega)]; omega
        have a3 : IntKind.i64.wrap ((m : Int) - 1) = (m1 : Int) := by rw [wrap_small (by omega) (by omega)]; omega
        have a4 : IntKind.i64.wrap ((m1 : Int) - (k : Int)) = (j : Int) := by rw [wrap_small (by omega) (by omega)]; omega
        have b1 : (0 : Int) ≤ i := by omega
        have b2 : (i : Int) < n := by omega
        have b3 : (0 : Int) ≤ j := by omega
        have b4 : (j : Int) < m := by omega
        obtain ⟨ad, rfl, had, hc⟩ := HX.out.str (k := i) (by omega)
        obtain ⟨ad', rfl, had', hc'⟩ := HY.out.str (k := j) (by omega)
        have c1 := Lib.hid (show n - k = i + 1 by omega)
        have c2 := Lib.hid (show m - k = j + 1 by omega)
        have c3 := Lib.hid (show n - (k + 1) = i by omega)
        have c4 := Lib.hid (show m - (k + 1) = j by omega)
        have c5 := Lib.hid (show i < xs.length by rw [HLx.out]; omega)
        have c6 := Lib.hid (show j < ys.length by rw [HLy.out]; omega)
        clear hn1 hm1 hi hj
        cases he : ((gs xs i).toList == (gs ys j).toList) with
        | true =>
          have hno := HN.out
          rw [c1.out, c2.out] at hno
          have hf := Lib.hid (show xs.drop (n - (k + 1)) = ys.drop (m - (k + 1)) by
            rw [c3.out, c4.out]
            exact dropS_more c5.out c6.out hno he)
          clear hno
          go_wp2
          go_quiet (fail)
          go_wp2
          go_roundg (n - (k + 1))
          case measure => rw [HG.out]; omega
          case rel => exact ⟨⟨_, rfl⟩, k + 1, by go_num, by omega, by omega, rfl, hf.out⟩
        | false =>
          go_wp2
          go_quiet (fail)
          go_wp2
          go_ret
          exact ⟨k, rfl, ⟨hk, hk2, HN.out⟩, d + nq, by rw [World.drewN_drewN]⟩

/-- edits of one kind -/
def mono (k : Int) (xs : List ByteArray) : List (Int × ByteArray) := xs.map fun s => (k, s)
theorem mono_len (k : Int) (xs : List ByteArray) : (mono k xs).length = xs.length := by simp [mono]
theorem mono_take {k : Int} {xs : List ByteArray} {i : Nat} (h : i < xs.length) : mono k (xs.take (i + 1)) = mono k (xs.take i) ++ [(k, gs xs i)] := by
  have e : xs[i] = gs xs i := by simp [gs, List.getElem?_eq_getElem h]
  rw [List.take_succ_eq_append_getElem h, mono, List.map_append, e]
  rfl

set_option maxRecDepth 100000 in
set_option maxHeartbeats 1000000 in
theorem edits_any (B : Nat) (A : Option Addr) (n c : Nat) (xs : List ByteArray) (kd : Int) (w : World) (hx : Reads w B 1 A n (strs xs)) (hB : B ≤ w.heap.size) (hn : n ≤ 1000000000000) :
    Calls Tryd.prog 134 #[.int .i64 kd, .slice A n c] w fun e w' => ∃ v, e = .returned v ∧ w'.ownsRow w.heap.size 138 2 v n (edCells (mono kd xs)) ∧ Grows w w' := by
  have HL := Lib.hid hx.strLen
  have HX := Lib.hid hx; clear hx
  obtain ⟨t1, hj0, hy0, hy1, hy2⟩ := info_parts Tryd.infoEdit
  go_enter Tryd.func134, Tryd.ntmps134
  go_wp2
  go_loopg [10, 5] n (fun gk q v wr => ∃ k : Nat, q = .int .i64 k ∧ k ≤ n ∧ gk = n - k ∧ wr.ownsRow w.heap.size 138 2 v k (edCells (mono kd (xs.take k))) ∧ Grows w wr)
  case atStart => exact ⟨0, rfl, by omega, rfl, World.ownsRow_nil _ _ _ _, Grows.refl _⟩
  case round =>
    obtain ⟨k, rfl, hk, hgk, hown, hgr⟩ := hrel
    have HG := Lib.hid hgk; clear hgk
    have hsz := hgr.size
    by_cases hlt : k < n
    · obtain ⟨ad, rfl, had, hc⟩ := ((HX.out).grows hB hgr).str hlt
      have HT := Lib.hid (mono_take (k := kd) (xs := xs) (i := k) (by rw [HL.out]; exact hlt))
      go_wp2_with (at_builtin; refine wpList_push rfl (.tmp 14) (.tmp 18) _ rfl (w.heap.size) 138 t1 _ 2 24 Tryd.underlying135 hj0 hy0 hy1 hy2 rfl (by decide) _ _ _ rfl ((hown).alloc _) ⟨(wr).heap.size, 0, none⟩ 1 1 [.int .i64 (kd), .string (gs xs k)] rfl rfl (cell_two_newE _ _ _ _) (by intro u hu; simp at hu; rcases hu with rfl | rfl <;> rfl) (by simp only [maxLen]; omega) (by omega) (by simp; omega) ?_; intro v' w1 hown1 hb1; have hgr1 : Grows w w1 := Below.trans (hgr.alloc _) hb1)
      go_roundg (n - (k + 1))
      case measure => rw [HG.out]; omega
      case rel => exact ⟨k + 1, by go_num, by omega, rfl, by rw [HT.out, edCells_append, edCells_one]; exact hown1, hgr1⟩
    · have hf := Lib.hid (show xs.take k = xs from List.take_of_length_le (by rw [HL.out]; omega))
      have hf2 := Lib.hid (show k = n by omega)
      go_wp2
      go_ret
      refine ⟨_, rfl, ?_, hgr⟩
      rw [hf.out, hf2.out] at hown
      exact hown

theorem side_take {k : Int} {l : List (Int × ByteArray)} {i : Nat} (h : i < l.length) : side k (l.take (i + 1)) = side k (l.take i) ++ (if (gek l i == 1 || gek l i == k) then [gel l i] else []) := by
  rw [List.take_succ_eq_append_getElem h, side_append]
  have e : l[i] = (gek l i, gel l i) := by simp [gek, gel, List.getElem?_eq_getElem h]
  rw [e]
  congr 1
  cases hh : (gek l i == 1 || gek l i == k) with
  | true => rw [side_cons_yes (e := (gek l i, gel l i)) hh]; rfl
  | false => rw [side_cons_no (e := (gek l i, gel l i)) hh]; rfl

end Go.Proofs.YtakgddochbcjbaaDoor
namespace Go.Proofs.YtakgddochbcjbaaDoor
open Go

section
variable {P : Program} {ops : Array Oper} {md : Region.Mode} {C : World → Prop}

def wpAnyLQ (P : Program) (md : Region.Mode) (ops : Array Oper) (C : World → Prop) (n : Nat) (L : Array Bool → Act → Prop) : Nat → Array Bool → Act → Prop
  | 0, listed, a => L listed a
  | f + 1, listed, a =>
    Region.ready md ops listed ≠ [] ∧ ∀ i ∈ Region.ready md ops listed, i < n ∧ qOp P ops C i (wpAnyLQ P md ops C n L f (listed.setIfInBounds i true)) a

theorem wpAny_of_headQ {n g : Nat} {L : Array Bool → Act → Prop} {Q' : Exit → Act → World → Prop} (hL : ∀ listed a w, C w → L listed a → wpAny P md ops Q' g listed a w) :
    ∀ (f : Nat) (listed : Array Bool) (a : Act) (w : World), C w → wpAnyLQ P md ops C n L f listed a → wpAny P md ops Q' (f + g) listed a w
  | 0, listed, a, w, hw, h => by rw [Nat.zero_add]; exact hL _ _ _ hw h
  | f + 1, listed, a, w, hw, h => by
    rw [show f + 1 + g = (f + g) + 1 by omega]
    exact ⟨fun h0 => absurd h0 h.1, fun i hi => wpOp_of_qOp hw (fun a' w' hw' h' => wpAny_of_headQ hL f _ a' w' hw' h') (h.2 i hi).2⟩

theorem wpAnyLQ_first {n i : Nat} {oi : Oper} {v : Value} {L : Array Bool → Act → Prop} (hi : ops[i]? = some oi) (hsel : ∀ (j : Nat) (o : Oper) cs b, ops[j]? = some o → o.op ≠ .select cs b)
    (hs : Region.sinkB md ops n = true) (hc : Region.chainB md ops n = true) (hn : n < ops.size) (hin : i < n)
    (hdone : ∀ listed a, L listed a → ∀ j ∈ Region.ready md ops listed, n ≤ j) :
    ∀ (f : Nat) (listed : Array Bool) (a : Act), HeadInv md ops n listed →
      (∀ j oj, ops[j]? = some oj → j ≠ i → listed.getD j true = false → (∀ e ∈ oj.after, Region.binds md e = true → e.on ≠ i) → oi.apart ops oj = true) →
      i ∈ Region.ready md ops listed → YieldsIn P ops C oi v a →
      wpAnyLQ P md ops C n L f (listed.setIfInBounds i true) (a.put oi.dst v) → wpAnyLQ P md ops C n L (f + 1) listed a := by
  intro f
  induction f with
  | zero =>
    intro listed a inv _ hr hy H
    have hun := (mem_ready.1 hr).1
    refine ⟨fun h => (by rw [h] at hr; cases hr), fun j hj => ?_⟩
    have hjn : j < n := by
      rcases Nat.lt_or_ge j n with h | h
      · exact h
      · exact absurd hj (tail_waits hs hc hn inv _ i rfl hin hun j h)
    refine ⟨hjn, ?_⟩
    by_cases hji : j = i
    · subst hji; exact hy.qOp hi H
    · have := hdone _ _ H j (ready_mono hj hji)
      omega
  | succ f ih =>
    intro listed a inv hfree hr hy H
    have hun := (mem_ready.1 hr).1
    refine ⟨fun h => (by rw [h] at hr; cases hr), fun j hj => ?_⟩
    have hjn : j < n := by
      rcases Nat.lt_or_ge j n with h | h
      · exact h
      · exact absurd hj (tail_waits hs hc hn inv _ i rfl hin hun j h)
    refine ⟨hjn, ?_⟩
    by_cases hji : j = i
    · subst hji; exact hy.qOp hi H
    · have h1 := (H.2 j (ready_mono hj hji)).2
      obtain ⟨hjun, oj, hoj, hall⟩ := mem_ready.1 hj
      have hnot : ∀ e ∈ oj.after, Region.binds md e = true → e.on ≠ i := fun e he hb heq => by
        have h1 := hall e he hb
        rw [heq, getD_both hun] at h1
        cases h1
      have h2 := qOp_put hoj (hfree j oj hoj hji hjun hnot) (fun cs b => hsel i oi cs b hi) (fun cs b => hsel j oj cs b hoj) hy h1
      have hfree' : ∀ k ok, ops[k]? = some ok → k ≠ i → (listed.setIfInBounds j true).getD k true = false →
          (∀ e ∈ ok.after, Region.binds md e = true → e.on ≠ i) → oi.apart ops ok = true := fun k ok hk hki hun hno => by
        refine hfree k ok hk hki ?_ hno
        by_cases hjk : j = k
        · subst hjk; exact hjun
        · rw [getD_set_ne true hjk] at hun; exact hun
      refine qOp_mono (fun a' h3 => ih (listed.setIfInBounds j true) a' (inv.set hj hjn) hfree' (ready_mono hr (Ne.symm hji)) h3.1 ?_) h2
      rw [Array.setIfInBounds_comm _ _ hji]
      exact h3.2

theorem wpAnyLQ_lex {n g : Nat} {Lq : Act → Prop} (hsel : Region.noSelect ops = true) (hs : Region.sinkB md ops n = true) (hc : Region.chainB md ops n = true) (hn : n < ops.size) :
    ∀ (l : List Oper) (k : Nat) (listed : Array Bool) (a : Act), (∀ j, j < l.length → l[j]? = ops[k + j]?) → k + l.length = n → HeadInv md ops n listed →
    Region.lexHead md ops g l.length k listed = true → wpQuiet P ops C Lq l a →
    wpAnyLQ P md ops C n (fun listed' a' => Region.seqB md ops g n listed' = true ∧ Lq a') l.length listed a
  | [], k, listed, a, _, hk, _, hB, h => by
    have : k = n := by simpa using hk
    subst this
    exact ⟨by simpa [Region.lexHead] using hB, h⟩
  | o :: l, k, listed, a, hl, hk, inv, hB, h => by
    have h0 : ops[k]? = some o := by simpa using (hl 0 (by simp)).symm
    simp only [List.length_cons, Region.lexHead, Bool.and_eq_true] at hB
    obtain ⟨⟨hr, hf⟩, hB'⟩ := hB
    have hkn : k < n := by simp only [List.length_cons] at hk; omega
    have hr' : k ∈ Region.ready md ops listed := by simpa using hr
    have hst : qOp P ops C k (wpQuiet P ops C Lq l) a := by unfold qOp; simp only [h0]; exact h
    obtain ⟨v, hy, hK⟩ := yieldsIn_of_qOp h0 hst
    exact wpAnyLQ_first h0 (Region.noSelect_spec hsel) hs hc hn hkn (fun listed' a' hL => seqB_ready hL.1) l.length listed a inv (Region.free_spec h0 hf) hr' hy
      (wpAnyLQ_lex hsel hs hc hn l (k + 1) _ _ (fun j hj => by have := hl (j + 1) (by simp; omega); simpa [Nat.add_assoc, Nat.add_comm 1 j] using this) (by simp only [List.length_cons] at hk; omega) (inv.set hr' hkn) hB' hK)

/-- The head is walked once, in every world of the class; then the tail, in the order of the text. -/
theorem wp_region_quiet_tail {id : Nat} {Q : Exit → Act → World → Prop} {a : Act} {w : World} {l : List Oper} (n : Nat) (hm : P.follows .mixedOrders = true) (hB : Region.lexTailB .any l.toArray n = true)
    (h : wpQuiet P l.toArray (fun w' => ∃ d, w' = w.drewN d) (fun a' => ∀ w', (∃ d, w' = w.drewN d) → wpList P l.toArray Q (l.drop n) a' w') (l.take n) a) : (Code.region id l.toArray true).wp P Q a w := by
  simp only [Region.lexTailB, Bool.and_eq_true, decide_eq_true_eq] at hB
  obtain ⟨⟨⟨⟨hsel, hn⟩, hs⟩, hc⟩, hlex⟩ := hB
  have hn' : n < l.length := by simpa using hn
  have htl : (l.take n).length = n := by simp; omega
  have hdl : (l.drop n).length = l.toArray.size - n := by simp
  have inv0 : HeadInv .any l.toArray n (Array.replicate l.toArray.size false) :=
    ⟨by simp, fun j oj _ hl => (by rw [getD_replicate_false] at hl; cases hl), fun t _ ht => getD_in (by simpa using ht) (getD_replicate_false _ _)⟩
  have H := wpAnyLQ_lex (md := .any) (g := l.toArray.size - n) hsel hs hc hn (l.take n) 0 _ a (fun j hj => by
    have hj' : j < n := by rw [htl] at hj; exact hj
    simp [hj']) (by simpa using htl) inv0 (by rw [htl]; exact hlex) h
  refine wp_region_any hm ?_
  have := wpAny_of_headQ (Q' := Q) (g := l.toArray.size - n) (fun listed a' wx hwx hL => by
    have := wpAny_of_seq (md := .any) (Q' := Q) (l.drop n) n listed a' wx (fun j => by simp [List.getElem?_drop]) (by rw [hdl]; exact hL.1) (hL.2 wx hwx)
    rwa [hdl] at this) _ _ _ { w with drawn := w.drawn + 1 } ⟨1, rfl⟩ H
  rw [htl, show n + (l.toArray.size - n) = l.toArray.size by omega] at this
  exact this
end
end Go.Proofs.YtakgddochbcjbaaDoor
