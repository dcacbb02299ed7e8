/- Rows of strings of the call's own; lists of them. slices.Equal at strings. slices.Clone at strings. -/
import Derived.Test.YtakgddochbcjbaaDoorPkStrs
import Derived.Test.YtakgddochbcjbaaDoorPkDiff1
import Derived.Test.YtakgddochbcjbaaDoorPkCommon
namespace Go.Proofs.YtakgddochbcjbaaDoor
open Go.RowKit Go.Deep Go.MapKept

/-- a row of strings of the call's own, wherever it stands -/
def OwnS (w : World) (v : Value) (ys : List ByteArray) : Prop := w.ownsRow 0 9 1 v ys.length (strs ys)
theorem OwnS.of {w : World} {B n : Nat} {v : Value} {ys : List ByteArray} (h : w.ownsRow B 9 1 v n (strs ys)) : OwnS w v ys := by
  have hl : ys.length = n := by have := h.1; simpa [strs] using this
  unfold OwnS
  rw [hl]
  exact own_mono h (Nat.zero_le _)
theorem OwnS.grows {w w' : World} {v : Value} {ys : List ByteArray} (h : OwnS w v ys) (hg : Grows w w') : OwnS w' v ys := own_grows h hg
theorem OwnS.form {w : World} {v : Value} {ys : List ByteArray} (h : OwnS w v ys) : ∃ A c, v = .slice A ys.length c ∧ ys.length ≤ c ∧ c ≤ maxLen := own_form h
theorem OwnS.reads {w : World} {A : Option Addr} {n c : Nat} {ys : List ByteArray} (h : OwnS w (.slice A n c) ys) : Reads w w.heap.size 1 A n (strs ys) := by
  obtain ⟨A', c', e, _, _⟩ := h.form
  injection e with e1 e2 e3
  subst e1 e2 e3
  exact Reads.of_own h
theorem own_own_ne {w : World} {B B' e e' size size' n n' : Nat} {v v' : Value} {xs xs' : List Value} (h : w.ownsRow B e size v n xs) (h' : w.ownsRow B' e' size' v' n' xs') (hne : e ≠ e') : v.ownBlock = none ∨ v.ownBlock ≠ v'.ownBlock := by
  rcases h.2 with ⟨rfl, _⟩ | ⟨g, cap, cur, rfl, _, hg, _⟩
  · exact .inl rfl
  · refine .inr fun he => ?_
    rcases h'.2 with ⟨rfl, _⟩ | ⟨g', cap', cur', rfl, _, hg', _⟩
    · simp [Value.ownBlock] at he
    · have : g = g' := by simpa [Value.ownBlock] using he
      subst this
      rw [hg] at hg'
      injection hg' with hg'
      injection hg' with _ h2
      exact hne h2
/-- what is appended to a row of another kind leaves it -/
theorem OwnS.beside {w w' : World} {B e size n : Nat} {u v : Value} {xs : List Value} {ys : List ByteArray} (h : OwnS w v ys) (hu : w.ownsRow B e size u n xs) (hne : 9 ≠ e) (hg : w.grownBy w' u.ownBlock) : OwnS w' v ys :=
  World.ownsRow.kept h hg (own_own_ne h hu hne)

theorem OwnS.alloc {w : World} {v : Value} {ys : List ByteArray} (h : OwnS w v ys) (o : Obj) : OwnS (w.alloc o) v ys := h.grows ((Grows.refl w).alloc o)
/-- a longer row's beginning -/
theorem own_take {w : World} {B g n k c : Nat} {xs : List ByteArray} (h : w.ownsRow B 9 1 (.slice (some ⟨g, 0, none⟩) n c) n (strs xs)) (hk : k ≤ n) : w.ownsRow B 9 1 (.slice (some ⟨g, 0, none⟩) k c) k (strs (xs.take k)) := by
  obtain ⟨hl, h | ⟨g', cap, cur, e, h1, h2, h3, h4, h5, h6⟩⟩ := h
  · cases h.1
  · injection e with e1 e2 e3
    injection e1 with e1
    injection e1 with e1 _ _
    subst e1 e3
    refine ⟨by rw [strs_len, List.length_take]; rw [strs_len] at hl; omega, .inr ⟨g, c, cur, rfl, h1, h2, by omega, h4, h5, ?_⟩⟩
    rw [strs, List.map_take, show List.map (fun s => Value.string s) xs = strs xs from rfl, ← h6, List.take_take, Nat.mul_one, Nat.mul_one, Nat.min_eq_left hk]
theorem Tryd.infoSl : (Tryd.prog.info? 28).map (fun i => (i.zero, i.size, i.bytes)) = some (some (.slice none 0 0), 1, 24) := by kernel_rfl
/-- values that are rows of strings of the call's own -/
def PartsL (w : World) : List (List ByteArray) → List Value → Prop
  | [], [] => True
  | x :: l, v :: vs => OwnS w v x ∧ PartsL w l vs
  | _, _ => False
theorem PartsL.mono {w w' : World} (hk : ∀ v ys, OwnS w v ys → OwnS w' v ys) : ∀ {l : List (List ByteArray)} {vs : List Value}, PartsL w l vs → PartsL w' l vs
  | [], [], _ => trivial
  | _ :: _, _ :: _, h => ⟨hk _ _ h.1, PartsL.mono hk h.2⟩
  | [], _ :: _, h => h.elim
  | _ :: _, [], h => h.elim
theorem PartsL.snoc {w : World} {x : List ByteArray} {v : Value} (hv : OwnS w v x) : ∀ {l : List (List ByteArray)} {vs : List Value}, PartsL w l vs → PartsL w (l ++ [x]) (vs ++ [v])
  | [], [], _ => ⟨hv, trivial⟩
  | _ :: _, _ :: _, h => ⟨h.1, PartsL.snoc hv h.2⟩
  | [], _ :: _, h => h.elim
  | _ :: _, [], h => h.elim
theorem PartsL.len {w : World} : ∀ {l : List (List ByteArray)} {vs : List Value}, PartsL w l vs → l.length = vs.length
  | [], [], _ => rfl
  | _ :: _, _ :: _, h => by rw [List.length_cons, List.length_cons, PartsL.len h.2]
  | [], _ :: _, h => h.elim
  | _ :: _, [], h => h.elim
theorem PartsL.get {w : World} : ∀ {l : List (List ByteArray)} {vs : List Value} {k : Nat}, PartsL w l vs → k < l.length → ∃ v, vs[k]? = some v ∧ OwnS w v (l.getD k [])
  | [], _, _, _, h => absurd h (by simp)
  | _ :: _, v :: _, 0, h, _ => ⟨v, rfl, h.1⟩
  | _ :: l, _ :: vs, k + 1, h, hk => by
    obtain ⟨v, e, hv⟩ := PartsL.get (k := k) h.2 (by simpa using hk)
    exact ⟨v, by simpa using e, by simpa using hv⟩
  | _ :: _, [], _, h, _ => h.elim
end Go.Proofs.YtakgddochbcjbaaDoor
namespace Go.Proofs.YtakgddochbcjbaaDoor
open Go.RowKit Go.Deep Go.MapKept

set_option maxRecDepth 100000 in
set_option maxHeartbeats 1000000 in
theorem equal_any (B B' : Nat) (A A' : Option Addr) (n n' c c' : Nat) (xs ys : List ByteArray) (w : World) (hx : Reads w B 1 A n (strs xs)) (hy : Reads w B' 1 A' n' (strs ys)) (hn : n ≤ 1000000000000) :
    Calls Tryd.prog 138 #[.slice A n c, .slice A' n' c'] w fun e w' => e = .returned (.bool (eqS xs ys)) ∧ ∃ m, w' = w.drewN m := by
  have HLx := Lib.hid hx.strLen
  have HLy := Lib.hid hy.strLen
  have HX := Lib.hid hx; clear hx
  have HY := Lib.hid hy; clear hy
  by_cases hnn : n = n'
  · subst hnn
    go_enter Tryd.func138, Tryd.ntmps138
    go_wp2
    go_loopg [13] n (fun gk q wr => (∃ m, wr = w.drewN m) ∧ ∃ k : Nat, q = .int .i64 k ∧ k ≤ n ∧ gk = n - k ∧ xs.take k = ys.take k)
    case atStart => exact ⟨⟨0, rfl⟩, 0, rfl, by omega, rfl, rfl⟩
    case round =>
      obtain ⟨⟨m, rfl⟩, k, rfl, hk, hgk, hno⟩ := hrel
      have HG := Lib.hid hgk; clear hgk
      have HN := Lib.hid hno; clear hno
      by_cases hlt : k < n
      · obtain ⟨ad, rfl, had, hc⟩ := HX.out.str hlt
        obtain ⟨ad', rfl, had', hc'⟩ := HY.out.str hlt
        have hct := Lib.hid (take_eq_succS HLx.out HLy.out hlt)
        have k0 : (0 : Int) ≤ k := by omega
        have k1 : (k : Int) < n := by omega
        cases he : ((gs xs k).toList == (gs ys k).toList) with
        | true =>
          have he2 := he
          rw [← beq_toListBytes, bytes_beq] at he2
          have hf := Lib.hid (show xs.take (k + 1) = ys.take (k + 1) from hct.out.2 ⟨HN.out, he2⟩)
          have hb : ((gs xs k).toList != (gs ys k).toList) = false := by unfold bne; rw [he]; rfl
          clear he2
          go_wp2
          go_quiet (fail)
          go_wp2
          go_roundg (n - (k + 1))
          case measure => rw [HG.out]; omega
          case rel => exact ⟨⟨_, rfl⟩, k + 1, by go_num, by omega, rfl, hf.out⟩
        | false =>
          have hf := Lib.hid (show eqS xs ys = false by
            rw [eqS, decide_eq_false_iff_not]
            rintro rfl
            simp at he)
          have hb : ((gs xs k).toList != (gs ys k).toList) = true := by unfold bne; rw [he]; rfl
          go_wp2
          go_quiet (fail)
          go_wp2
          go_ret
          exact ⟨ret_bool hf.out.symm, m + nq, by rw [World.drewN_drewN]⟩
      · have hf := Lib.hid (show xs = ys by
          have := HN.out
          rw [List.take_of_length_le (by rw [HLx.out]; omega), List.take_of_length_le (by rw [HLy.out]; omega)] at this
          exact this)
        go_wp2
        go_ret
        exact ⟨ret_bool (by rw [hf.out, eqS_self]), m, rfl⟩
  · have hf := Lib.hid (show eqS xs ys = false by
      rw [eqS, decide_eq_false_iff_not]
      rintro rfl
      exact hnn (HLx.out.symm.trans HLy.out))
    have hne : ((n : Int) != (n' : Int)) = true := by simp; omega
    go_enter Tryd.func138, Tryd.ntmps138
    go_wp2
    go_ret
    exact ⟨ret_bool hf.out.symm, 0, rfl⟩
end Go.Proofs.YtakgddochbcjbaaDoor
namespace Go.Proofs.YtakgddochbcjbaaDoor
open Go.RowKit Go.Deep Go.MapKept

theorem Tryd.slice_nil (c : Nat) (w : World) : (binOp .eql 28 (.slice none 0 c) (.slice none 0 0)).run Tryd.prog w = .ok (.bool true) w := by kernel_rfl
theorem Tryd.slice_some (ad : Addr) (n c : Nat) (w : World) : (binOp .eql 28 (.slice (some ad) n c) (.slice none 0 0)).run Tryd.prog w = .ok (.bool false) w := by kernel_rfl

set_option maxRecDepth 100000 in
set_option maxHeartbeats 1000000 in
theorem clone_any (B : Nat) (A : Option Addr) (n c : Nat) (xs : List ByteArray) (w : World) (hx : Reads w B 1 A n (strs xs)) (hB : B ≤ w.heap.size) (hn : n ≤ 1000000000000) :
    Calls Tryd.prog 110 #[.slice A n c] w fun e w' => ∃ v, e = .returned v ∧ OwnS w' v xs ∧ Grows w w' := by
  have HX := Lib.hid hx; clear hx
  have HL := Lib.hid HX.out.strLen
  obtain ⟨s0, hs0, hs1, hs2, hs3⟩ := info_parts Tryd.infoStr
  go_enter Tryd.func110, Tryd.ntmps110
  cases A with
  | none =>
    have hn0 : n = 0 := by
      rcases Nat.eq_zero_or_pos n with h0 | h0
      · exact h0
      · obtain ⟨ad, h, _⟩ := HX.out.2 h0
        cases h
    subst hn0
    have hxs : xs = [] := List.eq_nil_of_length_eq_zero HL.out
    subst hxs
    have hnil := Tryd.slice_nil c w
    go_wp2_with fail
    go_ret
    exact ⟨_, rfl, World.ownsRow_nil _ _ _ _, Grows.refl _⟩
  | some ad =>
    have hnil := Tryd.slice_some ad n c w
    have hlit : (w.alloc (.cells #[] 9)).ownsRow w.heap.size 9 1 (.slice (some ⟨w.heap.size, 0, none⟩) 0 0) 0 [] := World.ownsRow_made w #[] 0 (Nat.le_refl _) (Nat.zero_le _) rfl
    have hrd := HX.out.alloc hB (.cells #[] 9)
    have hg0 : Grows w (w.alloc (.cells #[] 9)) := (Grows.refl w).alloc _
    go_wp2_with (at_builtin; refine wpList_append_any _ rfl (.tmp 5) (.tmp 6) _ rfl w.heap.size 9 s0 _ 1 16 Tryd.underlying28 hs0 hs1 hs2 hs3 rfl (by decide) _ _ _ rfl hlit B _ _ _ _ rfl hrd (strs_oneCell _) (by simp only [maxLen]; omega) (by omega) hg0.size ?_; intro v1 w1 hown1 hgb1 hor1; have hgr1 : Grows w w1 := Below.grown hg0 hgb1 hg0.size (fun k hk => (hlit.lt k hk).1))
    go_ret
    refine ⟨_, rfl, OwnS.of (B := w.heap.size) (n := 0 + n) ?_, hgr1⟩
    exact hown1

end Go.Proofs.YtakgddochbcjbaaDoor
