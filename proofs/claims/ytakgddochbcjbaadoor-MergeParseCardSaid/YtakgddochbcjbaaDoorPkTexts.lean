/- chunk's texts: their shape, what the call's own writes leave, what they are read as; kind, ours0, theirs0. -/
import Derived.Test.YtakgddochbcjbaaDoorPkStands
import Derived.Test.YtakgddochbcjbaaDoorPkParseSpec
import Derived.Test.YtakgddochbcjbaaDoorPkMixS
namespace Go.Proofs.YtakgddochbcjbaaDoor
open Go.RowKit Go.Deep Go.MapKept

/-- all below B stays, and all blocks but those of texts and of chunks -/
structure Turn (B : Nat) (w w' : World) : Prop where
  below : Below B w w'
  block : ∀ g, g < w.heap.size → (∀ cs t fr, w.heap[g]? = some (.cells cs t fr) → t ≠ 121 ∧ t ≠ 36) → w'.heap[g]? = w.heap[g]?
section
variable {B : Nat} {w w' w'' : World}
theorem Turn.refl (B : Nat) (w : World) : Turn B w w := ⟨Below.refl _ _, fun _ _ _ => rfl⟩
theorem Turn.size (h : Turn B w w') : w.heap.size ≤ w'.heap.size := h.below.size
theorem Turn.trans (h : Turn B w w') (h' : Turn B w' w'') : Turn B w w'' :=
  ⟨h.below.trans h'.below, fun g hg ht => by
    have e := h.block g hg ht
    rw [← e]
    exact h'.block g (Nat.lt_of_lt_of_le hg h.size) (fun cs t fr hc => ht cs t fr (by rw [← e]; exact hc))⟩
theorem Turn.of_grows (h : Grows w w') (hB : B ≤ w.heap.size) : Turn B w w' := ⟨Below.mono h hB, fun g hg _ => h.block g hg⟩
theorem Turn.of_row {row : Option Nat} (h : w.grownBy w' row) (hB : B ≤ w.heap.size) (hr : ∀ g, row = some g → B ≤ g ∧ ∃ cs t fr, w.heap[g]? = some (.cells cs t fr) ∧ (t = 121 ∨ t = 36)) : Turn B w w' := by
  refine ⟨(Below.refl B w).grown h hB (fun k hk => (hr k hk).1), fun g hg ht => h.block g hg fun e => ?_⟩
  obtain ⟨cs, t, fr, h1, h2⟩ := (hr g e.symm).2
  have := ht cs t fr h1
  rcases h2 with h2 | h2
  · exact this.1 h2
  · exact this.2 h2
theorem Turn.grows_left (h : Grows w w') (hB : B ≤ w.heap.size) (h' : Turn B w' w'') : Turn B w w'' := (Turn.of_grows h hB).trans h'
theorem Turn.blk {g : Nat} {t : TypeId} {cs : Array Value} (h : Turn B w w') (hb : Blk w g t cs) (h1 : t ≠ 121) (h2 : t ≠ 36) : Blk w' g t cs :=
  (h.block g hb.lt fun cs' t' fr hc => by
    unfold Blk at hb
    rw [hb] at hc
    injection hc with hc
    injection hc with _ e
    subst e
    exact ⟨h1, h2⟩).trans hb
theorem Turn.map {κ : Type} {k : TypeId} {kl : κ → Lit} {ok : κ → Prop} {b n : Nat} {f : κ → Option Int} (h : Turn B w w') (hm : MapFn k kl ok w b n f) : MapFn k kl ok w' b n f := by
  obtain ⟨D, ⟨es, c, hb, r⟩, h2⟩ := hm
  refine ⟨D, ⟨es, c, (h.block b (Array.getElem?_eq_some_iff.1 hb).1 fun cs t fr hc => ?_).trans hb, r⟩, h2⟩
  rw [hb] at hc
  cases hc
theorem Turn.owns {v : Value} {ys : List ByteArray} (h : Turn B w w') (ho : OwnS w v ys) : OwnS w' v ys := by
  refine ⟨ho.1, ?_⟩
  rcases ho.2 with hn | ⟨g, cap, cur, rfl, hb, hg, rest⟩
  · exact .inl hn
  · refine .inr ⟨g, cap, cur, rfl, hb, (h.block g (Array.getElem?_eq_some_iff.1 hg).1 fun cs t fr hc => ?_).trans hg, rest⟩
    rw [hg] at hc
    injection hc with hc
    injection hc with _ e
    subst e
    exact ⟨by decide, by decide⟩
end

/-- the texts as far as they were gone through -/
structure TX (w : World) (B T : Nat) (sa sb sc : Value) (p o t : Nat) (v : Value) (out : List ChkB) : Prop where
  base : B ≤ T
  blk : Blk w T 121 #[sa, sb, sc, .int .i64 p, .int .i64 o, .int .i64 t, v]
  row : ∃ xs, w.ownsRow B 36 4 v out.length xs ∧ Parts w out xs
theorem TX.grows {w w' : World} {B T : Nat} {sa sb sc : Value} {p o t : Nat} {v : Value} {out : List ChkB} (h : TX w B T sa sb sc p o t v out) (hg : Grows w w') : TX w' B T sa sb sc p o t v out := by
  obtain ⟨h1, h2, xs, h3, h4⟩ := h
  exact ⟨h1, (hg.block T h2.lt).trans h2, xs, own_grows h3 hg, Parts.mono (fun v ys h => h.grows hg) h4⟩

set_option maxRecDepth 100000 in
set_option maxHeartbeats 400000 in
theorem ours0_any (w : World) (T : Nat) (sa sb sc v : Value) (p o t : Int) (h : Blk w T 121 #[sa, sb, sc, .int .i64 p, .int .i64 o, .int .i64 t, v]) :
    Calls Tryd.prog 111 #[.pointer (some ⟨T, 0, none⟩)] w fun e w' => e = .returned (.int .i64 o) ∧ w = w' := by
  have hc := h.cell 4
  simp only [List.getElem?_toArray, List.getElem?_cons_succ, List.getElem?_cons_zero] at hc
  go_enter Tryd.func111, Tryd.ntmps111
  go_wp2
  go_ret
  exact ⟨rfl, rfl⟩
set_option maxRecDepth 100000 in
set_option maxHeartbeats 400000 in
theorem theirs0_any (w : World) (T : Nat) (sa sb sc v : Value) (p o t : Int) (h : Blk w T 121 #[sa, sb, sc, .int .i64 p, .int .i64 o, .int .i64 t, v]) :
    Calls Tryd.prog 112 #[.pointer (some ⟨T, 0, none⟩)] w fun e w' => e = .returned (.int .i64 t) ∧ w = w' := by
  have hc := h.cell 5
  simp only [List.getElem?_toArray, List.getElem?_cons_succ, List.getElem?_cons_zero] at hc
  go_enter Tryd.func112, Tryd.ntmps112
  go_wp2
  go_ret
  exact ⟨rfl, rfl⟩

set_option maxRecDepth 100000 in
set_option maxHeartbeats 1000000 in
theorem kind_any (B : Nat) (k : Int) (A1 A2 A3 : Option Addr) (n1 n2 n3 c1 c2 c3 : Nat) (x1 x2 x3 : List ByteArray) (w : World)
    (h1 : Reads w B 1 A1 n1 (strs x1)) (h2 : Reads w B 1 A2 n2 (strs x2)) (h3 : Reads w B 1 A3 n3 (strs x3)) (hB : B ≤ w.heap.size) (l2 : n2 ≤ 1000000000000) (l3 : n3 ≤ 1000000000000) :
    Calls Tryd.prog 113 #[.agg #[.int .i64 k, .slice A1 n1 c1, .slice A2 n2 c2, .slice A3 n3 c3]] w fun e w' => e = .returned (.int .i64 (knd x1 x2 x3)) ∧ Grows w w' := by
  have hg : Grows w (w.alloc (.cells #[.int .i64 k, .slice A1 n1 c1, .slice A2 n2 c2, .slice A3 n3 c3] 36)) := (Grows.refl w).alloc _
  have R1 := Lib.hid (h1.grows hB hg)
  have R2 := Lib.hid (h2.grows hB hg)
  have R3 := Lib.hid (h3.grows hB hg)
  have HG := Lib.hid hg
  clear h1 h2 h3 hg
  cases e1 : eqS x2 x1 with
  | true =>
    have hf := Lib.hid (show knd x1 x2 x3 = 3 by unfold knd; rw [if_pos (eqS_iff.1 e1)])
    go_enter Tryd.func113, Tryd.ntmps113
    go_wp2_with fail
    refine (equal_any B B A2 A1 n2 n1 c2 c1 x2 x1 _ R2.out R1.out l2).mono ?_
    rintro e w1 ⟨rfl, d1, rfl⟩
    rw [e1]
    go_wp2_with fail
    go_ret
    exact ⟨ret_int hf.out.symm, HG.out.drewN _⟩
  | false =>
    have ne1 : ¬ x2 = x1 := fun e => by rw [eqS_iff.2 e] at e1; cases e1
    cases e2 : eqS x3 x1 with
    | true =>
      have hf := Lib.hid (show knd x1 x2 x3 = 2 by unfold knd; rw [if_neg ne1, if_pos (eqS_iff.1 e2)])
      clear ne1
      go_enter Tryd.func113, Tryd.ntmps113
      go_wp2_with fail
      refine (equal_any B B A2 A1 n2 n1 c2 c1 x2 x1 _ R2.out R1.out l2).mono ?_
      rintro e w1 ⟨rfl, d1, rfl⟩
      rw [e1]
      go_wp2_with fail
      refine (equal_any B B A3 A1 n3 n1 c3 c1 x3 x1 _ (R3.out.drewN _) (R1.out.drewN _) l3).mono ?_
      rintro e w1 ⟨rfl, d2, rfl⟩
      rw [e2]
      go_wp2_with fail
      go_ret
      exact ⟨ret_int hf.out.symm, HG.out.drewN _⟩
    | false =>
      have ne2 : ¬ x3 = x1 := fun e => by rw [eqS_iff.2 e] at e2; cases e2
      cases e3 : eqS x2 x3 with
      | true =>
        have hf := Lib.hid (show knd x1 x2 x3 = 4 by unfold knd; rw [if_neg ne1, if_neg ne2, if_pos (eqS_iff.1 e3)])
        clear ne1 ne2
        go_enter Tryd.func113, Tryd.ntmps113
        go_wp2_with fail
        refine (equal_any B B A2 A1 n2 n1 c2 c1 x2 x1 _ R2.out R1.out l2).mono ?_
        rintro e w1 ⟨rfl, d1, rfl⟩
        rw [e1]
        go_wp2_with fail
        refine (equal_any B B A3 A1 n3 n1 c3 c1 x3 x1 _ (R3.out.drewN _) (R1.out.drewN _) l3).mono ?_
        rintro e w1 ⟨rfl, d2, rfl⟩
        rw [e2]
        go_wp2_with fail
        refine (equal_any B B A2 A3 n2 n3 c2 c3 x2 x3 _ (R2.out.drewN _) (R3.out.drewN _) l2).mono ?_
        rintro e w1 ⟨rfl, d3, rfl⟩
        rw [e3]
        go_wp2_with fail
        go_ret
        exact ⟨ret_int hf.out.symm, HG.out.drewN _⟩
      | false =>
        have ne3 : ¬ x2 = x3 := fun e => by rw [eqS_iff.2 e] at e3; cases e3
        have hf := Lib.hid (show knd x1 x2 x3 = 5 by unfold knd; rw [if_neg ne1, if_neg ne2, if_neg ne3])
        clear ne1 ne2 ne3
        go_enter Tryd.func113, Tryd.ntmps113
        go_wp2_with fail
        refine (equal_any B B A2 A1 n2 n1 c2 c1 x2 x1 _ R2.out R1.out l2).mono ?_
        rintro e w1 ⟨rfl, d1, rfl⟩
        rw [e1]
        go_wp2_with fail
        refine (equal_any B B A3 A1 n3 n1 c3 c1 x3 x1 _ (R3.out.drewN _) (R1.out.drewN _) l3).mono ?_
        rintro e w1 ⟨rfl, d2, rfl⟩
        rw [e2]
        go_wp2_with fail
        refine (equal_any B B A2 A3 n2 n3 c2 c3 x2 x3 _ (R2.out.drewN _) (R3.out.drewN _) l2).mono ?_
        rintro e w1 ⟨rfl, d3, rfl⟩
        rw [e3]
        go_wp2_with fail
        go_ret
        exact ⟨ret_int hf.out.symm, HG.out.drewN _⟩

end Go.Proofs.YtakgddochbcjbaaDoor
