/- ChunkWhole: chunks, one behind the other, are the three texts; each is of the kind that it should be. -/
import Derived.Test.YtlimfndipapfdaaChunkOne
import Derived.Deep.CutBlock
import Derived.Deep.DeepCutAuto
namespace Go.Proofs.Ytlimfndipapfdaa
open Go.RowKit Go.Deep Go.MapKept

/-- two rows that share no block -/
def Sep (u v : Value) : Prop := ∀ g, u.ownBlock = some g → v.ownBlock ≠ some g
theorem Sep.symm {u v : Value} (h : Sep u v) : Sep v u := fun g h1 h2 => h g h2 h1
theorem Sep.nil (u : Value) : Sep (.slice none 0 0) u := by
  intro g h
  simp [Value.ownBlock] at h
/-- what is appended to one row leaves the other, and they stay apart -/
theorem push_other {w w' : World} {B e size n2 : Nat} {u u' v : Value} {ys : List Value} (hv : w.ownsRow B e size v n2 ys) (hap : Sep v u) (hg : w.grownBy w' u.ownBlock) (hor : u'.ownBlock = u.ownBlock ∨ u'.ownBlock = some w.heap.size) :
    w'.ownsRow B e size v n2 ys ∧ Sep v u' := by
  refine ⟨hv.kept hg ?_, ?_⟩
  · cases hb : v.ownBlock with
    | none => exact .inl rfl
    | some g => exact .inr (Ne.symm (hap g hb))
  · intro g hb
    have hlt := (hv.lt g hb).2
    rcases hor with h | h
    · rw [h]; exact hap g hb
    · rw [h]
      intro he
      have := Option.some.inj he
      omega
theorem noTwo_at : ∀ {l : List ChkB} {j : Nat}, noTwo l → j + 1 < l.length → (gch l (j + 1)).1 = 1 → (gch l j).1 ≠ 1
  | [], _, _, h, _ => absurd h (by simp)
  | [_], j, _, h, _ => absurd h (by simp)
  | c :: d :: l, 0, hn, _, h1 => fun h0 => hn.1 h0 d rfl h1
  | c :: d :: l, j + 1, hn, h, h1 => noTwo_at (l := d :: l) (j := j) hn.2 (by simpa using h) h1
theorem kind_bools {kd : Int} {y1 y2 y3 : List ByteArray} (h : RightK (kd, y1, y2, y3)) : kd = if (eqS y2 y1 && eqS y3 y1) then 1 else if eqS y2 y1 then 3 else if eqS y3 y1 then 2 else if eqS y2 y3 then 4 else 5 := by
  have h1 : kd = kindOf y1 y2 y3 := h.1
  rw [h1, kindOf, knd]
  simp [eqS]
theorem lens_ne {kd : Int} {y1 y2 y3 : List ByteArray} (h : RightK (kd, y1, y2, y3)) : ¬ y1.length + y2.length + y3.length = 0 := by
  intro h0
  exact (show ¬ (y1 = [] ∧ y2 = [] ∧ y3 = []) from h.2) ⟨List.eq_nil_of_length_eq_zero (by omega), List.eq_nil_of_length_eq_zero (by omega), List.eq_nil_of_length_eq_zero (by omega)⟩
theorem plainS_d (v : Bool) (B B' : Nat) (A A' : Option Addr) (n n' c c' : Nat) (xs ys : List ByteArray) (w : World) (hv : eqS xs ys = v) (hx : Reads w B 1 A n (strs xs)) (hy : Reads w B' 1 A' n' (strs ys)) (hn : n ≤ 1000000000000) (d : Nat) :
    Calls Try.prog 21 #[.slice A n c, .slice A' n' c'] (w.drewN d) fun e w' => e = .returned (.bool v) ∧ ∃ m, w' = (w.drewN d).drewN m := by
  subst hv
  exact plainS_any B B' A A' n n' c c' xs ys (w.drewN d) (hx.drewN d) (hy.drewN d) hn
theorem take_flat (f : ChkB → List ByteArray) {l : List ChkB} {k : Nat} (h : k < l.length) : (l.take (k + 1)).flatMap f = (l.take k).flatMap f ++ f (gch l k) := by
  rw [take_gch h, List.flatMap_append]
  simp
theorem strs_app (xs ys : List ByteArray) : strs xs ++ strs ys = strs (xs ++ ys) := by simp [strs]
theorem flat_short (f : ChkB → List ByteArray) {l : List ChkB} {x : List ByteArray} (h : l.flatMap f = x) (k : Nat) : ((l.take k).flatMap f).length ≤ x.length := by
  rw [← h]
  conv => rhs; rw [← List.take_append_drop k l, List.flatMap_append, List.length_append]
  omega

set_option maxRecDepth 100000 in
set_option maxHeartbeats 8000000 in
theorem cwhole_any (A0 A1 A2 : Option Addr) (n0 c0 n1 c1 n2 c2 : Nat) (x0 x1 x2 : List ByteArray) (w : World) (hr0 : Reads w w.heap.size 1 A0 n0 (strs x0)) (hn0 : n0 ≤ c0) (hc0 : c0 ≤ maxLen) (hr1 : Reads w w.heap.size 1 A1 n1 (strs x1)) (hn1 : n1 ≤ c1) (hc1 : c1 ≤ maxLen) (hr2 : Reads w w.heap.size 1 A2 n2 (strs x2)) (hn2 : n2 ≤ c2) (hc2 : c2 ≤ maxLen) :
    Calls Try.prog 10 #[.slice A0 n0 c0, .slice A1 n1 c1, .slice A2 n2 c2] w fun e w' => e = .returned (.bool true) ∧ Grows w w' := by
  obtain ⟨s0, hs0, hs1, hs2, hs3⟩ := info_parts Try.infoStr
  have L0 := Lib.hid hr0.strLen
  have L1 := Lib.hid hr1.strLen
  have L2 := Lib.hid hr2.strLen
  have H0 := Lib.hid hr0
  have H1 := Lib.hid hr1
  have H2 := Lib.hid hr2
  clear hr0 hr1 hr2
  go_enter Try.func10, Try.ntmps10
  by_cases hfew : n0 ≤ 60 ∧ n1 ≤ 60 ∧ n2 ≤ 60
  · have HD := Lib.hid (show decide (n0 ≤ 60 ∧ n1 ≤ 60 ∧ n2 ≤ 60) = true from decide_eq_true hfew)
    obtain ⟨g0, g1, g2⟩ := hfew
    go_wp2_with fail
    refine (few_v true A0 A1 A2 n0 n1 n2 c0 c1 c2 w HD.out).mono ?_
    rintro e _ ⟨rfl, rfl⟩
    go_wp2_with fail
    obtain ⟨l, hl⟩ : ∃ l, chunks x0 x1 x2 = l := ⟨_, rfl⟩
    have HL := Lib.hid hl
    have hN := chunks_len x0 x1 x2
    rw [hl, L0.out] at hN
    have hw := chunks_whole x0 x1 x2
    have hri := chunks_right x0 x1 x2
    have hno := chunks_noTwo x0 x1 x2
    rw [hl] at hw hri hno
    have W1 := Lib.hid hw.1
    have W2 := Lib.hid hw.2.1
    have W3 := Lib.hid hw.2.2
    have RI := Lib.hid hri
    have NO := Lib.hid hno
    clear hl hw hri hno
    refine (of_v l w.heap.size w.heap.size w.heap.size n0 n1 n2 c0 c1 c2 A0 A1 A2 x0 x1 x2 w HL.out H0.out H1.out H2.out (Nat.le_refl _) (Nat.le_refl _) (Nat.le_refl _) (by omega) (by omega) (by omega) hn0 hn1 hn2 hc0 hc1 hc2).mono ?_
    rintro e w1 ⟨B1, m1, q1, rfl, hC1, hg1, hq1, hqM1⟩
    have KL := Lib.hid hC1.len
    have hm1 : m1 ≤ 121 := by have := hC1.len; omega
    have C1 := Lib.hid hC1
    clear hC1
    go_wp2_with fail
    go_loopg [11, 8, 9, 10] m1 (fun gk q u v t wr => ∃ (k : Nat) (xs ys zs : List ByteArray), q = .int .i64 k ∧ k ≤ m1 ∧ gk = m1 - k ∧ xs = (l.take k).flatMap (·.2.1) ∧ ys = (l.take k).flatMap (·.2.2.1) ∧ zs = (l.take k).flatMap (·.2.2.2) ∧
      wr.ownsRow w1.heap.size 9 1 u xs.length (strs xs) ∧ wr.ownsRow w1.heap.size 9 1 v ys.length (strs ys) ∧ wr.ownsRow w1.heap.size 9 1 t zs.length (strs zs) ∧ Sep u v ∧ Sep u t ∧ Sep v t ∧ Grows w1 wr)
    case atStart => exact ⟨0, [], [], [], rfl, by omega, rfl, rfl, rfl, rfl, World.ownsRow_nil _ _ _ _, World.ownsRow_nil _ _ _ _, World.ownsRow_nil _ _ _ _, Sep.nil _, Sep.nil _, Sep.nil _, Grows.refl _⟩
    case round =>
      obtain ⟨k, xs, ys, zs, rfl, hk, hgk, hxs, hys, hzs, hu, hv, ht, a1, a2, a3, hgr⟩ := hrel
      have HG := Lib.hid hgk; clear hgk
      have HXS := Lib.hid hxs; clear hxs
      have HYS := Lib.hid hys; clear hys
      have HZS := Lib.hid hzs; clear hzs
      have hgw : Grows w wr := hg1.trans hgr
      by_cases hlt : k < m1
      · have hkl : k < l.length := by rw [KL.out]; exact hlt
        obtain ⟨ad, rfl, had, ha⟩ := (C1.out.grows (Nat.le_refl _) hgr).at_ hlt
        have hmem : gch l k ∈ l := by
          have : gch l k = l[k] := by simp [gch, List.getElem?_eq_getElem hkl]
          rw [this]; exact List.getElem_mem _
        have hr := RI.out _ hmem
        have t1 := take_flat (·.2.1) hkl
        have t2 := take_flat (·.2.2.1) hkl
        have t3 := take_flat (·.2.2.2) hkl
        have f1 := flat_short (·.2.1) W1.out (k + 1)
        have f2 := flat_short (·.2.2.1) W2.out (k + 1)
        have f3 := flat_short (·.2.2.2) W3.out (k + 1)
        rw [t1, ← HXS.out, List.length_append, L0.out] at f1
        rw [t2, ← HYS.out, List.length_append, L1.out] at f2
        rw [t3, ← HZS.out, List.length_append, L2.out] at f3
        rw [← HXS.out] at t1
        rw [← HYS.out] at t2
        rw [← HZS.out] at t3
        have hnt : ∀ j, k = j + 1 → (gch l k).1 = 1 → (gch l j).1 ≠ 1 := fun j hj h1 => noTwo_at NO.out (by rw [← hj]; exact hkl) (by rw [← hj]; exact h1)
        obtain ⟨ch, hch⟩ : ∃ ch, gch l k = ch := ⟨_, rfl⟩
        rw [hch] at ha hr t1 t2 t3 f1 f2 f3 hnt
        clear hch hmem hkl
        obtain ⟨kd, y1, y2, y3⟩ := ch
        obtain ⟨p0, ⟨E1, v1, q1', p1, r1⟩, ⟨E2, v2, q2', p2, r2⟩, ⟨E3, v3, q3', p3, r3⟩⟩ := ha
        dsimp only at p0 hr t1 t2 t3 r1 r2 r3 f1 f2 f3 hnt
        have T1 := Lib.hid t1
        have T2 := Lib.hid t2
        have T3 := Lib.hid t3
        have HNT := Lib.hid hnt
        have HR := Lib.hid hr
        have b1 := r1.strLen
        have b2 := r2.strLen
        have b3 := r3.strLen
        have R1 := Lib.hid r1
        have R2 := Lib.hid r2
        have R3 := Lib.hid r3
        have P1 := Lib.hid p1
        clear t1 t2 t3 hnt hr r1 r2 r3
        have k0 : (0 : Int) ≤ k := by omega
        have k1 : (k : Int) < m1 := by omega
        go_wp2_with fail
        have hgn : Grows wr (wr.alloc (.cells #[.int .i64 kd, .slice E1 v1 q1', .slice E2 v2 q2', .slice E3 v3 q3'] 42)).drew := ((Grows.refl wr).alloc _).drew
        have hB := (Blk.new wr 42 #[.int .i64 kd, .slice E1 v1 q1', .slice E2 v2 q2', .slice E3 v3 q3']).drew
        have ru := own_grows hu hgn
        have rv := own_grows hv hgn
        have rt := own_grows ht hgn
        have hb : Below w1.heap.size wr (wr.alloc (.cells #[.int .i64 kd, .slice E1 v1 q1', .slice E2 v2 q2', .slice E3 v3 q3'] 42)).drew := Below.mono hgn hgr.size
        have hbs : w1.heap.size ≤ (wr.alloc (.cells #[.int .i64 kd, .slice E1 v1 q1', .slice E2 v2 q2', .slice E3 v3 q3'] 42)).drew.heap.size := Nat.le_trans hgr.size hgn.size
        obtain ⟨g, hg⟩ : ∃ g, g = wr.heap.size := ⟨_, rfl⟩
        rw [← hg] at hB ⊢
        clear hg hu hv ht hgn p0 p2 p3 p1
        obtain ⟨S, hS⟩ : ∃ S : World → Prop, S = fun w' => Blk w' g 42 #[.int .i64 kd, .slice E1 v1 q1', .slice E2 v2 q2', .slice E3 v3 q3'] := ⟨_, rfl⟩
        have hSb : ∀ s : SW S, Blk s.w g 42 #[.int .i64 kd, .slice E1 v1 q1', .slice E2 v2 q2', .slice E3 v3 q3'] := fun s => by
          have := s.ok
          subst hS
          exact this
        have hS1 : ∀ s : SW S, s.w.cell? ⟨g, 1, none⟩ = some (.slice E1 v1 q1') := fun s => (hSb s).cell 1
        have hS2 : ∀ s : SW S, s.w.cell? ⟨g, 2, none⟩ = some (.slice E2 v2 q2') := fun s => (hSb s).cell 2
        have hS3 : ∀ s : SW S, s.w.cell? ⟨g, 3, none⟩ = some (.slice E3 v3 q3') := fun s => (hSb s).cell 3
        have hSi : ∀ w', Blk w' g 42 #[.int .i64 kd, .slice E1 v1 q1', .slice E2 v2 q2', .slice E3 v3 q3'] → S w' := by rw [hS]; exact fun _ h => h
        have hSS : S (wr.alloc (.cells #[.int .i64 kd, .slice E1 v1 q1', .slice E2 v2 q2', .slice E3 v3 q3'] 42)).drew := hSi _ hB
        clear hSb hS
        haveI : Nonempty (SW S) := ⟨⟨_, hSS⟩⟩
        refine wp_region_seq S [([0, 1, 2, 4, 5, 6, 8, 9, 10], 3), ([], 7), ([], 11)] [] [([], [12, 13, 14])] (by kernel_rfl) (fun _ _ _ _ _ h => h) (by kernel_rfl) hSS ?_
        simp only [pickS, pickT, pickL, List.map_cons, List.map_nil, List.filterMap_cons, List.filterMap_nil, List.getElem?_cons_zero, List.getElem?_cons_succ]
        generalize (wr.alloc (.cells #[.int .i64 kd, .slice E1 v1 q1', .slice E2 v2 q2', .slice E3 v3 q3'] 42)).drew = w5 at hB ru rv rt hb hbs ⊢
        clear hSS
        refine wpSeq_consK fun K2 hK2 K hK => ?_
        repeat (show wpQuiet _ _ _ _ (_ :: _) _; go_big_quiet_step (fail))
        refine wpQuiet_nil (hK _ ?_)
        clear hK K
        show wpList _ _ _ [_] _ _
        go_wp2_with (at_builtin; refine wpList_append_any _ rfl (.tmp 37) (.tmp 39) _ rfl w1.heap.size 9 s0 _ 1 16 Try.underlying22 hs0 hs1 hs2 hs3 rfl (by decide) _ _ _ rfl ru _ _ _ _ _ rfl (R1.out.below hb) (strs_oneCell _) (by simp only [maxLen]; omega) (by omega) hbs ?_; intro u' w6 ru' hgb6 hor6)
        obtain ⟨rv1, s1⟩ := push_other rv a1.symm hgb6 hor6
        obtain ⟨rt1, s2⟩ := push_other rt a2.symm hgb6 hor6
        have hB6 := hB.grown hgb6 (Ne.symm (own_blk_ne ru hB (by decide)))
        have hb6 := hb.grown hgb6 hbs (fun k hk => (ru.lt k hk).1)
        have hbs6 := Nat.le_trans hbs hgb6.size
        refine hK2.out _ _ (hSi _ hB6) ?_
        clear hK2 K2 ru rv rt hgb6 hor6 a1 a2 hB hb hbs
        refine wpSeq_consK fun K2 hK2 K hK => ?_
        refine wpQuiet_nil (hK _ ?_)
        clear hK K
        show wpList _ _ _ [_] _ _
        go_wp2_with (at_builtin; refine wpList_append_any _ rfl (.tmp 41) (.tmp 43) _ rfl w1.heap.size 9 s0 _ 1 16 Try.underlying22 hs0 hs1 hs2 hs3 rfl (by decide) _ _ _ rfl rv1 _ _ _ _ _ rfl (R2.out.below hb6) (strs_oneCell _) (by simp only [maxLen]; omega) (by omega) hbs6 ?_; intro v' w7 rv' hgb7 hor7)
        obtain ⟨ru2, s3⟩ := push_other ru' s1.symm hgb7 hor7
        obtain ⟨rt2, s4⟩ := push_other rt1 a3.symm hgb7 hor7
        have hB7 := hB6.grown hgb7 (Ne.symm (own_blk_ne rv1 hB6 (by decide)))
        have hb7 := hb6.grown hgb7 hbs6 (fun k hk => (rv1.lt k hk).1)
        have hbs7 := Nat.le_trans hbs6 hgb7.size
        refine hK2.out _ _ (hSi _ hB7) ?_
        clear hK2 K2 ru' rv1 rt1 hgb7 hor7 s1 a3 hB6 hb6 hbs6
        refine wpSeq_consK fun K2 hK2 K hK => ?_
        refine wpQuiet_nil (hK _ ?_)
        clear hK K
        show wpList _ _ _ [_] _ _
        go_wp2_with (at_builtin; refine wpList_append_any _ rfl (.tmp 45) (.tmp 47) _ rfl w1.heap.size 9 s0 _ 1 16 Try.underlying22 hs0 hs1 hs2 hs3 rfl (by decide) _ _ _ rfl rt2 _ _ _ _ _ rfl (R3.out.below hb7) (strs_oneCell _) (by simp only [maxLen]; omega) (by omega) hbs7 ?_; intro t' w8 rt' hgb8 hor8)
        obtain ⟨ru3, s5⟩ := push_other ru2 s2.symm hgb8 hor8
        obtain ⟨rv3, s6⟩ := push_other rv' s4.symm hgb8 hor8
        have hB8 := hB7.grown hgb8 (Ne.symm (own_blk_ne rt2 hB7 (by decide)))
        have hb8 := hb7.grown hgb8 hbs7 (fun k hk => (rt2.lt k hk).1)
        have hbs8 := Nat.le_trans hbs7 hgb8.size
        refine hK2.out _ _ (hSi _ hB8) ?_
        clear hK2 K2 ru2 rv' rt2 hgb8 hor8 s2 s4 hB7 hb7 hbs7
        rw [strs_app, ← b1, ← List.length_append, ← T1.out] at ru3
        rw [strs_app, ← b2, ← List.length_append, ← T2.out] at rv3
        rw [strs_app, ← b3, ← List.length_append, ← T3.out] at rt'
        refine wpSeq_nil (wpRest_K fun K hK => ?_)
        refine wpQuiet_nil (hK _ ?_)
        clear hK K
        refine wpSegs_consK fun K2 hK2 K hK => ?_
        refine wpQuiet_nil (hK _ ?_)
        clear hK K
        show wpList _ _ _ [_, _, _] _ _
        go_wp2_with fail
        refine hK2.out _ _ (wpSegs_nil ?_)
        clear hK2 K2 hSi hS1 hS2 hS3 this S
        obtain ⟨o, ho⟩ : ∃ o, eqS y2 y1 = o := ⟨_, rfl⟩
        obtain ⟨t, ht⟩ : ∃ t, eqS y3 y1 = t := ⟨_, rfl⟩
        obtain ⟨b, hbb⟩ : ∃ b, eqS y2 y3 = b := ⟨_, rfl⟩
        have hkd := kind_bools HR.out
        have hne := lens_ne HR.out
        rw [ho, ht, hbb] at hkd
        rw [b1, b2, b3] at hne
        have HK := Lib.hid hkd
        have AT1 := Lib.hid (fun d => plainS_d o w1.heap.size w1.heap.size E2 E1 v2 v1 q2' q1' y2 y1 w8 ho (R2.out.below hb8) (R1.out.below hb8) (by omega) d)
        have AT2 := Lib.hid (fun d => plainS_d t w1.heap.size w1.heap.size E3 E1 v3 v1 q3' q1' y3 y1 w8 ht (R3.out.below hb8) (R1.out.below hb8) (by omega) d)
        have AT3 := Lib.hid (fun d => plainS_d b w1.heap.size w1.heap.size E2 E3 v2 v3 q2' q3' y2 y3 w8 hbb (R2.out.below hb8) (R3.out.below hb8) (by omega) d)
        have hc0 := hB8.cell 0
        have hc1 := hB8.cell 1
        have hc2 := hB8.cell 2
        have hc3 := hB8.cell 3
        simp only [List.getElem?_toArray, List.getElem?_cons_succ, List.getElem?_cons_zero] at hc0 hc1 hc2 hc3
        clear ho ht hbb hkd
        go_wp2_with fail
        go_quiet ((first | with_reducible exact Calls.quiet_of (AT1.out _) | with_reducible exact Calls.quiet_of (AT2.out _) | with_reducible exact Calls.quiet_of (AT3.out _)))
        have hgr9 : Grows w1 (w8.drewN nq) := (show Grows w1 w8 from Below.trans hgr hb8).drewN nq
        have ru9 := own_drewN ru3 nq
        have rv9 := own_drewN rv3 nq
        have rt9 := own_drewN rt' nq
        have hd0 := cell_drewN hc0 nq
        have hd1 := cell_drewN hc1 nq
        have hd2 := cell_drewN hc2 nq
        have hd3 := cell_drewN hc3 nq
        have C9 := Lib.hid (C1.out.grows (Nat.le_refl _) hgr9)
        clear ru3 rv3 rt' hc0 hc1 hc2 hc3 hB8 hb8 hbs8 AT1 AT2 AT3
        generalize w8.drewN nq = w9 at hgr9 ru9 rv9 rt9 hd0 hd1 hd2 hd3 C9 ⊢
        go_upto_block 2 with fail
        go_cut [16] (fun s16 wx => s16 = .int .i64 kd ∧ wx = w9)
        case first =>
          clear hd0 hd1 hd2 hd3
          cases o with
          | true =>
            cases t with
            | true =>
              go_wp2_with fail
              go_meet
              exact ⟨by rw [HK.out]; rfl, rfl⟩
            | false =>
              go_wp2_with fail
              go_meet
              exact ⟨by rw [HK.out]; rfl, rfl⟩
          | false =>
            cases t with
            | true =>
              go_wp2_with fail
              go_meet
              exact ⟨by rw [HK.out]; rfl, rfl⟩
            | false =>
              cases b with
              | true =>
                go_wp2_with fail
                go_meet
                exact ⟨by rw [HK.out]; rfl, rfl⟩
              | false =>
                go_wp2_with fail
                go_meet
                exact ⟨by rw [HK.out]; rfl, rfl⟩
        case rest =>
          obtain ⟨rfl, rfl⟩ := hcut
          have hsum : ((v1 : Int) + v2 + v3 == 0) = false := by simp; omega
          have w1b : (v1 : Int) ≤ 60 := by omega
          have w2b : (v2 : Int) ≤ 60 := by omega
          have w3b : (v3 : Int) ≤ 60 := by omega
          have w10 : (0 : Int) ≤ v1 := by omega
          have w20 : (0 : Int) ≤ v2 := by omega
          have w30 : (0 : Int) ≤ v3 := by omega
          have hsl := hgr9.size
          cases k with
          | zero =>
            go_wp2_with fail
            go_roundg (m1 - 1)
            case measure => rw [HG.out]; omega
            case rel => exact ⟨1, _, _, _, by go_num, by omega, rfl, rfl, rfl, rfl, ru9, rv9, rt9, s3, s5, s6, hgr9⟩
          | succ j =>
            obtain ⟨ad', hadd, had', pj, _⟩ := C9.out.at_ (k := j) (by omega)
            injection hadd with hadd
            subst hadd
            obtain ⟨kj, hkj⟩ : ∃ kj, (gch l j).1 = kj := ⟨_, rfl⟩
            rw [hkj] at pj
            have j0 : (0 : Int) ≤ j := by omega
            have j1 : (j : Int) + 1 < m1 := by omega
            by_cases h1 : kd = 1
            · have hj2 : (kj == 1) = false := by
                have := HNT.out j rfl h1
                rw [hkj] at this
                simp [this]
              rw [h1] at hd0 ⊢
              clear HNT hkj
              go_wp2_with fail
              go_roundg (m1 - (j + 1 + 1))
              case measure => rw [HG.out]; omega
              case rel => exact ⟨j + 1 + 1, _, _, _, by go_num, by omega, rfl, rfl, rfl, rfl, ru9, rv9, rt9, s3, s5, s6, hgr9⟩
            · have hk1 : (kd == 1) = false := by simp [h1]
              clear HNT hkj pj
              go_wp2_with fail
              go_roundg (m1 - (j + 1 + 1))
              case measure => rw [HG.out]; omega
              case rel => exact ⟨j + 1 + 1, _, _, _, by go_num, by omega, rfl, rfl, rfl, rfl, ru9, rv9, rt9, s3, s5, s6, hgr9⟩
      · have hke : l.take k = l := List.take_of_length_le (by rw [KL.out]; omega)
        have e1 : xs = x0 := by rw [HXS.out, hke]; exact W1.out
        have e2 : ys = x1 := by rw [HYS.out, hke]; exact W2.out
        have e3 : zs = x2 := by rw [HZS.out, hke]; exact W3.out
        rw [e1, L0.out] at hu
        rw [e2, L1.out] at hv
        rw [e3, L2.out] at ht
        clear hke e1 e2 e3
        obtain ⟨D1, d1, rfl, _, _⟩ := own_form hu
        obtain ⟨D2, d2, rfl, _, _⟩ := own_form hv
        obtain ⟨D3, d3, rfl, _, _⟩ := own_form ht
        have R1 := Lib.hid (Reads.of_own hu)
        have R2 := Lib.hid (Reads.of_own hv)
        have R3 := Lib.hid (Reads.of_own ht)
        clear hu hv ht
        go_wp2_with fail
        refine (cawake_any wr).mono ?_
        rintro e w3 ⟨rfl, hg3⟩
        have hg4 := hgw.trans hg3
        go_wp2_with fail
        refine (plainS_eq wr.heap.size w.heap.size D1 A0 n0 n0 d1 c0 x0 w3 (R1.out.grows (Nat.le_refl _) hg3) (H0.out.grows (Nat.le_refl _) hg4) (by omega)).mono ?_
        rintro e w4 ⟨rfl, q4, rfl⟩
        go_wp2_with fail
        refine (plainS_eq wr.heap.size w.heap.size D2 A1 n1 n1 d2 c1 x1 (w3.drewN q4) ((R2.out.grows (Nat.le_refl _) hg3).drewN _) ((H1.out.grows (Nat.le_refl _) hg4).drewN _) (by omega)).mono ?_
        rintro e w5 ⟨rfl, q5, rfl⟩
        go_wp2_with fail
        refine (plainS_eq wr.heap.size w.heap.size D3 A2 n2 n2 d3 c2 x2 (w3.drewN (q4 + q5)) ((R3.out.grows (Nat.le_refl _) hg3).drewN _) ((H2.out.grows (Nat.le_refl _) hg4).drewN _) (by omega)).mono ?_
        rintro e w6 ⟨rfl, q6, rfl⟩
        go_wp2_with fail
        go_ret
        exact ⟨rfl, hg4.drewN _⟩
  · have HD := Lib.hid (show decide (n0 ≤ 60 ∧ n1 ≤ 60 ∧ n2 ≤ 60) = false from decide_eq_false hfew)
    clear hfew
    go_wp2_with fail
    refine (few_v false A0 A1 A2 n0 n1 n2 c0 c1 c2 w HD.out).mono ?_
    rintro e _ ⟨rfl, rfl⟩
    go_wp2_with fail
    refine (cawake_any w).mono ?_
    rintro e w1 ⟨rfl, hg⟩
    go_wp2_with fail
    go_ret
    exact ⟨rfl, hg⟩

end Go.Proofs.Ytlimfndipapfdaa
