/- similar.Renames, walked. -/
import Derived.Test.YtakgddochbcjbaaDoorSimOut
namespace Go.Proofs.YtakgddochbcjbaaDoor
open Go.RowKit Go.Deep Go.MapKept Go.Maps Go.Shelf

theorem own_base {w : World} {B B' e size n : Nat} {v : Value} {xs : List Value} (h : w.ownsRow B e size v n xs) (hB : B' ≤ B) : w.ownsRow B' e size v n xs := by
  refine ⟨h.1, ?_⟩
  rcases h.2 with h2 | ⟨g, cap, cur, hv, hb, rest⟩
  · exact .inl h2
  · exact .inr ⟨g, cap, cur, hv, Nat.le_trans hB hb, rest⟩
theorem St.make {w0 wz : World} {mb : Nat} {va vb vf vt : Value} {F T : List Int} (hg : Grows w0 wz) (hoF : wz.ownsRow w0.heap.size 3 1 vf F.length (ints F)) (hoT : wz.ownsRow w0.heap.size 3 1 vt T.length (ints T)) (hne : ∀ g, vf.ownBlock = some g → vt.ownBlock ≠ some g) (hm : MapR wz mb 0 (fun _ => none)) (hmb : w0.heap.size ≤ mb) :
    St w0 (wz.alloc (.cells #[va, vb, vf, vt, .map (some mb), .slice none 0 0] 100)) wz.heap.size mb va vb vf vt (.slice none 0 0) F T [] (fun _ => none) 0 :=
  ⟨hg.alloc _, hg.size, hmb, Blk.new _ _ _, hoF.alloc _, hoT.alloc _, World.ownsRow_nil _ _ _ _, hne, hm.alloc _⟩

set_option maxRecDepth 100000 in
set_option maxHeartbeats 4000000 in
theorem ren_any (w0 : World) (n n' c c' : Nat) (A A' : Option Addr) (l m : List FileB) (hM : MaxL w0) (hn : n ≤ 1000) (hn' : n' ≤ 1000)
    (hl : Reads w0 w0.heap.size 3 A n (fileCells l)) (hm : Reads w0 w0.heap.size 3 A' n' (fileCells m)) (hlt : ∀ k, k < n → (ft l k).size ≤ 100000) (hmt : ∀ k, k < n' → (ft m k).size ≤ 100000) :
    Calls Tryd.prog 34 #[.slice A n c, .slice A' n' c'] w0 fun e w' => ∃ v, e = .returned v ∧ ∃ O' : List (Int × Int), O'.Perm (outOf l m).O ∧ SortedP l O' ∧ w'.ownsRow w0.heap.size 61 2 v O'.length (renCells l m O') ∧ Grows w0 w' := by
  obtain ⟨bq, hbq⟩ : ∃ bq, bq = w0.heap.size := ⟨_, rfl⟩
  obtain ⟨w1, hw1⟩ : ∃ w1, w1 = w0.alloc (.cells #[.slice A n c] 51) := ⟨_, rfl⟩
  have hg1 : Grows w0 w1 := by rw [hw1]; exact (Grows.refl w0).alloc _
  have hB1 : Blk w1 bq 51 #[.slice A n c] := by rw [hw1, hbq]; exact Blk.new _ _ _
  have HG1 := Lib.hid hg1
  have hl1 := (hl.grows (Nat.le_refl _) hg1).more hg1.size
  have hm1 := (hm.grows (Nat.le_refl _) hg1).more hg1.size
  have hM1 := hM.grows hg1
  have HLN := Lib.hid hl.fileLen
  have HLM := Lib.hid hm.fileLen
  clear hl hm hM
  have HW1 := Lib.hid hw1
  have HBQ := Lib.hid hbq
  clear hw1 hbq
  go_enter Tryd.func34, Tryd.ntmps34
  go_upto_region 1 with fail
  rw [← HW1.out, ← HBQ.out]
  go_cut [5] (fun s5 wz => ∃ ps mb vf vt, s5 = .pointer (some ⟨ps, 0, none⟩) ∧ St w1 wz ps mb (.slice A n c) (.slice A' n' c') vf vt (.slice none 0 0) (loneL l m) (loneL m l) [] (fun _ => none) 0 ∧ Blk wz bq 51 #[.slice A n c])
  case first =>
    obtain ⟨S, hS⟩ : ∃ S : World → Prop, S = fun w' => Blk w' bq 51 #[.slice A n c] := ⟨_, rfl⟩
    have hSb : ∀ s : SW S, Blk s.w bq 51 #[.slice A n c] := fun s => by
      have := s.ok
      subst hS
      exact this
    have hS1 : ∀ s : SW S, s.w.cell? ⟨bq, 0, none⟩ = some (.slice A n c) := fun s => (hSb s).cell 0
    have hSi : ∀ w', Blk w' bq 51 #[.slice A n c] → S w' := by rw [hS]; exact fun _ h => h
    have hbd := hB1.drew
    have hgd := (Grows.refl w1).drew
    have hS0 := hSi _ hbd
    clear hS hSb HW1 hg1 hB1
    haveI : Nonempty (SW S) := ⟨⟨_, hS0⟩⟩
    refine wp_region_fre S 8 [([0, 1, 2, 3, 5, 6], 4), ([], 7)] [([9], 10)] [11] [] (by kernel_rfl) (fun _ _ _ _ _ h => h) (by kernel_rfl) hS0 ?_
    simp only [pickS, pickT, pickL, List.map_cons, List.map_nil, List.filterMap_cons, List.filterMap_nil, List.getElem?_cons_zero, List.getElem?_cons_succ]
    generalize w1.drew = wd at hgd hS0 hbd ⊢
    refine wpFre_consK fun K1 hK1 K2 hK2 K hK => ?_
    repeat (show wpQuiet _ _ _ _ (_ :: _) _; go_big_quiet_step (fail))
    refine wpQuiet_nil (hK _ ?_ ?_)
    · clear hK K hK2 K2
      show wpList _ _ _ [_] _ _
      have hmm := @run_makeMap Tryd.prog
      go_wp2_with fail
      clear hmm
      have hga : Grows wd (wd.alloc (.map #[] 0)) := (Grows.refl _).alloc _
      have hM1 : MapR (wd.alloc (.map #[] 0)) wd.heap.size 0 (fun _ => none) := MapFn.made _
      have hgM := hgd.trans hga
      have hmb := hgd.size
      have hbM := Blk.growsF hbd hga
      generalize wd.alloc (.map #[] 0) = wm at hga hM1 hgM hbM ⊢
      refine hK1.out _ _ (hSi _ hbM) ?_
      clear hK1 K1
      refine wpSeq_consK fun K2 hK2 K hK => ?_
      refine wpQuiet_nil (hK _ ?_)
      clear hK K
      show wpList _ _ _ [_] _ _
      go_wp2_with fail
      refine (lone_any w1.heap.size A A' n n' c c' l m wm (hl1.grows (Nat.le_refl _) hgM) (hm1.grows (Nat.le_refl _) hgM) hgM.size (by omega) (by omega)).mono ?_
      rintro e wf ⟨vf, rfl, hoF, hgf⟩
      have hF1 := own_base hoF hgM.size
      have hgF := hgM.trans hgf
      obtain ⟨AF, cF, rfl, _, _⟩ := own_form hF1
      clear hoF
      have hbF := Blk.growsF hbM hgf
      go_wp2_with fail
      refine hK2.out _ _ (hSi _ hbF) ?_
      clear hK2 K2
      refine wpSeq_consK fun K2 hK2 K hK => ?_
      refine wpQuiet_nil (hK _ ?_)
      clear hK K
      show wpList _ _ _ [_] _ _
      go_wp2_with fail
      refine (lone_any w1.heap.size A' A n' n c' c m l wf (hm1.grows (Nat.le_refl _) hgF) (hl1.grows (Nat.le_refl _) hgF) hgF.size (by omega) (by omega)).mono ?_
      rintro e wt ⟨vt, rfl, hoT, hgt⟩
      have hT1 := own_base hoT hgF.size
      have hgT := hgF.trans hgt
      have hF2 := own_grows hF1 hgt
      have hdis : ∀ g, (Value.slice AF (loneL l m).length cF).ownBlock = some g → vt.ownBlock ≠ some g := fun g hg e => by
        have h1 := (hF1.lt g hg).2
        have h2 := (hoT.lt g e).1
        omega
      obtain ⟨AT, cT, rfl, _, _⟩ := own_form hT1
      clear hoT
      have hbT := Blk.growsF hbF hgt
      go_wp2_with fail
      refine hK2.out _ _ (hSi _ hbT) ?_
      clear hK2 K2
      refine wpSeq_consK fun K2 hK2 K hK => ?_
      repeat (show wpQuiet _ _ _ _ (_ :: _) _; go_big_quiet_step (fail))
      refine wpQuiet_nil (hK _ ?_)
      clear hK K
      show wpList _ _ _ [_] _ _
      have hM2 := hM1.grows (hgf.trans hgt)
      have hst := St.make (va := .slice A n c) (vb := .slice A' n' c') hgT hF2 hT1 hdis hM2 hmb
      go_wp2_with fail
      have hgz : Grows wt (wt.alloc (.cells #[.slice A n c, .slice A' n' c', .slice AF (loneL l m).length cF, .slice AT (loneL m l).length cT, .map (some wd.heap.size), .slice none 0 0] 100)) := (Grows.refl _).alloc _
      have hbN := Blk.growsF hbT hgz
      refine hK2.out _ _ (hSi _ hbN) ?_
      clear hK2 K2
      refine wpSeq_nil (wpRest_K fun K hK => ?_)
      repeat (show wpQuiet _ _ _ _ (_ :: _) _; go_big_quiet_step (fail))
      refine wpQuiet_nil (hK _ ?_)
      clear hK K
      refine wpSegs_nil ?_
      go_wp2_with fail
      go_meet
      exact ⟨_, _, _, _, rfl, hst, hbN⟩
    · clear hK K hK1 K1
      show wpList _ _ _ [_] _ _
      go_wp2_with fail
      refine (lone_any w1.heap.size A A' n n' c c' l m wd (hl1.grows (Nat.le_refl _) hgd) (hm1.grows (Nat.le_refl _) hgd) hgd.size (by omega) (by omega)).mono ?_
      rintro e wf ⟨vf, rfl, hoF, hgf⟩
      have hF1 := own_base hoF hgd.size
      have hgF := hgd.trans hgf
      obtain ⟨AF, cF, rfl, _, _⟩ := own_form hF1
      clear hoF
      have hbF := Blk.growsF hbd hgf
      go_wp2_with fail
      refine hK2.out _ _ (hSi _ hbF) ?_
      clear hK2 K2
      refine wpFre_consK fun K1 hK1 K2 hK2 K hK => ?_
      refine wpQuiet_nil (hK _ ?_ ?_)
      · clear hK K hK2 K2
        show wpList _ _ _ [_] _ _
        have hmm := @run_makeMap Tryd.prog
        go_wp2_with fail
        clear hmm
        have hga : Grows wf (wf.alloc (.map #[] 0)) := (Grows.refl _).alloc _
        have hM1 : MapR (wf.alloc (.map #[] 0)) wf.heap.size 0 (fun _ => none) := MapFn.made _
        have hgM := hgF.trans hga
        have hmb := hgF.size
        have hbM := Blk.growsF hbF hga
        generalize wf.alloc (.map #[] 0) = wm at hga hM1 hgM hbM ⊢
        have hF3 := own_grows hF1 hga
        refine hK1.out _ _ (hSi _ hbM) ?_
        clear hK1 K1
        refine wpSeq_consK fun K2 hK2 K hK => ?_
        refine wpQuiet_nil (hK _ ?_)
        clear hK K
        show wpList _ _ _ [_] _ _
        go_wp2_with fail
        refine (lone_any w1.heap.size A' A n' n c' c m l wm (hm1.grows (Nat.le_refl _) hgM) (hl1.grows (Nat.le_refl _) hgM) hgM.size (by omega) (by omega)).mono ?_
        rintro e wt ⟨vt, rfl, hoT, hgt⟩
        have hT1 := own_base hoT hgM.size
        have hgT := hgM.trans hgt
        have hF2 := own_grows hF3 hgt
        have hdis : ∀ g, (Value.slice AF (loneL l m).length cF).ownBlock = some g → vt.ownBlock ≠ some g := fun g hg e => by
          have h1 := (hF3.lt g hg).2
          have h2 := (hoT.lt g e).1
          omega
        obtain ⟨AT, cT, rfl, _, _⟩ := own_form hT1
        clear hoT
        have hbT := Blk.growsF hbM hgt
        go_wp2_with fail
        refine hK2.out _ _ (hSi _ hbT) ?_
        clear hK2 K2
        refine wpSeq_consK fun K2 hK2 K hK => ?_
        repeat (show wpQuiet _ _ _ _ (_ :: _) _; go_big_quiet_step (fail))
        refine wpQuiet_nil (hK _ ?_)
        clear hK K
        show wpList _ _ _ [_] _ _
        have hM2 := hM1.grows hgt
        have hst := St.make (va := .slice A n c) (vb := .slice A' n' c') hgT hF2 hT1 hdis hM2 hmb
        go_wp2_with fail
        have hgz : Grows wt (wt.alloc (.cells #[.slice A n c, .slice A' n' c', .slice AF (loneL l m).length cF, .slice AT (loneL m l).length cT, .map (some wf.heap.size), .slice none 0 0] 100)) := (Grows.refl _).alloc _
        have hbN := Blk.growsF hbT hgz
        refine hK2.out _ _ (hSi _ hbN) ?_
        clear hK2 K2
        refine wpSeq_nil (wpRest_K fun K hK => ?_)
        repeat (show wpQuiet _ _ _ _ (_ :: _) _; go_big_quiet_step (fail))
        refine wpQuiet_nil (hK _ ?_)
        clear hK K
        refine wpSegs_nil ?_
        go_wp2_with fail
        go_meet
        exact ⟨_, _, _, _, rfl, hst, hbN⟩
      · clear hK K hK1 K1
        show wpList _ _ _ [_] _ _
        go_wp2_with fail
        refine (lone_any w1.heap.size A' A n' n c' c m l wf (hm1.grows (Nat.le_refl _) hgF) (hl1.grows (Nat.le_refl _) hgF) hgF.size (by omega) (by omega)).mono ?_
        rintro e wt ⟨vt, rfl, hoT, hgt⟩
        have hT1 := own_base hoT hgF.size
        have hgT := hgF.trans hgt
        have hF2 := own_grows hF1 hgt
        have hdis : ∀ g, (Value.slice AF (loneL l m).length cF).ownBlock = some g → vt.ownBlock ≠ some g := fun g hg e => by
          have h1 := (hF1.lt g hg).2
          have h2 := (hoT.lt g e).1
          omega
        obtain ⟨AT, cT, rfl, _, _⟩ := own_form hT1
        clear hoT
        have hbT := Blk.growsF hbF hgt
        go_wp2_with fail
        refine hK2.out _ _ (hSi _ hbT) ?_
        clear hK2 K2
        refine wpFre_nilK fun K1 hK1 => ?_
        show wpList _ _ _ [_] _ _
        have hmm := @run_makeMap Tryd.prog
        go_wp2_with fail
        clear hmm
        have hga : Grows wt (wt.alloc (.map #[] 0)) := (Grows.refl _).alloc _
        have hM1 : MapR (wt.alloc (.map #[] 0)) wt.heap.size 0 (fun _ => none) := MapFn.made _
        have hgM := hgT.trans hga
        have hmb := hgT.size
        have hbM := Blk.growsF hbT hga
        generalize wt.alloc (.map #[] 0) = wm at hga hM1 hgM hbM ⊢
        have hF3 := own_grows hF2 hga
        have hT3 := own_grows hT1 hga
        refine hK1.out _ _ (hSi _ hbM) ?_
        clear hK1 K1
        refine wpSeq_consK fun K2 hK2 K hK => ?_
        repeat (show wpQuiet _ _ _ _ (_ :: _) _; go_big_quiet_step (fail))
        refine wpQuiet_nil (hK _ ?_)
        clear hK K
        show wpList _ _ _ [_] _ _
        have hst := St.make (va := .slice A n c) (vb := .slice A' n' c') hgM hF3 hT3 hdis hM1 hmb
        go_wp2_with fail
        have hgz : Grows wm (wm.alloc (.cells #[.slice A n c, .slice A' n' c', .slice AF (loneL l m).length cF, .slice AT (loneL m l).length cT, .map (some wt.heap.size), .slice none 0 0] 100)) := (Grows.refl _).alloc _
        have hbN := Blk.growsF hbM hgz
        refine hK2.out _ _ (hSi _ hbN) ?_
        clear hK2 K2
        refine wpSeq_nil (wpRest_K fun K hK => ?_)
        repeat (show wpQuiet _ _ _ _ (_ :: _) _; go_big_quiet_step (fail))
        refine wpQuiet_nil (hK _ ?_)
        clear hK K
        refine wpSegs_nil ?_
        go_wp2_with fail
        go_meet
        exact ⟨_, _, _, _, rfl, hst, hbN⟩
  case rest =>
    obtain ⟨ps, mb, vf, vt, rfl, hst, _⟩ := hcut
    have hFl := loneL_len l m
    have hTl := loneL_len m l
    have hsm := same_any w1 wc ps mb n n' c c' A A' l m _ _ _ _ _ _ _ hst (loneL_asc l m) (fun x hx => by have := lone_range hx; have := HLN.out; omega) (fun x hx => by have := lone_range hx; have := HLM.out; omega) (by have := HLN.out; omega) (by have := HLM.out; omega) hl1 hm1
    have HSO := Lib.hid (sameOf_oinv l m)
    rw [show sameTo l m (loneL l m) (loneL m l) (loneL l m).length = sameOf l m from rfl] at hsm
    clear hst
    go_wp2_with fail
    refine hsm.mono ?_
    rintro e w2 ⟨rfl, vf2, vt2, vo2, hst2⟩
    clear hsm
    have hal := alike_any w1 w2 ps mb n n' c c' A A' l m _ _ _ _ _ _ hM1 hst2 (fun x hx => by have := lone_range (HSO.out.subF x hx); have := HLN.out; omega) (fun x hx => by have := lone_range (HSO.out.subT x hx); have := HLM.out; omega) hn hn' (by have := HSO.out.sum; have := HLN.out; omega) (by have := HSO.out.lenT; have := HLM.out; omega) (by have := HSO.out.sum; have := HLN.out; omega) hl1 hm1 hlt hmt
    have HOO := Lib.hid (outOf_oinv l m)
    go_wp2_with fail
    refine hal.mono ?_
    rintro e w3 ⟨rfl, vf3, vt3, vo3, f, q, hf, hst3⟩
    clear hal
    have hst3' : St w1 w3 ps mb (.slice A n c) (.slice A' n' c') vf3 vt3 vo3 (outOf l m).F (outOf l m).T (outOf l m).O f q := by rw [hf] at hst3 ⊢; exact hst3
    clear hst3 hf hst2
    have hp5 := hst3'.blk.cell 5
    obtain ⟨AO, cO, rfl, _, _⟩ := own_form hst3'.oO
    simp only [List.getElem?_toArray, List.getElem?_cons_succ, List.getElem?_cons_zero] at hp5
    have hbq3 := Blk.growsF hB1 hst3'.gr
    have hOl : (outOf l m).O.length ≤ 1000 := by have := HOO.out.sum; have := HLN.out; omega
    have hso := sort_any w1.heap.size w1.heap.size w3 bq n c A l _ (outOf l m).O (fun p hp => by have := lone_range (HOO.out.inO p hp).1; have := HLN.out; omega) hOl hst3'.oO hbq3 (hl1.grows (Nat.le_refl _) hst3'.gr) hst3'.gr.size (Nat.le_refl _)
    go_wp2_with fail
    refine hso.mono ?_
    rintro e w4 ⟨rfl, O', hperm, hsorted, ho4, hg4⟩
    have hb4 := hst3'.blk.grown hg4 (fun e => own_blk_ne hst3'.oO hst3'.blk (by decide) e.symm)
    have hq5 := hb4.cell 5
    simp only [List.getElem?_toArray, List.getElem?_cons_succ, List.getElem?_cons_zero] at hq5
    have hg14 : Grows w1 w4 := Below.grown hst3'.gr hg4 hst3'.gr.size (fun k hk => (hst3'.oO.lt k hk).1)
    have hlen := hperm.length_eq
    have HPM := Lib.hid hperm
    have HSP := Lib.hid hsorted
    have hin : ∀ p ∈ O', 0 ≤ p.1 ∧ p.1 < n ∧ 0 ≤ p.2 ∧ p.2 < n' := fun p hp => by
      obtain ⟨h1, h2, _⟩ := HOO.out.inO p (HPM.out.mem_iff.1 hp)
      have := lone_range h1
      have := lone_range h2
      have := HLN.out
      have := HLM.out
      omega
    clear hso hst3' hperm hsorted hp5 hg4 hb4 hbq3 HSO
    rw [← hlen] at ho4 hq5 hOl ⊢
    clear hlen
    obtain ⟨t1, hj0, hy0, hy1, hy2⟩ := info_parts Tryd.infoRen
    go_wp2_with fail
    go_loopg [35, 6] O'.length (fun gk q' v wr => ∃ k : Nat, q' = .int .i64 k ∧ k ≤ O'.length ∧ gk = O'.length - k ∧ wr.ownsRow w4.heap.size 61 2 v k (renCells l m (O'.take k)) ∧ Grows w4 wr)
    case atStart => exact ⟨0, rfl, by omega, rfl, World.ownsRow_nil _ _ _ _, Grows.refl _⟩
    case round =>
      obtain ⟨k, rfl, hk, hgk, hown, hgr⟩ := hrel
      have HG := Lib.hid hgk
      clear hgk hq5
      have hsz := hgr.size
      by_cases hlk : k < O'.length
      · have how := own_grows ho4 hgr
        obtain ⟨gO, cO', e, _, hgO⟩ := how.form (by omega)
        cases e
        have hpr := prCells_get hlk
        have e2 : ∀ j, Addr.add ⟨gO, 0, none⟩ j = ⟨gO, j, none⟩ := fun j => by unfold Addr.add; split <;> simp_all
        have p0 := how.cells (g := gO) rfl _ _ hpr.1
        have p1 := how.cells (g := gO) rfl _ _ hpr.2
        rw [e2] at p0 p1
        have hpi := hin _ (List.getElem_mem hlk)
        have HTK := Lib.hid (show O'.take (k + 1) = O'.take k ++ [O'[k]] from List.take_succ_eq_append_getElem hlk)
        generalize O'[k] = p at p0 p1 hpi HTK
        obtain ⟨pi, pj⟩ := p
        obtain ⟨i, rfl⟩ : ∃ i : Nat, pi = i := ⟨pi.toNat, by omega⟩
        obtain ⟨j, rfl⟩ : ∃ j : Nat, pj = j := ⟨pj.toNat, by omega⟩
        have hi : i < n := by omega
        have hj : j < n' := by omega
        clear hpr how e2 hpi
        have k0 : (0 : Int) ≤ k := by omega
        have k1 : (k : Int) < O'.length := by omega
        obtain ⟨w5, hw5⟩ : ∃ w5, w5 = wr.alloc (.cells #[.int .i64 (i : Int), .int .i64 (j : Int)] 103) := ⟨_, rfl⟩
        obtain ⟨bx, hbx⟩ : ∃ bx, bx = wr.heap.size := ⟨_, rfl⟩
        have hX5 : Blk w5 bx 103 #[.int .i64 (i : Int), .int .i64 (j : Int)] := by rw [hw5, hbx]; exact Blk.new _ _ _
        have hgq : Grows wr w5 := by rw [hw5]; exact (Grows.refl wr).alloc _
        have hown5 := own_grows hown hgq
        have hg45 := hgr.trans hgq
        have HW5 := Lib.hid hw5
        have HBX := Lib.hid hbx
        clear hw5 hbx
        obtain ⟨a1, rfl, ha1, _⟩ := hl1.file hi
        obtain ⟨a2, rfl, ha2, _⟩ := hm1.file hj
        go_wp2_with fail
        rw [← HW5.out, ← HBX.out]
        obtain ⟨S, hS⟩ : ∃ S : World → Prop, S = fun w' => Grows w4 w' ∧ Blk w' bx 103 #[.int .i64 (i : Int), .int .i64 (j : Int)] := ⟨_, rfl⟩
        have hSb : ∀ s : SW S, Grows w4 s.w ∧ Blk s.w bx 103 #[.int .i64 (i : Int), .int .i64 (j : Int)] := fun s => by
          have := s.ok
          subst hS
          exact this
        have hS1 : ∀ s : SW S, s.w.cell? ⟨bq, 0, none⟩ = some (.slice (some a1) n c) := fun s => (Blk.growsF hB1 (hg14.trans (hSb s).1)).cell 0
        have hS2 : ∀ s : SW S, s.w.cell? ⟨bx, 0, none⟩ = some (.int .i64 (i : Int)) := fun s => (hSb s).2.cell 0
        have hS3 : ∀ s : SW S, s.w.cell? ⟨bx, 1, none⟩ = some (.int .i64 (j : Int)) := fun s => (hSb s).2.cell 1
        have hS4 : ∀ s : SW S, s.w.cell? (a1.add (i * 3)) = some (.string (fp l i)) := fun s => ((hl1.grows (Nat.le_refl _) (hg14.trans (hSb s).1)).fileAt hi).1
        have hS5 : ∀ s : SW S, s.w.cell? (a2.add (j * 3)) = some (.string (fp m j)) := fun s => ((hm1.grows (Nat.le_refl _) (hg14.trans (hSb s).1)).fileAt hj).1
        have hSi : ∀ w', Grows w4 w' → Blk w' bx 103 #[.int .i64 (i : Int), .int .i64 (j : Int)] → S w' := by rw [hS]; exact fun _ h h' => ⟨h, h'⟩
        have hS0 := hSi _ hg45.drew hX5.drew
        clear hS hSb
        haveI : Nonempty (SW S) := ⟨⟨_, hS0⟩⟩
        have i0 : (0 : Int) ≤ i := by omega
        have i1 : (i : Int) < n := by omega
        have j0 : (0 : Int) ≤ j := by omega
        have j1 : (j : Int) < n' := by omega
        refine wp_region_seq S [([0, 1, 2, 3, 4, 5, 6, 7, 8, 9, 10, 11, 12, 13], 14), ([], 15)] [] [([], [16])] (by kernel_rfl) (fun _ _ _ _ _ h => h) (by kernel_rfl) hS0 ?_
        simp only [pickS, pickT, pickL, List.map_cons, List.map_nil, List.filterMap_cons, List.filterMap_nil, List.getElem?_cons_zero, List.getElem?_cons_succ]
        refine wpSeq_consK fun K2 hK2 K hK => ?_
        repeat (show wpQuiet _ _ _ _ (_ :: _) _; go_big_quiet_step (fail))
        refine wpQuiet_nil (hK _ ?_)
        clear hK K
        show wpList _ _ _ [_] _ _
        go_wp2_with fail
        have hg6 : Grows w5 (w5.alloc (.cells #[.string (fp l i), .string (fp m j)] 61)).drew := ((Grows.refl w5).alloc _).drew
        have hnw : Blk (w5.alloc (.cells #[.string (fp l i), .string (fp m j)] 61)).drew w5.heap.size 61 #[.string (fp l i), .string (fp m j)] := (Blk.new w5 61 _).drew
        generalize (w5.alloc (.cells #[.string (fp l i), .string (fp m j)] 61)).drew = w6 at hg6 hnw ⊢
        have hown6 := own_grows hown5 hg6
        have hg46 := hg45.trans hg6
        have hX6 := Blk.growsF hX5 hg6
        have hz6 := hg46.size
        refine hK2.out _ _ (hSi _ hg46 hX6) ?_
        clear hK2 K2
        refine wpSeq_consK fun K2 hK2 K hK => ?_
        refine wpQuiet_nil (hK _ ?_)
        clear hK K
        show wpList _ _ _ [_] _ _
        go_wp2_with (at_builtin; refine wpList_append_any _ rfl (.tmp 39) (.tmp 53) _ rfl (w4.heap.size) 61 t1 _ 2 32 Tryd.underlying54 hj0 hy0 hy1 hy2 rfl (by decide) _ _ _ rfl hown6 _ _ _ _ _ rfl hnw.reads1 (by intro u hu; simp at hu; rcases hu with rfl | rfl <;> rfl) (by simp only [maxLen]; omega) (by omega) (by omega) ?_; intro v7 w7 hown7 hgb7 hor7)
        have hg47 : Grows w4 w7 := Below.grown hg46 hgb7 hg46.size (fun k hk => (hown6.lt k hk).1)
        have hX7 := hX6.grown hgb7 (fun e => own_blk_ne hown6 hX6 (by decide) e.symm)
        obtain ⟨A7, c7, rfl, _, _⟩ := own_form hown7
        refine hK2.out _ _ (hSi _ hg47 hX7) ?_
        clear hK2 K2
        refine wpSeq_nil (wpRest_K fun K hK => ?_)
        refine wpQuiet_nil (hK _ ?_)
        clear hK K
        refine wpSegs_consK fun K2 hK2 K hK => ?_
        refine wpQuiet_nil (hK _ ?_)
        clear hK K
        show wpList _ _ _ [_] _ _
        go_wp2_with fail
        refine hK2.out _ _ (wpSegs_nil ?_)
        clear hK2 K2
        clear hS1 hS2 hS3 hS4 hS5 hSi hS0 this
        clear S
        go_wp2_with fail
        go_roundg (O'.length - (k + 1))
        case measure => rw [HG.out]; omega
        case rel => exact ⟨k + 1, by go_num, by omega, rfl, by rw [HTK.out, renCells_append, renCells_one]; exact hown7, hg47⟩
      · have hkn : k = O'.length := by omega
        have k1 : ¬ ((k : Int) < O'.length) := by omega
        rw [hkn, List.take_length] at hown
        go_wp2_with fail
        go_ret
        exact ⟨_, rfl, O', HPM.out, HSP.out, own_base hown (Nat.le_trans HG1.out.size hg14.size), HG1.out.trans (hg14.trans hgr)⟩
end Go.Proofs.YtakgddochbcjbaaDoor
