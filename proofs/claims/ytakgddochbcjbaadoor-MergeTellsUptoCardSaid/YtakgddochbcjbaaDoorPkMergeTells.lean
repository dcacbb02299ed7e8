/- MergeTells: the walk of the law. The row's last step where the call made memory: of the world behind the call 'Below' alone is known (the kit's worked words, turned to this claim). -/
import Derived.Test.YtakgddochbcjbaaDoorPkTells3
import Derived.Test.YtakgddochbcjbaaDoorPkMarksLaw
import Derived.Test.YtakgddochbcjbaaDoorPkBase
import Derived.ProofKit
import Derived.ChangeSame
namespace Go.Proofs.YtakgddochbcjbaaDoor
open Go.RowKit Go.Deep Go.MapKept

set_option maxRecDepth 100000 in
set_option pp.deepTerms true in
set_option pp.maxSteps 1000000 in
set_option maxRecDepth 100000 in
set_option maxHeartbeats 4000000 in
theorem mtells_any (A : Option Addr) (n c : Nat) (l : List ChkB) (s1 s2 s3 s4 : ByteArray) (sd : Bool) (w : World) (hm : MaxL w) (hx : ChunksN w w.heap.size A n l) (hn : n ≤ maxLen)
    (hz : LinesOK l) (hp : (pickTo l sd l.length).length ≤ 1000000000) :
    Calls Tryd.prog 6 #[.string s1, .string s2, .string s3, .string s4, .slice A n c, .bool sd] w fun e w' => e = .returned (.bool true) ∧ Grows w w' := by
  unfold maxLen at hn
  have hr0 := Reads.newRow w 9 (strs [s1, s2, s3, s4]) (0, 0)
  have hg0 := (Grows.refl w).alloc (.cells (strs [s1, s2, s3, s4]).toArray 9 (0, 0))
  have HF := Lib.hid (few_lines _ _ 4 4 [s1, s2, s3, s4] (w.alloc (.cells (strs [s1, s2, s3, s4]).toArray 9 (0, 0))) hr0 (by decide))
  have HX := Lib.hid hx
  have HL := Lib.hid hx.1
  clear hr0 hx
  cases hd : fewN 4 [s1, s2, s3, s4] with
  | false =>
    rw [hd] at HF
    clear hd
    go_enter Tryd.func6, Tryd.ntmps6
    go_wp2_with fail
    refine HF.out.mono ?_
    rintro e w2 ⟨rfl, hw2⟩
    have hg2 : Grows w w2 := hw2 ▸ hg0
    clear HF hw2 hg0
    go_wp2_with fail
    refine (mawake_any _ (hm.grows hg2)).mono ?_
    rintro e w5 ⟨rfl, hg5⟩
    go_wp2_with fail
    go_ret
    exact ⟨rfl, hg2.trans hg5⟩
  | true =>
    have hfew := fewN_iff.1 hd
    have z1 : s1.size ≤ 400 := hfew 0 (by decide)
    have z2 : s2.size ≤ 400 := hfew 1 (by decide)
    have z3 : s3.size ≤ 400 := hfew 2 (by decide)
    have z4 : s4.size ≤ 400 := hfew 3 (by decide)
    rw [hd] at HF
    clear hfew hd
    by_cases h20 : 20 < n
    · have h20' : (n : Int) > 20 := by omega
      go_enter Tryd.func6, Tryd.ntmps6
      go_wp2_with fail
      refine HF.out.mono ?_
      rintro e w2 ⟨rfl, hw2⟩
      have hg2 : Grows w w2 := hw2 ▸ hg0
      clear HF hw2 hg0
      go_wp2_with fail
      refine (mawake_any _ (hm.grows hg2)).mono ?_
      rintro e w5 ⟨rfl, hg5⟩
      go_wp2_with fail
      go_ret
      exact ⟨rfl, hg2.trans hg5⟩
    · have h20' : ¬ ((n : Int) > 20) := by omega
      have y1 := lines_le s1
      have y2 := lines_le s2
      have y3 := lines_le s3
      have HM1 := Lib.hid (fun wx (hx : MaxL wx) => merge_all s1 s2 s3 wx hx (by omega) (by omega) (by omega) (by omega) (by omega) (by omega))
      have HM2 := Lib.hid (fun wx => rmerge_all s1 s2 s3 wx (by omega) (by omega) (by omega) (by omega) (by omega) (by omega))
      have HP1 := Lib.hid (fun wx (hx : MaxL wx) => parse_any s4 wx hx (by omega))
      have HP2 := Lib.hid (fun wx => rparse_any s4 wx (by omega))
      have HQ1 := Lib.hid (fun wx (hx : MaxL wx) => plain_walk s4 wx hx (by omega))
      have HQ2 := Lib.hid (fun wx => rplain_any s4 wx (by omega))
      have HRO := Lib.hid (show (lpO (parseT s4)).length ≤ 1000000000000 ∧ ∀ ch ∈ lpO (parseT s4), ch.2.1.length ≤ 1000000000000 ∧ ch.2.2.1.length ≤ 1000000000000 ∧ ch.2.2.2.length ≤ 1000000000000 from by
        obtain ⟨h1, h2⟩ := lpO_rows (s := s4) (N := 400) z4
        refine ⟨by omega, fun ch hc => ?_⟩
        have := h2 ch hc
        omega)
      have HZ := Lib.hid hz
      have HPL := Lib.hid hp
      clear hz hp y1 y2 y3
      generalize mergedT (chunks (linesT s1) (linesT s2) (linesT s3)) = mt at HM1 HM2
      generalize cleanC (chunks (linesT s1) (linesT s2) (linesT s3)) = cb at HM1 HM2
      generalize plainT s4 = pb at HQ1 HQ2
      obtain ⟨pk, hpk⟩ : ∃ pk, tx (pickTo l sd l.length) = pk := ⟨_, rfl⟩
      have HK1 := Lib.hid (fun wx (hx : ChunksN wx w.heap.size A n l) (hB : w.heap.size ≤ wx.heap.size) => pick_any w.heap.size A n c l sd wx hx hB (by omega) HZ.out HPL.out)
      have HK2 := Lib.hid (fun wx (hx : ChunksN wx w.heap.size A n l) => rpick_any w.heap.size A n c l sd wx hx (by omega) HZ.out HPL.out)
      rw [hpk] at HK1 HK2
      clear hpk
      go_enter Tryd.func6, Tryd.ntmps6
      go_wp2_with fail
      refine HF.out.mono ?_
      rintro e w0 ⟨rfl, hw0⟩
      have hgw0 : Grows w w0 := hw0 ▸ hg0
      have HG0 := Lib.hid hgw0
      clear HF hw0 hg0 hgw0
      go_wp2_with fail
      refine (HM1.out w0 (hm.grows HG0.out)).mono ?_
      rintro e w1 ⟨rfl, hg1⟩
      have HG1 := Lib.hid (HG0.out.trans hg1)
      clear HG0 hg1
      go_wp2_with fail
      refine (HM2.out w1).mono ?_
      rintro e w2 ⟨rfl, hg2⟩
      have HG2 := Lib.hid (HG1.out.trans hg2)
      clear HG1 hg2
      obtain ⟨E, hE⟩ : ∃ E, erO (parseT s4) = E := ⟨_, rfl⟩
      have HE := Lib.hid hE
      clear hE
      go_wp2_with fail
      refine (HP1.out w2 (hm.grows HG2.out)).mono ?_
      rintro e w3 ⟨hp3, hg3⟩
      obtain ⟨A3, c3, rfl, hC3⟩ := hp3.openE HE.out
      have HG3 := Lib.hid (HG2.out.trans hg3)
      have HC3 := Lib.hid hC3
      clear HG2 hg3 hp3 hC3
      go_wp2_with fail
      refine (HP2.out w3).mono ?_
      rintro e w4 ⟨hp4, hg4⟩
      obtain ⟨A4, c4, rfl, hC4⟩ := hp4.openE HE.out
      have HG4 := Lib.hid (HG3.out.trans hg4)
      have HC3' := Lib.hid ((HC3.out.grows (Nat.le_refl _) hg4).moreM hg4.size)
      have HC4 := Lib.hid hC4
      clear HG3 hg4 hp4 hC4 HC3
      go_wp2_with fail
      refine (mawake_any w4 (hm.grows HG4.out)).mono ?_
      rintro e w5 ⟨rfl, hg5⟩
      have HG5 := Lib.hid (HG4.out.trans hg5)
      have HC3 := Lib.hid ((HC3'.out.grows (Nat.le_refl _) hg5).moreM hg5.size)
      have HC4' := Lib.hid ((HC4.out.grows (Nat.le_refl _) hg5).moreM hg5.size)
      clear HG4 hg5 HC3' HC4
      go_wp2_with fail
      refine (HQ1.out w5 (hm.grows HG5.out)).mono ?_
      rintro e w6 ⟨rfl, hg6⟩
      have HG6 := Lib.hid (HG5.out.trans hg6)
      have HC3' := Lib.hid ((HC3.out.grows (Nat.le_refl _) hg6).moreM hg6.size)
      have HC4 := Lib.hid ((HC4'.out.grows (Nat.le_refl _) hg6).moreM hg6.size)
      clear HG5 hg6 HC3 HC4'
      go_wp2_with fail
      refine (HQ2.out w6).mono ?_
      rintro e w7 ⟨rfl, hg7⟩
      have HG7 := Lib.hid (HG6.out.trans hg7)
      have HC3 := Lib.hid ((HC3'.out.grows (Nat.le_refl _) hg7).moreM hg7.size)
      have HC4' := Lib.hid ((HC4.out.grows (Nat.le_refl _) hg7).moreM hg7.size)
      clear HG6 hg7 HC3' HC4
      have hS := sameCh_any w7.heap.size A3 A4 _ _ c3 c4 _ _ w7 HC3.out HC4'.out (Nat.le_refl _) HRO.out.1 HRO.out.2
      rw [eqChs_same] at hS
      have HS := Lib.hid hS
      clear hS
      go_wp2_with fail
      refine HS.out.mono ?_
      rintro e w8 ⟨rfl, hg8⟩
      have HG8 := Lib.hid (HG7.out.trans hg8)
      clear HG7 hg8 HC3 HC4' HS
      go_wp2_with fail
      refine (HK1.out w8 (HX.out.grows (Nat.le_refl _) HG8.out) HG8.out.size).mono ?_
      rintro e w9 ⟨rfl, hg9⟩
      have HG9 := Lib.hid (HG8.out.trans hg9)
      clear HG8 hg9
      go_wp2_with fail
      refine (HK2.out w9 (HX.out.grows (Nat.le_refl _) HG9.out)).mono ?_
      rintro e w10 ⟨rfl, hw10⟩
      subst hw10
      go_wp2_with fail
      go_ret
      exact ⟨rfl, HG9.out⟩
end Go.Proofs.YtakgddochbcjbaaDoor
namespace Go.Proofs.YtakgddochbcjbaaDoor
open Go.RowKit Go.WideShapes Go.ChangeShapes Go.ChangeAt

section
variable {H : Type} {enc : TypeId × Value → H} {P : Program}
theorem post_of_below {f : Func} {s : ChangeSpec} {apart fresh handsOn again : Bool} {W W' : World} {args : Array Value} {v : Value} {ds gs : List (DataW H)} {before pa pv : List MemPlace}
    (hW : DataW.Whole enc P f.params.toList s.vars apart W args.toList ds gs before)
    (hres : ∀ (b : Nat) (sp : Nat → Bool) (hd : Bool), DataW.TrodAll enc P W' b sp hd f.resultTypes.toList (v.resultList f.resultTypes.size) (s.fn H (ds ++ gs)).results [])
    (hargs : ∀ sp : Nat → Bool, (∀ p ∈ before, sp p.block = true) → DataW.TrodAll enc P W' 0 sp true f.params.toList args.toList (s.fn H (ds ++ gs)).args pa)
    (hvars : ∀ sp : Nat → Bool, (∀ p ∈ before, sp p.block = true) → DataW.TrodVars enc P W' sp s.vars (s.fn H (ds ++ gs)).vars pv)
    (hps : before = pa ++ pv) (hb : Below W.heap.size W W')
    (hok : ∀ (j : Nat) (t : TypeId) (r : Value), f.resultTypes[j]? = some t → (v.resultList f.resultTypes.size)[j]? = some r → Value.okWide P W' .any 0 t r) :
    s.post enc P f apart fresh handsOn again W args v W' := by
  have hlt : ∀ p ∈ before, p.block < W.heap.size := fun p hp => hW.lt p hp
  have hold : ∀ p ∈ before, (fun b => decide (b < W.heap.size)) p.block = true := fun p hp => by simpa using hlt p hp
  refine ⟨ds, gs, before, [], pa, pv, hW, hres _ _ _, hargs _ hold, hvars _ hold, World.keptBut_mono (fun p hp => ⟨hp, ?_⟩) (hb.frame (· ∈ before)), fun _ => ?_⟩
  · rw [hps, List.mem_append] at hp
    exact Or.inr hp
  · obtain ⟨_, _, _, _, _, hz, hn⟩ := hW
    refine ⟨hok, _, _, ([] ++ pa) ++ pv, ⟨[] ++ pa, pv, trodAll_append (hargs _ (fun _ _ => rfl)) (hres _ _ _), hvars _ (fun _ _ => rfl), rfl, ?_, ?_⟩, ?_⟩
    · intro b off hp
      have hin : MemPlace.cell b off ∈ before := by rw [hps]; simpa using hp
      rw [hb.frozen (hlt _ hin)]
      exact hz b off hin
    · intro ha
      have := hn ha
      rw [hps] at this
      simpa using this
    · intro p hp _
      rw [hps]
      simpa using hp
end

section
variable {H : Type} {enc : TypeId × Value → H} {P : Program}
/-- what was read below the old heap reads again where the world has but grown -/
theorem trodAll_stays {W W' : World} {sp' : Nat → Bool} (hl : laidOutB P = true) : ∀ {ts : List TypeId} {vs : List Value} {ds : List (DataW H)} {ps : List MemPlace},
    (∀ t ∈ ts, P.readableRec t = true ∧ t < P.types.size) → DataW.TrodAll enc P W 0 (fun _ => true) true ts vs ds ps → (∀ p ∈ ps, W.sameAt W' p) → (∀ p ∈ ps, sp' p.block = true) → DataW.TrodAll enc P W' 0 sp' true ts vs ds ps
  | [], [], [], _, _, h, _, _ => h
  | _ :: _, _ :: _, _ :: _, _, hT, ⟨p, q, h1, h2, e⟩, hs, hb => by
    subst e
    exact ⟨p, q, WideElems.Trod_stays hl (hT _ (List.mem_cons_self ..)).1 (hT _ (List.mem_cons_self ..)).2 h1 (fun x hx => hs x (List.mem_append_left _ hx)) (fun x hx => hb x (List.mem_append_left _ hx)),
      trodAll_stays hl (fun t ht => hT t (List.mem_cons_of_mem _ ht)) h2 (fun x hx => hs x (List.mem_append_right _ hx)) (fun x hx => hb x (List.mem_append_right _ hx)), rfl⟩

theorem types_ok {ts : List TypeId} (h : (ts.all fun t => P.readableRec t && decide (t < P.types.size)) = true) : ∀ t ∈ ts, P.readableRec t = true ∧ t < P.types.size := by
  intro t ht
  rw [List.all_eq_true] at h
  have := h t ht
  simpa using this

/-- a law's last step: it answers true, and of what was there all stays -/
theorem law_post {f : Func} {s : ChangeSpec} {W W' : World} {args : Array Value} {ds gs : List (DataW H)} {before : List MemPlace} {t : TypeId}
    (hl : laidOutB P = true) (hT : ∀ t ∈ f.params.toList, P.readableRec t = true ∧ t < P.types.size)
    (hW : DataW.Whole enc P f.params.toList s.vars false W args.toList ds gs before) (hv : s.vars = []) (hg : gs = [])
    (hres : (s.fn H (ds ++ gs)).results = [.lit (.bool true)]) (hargs : (s.fn H (ds ++ gs)).args = ds) (hvars : (s.fn H (ds ++ gs)).vars = [])
    (hrt : f.resultTypes = #[t]) (hbool : P.underlying t = some .bool) (hb : Below W.heap.size W W') :
    s.post enc P f false true false false W args (.bool true) W' := by
  subst hg
  obtain ⟨p, q, hA, hV, hpq, hfz, hnd⟩ := hW
  have hW2 : DataW.Whole enc P f.params.toList s.vars false W args.toList ds [] before := ⟨p, q, hA, hV, hpq, hfz, hnd⟩
  have hq : q = [] := by
    rw [hv] at hV
    exact hV
  subst hq
  rw [List.append_nil] at hpq
  subst hpq
  refine post_of_below (pa := before) (pv := []) hW2 (fun _ _ _ => ?_) (fun sp hsp => ?_) (fun sp _ => ?_) (by simp) hb (ok_one hrt rfl (okWide_bool_mk hbool _))
  · rw [hres, hrt]
    exact trodAll_mk1 (shut_bool hbool _)
  · rw [hargs]
    exact trodAll_stays hl hT hA (fun x hx => hb.same (hW2.lt x hx)) hsp
  · rw [hv, hvars]
    rfl

/-- a slice of ints that came in: as a slice that reads -/
theorem open_reads {r : Reach} {b0 : Nat} {t e : TypeId} {v : Value} {d : DataW H} {ps : List MemPlace} {W : World} (ht : P.underlying t = some (.slice e)) (he : P.underlying e = some (.int .i64)) (hc : P.cellsOf e = 1)
    (hval : Value.okWide P W r b0 t v) (h : DataW.Trod enc P W 0 (fun _ => true) true t v d ps) :
    ∃ A n c xs, v = .slice A n c ∧ Reads W W.heap.size 1 A n (ints xs) ∧ n ≤ maxLen := by
  obtain ⟨a, n, c, rfl⟩ := okWide_slice ht hval
  obtain ⟨fuel, hf⟩ := h
  rcases open_ints ht he hc hf with ⟨hcs, _⟩ | ⟨a', len, cap, zs, hcs, _, hlc, hm, hz, _, hcell, _⟩
  · have e1 : Value.slice a n c = .slice none 0 0 := by simpa [Value.cells] using hcs
    cases e1
    exact ⟨none, 0, 0, [], rfl, Reads.none_, Nat.zero_le _⟩
  · have e1 : Value.slice a n c = .slice (some a') len cap := by simpa [Value.cells] using hcs
    cases e1
    rw [if_pos rfl] at hz
    refine ⟨_, _, _, zs.take n, rfl, ⟨by simp [ints]; omega, fun h0 => ⟨a', rfl, ?_, fun j u hu => ?_⟩⟩, Nat.le_trans hlc hm⟩
    · have h1 := hcell 0 (by omega)
      exact World.block_lt_of_cell? W _ h1
    · have hj : j < (zs.take n).length := by
        have := (List.getElem?_eq_some_iff.1 hu).1
        rwa [ints_len] at this
      rw [ints_get hj] at hu
      cases hu
      rw [List.length_take] at hj
      rw [hcell j (by omega)]
      congr 2
      simp [gi, show j < n by omega]
end

theorem Tryd.own : ownKnob Tryd.prog.godebug = none := by kernel_rfl

end Go.Proofs.YtakgddochbcjbaaDoor
