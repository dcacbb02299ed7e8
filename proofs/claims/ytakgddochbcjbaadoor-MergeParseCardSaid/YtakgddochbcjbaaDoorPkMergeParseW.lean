/- MergeParse: the walk of the law. -/
import Derived.Test.YtakgddochbcjbaaDoorPkMergeParse
import Derived.Test.YtakgddochbcjbaaDoorPkRefOf
namespace Go.Proofs.YtakgddochbcjbaaDoor
open Go.RowKit Go.Deep Go.MapKept

theorem chunk_one_at {w : World} {B : Nat} {p : Addr} {ch : ChkB} (h : ChunkAt w B p ch) (hp : p.block < B) : ChunksN w B (some p) 1 [ch] := by
  refine ⟨rfl, fun _ => ⟨p, rfl, hp, fun j hj => ?_⟩⟩
  obtain rfl : j = 0 := by omega
  have e : p.add (0 * 4) = p := by simp [Addr.add]
  rw [e]
  exact h
theorem lit10 : ({ data := #[10] } : ByteArray).size = 1 := rfl
set_option maxRecDepth 100000 in
set_option pp.deepTerms true in
set_option pp.maxSteps 1000000 in
set_option maxRecDepth 100000 in
set_option maxHeartbeats 4000000 in
theorem mparse_any (s1 s2 s3 : ByteArray) (w : World) (hm : MaxL w) :
    Calls Tryd.prog 7 #[.string s1, .string s2, .string s3] w fun e w' => e = .returned (.bool true) ∧ Grows w w' := by
  have hr0 := Reads.newRow w 9 (strs [s1, s2, s3]) (0, 0)
  have hg0 := (Grows.refl w).alloc (.cells (strs [s1, s2, s3]).toArray 9 (0, 0))
  have HF := Lib.hid (few_lines _ _ 3 3 [s1, s2, s3] (w.alloc (.cells (strs [s1, s2, s3]).toArray 9 (0, 0))) hr0 (by decide))
  clear hr0
  cases hd : fewN 3 [s1, s2, s3] with
  | false =>
    rw [hd] at HF
    clear hd
    go_enter Tryd.func7, Tryd.ntmps7
    go_wp2_with fail
    refine HF.out.mono ?_
    rintro e w2 ⟨rfl, hw2⟩
    have hg2 : Grows w w2 := hw2 ▸ hg0
    clear HF hw2 hg0
    go_wp2_with fail
    refine (mawake_any _ (hm.grows hg2)).mono ?_
    rintro e w5 ⟨rfl, hg5⟩
    go_wp2_with fail
    go_ret
    exact ⟨rfl, hg2.trans hg5⟩
  | true =>
    have hfew := fewN_iff.1 hd
    have z1 : s1.size ≤ 400 := hfew 0 (by decide)
    have z2 : s2.size ≤ 400 := hfew 1 (by decide)
    have z3 : s3.size ≤ 400 := hfew 2 (by decide)
    rw [hd] at HF
    clear hfew hd
    have hp1 := fun wx => rplain_any (s1 ++ { data := #[10] }) wx (by rw [ByteArray.size_append, lit10]; omega)
    have hp2 := fun wx => rplain_any (s2 ++ { data := #[10] }) wx (by rw [ByteArray.size_append, lit10]; omega)
    have hp3 := fun wx => rplain_any (s3 ++ { data := #[10] }) wx (by rw [ByteArray.size_append, lit10]; omega)
    have HP1 := Lib.hid hp1
    have HP2 := Lib.hid hp2
    have HP3 := Lib.hid hp3
    clear hp1 hp2 hp3
    go_enter Tryd.func7, Tryd.ntmps7
    go_wp2_with fail
    refine HF.out.mono ?_
    rintro e w0 ⟨rfl, hw0⟩
    have hgw0 : Grows w w0 := hw0 ▸ hg0
    have HG0 := Lib.hid hgw0
    clear HF hw0 hg0 hgw0
    go_wp2_with fail
    refine (HP1.out w0).mono ?_
    rintro e w1 ⟨rfl, hg1⟩
    have HG1 := Lib.hid (HG0.out.trans hg1)
    clear HG0 hg1
    cases h1 : plainT (s1 ++ { data := #[10] }) with
    | false =>
      clear h1
      go_wp2_with fail
      refine (mawake_any _ (hm.grows HG1.out)).mono ?_
      rintro e w5 ⟨rfl, hg5⟩
      go_wp2_with fail
      go_ret
      exact ⟨rfl, HG1.out.trans hg5⟩
    | true =>
    have HQ1 := Lib.hid h1
    clear h1
    go_wp2_with fail
    refine (HP2.out w1).mono ?_
    rintro e w2 ⟨rfl, hg2⟩
    have HG2 := Lib.hid (HG1.out.trans hg2)
    clear HG1 hg2
    cases h2 : plainT (s2 ++ { data := #[10] }) with
    | false =>
      clear h2
      go_wp2_with fail
      refine (mawake_any _ (hm.grows HG2.out)).mono ?_
      rintro e w5 ⟨rfl, hg5⟩
      go_wp2_with fail
      go_ret
      exact ⟨rfl, HG2.out.trans hg5⟩
    | true =>
    have HQ2 := Lib.hid h2
    clear h2
    go_wp2_with fail
    refine (HP3.out w2).mono ?_
    rintro e w3 ⟨rfl, hg3⟩
    have HG3 := Lib.hid (HG2.out.trans hg3)
    clear HG2 hg3
    cases h3 : plainT (s3 ++ { data := #[10] }) with
    | false =>
      clear h3
      go_wp2_with fail
      refine (mawake_any _ (hm.grows HG3.out)).mono ?_
      rintro e w5 ⟨rfl, hg5⟩
      go_wp2_with fail
      go_ret
      exact ⟨rfl, HG3.out.trans hg5⟩
    | true =>
    have HQ3 := Lib.hid h3
    clear h3 HP1 HP2 HP3
    have HCP := Lib.hid (chunks_plain HQ1.out HQ2.out HQ3.out)
    obtain ⟨b, hb⟩ : ∃ b, b = s1 ++ { data := #[10] } := ⟨_, rfl⟩
    obtain ⟨o, ho⟩ : ∃ o, o = s2 ++ { data := #[10] } := ⟨_, rfl⟩
    obtain ⟨t, ht⟩ : ∃ t, t = s3 ++ { data := #[10] } := ⟨_, rfl⟩
    have zb : b.size ≤ 401 := by rw [hb, ByteArray.size_append, lit10]; omega
    have zo : o.size ≤ 401 := by rw [ho, ByteArray.size_append, lit10]; omega
    have zt : t.size ≤ 401 := by rw [ht, ByteArray.size_append, lit10]; omega
    rw [← hb, ← ho, ← ht] at HCP ⊢
    clear hb ho ht HQ1 HQ2 HQ3 z1 z2 z3
    have y1 := lines_le b
    have y2 := lines_le o
    have y3 := lines_le t
    obtain ⟨c, hc⟩ : ∃ c, chunks (linesT b) (linesT o) (linesT t) = c := ⟨_, rfl⟩
    have hcl := chunks_len (linesT b) (linesT o) (linesT t)
    have hma := fun wx (hx : MaxL wx) => merge_all b o t wx hx (by omega) (by omega) (by omega) (by omega) (by omega) (by omega)
    have hsm := chunks_smallT (b := b) (o := o) (t := t) (by omega) (by omega) (by omega)
    have hfl := merge_flat (b := b) (o := o) (t := t)
    rw [hc] at HCP hma hsm hfl hcl
    have HMA := Lib.hid hma
    have HSM := Lib.hid hsm
    have HC := Lib.hid hc
    have hmz := merged_size hsm (by omega) (by omega)
    have HPA := Lib.hid (parse_merged HCP.out)
    have HRF := Lib.hid (fun sd => resL_facts sd c [])
    have HMP := Lib.hid (fun h => merged_plain HCP.out h)
    have HRO := Lib.hid (lpO_rows (s := mergedT c) hmz)
    have HPT := Lib.hid (fun wx (hx : MaxL wx) => parse_any (mergedT c) wx hx (by omega))
    have HPW := Lib.hid (fun wx (hx : MaxL wx) => plain_walk (mergedT c) wx hx (by omega))
    have HSC := Lib.hid (fun h sd => sides_clean (l := c) h sd)
    have HCI := Lib.hid (clean_iff c)
    have hlc : c.length ≤ 1000 := by omega
    clear hma hsm hc hcl HCP hfl
    obtain ⟨mt, hmt⟩ : ∃ mt, mt = mergedT c := ⟨_, rfl⟩
    have HMT := Lib.hid hmt
    rw [← hmt] at HMA HPA HMP HPT HPW HRO hmz
    clear hmt
    obtain ⟨cb, hcb⟩ : ∃ cb, cb = cleanC c := ⟨_, rfl⟩
    have HCB := Lib.hid hcb
    rw [← hcb] at HMA HMP HCI HSC
    clear hcb
    go_wp2_with fail
    refine (HMA.out w3 (hm.grows HG3.out)).mono ?_
    rintro e w4 ⟨rfl, hg4⟩
    have HG4 := Lib.hid (HG3.out.trans hg4)
    clear HG3 hg4
    go_wp2_with fail
    refine (HPT.out w4 (hm.grows HG4.out)).mono ?_
    rw [HPA.out]
    rintro e w5 ⟨hp5, hg5⟩
    obtain ⟨A5, c5, rfl, hC5⟩ := hp5.openE (E := 0) rfl
    have HG5 := Lib.hid (HG4.out.trans hg5)
    obtain ⟨R, hR⟩ : ∃ R, R = resL c [] := ⟨_, rfl⟩
    rw [show lpO (some (resL c [])) = R from hR.symm] at hC5 ⊢
    have hro := HRO.out
    rw [HPA.out, show lpO (some (resL c [])) = R from hR.symm] at hro
    have HRL := Lib.hid hro.1
    have HLO := Lib.hid (show LinesOK R from fun k hk => by
      have hmem : gch R k ∈ R := by
        have : gch R k = R[k] := by simp [gch, List.getElem?_eq_getElem hk]
        rw [this]
        exact List.getElem_mem hk
      have := hro.2 _ hmem
      omega)
    clear hro HRO
    have HRF2 := Lib.hid (fun sd => (hR ▸ HRF.out sd : clashN R = clashN [] + clashN c ∧ pickB R sd = pickB [] sd ++ c.flatMap (sideB sd)))
    have HC5 := Lib.hid hC5
    clear HG4 hg5 hp5 hC5 hR HRF
    go_wp2_with fail
    refine (mawake_any w5 (hm.grows HG5.out)).mono ?_
    rintro e w6 ⟨rfl, hg6⟩
    have HG6 := Lib.hid (HG5.out.trans hg6)
    have HC6 := Lib.hid ((HC5.out.grows (Nat.le_refl _) hg6).moreM hg6.size)
    clear HG5 hg6 HC5
    go_wp2_with fail
    go_loopg [11, 12] R.length (fun gk nv q wr => w6 = wr ∧ ∃ k : Nat, q = .int .i64 k ∧ k ≤ R.length ∧ gk = R.length - k ∧ nv = .int .i64 (cTo R k))
    case atStart => exact ⟨rfl, 0, rfl, by omega, rfl, rfl⟩
    case round =>
      obtain ⟨rfl, k, rfl, hk, hgk, rfl⟩ := hrel
      have HG := Lib.hid hgk
      have hcb := cTo_le R k
      have hrl := HRL.out
      clear hgk
      by_cases hlt : k < R.length
      · obtain ⟨ad, rfl, had, hat⟩ := HC6.out.at_ hlt
        obtain ⟨p0, -⟩ := hat
        have hsu := cTo_succ (c := R) hlt
        obtain ⟨kd, hkd⟩ : ∃ kd, (gch R k).1 = kd := ⟨_, rfl⟩
        rw [hkd] at p0 hsu
        clear hkd
        have k0 : (0 : Int) ≤ k := by omega
        have k1 : (k : Int) < R.length := by omega
        obtain ⟨nn, hnn⟩ : ∃ nn, cTo R k = nn := ⟨_, rfl⟩
        rw [hnn] at hcb hsu ⊢
        clear hnn
        cases he : (kd == 5) with
        | true =>
          have HF2 := Lib.hid (show ((nn : Int) + 1) = (cTo R (k + 1) : Nat) by rw [hsu, if_pos (by simpa using he)]; push_cast; rfl)
          clear hsu
          go_wp2_with fail
          go_roundg (R.length - (k + 1))
          case measure => rw [HG.out]; omega
          case rel => exact ⟨rfl, k + 1, by go_num, by omega, rfl, by rw [HF2.out]⟩
        | false =>
          have HF2 := Lib.hid (show (nn : Int) = (cTo R (k + 1) : Nat) by rw [hsu, if_neg (by simpa using he)]; push_cast; omega)
          clear hsu
          go_wp2_with fail
          go_roundg (R.length - (k + 1))
          case measure => rw [HG.out]; omega
          case rel => exact ⟨rfl, k + 1, by go_num, by omega, rfl, by rw [HF2.out]⟩
      · have hks : k = R.length := by omega
        subst hks
        have k1 : ¬ (((R.length : Nat) : Int) < R.length) := by omega
        have HN := Lib.hid (show cTo R R.length = clashN R by rw [cTo, List.take_length])
        clear HG hcb
        go_wp2_with fail
        refine (rsplit_any b w6 (by omega)).mono ?_
        rintro e w7 ⟨v, rfl, hs1, hg7⟩
        obtain ⟨A1, c1, rfl, hc1, hM1⟩ := own_form hs1
        have HR1 := Lib.hid (Reads.of_own hs1)
        have z1 := hg7.size
        clear hs1
        obtain ⟨L1, hL1⟩ : ∃ L, linesT b = L := ⟨_, rfl⟩
        rw [hL1] at HR1 hc1 HC y1
        try rw [hL1]
        clear hL1
        go_wp2_with fail
        refine (rsplit_any o w7 (by omega)).mono ?_
        rintro e w8 ⟨v, rfl, hs2, hg8⟩
        obtain ⟨A2, c2, rfl, hc2, hM2⟩ := own_form hs2
        have HR2 := Lib.hid (Reads.of_own hs2)
        have z2 := hg8.size
        clear hs2
        obtain ⟨L2, hL2⟩ : ∃ L, linesT o = L := ⟨_, rfl⟩
        rw [hL2] at HR2 hc2 HC y2
        try rw [hL2]
        clear hL2
        go_wp2_with fail
        refine (rsplit_any t w8 (by omega)).mono ?_
        rintro e w9 ⟨v, rfl, hs3, hg9⟩
        obtain ⟨A3, c3, rfl, hc3, hM3⟩ := own_form hs3
        have HR3 := Lib.hid (Reads.of_own hs3)
        have z3 := hg9.size
        clear hs3
        obtain ⟨L3, hL3⟩ : ∃ L, linesT t = L := ⟨_, rfl⟩
        rw [hL3] at HR3 hc3 HC y3
        try rw [hL3]
        clear hL3
        go_wp2_with fail
        refine (rof_any w9.heap.size w9.heap.size w9.heap.size L1.length L2.length L3.length c1 c2 c3 A1 A2 A3 L1 L2 L3 w9 ((HR1.out.grows (Nat.le_refl _) (hg8.trans hg9)).more (Nat.le_trans z2 z3)) ((HR2.out.grows (Nat.le_refl _) hg9).more z3) HR3.out (Nat.le_refl _) (Nat.le_refl _) (Nat.le_refl _) (by omega) (by omega) (by omega) hc1 hc2 hc3 hM1 hM2 hM3).mono ?_
        rw [HC.out]
        rintro e w10 ⟨A4, n4, q4, rfl, hC4, hg10, hq4, hqM4⟩
        have HC4 := Lib.hid hC4
        have k4 := hC4.1
        subst k4
        have HG10 := Lib.hid (hg7.trans (hg8.trans (hg9.trans hg10)))
        clear hC4 hg7 hg8 hg9 hg10 HR1 HR2 HR3 z1 z2 z3 hc1 hc2 hc3 hM1 hM2 hM3
        unfold maxLen at hqM4
        go_wp2_with fail
        have h00 := Lib.hid (show aTo true c 0 = { data := #[] } ∧ aTo false c 0 = { data := #[] } from ⟨rfl, rfl⟩)
        go_loopg [14, 15, 16, 17] c.length (fun gk wv av bv q wr => Grows w10 wr ∧ ∃ k : Nat, q = .int .i64 k ∧ k ≤ c.length ∧ gk = c.length - k ∧ wv = .int .i64 (cTo c k) ∧ av = .string (aTo true c k) ∧ bv = .string (aTo false c k))
        case atStart => exact ⟨Grows.refl _, 0, rfl, by omega, rfl, rfl, by rw [h00.out.1], by rw [h00.out.2]⟩
        case round =>
          obtain ⟨hgr, k, rfl, hk, hgk, rfl, rfl, rfl⟩ := hrel
          have HG := Lib.hid hgk
          have HGR := Lib.hid hgr
          have hcb := cTo_le c k
          clear hgk hgr
          by_cases hlt : k < c.length
          · have k0 : (0 : Int) ≤ k := by omega
            have k1 : (k : Int) < c.length := by omega
            have hz4 := HGR.out.size
            obtain ⟨ad, rfl, had, hat⟩ := (HC4.out.grows (Nat.le_refl _) HGR.out).at_ hlt
            have hone := chunk_one_at hat (by rw [block_of_add]; exact had)
            obtain ⟨p0, ⟨F1, n1, e1, p1, r1, -, -⟩, ⟨F2, n2, e2, p2, r2, -, -⟩, ⟨F3, n3, e3, p3, r3, -, -⟩⟩ := hat
            have hsm := HSM.out k hlt
            have hcs := cTo_succ (c := c) hlt
            have hat_ := aTo_succ (ours := true) hlt
            have haf := aTo_succ (ours := false) hlt
            have hzt := aTo_size (ours := true) HSM.out k hk
            have hzf := aTo_size (ours := false) HSM.out k hk
            generalize gch c k = ch at hone p0 p2 p3 r1 r2 r3 hsm hcs hat_ haf
            obtain ⟨kd, x1, x2, x3⟩ := ch
            dsimp only at p0 p2 p3 r1 r2 r3 hcs
            have l1 := r1.strLen
            have l2 := r2.strLen
            have l3 := r3.strLen
            obtain ⟨⟨q1, q2, q3⟩, m1, m2, m3⟩ := hsm
            dsimp only at q1 q2 q3 m1 m2 m3
            obtain ⟨nn, hnn⟩ : ∃ nn, cTo c k = nn := ⟨_, rfl⟩
            obtain ⟨ta, hta⟩ : ∃ ta, aTo true c k = ta := ⟨_, rfl⟩
            obtain ⟨tb, htb⟩ : ∃ tb, aTo false c k = tb := ⟨_, rfl⟩
            rw [hnn] at hcb hcs ⊢
            rw [hta] at hat_ hzt ⊢
            rw [htb] at haf hzf ⊢
            clear hnn hta htb
            cases he : (kd == 5) with
            | true =>
              have h5 : kd = 5 := by simpa using he
              have HF2 := Lib.hid (show ((nn : Int) + 1) = (cTo c (k + 1) : Nat) by rw [hcs, if_pos h5]; push_cast; rfl)
              have HFA := Lib.hid (show aTo true c (k + 1) = ta ++ joinT x2 by rw [hat_, sideB, if_pos h5, sideC, if_pos rfl]; rfl)
              have HFB := Lib.hid (show aTo false c (k + 1) = tb ++ joinT x3 by rw [haf, sideB, if_pos h5, sideC, if_neg (by simp)]; rfl)
              clear hcs hat_ haf hone h5
              go_wp2_with fail
              obtain ⟨S, hS⟩ : ∃ S : World → Prop, S = fun w' => Grows wr w' := ⟨_, rfl⟩
              have hSb : ∀ s : SW S, Grows wr s.w := fun s => by
                have := s.ok
                subst hS
                exact this
              have hpb : (ad.add (k * 4)).block < wr.heap.size := by rw [block_of_add]; omega
              have hS6 : ∀ s : SW S, s.w.cell? ⟨(ad.add (k * 4)).block, (ad.add (k * 4)).off + 2, none⟩ = some (.slice F2 n2 e2) := fun s => (show s.w.cell? ⟨(ad.add (k * 4)).block, (ad.add (k * 4)).off + 2, none⟩ = wr.cell? ⟨(ad.add (k * 4)).block, (ad.add (k * 4)).off + 2, none⟩ from Below.cell (hSb s) hpb).trans p2
              have hS7 : ∀ s : SW S, s.w.cell? ⟨(ad.add (k * 4)).block, (ad.add (k * 4)).off + 3, none⟩ = some (.slice F3 n3 e3) := fun s => (show s.w.cell? ⟨(ad.add (k * 4)).block, (ad.add (k * 4)).off + 3, none⟩ = wr.cell? ⟨(ad.add (k * 4)).block, (ad.add (k * 4)).off + 3, none⟩ from Below.cell (hSb s) hpb).trans p3
              have hSi : ∀ w', Grows wr w' → S w' := by rw [hS]; exact fun _ h => h
              have hgd : Grows wr wr.drew := (Grows.refl wr).drew
              have hS0 := hSi _ hgd
              clear hS hSb
              haveI : Nonempty (SW S) := ⟨⟨_, hS0⟩⟩
              have u2 : (joinT x2).size ≤ 1000 := by rw [joinT_size]; exact q2
              have u3 : (joinT x3).size ≤ 1000 := by rw [joinT_size]; exact q3
              have J2 := Lib.hid (rjoin_any w10.heap.size F2 n2 e2 x2 wr.drew r2.drew (by omega) (by have : (bl x2).flatten.length ≤ 1000 := q2; omega))
              have J3 := Lib.hid (rjoin_any w10.heap.size F3 n3 e3 x3 wr.drew r3.drew (by omega) (by have : (bl x3).flatten.length ≤ 1000 := q3; omega))
              clear q1 q2 q3 r1 r2 r3 p0 p1 p2 p3 hpb
              generalize joinT x2 = j2 at u2 J2 HFA
              generalize joinT x3 = j3 at u3 J3 HFB
              refine wp_region_seq S [([0, 1, 2, 3, 4, 5, 8, 9, 10, 11, 12, 13], 6), ([7], 14)] [15, 16, 17] [] (by kernel_rfl) (fun _ _ _ _ _ h => h) (by kernel_rfl) hS0 ?_
              simp only [pickS, pickT, pickL, List.map_cons, List.map_nil, List.filterMap_cons, List.filterMap_nil, List.getElem?_cons_zero, List.getElem?_cons_succ]
              generalize wr.drew = wd at hgd hS0 J2 J3 ⊢
              refine wpSeq_consK fun K2 hK2 K hK => ?_
              repeat (show wpQuiet _ _ _ _ (_ :: _) _; go_big_quiet_step (fail))
              refine wpQuiet_nil (hK _ ?_)
              clear hK K
              show wpList _ _ _ [_] _ _
              go_wp2_with fail
              refine (J2.out).mono ?_
              rintro e w11 ⟨rfl, hw11⟩
              subst hw11
              go_wp2_with fail
              refine hK2.out _ _ hS0 ?_
              clear hK2 K2
              refine wpSeq_consK fun K2 hK2 K hK => ?_
              repeat (show wpQuiet _ _ _ _ (_ :: _) _; go_big_quiet_step (fail))
              refine wpQuiet_nil (hK _ ?_)
              clear hK K
              show wpList _ _ _ [_] _ _
              go_wp2_with fail
              refine (J3.out).mono ?_
              rintro e w11 ⟨rfl, hw11⟩
              subst hw11
              go_wp2_with fail
              refine hK2.out _ _ hS0 ?_
              clear hK2 K2
              refine wpSeq_nil (wpRest_K fun K hK => ?_)
              repeat (show wpQuiet _ _ _ _ (_ :: _) _; go_big_quiet_step (fail))
              refine wpQuiet_nil (hK _ ?_)
              clear hK K
              refine wpSegs_nil ?_
              go_wp2_with fail
              go_roundg (c.length - (k + 1))
              case measure => rw [HG.out]; omega
              case rel => exact ⟨HGR.out.trans hgd, k + 1, by go_num, by omega, rfl, by rw [HF2.out], by rw [HFA.out], by rw [HFB.out]⟩
            | false =>
              have h5 : ¬ kd = 5 := by simpa using he
              have HF2 := Lib.hid (show (nn : Int) = (cTo c (k + 1) : Nat) by rw [hcs, if_neg h5]; push_cast; omega)
              have HFA := Lib.hid (show aTo true c (k + 1) = ta ++ joinT (mergeC [(kd, x1, x2, x3)]) by rw [hat_, sideB, if_neg h5]; rfl)
              have HFB := Lib.hid (show aTo false c (k + 1) = tb ++ joinT (mergeC [(kd, x1, x2, x3)]) by rw [haf, sideB, if_neg h5]; rfl)
              have hmc : (mergeC [(kd, x1, x2, x3)]).length ≤ 1000000000 := by
                have : mergeC [(kd, x1, x2, x3)] = if kd = 3 then x3 else x2 := by simp [mergeC]
                rw [this]
                split <;> omega
              have hfm1 : (flatS (mergeC [(kd, x1, x2, x3)])).length ≤ 1000 := by
                rw [flat_merge]
                split <;> assumption
              clear h5 hcs hat_ haf q1 q2 q3 r1 r2 r3
              have kq : (k : Int) + 1 ≤ q4 := by omega
              have hqk : ¬ q4 = k := by omega
              go_wp2_with fail
              refine (rmerged_any w10.heap.size (some (ad.add (k * 4))) 1 (q4 - k) [(kd, x1, x2, x3)] wr hone hz4 (by omega) (fun j hj => by
                have : j = 0 ∨ j = 1 := by omega
                rcases this with rfl | rfl
                · simp [mergeC]
                · exact hmc)).mono ?_
              rintro e wc ⟨v, rfl, hown, hgc⟩
              obtain ⟨A9, c9, rfl, hc9, -⟩ := own_form hown
              have HR9 := Lib.hid (Reads.of_own hown)
              clear hown hone
              generalize mergeC [(kd, x1, x2, x3)] = mg at hmc hfm1 HFA HFB HR9 hc9 ⊢
              have hjz : (joinT mg).size ≤ 1000 := by rw [joinT_size]; exact hfm1
              go_wp2_with fail
              refine (rjoin_any _ A9 mg.length c9 mg wc HR9.out (by omega) (by have : (bl mg).flatten.length ≤ 1000 := hfm1; omega)).mono ?_
              rintro e w11 ⟨rfl, hw11⟩
              subst hw11
              generalize joinT mg = jm at hjz HFA HFB ⊢
              go_wp2_with fail
              go_roundg (c.length - (k + 1))
              case measure => rw [HG.out]; omega
              case rel => exact ⟨HGR.out.trans hgc, k + 1, by go_num, by omega, rfl, by rw [HF2.out], by rw [HFA.out], by rw [HFB.out]⟩
          · have hkn : k = c.length := by omega
            have k1 : ¬ ((k : Int) < c.length) := by omega
            subst hkn
            have hpe : ∀ sd, pickTo R sd R.length = c.flatMap (sideB sd) := fun sd => by
              have h1 : pickTo R sd R.length = pickB R sd := by rw [pickTo, List.take_length]; rfl
              rw [h1, (HRF2.out sd).2]
              simp [pickB]
            have hae : ∀ sd, aTo sd c c.length = tx (c.flatMap (sideB sd)) := fun sd => by rw [aTo, List.take_length]
            have hpl : ∀ sd, (pickTo R sd R.length).length ≤ 1000000000 := fun sd => by
              have h1 := aTo_size (ours := sd) HSM.out c.length (Nat.le_refl _)
              rw [hae, tx_size] at h1
              rw [hpe]
              omega
            have hne : clashN R = clashN c := by rw [(HRF2.out true).1]; simp [clashN]
            have hn2 : cTo c c.length = clashN c := by rw [cTo, List.take_length]
            have hPK : ∀ sd wx, Grows w6 wx → Calls Tryd.prog 24 #[.slice A5 R.length c5, .bool sd] wx fun e w' => e = .returned (.string (aTo sd c c.length)) ∧ Grows wx w' := fun sd wx hg => by
              have := pick_any w6.heap.size A5 R.length c5 R sd wx (HC6.out.grows (Nat.le_refl _) hg) hg.size (by have := HRL.out; omega) HLO.out (hpl sd)
              rw [hpe sd, ← hae sd] at this
              exact this
            have hxa : cb = true → mt = aTo true c c.length := fun h => by
              rw [HMT.out, hae, HSC.out h true, mergedT, if_pos (by rw [← HCB.out]; exact h)]
              rfl
            obtain ⟨N, hN⟩ : ∃ N, cTo c c.length = N := ⟨_, rfl⟩
            have hNR : cTo R R.length = N := by rw [HN.out, hne, ← hn2, hN]
            have hcN : cb = decide (N = 0) := by rw [HCI.out, ← hn2, hN]
            have HK1 := hPK true
            have HK2 := hPK false
            obtain ⟨ta, hta⟩ : ∃ ta, aTo true c c.length = ta := ⟨_, rfl⟩
            obtain ⟨tb, htb⟩ : ∃ tb, aTo false c c.length = tb := ⟨_, rfl⟩
            rw [hta] at HK1 hxa ⊢
            rw [htb] at HK2 ⊢
            rw [hN] at hcb ⊢
            try rw [hNR]
            have HK1 := Lib.hid HK1
            have HK2 := Lib.hid HK2
            have HGW := Lib.hid (HG10.out.trans HGR.out)
            have hpm := HMP.out
            have hPW := HPW.out
            clear hpe hae hpl hne hn2 hPK hN hNR hta htb HRF2 HSM HSC HCI HMP HPW HG HGR HC4
            cases cb with
            | true =>
              have hN0 : N = 0 := by simpa using hcN.symm
              obtain rfl := hxa rfl
              rw [hpm rfl] at hPW
              have HPW := Lib.hid hPW
              subst hN0
              clear hcN hpm hPW hxa
              go_wp2_with fail
              refine (HK1.out wr HGW.out).mono ?_
              rintro e w11 ⟨rfl, hg11⟩
              have HG11 := Lib.hid (HGW.out.trans hg11)
              go_wp2_with fail
              refine (HK2.out w11 HG11.out).mono ?_
              rintro e w12 ⟨rfl, hg12⟩
              have HG12 := Lib.hid (HG6.out.trans (HG11.out.trans hg12))
              go_wp2_with fail
              refine (HPW.out w12 (hm.grows HG12.out)).mono ?_
              rintro e w13 ⟨rfl, hg13⟩
              go_wp2_with fail
              go_ret
              exact ⟨rfl, HG12.out.trans hg13⟩
            | false =>
              have hN0 : ¬ N = 0 := by simpa using hcN.symm
              have hN1 : (N : Int) ≠ 0 := by omega
              have hN2 : ((N : Int) == 0) = false := by simpa using hN0
              clear hcN hpm hPW hxa
              go_wp2_with fail
              refine (HK1.out wr HGW.out).mono ?_
              rintro e w11 ⟨rfl, hg11⟩
              have HG11 := Lib.hid (HGW.out.trans hg11)
              go_wp2_with fail
              refine (HK2.out w11 HG11.out).mono ?_
              rintro e w12 ⟨rfl, hg12⟩
              have HG12 := Lib.hid (HG6.out.trans (HG11.out.trans hg12))
              go_wp2_with fail
              go_ret
              exact ⟨rfl, HG12.out⟩
end Go.Proofs.YtakgddochbcjbaaDoor
