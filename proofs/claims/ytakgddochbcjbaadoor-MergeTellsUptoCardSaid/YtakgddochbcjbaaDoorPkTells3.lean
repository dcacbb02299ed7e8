/- The document's Merge. -/
import Derived.Test.YtakgddochbcjbaaDoorPkTells2
namespace Go.Proofs.YtakgddochbcjbaaDoor
open Go.RowKit Go.Deep Go.MapKept

theorem chunkAt_one {w : World} {B : Nat} {p : Addr} {ch : ChkB} (h : ChunkAt w B p ch) (hp : p.block < B) : ChunksN w B (some p) 1 [ch] := by
  refine ⟨rfl, fun _ => ⟨p, rfl, hp, fun j hj => ?_⟩⟩
  obtain rfl : j = 0 := by omega
  have e : p.add (0 * 4) = p := by simp [Addr.add]
  rw [e]
  exact h
def stepT (out : ByteArray) (c : ChkB) : ByteArray := tx (stepL out.data.toList c)
theorem outT_succ {l : List ChkB} {k : Nat} (h : k < l.length) : tx (outTo l (k + 1)) = stepT (tx (outTo l k)) (gch l k) := by
  rw [stepT, data_tx, outTo_succ h]
/-- ended already -/
def EndO (u : List UInt8) : Prop := endL u = u
theorem endO_end (u : List UInt8) : EndO (u ++ [10]) := by rw [EndO, endL_last (b := 10) (k := u.length) (by simp) (by simp), if_pos rfl]
theorem stepT_clash {out : ByteArray} {k : Int} {x1 x2 x3 : List ByteArray} (h : k = 5) : stepT out (k, x1, x2, x3) = endT out ++ mkO ++ endT (joinT x2) ++ mkB ++ endT (joinT x1) ++ mkT ++ endT (joinT x3) ++ mkE := by
  subst h
  have key : ∀ (u v : List UInt8), EndO u → endL (u ++ v) = u ++ endL v := by
    intro u v hu
    rcases Decidable.em (v = []) with rfl | hv
    · rw [List.append_nil, hu]
      rw [show endL [] = [] from rfl, List.append_nil]
    · obtain ⟨y, b, rfl⟩ := split_end hv
      rw [← List.append_assoc, endL_last (b := b) (k := (u ++ y).length) (by simp; omega) (by simp), endL_last (b := b) (k := y.length) (by simp) (by simp)]
      split <;> simp [List.append_assoc]
  have eO : ∀ u : List UInt8, EndO (u ++ mkO.data.toList) := fun u => by
    have : mkO.data.toList = [60, 60, 60, 60, 60, 60, 60, 32, 111, 117, 114, 115] ++ [10] := rfl
    rw [this, ← List.append_assoc]
    exact endO_end _
  have eB : ∀ u : List UInt8, EndO (u ++ mkB.data.toList) := fun u => by
    have : mkB.data.toList = [124, 124, 124, 124, 124, 124, 124, 32, 98, 97, 115, 101] ++ [10] := rfl
    rw [this, ← List.append_assoc]
    exact endO_end _
  have eT : ∀ u : List UInt8, EndO (u ++ mkT.data.toList) := fun u => by
    have : mkT.data.toList = [61, 61, 61, 61, 61, 61, 61] ++ [10] := rfl
    rw [this, ← List.append_assoc]
    exact endO_end _
  rw [stepT, stepL, if_pos rfl]
  simp only
  rw [key _ _ (eO _), key _ _ (eB _), key _ _ (eT _)]
  simp only [tx_appT, tx_data, endT, joinT_data]
  rfl
theorem endT_size (s : ByteArray) : (endT s).size ≤ s.size + 1 := by
  have h := endL_len s.data.toList
  have h2 : s.data.toList.length = s.size := Array.length_toList
  rw [endT, tx_size]
  omega
theorem Blk.growsT {w w' : World} {g : Nat} {t : TypeId} {cs : Array Value} (h : Blk w g t cs) (hg : Grows w w') : Blk w' g t cs := (hg.block g h.lt).trans h
set_option maxRecDepth 100000 in
set_option pp.deepTerms true in
set_option pp.maxSteps 1000000 in
set_option maxRecDepth 100000 in
set_option maxHeartbeats 4000000 in
theorem rmerge_all (b o t : ByteArray) (w : World) (hb : b.size ≤ 1000) (ho : o.size ≤ 1000) (ht : t.size ≤ 1000) (hbl : (linesT b).length ≤ 400) (hol0 : (linesT o).length ≤ 400) (htl : (linesT t).length ≤ 400) :
    Calls Tryd.prog 21 #[.string b, .string o, .string t] w fun e w' => e = .returned (.tuple #[.string (mergedT (chunks (linesT b) (linesT o) (linesT t))), .bool (cleanC (chunks (linesT b) (linesT o) (linesT t)))]) ∧ Grows w w' := by
  obtain ⟨l, hl⟩ : ∃ l, chunks (linesT b) (linesT o) (linesT t) = l := ⟨_, rfl⟩
  have HFL := Lib.hid (show ∀ k, k < l.length → SmallC (gch l k) by rw [← hl]; exact chunks_smallT hb ho ht)
  have hfm := Lib.hid (show (bl (mergeC l)).flatten.length ≤ 200000 by have h := merge_flat (b := b) (o := o) (t := t); rw [hl] at h; have : (bl (mergeC l)).flatten.length = (flatS (mergeC l)).length := rfl; omega)
  have hnb := Lib.hid (lines_le b)
  have hno := Lib.hid (lines_le o)
  have hnt := Lib.hid (lines_le t)
  have HMK := Lib.hid (fun k => Nat.le_trans (hl ▸ merge_chunks (linesT b) (linesT o) (linesT t) k) (show (linesT o).length + (linesT t).length ≤ 1000000000 by have := hno.out; have := hnt.out; omega))
  have HML := Lib.hid (show (mergeC l).length ≤ 1000000000 by have := HMK.out l.length; rwa [List.take_length] at this)
  have hlen := chunks_len (linesT b) (linesT o) (linesT t)
  rw [hl] at hlen ⊢
  have HL := Lib.hid hl
  have HOL := Lib.hid (outTo_len HFL.out)
  clear hl
  go_enter Tryd.func21, Tryd.ntmps21
  go_wp2_with fail
  refine (rsplit_any b w (by omega)).mono ?_
  rintro e w1 ⟨v, rfl, hs1, hg1⟩
  obtain ⟨A1, c1, rfl, hc1, hM1⟩ := own_form hs1
  have HR1 := Lib.hid (Reads.of_own hs1)
  have z1 := hg1.size
  clear hs1
  obtain ⟨L1, hL1⟩ : ∃ L, linesT b = L := ⟨_, rfl⟩
  rw [hL1] at HR1 hc1 HL hbl hlen
  try rw [hL1]
  clear hL1
  go_wp2_with fail
  refine (rsplit_any o w1 (by omega)).mono ?_
  rintro e w2 ⟨v, rfl, hs2, hg2⟩
  obtain ⟨A2, c2, rfl, hc2, hM2⟩ := own_form hs2
  have HR2 := Lib.hid (Reads.of_own hs2)
  have z2 := hg2.size
  clear hs2
  obtain ⟨L2, hL2⟩ : ∃ L, linesT o = L := ⟨_, rfl⟩
  rw [hL2] at HR2 hc2 HL hol0 
  try rw [hL2]
  clear hL2
  go_wp2_with fail
  refine (rsplit_any t w2 (by omega)).mono ?_
  rintro e w3 ⟨v, rfl, hs3, hg3⟩
  obtain ⟨A3, c3, rfl, hc3, hM3⟩ := own_form hs3
  have HR3 := Lib.hid (Reads.of_own hs3)
  have z3 := hg3.size
  clear hs3
  obtain ⟨L3, hL3⟩ : ∃ L, linesT t = L := ⟨_, rfl⟩
  rw [hL3] at HR3 hc3 HL htl 
  try rw [hL3]
  clear hL3
  go_wp2_with fail
  refine (rof_any w3.heap.size w3.heap.size w3.heap.size L1.length L2.length L3.length c1 c2 c3 A1 A2 A3 L1 L2 L3 w3 ((HR1.out.grows (Nat.le_refl _) (hg2.trans hg3)).more (Nat.le_trans z2 z3)) ((HR2.out.grows (Nat.le_refl _) hg3).more z3) HR3.out (Nat.le_refl _) (Nat.le_refl _) (Nat.le_refl _) hbl hol0 htl hc1 hc2 hc3 hM1 hM2 hM3).mono ?_
  rw [HL.out]
  rintro e w4 ⟨A4, n4, q4, rfl, hC4, hg4, hq4, hqM4⟩
  have HC4 := Lib.hid hC4
  have k4 := hC4.1
  subst k4
  have HG4 := Lib.hid (hg1.trans (hg2.trans (hg3.trans hg4)))
  clear hC4 hg1 hg2 hg3 hg4 HR1 HR2 HR3 z1 z2 z3
  unfold maxLen at hqM4
  have hrc := rclean_any w4.heap.size A4 l.length q4 l w4 HC4.out (by unfold maxLen; omega)
  cases hcl : cleanC l with
  | true =>
    rw [hcl] at hrc
    have HE := Lib.hid (show mergedT l = joinT (mergeC l) by rw [mergedT, if_pos hcl])
    have HCE := Lib.hid hcl
    clear hcl
    go_wp2_with fail
    refine hrc.mono ?_
    rintro e w5 ⟨rfl, hw5⟩
    subst hw5
    go_wp2_with fail
    refine (rmerged_any w4.heap.size A4 l.length q4 l w4 HC4.out (Nat.le_refl _) (by omega) (fun k _ => HMK.out k)).mono ?_
    rintro e w6 ⟨v, rfl, hown, hg6⟩
    obtain ⟨A6, c6, rfl, hc6, -⟩ := own_form hown
    have HR6 := Lib.hid (Reads.of_own hown)
    clear hown
    go_wp2_with fail
    refine (rjoin_any _ A6 _ c6 (mergeC l) w6 HR6.out (by have := HML.out; omega) (by have := hfm.out; omega)).mono ?_
    rintro e w7 ⟨rfl, hw7⟩
    subst hw7
    go_wp2_with fail
    go_ret2
    exact ⟨by rw [HE.out, HCE.out]; rfl, HG4.out.trans hg6⟩
  | false =>
    rw [hcl] at hrc
    have HE := Lib.hid (show mergedT l = tx (outTo l l.length) by rw [mergedT, if_neg (by rw [hcl]; simp)])
    have HCE := Lib.hid hcl
    have h00 := Lib.hid (show tx (outTo l 0) = { data := #[] } from rfl)
    clear hcl
    go_wp2_with fail
    refine hrc.mono ?_
    rintro e w5 ⟨rfl, hw5⟩
    subst hw5
    go_wp2_with fail
    refine (rmarks_any w4).mono ?_
    rintro e w5 ⟨rfl, hg5⟩
    have hb6 := Blk.new w5 87 #[.string mkO, .string mkB, .string mkT, .string mkE]
    have hg6 := hg5.alloc (.cells #[.string mkO, .string mkB, .string mkT, .string mkE] 87)
    go_wp2_with fail
    generalize w5.alloc (.cells #[.string mkO, .string mkB, .string mkT, .string mkE] 87) = w6 at hb6 hg6 ⊢
    generalize w5.heap.size = g9 at hb6 ⊢
    have HB6 := Lib.hid hb6
    have HG6 := Lib.hid hg6
    clear hb6 hg6 hg5
    go_loopg [10, 11] l.length (fun gk o q wr => Grows w6 wr ∧ ∃ k : Nat, q = .int .i64 k ∧ k ≤ l.length ∧ gk = l.length - k ∧ o = .string (tx (outTo l k)))
    case atStart => exact ⟨Grows.refl _, 0, rfl, by omega, rfl, by rw [h00.out]⟩
    case round =>
      obtain ⟨hgr, k, rfl, hk, hgk, rfl⟩ := hrel
      have HG := Lib.hid hgk
      have HGR := Lib.hid hgr
      clear hgk hgr
      by_cases hlt : k < l.length
      · have k0 : (0 : Int) ≤ k := by omega
        have k1 : (k : Int) < l.length := by omega
        have hz4 := Nat.le_trans HG6.out.size HGR.out.size
        obtain ⟨ad, rfl, had, hat⟩ := (HC4.out.grows (Nat.le_refl _) (HG6.out.trans HGR.out)).at_ hlt
        have HAT := Lib.hid hat
        have hone := chunkAt_one hat (by rw [block_of_add]; exact had)
        obtain ⟨p0, ⟨F1, n1, e1, p1, r1, y1⟩, ⟨F2, n2, e2, p2, r2, y2⟩, ⟨F3, n3, e3, p3, r3, y3⟩⟩ := hat
        have hst := outT_succ hlt
        have hsm := HFL.out k hlt
        have hol := HOL.out k (by omega)
        have hmt := merge_take (l := l) (k := k) hlt
        have hmk := HMK.out (k + 1)
        rw [hmt, List.length_append] at hmk
        generalize gch l k = ch at hone p0 r1 r2 r3 hst hsm hmk
        obtain ⟨kd, x1, x2, x3⟩ := ch
        dsimp only at p0 r1 r2 r3 hmk
        have HS := Lib.hid hst
        have l1 := r1.strLen
        have l2 := r2.strLen
        have l3 := r3.strLen
        obtain ⟨⟨q1, q2, q3⟩, m1, m2, m3⟩ := hsm
        dsimp only at q1 q2 q3 m1 m2 m3
        obtain ⟨ot, hot⟩ : ∃ ot, ot = tx (outTo l k) := ⟨_, rfl⟩
        have hoz : ot.size ≤ 10000000 := by rw [hot, tx_size]; omega
        rw [← hot] at HS ⊢
        clear hst hmt hot
        cases he : (kd == 5) with
        | false =>
          have h5 : ¬ kd = 5 := by simpa using he
          have HS2 := Lib.hid (show tx (outTo l (k + 1)) = ot ++ joinT (mergeC [(kd, x1, x2, x3)]) by rw [HS.out, stepT, stepL, if_neg h5, tx_appT, tx_data]; rfl)
          have hmc : (mergeC [(kd, x1, x2, x3)]).length ≤ 1000000000 := by
            have : mergeC [(kd, x1, x2, x3)] = if kd = 3 then x3 else x2 := by simp [mergeC]
            rw [this]
            omega
          have hfm1 : (flatS (mergeC [(kd, x1, x2, x3)])).length ≤ 1000 := by
            rw [flat_merge]
            split <;> assumption
          clear h5 hmk HS q1 q2 q3 r1 r2 r3
          have kq : (k : Int) + 1 ≤ q4 := by omega
          have hqk : ¬ q4 = k := by omega
          go_wp2_with fail
          refine (rmerged_any w4.heap.size (some (ad.add (k * 4))) 1 (q4 - k) [(kd, x1, x2, x3)] wr hone hz4 (by omega) (fun j hj => by
            have : j = 0 ∨ j = 1 := by omega
            rcases this with rfl | rfl
            · simp [mergeC]
            · exact hmc)).mono ?_
          rintro e wc ⟨v, rfl, hown, hgc⟩
          obtain ⟨A9, c9, rfl, hc9, -⟩ := own_form hown
          have HR9 := Lib.hid (Reads.of_own hown)
          clear hown hone
          generalize mergeC [(kd, x1, x2, x3)] = mg at hmc hfm1 HS2 HR9 hc9 ⊢
          have hjz : (joinT mg).size ≤ 1000 := by rw [joinT_size]; exact hfm1
          go_wp2_with fail
          refine (rjoin_any _ A9 mg.length c9 mg wc HR9.out (by omega) (by have : (bl mg).flatten.length ≤ 1000 := hfm1; omega)).mono ?_
          rintro e w9 ⟨rfl, hw9⟩
          subst hw9
          generalize joinT mg = jm at hjz HS2 ⊢
          go_wp2_with fail
          go_roundg (l.length - (k + 1))
          case measure => rw [HG.out]; omega
          case rel => exact ⟨HGR.out.trans hgc, k + 1, by go_num, by omega, rfl, by rw [HS2.out]⟩
        | true =>
          have h5 : kd = 5 := by simpa using he
          have HS2 := Lib.hid (HS.out.trans (stepT_clash h5))
          clear h5 hmk HS hone
          go_wp2_with fail
          obtain ⟨S, hS⟩ : ∃ S : World → Prop, S = fun w' => Grows wr w' := ⟨_, rfl⟩
          have hSb : ∀ s : SW S, Grows wr s.w := fun s => by
            have := s.ok
            subst hS
            exact this
          have hB9 := fun (s : SW S) => Blk.growsT HB6.out (HGR.out.trans (hSb s))
          have hS1 : ∀ s : SW S, s.w.cell? ⟨g9, 0, none⟩ = some (.string mkO) := fun s => (hB9 s).cell 0
          have hS2 : ∀ s : SW S, s.w.cell? ⟨g9, 1, none⟩ = some (.string mkB) := fun s => (hB9 s).cell 1
          have hS3 : ∀ s : SW S, s.w.cell? ⟨g9, 2, none⟩ = some (.string mkT) := fun s => (hB9 s).cell 2
          have hS4 : ∀ s : SW S, s.w.cell? ⟨g9, 3, none⟩ = some (.string mkE) := fun s => (hB9 s).cell 3
          have hpb : (ad.add (k * 4)).block < wr.heap.size := by rw [block_of_add]; omega
          have hS5 : ∀ s : SW S, s.w.cell? ⟨(ad.add (k * 4)).block, (ad.add (k * 4)).off + 1, none⟩ = some (.slice F1 n1 e1) := fun s => (show s.w.cell? ⟨(ad.add (k * 4)).block, (ad.add (k * 4)).off + 1, none⟩ = wr.cell? ⟨(ad.add (k * 4)).block, (ad.add (k * 4)).off + 1, none⟩ from Below.cell (hSb s) hpb).trans p1
          have hS6 : ∀ s : SW S, s.w.cell? ⟨(ad.add (k * 4)).block, (ad.add (k * 4)).off + 2, none⟩ = some (.slice F2 n2 e2) := fun s => (show s.w.cell? ⟨(ad.add (k * 4)).block, (ad.add (k * 4)).off + 2, none⟩ = wr.cell? ⟨(ad.add (k * 4)).block, (ad.add (k * 4)).off + 2, none⟩ from Below.cell (hSb s) hpb).trans p2
          have hS7 : ∀ s : SW S, s.w.cell? ⟨(ad.add (k * 4)).block, (ad.add (k * 4)).off + 3, none⟩ = some (.slice F3 n3 e3) := fun s => (show s.w.cell? ⟨(ad.add (k * 4)).block, (ad.add (k * 4)).off + 3, none⟩ = wr.cell? ⟨(ad.add (k * 4)).block, (ad.add (k * 4)).off + 3, none⟩ from Below.cell (hSb s) hpb).trans p3
          have hSi : ∀ w', Grows wr w' → S w' := by rw [hS]; exact fun _ h => h
          have hgd : Grows wr wr.drew := (Grows.refl wr).drew
          have hS0 := hSi _ hgd
          clear hS hSb hB9
          haveI : Nonempty (SW S) := ⟨⟨_, hS0⟩⟩
          have u1 : (joinT x1).size ≤ 1000 := by rw [joinT_size]; exact q1
          have u2 : (joinT x2).size ≤ 1000 := by rw [joinT_size]; exact q2
          have u3 : (joinT x3).size ≤ 1000 := by rw [joinT_size]; exact q3
          have J1 := Lib.hid (rjoin_any w4.heap.size F1 n1 e1 x1 wr.drew r1.drew (by omega) (by have : (bl x1).flatten.length ≤ 1000 := q1; omega))
          have J2 := Lib.hid (rjoin_any w4.heap.size F2 n2 e2 x2 wr.drew r2.drew (by omega) (by have : (bl x2).flatten.length ≤ 1000 := q2; omega))
          have J3 := Lib.hid (rjoin_any w4.heap.size F3 n3 e3 x3 wr.drew r3.drew (by omega) (by have : (bl x3).flatten.length ≤ 1000 := q3; omega))
          have v0 := endT_size ot
          have v1 := endT_size (joinT x1)
          have v2 := endT_size (joinT x2)
          have v3 := endT_size (joinT x3)
          have s1 : mkO.size = 13 := rfl
          have s2 : mkB.size = 13 := rfl
          have s3 : mkT.size = 8 := rfl
          have s4 : mkE.size = 15 := rfl
          clear q1 q2 q3 r1 r2 r3 p0 p1 p2 p3 hpb
          generalize joinT x1 = j1 at u1 v1 J1 HS2
          generalize joinT x2 = j2 at u2 v2 J2 HS2
          generalize joinT x3 = j3 at u3 v3 J3 HS2
          have E0 := Lib.hid (rended_any ot wr.drew (by omega))
          have E1 := Lib.hid (rended_any j1 wr.drew (by omega))
          have E2 := Lib.hid (rended_any j2 wr.drew (by omega))
          have E3 := Lib.hid (rended_any j3 wr.drew (by omega))
          generalize endT ot = f0 at v0 E0 HS2
          generalize endT j1 = f1 at v1 E1 HS2
          generalize endT j2 = f2 at v2 E2 HS2
          generalize endT j3 = f3 at v3 E3 HS2
          refine wp_region_seq S [([0, 2, 3, 5, 6, 7, 8, 9, 13, 14, 16, 17, 18, 19, 20, 24, 25, 27, 28, 29, 30, 31, 35, 36], 1), ([4], 10), ([], 11), ([12, 15], 21), ([], 22), ([23, 26], 32), ([], 33)] [34, 37, 38] [] (by kernel_rfl) (fun _ _ _ _ _ h => h) (by kernel_rfl) hS0 ?_
          simp only [pickS, pickT, pickL, List.map_cons, List.map_nil, List.filterMap_cons, List.filterMap_nil, List.getElem?_cons_zero, List.getElem?_cons_succ]
          generalize wr.drew = wd at hgd hS0 J1 J2 J3 E0 E1 E2 E3 ⊢
          refine wpSeq_consK fun K2 hK2 K hK => ?_
          repeat (show wpQuiet _ _ _ _ (_ :: _) _; go_big_quiet_step (fail))
          refine wpQuiet_nil (hK _ ?_)
          clear hK K
          show wpList _ _ _ [_] _ _
          go_wp2_with fail
          refine (E0.out).mono ?_
          rintro e w9 ⟨rfl, hw9⟩
          subst hw9
          go_wp2_with fail
          refine hK2.out _ _ hS0 ?_
          clear hK2 K2
          refine wpSeq_consK fun K2 hK2 K hK => ?_
          repeat (show wpQuiet _ _ _ _ (_ :: _) _; go_big_quiet_step (fail))
          refine wpQuiet_nil (hK _ ?_)
          clear hK K
          show wpList _ _ _ [_] _ _
          go_wp2_with fail
          refine (J2.out).mono ?_
          rintro e w9 ⟨rfl, hw9⟩
          subst hw9
          go_wp2_with fail
          refine hK2.out _ _ hS0 ?_
          clear hK2 K2
          refine wpSeq_consK fun K2 hK2 K hK => ?_
          repeat (show wpQuiet _ _ _ _ (_ :: _) _; go_big_quiet_step (fail))
          refine wpQuiet_nil (hK _ ?_)
          clear hK K
          show wpList _ _ _ [_] _ _
          go_wp2_with fail
          refine (E2.out).mono ?_
          rintro e w9 ⟨rfl, hw9⟩
          subst hw9
          go_wp2_with fail
          refine hK2.out _ _ hS0 ?_
          clear hK2 K2
          refine wpSeq_consK fun K2 hK2 K hK => ?_
          repeat (show wpQuiet _ _ _ _ (_ :: _) _; go_big_quiet_step (fail))
          refine wpQuiet_nil (hK _ ?_)
          clear hK K
          show wpList _ _ _ [_] _ _
          go_wp2_with fail
          refine (J1.out).mono ?_
          rintro e w9 ⟨rfl, hw9⟩
          subst hw9
          go_wp2_with fail
          refine hK2.out _ _ hS0 ?_
          clear hK2 K2
          refine wpSeq_consK fun K2 hK2 K hK => ?_
          repeat (show wpQuiet _ _ _ _ (_ :: _) _; go_big_quiet_step (fail))
          refine wpQuiet_nil (hK _ ?_)
          clear hK K
          show wpList _ _ _ [_] _ _
          go_wp2_with fail
          refine (E1.out).mono ?_
          rintro e w9 ⟨rfl, hw9⟩
          subst hw9
          go_wp2_with fail
          refine hK2.out _ _ hS0 ?_
          clear hK2 K2
          refine wpSeq_consK fun K2 hK2 K hK => ?_
          repeat (show wpQuiet _ _ _ _ (_ :: _) _; go_big_quiet_step (fail))
          refine wpQuiet_nil (hK _ ?_)
          clear hK K
          show wpList _ _ _ [_] _ _
          go_wp2_with fail
          refine (J3.out).mono ?_
          rintro e w9 ⟨rfl, hw9⟩
          subst hw9
          go_wp2_with fail
          refine hK2.out _ _ hS0 ?_
          clear hK2 K2
          refine wpSeq_consK fun K2 hK2 K hK => ?_
          repeat (show wpQuiet _ _ _ _ (_ :: _) _; go_big_quiet_step (fail))
          refine wpQuiet_nil (hK _ ?_)
          clear hK K
          show wpList _ _ _ [_] _ _
          go_wp2_with fail
          refine (E3.out).mono ?_
          rintro e w9 ⟨rfl, hw9⟩
          subst hw9
          go_wp2_with fail
          refine hK2.out _ _ hS0 ?_
          clear hK2 K2
          refine wpSeq_nil (wpRest_K fun K hK => ?_)
          repeat (show wpQuiet _ _ _ _ (_ :: _) _; go_big_quiet_step (fail))
          refine wpQuiet_nil (hK _ ?_)
          clear hK K
          refine wpSegs_nil ?_
          go_wp2_with fail
          go_roundg (l.length - (k + 1))
          case measure => rw [HG.out]; omega
          case rel => exact ⟨HGR.out.trans hgd, k + 1, by go_num, by omega, rfl, by rw [HS2.out]⟩
      · have hkn : k = l.length := by omega
        have k1 : ¬ ((k : Int) < l.length) := by omega
        subst hkn
        go_wp2_with fail
        go_ret2
        exact ⟨by rw [HE.out, HCE.out]; rfl, HG4.out.trans (HG6.out.trans HGR.out)⟩
end Go.Proofs.YtakgddochbcjbaaDoor
