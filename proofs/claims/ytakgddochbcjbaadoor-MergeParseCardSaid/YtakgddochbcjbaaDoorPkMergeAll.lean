/- merge3.Merge, whatever clashes. -/
import Derived.Test.YtakgddochbcjbaaDoorPkPlain
import Derived.Test.YtakgddochbcjbaaDoorPkTextB
namespace Go.Proofs.YtakgddochbcjbaaDoor
open Go.RowKit Go.Deep Go.MapKept

def flatS (xs : List ByteArray) : List UInt8 := (bl xs).flatten
def stepL (out : List UInt8) (c : ChkB) : List UInt8 :=
  if c.1 = 5 then endL (endL (endL (endL out ++ mkO.data.toList ++ flatS c.2.2.1) ++ mkB.data.toList ++ flatS c.2.1) ++ mkT.data.toList ++ flatS c.2.2.2) ++ mkE.data.toList
  else out ++ flatS (mergeC [c])
/-- three texts in one: what the first k chunks come to -/
def outTo (l : List ChkB) (k : Nat) : List UInt8 := (l.take k).foldl stepL []
theorem outTo_succ {l : List ChkB} {k : Nat} (h : k < l.length) : outTo l (k + 1) = stepL (outTo l k) (gch l k) := by
  rw [outTo, List.take_succ_eq_append_getElem h, List.foldl_append, outTo]
  simp [gch, List.getElem?_eq_getElem h]
theorem endL_len (l : List UInt8) : (endL l).length ≤ l.length + 1 := by
  unfold endL
  split
  · omega
  · split
    · omega
    · simp
theorem flat_merge (c : ChkB) : flatS (mergeC [c]) = if c.1 = 3 then flatS c.2.2.2 else flatS c.2.2.1 := by
  simp only [mergeC, List.flatMap_cons, List.flatMap_nil, List.append_nil]
  split <;> rfl
theorem stepL_len {c : ChkB} (out : List UInt8) (h1 : (flatS c.2.1).length ≤ 1000) (h2 : (flatS c.2.2.1).length ≤ 1000) (h3 : (flatS c.2.2.2).length ≤ 1000) : (stepL out c).length ≤ out.length + 4000 := by
  have z1 : mkO.data.toList.length = 13 := rfl
  have z2 : mkB.data.toList.length = 13 := rfl
  have z3 : mkT.data.toList.length = 8 := rfl
  have z4 : mkE.data.toList.length = 15 := rfl
  unfold stepL
  split
  · have y1 := endL_len out
    have y2 := endL_len (endL out ++ mkO.data.toList ++ flatS c.2.2.1)
    have y3 := endL_len (endL (endL out ++ mkO.data.toList ++ flatS c.2.2.1) ++ mkB.data.toList ++ flatS c.2.1)
    have y4 := endL_len (endL (endL (endL out ++ mkO.data.toList ++ flatS c.2.2.1) ++ mkB.data.toList ++ flatS c.2.1) ++ mkT.data.toList ++ flatS c.2.2.2)
    simp only [List.length_append] at *
    omega
  · rw [List.length_append, flat_merge]
    split <;> omega
/-- a chunk of few lines, and short ones -/
def SmallC (c : ChkB) : Prop := ((flatS c.2.1).length ≤ 1000 ∧ (flatS c.2.2.1).length ≤ 1000 ∧ (flatS c.2.2.2).length ≤ 1000) ∧ c.2.1.length ≤ 1000 ∧ c.2.2.1.length ≤ 1000 ∧ c.2.2.2.length ≤ 1000
theorem outTo_len {l : List ChkB} (h : ∀ k, k < l.length → SmallC (gch l k)) : ∀ k, k ≤ l.length → (outTo l k).length ≤ k * 4000
  | 0, _ => by simp [outTo]
  | k + 1, hk => by
    have h1 := (h k (by omega)).1
    have h2 := outTo_len h k (by omega)
    have h3 := stepL_len (outTo l k) h1.1 h1.2.1 h1.2.2
    rw [outTo_succ (by omega)]
    omega
theorem markF_inv {s : ByteArray} {p : Int} (h : markF s = some p) : (s = mkE ∧ p = 0) ∨ (s = mkT ∧ p = 3) ∨ (s = mkB ∧ p = 2) ∨ (s = mkO ∧ p = 1) := by
  unfold markF putF at h
  split at h
  · rename_i e; exact .inl ⟨e, (Option.some.inj h).symm⟩
  · split at h
    · rename_i e; exact .inr (.inl ⟨e, (Option.some.inj h).symm⟩)
    · split at h
      · rename_i e; exact .inr (.inr (.inl ⟨e, (Option.some.inj h).symm⟩))
      · split at h
        · rename_i e; exact .inr (.inr (.inr ⟨e, (Option.some.inj h).symm⟩))
        · cases h
theorem uniqO (s : ByteArray) (h : markF s = some 1) : s = mkO := by rcases markF_inv h with ⟨_, e⟩ | ⟨_, e⟩ | ⟨_, e⟩ | ⟨e, _⟩ <;> first | exact e | cases e
theorem uniqB (s : ByteArray) (h : markF s = some 2) : s = mkB := by rcases markF_inv h with ⟨_, e⟩ | ⟨_, e⟩ | ⟨e, _⟩ | ⟨_, e⟩ <;> first | exact e | cases e
theorem uniqT (s : ByteArray) (h : markF s = some 3) : s = mkT := by rcases markF_inv h with ⟨_, e⟩ | ⟨e, _⟩ | ⟨_, e⟩ | ⟨_, e⟩ <;> first | exact e | cases e
theorem uniqE (s : ByteArray) (h : markF s = some 0) : s = mkE := by rcases markF_inv h with ⟨e, _⟩ | ⟨_, e⟩ | ⟨_, e⟩ | ⟨_, e⟩ <;> first | exact e | cases e
theorem TextB.lt {B b : Nat} {l : List UInt8} {w : World} (h : TextB B b l w) : b < w.heap.size := h.elim (fun h => h.lt) (fun h => h.lt)
theorem TextB.fresh (w : World) : TextB w.heap.size w.heap.size [] (w.alloc (.cells #[.pointer none, .slice none 0 0] TXT)) :=
  .inl ⟨Nat.le_refl _, .slice none 0 0, heap_alloc_new w _, World.ownsRowF_nil _ _ _ _, by simp [Value.ownBlock]⟩
theorem ChunksN.more {w : World} {B B' n : Nat} {A : Option Addr} {l : List ChkB} (h : ChunksN w B A n l) (hB : B ≤ B') : ChunksN w B' A n l :=
  ⟨h.1, fun hn => by
    obtain ⟨ad, e, hb, hc⟩ := h.2 hn
    exact ⟨ad, e, by omega, fun k hk => (hc k hk).more hB⟩⟩
/-- one chunk in a row of its own -/
theorem chunks_one {w : World} {B g : Nat} {A1 A2 A3 : Option Addr} {n1 n2 n3 c1 c2 c3 : Nat} {k : Int} {x1 x2 x3 : List ByteArray} (h : Blk w g 36 #[.int .i64 k, .slice A1 n1 c1, .slice A2 n2 c2, .slice A3 n3 c3])
    (r1 : Reads w B 1 A1 n1 (strs x1)) (r2 : Reads w B 1 A2 n2 (strs x2)) (r3 : Reads w B 1 A3 n3 (strs x3)) (h1 : n1 ≤ c1 ∧ c1 ≤ maxLen) (h2 : n2 ≤ c2 ∧ c2 ≤ maxLen) (h3 : n3 ≤ c3 ∧ c3 ≤ maxLen) (hB : B ≤ w.heap.size) :
    ChunksN w w.heap.size (some ⟨g, 0, none⟩) 1 [(k, x1, x2, x3)] := by
  refine ⟨rfl, fun _ => ⟨_, rfl, h.lt, fun j hj => ?_⟩⟩
  obtain rfl : j = 0 := by omega
  have e : (⟨g, 0, none⟩ : Addr).add (0 * 4) = ⟨g, 0, none⟩ := by simp [Addr.add]
  rw [e]
  refine ⟨?_, ⟨A1, n1, c1, ?_, r1.more hB, h1⟩, ⟨A2, n2, c2, ?_, r2.more hB, h2⟩, ⟨A3, n3, c3, ?_, r3.more hB, h3⟩⟩
  · rw [h.cell 0]; rfl
  · rw [h.cell 1]; rfl
  · rw [h.cell 2]; rfl
  · rw [h.cell 3]; rfl
set_option maxRecDepth 100000 in
set_option pp.deepTerms true in
set_option pp.maxSteps 1000000 in
set_option maxRecDepth 100000 in
set_option maxHeartbeats 4000000 in
theorem merge_other (l : List ChkB) (b o t : ByteArray) (w : World) (hm : MaxL w) (hb : b.size ≤ 100000) (ho : o.size ≤ 100000) (ht : t.size ≤ 100000) (hbl : (linesT b).length ≤ 450) (hol0 : (linesT o).length ≤ 450) (htl : (linesT t).length ≤ 450) (hl : chunks (linesT b) (linesT o) (linesT t) = l) (hcl : cleanC l = false)
    (hfl : ∀ k, k < l.length → SmallC (gch l k)) :
    Calls Tryd.prog 14 #[.string b, .string o, .string t] w fun e w' => e = .returned (.tuple #[.string (tx (outTo l l.length)), .bool false]) ∧ Grows w w' := by
  have hnb := Lib.hid (lines_le b)
  have hno := Lib.hid (lines_le o)
  have hnt := Lib.hid (lines_le t)
  have HLb := Lib.hid hbl
  have HLo := Lib.hid hol0
  have HLt := Lib.hid htl
  have HCL := Lib.hid hcl
  have HFL := Lib.hid hfl
  have HOL := Lib.hid (outTo_len hfl)
  have HMK := Lib.hid (fun k => Nat.le_trans (hl ▸ merge_chunks (linesT b) (linesT o) (linesT t) k) (show (linesT o).length + (linesT t).length ≤ 1000000000 by have := hno.out; have := hnt.out; omega))
  have hlen := chunks_len (linesT b) (linesT o) (linesT t)
  rw [hl] at hlen
  have HL := Lib.hid hl
  clear hl hcl hfl hbl hol0 htl
  go_enter Tryd.func14, Tryd.ntmps14
  go_wp2_with fail
  refine (split_any b w hm (by omega)).mono ?_
  rintro e w1 ⟨v, rfl, g1, c1, rfl, hc1, ⟨hM1, _⟩, hr1, hg1⟩
  have HR1 := Lib.hid hr1
  have hm1 := hm.grows hg1
  clear hr1
  obtain ⟨L1, hL1⟩ : ∃ L, linesT b = L := ⟨_, rfl⟩
  rw [hL1] at HR1 hc1 hnb HL hlen HLb
  try rw [hL1]
  clear hL1
  go_wp2_with fail
  refine (split_any o w1 hm1 (by omega)).mono ?_
  rintro e w2 ⟨v, rfl, g2, c2, rfl, hc2, ⟨hM2, _⟩, hr2, hg2⟩
  have HR2 := Lib.hid hr2
  have HR1' := Lib.hid (HR1.out.grows (Nat.le_refl _) hg2)
  have hg2' := hg1.trans hg2
  have hm2 := hm1.grows hg2
  have z2 := hg2.size
  clear hr2 hg2 HR1
  obtain ⟨L2, hL2⟩ : ∃ L, linesT o = L := ⟨_, rfl⟩
  rw [hL2] at HR2 hc2 hno HL HLo
  try rw [hL2]
  clear hL2
  go_wp2_with fail
  refine (split_any t w2 hm2 (by omega)).mono ?_
  rintro e w3 ⟨v, rfl, g3, c3, rfl, hc3, ⟨hM3, _⟩, hr3, hg3⟩
  have HR3 := Lib.hid hr3
  have HR2' := Lib.hid (HR2.out.grows (Nat.le_refl _) hg3)
  have HR1 := Lib.hid (HR1'.out.grows z2 hg3)
  have hg3' := hg2'.trans hg3
  have z3 := hg3.size
  have z23 := Nat.le_trans z2 z3
  clear hr3 hg3 hg2' HR2 HR1'
  obtain ⟨L3, hL3⟩ : ∃ L, linesT t = L := ⟨_, rfl⟩
  rw [hL3] at HR3 hc3 hnt HL HLt
  try rw [hL3]
  clear hL3
  have u1 := HLb.out
  have u2 := HLo.out
  have u3 := HLt.out
  go_wp2_with fail
  refine (of_v l _ _ _ _ _ _ c1 c2 c3 _ _ _ L1 L2 L3 w3 HL.out HR1.out HR2'.out HR3.out z23 z3 (Nat.le_refl _) (by omega) (by omega) (by omega) hc1 hc2 hc3 (by simp only [maxLen]; omega) (by simp only [maxLen]; omega) (by simp only [maxLen]; omega)).mono ?_
  rintro e w4 ⟨A4, n4, q4, rfl, hC4, hg4, hq4, hqM4⟩
  have HC4 := Lib.hid hC4
  have k4 := hC4.len
  have hg4' := hg3'.trans hg4
  clear hC4 hg4 hg3' HR1 HR2' HR3
  go_wp2_with fail
  refine (clean_v false _ A4 n4 q4 l w4 HCL.out HC4.out (Nat.le_refl _) (Nat.le_trans hq4 hqM4)).mono ?_
  rintro e w5 ⟨rfl, hg5⟩
  have HC5 := Lib.hid ((HC4.out.grows (Nat.le_refl _) hg5).more hg5.size)
  have hg5' := hg4'.trans hg5
  have z5 := hg5.size
  clear HC4 hg4' hg5
  have HG5 := Lib.hid hg5'
  clear hg5'
  have k5 := HC5.out.len
  subst k5
  have htb := TextB.fresh w5
  have hgn := (Grows.refl w5).alloc (.cells #[.pointer none, .slice none 0 0] TXT)
  go_wp2_with fail
  generalize w5.alloc (.cells #[.pointer none, .slice none 0 0] TXT) = w6 at htb hgn ⊢
  go_loopg [28] l.length (fun gk q wr => Grows w5 wr ∧ ∃ k : Nat, q = .int .i64 k ∧ k ≤ l.length ∧ gk = l.length - k ∧ TextB w5.heap.size w5.heap.size (outTo l k) wr)
  case atStart => exact ⟨hgn, 0, rfl, by omega, rfl, htb⟩
  case round =>
    obtain ⟨hgr, k, rfl, hk, hgk, htx⟩ := hrel
    have HG := Lib.hid hgk
    have HT := Lib.hid htx
    have HGR := Lib.hid hgr
    clear hgk htx hgr htb hgn
    by_cases hlt : k < l.length
    · obtain ⟨ad, rfl, had, p0, ⟨A1, n1, e1, p1, r1, y1⟩, ⟨A2, n2, e2, p2, r2, y2⟩, ⟨A3, n3, e3, p3, r3, y3⟩⟩ := (HC5.out.grows (Nat.le_refl _) HGR.out).at_ hlt
      have hst := outTo_succ hlt
      have hflk := HFL.out k hlt
      have hol := HOL.out k (by omega)
      have hmt := merge_take (l := l) (k := k) hlt
      have hmk := HMK.out (k + 1)
      rw [hmt, List.length_append] at hmk
      generalize gch l k = ch at p0 r1 r2 r3 hst hflk hmk
      obtain ⟨kd, x1, x2, x3⟩ := ch
      dsimp only at p0 r1 r2 r3 hst hflk hmk
      have HS := Lib.hid hst
      have k0 : (0 : Int) ≤ k := by omega
      have k1 : (k : Int) < l.length := by omega
      have hzr := HGR.out.size
      have hz1 := Nat.le_trans hzr (alloc_le (Nat.le_refl _) (.cells #[.int .i64 kd, .slice A1 n1 e1, .slice A2 n2 e2, .slice A3 n3 e3] 36) : wr.heap.size ≤ (wr.alloc (.cells #[.int .i64 kd, .slice A1 n1 e1, .slice A2 n2 e2, .slice A3 n3 e3] 36)).heap.size)
      have hga := (Grows.refl wr).alloc (.cells #[.int .i64 kd, .slice A1 n1 e1, .slice A2 n2 e2, .slice A3 n3 e3] 36)
      have hba := Blk.new wr 36 #[.int .i64 kd, .slice A1 n1 e1, .slice A2 n2 e2, .slice A3 n3 e3]
      have hgb : wr.heap.size ≠ w5.heap.size := by have := HT.out.lt; omega
      have HTA := Lib.hid (HT.out.grows hga)
      have R1 := Lib.hid (r1.grows hzr hga)
      have R2 := Lib.hid (r2.grows hzr hga)
      have R3 := Lib.hid (r3.grows hzr hga)
      have l1 := r1.strLen
      have l2 := r2.strLen
      have l3 := r3.strLen
      obtain ⟨⟨q1, q2, q3⟩, m1, m2, m3⟩ := hflk
      dsimp only at q1 q2 q3 m1 m2 m3
      clear r1 r2 r3 hst hmt HT
      cases he : (kd == 5) with
      | false =>
        have h5 : ¬ kd = 5 := by simpa using he
        have HS2 := Lib.hid (show outTo l (k + 1) = outTo l k ++ flatS (mergeC [(kd, x1, x2, x3)]) by rw [HS.out, stepL, if_neg h5])
        have hmc : (mergeC [(kd, x1, x2, x3)]).length ≤ 1000000000 := by
          have : mergeC [(kd, x1, x2, x3)] = if kd = 3 then x3 else x2 := by simp [mergeC]
          rw [this]
          omega
        have hfm : (flatS (mergeC [(kd, x1, x2, x3)])).length ≤ 1000 := by
          rw [flat_merge]
          split <;> assumption
        clear h5 hmk HS q1 q2 q3
        go_wp2_with fail
        obtain ⟨wa, hwa⟩ : ∃ wa, wa = wr.alloc (.cells #[.int .i64 kd, .slice A1 n1 e1, .slice A2 n2 e2, .slice A3 n3 e3] 36) := ⟨_, rfl⟩
        have hsz1 : wr.heap.size + 1 = wa.heap.size := by rw [hwa]; simp
        rw [← hwa] at hga hba HTA R1 R2 R3 hz1 ⊢
        rw [hsz1]
        have hbb := Blk.new wa 36 #[.int .i64 kd, .slice A1 n1 e1, .slice A2 n2 e2, .slice A3 n3 e3]
        have hgb2 := (Grows.refl wa).alloc (.cells #[.int .i64 kd, .slice A1 n1 e1, .slice A2 n2 e2, .slice A3 n3 e3] 36)
        have hone := chunks_one hbb (R1.out.grows hz1 hgb2) (R2.out.grows hz1 hgb2) (R3.out.grows hz1 hgb2) y1 y2 y3 (Nat.le_trans hz1 hgb2.size)
        have HTB := Lib.hid (HTA.out.grows hgb2)
        generalize wa.alloc (.cells #[.int .i64 kd, .slice A1 n1 e1, .slice A2 n2 e2, .slice A3 n3 e3] 36) = wb at hgb2 hone HTB ⊢
        generalize wa.heap.size = gb at hone ⊢
        have hgwb := hga.trans hgb2
        clear hwa hsz1 hba hbb R1 R2 R3 HTA
        refine (merged_any _ (some ⟨gb, 0, none⟩) 1 1 [(kd, x1, x2, x3)] wb hone (Nat.le_refl _) (by omega) (fun j hj => by
          have : j = 0 ∨ j = 1 := by omega
          rcases this with rfl | rfl
          · simp [mergeC]
          · exact hmc)).mono ?_
        rintro e wc ⟨v, rfl, hown, hgc⟩
        obtain ⟨A9, c9, rfl, hc9, -⟩ := own_form hown
        have HR9 := Lib.hid (Reads.of_own hown)
        have HTC := Lib.hid (HTB.out.grows hgc)
        have hgwc := hgwb.trans hgc
        have hzc := Nat.le_trans hzr hgwc.size
        clear hown hone HTB
        generalize mergeC [(kd, x1, x2, x3)] = mg at hmc hfm HS2 HR9 hc9 ⊢
        go_wp2_with fail
        refine (tput_any _ _ _ A9 mg.length c9 (outTo l k) mg wc HTC.out hzc HR9.out (Nat.le_refl _) (by omega) hc9 (by have : (bl mg).flatten.length ≤ 1000 := hfm; omega)).mono ?_
        rintro e wd ⟨rfl, htd, hbd⟩
        have HTD := Lib.hid htd
        have HBD := Lib.hid (show Grows w5 wd from Below.trans (HGR.out.trans hgwc) hbd.1)
        clear htd hbd
        go_wp2_with fail
        go_roundg (l.length - (k + 1))
        case measure => rw [HG.out]; omega
        case rel => exact ⟨HBD.out, k + 1, by go_num, by omega, rfl, by rw [HS2.out]; exact HTD.out⟩
      | true =>
        have h5 : kd = 5 := by simpa using he
        have HS2 := Lib.hid (show outTo l (k + 1) = endL (endL (endL (endL (outTo l k) ++ mkO.data.toList ++ flatS x2) ++ mkB.data.toList ++ flatS x1) ++ mkT.data.toList ++ flatS x3) ++ mkE.data.toList by rw [HS.out, stepL, if_pos h5])
        clear h5 hmk HS
        go_wp2_with fail
        have hsz0 : wr.heap.size < (wr.alloc (.cells #[.int .i64 kd, .slice A1 n1 e1, .slice A2 n2 e2, .slice A3 n3 e3] 36)).heap.size := by simp
        generalize wr.alloc (.cells #[.int .i64 kd, .slice A1 n1 e1, .slice A2 n2 e2, .slice A3 n3 e3] 36) = wa at hga hba HTA R1 R2 R3 hz1 hsz0 ⊢
        generalize wr.heap.size = g at hba hgb hsz0 ⊢
        have t8 : (36 : TypeId) ≠ 5 := by decide
        have q0 := hol
        refine (tmark_any w5.heap.size w5.heap.size 1 mkO rfl uniqO (by decide) _ wa HTA.out hz1 (by omega)).mono ?_
        rintro e v1 ⟨rfl, ht1, hk1⟩
        have HT1 := Lib.hid ht1
        have hb1 := hk1
        have K1 : BK w5.heap.size w5.heap.size wa v1 := hk1
        have hz1x := Nat.le_trans hz1 K1.size
        have hl1 := endL_len (outTo l k)
        obtain ⟨o1, ho1⟩ : ∃ o', o' = endL (outTo l k) ++ mkO.data.toList := ⟨_, rfl⟩
        have hn1 : o1.length ≤ (outTo l k).length + 20 := by
          rw [ho1, List.length_append]
          have : mkO.data.toList.length ≤ 15 := by decide
          omega
        rw [← ho1] at HT1
        have HO1 := Lib.hid ho1
        clear ht1 hk1 hb1 ho1 hl1
        have d2 := (K1.blk hba hgb t8).cell 2
        simp only [List.getElem?_toArray, List.getElem?_cons_succ, List.getElem?_cons_zero] at d2
        go_wp2_with fail
        refine (tput_any w5.heap.size w5.heap.size w5.heap.size A2 n2 e2 o1 x2 v1 HT1.out hz1x (R2.out.below K1.1) hz1x (by omega) y2.1 (by have h9 : (bl x2).flatten.length ≤ 1000 := q2; omega)).mono ?_
        rintro e v2 ⟨rfl, ht2, hk2⟩
        have HT2 := Lib.hid ht2
        have K2 : BK w5.heap.size w5.heap.size wa v2 := K1.trans hk2
        have hz2x := Nat.le_trans hz1 K2.size
        obtain ⟨o2, ho2⟩ : ∃ o', o' = o1 ++ (bl x2).flatten := ⟨_, rfl⟩
        have hn2 : o2.length ≤ o1.length + 1000 := by
          rw [ho2, List.length_append]
          have h9 : (bl x2).flatten.length ≤ 1000 := q2
          omega
        rw [← ho2] at HT2
        have HO2 := Lib.hid ho2
        clear ht2 hk2 d2 ho2
        go_wp2_with fail
        refine (tmark_any w5.heap.size w5.heap.size 2 mkB rfl uniqB (by decide) _ v2 HT2.out hz2x (by omega)).mono ?_
        rintro e v3 ⟨rfl, ht3, hk3⟩
        have HT3 := Lib.hid ht3
        have hb3 := hk3
        have K3 : BK w5.heap.size w5.heap.size wa v3 := K2.trans hk3
        have hz3x := Nat.le_trans hz1 K3.size
        have hl3 := endL_len (o2)
        obtain ⟨o3, ho3⟩ : ∃ o', o' = endL (o2) ++ mkB.data.toList := ⟨_, rfl⟩
        have hn3 : o3.length ≤ (o2).length + 20 := by
          rw [ho3, List.length_append]
          have : mkB.data.toList.length ≤ 15 := by decide
          omega
        rw [← ho3] at HT3
        have HO3 := Lib.hid ho3
        clear ht3 hk3 hb3 ho3 hl3
        have d4 := (K3.blk hba hgb t8).cell 1
        simp only [List.getElem?_toArray, List.getElem?_cons_succ, List.getElem?_cons_zero] at d4
        go_wp2_with fail
        refine (tput_any w5.heap.size w5.heap.size w5.heap.size A1 n1 e1 o3 x1 v3 HT3.out hz3x (R1.out.below K3.1) hz3x (by omega) y1.1 (by have h9 : (bl x1).flatten.length ≤ 1000 := q1; omega)).mono ?_
        rintro e v4 ⟨rfl, ht4, hk4⟩
        have HT4 := Lib.hid ht4
        have K4 : BK w5.heap.size w5.heap.size wa v4 := K3.trans hk4
        have hz4x := Nat.le_trans hz1 K4.size
        obtain ⟨o4, ho4⟩ : ∃ o', o' = o3 ++ (bl x1).flatten := ⟨_, rfl⟩
        have hn4 : o4.length ≤ o3.length + 1000 := by
          rw [ho4, List.length_append]
          have h9 : (bl x1).flatten.length ≤ 1000 := q1
          omega
        rw [← ho4] at HT4
        have HO4 := Lib.hid ho4
        clear ht4 hk4 d4 ho4
        go_wp2_with fail
        refine (tmark_any w5.heap.size w5.heap.size 3 mkT rfl uniqT (by decide) _ v4 HT4.out hz4x (by omega)).mono ?_
        rintro e v5 ⟨rfl, ht5, hk5⟩
        have HT5 := Lib.hid ht5
        have hb5 := hk5
        have K5 : BK w5.heap.size w5.heap.size wa v5 := K4.trans hk5
        have hz5x := Nat.le_trans hz1 K5.size
        have hl5 := endL_len (o4)
        obtain ⟨o5, ho5⟩ : ∃ o', o' = endL (o4) ++ mkT.data.toList := ⟨_, rfl⟩
        have hn5 : o5.length ≤ (o4).length + 20 := by
          rw [ho5, List.length_append]
          have : mkT.data.toList.length ≤ 15 := by decide
          omega
        rw [← ho5] at HT5
        have HO5 := Lib.hid ho5
        clear ht5 hk5 hb5 ho5 hl5
        have d6 := (K5.blk hba hgb t8).cell 3
        simp only [List.getElem?_toArray, List.getElem?_cons_succ, List.getElem?_cons_zero] at d6
        go_wp2_with fail
        refine (tput_any w5.heap.size w5.heap.size w5.heap.size A3 n3 e3 o5 x3 v5 HT5.out hz5x (R3.out.below K5.1) hz5x (by omega) y3.1 (by have h9 : (bl x3).flatten.length ≤ 1000 := q3; omega)).mono ?_
        rintro e v6 ⟨rfl, ht6, hk6⟩
        have HT6 := Lib.hid ht6
        have K6 : BK w5.heap.size w5.heap.size wa v6 := K5.trans hk6
        have hz6x := Nat.le_trans hz1 K6.size
        obtain ⟨o6, ho6⟩ : ∃ o', o' = o5 ++ (bl x3).flatten := ⟨_, rfl⟩
        have hn6 : o6.length ≤ o5.length + 1000 := by
          rw [ho6, List.length_append]
          have h9 : (bl x3).flatten.length ≤ 1000 := q3
          omega
        rw [← ho6] at HT6
        have HO6 := Lib.hid ho6
        clear ht6 hk6 d6 ho6
        go_wp2_with fail
        refine (tmark_any w5.heap.size w5.heap.size 0 mkE rfl uniqE (by decide) _ v6 HT6.out hz6x (by omega)).mono ?_
        rintro e v7 ⟨rfl, ht7, hk7⟩
        have HT7 := Lib.hid ht7
        have hb7 := hk7
        have K7 : BK w5.heap.size w5.heap.size wa v7 := K6.trans hk7
        have hz7x := Nat.le_trans hz1 K7.size
        have hl7 := endL_len (o6)
        obtain ⟨o7, ho7⟩ : ∃ o', o' = endL (o6) ++ mkE.data.toList := ⟨_, rfl⟩
        have hn7 : o7.length ≤ (o6).length + 20 := by
          rw [ho7, List.length_append]
          have : mkE.data.toList.length ≤ 15 := by decide
          omega
        rw [← ho7] at HT7
        have HO7 := Lib.hid ho7
        clear ht7 hk7 hb7 ho7 hl7
        have HE := Lib.hid (show outTo l (k + 1) = o7 by
          rw [HS2.out, HO7.out, HO6.out, HO5.out, HO4.out, HO3.out, HO2.out, HO1.out]
          rfl)
        have HBD := Lib.hid (show Grows w5 v7 from Below.trans (HGR.out.trans hga) K7.1)
        clear HO1 HO2 HO3 HO4 HO5 HO6 HO7 HS2 K1 K2 K3 K4 K5 K6 K7
        go_wp2_with fail
        go_roundg (l.length - (k + 1))
        case measure => rw [HG.out]; omega
        case rel => exact ⟨HBD.out, k + 1, by go_num, by omega, rfl, by rw [HE.out]; exact HT7.out⟩
    · have hkn : k = l.length := by omega
      subst hkn
      have k1 : ¬ (((l.length : Nat) : Int) < l.length) := by omega
      go_wp2_with fail
      refine (bstr_any _ _ _ wr HT.out HGR.out.size).mono ?_
      rintro e w8 ⟨rfl, -, hb8⟩
      go_wp2_with fail
      go_ret2
      exact ⟨rfl, HG5.out.trans (Below.trans HGR.out hb8.1)⟩
end Go.Proofs.YtakgddochbcjbaaDoor
