/- The document's chunks. -/
import Derived.Test.YtakgddochbcjbaaDoorPkBetween
import Derived.Test.YtakgddochbcjbaaDoorPkMixF
namespace Go.Proofs.YtakgddochbcjbaaDoor
open Go.RowKit Go.Deep Go.MapKept

theorem gi_plc {a b : List ByteArray} {i : Nat} (h : i < a.length) : gi (plc (sc a b) 0) i = at3 a b i := by
  have := at3_get (b := b) h
  simp [gi, List.getD_eq_getElem?_getD, this]
theorem pieceC_yes {x y z : List ByteArray} {n1 n2 n3 : Nat} (h1 : x.length = n1) (h2 : y.length = n2) (h3 : z.length = n3) (h : ¬ n1 + n2 + n3 = 0) : pieceC x y z = [(knd x y z, x, y, z)] := by
  unfold pieceC; rw [if_neg (by omega)]
theorem pieceC_no {x y z : List ByteArray} {n1 n2 n3 : Nat} (h1 : x.length = n1) (h2 : y.length = n2) (h3 : z.length = n3) (h : n1 + n2 + n3 = 0) : pieceC x y z = [] := by
  unfold pieceC; rw [if_pos (by omega)]

theorem rd_own {w : World} {A : Option Addr} {n c : Nat} {ys : List ByteArray} (hn : ys.length = n) (h : OwnS w (.slice A n c) ys) : Reads w w.heap.size 1 A n (strs ys) := by
  subst hn
  exact h.reads
theorem between_v (z : Bool) (B : Nat) (A1 A2 A3 : Option Addr) (n1 n2 n3 c1 c2 c3 : Nat) (x1 x2 x3 : List ByteArray) (w : World) (hz : decide (¬ (n1 + n2 + n3 = 0)) = z) (h1 : Reads w B 1 A1 n1 (strs x1)) (h2 : Reads w B 1 A2 n2 (strs x2)) (h3 : Reads w B 1 A3 n3 (strs x3)) (hB : B ≤ w.heap.size) (l1 : n1 ≤ 1000) (l2 : n2 ≤ 1000) (l3 : n3 ≤ 1000) :
    Calls Tryd.prog 59 #[.slice A1 n1 c1, .slice A2 n2 c2, .slice A3 n3 c3] w fun e w' => ∃ (k : Int) (E1 E2 E3 : Option Addr) (d1 d2 d3 : Nat), e = .returned (.tuple #[.agg #[.int .i64 k, .slice E1 n1 d1, .slice E2 n2 d2, .slice E3 n3 d3], .bool z]) ∧
      (¬ n1 + n2 + n3 = 0 → k = knd x1 x2 x3) ∧ OwnS w' (.slice E1 n1 d1) x1 ∧ OwnS w' (.slice E2 n2 d2) x2 ∧ OwnS w' (.slice E3 n3 d3) x3 ∧ Grows w w' := by
  subst hz
  exact between_any B A1 A2 A3 n1 n2 n3 c1 c2 c3 x1 x2 x3 w h1 h2 h3 hB l1 l2 l3
/-- what between has laid down -/
def BtR (w0 : World) (x1 x2 x3 : List ByteArray) (n1 n2 n3 : Nat) (zb : Bool) (s s' : Value) (w : World) : Prop := ∃ (g : Nat) (k : Int) (E1 E2 E3 : Option Addr) (d1 d2 d3 : Nat), s = .pointer (some ⟨g, 0, none⟩) ∧ s' = .bool zb ∧ (¬ n1 + n2 + n3 = 0 → k = knd x1 x2 x3) ∧
  Blk w g 36 #[.int .i64 k, .slice E1 n1 d1, .slice E2 n2 d2, .slice E3 n3 d3] ∧ OwnS w (.slice E1 n1 d1) x1 ∧ OwnS w (.slice E2 n2 d2) x2 ∧ OwnS w (.slice E3 n3 d3) x3 ∧ Grows w0 w

set_option maxRecDepth 100000 in
set_option maxHeartbeats 1000000 in
theorem rof_any (Ba Bb Bc na nb nc ca cb cc : Nat) (A1 A2 A3 : Option Addr) (a b c : List ByteArray) (w : World)
    (ha : Reads w Ba 1 A1 na (strs a)) (hb : Reads w Bb 1 A2 nb (strs b)) (hc : Reads w Bc 1 A3 nc (strs c)) (hBa : Ba ≤ w.heap.size) (hBb : Bb ≤ w.heap.size) (hBc : Bc ≤ w.heap.size)
    (hna : na ≤ 450) (hnb : nb ≤ 450) (hnc : nc ≤ 450) (hca : na ≤ ca) (hcb : nb ≤ cb) (hcc : nc ≤ cc) (hcaM : ca ≤ maxLen) (hcbM : cb ≤ maxLen) (hccM : cc ≤ maxLen) :
    Calls Tryd.prog 26 #[.slice A1 na ca, .slice A2 nb cb, .slice A3 nc cc] w fun e w' => ∃ A n q, e = .returned (.slice A n q) ∧ ChunksN w' w'.heap.size A n (chunks a b c) ∧ Grows w w' ∧ n ≤ q ∧ q ≤ maxLen := by
  obtain ⟨s0, hs0, hs1, hs2, hs3⟩ := info_parts Tryd.infoStr
  obtain ⟨t1, hj0, hy0, hy1, hy2⟩ := info_parts Tryd.infoChunk
  have HL1 := Lib.hid ha.strLen
  have HL2 := Lib.hid hb.strLen
  have HL3 := Lib.hid hc.strLen
  have m1 : (ca : Int) ≤ 9223372036854775807 := by unfold maxLen at hcaM; omega
  have m2 : (cb : Int) ≤ 9223372036854775807 := by unfold maxLen at hcbM; omega
  have m3 : (cc : Int) ≤ 9223372036854775807 := by unfold maxLen at hccM; omega
  have R1 := Lib.hid ha
  have R2 := Lib.hid hb
  have R3 := Lib.hid hc
  clear ha hb hc
  go_enter Tryd.func26, Tryd.ntmps26
  go_wp2_with fail
  refine (rplaces_any Ba Bb A1 A2 na nb ca cb a b w R1.out R2.out hBa hBb hna hnb hca hcb).mono ?_
  rintro e w1 ⟨D1, b1, rfl, hb1, hbM1, hp1, hg1⟩
  go_wp2_with fail
  refine (rplaces_any Ba Bc A1 A3 na nc ca cc a c w1 (R1.out.grows hBa hg1) (R3.out.grows hBc hg1) (Nat.le_trans hBa hg1.size) (Nat.le_trans hBc hg1.size) hna hnc hca hcc).mono ?_
  rintro e w2 ⟨D2, b2, rfl, hb2, hbM2, hp2, hg2⟩
  have P1 := Lib.hid ((hp1.grows (Nat.le_refl _) hg2).more hg2.size)
  have P2 := Lib.hid hp2
  have hg := hg1.trans hg2
  have K1 := Lib.hid (R1.out.grows hBa hg)
  have K2 := Lib.hid (R2.out.grows hBb hg)
  have K3 := Lib.hid (R3.out.grows hBc hg)
  have y1 := Nat.le_trans hBa hg.size
  have y2 := Nat.le_trans hBb hg.size
  have y3 := Nat.le_trans hBc hg.size
  clear hp1 hp2 hg1 hg2 R1 R2 R3 hBa hBb hBc
  go_wp2_with fail
  go_loopg [13, 9, 10, 11, 12] na (fun gk q v pb po pt wr => ∃ (i p o t : Nat) (out : List ChkB) (xr : List Value), q = .int .i64 i ∧ pb = .int .i64 p ∧ po = .int .i64 o ∧ pt = .int .i64 t ∧ gk = na - i ∧ AtC a b c i p o t ∧ out ++ chGo a b c i p o t = chunks a b c ∧ out.length ≤ 2 * i ∧ wr.ownsRow w2.heap.size 36 4 v out.length xr ∧ Parts wr out xr ∧ Grows w2 wr)
  case atStart => exact ⟨0, 0, 0, 0, [], [], rfl, rfl, rfl, rfl, rfl, AtC.start a b c, rfl, Nat.zero_le _, World.ownsRow_nil _ _ _ _, rfl, Grows.refl _⟩
  case round =>
    obtain ⟨i, p, o, t, out, xr, rfl, rfl, rfl, rfl, hgk, hat, hch, hol, hrow, hpar, hgr⟩ := hrel
    have HG := Lib.hid hgk
    have HAT := Lib.hid hat
    have HCH := Lib.hid hch
    have hin : i ≤ na := by have := hat.top; rw [HL1.out] at this; exact this
    have hpi := hat.le
    have htp := hat.tops
    rw [HL1.out, HL2.out, HL3.out] at htp
    obtain ⟨ht1, ht2, ht3⟩ := htp
    clear hgk hat hch
    have i0 : (0 : Int) ≤ i := by omega
    have i4 : (i : Int) ≤ 450 := by omega
    by_cases hlt : i < na
    · have i1 : (i : Int) < na := by omega
      have hia : i < a.length := by rw [HL1.out]; exact hlt
      obtain ⟨d1, hd1e, hd1, hq1⟩ := (P1.out.grows (Nat.le_refl _) hgr).int hlt
      obtain ⟨d2, hd2e, hd2, hq2⟩ := (P2.out.grows (Nat.le_refl _) hgr).int hlt
      rw [gi_plc hia] at hq1 hq2
      by_cases hst : at3 a b i < 0 ∨ at3 a c i < 0
      · have HC2 := Lib.hid (show out ++ chGo a b c (i + 1) p o t = chunks a b c by rw [← HCH.out]; conv => rhs; rw [chGo, if_pos hia, if_pos hst])
        have HA2 := Lib.hid (HAT.out.skip hia hst)
        subst hd1e hd2e
        rcases (by omega : at3 a b i < 0 ∨ (0 ≤ at3 a b i ∧ at3 a c i < 0)) with h1 | ⟨h1, h2⟩
        · generalize at3 a b i = xi at hq1 h1
          clear hst
          go_wp2_with fail
          go_roundg (na - (i + 1))
          case measure => rw [HG.out]; omega
          case rel => exact ⟨i + 1, p, o, t, out, xr, by go_num, rfl, rfl, rfl, rfl, HA2.out, HC2.out, by omega, hrow, hpar, hgr⟩
        · clear hst
          generalize at3 a b i = xi at hq1 h1
          generalize at3 a c i = yi at hq2 h2
          have h1' : ¬ xi < 0 := by omega
          go_wp2_with fail
          go_roundg (na - (i + 1))
          case measure => rw [HG.out]; omega
          case rel => exact ⟨i + 1, p, o, t, out, xr, by go_num, rfl, rfl, rfl, rfl, HA2.out, HC2.out, by omega, hrow, hpar, hgr⟩
      · obtain ⟨x, hx⟩ : ∃ x : Nat, at3 a b i = x := ⟨(at3 a b i).toNat, by omega⟩
        obtain ⟨y, hy⟩ : ∃ y : Nat, at3 a c i = y := ⟨(at3 a c i).toNat, by omega⟩
        obtain ⟨n, hn⟩ : ∃ n, n = runN a b c i := ⟨_, rfl⟩
        have hbe := HAT.out.before hx hy
        have htop := run_top hia hx hy
        have hx4 := at3_lt hx
        have hy4 := at3_lt hy
        have hn1 := runN_pos a b c i
        rw [← hn] at htop hn1
        rw [HL1.out, HL2.out, HL3.out] at htop
        rw [HL2.out] at hx4
        rw [HL3.out] at hy4
        have HC2 := Lib.hid (show (out ++ pieceC (seg a p i) (seg b o x) (seg c t y)) ++ [(1, seg a i (i + n), seg a i (i + n), seg a i (i + n))] ++ chGo a b c (i + n) (i + n) (x + n) (y + n) = chunks a b c by
          rw [← HCH.out]
          conv => rhs; rw [chGo, if_pos hia, if_neg hst, hx, hy, Int.toNat_natCast, Int.toNat_natCast, ← hn]
          simp)
        have HA2 := Lib.hid (show AtC a b c (i + n) (i + n) (x + n) (y + n) by rw [hn]; exact AtC.next hia hx hy)
        have HON := Lib.hid (fun m (hm : m < n) => run_all hia hx hy (d := m) (by rw [← hn]; exact hm))
        have HOFF := Lib.hid (run_stop hx hy)
        rw [← hn] at HOFF
        rw [HL1.out] at HON HOFF
        rw [hx] at hq1
        rw [hy] at hq2
        have hxk := hx
        have hyk := hy
        clear hst hx hy hn
        subst hd1e hd2e
        have HX := Lib.hid hxk
        have HY := Lib.hid hyk
        clear hxk hyk
        go_upto_block 2 with fail
        go_cut [14] (fun s14 wz => s14 = .int .i64 n ∧ Grows wr wz)
        case first =>
          go_wp2_with fail
          go_loopg [14] (n - 1) (fun gk q wz => Grows wr wz ∧ ∃ m : Nat, q = .int .i64 m ∧ 1 ≤ m ∧ m ≤ n ∧ gk = n - m)
          case atStart => exact ⟨Grows.refl _, 1, rfl, Nat.le_refl _, hn1, by omega⟩
          case round =>
            clear hq1 hq2
            obtain ⟨hgz, m, rfl, hm1, hm2, hgm⟩ := hrel
            have HGM := Lib.hid hgm
            clear hgm
            have m0 : (1 : Int) ≤ m := by omega
            have m2' : (m : Int) ≤ 450 := by omega
            have hq1 := Reads.intAt (P1.out.grows (Nat.le_refl _) (hgr.trans hgz)) hlt
            have hq2 := Reads.intAt (P2.out.grows (Nat.le_refl _) (hgr.trans hgz)) hlt
            rw [gi_plc hia, HX.out] at hq1
            rw [gi_plc hia, HY.out] at hq2
            have x4' : (x : Int) ≤ 450 := by omega
            have y4' : (y : Int) ≤ 450 := by omega
            by_cases hmn : m < n
            · obtain ⟨h1, h2, h3⟩ := HON.out m hmn
              have hima : i + m < a.length := by rw [HL1.out]; exact h1
              have hr1 := Reads.intAt (P1.out.grows (Nat.le_refl _) (hgr.trans hgz)) h1
              have hr2 := Reads.intAt (P2.out.grows (Nat.le_refl _) (hgr.trans hgz)) h1
              rw [gi_plc hima, h2, show ((x + m : Nat) : Int) = (x : Int) + m by omega] at hr1
              rw [gi_plc hima, h3, show ((y + m : Nat) : Int) = (y : Int) + m by omega] at hr2
              have i5 : (i : Int) + m < na := by omega
              clear h1 h2 h3 hima
              go_wp2_with fail
              go_quiet (fail)
              go_wp2_with fail
              go_roundg (n - (m + 1))
              case measure => rw [HGM.out]; omega
              case rel => exact ⟨hgz.drewN _, m + 1, by go_num, by omega, by omega, rfl⟩
            · have hme : m = n := by omega
              subst hme
              clear hmn hm1 hm2
              by_cases h1 : i + m < na
              · have hima : i + m < a.length := by rw [HL1.out]; exact h1
                have i5 : (i : Int) + m < na := by omega
                have hr1 := Reads.intAt (P1.out.grows (Nat.le_refl _) (hgr.trans hgz)) h1
                rw [gi_plc hima] at hr1
                by_cases h2 : at3 a b (i + m) = ((x + m : Nat) : Int)
                · have h3 : ¬ at3 a c (i + m) = ((y + m : Nat) : Int) := fun h3 => HOFF.out ⟨h1, h2, h3⟩
                  have hr2 := Reads.intAt (P2.out.grows (Nat.le_refl _) (hgr.trans hgz)) h1
                  rw [gi_plc hima] at hr2
                  rw [h2, show ((x + m : Nat) : Int) = (x : Int) + m by omega] at hr1
                  rw [show ((y + m : Nat) : Int) = (y : Int) + m by omega] at h3
                  generalize at3 a c (i + m) = Y at hr2 h3
                  have h4 : (Y == (y : Int) + m) = false := by simpa using h3
                  clear h1 h2 h3 hima
                  go_wp2_with fail
                  go_quiet (fail)
                  go_wp2_with fail
                  go_meet
                  exact ⟨rfl, hgz.drewN _⟩
                · rw [show ((x + m : Nat) : Int) = (x : Int) + m by omega] at h2
                  generalize at3 a b (i + m) = X at hr1 h2
                  have h4 : (X == (x : Int) + m) = false := by simpa using h2
                  clear h1 h2 hima
                  go_wp2_with fail
                  go_quiet (fail)
                  go_wp2_with fail
                  go_meet
                  exact ⟨rfl, hgz.drewN _⟩
              · have i5 : ¬ ((i : Int) + m < na) := by omega
                clear h1
                go_wp2_with fail
                have i6 : decide ((i : Int) + m < na) = false := by simp; omega
                go_quiet (fail)
                go_wp2_with fail
                go_meet
                exact ⟨rfl, hgz.drewN _⟩
        case rest =>
          obtain ⟨rfl, hgz⟩ := hcut
          obtain ⟨wv, hwv⟩ : ∃ wv, wv = wc := ⟨_, rfl⟩
          subst hwv
          have hgw := hgr.trans hgz
          have hrow1 := own_grows hrow hgz
          have hpar1 := Parts.mono (fun u ys h => h.grows hgz) hpar
          have S1 := Lib.hid ((K1.out.segS (p := p) (q := i) (c := ca) hin hpi hca).more y1)
          have S2 := Lib.hid ((K2.out.segS (p := o) (q := x) (c := cb) (by omega) hbe.1 hcb).more y2)
          have S3 := Lib.hid ((K3.out.segS (p := t) (q := y) (c := cc) (by omega) hbe.2 hcc).more y3)
          have N1 : ¬ ca = p := by omega
          have N2 : ¬ cb = o := by omega
          have N3 : ¬ cc = t := by omega
          rw [if_neg N1] at S1
          rw [if_neg N2] at S2
          rw [if_neg N3] at S3
          have V1 := Lib.hid (show (seg a p i).length = i - p by rw [seg_len _ (by omega)])
          have V2 := Lib.hid (show (seg b o x).length = x - o by rw [seg_len _ (by rw [HL2.out]; omega)])
          have V3 := Lib.hid (show (seg c t y).length = y - t by rw [seg_len _ (by rw [HL3.out]; omega)])
          have hd1c := Reads.intAt (P1.out.grows (Nat.le_refl _) hgw) hlt
          have hd2c := Reads.intAt (P2.out.grows (Nat.le_refl _) hgw) hlt
          rw [gi_plc hia, HX.out] at hd1c
          rw [gi_plc hia, HY.out] at hd2c
          have hdb1 : d1.block < wv.heap.size := Nat.lt_of_lt_of_le hd1 hgw.size
          have hdb2 : d2.block < wv.heap.size := Nat.lt_of_lt_of_le hd2 hgw.size
          have q1 : (p : Int) ≤ i := by omega
          have q2 : (i : Int) ≤ ca := by omega
          have q3 : (o : Int) ≤ x := by omega
          have q4 : (x : Int) ≤ cb := by omega
          have q5 : (t : Int) ≤ y := by omega
          have q6 : (y : Int) ≤ cc := by omega
          have q7 : (0 : Int) ≤ p := by omega
          have q8 : (0 : Int) ≤ o := by omega
          have q9 : (0 : Int) ≤ t := by omega
          clear hq1 hq2 hrow hpar hgr hgz HON HOFF
          obtain ⟨zb, hzb⟩ : ∃ zb, decide (¬ (i - p + (x - o) + (y - t) = 0)) = zb := ⟨_, rfl⟩
          have HZB := Lib.hid hzb
          clear hzb
          go_upto_region 11 with fail
          go_cut [15, 16] (fun s15 s16 wy => BtR wv (seg a p i) (seg b o x) (seg c t y) (i - p) (x - o) (y - t) zb s15 s16 wy)
          case first =>
            obtain ⟨S, hS⟩ : ∃ S : World → Prop, S = fun w' => Grows wv.drew w' := ⟨_, rfl⟩
            have hSb : ∀ s : SW S, Grows wv.drew s.w := fun s => by
              have := s.ok
              subst hS
              exact this
            have hS1 : ∀ s : SW S, s.w.cell? (d1.add i) = some (.int .i64 x) := fun s => by
              rw [Below.cell (hSb s) (by rw [block_of_add]; exact hdb1)]; exact hd1c
            have hS2 : ∀ s : SW S, s.w.cell? (d2.add i) = some (.int .i64 y) := fun s => by
              rw [Below.cell (hSb s) (by rw [block_of_add]; exact hdb2)]; exact hd2c
            have hSi : ∀ w', Grows wv.drew w' → S w' := by rw [hS]; exact fun _ h => h
            have hSS : S wv.drew := hSi _ (Grows.refl _)
            clear hSb hS hd1c hd2c
            haveI : Nonempty (SW S) := ⟨⟨_, hSS⟩⟩
-- R11 begin
            have HWD := Lib.hid ((Grows.refl wv).drew)
            have S1 := Lib.hid ((S1.out.grows (Nat.le_refl _) hgw).drew)
            have S2 := Lib.hid ((S2.out.grows (Nat.le_refl _) hgw).drew)
            have S3 := Lib.hid ((S3.out.grows (Nat.le_refl _) hgw).drew)
            have hz2 : w2.heap.size ≤ wv.drew.heap.size := hgw.size
            have hgx : Grows wv.drew wv.drew := Grows.refl _
            refine wp_region_fri S 22 [([0, 1, 2, 3, 4, 5, 6, 7, 8, 9, 10, 11, 12, 13, 14, 15, 16, 17], 18), ([], 19)] [20, 21] [([20, 21], 23)] [([], 23)] [] [([], [24])] (by kernel_rfl) (fun _ _ _ _ _ h => h) (by kernel_rfl) hSS ?_
            simp only [pickS, pickT, pickL, List.map_cons, List.map_nil, List.filterMap_cons, List.filterMap_nil, List.getElem?_cons_zero, List.getElem?_cons_succ]
            generalize wv.drew = wd at HWD S1 S2 S3 hz2 hgx hSi hSS ⊢
            refine wpFri_consK fun K1 hK1 K2 hK2 K hK => ?_
            repeat (show wpQuiet _ _ _ _ (_ :: _) _; go_big_quiet_step (fail))
            generalize Option.map (fun x => x.add p) A1 = F1 at S1 ⊢
            generalize Option.map (fun x => x.add o) A2 = F2 at S2 ⊢
            generalize Option.map (fun x => x.add t) A3 = F3 at S3 ⊢
            refine wpQuiet_nil (hK _ ?_ ?_)
            ·
              clear hK K hK2 K2
              show wpList _ _ _ [_] _ _
              go_wp2_with fail
              have hgn : Grows wd (wd.alloc (.cells #[.int .i64 0, .slice none 0 0, .slice none 0 0, .slice none 0 0] 36)) := (Grows.refl _).alloc _
              have hA := Blk.new wd 36 #[.int .i64 0, .slice none 0 0, .slice none 0 0, .slice none 0 0]
              obtain ⟨g, hgq⟩ : ∃ g, g = wd.heap.size := ⟨_, rfl⟩
              have hge : wd.heap.size ≤ g := by rw [hgq]; exact hgx.size
              rw [← hgq] at hA ⊢
              clear hgq
              generalize wd.alloc (.cells #[.int .i64 0, .slice none 0 0, .slice none 0 0, .slice none 0 0] 36) = wda at hgn hA ⊢
              replace hgx := hgx.trans hgn
              clear hgn
              refine hK1.out _ _ (hSi _ hgx) ?_
              clear hK1 K1
              refine wpSeq_consK fun K2 hK2 K hK => ?_
              refine wpQuiet_nil (hK _ ?_)
              clear hK K
              show wpList _ _ _ [_] _ _
              go_wp2_with fail
              refine (between_v zb w2.heap.size F1 F2 F3 (i - p) (x - o) (y - t) _ _ _ _ _ _ wda HZB.out (S1.out.grows (Nat.le_trans hz2 (Nat.le_refl _)) hgx) (S2.out.grows hz2 hgx) (S3.out.grows hz2 hgx) (Nat.le_trans hz2 hgx.size) (by omega) (by omega) (by omega)).mono ?_
              rintro e wda' ⟨kk, G1, G2, G3, e1, e2, e3, rfl, hkk, o1, o2, o3, hgn⟩
              replace hA := hA.grows hgn
              replace hgx := hgx.trans hgn
              clear hgn
              go_wp2_with fail
              refine hK2.out _ _ (hSi _ hgx) ?_
              clear hK2 K2
              refine wpSeq_consK fun K2 hK2 K hK => ?_
              repeat (show wpQuiet _ _ _ _ (_ :: _) _; go_big_quiet_step (fail))
              refine wpQuiet_nil (hK _ ?_)
              clear hK K
              show wpList _ _ _ [_] _ _
              go_wp2_with fail
              refine hK2.out _ _ (hSi _ hgx) ?_
              clear hK2 K2
              refine wpSeq_consK fun K2 hK2 K hK => ?_
              repeat (show wpQuiet _ _ _ _ (_ :: _) _; go_big_quiet_step (fail))
              refine wpQuiet_nil (hK _ ?_)
              clear hK K
              show wpList _ _ _ [_] _ _
              obtain ⟨p1, p2, p3⟩ := put4 hA hgx hge (.int .i64 kk) (.slice G1 (i - p) e1) (.slice G2 (x - o) e2) (.slice G3 (y - t) e3)
              refine wpList_store_mid rfl _ (.tmp 15) (.tmp 102) rfl g 0 #[.int .i64 kk, .slice G1 (i - p) e1, .slice G2 (x - o) e2, .slice G3 (y - t) e3] rfl rfl (there4 hA) (by kernel_rfl) (by simp [Value.oneCell']) ?_
              go_wp2_with fail
              refine hK2.out _ _ (hSi _ p2) ?_
              clear hK2 K2
              refine wpSeq_nil (wpRest_K fun K hK => ?_)
              refine wpQuiet_nil (hK _ ?_)
              clear hK K
              refine wpSegs_consK fun K2 hK2 K hK => ?_
              refine wpQuiet_nil (hK _ ?_)
              clear hK K
              show wpList _ _ _ [_] _ _
              simp only [Act.put]
              go_wp2_with fail
              refine hK2.out _ _ (wpSegs_nil ?_)
              clear hK2 K2
              go_wp2_with fail
              go_meet
              exact ⟨g, kk, G1, G2, G3, e1, e2, e3, rfl, rfl, hkk, p1, p3 _ _ o1, p3 _ _ o2, p3 _ _ o3, HWD.out.trans p2⟩
            ·
              clear hK K hK1 K1
              show wpList _ _ _ [_] _ _
              go_wp2_with fail
              refine (between_v zb w2.heap.size F1 F2 F3 (i - p) (x - o) (y - t) _ _ _ _ _ _ wd HZB.out (S1.out.grows (Nat.le_trans hz2 (Nat.le_refl _)) hgx) (S2.out.grows hz2 hgx) (S3.out.grows hz2 hgx) (Nat.le_trans hz2 hgx.size) (by omega) (by omega) (by omega)).mono ?_
              rintro e wd' ⟨kk, G1, G2, G3, e1, e2, e3, rfl, hkk, o1, o2, o3, hgn⟩
              replace hgx := hgx.trans hgn
              clear hgn
              go_wp2_with fail
              refine hK2.out _ _ (hSi _ hgx) ?_
              clear hK2 K2
              refine wpFri_consK fun K1 hK1 K2 hK2 K hK => ?_
              repeat (show wpQuiet _ _ _ _ (_ :: _) _; go_big_quiet_step (fail))
              refine wpQuiet_nil (hK _ ?_ ?_)
              ·
                clear hK K hK2 K2
                show wpList _ _ _ [_] _ _
                go_wp2_with fail
                have hgn : Grows wd' (wd'.alloc (.cells #[.int .i64 0, .slice none 0 0, .slice none 0 0, .slice none 0 0] 36)) := (Grows.refl _).alloc _
                have hA := Blk.new wd' 36 #[.int .i64 0, .slice none 0 0, .slice none 0 0, .slice none 0 0]
                obtain ⟨g, hgq⟩ : ∃ g, g = wd'.heap.size := ⟨_, rfl⟩
                have hge : wd.heap.size ≤ g := by rw [hgq]; exact hgx.size
                rw [← hgq] at hA ⊢
                clear hgq
                generalize wd'.alloc (.cells #[.int .i64 0, .slice none 0 0, .slice none 0 0, .slice none 0 0] 36) = wd'a at hgn hA ⊢
                replace o1 := o1.grows hgn
                replace o2 := o2.grows hgn
                replace o3 := o3.grows hgn
                replace hgx := hgx.trans hgn
                clear hgn
                refine hK1.out _ _ (hSi _ hgx) ?_
                clear hK1 K1
                refine wpSeq_consK fun K2 hK2 K hK => ?_
                refine wpQuiet_nil (hK _ ?_)
                clear hK K
                show wpList _ _ _ [_] _ _
                go_wp2_with fail
                refine hK2.out _ _ (hSi _ hgx) ?_
                clear hK2 K2
                refine wpSeq_consK fun K2 hK2 K hK => ?_
                repeat (show wpQuiet _ _ _ _ (_ :: _) _; go_big_quiet_step (fail))
                refine wpQuiet_nil (hK _ ?_)
                clear hK K
                show wpList _ _ _ [_] _ _
                obtain ⟨p1, p2, p3⟩ := put4 hA hgx hge (.int .i64 kk) (.slice G1 (i - p) e1) (.slice G2 (x - o) e2) (.slice G3 (y - t) e3)
                refine wpList_store_mid rfl _ (.tmp 15) (.tmp 102) rfl g 0 #[.int .i64 kk, .slice G1 (i - p) e1, .slice G2 (x - o) e2, .slice G3 (y - t) e3] rfl rfl (there4 hA) (by kernel_rfl) (by simp [Value.oneCell']) ?_
                go_wp2_with fail
                refine hK2.out _ _ (hSi _ p2) ?_
                clear hK2 K2
                refine wpSeq_nil (wpRest_K fun K hK => ?_)
                refine wpQuiet_nil (hK _ ?_)
                clear hK K
                refine wpSegs_consK fun K2 hK2 K hK => ?_
                refine wpQuiet_nil (hK _ ?_)
                clear hK K
                show wpList _ _ _ [_] _ _
                simp only [Act.put]
                go_wp2_with fail
                refine hK2.out _ _ (wpSegs_nil ?_)
                clear hK2 K2
                go_wp2_with fail
                go_meet
                exact ⟨g, kk, G1, G2, G3, e1, e2, e3, rfl, rfl, hkk, p1, p3 _ _ o1, p3 _ _ o2, p3 _ _ o3, HWD.out.trans p2⟩
              ·
                clear hK K hK1 K1
                show wpList _ _ _ [_] _ _
                go_wp2_with fail
                refine hK2.out _ _ (hSi _ hgx) ?_
                clear hK2 K2
                refine wpFri_nilK fun K1 hK1 K hK => ?_
                repeat (show wpQuiet _ _ _ _ (_ :: _) _; go_big_quiet_step (fail))
                refine wpQuiet_nil (hK _ ?_)
                clear hK K
                show wpList _ _ _ [_] _ _
                go_wp2_with fail
                have hgn : Grows wd' (wd'.alloc (.cells #[.int .i64 0, .slice none 0 0, .slice none 0 0, .slice none 0 0] 36)) := (Grows.refl _).alloc _
                have hA := Blk.new wd' 36 #[.int .i64 0, .slice none 0 0, .slice none 0 0, .slice none 0 0]
                obtain ⟨g, hgq⟩ : ∃ g, g = wd'.heap.size := ⟨_, rfl⟩
                have hge : wd.heap.size ≤ g := by rw [hgq]; exact hgx.size
                rw [← hgq] at hA ⊢
                clear hgq
                generalize wd'.alloc (.cells #[.int .i64 0, .slice none 0 0, .slice none 0 0, .slice none 0 0] 36) = wd'a at hgn hA ⊢
                replace o1 := o1.grows hgn
                replace o2 := o2.grows hgn
                replace o3 := o3.grows hgn
                replace hgx := hgx.trans hgn
                clear hgn
                refine hK1.out _ _ (hSi _ hgx) ?_
                clear hK1 K1
                refine wpSeq_consK fun K2 hK2 K hK => ?_
                refine wpQuiet_nil (hK _ ?_)
                clear hK K
                show wpList _ _ _ [_] _ _
                obtain ⟨p1, p2, p3⟩ := put4 hA hgx hge (.int .i64 kk) (.slice G1 (i - p) e1) (.slice G2 (x - o) e2) (.slice G3 (y - t) e3)
                refine wpList_store_mid rfl _ (.tmp 15) (.tmp 102) rfl g 0 #[.int .i64 kk, .slice G1 (i - p) e1, .slice G2 (x - o) e2, .slice G3 (y - t) e3] rfl rfl (there4 hA) (by kernel_rfl) (by simp [Value.oneCell']) ?_
                go_wp2_with fail
                refine hK2.out _ _ (hSi _ p2) ?_
                clear hK2 K2
                refine wpSeq_nil (wpRest_K fun K hK => ?_)
                refine wpQuiet_nil (hK _ ?_)
                clear hK K
                refine wpSegs_consK fun K2 hK2 K hK => ?_
                refine wpQuiet_nil (hK _ ?_)
                clear hK K
                show wpList _ _ _ [_] _ _
                simp only [Act.put]
                go_wp2_with fail
                refine hK2.out _ _ (wpSegs_nil ?_)
                clear hK2 K2
                go_wp2_with fail
                go_meet
                exact ⟨g, kk, G1, G2, G3, e1, e2, e3, rfl, rfl, hkk, p1, p3 _ _ o1, p3 _ _ o2, p3 _ _ o3, HWD.out.trans p2⟩
-- R11 end
          case rest =>
            obtain ⟨g, kk, G1, G2, G3, e1, e2, e3, rfl, rfl, hkk, hB, o1, o2, o3, hgy⟩ := hcut
            obtain ⟨wb, hwb⟩ : ∃ wb, wb = wc := ⟨_, rfl⟩
            subst hwb
            have hrow2 := own_grows hrow1 hgy
            have hpar2 := Parts.mono (fun u ys h => h.grows hgy) hpar1
            have hgb := hgw.trans hgy
            clear hrow1 hpar1 hgy
            have hxb := hB.cell 0
            have hxb1 := hB.cell 1
            have hxb2 := hB.cell 2
            have hxb3 := hB.cell 3
            simp only [List.getElem?_toArray, List.getElem?_cons_succ, List.getElem?_cons_zero] at hxb hxb1 hxb2 hxb3
            have hol2 : out.length ≤ 900 := by omega
            go_upto_if 104 with fail
            go_cut [9] (fun s9 wx => ∃ xs', wx.ownsRow w2.heap.size 36 4 s9 (out ++ pieceC (seg a p i) (seg b o x) (seg c t y)).length xs' ∧ Parts wx (out ++ pieceC (seg a p i) (seg b o x) (seg c t y)) xs' ∧ Grows w2 wx)
            case first =>
              cases zb with
              | true =>
                have hz : ¬ (i - p + (x - o) + (y - t) = 0) := of_decide_eq_true HZB.out
                have HPC := Lib.hid (pieceC_yes V1.out V2.out V3.out hz)
                rw [← hkk hz] at HPC
                clear hz hkk
                have hgn := (Grows.refl wb).alloc (.cells #[.int .i64 kk, .slice G1 (i - p) e1, .slice G2 (x - o) e2, .slice G3 (y - t) e3] 36)
                have hnews := cell_four_new wb (.int .i64 kk) (.slice G1 (i - p) e1) (.slice G2 (x - o) e2) (.slice G3 (y - t) e3) 36
                have hrow3 := own_grows hrow2 hgn
                have hpar3 := Parts.mono (fun u ys h => h.grows hgn) hpar2
                have r1 := o1.grows hgn
                have r2 := o2.grows hgn
                have r3 := o3.grows hgn
                have hgc := hgb.trans hgn
                clear hgn hrow2 hpar2 o1 o2 o3
                go_wp2_with (at_builtin; refine wpList_append_own _ rfl (.tmp 105) (.tmp 107) _ rfl w2.heap.size 36 t1 _ 4 80 Tryd.underlying30 hj0 hy0 hy1 hy2 rfl (by decide) _ out.length xr rfl hrow3 ⟨_, 0, none⟩ 1 1 [.int .i64 kk, .slice G1 (i - p) e1, .slice G2 (x - o) e2, .slice G3 (y - t) e3] rfl rfl hnews (by intro u hu; simp at hu; rcases hu with rfl | rfl | rfl | rfl <;> rfl) (by simp only [maxLen]; omega) (by omega) hgc.size ?_; intro v' w7 hrow7 hgb7 _)
                have hP7 : Parts w7 (out ++ [(kk, seg a p i, seg b o x, seg c t y)]) (xr ++ [.int .i64 kk, .slice G1 (i - p) e1, .slice G2 (x - o) e2, .slice G3 (y - t) e3]) := Parts.app (Parts.mono (fun u ys h => h.beside hrow3 (by decide) hgb7) hpar3) (Parts.one (r1.beside hrow3 (by decide) hgb7) (r2.beside hrow3 (by decide) hgb7) (r3.beside hrow3 (by decide) hgb7))
                have hgd : Grows w2 w7 := Below.grown hgc hgb7 hgc.size (fun k hk => (hrow3.lt k hk).1)
                clear hrow3 hpar3 r1 r2 r3 hgb7 hnews
                go_meet
                exact ⟨_, by rw [HPC.out, List.length_append]; exact hrow7, by rw [HPC.out]; exact hP7, hgd⟩
              | false =>
                have hz : i - p + (x - o) + (y - t) = 0 := Decidable.of_not_not (of_decide_eq_false HZB.out)
                have HPC := Lib.hid (pieceC_no V1.out V2.out V3.out hz)
                clear hz hkk
                go_wp2_with fail
                go_meet
                exact ⟨xr, by rw [HPC.out, List.append_nil]; exact hrow2, by rw [HPC.out, List.append_nil]; exact hpar2, hgb⟩
            case rest =>
              obtain ⟨xs3, hrow3, hpar3, hgc⟩ := hcut
              have hpl := pieceC_len (seg a p i) (seg b o x) (seg c t y)
              have s4 := (K1.out.segS (p := i) (q := i + n) (c := ca) htop.1 (by omega) hca).more y1
              rw [if_neg (by omega : ¬ ca = i)] at s4
              have hinn : i + n - i = n := by omega
              have S4 := Lib.hid s4
              have VR := Lib.hid (show (seg a i (i + n)).length = n by rw [seg_len _ (by rw [HL1.out]; exact htop.1)]; omega)
              obtain ⟨R, hR⟩ : ∃ R, R = seg a i (i + n) := ⟨_, rfl⟩
              rw [← hR] at S4 VR HC2
              obtain ⟨Q, hQ⟩ : ∃ Q, Q = out ++ pieceC (seg a p i) (seg b o x) (seg c t y) := ⟨_, rfl⟩
              have hQl : Q.length ≤ 2 * i + 1 := by rw [hQ, List.length_append]; omega
              rw [← hQ] at hrow3 hpar3 HC2
              obtain ⟨L, hL⟩ : ∃ L, L = Q.length := ⟨_, rfl⟩
              rw [← hL] at hrow3
              have n0 : (1 : Int) ≤ n := by omega
              have n1 : (i : Int) + n ≤ na := by omega
              have n2 : (na : Int) ≤ ca := by omega
              have n4 : L ≤ 901 := by omega
              have n5 : (ca : Int) - i ≤ 9223372036854775807 := by omega
              have n6 : (n : Int) ≤ 450 := by omega
              have n7 : n ≤ 450 := by omega
              clear s4 hR hQ S1 S2 S3 hrow2 hpar2 o1 o2 o3 hxb hxb1 hxb2 hxb3 hB hkk
              go_upto_region 16 with (first | (at_builtin; refine wpList_append_any _ rfl (.const (.slice none 0 0)) (.tmp 114) _ rfl wc.heap.size 9 s0 _ 1 16 Tryd.underlying28 hs0 hs1 hs2 hs3 rfl (by decide) _ _ _ rfl (World.ownsRow_nil wc _ _ _) _ _ _ _ _ rfl (S4.out.grows (Nat.le_refl _) hgc) (strs_oneCell _) (by simp only [maxLen]; omega) (by omega) (Nat.le_refl _) ?_; intro v1 w4 ow1 hgb1 _; have hn1 : Grows wc w4 := Below.grown (Grows.refl _) hgb1 (Nat.le_refl _) (fun k hk => by cases hk); rw [List.nil_append, Nat.zero_add, hinn] at ow1; obtain ⟨U1, f1, rfl, _, _⟩ := own_form ow1; have r1 : OwnS w4 (.slice U1 n f1) R := OwnS.of ow1; clear ow1 hgb1) | (at_builtin; refine wpList_append_any _ rfl (.const (.slice none 0 0)) (.tmp 118) _ rfl w4.heap.size 9 s0 _ 1 16 Tryd.underlying28 hs0 hs1 hs2 hs3 rfl (by decide) _ _ _ rfl (World.ownsRow_nil w4 _ _ _) _ _ _ _ _ rfl (rd_own VR.out r1) (strs_oneCell _) (by simp only [maxLen]; omega) (by omega) (Nat.le_refl _) ?_; intro v2 w5 ow2 hgb2 _; have hn2 : Grows w4 w5 := Below.grown (Grows.refl _) hgb2 (Nat.le_refl _) (fun k hk => by cases hk); rw [List.nil_append, Nat.zero_add] at ow2; obtain ⟨U2, f2, rfl, _, _⟩ := own_form ow2; have r2 : OwnS w5 (.slice U2 n f2) R := OwnS.of ow2; clear ow2 hgb2; replace r1 := r1.grows hn2; replace hn2 := hn1.trans hn2) | (at_builtin; refine wpList_append_any _ rfl (.const (.slice none 0 0)) (.tmp 120) _ rfl w5.heap.size 9 s0 _ 1 16 Tryd.underlying28 hs0 hs1 hs2 hs3 rfl (by decide) _ _ _ rfl (World.ownsRow_nil w5 _ _ _) _ _ _ _ _ rfl (rd_own VR.out r1) (strs_oneCell _) (by simp only [maxLen]; omega) (by omega) (Nat.le_refl _) ?_; intro v3 w6 ow3 hgb3 _; have hn3 : Grows w5 w6 := Below.grown (Grows.refl _) hgb3 (Nat.le_refl _) (fun k hk => by cases hk); rw [List.nil_append, Nat.zero_add] at ow3; obtain ⟨U3, f3, rfl, _, _⟩ := own_form ow3; have r3 : OwnS w6 (.slice U3 n f3) R := OwnS.of ow3; clear ow3 hgb3; replace r1 := r1.grows hn3; replace r2 := r2.grows hn3; replace hn3 := hn2.trans hn3) | (at_builtin; refine wpList_append_own _ rfl (.tmp 116) (.tmp 123) _ rfl w2.heap.size 36 t1 _ 4 80 Tryd.underlying30 hj0 hy0 hy1 hy2 rfl (by decide) _ L xs3 rfl (own_grows hrow3 (hn3.alloc (.cells #[.int .i64 1, .slice U1 n f1, .slice U2 n f2, .slice U3 n f3] 36))) ⟨_, 0, none⟩ 1 1 [.int .i64 1, .slice U1 n f1, .slice U2 n f2, .slice U3 n f3] rfl rfl (cell_four_new w6 _ _ _ _ _) (by intro u hu; simp at hu; rcases hu with rfl | rfl | rfl | rfl <;> rfl) (by simp only [maxLen]; omega) (by omega) (hgc.trans (hn3.alloc (.cells #[.int .i64 1, .slice U1 n f1, .slice U2 n f2, .slice U3 n f3] 36))).size ?_; intro v' w7 hrow7 hgb7 _))
              have hnn := hn3.alloc (.cells #[.int .i64 1, .slice U1 n f1, .slice U2 n f2, .slice U3 n f3] 36)
              have hrow6 := own_grows hrow3 hnn
              have hpar6 := Parts.mono (fun u ys h => h.grows hnn) hpar3
              have ha := (Grows.refl w6).alloc (.cells #[.int .i64 1, .slice U1 n f1, .slice U2 n f2, .slice U3 n f3] 36)
              have hP7 : Parts w7 (Q ++ [(1, R, R, R)]) (xs3 ++ [.int .i64 1, .slice U1 n f1, .slice U2 n f2, .slice U3 n f3]) := Parts.app (Parts.mono (fun u ys h => h.beside hrow6 (by decide) hgb7) hpar6) (Parts.one ((r1.grows ha).beside hrow6 (by decide) hgb7) ((r2.grows ha).beside hrow6 (by decide) hgb7) ((r3.grows ha).beside hrow6 (by decide) hgb7))
              have hgd : Grows w2 w7 := Below.grown (hgc.trans hnn) hgb7 (hgc.trans hnn).size (fun k hk => (hrow6.lt k hk).1)
              have hq1 := Reads.intAt (P1.out.grows (Nat.le_refl _) hgd) hlt
              have hq2 := Reads.intAt (P2.out.grows (Nat.le_refl _) hgd) hlt
              rw [gi_plc hia, HX.out] at hq1
              rw [gi_plc hia, HY.out] at hq2
              have x0 : (0 : Int) ≤ x := by omega
              have y0 : (0 : Int) ≤ y := by omega
              have x5 : (x : Int) + n ≤ 450 := by omega
              have y5 : (y : Int) + n ≤ 450 := by omega
              have HQL := Lib.hid hQl
              have HLQ := Lib.hid hL
              clear hgb7 hrow6 hpar6 r1 r2 r3 ha hnn hn3 hrow3 hpar3 hQl hL hd1c hd2c
              go_quiet (fail)
              go_wp2_with fail
              go_roundg (na - (i + n))
              case measure => rw [HG.out]; omega
              case rel => exact ⟨i + n, i + n, x + n, y + n, Q ++ [(1, R, R, R)], _, by go_num, by go_num, by go_num, by go_num, rfl, HA2.out, HC2.out, by rw [List.length_append]; have := HQL.out; simp only [List.length_cons, List.length_nil]; omega, by rw [List.length_append, ← HLQ.out]; exact own_drewN hrow7 _, Parts.mono (fun u ys h => h.grows ((Grows.refl _).drewN _)) hP7, hgd.drewN _⟩
    · have hie : i = na := by omega
      have HE1 := Lib.hid (show out ++ pieceC (seg a p na) (seg b o nb) (seg c t nc) = chunks a b c by
        rw [← HCH.out, chGo, if_neg (by rw [HL1.out]; omega)]
        congr 2
        · rw [← HL1.out, seg_end]
        · rw [← HL2.out, seg_end]
        · rw [← HL3.out, seg_end])
      have S1 := Lib.hid ((K1.out.segS (p := p) (q := na) (c := ca) (Nat.le_refl _) ht1 hca).more y1)
      have S2 := Lib.hid ((K2.out.segS (p := o) (q := nb) (c := cb) (Nat.le_refl _) ht2 hcb).more y2)
      have S3 := Lib.hid ((K3.out.segS (p := t) (q := nc) (c := cc) (Nat.le_refl _) ht3 hcc).more y3)
      have V1 := Lib.hid (show (seg a p na).length = na - p by rw [seg_len _ (by rw [HL1.out]; omega)])
      have V2 := Lib.hid (show (seg b o nb).length = nb - o by rw [seg_len _ (by rw [HL2.out]; omega)])
      have V3 := Lib.hid (show (seg c t nc).length = nc - t by rw [seg_len _ (by rw [HL3.out]; omega)])
      have hgw := hgr
      have q1 : (p : Int) ≤ na := by omega
      have q2 : (na : Int) ≤ ca := by omega
      have q3 : (o : Int) ≤ nb := by omega
      have q4 : (nb : Int) ≤ cb := by omega
      have q5 : (t : Int) ≤ nc := by omega
      have q6 : (nc : Int) ≤ cc := by omega
      have q7 : (0 : Int) ≤ p := by omega
      have q8 : (0 : Int) ≤ o := by omega
      have q9 : (0 : Int) ≤ t := by omega
      rw [hie]
      clear hlt
      obtain ⟨zb, hzb⟩ : ∃ zb, decide (¬ (na - p + (nb - o) + (nc - t) = 0)) = zb := ⟨_, rfl⟩
      have HZB := Lib.hid hzb
      clear hzb
      have hol2 : out.length ≤ 900 := by omega
      obtain ⟨wv, hwv⟩ : ∃ wv, wv = wr := ⟨_, rfl⟩
      subst hwv
      go_upto_region 18 with fail
      go_cut [18, 19] (fun s18 s19 wy => BtR wv (seg a p na) (seg b o nb) (seg c t nc) (na - p) (nb - o) (nc - t) zb s18 s19 wy)
      case first =>
        obtain ⟨S, hS⟩ : ∃ S : World → Prop, S = fun w' => Grows wv.drew w' := ⟨_, rfl⟩
        have hSi : ∀ w', Grows wv.drew w' → S w' := by rw [hS]; exact fun _ h => h
        have hSS : S wv.drew := hSi _ (Grows.refl _)
        clear hS
        haveI : Nonempty (SW S) := ⟨⟨_, hSS⟩⟩
-- R18 begin
        have HWD := Lib.hid ((Grows.refl wv).drew)
        have S1 := Lib.hid ((S1.out.grows (Nat.le_refl _) hgw).drew)
        have S2 := Lib.hid ((S2.out.grows (Nat.le_refl _) hgw).drew)
        have S3 := Lib.hid ((S3.out.grows (Nat.le_refl _) hgw).drew)
        have hz2 : w2.heap.size ≤ wv.drew.heap.size := hgw.size
        have hgx : Grows wv.drew wv.drew := Grows.refl _
        refine wp_region_fri S 13 [([0, 1, 2, 3, 4, 5, 6, 7, 8], 9), ([], 10)] [11, 12] [([11, 12], 14)] [([], 14)] [] [([], [15])] (by kernel_rfl) (fun _ _ _ _ _ h => h) (by kernel_rfl) hSS ?_
        simp only [pickS, pickT, pickL, List.map_cons, List.map_nil, List.filterMap_cons, List.filterMap_nil, List.getElem?_cons_zero, List.getElem?_cons_succ]
        generalize wv.drew = wd at HWD S1 S2 S3 hz2 hgx hSi hSS ⊢
        refine wpFri_consK fun K1 hK1 K2 hK2 K hK => ?_
        repeat (show wpQuiet _ _ _ _ (_ :: _) _; go_big_quiet_step (fail))
        generalize (if ca = p then A1 else Option.map (fun x => x.add p) A1) = F1 at S1 ⊢
        generalize (if cb = o then A2 else Option.map (fun x => x.add o) A2) = F2 at S2 ⊢
        generalize (if cc = t then A3 else Option.map (fun x => x.add t) A3) = F3 at S3 ⊢
        refine wpQuiet_nil (hK _ ?_ ?_)
        ·
          clear hK K hK2 K2
          show wpList _ _ _ [_] _ _
          go_wp2_with fail
          have hgn : Grows wd (wd.alloc (.cells #[.int .i64 0, .slice none 0 0, .slice none 0 0, .slice none 0 0] 36)) := (Grows.refl _).alloc _
          have hA := Blk.new wd 36 #[.int .i64 0, .slice none 0 0, .slice none 0 0, .slice none 0 0]
          obtain ⟨g, hgq⟩ : ∃ g, g = wd.heap.size := ⟨_, rfl⟩
          have hge : wd.heap.size ≤ g := by rw [hgq]; exact hgx.size
          rw [← hgq] at hA ⊢
          clear hgq
          generalize wd.alloc (.cells #[.int .i64 0, .slice none 0 0, .slice none 0 0, .slice none 0 0] 36) = wda at hgn hA ⊢
          replace hgx := hgx.trans hgn
          clear hgn
          refine hK1.out _ _ (hSi _ hgx) ?_
          clear hK1 K1
          refine wpSeq_consK fun K2 hK2 K hK => ?_
          refine wpQuiet_nil (hK _ ?_)
          clear hK K
          show wpList _ _ _ [_] _ _
          go_wp2_with fail
          refine (between_v zb w2.heap.size F1 F2 F3 (na - p) (nb - o) (nc - t) _ _ _ _ _ _ wda HZB.out (S1.out.grows (Nat.le_trans hz2 (Nat.le_refl _)) hgx) (S2.out.grows hz2 hgx) (S3.out.grows hz2 hgx) (Nat.le_trans hz2 hgx.size) (by omega) (by omega) (by omega)).mono ?_
          rintro e wda' ⟨kk, G1, G2, G3, e1, e2, e3, rfl, hkk, o1, o2, o3, hgn⟩
          replace hA := hA.grows hgn
          replace hgx := hgx.trans hgn
          clear hgn
          go_wp2_with fail
          refine hK2.out _ _ (hSi _ hgx) ?_
          clear hK2 K2
          refine wpSeq_consK fun K2 hK2 K hK => ?_
          repeat (show wpQuiet _ _ _ _ (_ :: _) _; go_big_quiet_step (fail))
          refine wpQuiet_nil (hK _ ?_)
          clear hK K
          show wpList _ _ _ [_] _ _
          go_wp2_with fail
          refine hK2.out _ _ (hSi _ hgx) ?_
          clear hK2 K2
          refine wpSeq_consK fun K2 hK2 K hK => ?_
          repeat (show wpQuiet _ _ _ _ (_ :: _) _; go_big_quiet_step (fail))
          refine wpQuiet_nil (hK _ ?_)
          clear hK K
          show wpList _ _ _ [_] _ _
          obtain ⟨p1, p2, p3⟩ := put4 hA hgx hge (.int .i64 kk) (.slice G1 (na - p) e1) (.slice G2 (nb - o) e2) (.slice G3 (nc - t) e3)
          refine wpList_store_mid rfl _ (.tmp 18) (.tmp 155) rfl g 0 #[.int .i64 kk, .slice G1 (na - p) e1, .slice G2 (nb - o) e2, .slice G3 (nc - t) e3] rfl rfl (there4 hA) (by kernel_rfl) (by simp [Value.oneCell']) ?_
          go_wp2_with fail
          refine hK2.out _ _ (hSi _ p2) ?_
          clear hK2 K2
          refine wpSeq_nil (wpRest_K fun K hK => ?_)
          refine wpQuiet_nil (hK _ ?_)
          clear hK K
          refine wpSegs_consK fun K2 hK2 K hK => ?_
          refine wpQuiet_nil (hK _ ?_)
          clear hK K
          show wpList _ _ _ [_] _ _
          simp only [Act.put]
          go_wp2_with fail
          refine hK2.out _ _ (wpSegs_nil ?_)
          clear hK2 K2
          go_wp2_with fail
          go_meet
          exact ⟨g, kk, G1, G2, G3, e1, e2, e3, rfl, rfl, hkk, p1, p3 _ _ o1, p3 _ _ o2, p3 _ _ o3, HWD.out.trans p2⟩
        ·
          clear hK K hK1 K1
          show wpList _ _ _ [_] _ _
          go_wp2_with fail
          refine (between_v zb w2.heap.size F1 F2 F3 (na - p) (nb - o) (nc - t) _ _ _ _ _ _ wd HZB.out (S1.out.grows (Nat.le_trans hz2 (Nat.le_refl _)) hgx) (S2.out.grows hz2 hgx) (S3.out.grows hz2 hgx) (Nat.le_trans hz2 hgx.size) (by omega) (by omega) (by omega)).mono ?_
          rintro e wd' ⟨kk, G1, G2, G3, e1, e2, e3, rfl, hkk, o1, o2, o3, hgn⟩
          replace hgx := hgx.trans hgn
          clear hgn
          go_wp2_with fail
          refine hK2.out _ _ (hSi _ hgx) ?_
          clear hK2 K2
          refine wpFri_consK fun K1 hK1 K2 hK2 K hK => ?_
          repeat (show wpQuiet _ _ _ _ (_ :: _) _; go_big_quiet_step (fail))
          refine wpQuiet_nil (hK _ ?_ ?_)
          ·
            clear hK K hK2 K2
            show wpList _ _ _ [_] _ _
            go_wp2_with fail
            have hgn : Grows wd' (wd'.alloc (.cells #[.int .i64 0, .slice none 0 0, .slice none 0 0, .slice none 0 0] 36)) := (Grows.refl _).alloc _
            have hA := Blk.new wd' 36 #[.int .i64 0, .slice none 0 0, .slice none 0 0, .slice none 0 0]
            obtain ⟨g, hgq⟩ : ∃ g, g = wd'.heap.size := ⟨_, rfl⟩
            have hge : wd.heap.size ≤ g := by rw [hgq]; exact hgx.size
            rw [← hgq] at hA ⊢
            clear hgq
            generalize wd'.alloc (.cells #[.int .i64 0, .slice none 0 0, .slice none 0 0, .slice none 0 0] 36) = wd'a at hgn hA ⊢
            replace o1 := o1.grows hgn
            replace o2 := o2.grows hgn
            replace o3 := o3.grows hgn
            replace hgx := hgx.trans hgn
            clear hgn
            refine hK1.out _ _ (hSi _ hgx) ?_
            clear hK1 K1
            refine wpSeq_consK fun K2 hK2 K hK => ?_
            refine wpQuiet_nil (hK _ ?_)
            clear hK K
            show wpList _ _ _ [_] _ _
            go_wp2_with fail
            refine hK2.out _ _ (hSi _ hgx) ?_
            clear hK2 K2
            refine wpSeq_consK fun K2 hK2 K hK => ?_
            repeat (show wpQuiet _ _ _ _ (_ :: _) _; go_big_quiet_step (fail))
            refine wpQuiet_nil (hK _ ?_)
            clear hK K
            show wpList _ _ _ [_] _ _
            obtain ⟨p1, p2, p3⟩ := put4 hA hgx hge (.int .i64 kk) (.slice G1 (na - p) e1) (.slice G2 (nb - o) e2) (.slice G3 (nc - t) e3)
            refine wpList_store_mid rfl _ (.tmp 18) (.tmp 155) rfl g 0 #[.int .i64 kk, .slice G1 (na - p) e1, .slice G2 (nb - o) e2, .slice G3 (nc - t) e3] rfl rfl (there4 hA) (by kernel_rfl) (by simp [Value.oneCell']) ?_
            go_wp2_with fail
            refine hK2.out _ _ (hSi _ p2) ?_
            clear hK2 K2
            refine wpSeq_nil (wpRest_K fun K hK => ?_)
            refine wpQuiet_nil (hK _ ?_)
            clear hK K
            refine wpSegs_consK fun K2 hK2 K hK => ?_
            refine wpQuiet_nil (hK _ ?_)
            clear hK K
            show wpList _ _ _ [_] _ _
            simp only [Act.put]
            go_wp2_with fail
            refine hK2.out _ _ (wpSegs_nil ?_)
            clear hK2 K2
            go_wp2_with fail
            go_meet
            exact ⟨g, kk, G1, G2, G3, e1, e2, e3, rfl, rfl, hkk, p1, p3 _ _ o1, p3 _ _ o2, p3 _ _ o3, HWD.out.trans p2⟩
          ·
            clear hK K hK1 K1
            show wpList _ _ _ [_] _ _
            go_wp2_with fail
            refine hK2.out _ _ (hSi _ hgx) ?_
            clear hK2 K2
            refine wpFri_nilK fun K1 hK1 K hK => ?_
            repeat (show wpQuiet _ _ _ _ (_ :: _) _; go_big_quiet_step (fail))
            refine wpQuiet_nil (hK _ ?_)
            clear hK K
            show wpList _ _ _ [_] _ _
            go_wp2_with fail
            have hgn : Grows wd' (wd'.alloc (.cells #[.int .i64 0, .slice none 0 0, .slice none 0 0, .slice none 0 0] 36)) := (Grows.refl _).alloc _
            have hA := Blk.new wd' 36 #[.int .i64 0, .slice none 0 0, .slice none 0 0, .slice none 0 0]
            obtain ⟨g, hgq⟩ : ∃ g, g = wd'.heap.size := ⟨_, rfl⟩
            have hge : wd.heap.size ≤ g := by rw [hgq]; exact hgx.size
            rw [← hgq] at hA ⊢
            clear hgq
            generalize wd'.alloc (.cells #[.int .i64 0, .slice none 0 0, .slice none 0 0, .slice none 0 0] 36) = wd'a at hgn hA ⊢
            replace o1 := o1.grows hgn
            replace o2 := o2.grows hgn
            replace o3 := o3.grows hgn
            replace hgx := hgx.trans hgn
            clear hgn
            refine hK1.out _ _ (hSi _ hgx) ?_
            clear hK1 K1
            refine wpSeq_consK fun K2 hK2 K hK => ?_
            refine wpQuiet_nil (hK _ ?_)
            clear hK K
            show wpList _ _ _ [_] _ _
            obtain ⟨p1, p2, p3⟩ := put4 hA hgx hge (.int .i64 kk) (.slice G1 (na - p) e1) (.slice G2 (nb - o) e2) (.slice G3 (nc - t) e3)
            refine wpList_store_mid rfl _ (.tmp 18) (.tmp 155) rfl g 0 #[.int .i64 kk, .slice G1 (na - p) e1, .slice G2 (nb - o) e2, .slice G3 (nc - t) e3] rfl rfl (there4 hA) (by kernel_rfl) (by simp [Value.oneCell']) ?_
            go_wp2_with fail
            refine hK2.out _ _ (hSi _ p2) ?_
            clear hK2 K2
            refine wpSeq_nil (wpRest_K fun K hK => ?_)
            refine wpQuiet_nil (hK _ ?_)
            clear hK K
            refine wpSegs_consK fun K2 hK2 K hK => ?_
            refine wpQuiet_nil (hK _ ?_)
            clear hK K
            show wpList _ _ _ [_] _ _
            simp only [Act.put]
            go_wp2_with fail
            refine hK2.out _ _ (wpSegs_nil ?_)
            clear hK2 K2
            go_wp2_with fail
            go_meet
            exact ⟨g, kk, G1, G2, G3, e1, e2, e3, rfl, rfl, hkk, p1, p3 _ _ o1, p3 _ _ o2, p3 _ _ o3, HWD.out.trans p2⟩
-- R18 end
      case rest =>
        obtain ⟨g, kk, G1, G2, G3, e1, e2, e3, rfl, rfl, hkk, hB, o1, o2, o3, hgy⟩ := hcut
        have hrow2 := own_grows hrow hgy
        have hpar2 := Parts.mono (fun u ys h => h.grows hgy) hpar
        have hgb := hgw.trans hgy
        have hxb := hB.cell 0
        have hxb1 := hB.cell 1
        have hxb2 := hB.cell 2
        have hxb3 := hB.cell 3
        simp only [List.getElem?_toArray, List.getElem?_cons_succ, List.getElem?_cons_zero] at hxb hxb1 hxb2 hxb3
        obtain ⟨wb, hwb⟩ : ∃ wb, wb = wc := ⟨_, rfl⟩
        subst hwb
        clear hrow hpar hgy hgw
        cases zb with
        | true =>
          have hz : ¬ (na - p + (nb - o) + (nc - t) = 0) := of_decide_eq_true HZB.out
          have HPC := Lib.hid (pieceC_yes V1.out V2.out V3.out hz)
          rw [← hkk hz] at HPC
          clear hz hkk
          have hgn := (Grows.refl wb).alloc (.cells #[.int .i64 kk, .slice G1 (na - p) e1, .slice G2 (nb - o) e2, .slice G3 (nc - t) e3] 36)
          have hnews := cell_four_new wb (.int .i64 kk) (.slice G1 (na - p) e1) (.slice G2 (nb - o) e2) (.slice G3 (nc - t) e3) 36
          have hrow3 := own_grows hrow2 hgn
          have hpar3 := Parts.mono (fun u ys h => h.grows hgn) hpar2
          have r1 := o1.grows hgn
          have r2 := o2.grows hgn
          have r3 := o3.grows hgn
          have hgc := hgb.trans hgn
          clear hgn hrow2 hpar2 o1 o2 o3
          go_wp2_with (at_builtin; refine wpList_append_own _ rfl (.tmp 158) (.tmp 160) _ rfl w2.heap.size 36 t1 _ 4 80 Tryd.underlying30 hj0 hy0 hy1 hy2 rfl (by decide) _ out.length xr rfl hrow3 ⟨_, 0, none⟩ 1 1 [.int .i64 kk, .slice G1 (na - p) e1, .slice G2 (nb - o) e2, .slice G3 (nc - t) e3] rfl rfl hnews (by intro u hu; simp at hu; rcases hu with rfl | rfl | rfl | rfl <;> rfl) (by simp only [maxLen]; omega) (by omega) hgc.size ?_; intro v' w7 hrow7 hgb7 _; have hP7 : Parts w7 (out ++ [(kk, seg a p na, seg b o nb, seg c t nc)]) (xr ++ [.int .i64 kk, .slice G1 (na - p) e1, .slice G2 (nb - o) e2, .slice G3 (nc - t) e3]) := Parts.app (Parts.mono (fun u ys h => h.beside hrow3 (by decide) hgb7) hpar3) (Parts.one (r1.beside hrow3 (by decide) hgb7) (r2.beside hrow3 (by decide) hgb7) (r3.beside hrow3 (by decide) hgb7)); have hgd : Grows w2 w7 := Below.grown hgc hgb7 hgc.size (fun k hk => (hrow3.lt k hk).1); obtain ⟨A9, c9, rfl, hc9, hc9M⟩ := own_form hrow7)
          go_ret
          refine ⟨A9, _, c9, rfl, ?_, hg.trans hgd, hc9, hc9M⟩
          have := chunksN_of hrow7 hP7 (by rw [List.length_append]; rfl)
          rw [← HPC.out, HE1.out] at this
          exact this
        | false =>
          have hz : na - p + (nb - o) + (nc - t) = 0 := Decidable.of_not_not (of_decide_eq_false HZB.out)
          have HPC := Lib.hid (pieceC_no V1.out V2.out V3.out hz)
          clear hz hkk
          obtain ⟨A9, c9, rfl, hc9, hc9M⟩ := own_form hrow2
          go_wp2_with fail
          go_ret
          refine ⟨A9, _, c9, rfl, ?_, hg.trans hgb, hc9, hc9M⟩
          have := chunksN_of hrow2 hpar2 rfl
          have h2 := HE1.out
          rw [HPC.out, List.append_nil] at h2
          rw [← h2]
          exact this

end Go.Proofs.YtakgddochbcjbaaDoor
