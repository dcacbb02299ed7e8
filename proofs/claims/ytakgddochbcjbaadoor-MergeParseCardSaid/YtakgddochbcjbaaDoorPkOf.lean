/- chunk.Of: three texts, piece by piece. -/
import Derived.Test.YtakgddochbcjbaaDoorPkOfMath
namespace Go.Proofs.YtakgddochbcjbaaDoor
open Go.RowKit Go.Deep Go.MapKept

theorem pieceC_len (x y z : List ByteArray) : (pieceC x y z).length ≤ 1 := by
  unfold pieceC
  split <;> simp
theorem at3_lt {a b : List ByteArray} {i x : Nat} (h : at3 a b i = x) : x < b.length := by
  obtain ⟨z, _, h2⟩ := at3_same h
  exact (List.getElem?_eq_some_iff.1 h2).1
/-- what Of's maps and closures rest on -/
structure OfW (w w' : World) (ga gb ma mb fm n : Nat) (f : Int × Int → Option Int) (a b c : List ByteArray) : Prop where
  ba : Blk w' ga 112 #[.map (some ma)]
  bb : Blk w' gb 112 #[.map (some mb)]
  ia : MapI w' ma 1000 (keptF a b)
  ib : MapI w' mb 1000 (keptF a c)
  ip : MapP w' fm n f
  base : w.heap.size ≤ fm
  ne1 : ga ≠ fm
  ne2 : gb ≠ fm
  ne3 : ma ≠ fm
  ne4 : mb ≠ fm
section
variable {w w' w'' : World} {ga gb ma mb fm n B : Nat} {f : Int × Int → Option Int} {a b c : List ByteArray}
theorem OfW.grows (h : OfW w w' ga gb ma mb fm n f a b c) (hg : Grows w' w'') : OfW w w'' ga gb ma mb fm n f a b c :=
  ⟨h.ba.grows hg, h.bb.grows hg, h.ia.grows hg, h.ib.grows hg, h.ip.grows hg, h.base, h.ne1, h.ne2, h.ne3, h.ne4⟩
theorem OfW.turn (h : OfW w w' ga gb ma mb fm n f a b c) (ht : Turn B w' w'') : OfW w w'' ga gb ma mb fm n f a b c :=
  ⟨ht.blk h.ba (by decide) (by decide), ht.blk h.bb (by decide) (by decide), ht.map h.ia, ht.map h.ib, ht.map h.ip, h.base, h.ne1, h.ne2, h.ne3, h.ne4⟩
theorem OfW.put {m : Nat} {g : Int × Int → Option Int} (h : OfW w w' ga gb ma mb fm n f a b c) (hm : MapP w'' fm m g) (hg : w'.grownBy w'' (some fm)) : OfW w w'' ga gb ma mb fm m g a b c :=
  ⟨h.ba.grown hg (fun e => h.ne1 (Option.some.inj e)), h.bb.grown hg (fun e => h.ne2 (Option.some.inj e)), h.ia.kept hg (fun e => h.ne3 (Option.some.inj e)), h.ib.kept hg (fun e => h.ne4 (Option.some.inj e)), hm, h.base, h.ne1, h.ne2, h.ne3, h.ne4⟩
theorem OfW.mono {m : Nat} (h : OfW w w' ga gb ma mb fm n f a b c) (hm : n ≤ m) : OfW w w' ga gb ma mb fm m f a b c :=
  ⟨h.ba, h.bb, h.ia, h.ib, h.ip.mono hm, h.base, h.ne1, h.ne2, h.ne3, h.ne4⟩
theorem OfW.yes (h : OfW w w' ga gb ma mb fm n f a b c) {i x y : Nat} (hi : i ≤ 1000) (hx : at3 a b i = x) (hy : at3 a c i = y) :
    Calls Tryd.prog 78 #[.int .i64 i, .pointer (some ⟨ga, 0, none⟩), .pointer (some ⟨gb, 0, none⟩)] w' fun e w'' => e = .returned (.tuple #[.agg #[.int .i64 x, .int .i64 y], .bool true]) ∧ Grows w' w'' :=
  stands_any ga gb ma mb 1000 (keptF a b) (keptF a c) i w' h.ba h.bb h.ia h.ib ⟨by omega, by omega⟩ x y true true (keptF_yes a b hx).1 (keptF_yes a c hy).1 (keptF_yes a b hx).2 (keptF_yes a c hy).2
theorem OfW.no (h : OfW w w' ga gb ma mb fm n f a b c) {i : Nat} (hi : i ≤ 1000) (hn : at3 a b i < 0 ∨ at3 a c i < 0) :
    Calls Tryd.prog 78 #[.int .i64 i, .pointer (some ⟨ga, 0, none⟩), .pointer (some ⟨gb, 0, none⟩)] w' fun e w'' => (∃ x y : Int, e = .returned (.tuple #[.agg #[.int .i64 x, .int .i64 y], .bool false])) ∧ Grows w' w'' := by
  refine (stands_any ga gb ma mb 1000 (keptF a b) (keptF a c) i w' h.ba h.bb h.ia h.ib ⟨by omega, by omega⟩ ((keptF a b i).getD 0) ((keptF a c i).getD 0) (keptF a b i).isSome (keptF a c i).isSome rfl rfl rfl rfl).mono ?_
  rintro e w1 ⟨rfl, hg⟩
  refine ⟨⟨(keptF a b i).getD 0, (keptF a c i).getD 0, ?_⟩, hg⟩
  rcases hn with hn | hn
  · rw [(keptF_no a b hn).2]; rfl
  · rw [(keptF_no a c hn).2, Bool.and_false]
end

set_option maxRecDepth 100000 in
set_option maxHeartbeats 4000000 in
theorem of_any (Ba Bb Bc na nb nc ca cb cc : Nat) (A1 A2 A3 : Option Addr) (a b c : List ByteArray) (w : World)
    (ha : Reads w Ba 1 A1 na (strs a)) (hb : Reads w Bb 1 A2 nb (strs b)) (hc : Reads w Bc 1 A3 nc (strs c)) (hBa : Ba ≤ w.heap.size) (hBb : Bb ≤ w.heap.size) (hBc : Bc ≤ w.heap.size)
    (hna : na ≤ 450) (hnb : nb ≤ 450) (hnc : nc ≤ 450) (hca : na ≤ ca) (hcb : nb ≤ cb) (hcc : nc ≤ cc) (hcaM : ca ≤ maxLen) (hcbM : cb ≤ maxLen) (hccM : cc ≤ maxLen) :
    Calls Tryd.prog 40 #[.slice A1 na ca, .slice A2 nb cb, .slice A3 nc cc] w fun e w' => ∃ A n q, e = .returned (.slice A n q) ∧ ChunksN w' w'.heap.size A n (chunks a b c) ∧ Grows w w' ∧ n ≤ q ∧ q ≤ maxLen := by
  have HL1 := Lib.hid ha.strLen
  have HL2 := Lib.hid hb.strLen
  have HL3 := Lib.hid hc.strLen
  have R1 := Lib.hid ha
  have R2 := Lib.hid hb
  have R3 := Lib.hid hc
  clear ha hb hc
  have hmm := @run_makeMap Tryd.prog
  go_enter Tryd.func40, Tryd.ntmps40
  go_wp2_with fail
  refine (kept_any Ba Bb A1 A2 na nb ca cb a b w R1.out R2.out hBa hBb hna hnb hca hcb hcaM hcbM).mono ?_
  rintro e w1 ⟨rfl, hm1, hg1⟩
  go_wp2_with fail
  refine (kept_any Ba Bc A1 A3 na nc ca cc a c w1 (R1.out.grows hBa hg1) (R3.out.grows hBc hg1) (Nat.le_trans hBa hg1.size) (Nat.le_trans hBc hg1.size) hna hnc hca hcc hcaM hccM).mono ?_
  rintro e w2 ⟨rfl, hm2, hg2⟩
  go_upto_region 4 with fail
  have hz1 := hg1.size
  have hz2 := hg2.size
  have hlt1 := hm1.lt
  have hlt2 := hm2.lt
  have hOf : OfW w (((w2.alloc (.cells #[.map (some w.heap.size)] 112)).alloc (.cells #[.map (some w1.heap.size)] 112)).alloc (.map #[] 0)) w2.heap.size (w2.heap.size + 1) w.heap.size w1.heap.size (w2.heap.size + 1 + 1) 0 (firmF a b c 0) a b c := by
    have e1 : (w2.alloc (.cells #[.map (some w.heap.size)] 112)).heap.size = w2.heap.size + 1 := by simp
    have e2 : ((w2.alloc (.cells #[.map (some w.heap.size)] 112)).alloc (.cells #[.map (some w1.heap.size)] 112)).heap.size = w2.heap.size + 1 + 1 := by simp
    have b2 := Blk.new (w2.alloc (.cells #[.map (some w.heap.size)] 112)) 112 #[.map (some w1.heap.size)]
    rw [e1] at b2
    have b3 := MapFn.made (k := 116) (kl := plKey) (ok := fun q : Int × Int => ok64 q.1 ∧ ok64 q.2) ((w2.alloc (.cells #[.map (some w.heap.size)] 112)).alloc (.cells #[.map (some w1.heap.size)] 112))
    rw [e2] at b3
    exact ⟨((Blk.new w2 _ _).alloc _).alloc _, b2.alloc _, (((hm1.grows hg2).alloc _).alloc _).alloc _, ((hm2.alloc _).alloc _).alloc _, b3, by omega, by omega, by omega, by omega, by omega⟩
  have hgr : Grows w (((w2.alloc (.cells #[.map (some w.heap.size)] 112)).alloc (.cells #[.map (some w1.heap.size)] 112)).alloc (.map #[] 0)) := (((hg1.trans hg2).alloc _).alloc _).alloc _
  clear hm1 hm2 hg1 hg2
  generalize (((w2.alloc (.cells #[.map (some w.heap.size)] 112)).alloc (.cells #[.map (some w1.heap.size)] 112)).alloc (.map #[] 0)) = w3 at hOf hgr ⊢
  obtain ⟨ga, hga⟩ : ∃ ga, ga = w2.heap.size := ⟨_, rfl⟩
  obtain ⟨ma, hma⟩ : ∃ ma, ma = w.heap.size := ⟨_, rfl⟩
  obtain ⟨mb, hmb⟩ : ∃ mb, mb = w1.heap.size := ⟨_, rfl⟩
  obtain ⟨gb, hgb⟩ : ∃ gb, gb = w2.heap.size + 1 := ⟨_, rfl⟩
  obtain ⟨fm, hfm⟩ : ∃ fm, fm = w2.heap.size + 1 + 1 := ⟨_, rfl⟩
  rw [← hfm, ← hgb, ← hga, ← hma, ← hmb] at hOf
  rw [← hfm, ← hgb, ← hga, ← hma, ← hmb]
  clear hfm hgb hga hmb hz1 hz2 hlt1 hlt2 hma
  clear w1 w2
  go_wp2_with fail
  go_loopg [31] na (fun gk q wr => ∃ k : Nat, q = .int .i64 k ∧ k ≤ na ∧ gk = na - k ∧ OfW w wr ga gb ma mb fm k (firmF a b c k) a b c ∧ Grows w wr)
  case atStart => exact ⟨0, rfl, by omega, rfl, hOf, hgr⟩
  case round =>
    clear hOf hgr
    obtain ⟨k, rfl, hk, hgk, hOf, hgr⟩ := hrel
    have HG := Lib.hid hgk; clear hgk
    by_cases hlt : k < na
    · have k0 : (0 : Int) ≤ k := by omega
      have k1 : (k : Int) < na := by omega
      have k2 : (k : Int) ≤ 450 := by omega
      have HO := Lib.hid hOf
      clear hOf
      by_cases hst : at3 a b k < 0 ∨ at3 a c k < 0
      · have HF := Lib.hid (show firmF a b c (k + 1) = firmF a b c k by rw [firmF, if_pos hst])
        have HN := Lib.hid hst
        clear hst
        go_wp2_with fail
        refine (HO.out.no (by omega) HN.out).mono ?_
        rintro e w5 ⟨⟨x, y, rfl⟩, hg5⟩
        go_wp2_with fail
        go_roundg (na - (k + 1))
        case measure => rw [HG.out]; omega
        case rel => exact ⟨k + 1, by go_num, by omega, rfl, by rw [HF.out]; exact ((HO.out.grows hg5).grows ((Grows.refl _).alloc _)).mono (Nat.le_succ _), (hgr.trans hg5).alloc _⟩
      · obtain ⟨x, hx⟩ : ∃ x : Nat, at3 a b k = x := ⟨(at3 a b k).toNat, by omega⟩
        obtain ⟨y, hy⟩ : ∃ y : Nat, at3 a c k = y := ⟨(at3 a c k).toNat, by omega⟩
        have HF := Lib.hid (show firmF a b c (k + 1) = putF (firmF a b c k) ((x : Int), (y : Int)) k by rw [firmF, if_neg hst, hx, hy])
        have x1 : (x : Int) ≤ 450 := by have := at3_lt hx; rw [HL2.out] at this; omega
        have y1 : (y : Int) ≤ 450 := by have := at3_lt hy; rw [HL3.out] at this; omega
        have HX := Lib.hid hx
        have HY := Lib.hid hy
        clear hst hx hy
        go_wp2_with fail
        refine (HO.out.yes (by omega) HX.out HY.out).mono ?_
        rintro e w5 ⟨rfl, hg5⟩
        have hg6 := (Grows.refl w5).alloc (.cells #[.int .i64 x, .int .i64 y] 116)
        have hO6 := (HO.out.grows hg5).grows hg6
        have hgr6 := (hgr.trans hg5).trans hg6
        clear hgr hg5 hg6
        go_wp2_with (at_mapUpdate; refine wpList_putP rfl _ _ _ rfl fm k (firmF a b c k) rfl hO6.ip (by unfold maxLen; omega) _ _ _ rfl rfl ⟨by omega, by omega⟩ ⟨by omega, by omega⟩ ⟨by omega, by omega⟩ ?_; intro w7 hm7 hb7; have hO7 := hO6.put hm7 hb7; have hgr7 : Grows w w7 := Below.grown hgr6 hb7 hgr6.size (fun k hk => by cases hk; exact hO6.base))
        go_roundg (na - (k + 1))
        case measure => rw [HG.out]; omega
        case rel => exact ⟨k + 1, by go_num, by omega, rfl, by rw [HF.out]; exact hO7, hgr7⟩
    · have hkn : k = na := by omega
      clear hlt HG
      rw [hkn] at hOf ⊢
      clear hkn
      go_wp2_with fail
      have hX0 : TX (wr.alloc (.cells #[.slice A1 na ca, .slice A2 nb cb, .slice A3 nc cc, .int .i64 0, .int .i64 0, .int .i64 0, .slice none 0 0] 121)) w.heap.size wr.heap.size (.slice A1 na ca) (.slice A2 nb cb) (.slice A3 nc cc) 0 0 0 (.slice none 0 0) [] :=
        ⟨hgr.size, Blk.new wr _ _, [], World.ownsRow_nil _ _ _ _, rfl⟩
      have hg6 : Grows wr (wr.alloc (.cells #[.slice A1 na ca, .slice A2 nb cb, .slice A3 nc cc, .int .i64 0, .int .i64 0, .int .i64 0, .slice none 0 0] 121)) := (Grows.refl wr).alloc _
      have hO6 := hOf.grows hg6
      have hgr6 := hgr.trans hg6
      clear hOf hgr hg6
      generalize wr.alloc (.cells #[.slice A1 na ca, .slice A2 nb cb, .slice A3 nc cc, .int .i64 0, .int .i64 0, .int .i64 0, .slice none 0 0] 121) = w6 at hX0 hO6 hgr6 ⊢
      obtain ⟨T, hT⟩ : ∃ T, T = wr.heap.size := ⟨_, rfl⟩
      rw [← hT] at hX0
      rw [← hT]
      clear hT
      clear hk
      go_loopg [15] na (fun gk q wr => ∃ (i p o t : Nat) (v : Value) (out : List ChkB), q = .int .i64 i ∧ gk = na - i ∧ AtC a b c i p o t ∧ out ++ chGo a b c i p o t = chunks a b c ∧ out.length ≤ 2 * i ∧ TX wr w.heap.size T (.slice A1 na ca) (.slice A2 nb cb) (.slice A3 nc cc) p o t v out ∧ OfW w wr ga gb ma mb fm na (firmF a b c na) a b c ∧ Grows w wr)
      case atStart => exact ⟨0, 0, 0, 0, _, [], rfl, rfl, AtC.start a b c, rfl, Nat.zero_le _, hX0, hO6, hgr6⟩
      case round =>
        clear hX0 hO6 hgr6
        obtain ⟨i, p, o, t, v, out, rfl, hgk, hat, hch, hol, hX, hOf, hgr⟩ := hrel
        have HG := Lib.hid hgk
        have HAT := Lib.hid hat
        have HCH := Lib.hid hch
        have HO := Lib.hid hOf
        have hin : i ≤ na := by have := hat.top; rw [HL1.out] at this; exact this
        have hpi := hat.le
        clear hgk hat hch hOf
        have i0 : (0 : Int) ≤ i := by omega
        have i4 : (i : Int) ≤ 450 := by omega
        by_cases hlt : i < na
        · have i1 : (i : Int) < na := by omega
          have hia : i < a.length := by rw [HL1.out]; exact hlt
          by_cases hst : at3 a b i < 0 ∨ at3 a c i < 0
          · have HC2 := Lib.hid (show out ++ chGo a b c (i + 1) p o t = chunks a b c by rw [← HCH.out]; conv => rhs; rw [chGo, if_pos hia, if_pos hst])
            have HA2 := Lib.hid (HAT.out.skip hia hst)
            have HN := Lib.hid hst
            clear hst
            go_wp2_with fail
            refine (HO.out.no (by omega) HN.out).mono ?_
            rintro e w5 ⟨⟨x, y, rfl⟩, hg5⟩
            go_wp2_with fail
            go_roundg (na - (i + 1))
            case measure => rw [HG.out]; omega
            case rel => exact ⟨i + 1, p, o, t, v, out, by go_num, rfl, HA2.out, HC2.out, by omega, (hX.grows hg5).grows ((Grows.refl _).alloc _), (HO.out.grows hg5).grows ((Grows.refl _).alloc _), (hgr.trans hg5).alloc _⟩
          · obtain ⟨x, hx⟩ : ∃ x : Nat, at3 a b i = x := ⟨(at3 a b i).toNat, by omega⟩
            obtain ⟨y, hy⟩ : ∃ y : Nat, at3 a c i = y := ⟨(at3 a c i).toNat, by omega⟩
            obtain ⟨n, hn⟩ : ∃ n, n = runN a b c i := ⟨_, rfl⟩
            have hbe := HAT.out.before hx hy
            have htop := run_top hia hx hy
            have hx4 := at3_lt hx
            have hy4 := at3_lt hy
            have hn1 := runN_pos a b c i
            rw [← hn] at htop hn1
            rw [HL1.out, HL2.out, HL3.out] at htop
            rw [HL2.out] at hx4
            rw [HL3.out] at hy4
            have HC2 := Lib.hid (show out ++ (pieceC (seg a p i) (seg b o x) (seg c t y) ++ [(1, seg a i (i + n), seg a i (i + n), seg a i (i + n))]) ++ chGo a b c (i + n) (i + n) (x + n) (y + n) = chunks a b c by
              rw [← HCH.out]
              conv => rhs; rw [chGo, if_pos hia, if_neg hst, hx, hy, Int.toNat_natCast, Int.toNat_natCast, ← hn]
              simp)
            have HA2 := Lib.hid (show AtC a b c (i + n) (i + n) (x + n) (y + n) by rw [hn]; exact AtC.next hia hx hy)
            have HON := Lib.hid (fun m (hm : m < n) => firm_on a b c hia hx hy (n := m) (by rw [← hn]; exact hm))
            have HOFF := Lib.hid (firm_off a b c hx hy)
            rw [← hn] at HOFF
            rw [HL1.out] at HON HOFF
            have HX := Lib.hid hx
            have HY := Lib.hid hy
            clear hst hx hy hn
            go_wp2_with fail
            refine (HO.out.yes (by omega) HX.out HY.out).mono ?_
            rintro e w5 ⟨rfl, hg5⟩
            have hg6 := (Grows.refl w5).alloc (.cells #[.int .i64 x, .int .i64 y] 116)
            have hbx := Blk.new w5 116 #[.int .i64 x, .int .i64 y]
            have hX6 := (hX.grows hg5).grows hg6
            have hO6 := (HO.out.grows hg5).grows hg6
            have hgr6 := (hgr.trans hg5).trans hg6
            clear hX hgr hg5 hg6 HO
            go_wp2_with fail
            refine (to_any w.heap.size Ba Bb Bc T na nb nc ca cb cc p o t i x y A1 A2 A3 a b c v out _ hX6 (R1.out.below (Below.mono hgr6 hBa)) (R2.out.below (Below.mono hgr6 hBb)) (R3.out.below (Below.mono hgr6 hBc)) hBa hBb hBc hgr6.size hpi (by omega) hbe.1 (by omega) hbe.2 (by omega) hna hnb hnc hca hcb hcc hcaM hcbM hccM (by omega)).mono ?_
            rintro e w7 ⟨⟨u7, rfl⟩, ⟨v7, hX7⟩, hT7⟩
            have hpl := pieceC_len (seg a p i) (seg b o x) (seg c t y)
            have hb7 := hT7.blk hbx (by decide) (by decide)
            have HO7 := Lib.hid (hO6.turn hT7)
            have HX7 := Lib.hid hX7
            have HG7 := Lib.hid (show Grows w w7 from Below.trans hgr6 hT7.below)
            have HOL := Lib.hid (show (out ++ pieceC (seg a p i) (seg b o x) (seg c t y)).length ≤ 1000 by rw [List.length_append]; omega)
            have HOL2 := Lib.hid (show (out ++ pieceC (seg a p i) (seg b o x) (seg c t y)).length ≤ 2 * i + 1 by rw [List.length_append]; omega)
            have hc0 := hb7.cell 0
            have hc1 := hb7.cell 1
            simp only [List.getElem?_toArray, List.getElem?_cons_succ, List.getElem?_cons_zero] at hc0 hc1
            have x0 : (0 : Int) ≤ x := by omega
            have x4 : (x : Int) + n ≤ 450 := by omega
            have y0 : (0 : Int) ≤ y := by omega
            have y4 : (y : Int) + n ≤ 450 := by omega
            have n4 : (i : Int) + n ≤ 450 := by omega
            clear hX6 hO6 hgr6 hX7 hT7 hbx hb7 hpl
            go_wp2_with fail
            go_loopg [18] (n - 1) (fun gk q wr => w7 = wr ∧ ∃ m : Nat, q = .int .i64 m ∧ 1 ≤ m ∧ m ≤ n ∧ gk = n - m)
            case atStart => exact ⟨rfl, 1, rfl, Nat.le_refl _, hn1, rfl⟩
            case round =>
              obtain ⟨rfl, m, rfl, hm1, hm2, hgm⟩ := hrel
              have HGM := Lib.hid hgm
              clear hgm
              have m0 : (1 : Int) ≤ m := by omega
              have m2 : (m : Int) ≤ n := by omega
              by_cases hmn : m < n
              · obtain ⟨hf1, hf2⟩ := HON.out m hmn
                have F1 := Lib.hid hf1
                have F2 := Lib.hid hf2
                clear hf1 hf2
                go_wp2_with (at_lookup; refine wpList_lookP rfl _ _ rfl fm na (firmF a b c na) rfl HO7.out.ip _ _ rfl ⟨by omega, by omega⟩ ⟨by omega, by omega⟩ _ true F1.out F2.out ?_)
                go_roundg (n - (m + 1))
                case measure => rw [HGM.out]; omega
                case rel => exact ⟨rfl, m + 1, by go_num, by omega, by omega, rfl⟩
              · have hme : m = n := by omega
                subst hme
                clear hmn hm1 hm2 m2
                rcases HOFF.out with hf | ⟨hf1, hf2⟩
                · obtain ⟨cv, hcv⟩ : ∃ cv, cv = (firmF a b c na ((x : Int) + m, (y : Int) + m)).getD 0 := ⟨_, rfl⟩
                  have F1 := Lib.hid hcv
                  have F2 := Lib.hid hf
                  clear hcv hf
                  go_wp2_with (at_lookup; refine wpList_lookP rfl _ _ rfl fm na (firmF a b c na) rfl HO7.out.ip _ _ rfl ⟨by omega, by omega⟩ ⟨by omega, by omega⟩ _ false F1.out.symm F2.out ?_)
                  go_wp2_with fail
                  refine (firm_any w.heap.size Ba T na ca i x y m A1 a (.slice A2 nb cb) (.slice A3 nc cc) v7 _ w7 HX7.out (R1.out.below (Below.mono (HG7.out) hBa)) hBa HG7.out.size (by omega) hna hca hcaM (by omega) (by omega) HOL.out).mono ?_
                  rintro e w8 ⟨⟨u8, rfl⟩, ⟨v8, hX8⟩, hT8⟩
                  go_wp2_with fail
                  go_roundg (na - (i + m))
                  case measure => rw [HG.out]; omega
                  case rel => exact ⟨i + m, i + m, x + m, y + m, v8, _, by go_num, rfl, HA2.out, by rw [List.append_assoc out]; exact HC2.out, by rw [List.length_append]; have := HOL2.out; simp only [List.length_cons, List.length_nil]; omega, hX8, HO7.out.turn hT8, Below.trans HG7.out hT8.below⟩
                · obtain ⟨cv, hcv⟩ : ∃ cv, cv = (firmF a b c na ((x : Int) + m, (y : Int) + m)).getD 0 := ⟨_, rfl⟩
                  rw [← hcv] at hf2
                  have hne : (cv != (i : Int) + m) = true := by simpa using hf2
                  have F1 := Lib.hid hcv
                  have F2 := Lib.hid hf1
                  clear hcv hf1 hf2
                  go_wp2_with (at_lookup; refine wpList_lookP rfl _ _ rfl fm na (firmF a b c na) rfl HO7.out.ip _ _ rfl ⟨by omega, by omega⟩ ⟨by omega, by omega⟩ _ true F1.out.symm F2.out ?_)
                  go_wp2_with fail
                  refine (firm_any w.heap.size Ba T na ca i x y m A1 a (.slice A2 nb cb) (.slice A3 nc cc) v7 _ w7 HX7.out (R1.out.below (Below.mono (HG7.out) hBa)) hBa HG7.out.size (by omega) hna hca hcaM (by omega) (by omega) HOL.out).mono ?_
                  rintro e w8 ⟨⟨u8, rfl⟩, ⟨v8, hX8⟩, hT8⟩
                  go_wp2_with fail
                  go_roundg (na - (i + m))
                  case measure => rw [HG.out]; omega
                  case rel => exact ⟨i + m, i + m, x + m, y + m, v8, _, by go_num, rfl, HA2.out, by rw [List.append_assoc out]; exact HC2.out, by rw [List.length_append]; have := HOL2.out; simp only [List.length_cons, List.length_nil]; omega, hX8, HO7.out.turn hT8, Below.trans HG7.out hT8.below⟩
        · have hie : i = na := by omega
          have HE1 := Lib.hid (show out ++ pieceC (seg a p na) (seg b o nb) (seg c t nc) = chunks a b c by
            rw [← HCH.out, chGo, if_neg (by rw [HL1.out]; omega)]
            congr 2
            · rw [← HL1.out, seg_end]
            · rw [← HL2.out, seg_end]
            · rw [← HL3.out, seg_end])
          have hle2 := cut_le HAT.out.ours.choose_spec
          have hle3 := cut_le HAT.out.theirs.choose_spec
          rw [HL2.out] at hle2
          rw [HL3.out] at hle3
          rw [hie] at hpi ⊢
          clear hlt
          go_wp2_with fail
          refine (to_any w.heap.size Ba Bb Bc T na nb nc ca cb cc p o t na nb nc A1 A2 A3 a b c v out _ hX (R1.out.below (Below.mono hgr hBa)) (R2.out.below (Below.mono hgr hBb)) (R3.out.below (Below.mono hgr hBc)) hBa hBb hBc hgr.size hpi (Nat.le_refl _) hle2.2 (Nat.le_refl _) hle3.2 (Nat.le_refl _) hna hnb hnc hca hcb hcc hcaM hcbM hccM (by omega)).mono ?_
          rintro e w7 ⟨⟨u7, rfl⟩, ⟨v7, hX7⟩, hT7⟩
          rw [HE1.out] at hX7
          obtain ⟨xr, hrow, hpar⟩ := hX7.row
          obtain ⟨A9, c9, rfl, hc9, hc9M⟩ := own_form hrow
          have hc6 := hX7.blk.cell 6
          simp only [List.getElem?_toArray, List.getElem?_cons_succ, List.getElem?_cons_zero] at hc6
          have HCN := Lib.hid (chunksN_of hrow hpar rfl)
          have hgr7 : Grows w w7 := Below.trans hgr hT7.below
          clear hX hX7 hrow hpar
          go_wp2_with fail
          go_ret
          exact ⟨A9, _, c9, rfl, HCN.out, hgr7, hc9, hc9M⟩

end Go.Proofs.YtakgddochbcjbaaDoor
