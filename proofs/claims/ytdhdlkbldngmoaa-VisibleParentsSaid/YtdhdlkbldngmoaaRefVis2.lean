/- The walks of the document's answer for what is visible (rickref18): Seen, Heads. -/
import Derived.Test.YtdhdlkbldngmoaaRefVis
import Derived.Test.YtdhdlkbldngmoaaVisLaws
import Derived.Test.YtdhdlkbldngmoaaGraphTells
namespace Go.Proofs.Ytdhdlkbldngmoaa
open Go.RowKit Go.Deep

theorem liveL_len (xs olds : List Int) : (liveL xs olds).length ≤ xs.length := by
  unfold liveL
  split
  · exact selTo_len _ _
  · simp

set_option maxHeartbeats 4000000 in
theorem rseen_any (B B' B2 : Nat) (A A' A2 : Option Addr) (N n c c' m c2 : Nat) (xs olds keep : List Int) (w : World) (hx : Reads w B 1 A N (ints xs)) (h : Marks w B' A' n olds) (hk : Reads w B2 1 A2 m (ints keep)) (hB : B ≤ w.heap.size) (hB' : B' ≤ w.heap.size) (hB2 : B2 ≤ w.heap.size) (hN : N ≤ 1000000) (hn : n ≤ maxLen) (hm : m ≤ 1000000) :
    Calls Try.prog 34 #[.slice A N c, .slice A' n c', .slice A2 m c2] w fun e w' => ∃ v, e = .returned v ∧ w'.ownsRow w.heap.size 3 1 v (seenL xs olds keep).length (ints (seenL xs olds keep)) ∧ Grows w w' := by
  have HL := Lib.hid hx.intLen
  have HKL := Lib.hid hk.intLen
  have HX := Lib.hid hx; clear hx
  have HK := Lib.hid hk; clear hk
  have H := Lib.hid h; clear h
  obtain ⟨t0, hi0, hz0, hz1, hz2⟩ := info_parts Try.infoInt
  have hll := liveL_len xs olds
  rw [HL.out] at hll
  go_enter Try.func34, Try.ntmps34
  go_wp2_with fail
  refine (rlive_any _ _ _ _ _ _ _ _ _ olds _ HX.out H.out hB hB' (by omega) hn).mono ?_
  rintro e w1 ⟨v1, rfl, hown1, hg1⟩
  obtain ⟨A1, c1, rfl, hnc1, _⟩ := own_form hown1
  have hk1 := Lib.hid (HK.out.grows hB2 hg1)
  obtain ⟨LL, hLL⟩ : ∃ LL, LL = liveL xs olds := ⟨_, rfl⟩
  have HLL := Lib.hid hLL
  rw [← hLL] at hown1 hll ⊢
  clear hLL
  have hz1g := hg1.size
  go_wp2_with (at_builtin; refine wpList_append_any _ rfl (.tmp 14) (.tmp 15) _ rfl w.heap.size 3 t0 _ 1 8 Try.underlying23 hi0 hz0 hz1 hz2 rfl (by decide) (.slice A1 LL.length c1) LL.length (ints LL) rfl hown1 B2 A2 m c2 (ints keep) rfl hk1.out (ints_oneCell _) (by simp only [maxLen]; omega) (by omega) hz1g ?_; intro v2 w2 hown2 hgb2 _; have hg2 : Grows w w2 := Below.grown hg1 hgb2 hz1g (fun k hk => (hown1.lt k hk).1); obtain ⟨A3, c3, hv3, hnc3, _⟩ := own_form hown2; subst hv3; have hR2 := Lib.hid (Reads.of_own hown2); clear hgb2 hown2)
  have HS0 := Lib.hid (show LL.length + m = (LL ++ keep).length by rw [List.length_append, HKL.out])
  have HSR := hR2.out
  rw [← ints_append] at HSR
  obtain ⟨S, hS⟩ : ∃ S, S = LL ++ keep := ⟨_, rfl⟩
  have HSE := Lib.hid hS
  have hSm : (LL ++ keep).length ≤ 2000000 := by rw [← HS0.out]; omega
  obtain ⟨M, hM⟩ : ∃ M, M = LL.length + m := ⟨_, rfl⟩
  rw [← hS, ← hM] at HSR
  rw [← hM]
  have HM := Lib.hid (show S.length = M by rw [hS, hM, HS0.out])
  have hMb : M ≤ 2000000 := by rw [hM, HS0.out]; exact hSm
  have HR := Lib.hid HSR
  clear hS hM HSR hSm hown1 hR2 hk1
  have HX2 := Lib.hid (HX.out.grows hB hg2)
  have hzw2 := hg2.size
  have hzB : B ≤ w2.heap.size := by omega
  go_wp2_with fail
  go_loopg [9, 7] M (fun gk q v wr => ∃ i : Nat, q = .int .i64 i ∧ i ≤ M ∧ gk = M - i ∧ wr.ownsRow w2.heap.size 3 1 v (selTo (fun j => anyTo (fun t => above xs j (gi S t)) i) N).length (ints (selTo (fun j => anyTo (fun t => above xs j (gi S t)) i) N)) ∧ Grows w2 wr)
  case atStart => exact ⟨0, rfl, by omega, by omega, by rw [selTo_none (p := fun j : Nat => anyTo (fun t => above xs j (gi S t)) 0) (k := N) fun j _ => rfl]; exact World.ownsRow_nil _ _ _ _, Grows.refl _⟩
  case round =>
    obtain ⟨i, rfl, hi, hgk, hown, hgr⟩ := hrel
    have HGK := Lib.hid hgk; clear hgk
    have hsz := hgr.size
    by_cases hlt : i < M
    · have HX3 := Lib.hid (HX2.out.grows hzB hgr)
      obtain ⟨ad, rfl, had, hc⟩ := (HR.out.grows (Nat.le_refl _) hgr).int hlt
      obtain ⟨x, hxd⟩ : ∃ x, x = gi S i := ⟨_, rfl⟩
      rw [← hxd] at hc
      have HXD := Lib.hid hxd
      clear hxd
      have hcl := chain_len xs x
      rw [HL.out] at hcl
      have hxlen : (selTo (fun j => anyTo (fun t => above xs j (gi S t)) i) N).length ≤ N := selTo_len _ _
      have HOW := Lib.hid hown
      clear hown
      obtain ⟨wo, rfl⟩ : ∃ wo : World, wo = wr := ⟨_, rfl⟩
      go_wp2_with fail
      refine (rchain_any _ _ _ _ _ _ _ HX3.out (by omega) (by omega)).mono fun e w4 h => ?_
      obtain ⟨C, hC⟩ : ∃ C, C = chain xs x := ⟨_, rfl⟩
      have HCE := Lib.hid hC
      rw [← hC] at hcl
      obtain ⟨A4, c4, rfl, hr4, hg4⟩ := retL C C.length hC.symm rfl h
      clear h hC
      have HC := Lib.hid hr4
      have hown4 := Lib.hid (own_grows HOW.out hg4)
      have hgr4 := hgr.trans hg4
      clear hr4
      go_wp2_with fail
      go_loopg [11, 7] C.length (fun gk q v wx => ∃ k : Nat, q = .int .i64 k ∧ k ≤ C.length ∧ gk = C.length - k ∧ wx.ownsRow w2.heap.size 3 1 v (selTo (fun j => anyTo (fun t => above xs j (gi S t)) i || inL (C.take k) j) N).length (ints (selTo (fun j => anyTo (fun t => above xs j (gi S t)) i || inL (C.take k) j) N)) ∧ Grows w4 wx)
      case atStart =>
        have e : selTo (fun j => anyTo (fun t => above xs j (gi S t)) i || inL (C.take 0) j) N = selTo (fun j => anyTo (fun t => above xs j (gi S t)) i) N := selTo_congr fun j _ => by simp [inL]
        exact ⟨0, rfl, by omega, by omega, by rw [e]; exact hown4.out, Grows.refl _⟩
      case round =>
        obtain ⟨k, rfl, hk, hgk, hownk, hgx⟩ := hrel
        have HGK2 := Lib.hid hgk; clear hgk
        by_cases hlk : k < C.length
        · obtain ⟨ad4, rfl, had4, hc4⟩ := (HC.out.grows (Nat.le_refl _) hgx).int hlk
          have hmem : gi C k ∈ chain xs x := by
            rw [← HCE.out]
            simp only [gi, List.getD_eq_getElem?_getD, List.getElem?_eq_getElem hlk, Option.getD_some]
            exact List.getElem_mem hlk
          have hib := (isB_iff.1 (isB_of_mem hmem).1)
          obtain ⟨y, hy⟩ : ∃ y : Nat, gi C k = y := ⟨(gi C k).toNat, by omega⟩
          have hyN : y < N := by have := HL.out; omega
          have hadd := Lib.hid (addL_selTo (q := fun j => anyTo (fun t => above xs j (gi S t)) i || inL (C.take k) j) hyN)
          have hnext := Lib.hid (show selTo (fun j => (anyTo (fun t => above xs j (gi S t)) i || inL (C.take k) j) || j == y) N = selTo (fun j => anyTo (fun t => above xs j (gi S t)) i || inL (C.take (k + 1)) j) N from selTo_congr fun j _ => by
            rw [inL_take hlk, hy, Bool.or_assoc]
            congr 2
            rw [Bool.eq_iff_iff]; simp; omega)
          rw [hy] at hc4
          clear hib hmem hy
          have hszx := hgr4.trans hgx
          have hlen2 : (selTo (fun j => anyTo (fun t => above xs j (gi S t)) i || inL (C.take k) j) N).length ≤ N := selTo_len _ _
          have HOK := Lib.hid hownk
          clear hownk
          go_wp2_with (go_at_call 49; refine (radd_any _ _ _ _ _ _ HOK.out hszx.size (by omega)).mono ?_; rintro e w5 ⟨v5, rfl, hown5, hg5⟩; rw [hadd.out, hnext.out] at hown5; have hgx5 := hgx.trans hg5)
          go_roundg (C.length - (k + 1))
          case measure => rw [HGK2.out]; omega
          case rel => exact ⟨k + 1, by go_num, by omega, rfl, hown5, hgx5⟩
        · have hfin := Lib.hid (show selTo (fun j => anyTo (fun t => above xs j (gi S t)) i || inL (C.take k) j) N = selTo (fun j => anyTo (fun t => above xs j (gi S t)) (i + 1)) N from selTo_congr fun j _ => by
            rw [List.take_of_length_le (by omega), anyTo_succ, ← HXD.out]
            congr 1
            unfold above inL
            rw [HCE.out])
          have hgrx := hgr4.trans hgx
          go_wp2
          go_roundg (M - (i + 1))
          case measure => rw [HGK.out]; omega
          case rel => exact ⟨i + 1, by go_num, by omega, rfl, by rw [← hfin.out]; exact hownk, hgrx⟩
    · have hf := Lib.hid (show selTo (fun j => anyTo (fun t => above xs j (gi S t)) i) N = seenL xs olds keep by
        rw [seenL_some, HL.out, ← HLL.out, ← HSE.out]
        refine selTo_congr fun j _ => ?_
        unfold aboveSome
        rw [HM.out, show i = M by omega])
      go_wp2
      go_ret
      exact ⟨_, rfl, by rw [← hf.out]; exact own_mono hown hzw2, hg2.trans hgr⟩

theorem filter_take {p : Int → Bool} {L : List Int} {k : Nat} (hk : k < L.length) : (L.take (k + 1)).filter p = (L.take k).filter p ++ (if p (gi L k) then [gi L k] else []) := by
  rw [List.take_succ_eq_append_getElem hk, List.filter_append]
  have e : L[k] = gi L k := by simp [gi, List.getElem?_eq_getElem hk]
  rw [e]
  congr 1
  by_cases h : p (gi L k) = true <;> simp [h]

set_option maxHeartbeats 4000000 in
theorem rheads_any (B B' : Nat) (A A' : Option Addr) (N n c c' : Nat) (xs olds : List Int) (w : World) (hx : Reads w B 1 A N (ints xs)) (h : Marks w B' A' n olds) (hB : B ≤ w.heap.size) (hB' : B' ≤ w.heap.size) (hN : N ≤ 1000000) (hn : n ≤ maxLen) :
    Calls Try.prog 36 #[.slice A N c, .slice A' n c'] w fun e w' => ∃ v, e = .returned v ∧ w'.ownsRow w.heap.size 3 1 v (headL xs olds).length (ints (headL xs olds)) ∧ Grows w w' := by
  have HL := Lib.hid hx.intLen
  have HX := Lib.hid hx; clear hx
  have H := Lib.hid h; clear h
  obtain ⟨t0, hi0, hz0, hz1, hz2⟩ := info_parts Try.infoInt
  have hll := liveL_len xs olds
  rw [HL.out] at hll
  go_enter Try.func36, Try.ntmps36
  go_wp2_with fail
  refine (rlive_any _ _ _ _ _ _ _ _ _ olds _ HX.out H.out hB hB' (by omega) hn).mono fun e w1 h => ?_
  obtain ⟨M, hM⟩ : ∃ M, M = (liveL xs olds).length := ⟨_, rfl⟩
  obtain ⟨A1, c1, rfl, hr1, hg1⟩ := retL (liveL xs olds) M rfl hM.symm h
  clear h
  have hd := Lib.hid (show right xs = true → ∀ i, i < M → loneTo xs (liveL xs olds) i M = headp xs olds (gi (liveL xs olds) i).toNat from fun hr i hi => by rw [hM] at hi ⊢; exact lone_head hr hi)
  have hend := Lib.hid (show (liveL xs olds).filter (fun x => headp xs olds x.toNat) = headL xs olds by
    cases hr : right xs with
    | true => exact heads_filter hr
    | false => rw [liveL_none hr, headL_none hr]; rfl)
  have hright := Lib.hid (show 0 < M → right xs = true from fun h0 => by
    cases hr : right xs with
    | true => rfl
    | false => rw [hM, liveL_none hr] at h0; simp at h0)
  rw [← hM] at hll
  have HM := Lib.hid hM.symm
  clear hM
  obtain ⟨L, hL⟩ : ∃ L, L = liveL xs olds := ⟨_, rfl⟩
  rw [← hL] at hr1 hd hend HM
  have HR := Lib.hid hr1
  clear hr1 hL
  have HX1 := Lib.hid (HX.out.grows hB hg1)
  have hz1g := hg1.size
  have hzB : B ≤ w1.heap.size := by omega
  go_wp2_with fail
  go_loopg [7, 5] M (fun gk q v wr => ∃ (i : Nat) (ys : List Int), q = .int .i64 i ∧ i ≤ M ∧ gk = M - i ∧ ys = (L.take i).filter (fun x => headp xs olds x.toNat) ∧ wr.ownsRow w1.heap.size 3 1 v ys.length (ints ys) ∧ Grows w1 wr)
  case atStart => exact ⟨0, [], rfl, by omega, by omega, by simp, World.ownsRow_nil _ _ _ _, Grows.refl _⟩
  case round =>
    obtain ⟨i, ys, rfl, hi, hgk, hys, hown, hgr⟩ := hrel
    have HGK := Lib.hid hgk
    have HYS := Lib.hid hys
    have hyl : ys.length ≤ i := by rw [hys]; exact Nat.le_trans (List.length_filter_le _ _) (List.length_take_le _ _)
    clear hgk hys
    by_cases hlt : i < M
    · have HOW := Lib.hid hown
      have HRT := Lib.hid (hright.out (by omega))
      obtain ⟨wo, rfl⟩ : ∃ wo : World, wo = wr := ⟨_, rfl⟩
      obtain ⟨ad, rfl, _, _⟩ := HR.out.int hlt
      clear hown
      go_wp2_with fail
      go_loopg [9, 8] M (fun gk q v wx => ∃ k : Nat, q = .int .i64 k ∧ k ≤ M ∧ gk = M - k ∧ v = .bool (loneTo xs L i k) ∧ Grows wo wx)
      case atStart => exact ⟨0, rfl, by omega, by omega, rfl, Grows.refl _⟩
      case round =>
        obtain ⟨k, rfl, hk, hgk, hv, hgx⟩ := hrel
        have HGK2 := Lib.hid hgk; clear hgk
        have hgrx := hgr.trans hgx
        have hszx := hgrx.size
        have HC := Lib.hid (HR.out.grows (Nat.le_refl _) hgrx)
        have HXX := Lib.hid (HX1.out.grows hzB hgrx)
        by_cases hlk : k < M
        · have hc0 := HC.out.intAt hlt
          have hc1 := HC.out.intAt hlk
          have hi0' : (0 : Int) ≤ i := by omega
          have hi1' : (i : Int) < M := by omega
          have hk0' : (0 : Int) ≤ k := by omega
          have hk1' : (k : Int) < M := by omega
          have HN := Lib.hid (loneTo_succ (xs := xs) (L := L) (i := i) (k := k))
          cases hl : loneTo xs L i k with
          | false =>
            rw [hl] at hv
            subst hv
            have hnx := Lib.hid (show loneTo xs L i (k + 1) = false by rw [HN.out, hl]; rfl)
            clear hl
            go_wp2
            go_quiet (fail)
            go_wp2
            go_roundg (M - (k + 1))
            case measure => rw [HGK2.out]; omega
            case rel => exact ⟨k + 1, by go_num, by omega, rfl, by rw [hnx.out], hgx.drewN _⟩
          | true =>
            rw [hl] at hv
            subst hv
            by_cases hki : k = i
            · have hnx := Lib.hid (show loneTo xs L i (k + 1) = true by rw [HN.out, hl, hki]; simp)
              subst hki
              have hkk : ((k : Int) == (k : Int)) = true := by simp
              clear hl
              go_wp2
              go_quiet (fail)
              go_wp2
              go_roundg (M - (k + 1))
              case measure => rw [HGK2.out]; omega
              case rel => exact ⟨k + 1, by go_num, by omega, rfl, by rw [hnx.out], hgx.drewN _⟩
            · have hkk : ((k : Int) == (i : Int)) = false := by simp; omega
              have hki2 : (k == i) = false := by simpa using hki
              have hnx := Lib.hid (show loneTo xs L i (k + 1) = !above xs (gi L i) (gi L k) by rw [HN.out, hl, hki2]; simp)
              clear hl
              go_wp2
              go_still_tail 15, (by kernel_rfl)
              have ew : ({ heap := wr.heap, tape := wr.tape, drawn := wr.drawn + 1, os := wr.os, output := wr.output } : World) = wr.drew := rfl
              rw [ew]
              have hgd : Grows wo wr.drew := hgx.drew
              have HXD := Lib.hid (HXX.out.drew)
              have hzd : B ≤ wr.drew.heap.size := by
                have : wr.drew.heap.size = wr.heap.size := rfl
                omega
              clear ew
              go_wp2_with (go_at_call 26; refine (rabove_any _ _ _ _ _ _ _ _ HXD.out hzd (by omega)).mono ?_; rintro e w5 ⟨rfl, hg5⟩; rw [show above xs (gi L i) (gi L k) = !loneTo xs L i (k + 1) by rw [hnx.out, Bool.not_not]]; have hgx5 := hgd.trans hg5)
              go_roundg (M - (k + 1))
              case measure => rw [HGK2.out]; omega
              case rel => exact ⟨k + 1, by go_num, by omega, rfl, by simp, hgx5⟩
        · have hkM : k = M := by omega
          subst hkM
          have hhd := Lib.hid (hd.out HRT.out i hlt)
          have hown2 := own_grows HOW.out hgx
          have hlen : (ys ++ [gi L i]).length ≤ i + 1 := by simp; omega
          cases hl : loneTo xs L i k with
          | false =>
            rw [hl] at hv
            subst hv
            have hnx := Lib.hid (show ys = (L.take (i + 1)).filter (fun x => headp xs olds x.toNat) by
              rw [filter_take (by rw [HM.out]; exact hlt), ← HYS.out, ← hhd.out, hl]; simp)
            clear hl
            go_wp2
            go_roundg (k - (i + 1))
            case measure => rw [HGK.out]; omega
            case rel => exact ⟨i + 1, ys, by go_num, by omega, rfl, hnx.out, hown2, hgrx⟩
          | true =>
            rw [hl] at hv
            subst hv
            have hnx := Lib.hid (show ys ++ [gi L i] = (L.take (i + 1)).filter (fun x => headp xs olds x.toNat) by
              rw [filter_take (by rw [HM.out]; exact hlt), ← HYS.out, ← hhd.out, hl]; simp)
            have hc0 := HC.out.intAt hlt
            clear hl
            go_wp2_with (at_builtin; refine wpList_push rfl (.tmp 45) (.tmp 50) _ rfl (w1.heap.size) 3 t0 _ 1 8 Try.underlying23 hi0 hz0 hz1 hz2 rfl (by decide) _ _ _ rfl ((hown2).alloc _) ⟨(wr).heap.size, 0, none⟩ 1 1 [.int .i64 (gi L i)] rfl rfl (cell_one_new _ _ _) (by intro u hu; simp at hu; subst hu; rfl) (by simp only [maxLen]; omega) (by omega) (by simp; omega) ?_; intro v' w6 hown6 hb6; have hgr6 : Grows w1 w6 := Below.trans (hgrx.alloc _) hb6)
            go_roundg (k - (i + 1))
            case measure => rw [HGK.out]; omega
            case rel => exact ⟨i + 1, ys ++ [gi L i], by go_num, by omega, rfl, hnx.out, by rw [ints_append, ints_one, List.length_append]; exact hown6, hgr6⟩
    · have hf := Lib.hid (show ys = headL xs olds by
        rw [HYS.out, List.take_of_length_le (by rw [HM.out]; omega)]
        exact hend.out)
      go_wp2
      go_ret
      exact ⟨_, rfl, by rw [← hf.out]; exact own_mono hown hz1g, hg1.trans hgr⟩

end Go.Proofs.Ytdhdlkbldngmoaa
