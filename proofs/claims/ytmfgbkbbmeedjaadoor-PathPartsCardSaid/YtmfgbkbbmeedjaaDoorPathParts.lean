/- PathParts: the walk. -/
import Derived.Test.YtmfgbkbbmeedjaaDoorPathPartsLaw
namespace Go.Proofs.YtmfgbkbbmeedjaaDoor
open Go.RowKit Go.Deep Go.MapKept

theorem adr_zero (a : Addr) : a.add 0 = a := by unfold Addr.add; split <;> simp_all
theorem jk_zero (l : List ByteArray) : jk l 1 = none_ ++ gs l 0 := rfl
theorem jk_succ (l : List ByteArray) (k : Nat) (h : k ≠ 0) : jk l (k + 1) = jk l k ++ slash ++ gs l k := by rw [jk, if_neg h]
theorem okPart_1 {x : ByteArray} (h : rightP x = false) : okPart x = false := by rw [okPart, h]; rfl
theorem okPart_2 {x : ByteArray} (h : rightP x = true) : okPart x = decide ((pieces 47 0 x).length = 1) := by rw [okPart, h]; rfl
/-- how the loop stands: what is joined, and whether all were right -/
def At (l : List ByteArray) (n : Nat) (w wr : World) (k : Nat) (i s r : Value) : Prop := i = .int .i64 k ∧ s = .string (jk l k) ∧ r = .bool (okParts l k) ∧ k ≤ n ∧ (jk l k).size ≤ 21 * k ∧ Grows w wr

set_option maxRecDepth 100000 in
set_option maxHeartbeats 4000000 in
theorem pparts_any (B : Nat) (A : Option Addr) (n c : Nat) (l : List ByteArray) (w : World) (hx : Reads w B 1 A n (strs l)) (hB : B ≤ w.heap.size) (hm : MaxL w) :
    Calls Tryd.prog 3 #[.slice A n c] w fun e w' => e = .returned (.bool true) ∧ Grows w w' := by
  have HA := Lib.hid (pawake_any w hm)
  have HL := Lib.hid hx.strLen
  have HX := Lib.hid hx; clear hx
  have HM := Lib.hid hm; clear hm
  by_cases h0 : n = 0
  · subst h0
    go_enter Tryd.func3, Tryd.ntmps3
    go_wp2_with fail
    refine HA.out.mono ?_
    rintro e w1 ⟨rfl, hg⟩
    go_wp2_with fail
    go_ret
    exact ⟨rfl, hg⟩
  · have k0 : ¬ ((n : Int) = 0) := by omega
    by_cases h1 : 8 < n
    · have k1 : (n : Int) > 8 := by omega
      go_enter Tryd.func3, Tryd.ntmps3
      go_wp2_with fail
      refine HA.out.mono ?_
      rintro e w1 ⟨rfl, hg⟩
      go_wp2_with fail
      go_ret
      exact ⟨rfl, hg⟩
    · have k1 : ¬ ((n : Int) > 8) := by omega
      have h8 : n ≤ 8 := by omega
      clear h1
      go_enter Tryd.func3, Tryd.ntmps3
      go_wp2_with fail
      go_loopg [5, 4, 3] n (fun gk i r s wr => ∃ k : Nat, gk = n - k ∧ At l n w wr k i s r)
      case atStart => exact ⟨0, rfl, rfl, rfl, rfl, by omega, (by show none_.size ≤ 0; decide), Grows.refl _⟩
      case round =>
        obtain ⟨k, hgk, rfl, rfl, rfl, hk, hjs, hgr⟩ := hrel
        have HG := Lib.hid hgk; clear hgk
        have HGR := Lib.hid hgr
        have HMR := Lib.hid (HM.out.grows hgr)
        clear hgr
        by_cases hlt : k < n
        · obtain ⟨ad, rfl, had, hc⟩ := (HX.out.grows hB HGR.out).str hlt
          have q0 : (0 : Int) ≤ k := by omega
          have q1 : (k : Int) < n := by omega
          have hos := Lib.hid (okParts_succ (l := l) (k := k) (by rw [HL.out]; exact hlt))
          by_cases hsz : 20 < (gs l k).size
          · have q2 : ((gs l k).size : Int) > 20 := by omega
            go_wp2_with fail
            refine (pawake_any wr HMR.out).mono ?_
            rintro e w1 ⟨rfl, hg⟩
            have hg1 := HGR.out.trans hg
            go_wp2_with fail
            go_ret
            exact ⟨rfl, hg1⟩
          · have q2 : ¬ ((gs l k).size : Int) > 20 := by omega
            by_cases hk0 : k = 0
            · subst hk0
              have hj := Lib.hid (jk_zero l)
              have hjs2 : (jk l 1).size ≤ 21 * 1 := by rw [hj.out, none_app]; omega
              have z0 : (jk l 0).size = 0 := rfl
              obtain ⟨sk, hsk⟩ : ∃ sk, jk l 0 = sk := ⟨_, rfl⟩
              have hjn : Value.string (sk ++ gs l 0) = .string (jk l (0 + 1)) := by rw [← hsk]; exact congrArg Value.string hj.out.symm
              rw [hsk] at hjs z0
              rw [hsk]
              clear hsk
              have HJN := Lib.hid hjn
              clear hjn
              obtain ⟨gx, hgx⟩ : ∃ gx, gs l 0 = gx := ⟨_, rfl⟩
              rw [hgx] at hc hsz q2 hos HJN
              clear hgx
              rw [adr_zero] at hc
              obtain ⟨rr, hrr⟩ : ∃ rr, okParts l 0 = rr := ⟨_, rfl⟩
              rw [hrr] at hos ⊢
              clear hrr
              cases rr with
              | false =>
                have hf := Lib.hid (show Value.bool false = .bool (okParts l (0 + 1)) by rw [hos.out]; rfl)
                go_wp2_with fail
                go_roundg (n - (0 + 1))
                case measure => rw [HG.out]; omega
                case rel => exact ⟨0 + 1, rfl, by go_num, HJN.out, hf.out, by omega, hjs2, HGR.out⟩
              | true =>
                go_wp2_with fail
                refine (right_any gx wr HMR.out).mono ?_
                cases hra : rightP gx with
                | false =>
                  have hf := Lib.hid (show Value.bool false = .bool (okParts l (0 + 1)) by rw [hos.out, okPart_1 hra]; rfl)
                  rintro e w1 ⟨rfl, hg⟩
                  have hg1 := Lib.hid (HGR.out.trans hg)
                  clear hg
                  go_wp2_with fail
                  go_roundg (n - (0 + 1))
                  case measure => rw [HG.out]; omega
                  case rel => exact ⟨0 + 1, rfl, by go_num, HJN.out, hf.out, by omega, hjs2, hg1.out⟩
                | true =>
                  have hop := Lib.hid (okPart_2 hra)
                  rintro e w1 ⟨rfl, hg⟩
                  have hm1 := Lib.hid (HMR.out.grows hg)
                  have hg1 := Lib.hid (HGR.out.trans hg)
                  have hsz5 := HGR.out.size
                  have hc1 := (Below.cell (p := ad) hg (by omega)).trans hc
                  clear hg hsz5
                  go_wp2_with fail
                  refine (parts_any gx w1 hm1.out (by omega)).mono ?_
                  rintro e w2 ⟨v, rfl, A2, c2, rfl, _, _, _, hg2⟩
                  have hg3 := Lib.hid (hg1.out.trans hg2)
                  clear hg2
                  obtain ⟨m, hmm⟩ : ∃ m, (pieces 47 0 gx).length = m := ⟨_, rfl⟩
                  rw [hmm] at hop ⊢
                  clear hmm
                  by_cases hm1 : m = 1
                  · subst hm1
                    have hf := Lib.hid (show Value.bool true = .bool (okParts l (0 + 1)) by rw [hos.out, hop.out]; rfl)
                    go_wp2_with fail
                    go_roundg (n - (0 + 1))
                    case measure => rw [HG.out]; omega
                    case rel => exact ⟨0 + 1, rfl, by go_num, HJN.out, hf.out, by omega, hjs2, hg3.out⟩
                  · have q5 : ¬ ((m : Int) = 1) := by omega
                    have hf := Lib.hid (show Value.bool ((m : Int) == 1) = .bool (okParts l (0 + 1)) by rw [hos.out, hop.out, decide_eq_false hm1, beq_false_of_ne q5]; rfl)
                    go_wp2_with fail
                    go_roundg (n - (0 + 1))
                    case measure => rw [HG.out]; omega
                    case rel => exact ⟨0 + 1, rfl, by go_num, HJN.out, hf.out, by omega, hjs2, hg3.out⟩
            · have q3 : (k : Int) > 0 := by omega
              have hj := Lib.hid (jk_succ l k hk0)
              have z1 : (jk l k ++ slash).size = (jk l k).size + 1 := by rw [ByteArray.size_append]; rfl
              have hjs2 : (jk l (k + 1)).size ≤ 21 * (k + 1) := by rw [hj.out, ByteArray.size_append, z1]; omega
              obtain ⟨sk, hsk⟩ : ∃ sk, jk l k = sk := ⟨_, rfl⟩
              have hjn : Value.string (sk ++ slash ++ gs l k) = .string (jk l (k + 1)) := by rw [← hsk]; exact congrArg Value.string hj.out.symm
              rw [hsk] at hjs z1
              rw [hsk]
              clear hsk
              have HJN := Lib.hid hjn
              clear hjn
              unfold slash at z1
              obtain ⟨gx, hgx⟩ : ∃ gx, gs l k = gx := ⟨_, rfl⟩
              rw [hgx] at hc hsz q2 hos HJN
              clear hgx
              skip
              obtain ⟨rr, hrr⟩ : ∃ rr, okParts l k = rr := ⟨_, rfl⟩
              rw [hrr] at hos ⊢
              clear hrr
              cases rr with
              | false =>
                have hf := Lib.hid (show Value.bool false = .bool (okParts l (k + 1)) by rw [hos.out]; rfl)
                go_wp2_with fail
                go_roundg (n - (k + 1))
                case measure => rw [HG.out]; omega
                case rel => exact ⟨k + 1, rfl, by go_num, HJN.out, hf.out, by omega, hjs2, HGR.out⟩
              | true =>
                go_wp2_with fail
                refine (right_any gx wr HMR.out).mono ?_
                cases hra : rightP gx with
                | false =>
                  have hf := Lib.hid (show Value.bool false = .bool (okParts l (k + 1)) by rw [hos.out, okPart_1 hra]; rfl)
                  rintro e w1 ⟨rfl, hg⟩
                  have hg1 := Lib.hid (HGR.out.trans hg)
                  clear hg
                  go_wp2_with fail
                  go_roundg (n - (k + 1))
                  case measure => rw [HG.out]; omega
                  case rel => exact ⟨k + 1, rfl, by go_num, HJN.out, hf.out, by omega, hjs2, hg1.out⟩
                | true =>
                  have hop := Lib.hid (okPart_2 hra)
                  rintro e w1 ⟨rfl, hg⟩
                  have hm1 := Lib.hid (HMR.out.grows hg)
                  have hg1 := Lib.hid (HGR.out.trans hg)
                  have hsz5 := HGR.out.size
                  have hc1 := (Below.cell (p := ad.add k) hg (by rw [block_of_add]; omega)).trans hc
                  clear hg hsz5
                  go_wp2_with fail
                  refine (parts_any gx w1 hm1.out (by omega)).mono ?_
                  rintro e w2 ⟨v, rfl, A2, c2, rfl, _, _, _, hg2⟩
                  have hg3 := Lib.hid (hg1.out.trans hg2)
                  clear hg2
                  obtain ⟨m, hmm⟩ : ∃ m, (pieces 47 0 gx).length = m := ⟨_, rfl⟩
                  rw [hmm] at hop ⊢
                  clear hmm
                  by_cases hm1 : m = 1
                  · subst hm1
                    have hf := Lib.hid (show Value.bool true = .bool (okParts l (k + 1)) by rw [hos.out, hop.out]; rfl)
                    go_wp2_with fail
                    go_roundg (n - (k + 1))
                    case measure => rw [HG.out]; omega
                    case rel => exact ⟨k + 1, rfl, by go_num, HJN.out, hf.out, by omega, hjs2, hg3.out⟩
                  · have q5 : ¬ ((m : Int) = 1) := by omega
                    have hf := Lib.hid (show Value.bool ((m : Int) == 1) = .bool (okParts l (k + 1)) by rw [hos.out, hop.out, decide_eq_false hm1, beq_false_of_ne q5]; rfl)
                    go_wp2_with fail
                    go_roundg (n - (k + 1))
                    case measure => rw [HG.out]; omega
                    case rel => exact ⟨k + 1, rfl, by go_num, HJN.out, hf.out, by omega, hjs2, hg3.out⟩
        · have hkn : k = n := by omega
          subst hkn
          have hjr := Lib.hid (fun ho hs => join_right (l := l) (by rw [HL.out]; exact h0) ho hs)
          rw [HL.out] at hjr
          obtain ⟨sk, hsk⟩ : ∃ sk, jk l k = sk := ⟨_, rfl⟩
          rw [hsk] at hjs hjr ⊢
          clear hsk
          have HT1 := Lib.hid (right_tail sk)
          have HT2 := Lib.hid (right_head sk)
          have HT3 := Lib.hid (right_dots sk)
          unfold slash at HT1 HT2
          unfold updots at HT3
          obtain ⟨rr, hrr⟩ : ∃ rr, okParts l k = rr := ⟨_, rfl⟩
          rw [hrr] at hjr ⊢
          clear hrr
          cases rr with
          | false =>
            clear hjr
            go_wp2_with fail
            refine (pawake_any wr HMR.out).mono ?_
            rintro e w5 ⟨rfl, hg⟩
            have hm5 := Lib.hid (HMR.out.grows hg)
            have hg5 := Lib.hid (HGR.out.trans hg)
            clear hg
            go_wp2_with fail
            refine (right_any _ w5 hm5.out).mono ?_
            rw [HT1.out]
            rintro e w6 ⟨rfl, hg6⟩
            have hm6 := Lib.hid (hm5.out.grows hg6)
            have hg6' := Lib.hid (hg5.out.trans hg6)
            clear hg6 hm5 hg5
            go_wp2_with fail
            refine (right_any _ w6 hm6.out).mono ?_
            rw [HT2.out]
            rintro e w7 ⟨rfl, hg7⟩
            have hm7 := Lib.hid (hm6.out.grows hg7)
            have hg7' := Lib.hid (hg6'.out.trans hg7)
            clear hg7 hm6 hg6'
            go_wp2_with fail
            refine (right_any none_ w7 hm7.out).mono ?_
            rw [right_none]
            rintro e w8 ⟨rfl, hg8⟩
            have hm8 := Lib.hid (hm7.out.grows hg8)
            have hg8' := Lib.hid (hg7'.out.trans hg8)
            clear hg8 hm7 hg7'
            go_wp2_with fail
            refine (right_any _ w8 hm8.out).mono ?_
            rw [HT3.out]
            rintro e w9 ⟨rfl, hg9⟩
            have hg9' := Lib.hid (hg8'.out.trans hg9)
            clear hg9 hm8 hg8'
            go_wp2_with fail
            go_ret
            exact ⟨rfl, hg9'.out⟩
          | true =>
            by_cases hs1 : 100 < sk.size
            · have q4 : (sk.size : Int) > 100 := by omega
              clear hjr
              go_wp2_with fail
              refine (pawake_any wr HMR.out).mono ?_
              rintro e w5 ⟨rfl, hg⟩
              have hm5 := Lib.hid (HMR.out.grows hg)
              have hg5 := Lib.hid (HGR.out.trans hg)
              clear hg
              go_wp2_with fail
              refine (right_any _ w5 hm5.out).mono ?_
              rw [HT1.out]
              rintro e w6 ⟨rfl, hg6⟩
              have hm6 := Lib.hid (hm5.out.grows hg6)
              have hg6' := Lib.hid (hg5.out.trans hg6)
              clear hg6 hm5 hg5
              go_wp2_with fail
              refine (right_any _ w6 hm6.out).mono ?_
              rw [HT2.out]
              rintro e w7 ⟨rfl, hg7⟩
              have hm7 := Lib.hid (hm6.out.grows hg7)
              have hg7' := Lib.hid (hg6'.out.trans hg7)
              clear hg7 hm6 hg6'
              go_wp2_with fail
              refine (right_any none_ w7 hm7.out).mono ?_
              rw [right_none]
              rintro e w8 ⟨rfl, hg8⟩
              have hm8 := Lib.hid (hm7.out.grows hg8)
              have hg8' := Lib.hid (hg7'.out.trans hg8)
              clear hg8 hm7 hg7'
              go_wp2_with fail
              refine (right_any _ w8 hm8.out).mono ?_
              rw [HT3.out]
              rintro e w9 ⟨rfl, hg9⟩
              have hg9' := Lib.hid (hg8'.out.trans hg9)
              clear hg9 hm8 hg8'
              go_wp2_with fail
              go_ret
              exact ⟨rfl, hg9'.out⟩
            · have q4 : ¬ ((sk.size : Int) > 100) := by omega
              obtain ⟨hr1, hr2⟩ := hjr.out rfl (by omega)
              clear hjr
              have hR2 := Lib.hid hr2
              clear hr2
              go_wp2_with fail
              refine (pawake_any wr HMR.out).mono ?_
              rintro e w3 ⟨rfl, hg⟩
              have hm3 := Lib.hid (HMR.out.grows hg)
              have hg3 := Lib.hid (HGR.out.trans hg)
              clear hg
              go_wp2_with fail
              refine (right_any sk w3 hm3.out).mono ?_
              rw [hr1]
              rintro e w4 ⟨rfl, hg⟩
              have hm4 := Lib.hid (hm3.out.grows hg)
              have hg4 := Lib.hid (hg3.out.trans hg)
              clear hg hr1
              go_wp2_with fail
              refine (parts_any sk w4 hm4.out (by omega)).mono ?_
              rw [hR2.out]
              rintro e w4' ⟨v, rfl, A2, c2, rfl, _, _, hr4, hg⟩
              have hR4 := Lib.hid hr4
              have hm4' := Lib.hid (hm4.out.grows hg)
              have hg4' := Lib.hid (hg4.out.trans hg)
              clear hg hr4 hm4 hg4
              have hXX := Lib.hid (HX.out.grows hB hg4'.out)
              go_wp2_with fail
              refine (plainS_yes _ _ _ _ _ _ _ _ _ _ _ rfl hR4.out hXX.out (by rw [HL.out]; omega)).mono ?_
              rintro e w5 ⟨rfl, d, rfl⟩
              have hm5 := Lib.hid (hm4'.out.drewN d)
              have hg5 := Lib.hid (hg4'.out.drewN d)
              obtain ⟨w5, hw5⟩ : ∃ w5, w4'.drewN d = w5 := ⟨_, rfl⟩
              rw [hw5] at hm5 hg5 ⊢
              clear hw5
              go_wp2_with fail
              refine (right_any _ w5 hm5.out).mono ?_
              rw [HT1.out]
              rintro e w6 ⟨rfl, hg6⟩
              have hm6 := Lib.hid (hm5.out.grows hg6)
              have hg6' := Lib.hid (hg5.out.trans hg6)
              clear hg6 hm5 hg5
              go_wp2_with fail
              refine (right_any _ w6 hm6.out).mono ?_
              rw [HT2.out]
              rintro e w7 ⟨rfl, hg7⟩
              have hm7 := Lib.hid (hm6.out.grows hg7)
              have hg7' := Lib.hid (hg6'.out.trans hg7)
              clear hg7 hm6 hg6'
              go_wp2_with fail
              refine (right_any none_ w7 hm7.out).mono ?_
              rw [right_none]
              rintro e w8 ⟨rfl, hg8⟩
              have hm8 := Lib.hid (hm7.out.grows hg8)
              have hg8' := Lib.hid (hg7'.out.trans hg8)
              clear hg8 hm7 hg7'
              go_wp2_with fail
              refine (right_any _ w8 hm8.out).mono ?_
              rw [HT3.out]
              rintro e w9 ⟨rfl, hg9⟩
              have hg9' := Lib.hid (hg8'.out.trans hg9)
              clear hg9 hm8 hg8'
              go_wp2_with fail
              go_ret
              exact ⟨rfl, hg9'.out⟩
end Go.Proofs.YtmfgbkbbmeedjaaDoor
