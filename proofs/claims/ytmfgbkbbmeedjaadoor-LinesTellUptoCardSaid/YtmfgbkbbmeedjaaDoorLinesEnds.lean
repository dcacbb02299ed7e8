/- LinesEnds: the walk. -/
import Derived.Test.YtmfgbkbbmeedjaaDoorLinesBack
namespace Go.Proofs.YtmfgbkbbmeedjaaDoor
open Go.RowKit Go.Deep Go.MapKept

/-- is something behind the last end? -/
def restN (L : List UInt8) : Nat := if L = [] then 0 else if L.getLast? = some 10 then 0 else 1
theorem lnL_len : ∀ L : List UInt8, (lnL L).length = L.count 10 + restN L :=
  sp_ind (c := 10) (M := fun L => (lnL L).length = L.count 10 + restN L) (fun L h => by
    rw [lnL_no h, List.count_eq_zero.2 h, restN]
    by_cases h0 : L = []
    · rw [if_pos h0, if_pos h0]; rfl
    · have h1 : L.getLast? ≠ some 10 := fun e => h (List.mem_of_getLast? e)
      rw [if_neg h0, if_neg h0, if_neg h1]; rfl) (fun u v h ih => by
    rw [lnL_at h, List.length_cons, ih, List.count_append, List.count_cons_self, List.count_eq_zero.2 h]
    have e : restN (u ++ 10 :: v) = restN v := by
      unfold restN
      rw [if_neg (by simp)]
      have e1 : (u ++ 10 :: v).getLast? = some (v.getLast?.getD 10) := by
        rw [List.getLast?_append, List.getLast?_cons]; rfl
      rw [e1]
      by_cases hv : v = []
      · subst hv; rfl
      · rw [if_neg hv]
        match hq : v.getLast? with
        | none => exact absurd (List.getLast?_eq_none_iff.1 hq) hv
        | some b => rfl
    rw [e]; omega)
theorem lines_count (s : ByteArray) : (linesT s).length = s.data.toList.count 10 + restN s.data.toList := by rw [linesT, List.length_map, lnL_len]
theorem count_take {L : List UInt8} {k : Nat} {b : UInt8} (h : L[k]? = some b) : (L.take (k + 1)).count 10 = (L.take k).count 10 + if b = 10 then 1 else 0 := by
  obtain ⟨hl, e⟩ := List.getElem?_eq_some_iff.1 h
  rw [List.take_succ_eq_append_getElem hl, List.count_append, e, List.count_singleton]
  congr 1
  simp

theorem adr0 (g i : Nat) : Addr.add ⟨g, 0, none⟩ i = ⟨g, i, none⟩ := by unfold Addr.add; split <;> simp_all
theorem ok_facts {l : List ByteArray} {n i : Nat} {x : ByteArray} (h : okAt l n i = true) (hx : gs l i = x) : 0 < x.size ∧ (∀ j (hj : j + 1 < x.size), ((x[j].toNat : Int) == 10) = false) ∧ ∀ (h0 : 0 < x.size), i + 1 < n → ((x[x.size - 1].toNat : Int) != 10) = false := by
  rw [okAt, hx] at h
  have hxl : x.data.toList.length = x.size := Array.length_toList
  simp only [okLine, Bool.and_eq_true, Bool.not_eq_true', Bool.or_eq_true, beq_iff_eq] at h
  obtain ⟨h1, h2, h3⟩ := h
  have h0 : 0 < x.size := by
    rcases Nat.eq_zero_or_pos x.size with e | e
    · rw [List.eq_nil_of_length_eq_zero (hxl.trans e)] at h1
      cases h1
    · exact e
  refine ⟨h0, fun j hj => ?_, fun _ hi => ?_⟩
  · rw [← Bool.not_eq_true]
    intro e
    have e2 : x[j] = 10 := (byte_is (n := 10) (by decide)).1 e
    have hg := byte_get (p := x) (k := j) (by omega)
    rw [e2] at hg
    have h5 : x.data.toList.dropLast[j]? = some 10 := by
      rw [List.getElem?_dropLast, if_pos (by omega)]
      exact hg
    exact no_of_contains h2 (List.mem_of_getElem? h5)
  · rcases h3 with h3 | h3
    · rw [decide_eq_true hi] at h3
      cases h3
    · rw [List.getLast?_eq_getElem?, hxl, byte_get (by omega)] at h3
      rw [bne, show ((x[x.size - 1].toNat : Int) == 10) = true from (byte_is (n := 10) (by decide)).2 (Option.some.inj h3)]
      rfl
set_option maxRecDepth 100000 in
set_option maxHeartbeats 2000000 in
theorem lends_any (s : ByteArray) (w : World) (hm : MaxL w) : Calls Tryd.prog 7 #[.string s] w fun e w' => e = .returned (.bool true) ∧ Grows w w' := by
  by_cases ha : 3000 < s.size
  · have k1 : (s.size : Int) > 3000 := by omega
    go_enter Tryd.func7, Tryd.ntmps7
    go_wp2_with fail
    refine (lawake_any w hm).mono ?_
    rintro e w1 ⟨rfl, hg⟩
    go_wp2_with fail
    go_ret
    exact ⟨rfl, hg⟩
  have k1 : ¬ ((s.size : Int) > 3000) := by omega
  have hL := Lib.hid (show s.data.toList.length = s.size from Array.length_toList)
  have hgd := Lib.hid ((goodT_all (l := linesT s) rfl).1 (good_lines s))
  have hcnt := Lib.hid (lines_count s)
  have hnS := Lib.hid (lines_len s)
  go_enter Tryd.func7, Tryd.ntmps7
  go_wp2_with fail
  refine (split_any s w hm (by omega)).mono ?_
  rintro e w1 ⟨v, rfl, g1, c1, rfl, hc1, _, hr1, hg1⟩
  obtain ⟨N, hN⟩ : ∃ N, (linesT s).length = N := ⟨_, rfl⟩
  rw [hN] at hr1 hc1 hgd hcnt hnS
  have hm1 := hm.grows hg1
  have HR1 := Lib.hid hr1
  have HG1 := Lib.hid hg1
  have HN := Lib.hid hN
  rw [hN]
  clear hr1 hg1 hm hc1 hN
  go_wp2_with fail
  go_loopg [5, 4] s.size (fun gk q v wr => wr = w1 ∧ ∃ (k : Nat), q = .int .i64 k ∧ k ≤ s.size ∧ gk = s.size - k ∧ v = .int .i64 ((s.data.toList.take k).count 10))
  case atStart => exact ⟨rfl, 0, rfl, by omega, rfl, rfl⟩
  case round =>
    obtain ⟨rfl, k, rfl, hk, hgk, rfl⟩ := hrel
    have HG := Lib.hid hgk; clear hgk
    by_cases hlt : k < s.size
    · have k2 : (0 : Int) ≤ k := by omega
      have k3 : (k : Int) < s.size := by omega
      have hget := Lib.hid (byte_get hlt)
      have hct := Lib.hid (count_take hget.out)
      obtain ⟨ct, hct0⟩ : ∃ ct, (s.data.toList.take k).count 10 = ct := ⟨_, rfl⟩
      have hctk : ct ≤ 3000 := by
        rw [← hct0]
        exact Nat.le_trans List.count_le_length (by rw [List.length_take]; omega)
      rw [hct0] at hct
      try rw [hct0]
      clear hct0
      cases hb : ((s[k].toNat : Int) == 10) with
      | true =>
        have h10 := Lib.hid (show (s.data.toList.take (k + 1)).count 10 = ct + 1 by rw [hct.out, if_pos (show s[k] = 10 from (byte_is (n := 10) (by decide)).1 hb)])
        clear hct
        go_wp2_with fail
        go_roundg (s.size - (k + 1))
        case measure => rw [HG.out]; omega
        case rel => exact ⟨rfl, k + 1, by go_num, by omega, rfl, by rw [h10.out]; go_num⟩
      | false =>
        have hne := Lib.hid (show s[k] ≠ 10 from fun h => Bool.noConfusion (((byte_is (n := 10) (by decide)).2 h).symm.trans hb))
        have h10 := Lib.hid (show (s.data.toList.take (k + 1)).count 10 = ct by rw [hct.out, if_neg hne.out]; rfl)
        clear hct
        go_wp2_with fail
        go_roundg (s.size - (k + 1))
        case measure => rw [HG.out]; omega
        case rel => exact ⟨rfl, k + 1, by go_num, by omega, rfl, by rw [h10.out]⟩
    · have hks : k = s.size := by omega
      subst hks
      have k3 : ¬ ((s.size : Int) < s.size) := by omega
      have hcl : (s.data.toList.take s.size).count 10 = s.data.toList.count 10 := by rw [List.take_of_length_le (by rw [hL.out]; exact Nat.le_refl _)]
      have hctk : s.data.toList.count 10 ≤ 3000 := Nat.le_trans List.count_le_length (by rw [hL.out]; omega)
      rw [hcl]
      clear hcl
      obtain ⟨ct, hct0⟩ : ∃ ct, s.data.toList.count 10 = ct := ⟨_, rfl⟩
      rw [hct0] at hcnt hctk ⊢
      clear hct0
      have hlast := Lib.hid (fun (h0 : 0 < s.size) => (show s.data.toList.getLast? = some (s[s.size - 1]'(by omega)) by
        rw [List.getLast?_eq_getElem?, hL.out]; exact byte_get (by omega)))
      go_upto_region 10 with fail
      obtain ⟨zb, hzb⟩ : ∃ zb : Bool, N = ct + zb.toNat ∧ zb = decide (restN s.data.toList = 1) := by
        refine ⟨_, ?_, rfl⟩
        rw [hcnt.out]
        have : restN s.data.toList = 0 ∨ restN s.data.toList = 1 := by unfold restN; split; exact .inl rfl; split; exact .inl rfl; exact .inr rfl
        rcases this with e | e <;> rw [e] <;> rfl
      have HZN := Lib.hid hzb.1
      have HZB := Lib.hid hzb.2
      clear hzb
      go_cut [37] (fun s37 wx => s37 = .bool zb ∧ wx = wr)
      case first =>
        by_cases h0 : s.size = 0
        · have q1 : ¬ ((s.size : Int) > 0) := by omega
          have hN0 := Lib.hid (show zb = false by
            have e : s.data.toList = [] := List.eq_nil_of_length_eq_zero (by rw [hL.out, h0])
            rw [HZB.out, e]; rfl)
          clear hlast hcnt h0
          go_wp2_with fail
          go_meet
          exact ⟨by rw [hN0.out], rfl⟩
        · have q1 : (s.size : Int) > 0 := by omega
          have h1 : 0 < s.size := by omega
          have hne := Lib.hid (show s.data.toList ≠ [] from fun e => by rw [← hL.out, e] at h1; exact Nat.lt_irrefl _ h1)
          have hN0 := Lib.hid (show zb = ((s[s.size - 1].toNat : Int) != 10) by
            rw [HZB.out, restN, if_neg hne.out, hlast.out h1, Bool.eq_iff_iff, decide_eq_true_eq, bne, Bool.not_eq_true', ← Bool.not_eq_true]
            have h2 : (((s[s.size - 1].toNat : Int) == 10) = true) ↔ s[s.size - 1] = 10 := byte_is (n := 10) (by decide)
            rw [h2]
            simp only [Option.some.injEq]
            by_cases hq : s[s.size - 1] = 10
            · rw [if_pos hq]; simp only [hq, not_true_eq_false]; decide
            · rw [if_neg hq]; simp only [hq, not_false_eq_true])
          clear hlast hcnt
          cases hb : ((s[s.size - 1].toNat : Int) != 10) with
          | true =>
            rw [hb] at hN0
            go_wp2_with fail
            go_meet
            exact ⟨by rw [hN0.out], rfl⟩
          | false =>
            rw [hb] at hN0
            go_wp2_with fail
            go_meet
            exact ⟨by rw [hN0.out], rfl⟩
      case rest =>
        obtain ⟨rfl, rfl⟩ := hcut
        go_upto_if 37 with fail
        go_cut [4] (fun s4 wx => s4 = .int .i64 N ∧ wx = wc)
        case first =>
          cases zb with
          | true =>
            have hzn := Lib.hid (show N = ct + 1 from HZN.out)
            go_wp2_with fail
            go_meet
            exact ⟨by rw [hzn.out]; go_num, rfl⟩
          | false =>
            have hzn := Lib.hid (show N = ct from HZN.out)
            go_wp2_with fail
            go_meet
            exact ⟨by rw [hzn.out], rfl⟩
        case rest =>
          obtain ⟨rfl, rfl⟩ := hcut
          clear hlast hcnt hctk
          go_wp2_with fail
          refine (lawake_any wc hm1).mono ?_
          rintro e w5 ⟨rfl, hg5⟩
          have HR5 := Lib.hid (HR1.out.grows (Nat.le_refl _) hg5)
          have HG5 := Lib.hid (HG1.out.trans hg5)
          have hnn := hnS.out
          clear HG1 HR1 hg5 hm1
          go_wp2_with fail
          go_loopg [6] N (fun gk q wr => wr = w5 ∧ ∃ (k : Nat), q = .int .i64 k ∧ k ≤ N ∧ gk = N - k)
          case atStart => exact ⟨rfl, 0, rfl, by omega, rfl⟩
          case round =>
            obtain ⟨rfl, i, rfl, hi, hgi⟩ := hrel
            have HGI := Lib.hid hgi; clear hgi
            by_cases hlt : i < N
            · obtain ⟨ad, hA, had, p0⟩ := HR5.out.str hlt
              cases hA
              have i0 : (0 : Int) ≤ i := by omega
              have i1 : (i : Int) < N := by omega
              obtain ⟨x, hx⟩ : ∃ x, gs (linesT s) i = x := ⟨_, rfl⟩
              have hok := ok_facts (hgd.out i hlt) hx
              have hxs : x.size ≤ 3000 := by
                have h1 := gs_flat (l := linesT s) (i := i) (by rw [HN.out]; exact hlt)
                rw [hx, flat_lines] at h1
                omega
              rw [hx, adr0] at p0
              clear hx
              have hx0 := hok.1
              have hno := Lib.hid hok.2.1
              have hend := Lib.hid (hok.2.2 hx0)
              clear hok
              go_upto_block 4 with fail
              go_cut [8] (fun s8 wx => wx = wr)
              case first =>
                go_wp2_with fail
                go_loopg [8] x.size (fun gk2 q wq => wq = wr ∧ ∃ (j : Nat), q = .int .i64 j ∧ j + 1 ≤ x.size ∧ gk2 = x.size - j)
                case atStart => exact ⟨rfl, 0, rfl, by omega, rfl⟩
                case round =>
                  obtain ⟨rfl, j, rfl, hj, hgj⟩ := hrel
                  have HGJ := Lib.hid hgj; clear hgj
                  by_cases hjl : j + 1 < x.size
                  · have j0 : (0 : Int) ≤ j := by omega
                    have j1 : (j : Int) < (x.size : Int) - 1 := by omega
                    have j2 : (j : Int) < x.size := by omega
                    have hb := hno.out j hjl
                    go_wp2_with fail
                    go_roundg (x.size - (j + 1))
                    case measure => rw [HGJ.out]; omega
                    case rel => exact ⟨rfl, j + 1, by go_num, by omega, rfl⟩
                  · have j1 : ¬ ((j : Int) < (x.size : Int) - 1) := by omega
                    go_wp2_with fail
                    go_meet
                    exact rfl
              case rest =>
                subst hcut
                have x1 : ((x.size : Int) == 0) = false := by rw [beq_eq_false_iff_ne]; omega
                by_cases hlast : i + 1 < N
                · have i2 : (i : Int) < (N : Int) - 1 := by omega
                  have hb := hend.out hlast
                  go_wp2_with fail
                  go_roundg (N - (i + 1))
                  case measure => rw [HGI.out]; omega
                  case rel => exact ⟨rfl, i + 1, by go_num, by omega, rfl⟩
                · have i2 : ¬ ((i : Int) < (N : Int) - 1) := by omega
                  go_wp2_with fail
                  go_roundg (N - (i + 1))
                  case measure => rw [HGI.out]; omega
                  case rel => exact ⟨rfl, i + 1, by go_num, by omega, rfl⟩
            · have i1 : ¬ ((i : Int) < N) := by omega
              go_wp2_with fail
              go_ret
              exact ⟨rfl, HG5.out⟩
end Go.Proofs.YtmfgbkbbmeedjaaDoor
