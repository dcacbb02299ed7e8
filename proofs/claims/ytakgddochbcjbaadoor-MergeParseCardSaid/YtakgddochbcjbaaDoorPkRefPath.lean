/- The document's Parts, Path, Within, Clash. -/
import Derived.Test.YtakgddochbcjbaaDoorPkPath
namespace Go.Proofs.YtakgddochbcjbaaDoor
open Go.RowKit Go.Deep Go.MapKept

/-- how far the document's Parts is: what lies cut, and what of the text stands open -/
def CutT (c : UInt8) (save : Nat) (L : List UInt8) (i from_ : Nat) (ys : List ByteArray) : Prop :=
  from_ ≤ i ∧ i ≤ L.length ∧ (sp c save L).map tx = ys ++ (sp c save (L.drop from_)).map tx ∧ c ∉ (L.take i).drop from_
theorem CutT.start (c : UInt8) (save : Nat) (L : List UInt8) : CutT c save L 0 0 [] := ⟨Nat.le_refl _, Nat.zero_le _, rfl, by simp⟩
theorem CutT.pass {c : UInt8} {save : Nat} {L : List UInt8} {i from_ : Nat} {ys : List ByteArray} {b : UInt8} (h : CutT c save L i from_ ys) (hi : L[i]? = some b) (hb : b ≠ c) : CutT c save L (i + 1) from_ ys := by
  obtain ⟨h1, h2, h3, h4⟩ := h
  obtain ⟨hl, e⟩ := List.getElem?_eq_some_iff.1 hi
  refine ⟨by omega, by omega, h3, ?_⟩
  rw [List.take_succ_eq_append_getElem hl, List.drop_append_of_le_length (by simp; omega), e]
  simp only [List.mem_append, List.mem_singleton, not_or]
  exact ⟨h4, fun h => hb h.symm⟩
theorem CutT.rest {c : UInt8} {save : Nat} {L : List UInt8} {i from_ : Nat} {ys : List ByteArray} (h : CutT c save L i from_ ys) (hi : L[i]? = some c) :
    L.drop from_ = (L.take i).drop from_ ++ c :: L.drop (i + 1) := by
  obtain ⟨hl, e⟩ := List.getElem?_eq_some_iff.1 hi
  have : L = L.take i ++ c :: L.drop (i + 1) := by
    rw [← e, List.getElem_cons_drop, List.take_append_drop]
  conv => lhs; rw [this, List.drop_append_of_le_length (by simp; have := h.1; omega)]
theorem CutT.cut0 {c : UInt8} {L : List UInt8} {i from_ : Nat} {ys : List ByteArray} (h : CutT c 0 L i from_ ys) (hi : L[i]? = some c) : CutT c 0 L (i + 1) (i + 1) (ys ++ [tx ((L.take i).drop from_)]) := by
  obtain ⟨hl, e⟩ := List.getElem?_eq_some_iff.1 hi
  refine ⟨Nat.le_refl _, by omega, ?_, by rw [List.drop_take_self]; simp⟩
  rw [h.2.2.1, h.rest hi, sp_at0 h.2.2.2, List.map_cons, List.append_assoc]
  rfl
theorem CutT.cut1 {c : UInt8} {L : List UInt8} {i from_ : Nat} {ys : List ByteArray} (h : CutT c 1 L i from_ ys) (hi : L[i]? = some c) : CutT c 1 L (i + 1) (i + 1) (ys ++ [tx ((L.take (i + 1)).drop from_)]) := by
  obtain ⟨hl, e⟩ := List.getElem?_eq_some_iff.1 hi
  refine ⟨Nat.le_refl _, by omega, ?_, by rw [List.drop_take_self]; simp⟩
  have e2 : (L.take (i + 1)).drop from_ = (L.take i).drop from_ ++ [c] := by
    rw [List.take_succ_eq_append_getElem hl, List.drop_append_of_le_length (by simp; have := h.1; omega), e]
  rw [h.2.2.1, h.rest hi, sp_at1 h.2.2.2, List.map_cons, List.append_assoc, e2]
  rfl
theorem CutT.last {c : UInt8} {save : Nat} {L : List UInt8} {from_ : Nat} {ys : List ByteArray} (h : CutT c save L L.length from_ ys) : (sp c save L).map tx = ys ++ [tx (L.drop from_)] := by
  have h4 := h.2.2.2
  rw [List.take_length] at h4
  rw [h.2.2.1, sp_no h4]
  rfl
theorem CutT.len {c : UInt8} {save : Nat} {L : List UInt8} {i from_ : Nat} {ys : List ByteArray} (h : CutT c save L i from_ ys) : ys.length ≤ L.length := by
  have h1 := congrArg List.length h.2.2.1
  have h2 := sp_len c save L
  have h3 := sp_len c save (L.drop from_)
  have h4 := List.count_le_length (a := c) (l := L)
  simp only [List.length_map, List.length_append] at h1
  omega

theorem byte_get {p : ByteArray} {k : Nat} (h : k < p.size) : p.data.toList[k]? = some p[k] := by
  rw [Array.getElem?_toList]
  exact Array.getElem?_eq_getElem h
theorem byte_is {b : UInt8} {n : Nat} (hn : n < 256) : (((b.toNat : Int) == (n : Int)) = true) ↔ b = UInt8.ofNat n := by
  rw [beq_iff_eq]
  constructor
  · intro h
    have h1 : b.toNat = n := by omega
    rw [← h1]; simp
  · rintro rfl
    simp; omega

set_option maxRecDepth 100000 in
set_option maxHeartbeats 1000000 in
theorem rparts_any (p : ByteArray) (w : World) (hs : p.size ≤ 1000000) :
    Calls Tryd.prog 108 #[.string p] w fun e w' => ∃ v, e = .returned v ∧ w'.ownsRow w.heap.size 9 1 v (pieces 47 0 p).length (strs (pieces 47 0 p)) ∧ Grows w w' := by
  have hL := Lib.hid (show p.data.toList.length = p.size from Array.length_toList)
  obtain ⟨s0, hs0, hs1, hs2, hs3⟩ := info_parts Tryd.infoStr
  go_enter Tryd.func108, Tryd.ntmps108
  go_wp2
  go_loopg [5, 4, 3] p.size (fun gk q f v wr => ∃ (k fr : Nat) (ys : List ByteArray), q = .int .i64 k ∧ f = .int .i64 fr ∧ k ≤ p.size ∧ fr ≤ k ∧ gk = p.size - k ∧ CutT 47 0 p.data.toList k fr ys ∧ ys.length ≤ p.size ∧ wr.ownsRow w.heap.size 9 1 v ys.length (strs ys) ∧ Grows w wr)
  case atStart => exact ⟨0, 0, [], rfl, rfl, by omega, by omega, rfl, CutT.start _ _ _, by simp, World.ownsRow_nil _ _ _ _, Grows.refl _⟩
  case round =>
    obtain ⟨k, fr, ys, rfl, rfl, hk, hfk, hgk, hcut, hyl, hown, hgr⟩ := hrel
    have HG := Lib.hid hgk; clear hgk
    have HC := Lib.hid hcut; clear hcut
    have hsz := hgr.size
    by_cases hlt : k < p.size
    · have k0 : (0 : Int) ≤ k := by omega
      have k1 : (k : Int) < p.size := by omega
      have hget := Lib.hid (byte_get hlt)
      cases hb : ((p[k].toNat : Int) == 47) with
      | true =>
        have hget2 := Lib.hid (show p.data.toList[k]? = some 47 by rw [hget.out]; exact congrArg some ((byte_is (n := 47) (by decide)).1 hb))
        have hcut2 := Lib.hid (HC.out.cut0 hget2.out)
        have hex := Lib.hid (tx_ext p fr k)
        go_wp2_with (at_builtin; refine wpList_push rfl (.tmp 16) (.tmp 21) _ rfl (w.heap.size) 9 s0 _ 1 16 Tryd.underlying28 hs0 hs1 hs2 hs3 rfl (by decide) _ _ _ rfl ((hown).alloc _) ⟨(wr).heap.size, 0, none⟩ 1 1 [.string (p.extract fr k)] rfl rfl (cell_one_new _ _ _) (by intro u hu; simp at hu; subst hu; rfl) (by simp only [maxLen]; omega) (by omega) (by simp; omega) ?_; intro v' w1 hown1 hb1; have hgr1 : Grows w w1 := Below.trans (hgr.alloc _) hb1)
        go_roundg (p.size - (k + 1))
        case measure => rw [HG.out]; omega
        case rel => exact ⟨k + 1, k + 1, ys ++ [p.extract fr k], by go_num, by go_num, by omega, by omega, rfl, by rw [hex.out]; exact hcut2.out, by have := hcut2.out.len; rw [hL.out] at this; simpa using this, by rw [strs_append, strs_one, List.length_append]; exact hown1, hgr1⟩
      | false =>
        have hne := Lib.hid (show p[k] ≠ 47 from fun h => Bool.noConfusion (((byte_is (n := 47) (by decide)).2 h).symm.trans hb))
        have hcut2 := Lib.hid (HC.out.pass hget.out hne.out)
        go_wp2
        go_roundg (p.size - (k + 1))
        case measure => rw [HG.out]; omega
        case rel => exact ⟨k + 1, fr, ys, by go_num, rfl, by omega, by omega, rfl, hcut2.out, hyl, hown, hgr⟩
    · have hkp : k = p.size := by omega
      subst hkp
      have hlast := Lib.hid (show pieces 47 0 p = ys ++ [p.extract fr p.size] by
        have h1 := HC.out
        rw [← hL.out] at h1
        rw [tx_ext, pieces, h1.last, ← hL.out, List.take_length])
      go_wp2_with (at_builtin; refine wpList_push rfl (.tmp 25) (.tmp 29) _ rfl (w.heap.size) 9 s0 _ 1 16 Tryd.underlying28 hs0 hs1 hs2 hs3 rfl (by decide) _ _ _ rfl ((hown).alloc _) ⟨(wr).heap.size, 0, none⟩ 1 1 [.string (p.extract fr p.size)] rfl rfl (cell_one_new _ _ _) (by intro u hu; simp at hu; subst hu; rfl) (by simp only [maxLen]; omega) (by omega) (by simp; omega) ?_; intro v' w1 hown1 hb1; have hgr1 : Grows w w1 := Below.trans (hgr.alloc _) hb1)
      go_ret
      exact ⟨_, rfl, by rw [hlast.out, strs_append, strs_one, List.length_append]; exact hown1, hgr1⟩

theorem any_all {α : Type} {l : List α} {f : α → Bool} (h : (l.take l.length).any f = false) : l.any f = false := by rwa [List.take_length] at h
set_option maxRecDepth 100000 in
set_option maxHeartbeats 2000000 in
theorem rpath_any (p : ByteArray) (w : World) :
    Calls Tryd.prog 72 #[.string p] w fun e w' => e = .returned (.bool (rightP p)) ∧ Grows w w' := by
  have hL := Lib.hid (show p.data.toList.length = p.size from Array.length_toList)
  have hf := Lib.hid (show rightP p = (decide (1 ≤ p.size ∧ p.size ≤ 100) && (!p.data.toList.any badB && !(pieces 47 0 p).any badS)) from rfl)
  by_cases h0 : p.size < 1
  · have k0 : (p.size : Int) < 1 := by omega
    go_enter Tryd.func72, Tryd.ntmps72
    go_wp2_with fail
    go_ret
    have hd : decide (1 ≤ p.size ∧ p.size ≤ 100) = false := decide_eq_false (by omega)
    exact ⟨ret_bool (by rw [hf.out, hd]; rfl), Grows.refl _⟩
  · have k0 : ¬ ((p.size : Int) < 1) := by omega
    by_cases h1 : 100 < p.size
    · have k1 : (p.size : Int) > 100 := by omega
      go_enter Tryd.func72, Tryd.ntmps72
      go_wp2_with fail
      go_ret
      have hd : decide (1 ≤ p.size ∧ p.size ≤ 100) = false := decide_eq_false (by omega)
      exact ⟨ret_bool (by rw [hf.out, hd]; rfl), Grows.refl _⟩
    · have k1 : ¬ ((p.size : Int) > 100) := by omega
      have hd := Lib.hid (show decide (1 ≤ p.size ∧ p.size ≤ 100) = true by simp; omega)
      go_enter Tryd.func72, Tryd.ntmps72
      go_wp2_with fail
      go_loopg [3] p.size (fun gk q wr => w = wr ∧ ∃ (k : Nat), q = .int .i64 k ∧ k ≤ p.size ∧ gk = p.size - k ∧ (p.data.toList.take k).any badB = false)
      case atStart => exact ⟨rfl, 0, rfl, by omega, rfl, rfl⟩
      case round =>
        obtain ⟨rfl, k, rfl, hk, hgk, hno⟩ := hrel
        have HG := Lib.hid hgk; clear hgk
        have HN := Lib.hid hno; clear hno
        by_cases hlt : k < p.size
        · have k2 : (0 : Int) ≤ k := by omega
          have k3 : (k : Int) < p.size := by omega
          have hget := Lib.hid (byte_get hlt)
          have hct := Lib.hid (any_take badB hget.out)
          by_cases h3 : p[k].toNat < 33
          · have h4 : (p[k].toNat : Int) < 33 := by omega
            have hf2 := Lib.hid (show rightP p = false by
              rw [hf.out, hd.out, any_of badB hget.out (by simp [badB, h3])]; rfl)
            go_wp2_with fail
            go_ret
            exact ⟨ret_bool hf2.out.symm, Grows.refl _⟩
          · have h4 : ¬ ((p[k].toNat : Int) < 33) := by omega
            by_cases h5 : 126 < p[k].toNat
            · have h6 : (p[k].toNat : Int) > 126 := by omega
              have hf2 := Lib.hid (show rightP p = false by
                rw [hf.out, hd.out, any_of badB hget.out (by simp [badB, h5])]; rfl)
              go_wp2_with fail
              go_ret
              exact ⟨ret_bool hf2.out.symm, Grows.refl _⟩
            · have h6 : ¬ ((p[k].toNat : Int) > 126) := by omega
              have hf2 := Lib.hid (show (p.data.toList.take (k + 1)).any badB = false by rw [hct.out, HN.out]; simp [badB, h3, h5])
              go_wp2_with fail
              go_roundg (p.size - (k + 1))
              case measure => rw [HG.out]; omega
              case rel => exact ⟨rfl, k + 1, by go_num, by omega, rfl, hf2.out⟩
        · have k3 : ¬ ((k : Int) < p.size) := by omega
          have hf2 := Lib.hid (show rightP p = !(pieces 47 0 p).any badS by
            have hh := HN.out
            rw [List.take_of_length_le (by rw [hL.out]; omega)] at hh
            rw [hf.out, hd.out, hh]; rfl)
          have hcnt := Lib.hid (show (pieces 47 0 p).length ≤ 1000 by rw [pieces_len]; have := count_size 47 p; omega)
          go_wp2_with fail
          refine (rparts_any p w (by omega)).mono ?_
          rintro e w1 ⟨v, rfl, hown, hg⟩
          obtain ⟨N, hN⟩ : ∃ N, (pieces 47 0 p).length = N := ⟨_, rfl⟩
          rw [hN] at hown hcnt
          obtain ⟨A, c, rfl, _, _⟩ := own_form hown
          have hr := Lib.hid (Reads.of_own hown)
          have HG1 := Lib.hid hg
          clear hown hg
          have HNN := Lib.hid hN
          clear hN
          have hcc := hcnt.out
          go_wp2_with fail
          go_loopg [5] N (fun gk q wr => w1 = wr ∧ ∃ (k : Nat), q = .int .i64 k ∧ k ≤ N ∧ gk = N - k ∧ ((pieces 47 0 p).take k).any badS = false)
          case atStart => exact ⟨rfl, 0, rfl, by omega, rfl, rfl⟩
          case round =>
            obtain ⟨rfl, k, rfl, hk, hgk, hno⟩ := hrel
            have HG := Lib.hid hgk; clear hgk
            have HN := Lib.hid hno; clear hno
            by_cases hlt : k < N
            · obtain ⟨ad, rfl, had, p0⟩ := hr.out.str hlt
              have hs := Lib.hid (gs_some (xs := pieces 47 0 p) (k := k) (by rw [HNN.out]; exact hlt))
              have hct := Lib.hid (any_take badS hs.out)
              have k0 : (0 : Int) ≤ k := by omega
              have k1 : (k : Int) < N := by omega
              have hbl := Lib.hid (badS_list (gs (pieces 47 0 p) k))
              cases e1 : (gs (pieces 47 0 p) k).toList.isEmpty with
              | true =>
                have hf3 := Lib.hid (show rightP p = false by rw [hf2.out, any_of badS hs.out (by rw [hbl.out, e1]; rfl)]; rfl)
                go_wp2_with fail
                go_ret
                exact ⟨ret_bool hf3.out.symm, HG1.out⟩
              | false =>
                cases e2 : ((gs (pieces 47 0 p) k).toList == [46]) with
                | true =>
                  have hf3 := Lib.hid (show rightP p = false by rw [hf2.out, any_of badS hs.out (by rw [hbl.out, e1, e2]; rfl)]; rfl)
                  go_wp2_with fail
                  go_ret
                  exact ⟨ret_bool hf3.out.symm, HG1.out⟩
                | false =>
                  cases e3 : ((gs (pieces 47 0 p) k).toList == [46, 46]) with
                  | true =>
                    have hf3 := Lib.hid (show rightP p = false by rw [hf2.out, any_of badS hs.out (by rw [hbl.out, e1, e2, e3]; rfl)]; rfl)
                    go_wp2_with fail
                    go_ret
                    exact ⟨ret_bool hf3.out.symm, HG1.out⟩
                  | false =>
                    have hf3 := Lib.hid (show ((pieces 47 0 p).take (k + 1)).any badS = false by rw [hct.out, HN.out, hbl.out, e1, e2, e3]; rfl)
                    go_wp2_with fail
                    go_roundg (N - (k + 1))
                    case measure => rw [HG.out]; omega
                    case rel => exact ⟨rfl, k + 1, by go_num, by omega, rfl, hf3.out⟩
            · have hf3 := Lib.hid (show rightP p = true by
                have hh := HN.out
                rw [List.take_of_length_le (by rw [HNN.out]; omega)] at hh
                rw [hf2.out, hh]; rfl)
              have k1 : ¬ ((k : Int) < N) := by omega
              go_wp2_with fail
              go_ret
              exact ⟨ret_bool hf3.out.symm, HG1.out⟩

theorem hasPrefix_iff (s p : List UInt8) : Lib.hasPrefix s p = true ↔ p <+: s := by
  unfold Lib.hasPrefix
  exact List.isPrefixOf_iff_prefix
theorem dirT_data (d : ByteArray) : (dirT d).data.toList = d.data.toList ++ [47] := by
  rw [dirT, ByteArray.data_append, Array.toList_append]
theorem withinP_iff (p d : ByteArray) : withinP p d = true ↔ ∃ t, p.data.toList = d.data.toList ++ 47 :: t := by
  rw [withinP, hasPrefix_iff, dirT_data]
  constructor
  · rintro ⟨t, ht⟩
    exact ⟨t, by rw [← ht]; simp⟩
  · rintro ⟨t, ht⟩
    exact ⟨t, by rw [ht]; simp⟩
theorem within_list (p d : ByteArray) : withinP p d = (decide (d.size < p.size) && ((p.extract 0 d.size).toList == d.toList && (p.data.toList[d.size]? == some 47))) := by
  have hd : d.data.toList.length = d.size := Array.length_toList
  have hp : p.data.toList.length = p.size := Array.length_toList
  rw [Bool.eq_iff_iff, withinP_iff, ← beq_toListBytes, tx_ext, List.drop_zero]
  simp only [Bool.and_eq_true, decide_eq_true_eq, beq_iff_eq]
  rw [bytes_beq]
  constructor
  · rintro ⟨t, ht⟩
    refine ⟨?_, ?_, ?_⟩
    · have := congrArg List.length ht
      simp only [List.length_append, List.length_cons] at this
      omega
    · rw [ht, List.take_left' hd, tx_data]
    · rw [ht, ← hd, List.getElem?_append_right (Nat.le_refl _), Nat.sub_self]; rfl
  · rintro ⟨h1, h2, h3⟩
    have e : p.data.toList.take d.size = d.data.toList := by
      have h4 := congrArg (fun z : ByteArray => z.data.toList) h2
      simpa only [data_tx] using h4
    obtain ⟨hl, e3⟩ := List.getElem?_eq_some_iff.1 h3
    refine ⟨p.data.toList.drop (d.size + 1), ?_⟩
    rw [← e, ← e3, List.getElem_cons_drop, List.take_append_drop]
set_option maxRecDepth 100000 in
set_option maxHeartbeats 1000000 in
theorem rwithin_any (p d : ByteArray) (w : World) (hd : d.size ≤ 1000000) : Calls Tryd.prog 133 #[.string p, .string d] w fun e w' => e = .returned (.bool (withinP p d)) ∧ w = w' := by
  have hw := Lib.hid (within_list p d)
  by_cases h1 : d.size < p.size
  · have k1 : (p.size : Int) > d.size := by omega
    have k0 : (0 : Int) ≤ d.size := by omega
    have k2 : (d.size : Int) ≤ p.size := by omega
    have hget := Lib.hid (byte_get h1)
    cases h2 : ((p.extract 0 d.size).toList == d.toList) with
    | true =>
      have hw2 := Lib.hid (show withinP p d = ((p[d.size].toNat : Int) == 47) by
        rw [hw.out, h2, hget.out, decide_eq_true h1]
        rw [Bool.eq_iff_iff]
        simp only [Bool.true_and, beq_iff_eq, Option.some.injEq]
        exact (byte_is (b := p[d.size]) (n := 47) (by decide)).symm.trans (by rw [beq_iff_eq]; rfl))
      go_enter Tryd.func133, Tryd.ntmps133
      go_wp2_with fail
      go_ret
      exact ⟨ret_bool hw2.out.symm, rfl⟩
    | false =>
      have hw2 := Lib.hid (show withinP p d = false by rw [hw.out, h2]; simp)
      go_enter Tryd.func133, Tryd.ntmps133
      go_wp2_with fail
      go_ret
      exact ⟨ret_bool hw2.out.symm, rfl⟩
  · have k1 : ¬ ((p.size : Int) > d.size) := by omega
    have hw2 := Lib.hid (show withinP p d = false by rw [hw.out, decide_eq_false h1]; rfl)
    go_enter Tryd.func133, Tryd.ntmps133
    go_wp2_with fail
    go_ret
    exact ⟨ret_bool hw2.out.symm, rfl⟩

theorem rclash_any (a b : ByteArray) (w : World) (ha : a.size ≤ 1000000) (hb : b.size ≤ 1000000) : Calls Tryd.prog 107 #[.string a, .string b] w fun e w' => e = .returned (.bool (clashP a b)) ∧ w = w' := by
  cases h1 : (a == b) with
  | true =>
    have hf := Lib.hid (show clashP a b = true by rw [clashP, h1]; rfl)
    rw [beq_toListBytes] at h1
    go_enter Tryd.func107, Tryd.ntmps107
    go_wp2_with fail
    go_ret
    exact ⟨ret_bool hf.out.symm, rfl⟩
  | false =>
    cases h2 : withinP a b with
    | true =>
      have hf := Lib.hid (show clashP a b = true by rw [clashP, h1, h2]; rfl)
      rw [beq_toListBytes] at h1
      go_enter Tryd.func107, Tryd.ntmps107
      go_wp2_with fail
      refine (rwithin_any a b w hb).mono ?_
      rintro e w' ⟨rfl, rfl⟩
      rw [h2]
      go_wp2_with fail
      go_ret
      exact ⟨ret_bool hf.out.symm, rfl⟩
    | false =>
      have hf := Lib.hid (show clashP a b = withinP b a by rw [clashP, h1, h2]; rfl)
      rw [beq_toListBytes] at h1
      go_enter Tryd.func107, Tryd.ntmps107
      go_wp2_with fail
      refine (rwithin_any a b w hb).mono ?_
      rintro e w' ⟨rfl, rfl⟩
      rw [h2]
      go_wp2_with fail
      refine (rwithin_any b a w ha).mono ?_
      rintro e w' ⟨rfl, rfl⟩
      go_wp2_with fail
      go_ret
      exact ⟨ret_bool hf.out.symm, rfl⟩
end Go.Proofs.YtakgddochbcjbaaDoor
