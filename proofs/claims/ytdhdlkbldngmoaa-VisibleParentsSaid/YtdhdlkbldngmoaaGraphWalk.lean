/- The walks of package graph: each function returns what the plain meaning says; what was there stays. -/
import Derived.Test.YtdhdlkbldngmoaaGraphSpec
namespace Go.Proofs.Ytdhdlkbldngmoaa
open Go.RowKit

set_option maxHeartbeats 400000 in
theorem right_any (B : Nat) (A : Option Addr) (n c : Nat) (xs : List Int) (w : World) (h : Reads w B 1 A n (ints xs)) (hn : n ≤ maxLen) :
    Calls Try.prog 20 #[.slice A n c] w fun e w' => e = .returned (.bool (right xs)) ∧ w = w' := by
  unfold maxLen at hn
  have HL := Lib.hid h.intLen
  have H := Lib.hid h; clear h
  go_enter Try.func20, Try.ntmps20
  go_wp2
  go_loop [7] (fun i => ∃ k : Nat, k ≤ n ∧ i = .int .i64 k ∧ rightTo xs k = true) (fun i => n - (intOf i).toNat)
  case atStart => exact ⟨0, Nat.zero_le _, rfl, rfl⟩
  case round =>
    obtain ⟨k, hk, rfl, hr⟩ := hrel
    have HR := Lib.hid hr; clear hr
    by_cases hlt : k < n
    · obtain ⟨ad, rfl, _, hc⟩ := H.out.int hlt
      by_cases h1 : -1 ≤ gi xs k
      · by_cases h2 : gi xs k < k
        · go_wp2
          go_round
          case rel => exact ⟨k+1, by omega, by go_num, by rw [rightTo_succ, HR.out]; simp [h1, h2]⟩
          case measure => simp [intOf]; omega
        · have hf := Lib.hid (rightTo_false (xs := xs) hlt (by omega))
          go_wp2
          go_ret
          exact ⟨ret_bool (by rw [right, HL.out, hf.out]), rfl⟩
      · have hf := Lib.hid (rightTo_false (xs := xs) hlt (by omega))
        go_wp2
        go_ret
        exact ⟨ret_bool (by rw [right, HL.out, hf.out]), rfl⟩
    · go_wp2
      go_ret
      exact ⟨ret_bool (by rw [right, HL.out, show n = k by omega, HR.out]), rfl⟩

set_option maxHeartbeats 400000 in
theorem is_any (B : Nat) (A : Option Addr) (n c : Nat) (xs : List Int) (i : Int) (w : World) (h : Reads w B 1 A n (ints xs)) (hn : n ≤ maxLen) :
    Calls Try.prog 39 #[.slice A n c, .int .i64 i] w fun e w' => e = .returned (.bool (isB xs i)) ∧ w = w' := by
  have HL := Lib.hid h.intLen
  have H := Lib.hid h; clear h
  by_cases h0 : 0 ≤ i
  · by_cases h1 : i < n
    · have hf := Lib.hid (show isB xs i = right xs by rw [isB, HL.out]; simp [h0, h1])
      go_enter Try.func39, Try.ntmps39
      go_wp2_with (go_at_call 20; refine (right_any B _ _ _ xs _ H.out hn).mono ?_; rintro e w' ⟨rfl, rfl⟩)
      go_ret
      exact ⟨ret_bool hf.out.symm, rfl⟩
    · have hf := Lib.hid (show isB xs i = false by rw [isB, HL.out]; simp; omega)
      go_enter Try.func39, Try.ntmps39
      go_wp2
      go_ret
      exact ⟨ret_bool hf.out.symm, rfl⟩
  · have hf := Lib.hid (show isB xs i = false by rw [isB, HL.out]; simp; omega)
    go_enter Try.func39, Try.ntmps39
    go_wp2
    go_ret
    exact ⟨ret_bool hf.out.symm, rfl⟩

set_option maxHeartbeats 400000 in
theorem chain_any (B : Nat) (A : Option Addr) (n c : Nat) (xs : List Int) (i : Int) (w : World) (h : Reads w B 1 A n (ints xs)) (hB : B ≤ w.heap.size) (hn : n ≤ 1000000000000) :
    Calls Try.prog 11 #[.slice A n c, .int .i64 i] w fun e w' => ∃ v, e = .returned v ∧ w'.ownsRow w.heap.size 3 1 v (chain xs i).length (ints (chain xs i)) ∧ Grows w w' := by
  have HL := Lib.hid h.intLen
  have H := Lib.hid h; clear h
  cases hb : isB xs i with
  | false =>
    have hf := Lib.hid (chain_none hb)
    have HB := Lib.hid hb; clear hb
    go_enter Try.func11, Try.ntmps11
    go_wp2_with (go_at_call 39; refine (is_any B _ _ _ xs _ _ H.out (by simp only [maxLen]; omega)).mono ?_; rintro e w' ⟨rfl, rfl⟩; rw [HB.out])
    go_ret
    rw [hf.out]
    exact ⟨_, rfl, World.ownsRow_nil _ _ _ _, Grows.refl _⟩
  | true =>
    obtain ⟨i0, hr0⟩ : ∃ i0 : Int, i0 = i := ⟨i, rfl⟩
    have hf := Lib.hid (chain_up hb)
    obtain ⟨q0, q1, q2⟩ := isB_iff.1 hb
    have HR := Lib.hid q2; clear q2
    have HB := Lib.hid hb; clear hb
    have q1' : i < n := by rw [HL.out] at q1; exact q1
    clear q1
    obtain ⟨t0, hi0, hz0, hz1, hz2⟩ := info_parts Try.infoInt
    go_enter Try.func11, Try.ntmps11
    go_wp2_with (go_at_call 39; refine (is_any B _ _ _ xs _ _ H.out (by simp only [maxLen]; omega)).mono ?_; rintro e w' ⟨rfl, rfl⟩; rw [HB.out])
    go_loopg [1, 5] (i + 1).toNat (fun gk q v wr => ∃ (j : Int) (ys : List Int), q = .int .i64 j ∧ -1 ≤ j ∧ j ≤ i ∧ gk = (j + 1).toNat ∧ wr.ownsRow w.heap.size 3 1 v ys.length (ints ys) ∧ Grows w wr ∧ ys.length + j ≤ i ∧ up xs i = ys ++ up xs j)
    case atStart => exact ⟨i, [], rfl, by omega, by omega, rfl, World.ownsRow_nil _ _ _ _, Grows.refl _, by simp, by simp⟩
    case round =>
      obtain ⟨j, ys, rfl, hj0, hj1, hgk, hown, hgr, hlen, hup⟩ := hrel
      have HG := Lib.hid hgk; clear hgk
      have HU := Lib.hid hup; clear hup
      have hsz := hgr.size
      by_cases hj : j = -1
      · subst hj
        have ee : (decide ((-1 : Int) = -1)) = true := rfl
        go_wp2
        go_ret
        refine ⟨_, rfl, ?_, hgr⟩
        have e2 : chain xs i = ys := by rw [hf.out, HU.out, up_neg (by omega), List.append_nil]
        rw [e2]; exact hown
      · obtain ⟨m, rfl⟩ : ∃ m : Nat, j = m := ⟨j.toNat, by omega⟩
        have hm : m < n := by omega
        obtain ⟨ad, rfl, had, hc⟩ := ((H.out).grows hB hgr).int hm
        have hne : ((m : Int) == -1) = false := by simp
        have hst := Lib.hid (up_step HR.out (i := (m : Int)) (by omega) (by rw [HL.out]; omega))
        have hp := right_at HR.out (k := m) (by rw [HL.out]; omega)
        go_wp2_with (at_builtin; refine wpList_push rfl (.tmp 15) (.tmp 17) _ rfl w.heap.size 3 t0 _ 1 8 Try.underlying23 hi0 hz0 hz1 hz2 rfl (by decide) _ ys.length (ints ys) rfl (hown.alloc _) ⟨wr.heap.size, 0, none⟩ 1 1 [.int .i64 m] rfl rfl (cell_one_new _ _ _) (by intro u hu; simp at hu; subst hu; rfl) (by simp only [maxLen]; omega) (by omega) (by simp; omega) ?_; intro v' w1 hown1 hb1; have hgr1 : Grows w w1 := Below.trans (hgr.alloc _) hb1; have hc1 := Reads.intAt (H.out.grows hB hgr1) hm)
        go_roundg (gi xs m + 1).toNat
        case measure => rw [HG.out]; omega
        case rel => exact ⟨gi xs m, ys ++ [(m : Int)], rfl, hp.1, by omega, rfl, by rw [ints_append, ints_one, List.length_append]; exact hown1, hgr1, by simp; omega, by rw [HU.out, hst.out]; simp⟩

set_option maxHeartbeats 400000 in
theorem above_any (B : Nat) (A : Option Addr) (n c : Nat) (xs : List Int) (a b : Int) (w : World) (h : Reads w B 1 A n (ints xs)) (hn : n ≤ 1000000000000) :
    Calls Try.prog 16 #[.slice A n c, .int .i64 a, .int .i64 b] w fun e w' => e = .returned (.bool (above xs a b)) ∧ w = w' := by
  have HL := Lib.hid h.intLen
  have H := Lib.hid h; clear h
  cases ha : isB xs a with
  | false =>
    have hf := Lib.hid (above_not (b := b) ha)
    have HA := Lib.hid ha; clear ha
    go_enter Try.func16, Try.ntmps16
    go_wp2_with (go_at_call 39; refine (is_any B _ _ _ xs _ _ H.out (by simp only [maxLen]; omega)).mono ?_; rintro e w' ⟨rfl, rfl⟩; rw [HA.out])
    go_ret
    exact ⟨ret_bool hf.out.symm, rfl⟩
  | true =>
    cases hb : isB xs b with
    | false =>
      have hf := Lib.hid (above_none (a := a) hb)
      have HA := Lib.hid ha; clear ha
      have HB := Lib.hid hb; clear hb
      go_enter Try.func16, Try.ntmps16
      go_wp2_with (go_at_call 39; refine (is_any B _ _ _ xs _ _ H.out (by simp only [maxLen]; omega)).mono ?_; rintro e w' ⟨rfl, rfl⟩; first | rw [HA.out] | rw [HB.out])
      go_ret
      exact ⟨ret_bool hf.out.symm, rfl⟩
    | true =>
      obtain ⟨a0, a1, hr⟩ := isB_iff.1 ha
      obtain ⟨b0, b1, _⟩ := isB_iff.1 hb
      rw [HL.out] at a1 b1
      have HR := Lib.hid hr; clear hr
      have HA := Lib.hid ha; clear ha
      have HB := Lib.hid hb; clear hb
      go_enter Try.func16, Try.ntmps16
      go_wp2_with (go_at_call 39; refine (is_any B _ _ _ xs _ _ H.out (by simp only [maxLen]; omega)).mono ?_; rintro e w' ⟨rfl, rfl⟩; first | rw [HA.out] | rw [HB.out])
      go_loopg [2] (b + 1).toNat (fun gk q wr => wr = w ∧ ∃ j : Int, q = .int .i64 j ∧ -1 ≤ j ∧ j ≤ b ∧ gk = (j + 1).toNat ∧ above xs a b = above xs a j)
      case atStart => exact ⟨rfl, b, rfl, by omega, by omega, rfl, rfl⟩
      case round =>
        obtain ⟨rfl, j, rfl, hj0, hj1, hgk, hup⟩ := hrel
        have HG := Lib.hid hgk; clear hgk
        have HU := Lib.hid hup; clear hup
        by_cases hj : a < j
        · obtain ⟨m, rfl⟩ : ∃ m : Nat, j = m := ⟨j.toNat, by omega⟩
          have hm : m < n := by omega
          obtain ⟨ad, rfl, had, hc⟩ := H.out.int hm
          have hst := Lib.hid (above_gt (xs := xs) (a := a) (b := (m : Int)) (isB_iff.2 ⟨by omega, by rw [HL.out]; omega, HR.out⟩) a0 hj)
          have hp := right_at HR.out (k := m) (by rw [HL.out]; omega)
          go_wp2
          go_roundg (gi xs m + 1).toNat
          case measure => rw [HG.out]; omega
          case rel => exact ⟨rfl, gi xs m, rfl, hp.1, by omega, rfl, by rw [HU.out, hst.out]; simp⟩
        · have hf0 : above xs a b = (a == j) := by
            rw [HU.out]
            by_cases hjn : j < 0
            · rw [above_neg hjn, eq_comm, beq_eq_false_iff_ne]; omega
            · exact above_le (isB_iff.2 ⟨by omega, by rw [HL.out]; omega, HR.out⟩) (by omega)
          have hf := Lib.hid hf0; clear hf0
          go_wp2
          go_ret
          exact ⟨ret_bool hf.out.symm, rfl⟩

set_option maxHeartbeats 400000 in
theorem base_any (B : Nat) (A : Option Addr) (n c : Nat) (xs : List Int) (a b : Int) (w : World) (h : Reads w B 1 A n (ints xs)) (hn : n ≤ 1000000000000) :
    Calls Try.prog 14 #[.slice A n c, .int .i64 a, .int .i64 b] w fun e w' => e = .returned (.int .i64 (base xs a b)) ∧ w = w' := by
  have HL := Lib.hid h.intLen
  have H := Lib.hid h; clear h
  cases ha : isB xs a with
  | false =>
    have hf := Lib.hid (base_none (b := b) (.inl ha))
    have HA := Lib.hid ha; clear ha
    go_enter Try.func14, Try.ntmps14
    go_wp2_with (go_at_call 39; refine (is_any B _ _ _ xs _ _ H.out (by simp only [maxLen]; omega)).mono ?_; rintro e w' ⟨rfl, rfl⟩; rw [HA.out])
    go_ret
    exact ⟨ret_int hf.out.symm, rfl⟩
  | true =>
    cases hb : isB xs b with
    | false =>
      have hf := Lib.hid (base_none (a := a) (.inr hb))
      have HA := Lib.hid ha; clear ha
      have HB := Lib.hid hb; clear hb
      go_enter Try.func14, Try.ntmps14
      go_wp2_with (go_at_call 39; refine (is_any B _ _ _ xs _ _ H.out (by simp only [maxLen]; omega)).mono ?_; rintro e w' ⟨rfl, rfl⟩; first | rw [HA.out] | rw [HB.out])
      go_ret
      exact ⟨ret_int hf.out.symm, rfl⟩
    | true =>
      obtain ⟨a0, a1, hr⟩ := isB_iff.1 ha
      obtain ⟨b0, b1, _⟩ := isB_iff.1 hb
      rw [HL.out] at a1 b1
      have HR := Lib.hid hr; clear hr
      have HA := Lib.hid ha; clear ha
      have HB := Lib.hid hb; clear hb
      go_enter Try.func14, Try.ntmps14
      go_wp2_with (go_at_call 39; refine (is_any B _ _ _ xs _ _ H.out (by simp only [maxLen]; omega)).mono ?_; rintro e w' ⟨rfl, rfl⟩; first | rw [HA.out] | rw [HB.out])
      go_loopg [1, 2] (a + b + 2).toNat (fun gk p q wr => wr = w ∧ ∃ i j : Int, p = .int .i64 i ∧ q = .int .i64 j ∧ -1 ≤ i ∧ i < n ∧ -1 ≤ j ∧ j < n ∧ gk = (i + j + 2).toNat ∧ base xs a b = base xs i j)
      case atStart => exact ⟨rfl, a, b, rfl, rfl, by omega, by omega, by omega, by omega, rfl, rfl⟩
      case round =>
        obtain ⟨rfl, i, j, rfl, rfl, hi0, hi1, hj0, hj1, hgk, hup⟩ := hrel
        have HG := Lib.hid hgk; clear hgk
        have HU := Lib.hid hup; clear hup
        by_cases heq : i = j
        · subst heq
          have hf0 : base xs a b = i := by
            rw [HU.out]
            by_cases hin : i < 0
            · rw [base_none (.inl (by simp [isB]; omega))]; omega
            · exact base_same (isB_iff.2 ⟨by omega, by rw [HL.out]; omega, HR.out⟩)
          have hf := Lib.hid hf0; clear hf0
          go_wp2
          go_ret
          exact ⟨ret_int hf.out.symm, rfl⟩
        · have hne : (i != j) = true := by simpa using heq
          by_cases hgt : j < i
          · obtain ⟨m, rfl⟩ : ∃ m : Nat, i = m := ⟨i.toNat, by omega⟩
            have hm : m < n := by omega
            obtain ⟨ad, rfl, had, hc⟩ := H.out.int hm
            have hp := right_at HR.out (k := m) (by rw [HL.out]; omega)
            have hst0 : base xs (m : Int) j = base xs (gi xs m) j := by
              by_cases hjn : j < 0
              · rw [base_none (.inr (by simp [isB]; omega)), base_none (.inr (by simp [isB]; omega))]
              · exact base_left (isB_iff.2 ⟨by omega, by rw [HL.out]; omega, HR.out⟩) (isB_iff.2 ⟨by omega, by rw [HL.out]; omega, HR.out⟩) hgt
            have hst := Lib.hid hst0; clear hst0
            go_wp2
            go_roundg (gi xs m + j + 2).toNat
            case measure => rw [HG.out]; omega
            case rel => exact ⟨rfl, gi xs m, j, rfl, rfl, hp.1, by omega, hj0, hj1, rfl, by rw [HU.out, hst.out]⟩
          · obtain ⟨m, rfl⟩ : ∃ m : Nat, j = m := ⟨j.toNat, by omega⟩
            have hm : m < n := by omega
            obtain ⟨ad, rfl, had, hc⟩ := H.out.int hm
            have hp := right_at HR.out (k := m) (by rw [HL.out]; omega)
            have hst0 : base xs i (m : Int) = base xs i (gi xs m) := by
              by_cases hin : i < 0
              · rw [base_none (.inl (by simp [isB]; omega)), base_none (.inl (by simp [isB]; omega))]
              · exact base_right (isB_iff.2 ⟨by omega, by rw [HL.out]; omega, HR.out⟩) (isB_iff.2 ⟨by omega, by rw [HL.out]; omega, HR.out⟩) (by omega)
            have hst := Lib.hid hst0; clear hst0
            go_wp2
            go_roundg (i + gi xs m + 2).toNat
            case measure => rw [HG.out]; omega
            case rel => exact ⟨rfl, i, gi xs m, rfl, rfl, hi0, hi1, hp.1, by omega, rfl, by rw [HU.out, hst.out]⟩

end Go.Proofs.Ytdhdlkbldngmoaa
