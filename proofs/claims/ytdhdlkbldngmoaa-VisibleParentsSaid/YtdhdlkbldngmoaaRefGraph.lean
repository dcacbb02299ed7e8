/- The walks of the document's answer for graphs (rickref18): Right, Chain, Children, Above, Under, Base. -/
import Derived.Test.YtdhdlkbldngmoaaGraphSpec
import Derived.Test.YtdhdlkbldngmoaaHelp
namespace Go.Proofs.Ytdhdlkbldngmoaa
open Go.RowKit

set_option maxHeartbeats 400000 in
theorem rright_any (B : Nat) (A : Option Addr) (n c : Nat) (xs : List Int) (w : World) (h : Reads w B 1 A n (ints xs)) (hn : n ≤ 1000000000000) :
    Calls Try.prog 21 #[.slice A n c] w fun e w' => e = .returned (.bool (right xs)) ∧ w = w' := by
  have HL := Lib.hid h.intLen
  have H := Lib.hid h; clear h
  go_enter Try.func21, Try.ntmps21
  go_wp2
  go_loop [3] (fun i => ∃ k : Nat, k ≤ n ∧ i = .int .i64 k ∧ rightTo xs k = true) (fun i => n - (intOf i).toNat)
  case atStart => exact ⟨0, Nat.zero_le _, rfl, rfl⟩
  case round =>
    obtain ⟨k, hk, rfl, hr⟩ := hrel
    have HR := Lib.hid hr; clear hr
    by_cases hlt : k < n
    · obtain ⟨ad, rfl, _, hc⟩ := H.out.int hlt
      by_cases h1 : -1 ≤ gi xs k
      · by_cases h2 : gi xs k < k
        · go_wp2
          go_round
          case rel => exact ⟨k+1, by omega, by go_num, by rw [rightTo_succ, HR.out]; simp [h1, h2]⟩
          case measure => simp [intOf]; omega
        · have hf := Lib.hid (rightTo_false (xs := xs) hlt (by omega))
          go_wp2
          go_ret
          exact ⟨ret_bool (by rw [right, HL.out, hf.out]), rfl⟩
      · have hf := Lib.hid (rightTo_false (xs := xs) hlt (by omega))
        go_wp2
        go_ret
        exact ⟨ret_bool (by rw [right, HL.out, hf.out]), rfl⟩
    · go_wp2
      go_ret
      exact ⟨ret_bool (by rw [right, HL.out, show n = k by omega, HR.out]), rfl⟩

theorem chain_of_up {xs : List Int} (hr : right xs = true) {i : Int} (hi : i < xs.length) : chain xs i = up xs i := by
  by_cases h0 : i < 0
  · rw [up_neg h0, chain_none (by simp [isB]; omega)]
  · exact chain_up (isB_iff.2 ⟨by omega, hi, hr⟩)

set_option maxHeartbeats 400000 in
theorem rchain_any (B : Nat) (A : Option Addr) (n c : Nat) (xs : List Int) (i : Int) (w : World) (h : Reads w B 1 A n (ints xs)) (hB : B ≤ w.heap.size) (hn : n ≤ 1000000000000) :
    Calls Try.prog 23 #[.slice A n c, .int .i64 i] w fun e w' => ∃ v, e = .returned v ∧ w'.ownsRow w.heap.size 3 1 v (chain xs i).length (ints (chain xs i)) ∧ Grows w w' := by
  have HL := Lib.hid h.intLen
  have H := Lib.hid h; clear h
  cases hr : right xs with
  | false =>
    have hf := Lib.hid (show chain xs i = [] from chain_none (by simp [isB, hr]))
    have HR := Lib.hid hr; clear hr
    go_enter Try.func23, Try.ntmps23
    go_wp2_with (go_at_call 21; refine (rright_any B _ _ _ xs _ H.out hn).mono ?_; rintro e w' ⟨rfl, rfl⟩; rw [HR.out])
    go_ret
    rw [hf.out]
    exact ⟨_, rfl, World.ownsRow_nil _ _ _ _, Grows.refl _⟩
  | true =>
    by_cases hin : i < n
    · have hf := Lib.hid (show chain xs i = up xs i from chain_of_up hr (by rw [HL.out]; exact hin))
      have HR := Lib.hid hr; clear hr
      obtain ⟨t0, hi0, hz0, hz1, hz2⟩ := info_parts Try.infoInt
      go_enter Try.func23, Try.ntmps23
      go_wp2_with (go_at_call 21; refine (rright_any B _ _ _ xs _ H.out hn).mono ?_; rintro e w' ⟨rfl, rfl⟩; rw [HR.out])
      go_loopg [1, 5] (i + 1).toNat (fun gk q v wr => ∃ (j : Int) (ys : List Int), q = .int .i64 j ∧ j ≤ i ∧ gk = (j + 1).toNat ∧ wr.ownsRow w.heap.size 3 1 v ys.length (ints ys) ∧ Grows w wr ∧ (ys = [] ∨ ys.length + j ≤ i) ∧ up xs i = ys ++ up xs j)
      case atStart => exact ⟨i, [], rfl, by omega, rfl, World.ownsRow_nil _ _ _ _, Grows.refl _, .inl rfl, by simp⟩
      case round =>
        obtain ⟨j, ys, rfl, hj1, hgk, hown, hgr, hlen, hup⟩ := hrel
        have HG := Lib.hid hgk; clear hgk
        have HU := Lib.hid hup; clear hup
        have hsz := hgr.size
        by_cases hj : j < 0
        · clear hlen
          go_wp2
          go_ret
          refine ⟨_, rfl, ?_, hgr⟩
          have e2 : chain xs i = ys := by rw [hf.out, HU.out, up_neg hj, List.append_nil]
          rw [e2]; exact hown
        · obtain ⟨m, rfl⟩ : ∃ m : Nat, j = m := ⟨j.toNat, by omega⟩
          have hm : m < n := by omega
          have hyl : ys.length + (m : Int) ≤ i := by
            rcases hlen with h | h
            · rw [h]; simpa using hj1
            · exact h
          clear hlen
          obtain ⟨ad, rfl, had, hc⟩ := ((H.out).grows hB hgr).int hm
          have hst := Lib.hid (up_step HR.out (i := (m : Int)) (by omega) (by rw [HL.out]; omega))
          have hp := right_at HR.out (k := m) (by rw [HL.out]; omega)
          go_wp2_with (at_builtin; refine wpList_push rfl (.tmp 17) (.tmp 19) _ rfl (w.heap.size) 3 t0 _ 1 8 Try.underlying23 hi0 hz0 hz1 hz2 rfl (by decide) _ _ _ rfl ((hown).alloc _) ⟨(wr).heap.size, 0, none⟩ 1 1 [.int .i64 (m)] rfl rfl (cell_one_new _ _ _) (by intro u hu; simp at hu; subst hu; rfl) (by simp only [maxLen]; omega) (by omega) (by simp; omega) ?_; intro v' w1 hown1 hb1; have hgr1 : Grows w w1 := Below.trans (hgr.alloc _) hb1; have hc1 := Reads.intAt (H.out.grows hB hgr1) hm)
          go_roundg (gi xs m + 1).toNat
          case measure => rw [HG.out]; omega
          case rel => exact ⟨gi xs m, ys ++ [(m : Int)], rfl, by omega, rfl, by rw [ints_append, ints_one, List.length_append]; exact hown1, hgr1, .inr (by simp; omega), by rw [HU.out, hst.out]; simp⟩
    · have hf := Lib.hid (show chain xs i = [] from chain_none (by simp only [isB, HL.out]; simp; omega))
      have HR := Lib.hid hr; clear hr
      go_enter Try.func23, Try.ntmps23
      go_wp2_with (go_at_call 21; refine (rright_any B _ _ _ xs _ H.out hn).mono ?_; rintro e w' ⟨rfl, rfl⟩; rw [HR.out])
      go_ret
      rw [hf.out]
      exact ⟨_, rfl, World.ownsRow_nil _ _ _ _, Grows.refl _⟩

set_option maxHeartbeats 400000 in
theorem rabove_any (B : Nat) (A : Option Addr) (n c : Nat) (xs : List Int) (a b : Int) (w : World) (h : Reads w B 1 A n (ints xs)) (hB : B ≤ w.heap.size) (hn : n ≤ 1000000000000) :
    Calls Try.prog 26 #[.slice A n c, .int .i64 a, .int .i64 b] w fun e w' => e = .returned (.bool (above xs a b)) ∧ Grows w w' := by
  have hlen : (chain xs b).length ≤ n := by
    have hl := h.intLen
    cases hb : isB xs b with
    | false => rw [chain_none hb]; simp
    | true =>
      obtain ⟨h0, hl2, hr⟩ := isB_iff.1 hb
      rw [chain_up hb]
      have := up_len hr b hl2
      omega
  have H := Lib.hid h; clear h
  go_enter Try.func26, Try.ntmps26
  go_wp2_with (first
    | (go_at_call 23; refine (rchain_any B _ _ _ xs _ _ H.out hB hn).mono ?_; rintro e w1 ⟨v, rfl, hown, hgr⟩; obtain ⟨A1, c1, rfl, _, _⟩ := own_form hown)
    | (go_at_call 17; refine (in_any _ _ _ _ (chain xs b) _ _ (Reads.of_own hown) (by omega)).mono ?_; rintro e w2 ⟨rfl, rfl⟩))
  go_ret
  exact ⟨rfl, hgr⟩

set_option maxHeartbeats 1000000 in
theorem rchildren_any (B : Nat) (A : Option Addr) (n c : Nat) (xs : List Int) (i : Int) (w : World) (h : Reads w B 1 A n (ints xs)) (hB : B ≤ w.heap.size) (hn : n ≤ 1000000000000) :
    Calls Try.prog 24 #[.slice A n c, .int .i64 i] w fun e w' => ∃ v, e = .returned v ∧ w'.ownsRow w.heap.size 3 1 v (children xs i).length (ints (children xs i)) ∧ Grows w w' := by
  have HL := Lib.hid h.intLen
  have H := Lib.hid h; clear h
  obtain ⟨t0, hi0, hz0, hz1, hz2⟩ := info_parts Try.infoInt
  have hcase : (children xs i = [] ∧ (right xs = false ∨ i < -1)) ∨ (right xs = true ∧ -1 ≤ i ∧ children xs i = selTo (fun k => gi xs k == i) n) := by
    cases hr : right xs with
    | false => exact .inl ⟨children_none hr, .inl rfl⟩
    | true =>
      by_cases hi : i < -1
      · exact .inl ⟨children_out (.inl hi), .inr hi⟩
      · exact .inr ⟨rfl, by omega, by rw [children_right hr, HL.out]⟩
  rcases hcase with ⟨hnil, hbad⟩ | ⟨hr, hlo, hf0⟩
  · have HN := Lib.hid hnil; clear hnil
    have hb0 : right xs = false ∨ ¬ (-1 ≤ i) := hbad.imp id (by omega)
    have HB := Lib.hid hb0; clear hbad hb0
    go_enter Try.func24, Try.ntmps24
    go_wp2_with fail
    refine wp_loop_rounds 1 ?_
    rw [rounds_succ]
    by_cases hn0 : 0 < n
    · cases hr : right xs with
      | false =>
        have HR := Lib.hid hr; clear hr
        go_wp2_with (go_at_call 21; refine (rright_any B _ _ _ xs _ H.out hn).mono ?_; rintro e w' ⟨rfl, rfl⟩; rw [HR.out])
        go_ret
        rw [HN.out]
        exact ⟨_, rfl, World.ownsRow_nil _ _ _ _, Grows.refl _⟩
      | true =>
        have hlt : ¬ (-1 ≤ i) := by have := HB.out.resolve_left (by rw [hr]; simp); omega
        have HR := Lib.hid hr; clear hr
        go_wp2_with (go_at_call 21; refine (rright_any B _ _ _ xs _ H.out hn).mono ?_; rintro e w' ⟨rfl, rfl⟩; rw [HR.out])
        go_ret
        rw [HN.out]
        exact ⟨_, rfl, World.ownsRow_nil _ _ _ _, Grows.refl _⟩
    · go_wp2
      go_ret
      rw [HN.out]
      exact ⟨_, rfl, World.ownsRow_nil _ _ _ _, Grows.refl _⟩
  · have HR := Lib.hid hr; clear hr
    have hf := Lib.hid hf0; clear hf0
    go_enter Try.func24, Try.ntmps24
    go_wp2_with fail
    go_loopg [6, 5] n (fun gk q v wr => ∃ k : Nat, q = .int .i64 k ∧ k ≤ n ∧ gk = n - k ∧ wr.ownsRow w.heap.size 3 1 v (selTo (fun k => gi xs k == i) k).length (ints (selTo (fun k => gi xs k == i) k)) ∧ Grows w wr)
    case atStart => exact ⟨0, rfl, by omega, by omega, World.ownsRow_nil _ _ _ _, Grows.refl _⟩
    case round =>
      obtain ⟨k, rfl, hk, hgk, hown, hgr⟩ := hrel
      have HG := Lib.hid hgk; clear hgk
      have hsz := hgr.size
      have hlen := selTo_len (fun k => gi xs k == i) k
      have HRd := Lib.hid (H.out.grows hB hgr)
      by_cases hlt : k < n
      · obtain ⟨ad, rfl, had, hc⟩ := HRd.out.int hlt
        cases he : (gi xs k == i) with
        | true =>
          have hs := Lib.hid (selTo_yes (p := fun k => gi xs k == i) (k := k) he)
          go_wp2_with (first
            | (go_at_call 21; refine (rright_any B _ _ _ xs _ HRd.out hn).mono ?_; rintro e w' ⟨rfl, rfl⟩; rw [HR.out])
            | (at_builtin; refine wpList_push rfl (.tmp 27) (.tmp 29) _ rfl (w.heap.size) 3 t0 _ 1 8 Try.underlying23 hi0 hz0 hz1 hz2 rfl (by decide) _ _ _ rfl ((hown).alloc _) ⟨(wr).heap.size, 0, none⟩ 1 1 [.int .i64 (k)] rfl rfl (cell_one_new _ _ _) (by intro u hu; simp at hu; subst hu; rfl) (by simp only [maxLen]; omega) (by omega) (by simp; omega) ?_; intro v' w1 hown1 hb1; have hgr1 : Grows w w1 := Below.trans (hgr.alloc _) hb1))
          go_roundg (n - (k + 1))
          case measure => rw [HG.out]; omega
          case rel => exact ⟨k + 1, by go_num, by omega, rfl, by rw [hs.out, ints_append, ints_one, List.length_append]; exact hown1, hgr1⟩
        | false =>
          have hs := Lib.hid (selTo_no (p := fun k => gi xs k == i) (k := k) he)
          go_wp2_with (go_at_call 21; refine (rright_any B _ _ _ xs _ HRd.out hn).mono ?_; rintro e w' ⟨rfl, rfl⟩; rw [HR.out])
          go_roundg (n - (k + 1))
          case measure => rw [HG.out]; omega
          case rel => exact ⟨k + 1, by go_num, by omega, rfl, by rw [hs.out]; exact hown, hgr⟩
      · go_wp2
        go_ret
        exact ⟨_, rfl, by rw [hf.out, show n = k by omega]; exact hown, hgr⟩

set_option maxHeartbeats 1000000 in
theorem runder_any (B : Nat) (A : Option Addr) (n c : Nat) (xs : List Int) (i : Int) (w : World) (h : Reads w B 1 A n (ints xs)) (hB : B ≤ w.heap.size) (hn : n ≤ 1000000000000) :
    Calls Try.prog 25 #[.slice A n c, .int .i64 i] w fun e w' => ∃ v, e = .returned v ∧ w'.ownsRow w.heap.size 3 1 v (under xs i).length (ints (under xs i)) ∧ Grows w w' := by
  have HL := Lib.hid h.intLen
  have H := Lib.hid h; clear h
  obtain ⟨t0, hi0, hz0, hz1, hz2⟩ := info_parts Try.infoInt
  have hf := Lib.hid (show under xs i = selTo (fun k => above xs i k) n by rw [under, HL.out])
  go_enter Try.func25, Try.ntmps25
  go_wp2_with fail
  go_loopg [6, 5] n (fun gk q v wr => ∃ k : Nat, q = .int .i64 k ∧ k ≤ n ∧ gk = n - k ∧ wr.ownsRow w.heap.size 3 1 v (selTo (fun k => above xs i k) k).length (ints (selTo (fun k => above xs i k) k)) ∧ Grows w wr)
  case atStart => exact ⟨0, rfl, by omega, by omega, World.ownsRow_nil _ _ _ _, Grows.refl _⟩
  case round =>
    obtain ⟨k, rfl, hk, hgk, hown, hgr⟩ := hrel
    have HG := Lib.hid hgk; clear hgk
    have hsz := hgr.size
    have hlen := selTo_len (fun k => above xs i k) k
    have HRd := Lib.hid (H.out.grows hB hgr)
    by_cases hlt : k < n
    · cases he : above xs i k with
      | true =>
        have hs := Lib.hid (selTo_yes (p := fun k => above xs i k) (k := k) he)
        have HE := Lib.hid he; clear he
        go_wp2_with (first
          | (go_at_call 26; refine (rabove_any B _ _ _ xs _ _ _ HRd.out (Nat.le_trans hB hsz) hn).mono ?_; rintro e w2 ⟨rfl, hg2⟩; rw [HE.out]; have hown2 := own_grows hown hg2; have hgr2 := hgr.trans hg2; have hsz2 := hgr2.size)
          | (at_builtin; refine wpList_push rfl (.tmp 17) (.tmp 19) _ rfl (w.heap.size) 3 t0 _ 1 8 Try.underlying23 hi0 hz0 hz1 hz2 rfl (by decide) _ _ _ rfl ((hown2).alloc _) ⟨(w2).heap.size, 0, none⟩ 1 1 [.int .i64 (k)] rfl rfl (cell_one_new _ _ _) (by intro u hu; simp at hu; subst hu; rfl) (by simp only [maxLen]; omega) (by omega) (by simp; omega) ?_; intro v' w1 hown1 hb1; have hgr1 : Grows w w1 := Below.trans (hgr2.alloc _) hb1))
        go_roundg (n - (k + 1))
        case measure => rw [HG.out]; omega
        case rel => exact ⟨k + 1, by go_num, by omega, rfl, by rw [hs.out, ints_append, ints_one, List.length_append]; exact hown1, hgr1⟩
      | false =>
        have hs := Lib.hid (selTo_no (p := fun k => above xs i k) (k := k) he)
        have HE := Lib.hid he; clear he
        go_wp2_with (go_at_call 26; refine (rabove_any B _ _ _ xs _ _ _ HRd.out (Nat.le_trans hB hsz) hn).mono ?_; rintro e w2 ⟨rfl, hg2⟩; rw [HE.out]; have hown2 := own_grows hown hg2; have hgr2 := hgr.trans hg2)
        go_roundg (n - (k + 1))
        case measure => rw [HG.out]; omega
        case rel => exact ⟨k + 1, by go_num, by omega, rfl, by rw [hs.out]; exact hown2, hgr2⟩
    · go_wp2
      go_ret
      exact ⟨_, rfl, by rw [hf.out, show n = k by omega]; exact hown, hgr⟩

/-- none of the first k of a chain stands above b -/
def missTo (ys xs : List Int) (b : Int) (k : Nat) : Prop := ∀ j, j < k → above xs (gi ys j) b = false
theorem base_miss {xs : List Int} {a b : Int} (h : missTo (chain xs a) xs b (chain xs a).length) : base xs a b = -1 := by
  unfold base
  rw [List.find?_eq_none.2 fun x hx => ?_]
  · rfl
  · obtain ⟨j, hj, rfl⟩ := List.mem_iff_getElem.1 hx
    have := h j hj
    simp only [gi, List.getD_eq_getElem?_getD, List.getElem?_eq_getElem hj, Option.getD_some] at this
    rw [this]; simp
theorem base_hit {xs : List Int} {a b : Int} {k : Nat} (hk : k < (chain xs a).length) (h : missTo (chain xs a) xs b k) (he : above xs (gi (chain xs a) k) b = true) : base xs a b = gi (chain xs a) k := by
  unfold base
  have e : (chain xs a).find? (fun x => above xs x b) = some (gi (chain xs a) k) := by
    rw [List.find?_eq_some_iff_getElem]
    have hg : ∀ j (hj : j < (chain xs a).length), gi (chain xs a) j = (chain xs a)[j] := fun j hj => by simp [gi, List.getElem?_eq_getElem hj]
    refine ⟨he, k, hk, (hg k hk).symm, fun j hj => ?_⟩
    have := h j hj
    rw [hg j (by omega)] at this
    rw [this]; rfl
  rw [e]; rfl

set_option maxHeartbeats 1000000 in
theorem rbase_any (B : Nat) (A : Option Addr) (n c : Nat) (xs : List Int) (a b : Int) (w : World) (h : Reads w B 1 A n (ints xs)) (hB : B ≤ w.heap.size) (hn : n ≤ 1000000000000) :
    Calls Try.prog 27 #[.slice A n c, .int .i64 a, .int .i64 b] w fun e w' => e = .returned (.int .i64 (base xs a b)) ∧ Grows w w' := by
  have hlen : (chain xs a).length ≤ n := by
    have hl := h.intLen
    cases hb : isB xs a with
    | false => rw [chain_none hb]; simp
    | true =>
      obtain ⟨h0, hl2, hr⟩ := isB_iff.1 hb
      rw [chain_up hb]
      have := up_len hr a hl2
      omega
  have H := Lib.hid h; clear h
  obtain ⟨ys, hys⟩ : ∃ ys, ys = chain xs a := ⟨_, rfl⟩
  have HY := Lib.hid hys
  rw [← hys] at hlen
  clear hys
  go_enter Try.func27, Try.ntmps27
  go_wp2_with (go_at_call 23; refine (rchain_any B _ _ _ xs _ _ H.out hB hn).mono ?_; rintro e w1 ⟨v, rfl, hown, hgr⟩; rw [← HY.out] at hown; obtain ⟨A1, c1, rfl, _, _⟩ := own_form hown)
  go_loopg [8] ys.length (fun gk q wr => ∃ k : Nat, q = .int .i64 k ∧ k ≤ ys.length ∧ gk = ys.length - k ∧ Grows w1 wr ∧ missTo ys xs b k)
  case atStart => exact ⟨0, rfl, by omega, by omega, Grows.refl _, fun j hj => by omega⟩
  case round =>
    obtain ⟨k, rfl, hk, hgk, hgr1, hmiss⟩ := hrel
    have HG := Lib.hid hgk; clear hgk
    have HM := Lib.hid hmiss; clear hmiss
    have HRd := Lib.hid (H.out.grows hB (hgr.trans hgr1))
    have hszz := (hgr.trans hgr1).size
    by_cases hlt : k < ys.length
    · obtain ⟨ad, rfl, had, hc⟩ := ((Reads.of_own hown).grows (Nat.le_refl _) hgr1).int hlt
      have HC := Lib.hid (fun (w2 : World) (h : Grows wr w2) => Reads.intAt ((Reads.of_own hown).grows (Nat.le_refl _) (hgr1.trans h)) hlt)
      cases he : above xs (gi ys k) b with
      | true =>
        have HF := Lib.hid (show base xs a b = gi ys k by rw [HY.out]; exact base_hit (by rw [← HY.out]; exact hlt) (by rw [← HY.out]; exact HM.out) (by rw [← HY.out]; exact he))
        have HE := Lib.hid he; clear he
        go_wp2_with (go_at_call 26; refine (rabove_any B _ _ _ xs _ _ _ HRd.out (Nat.le_trans hB hszz) hn).mono ?_; rintro e w2 ⟨rfl, hg2⟩; rw [HE.out]; have hc2 := HC.out w2 hg2; have hgr2 := (hgr.trans hgr1).trans hg2)
        go_ret
        exact ⟨ret_int HF.out.symm, hgr2⟩
      | false =>
        have HF := Lib.hid (show missTo ys xs b (k + 1) from fun j hj => by
          by_cases e : j = k
          · rw [e]; exact he
          · exact HM.out j (by omega))
        have HE := Lib.hid he; clear he
        go_wp2_with (go_at_call 26; refine (rabove_any B _ _ _ xs _ _ _ HRd.out (Nat.le_trans hB hszz) hn).mono ?_; rintro e w2 ⟨rfl, hg2⟩; rw [HE.out]; have hgr2 := hgr1.trans hg2)
        go_roundg (ys.length - (k + 1))
        case measure => rw [HG.out]; omega
        case rel => exact ⟨k + 1, by go_num, by omega, rfl, hgr2, HF.out⟩
    · have HF := Lib.hid (show base xs a b = -1 from base_miss (by rw [← HY.out, show ys.length = k by omega]; exact HM.out))
      have hgr2 := hgr.trans hgr1
      go_wp2
      go_ret
      exact ⟨ret_int HF.out.symm, hgr2⟩

end Go.Proofs.Ytdhdlkbldngmoaa
