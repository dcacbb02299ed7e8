/- The walks of package graph that make lists: Children, Under. -/
import Derived.Test.YtdhdlkbldngmoaaGraphWalk
import Derived.Test.YtdhdlkbldngmoaaSets
namespace Go.Proofs.Ytdhdlkbldngmoaa
open Go.RowKit

set_option maxHeartbeats 400000 in
theorem children_nil (B : Nat) (A : Option Addr) (n c : Nat) (xs : List Int) (i : Int) (w : World) (h : Reads w B 1 A n (ints xs)) (hn : n ≤ 1000000000000) (hbad : right xs = false ∨ i < -1 ∨ n ≤ i) :
    Calls Try.prog 18 #[.slice A n c, .int .i64 i] w fun e w' => e = .returned (.slice none 0 0) ∧ w = w' := by
  have HL := Lib.hid h.intLen
  have H := Lib.hid h; clear h
  by_cases h1 : i = -1
  · subst h1
    have HR := Lib.hid (show right xs = false by rcases hbad with h | h | h; exact h; omega; omega)
    clear hbad
    go_enter Try.func18, Try.ntmps18
    go_wp2_with (go_at_call 20; refine (right_any B _ _ _ xs _ H.out (by simp only [maxLen]; omega)).mono ?_; rintro e w' ⟨rfl, rfl⟩; rw [HR.out])
    go_ret
    exact ⟨rfl, rfl⟩
  · have HB := Lib.hid (show isB xs i = false by
      unfold isB
      rw [HL.out]
      rcases hbad with h | h | h
      · rw [h]; simp
      · simp; omega
      · simp; omega)
    have hne : (i != -1) = true := by simpa using h1
    clear hbad
    go_enter Try.func18, Try.ntmps18
    go_wp2_with (go_at_call 39; refine (is_any B _ _ _ xs _ _ H.out (by simp only [maxLen]; omega)).mono ?_; rintro e w' ⟨rfl, rfl⟩; rw [HB.out])
    go_ret
    exact ⟨rfl, rfl⟩

/-- what is looked for: none's children, or a commit's -/
def childAsk (xs : List Int) (i : Int) : Prop := right xs = true ∧ (i = -1 ∨ isB xs i = true)

set_option maxHeartbeats 1000000 in
theorem children_some (B : Nat) (A : Option Addr) (n c : Nat) (xs : List Int) (i : Int) (w : World) (h : Reads w B 1 A n (ints xs)) (hB : B ≤ w.heap.size) (hn : n ≤ 1000000000000) (hask : childAsk xs i) :
    Calls Try.prog 18 #[.slice A n c, .int .i64 i] w fun e w' => ∃ v, e = .returned v ∧ w'.ownsRow w.heap.size 3 1 v (children xs i).length (ints (children xs i)) ∧ Grows w w' := by
  have HL := Lib.hid h.intLen
  have H := Lib.hid h; clear h
  have HR := Lib.hid hask.1
  have hf := Lib.hid (show children xs i = selTo (fun k => gi xs k == i) n by rw [children_right hask.1, HL.out])
  have HA := Lib.hid hask; clear hask
  obtain ⟨t0, hi0, hz0, hz1, hz2⟩ := info_parts Try.infoInt
  by_cases h1 : i = -1
  all_goals
    have hb0 : i = -1 ∨ isB xs i = true := HA.out.2
    have HB := Lib.hid hb0; clear hb0
    have hd : Hid ((i != -1) = decide (i ≠ -1)) := by show _ = _; rw [Bool.eq_iff_iff]; simp
    first
    | (have hne : (i != -1) = false := by simpa using h1)
    | (have hne : (i != -1) = true := by simpa using h1)
    have H1 := Lib.hid h1
    clear h1 hd
    go_enter Try.func18, Try.ntmps18
    go_wp2_with (first
      | (go_at_call 39; refine (is_any B _ _ _ xs _ _ H.out (by simp only [maxLen]; omega)).mono ?_; rintro e w' ⟨rfl, rfl⟩; rw [HB.out.resolve_left H1.out])
      | (go_at_call 20; refine (right_any B _ _ _ xs _ H.out (by simp only [maxLen]; omega)).mono ?_; rintro e w' ⟨rfl, rfl⟩; rw [HR.out]))
    go_loopg [23, 5] n (fun gk q v wr => ∃ k : Nat, q = .int .i64 k ∧ k ≤ n ∧ gk = n - k ∧ wr.ownsRow w.heap.size 3 1 v (selTo (fun k => gi xs k == i) k).length (ints (selTo (fun k => gi xs k == i) k)) ∧ Grows w wr)
    case atStart => exact ⟨0, rfl, by omega, by omega, World.ownsRow_nil _ _ _ _, Grows.refl _⟩
    case round =>
      obtain ⟨k, rfl, hk, hgk, hown, hgr⟩ := hrel
      have HG := Lib.hid hgk; clear hgk
      have hsz := hgr.size
      have hlen := selTo_len (fun k => gi xs k == i) k
      by_cases hlt : k < n
      · obtain ⟨ad, rfl, had, hc⟩ := ((H.out).grows hB hgr).int hlt
        cases he : (gi xs k == i) with
        | true =>
          have hs := Lib.hid (selTo_yes (p := fun k => gi xs k == i) (k := k) he)
          go_wp2_with (at_builtin; refine wpList_push rfl (.tmp 31) (.tmp 33) _ rfl w.heap.size 3 t0 _ 1 8 Try.underlying23 hi0 hz0 hz1 hz2 rfl (by decide) _ _ _ rfl (hown.alloc _) ⟨wr.heap.size, 0, none⟩ 1 1 [.int .i64 k] rfl rfl (cell_one_new _ _ _) (by intro u hu; simp at hu; subst hu; rfl) (by simp only [maxLen]; omega) (by omega) (by simp; omega) ?_; intro v' w1 hown1 hb1; have hgr1 : Grows w w1 := Below.trans (hgr.alloc _) hb1)
          go_roundg (n - (k + 1))
          case measure => rw [HG.out]; omega
          case rel => exact ⟨k + 1, by go_num, by omega, rfl, by rw [hs.out, ints_append, ints_one, List.length_append]; exact hown1, hgr1⟩
        | false =>
          have hs := Lib.hid (selTo_no (p := fun k => gi xs k == i) (k := k) he)
          go_wp2
          go_roundg (n - (k + 1))
          case measure => rw [HG.out]; omega
          case rel => exact ⟨k + 1, by go_num, by omega, rfl, by rw [hs.out]; exact hown, hgr⟩
      · go_wp2
        go_ret
        exact ⟨_, rfl, by rw [hf.out, show n = k by omega]; exact hown, hgr⟩

theorem children_any (B : Nat) (A : Option Addr) (n c : Nat) (xs : List Int) (i : Int) (w : World) (h : Reads w B 1 A n (ints xs)) (hB : B ≤ w.heap.size) (hn : n ≤ 1000000000000) :
    Calls Try.prog 18 #[.slice A n c, .int .i64 i] w fun e w' => ∃ v, e = .returned v ∧ w'.ownsRow w.heap.size 3 1 v (children xs i).length (ints (children xs i)) ∧ Grows w w' := by
  have hnil : children xs i = [] → (right xs = false ∨ i < -1 ∨ n ≤ i) → Calls Try.prog 18 #[.slice A n c, .int .i64 i] w fun e w' => ∃ v, e = .returned v ∧ w'.ownsRow w.heap.size 3 1 v (children xs i).length (ints (children xs i)) ∧ Grows w w' := by
    intro e hbad
    refine (children_nil B A n c xs i w h hn hbad).mono ?_
    rintro e' w' ⟨rfl, rfl⟩
    rw [e]
    exact ⟨_, rfl, World.ownsRow_nil _ _ _ _, Grows.refl _⟩
  have hl := h.intLen
  cases hr : right xs with
  | false => exact hnil (children_none hr) (.inl hr)
  | true =>
    by_cases h1 : i < -1 ∨ n ≤ i
    · exact hnil (children_out (by omega)) (.inr h1)
    · refine children_some B A n c xs i w h hB hn ⟨hr, ?_⟩
      by_cases h2 : i = -1
      · exact .inl h2
      · exact .inr (isB_iff.2 ⟨by omega, by omega, hr⟩)

/-- what stands under i, of those below k -/
def underTo (xs : List Int) (i k : Nat) : Nat → Bool := fun j => decide (j < k) && above xs i j
theorem underTo_ask {xs : List Int} {i k q : Nat} (hik : i < k) (hk : isB xs k = true) (hq : gi xs k = q) : underTo xs i k q = above xs i k := by
  obtain ⟨h0, hl, hr⟩ := isB_iff.1 hk
  have hp := right_at hr (k := k) (by omega)
  rw [above_gt hk (by omega) (by omega), Int.toNat_natCast, hq]
  unfold underTo
  have : q < k := by omega
  simp [this]
theorem underTo_none {xs : List Int} {i k : Nat} (hik : i < k) (hk : isB xs k = true) (hq : gi xs k = -1) : above xs i k = false := by
  rw [above_gt hk (by omega) (by omega), Int.toNat_natCast, hq]
  exact above_neg (by omega)
theorem underTo_put {xs : List Int} {i k : Nat} (h : above xs i k = true) (j : Nat) : (underTo xs i k j || j == k) = underTo xs i (k + 1) j := by
  unfold underTo
  by_cases e : j = k
  · subst e; simp [h]
  · have e1 : (j == k) = false := by simpa using e
    rw [e1, Bool.or_false]
    congr 1
    rw [Bool.eq_iff_iff]
    simp only [decide_eq_true_eq]
    omega
theorem underTo_skip {xs : List Int} {i k : Nat} (h : above xs i k = false) (j : Nat) : underTo xs i k j = underTo xs i (k + 1) j := by
  unfold underTo
  by_cases e : j = k
  · subst e; simp [h]
  · congr 1
    rw [Bool.eq_iff_iff]
    simp only [decide_eq_true_eq]
    omega
theorem under_start {xs : List Int} {i : Nat} : selTo (fun k => above xs i k) i = [] := selTo_none fun j hj => by
  cases h : above xs i j with
  | false => rfl
  | true => have := (above_isB h).2.2; omega

set_option maxHeartbeats 1000000 in
theorem under_some (B : Nat) (A : Option Addr) (n c : Nat) (xs : List Int) (i : Nat) (w : World) (h : Reads w B 1 A n (ints xs)) (hB : B ≤ w.heap.size) (hn : n ≤ 1000000000000) (hask : isB xs i = true) :
    Calls Try.prog 12 #[.slice A n c, .int .i64 i] w fun e w' => ∃ v, e = .returned v ∧ w'.ownsRow w.heap.size 3 1 v (under xs i).length (ints (under xs i)) ∧ Grows w w' := by
  have HL := Lib.hid h.intLen
  have H := Lib.hid h; clear h
  obtain ⟨q0, q1, q2⟩ := isB_iff.1 hask
  rw [HL.out] at q1
  have HR := Lib.hid q2; clear q2
  have hf := Lib.hid (show under xs i = selTo (fun k => above xs i k) n by rw [under, HL.out])
  have HB := Lib.hid hask
  clear hask
  have hst := Lib.hid (under_start (xs := xs) (i := i))
  obtain ⟨t0, hi0, hz0, hz1, hz2⟩ := info_parts Try.infoInt
  go_enter Try.func12, Try.ntmps12
  go_wp2_with (first
    | (go_at_call 39; refine (is_any B _ _ _ xs _ _ H.out (by simp only [maxLen]; omega)).mono ?_; rintro e w' ⟨rfl, rfl⟩; rw [HB.out])
    | (go_at_call 40; refine (graph_made _ _ (by omega)).mono ?_; rintro e w1 ⟨rfl, hset0, hgr0, hsz0⟩))
  have HZ := Lib.hid hsz0
  have hsz1 : w.heap.size + 1 ≤ w1.heap.size := by omega
  clear hsz0
  go_loopg [7, 6] (n - i) (fun gk q v wr => ∃ k : Nat, q = .int .i64 k ∧ i ≤ k ∧ k ≤ n ∧ gk = n - k ∧ SetAt wr w.heap.size ((n + 63) / 64) (underTo xs i k) ∧ wr.ownsRow (w.heap.size + 1) 3 1 v (selTo (fun k => above xs i k) k).length (ints (selTo (fun k => above xs i k) k)) ∧ Grows w wr ∧ w.heap.size + 1 ≤ wr.heap.size)
  case atStart =>
    refine ⟨i, rfl, by omega, by omega, rfl, hset0.congr fun j _ => ?_, ?_, hgr0, hsz1⟩
    · unfold underTo
      by_cases hj : j < i
      · cases ha : above xs i j with
        | false => simp
        | true => have := (above_isB ha).2.2; omega
      · simp [hj]
    · rw [hst.out]; exact World.ownsRow_nil _ _ _ _
  case round =>
    obtain ⟨k, rfl, hik, hk, hgk, hset, hown, hgr, hsz⟩ := hrel
    have HG := Lib.hid hgk; clear hgk
    have hlen := selTo_len (fun k => above xs i k) k
    clear hset0 hgr0
    by_cases hlt : k < n
    · obtain ⟨ad, rfl, had, hc⟩ := ((H.out).grows hB hgr).int hlt
      have hkb : isB xs k = true := isB_iff.2 ⟨by omega, by rw [HL.out]; omega, HR.out⟩
      cases ha : above xs i k with
      | true =>
        have hs := Lib.hid (selTo_yes (p := fun k => above xs i k) (k := k) ha)
        have hpt := Lib.hid (underTo_put ha)
        by_cases hki : k = i
        all_goals
          first
          | (have hke : ((k : Int) == (i : Int)) = true := by simp; omega)
          | (have hke : ((k : Int) == (i : Int)) = false := by simp; omega
             have hpne : gi xs k ≠ -1 := fun h => by rw [underTo_none (by omega) hkb h] at ha; cases ha
             have hpge := right_at HR.out (k := k) (by rw [HL.out]; omega)
             obtain ⟨q, hq⟩ : ∃ q : Nat, gi xs k = q := ⟨(gi xs k).toNat, by omega⟩
             have hqk : q < k := by omega
             have HP := Lib.hid ((underTo_ask (by omega) hkb hq).trans ha)
             have hqn : ((q : Int) != -1) = true := by simp
             clear hpge
             rw [hq] at hc
             clear hq hpne)
          have HA := Lib.hid ha
          have HK := Lib.hid hki
          clear ha hkb hki
          go_wp2_with (first
            | (go_at_call 41; refine (graph_has _ _ _ _ _ _ hset (by omega) (by omega)).mono ?_; rintro e w' ⟨rfl, rfl⟩; rw [HP.out])
            | (go_at_call 42; refine (graph_put _ _ _ _ _ _ hset (by omega) (by omega)).mono ?_; rintro e w2 ⟨rfl, hset2, hg2, hs2⟩; have hown2 := hown.kept hg2 (.inr (fun e => by have := (hown.lt _ e).1; omega)); have hgr2 : Grows w w2 := Below.grown hgr hg2 (by omega) (fun k hk => by cases hk; omega); have hsz2 : w.heap.size + 1 ≤ w2.heap.size := (by omega); clear hs2 hown hg2)
            | (at_builtin; refine wpList_push rfl (.tmp 43) (.tmp 45) _ rfl (w.heap.size + 1) 3 t0 _ 1 8 Try.underlying23 hi0 hz0 hz1 hz2 rfl (by decide) _ _ _ rfl (hown2.alloc _) ⟨w2.heap.size, 0, none⟩ 1 1 [.int .i64 k] rfl rfl (cell_one_new _ _ _) (by intro u hu; simp at hu; subst hu; rfl) (by simp only [maxLen]; omega) (by omega) (by simp; omega) ?_; intro v' w3 hown3 hb3; have hgr3 : Grows w w3 := Below.trans (hgr2.alloc _) (hb3.mono (by omega)); have hset3 := (hset2.alloc _).below hb3 (by omega); have hsz3 : w.heap.size + 1 ≤ w3.heap.size := Nat.le_trans (by simp; omega) hb3.size))
          go_roundg (n - (k + 1))
          case measure => rw [HG.out]; omega
          case rel => exact ⟨k + 1, by go_num, by omega, by omega, rfl, hset3.congr fun j _ => hpt.out j, by rw [hs.out, ints_append, ints_one, List.length_append]; exact hown3, hgr3, hsz3⟩
      | false =>
        have hs := Lib.hid (selTo_no (p := fun k => above xs i k) (k := k) ha)
        have hpt := Lib.hid (underTo_skip ha)
        have hki : k ≠ i := by
          rintro rfl
          rw [above_le hkb (Int.le_refl _)] at ha
          simp at ha
        have hke : ((k : Int) == (i : Int)) = false := by simp; omega
        have hpge := right_at HR.out (k := k) (by rw [HL.out]; omega)
        by_cases hp1 : gi xs k = -1
        · rw [hp1] at hc
          clear hp1 hpge ha hkb
          go_wp2
          go_roundg (n - (k + 1))
          case measure => rw [HG.out]; omega
          case rel => exact ⟨k + 1, by go_num, by omega, by omega, rfl, hset.congr fun j _ => hpt.out j, by rw [hs.out]; exact hown, hgr, hsz⟩
        · obtain ⟨q, hq⟩ : ∃ q : Nat, gi xs k = q := ⟨(gi xs k).toNat, by omega⟩
          have hqk : q < k := by omega
          have HP := Lib.hid ((underTo_ask (by omega) hkb hq).trans ha)
          have hqn : ((q : Int) != -1) = true := by simp
          clear hpge
          rw [hq] at hc
          clear hq hp1 ha hkb hki
          go_wp2_with (go_at_call 41; refine (graph_has _ _ _ _ _ _ hset (by omega) (by omega)).mono ?_; rintro e w' ⟨rfl, rfl⟩; rw [HP.out])
          go_roundg (n - (k + 1))
          case measure => rw [HG.out]; omega
          case rel => exact ⟨k + 1, by go_num, by omega, by omega, rfl, hset.congr fun j _ => hpt.out j, by rw [hs.out]; exact hown, hgr, hsz⟩
    · go_wp2
      go_ret
      refine ⟨_, rfl, ?_, hgr⟩
      rw [hf.out, show n = k by omega]
      exact own_mono hown (by omega)

theorem under_any (B : Nat) (A : Option Addr) (n c : Nat) (xs : List Int) (i : Int) (w : World) (h : Reads w B 1 A n (ints xs)) (hB : B ≤ w.heap.size) (hn : n ≤ 1000000000000) :
    Calls Try.prog 12 #[.slice A n c, .int .i64 i] w fun e w' => ∃ v, e = .returned v ∧ w'.ownsRow w.heap.size 3 1 v (under xs i).length (ints (under xs i)) ∧ Grows w w' := by
  cases hb : isB xs i with
  | true =>
    obtain ⟨m, rfl⟩ : ∃ m : Nat, i = m := ⟨i.toNat, by have := (isB_iff.1 hb).1; omega⟩
    exact under_some B A n c xs m w h hB hn hb
  | false =>
    have hf := Lib.hid (under_none hb)
    have HB := Lib.hid hb
    have H := Lib.hid h
    clear hb h
    go_enter Try.func12, Try.ntmps12
    go_wp2_with (go_at_call 39; refine (is_any B _ _ _ xs _ _ H.out (by simp only [maxLen]; omega)).mono ?_; rintro e w' ⟨rfl, rfl⟩; rw [HB.out])
    go_ret
    rw [hf.out]
    exact ⟨_, rfl, World.ownsRow_nil _ _ _ _, Grows.refl _⟩

end Go.Proofs.Ytdhdlkbldngmoaa
