/- The walks of the document's answer for what is visible (rickref18): Obsolete, add, Live, Seen, Heads. -/
import Derived.Test.YtdhdlkbldngmoaaVisWalk2
import Derived.Test.YtdhdlkbldngmoaaRefGraph
import Derived.Deep.RegionLaw
import Derived.Deep.RegionWith
namespace Go.Proofs.Ytdhdlkbldngmoaa
open Go.RowKit Go.Deep

set_option maxHeartbeats 1000000 in
theorem robs_any (B : Nat) (A : Option Addr) (n c : Nat) (olds : List Int) (x : Int) (w : World) (h : Marks w B A n olds) (hn : n ≤ maxLen) :
    Calls Try.prog 38 #[.slice A n c, .int .i64 x] w fun e w' => e = .returned (.bool (inL olds x)) ∧ w = w' := by
  unfold maxLen at hn
  have HL := Lib.hid h.len
  have H := Lib.hid h; clear h
  go_enter Try.func38, Try.ntmps38
  go_wp2
  go_loopg [5] n (fun gk q wr => w = wr ∧ ∃ k : Nat, q = .int .i64 k ∧ k ≤ n ∧ gk = n - k ∧ inL (olds.take k) x = false)
  case atStart => exact ⟨rfl, 0, rfl, by omega, rfl, rfl⟩
  case round =>
    obtain ⟨rfl, k, rfl, hk, hgk, hno⟩ := hrel
    have HG := Lib.hid hgk; clear hgk
    have HN := Lib.hid hno; clear hno
    by_cases hlt : k < n
    · obtain ⟨ad, rfl, had, hc, A', m', c', _⟩ := H.out.at_ hlt
      have hct := Lib.hid (inL_take (x := x) (show k < olds.length by rw [HL.out]; exact hlt))
      cases he : (gi olds k == x) with
      | true =>
        have hf0 : inL olds x = true := by
          have h1 : inL (olds.take (k + 1)) x = true := by rw [hct.out, he]; simp
          rw [inL_iff] at h1 ⊢
          exact List.mem_of_mem_take h1
        have hf := Lib.hid hf0; clear hf0
        go_wp2
        go_ret
        exact ⟨ret_bool hf.out.symm, rfl⟩
      | false =>
        have hf := Lib.hid (show inL (olds.take (k + 1)) x = false by rw [hct.out, he, HN.out]; rfl)
        go_wp2
        go_roundg (n - (k + 1))
        case measure => rw [HG.out]; omega
        case rel => exact ⟨rfl, k + 1, by go_num, by omega, rfl, hf.out⟩
    · have hf := Lib.hid (show inL olds x = false by rw [← HN.out, List.take_of_length_le (by rw [HL.out]; omega)])
      go_wp2
      go_ret
      exact ⟨ret_bool hf.out.symm, rfl⟩

set_option maxHeartbeats 2000000 in
theorem rlive_any (B B' : Nat) (A A' : Option Addr) (N n c c' : Nat) (xs olds : List Int) (w : World) (hx : Reads w B 1 A N (ints xs)) (h : Marks w B' A' n olds) (hB : B ≤ w.heap.size) (hB' : B' ≤ w.heap.size) (hN : N ≤ 1000000000000) (hn : n ≤ maxLen) :
    Calls Try.prog 32 #[.slice A N c, .slice A' n c'] w fun e w' => ∃ v, e = .returned v ∧ w'.ownsRow w.heap.size 3 1 v (liveL xs olds).length (ints (liveL xs olds)) ∧ Grows w w' := by
  have HL := Lib.hid hx.intLen
  have HX := Lib.hid hx; clear hx
  have H := Lib.hid h; clear h
  obtain ⟨t0, hi0, hz0, hz1, hz2⟩ := info_parts Try.infoInt
  cases hr : right xs with
  | false =>
    have HR := Lib.hid hr
    have hf := Lib.hid (liveL_none (olds := olds) hr)
    clear hr
    go_enter Try.func32, Try.ntmps32
    go_wp2_with fail
    refine wp_loop_rounds 1 ?_
    rw [rounds_succ]
    by_cases hn0 : 0 < N
    all_goals
      go_wp2_with (go_at_call 21; refine (rright_any B _ _ _ xs _ HX.out hN).mono ?_; rintro e w' ⟨rfl, rfl⟩; rw [HR.out])
      go_ret
      rw [hf.out]
      exact ⟨_, rfl, World.ownsRow_nil _ _ _ _, Grows.refl _⟩
  | true =>
    have HR := Lib.hid hr
    have hf := Lib.hid (show liveL xs olds = selTo (livep olds) N by rw [liveL_right hr, HL.out])
    clear hr
    go_enter Try.func32, Try.ntmps32
    go_wp2_with fail
    go_loopg [6, 5] N (fun gk q v wr => ∃ k : Nat, q = .int .i64 k ∧ k ≤ N ∧ gk = N - k ∧ wr.ownsRow w.heap.size 3 1 v (selTo (livep olds) k).length (ints (selTo (livep olds) k)) ∧ Grows w wr)
    case atStart => exact ⟨0, rfl, by omega, by omega, World.ownsRow_nil _ _ _ _, Grows.refl _⟩
    case round =>
      obtain ⟨k, rfl, hk, hgk, hown, hgr⟩ := hrel
      have HG := Lib.hid hgk; clear hgk
      have hsz := hgr.size
      have hlen := selTo_len (livep olds) k
      have HRd := Lib.hid (HX.out.grows hB hgr)
      have HMd := Lib.hid (H.out.grows hB' hgr)
      by_cases hlt : k < N
      · cases he : inL olds k with
        | false =>
          have hs := Lib.hid (selTo_yes (p := livep olds) (k := k) (by simp [livep, he]))
          have HE := Lib.hid he; clear he
          go_wp2_with (first
            | (go_at_call 21; refine (rright_any B _ _ _ xs _ HRd.out hN).mono ?_; rintro e w' ⟨rfl, rfl⟩; rw [HR.out])
            | (go_at_call 38; refine (robs_any _ _ _ _ olds _ _ HMd.out hn).mono ?_; rintro e w' ⟨rfl, rfl⟩; rw [HE.out])
            | (at_builtin; refine wpList_push rfl (.tmp 21) (.tmp 23) _ rfl (w.heap.size) 3 t0 _ 1 8 Try.underlying23 hi0 hz0 hz1 hz2 rfl (by decide) _ _ _ rfl ((hown).alloc _) ⟨(wr).heap.size, 0, none⟩ 1 1 [.int .i64 (k)] rfl rfl (cell_one_new _ _ _) (by intro u hu; simp at hu; subst hu; rfl) (by simp only [maxLen]; omega) (by omega) (by simp; omega) ?_; intro v' w1 hown1 hb1; have hgr1 : Grows w w1 := Below.trans (hgr.alloc _) hb1))
          go_roundg (N - (k + 1))
          case measure => rw [HG.out]; omega
          case rel => exact ⟨k + 1, by go_num, by omega, rfl, by rw [hs.out, ints_append, ints_one, List.length_append]; exact hown1, hgr1⟩
        | true =>
          have hs := Lib.hid (selTo_no (p := livep olds) (k := k) (by simp [livep, he]))
          have HE := Lib.hid he; clear he
          go_wp2_with (first
            | (go_at_call 21; refine (rright_any B _ _ _ xs _ HRd.out hN).mono ?_; rintro e w' ⟨rfl, rfl⟩; rw [HR.out])
            | (go_at_call 38; refine (robs_any _ _ _ _ olds _ _ HMd.out hn).mono ?_; rintro e w' ⟨rfl, rfl⟩; rw [HE.out]))
          go_roundg (N - (k + 1))
          case measure => rw [HG.out]; omega
          case rel => exact ⟨k + 1, by go_num, by omega, rfl, by rw [hs.out]; exact hown, hgr⟩
      · go_wp2
        go_ret
        exact ⟨_, rfl, by rw [hf.out, show N = k by omega]; exact hown, hgr⟩

theorem gi_take {xs : List Int} {k j : Nat} (h : j < k) : gi (xs.take k) j = gi xs j := by
  unfold gi
  simp [h]

theorem Reads.take {w : World} {B n k : Nat} {A : Option Addr} {xs : List Int} (h : Reads w B 1 A n (ints xs)) (hk : k ≤ n) : Reads w B 1 A k (ints (xs.take k)) := by
  have hl := h.intLen
  refine ⟨by simp [ints]; omega, fun h0 => ?_⟩
  obtain ⟨ad, e, hb, hc⟩ := h.2 (by omega)
  refine ⟨ad, e, hb, fun j u hu => hc j u ?_⟩
  rw [ints, List.map_take, List.getElem?_take] at hu
  split at hu
  · exact hu
  · cases hu
theorem Reads.dropInts {w : World} {B n k c : Nat} {A : Option Addr} {xs : List Int} (h : Reads w B 1 A n (ints xs)) (hk : k ≤ n) (hc : n ≤ c) : Reads w B 1 (if c = k then A else A.map (·.add k)) (n - k) (ints (xs.drop k)) := by
  have := h.cut (k := k) (cap := c) hk hc
  rw [Nat.mul_one] at this
  rw [ints, List.map_drop]
  exact this

theorem own_reads {w : World} {B n : Nat} {v : Value} {xs : List Int} (h : w.ownsRow B 3 1 v n (ints xs)) : ∃ A c, v = .slice A n c ∧ n ≤ c ∧ Reads w w.heap.size 1 A n (ints xs) := by
  obtain ⟨A, c, rfl, h1, _⟩ := own_form h
  exact ⟨A, c, rfl, h1, Reads.of_own h⟩

set_option maxHeartbeats 2000000 in
theorem radd_any (B : Nat) (v : Value) (n : Nat) (xs : List Int) (x : Int) (w : World) (hown : w.ownsRow B 3 1 v n (ints xs)) (hB : B ≤ w.heap.size) (hn : n ≤ 1000000000000) :
    Calls Try.prog 49 #[v, .int .i64 x] w fun e w' => ∃ v', e = .returned v' ∧ w'.ownsRow B 3 1 v' (addL xs x).length (ints (addL xs x)) ∧ Grows w w' := by
  obtain ⟨A, c, rfl, hnc, hr⟩ := own_reads hown
  have HL := Lib.hid hr.intLen
  have H := Lib.hid hr; clear hr
  have HOW := Lib.hid hown; clear hown
  obtain ⟨t0, hi0, hz0, hz1, hz2⟩ := info_parts Try.infoInt
  cases he : inL xs x with
  | true =>
    have HE := Lib.hid he
    have hf := Lib.hid (show addL xs x = xs by simp [addL, he])
    clear he
    go_enter Try.func49, Try.ntmps49
    go_wp2_with (go_at_call 17; refine (in_any _ _ _ _ xs _ _ H.out (by omega)).mono ?_; rintro e w2 ⟨rfl, rfl⟩; rw [HE.out])
    go_ret
    exact ⟨_, rfl, by rw [hf.out, HL.out]; exact HOW.out, Grows.refl _⟩
  | false =>
    have HE := Lib.hid he
    have hf := Lib.hid (show addL xs x = xs.take (addAt xs x n) ++ [x] ++ xs.drop (addAt xs x n) by simp only [addL, he, HL.out]; simp)
    clear he
    go_enter Try.func49, Try.ntmps49
    go_wp2_with (go_at_call 17; refine (in_any _ _ _ _ xs _ _ H.out (by omega)).mono ?_; rintro e w2 ⟨rfl, rfl⟩; rw [HE.out])
    go_loopg [5] n (fun gk q wr => w = wr ∧ ∃ k : Nat, q = .int .i64 k ∧ k ≤ n ∧ gk = k ∧ addAt xs x n = addAt xs x k)
    case atStart => exact ⟨rfl, n, rfl, by omega, rfl, rfl⟩
    case round =>
      obtain ⟨rfl, k, rfl, hk, hgk, hat⟩ := hrel
      have HG := Lib.hid hgk
      have HAT := Lib.hid hat
      clear hgk hat
      have hdone : (addAt xs x n = k) → Hid (addAt xs x n = k) := fun h => h
      by_cases hstep : 0 < k ∧ x < gi xs (k - 1)
      · obtain ⟨h0, h1⟩ := hstep
        obtain ⟨j, rfl⟩ : ∃ j, k = j + 1 := ⟨k - 1, by omega⟩
        rw [Nat.add_sub_cancel] at h1
        obtain ⟨ad, rfl, had, hc⟩ := H.out.int (show j < n by omega)
        have hst := Lib.hid (show addAt xs x (j + 1) = addAt xs x j by simp [addAt, h1])
        have ej : ((j + 1 : Nat) : Int) - 1 = j := by omega
        clear hdone
        go_wp2
        go_roundg j
        case measure => rw [HG.out]; omega
        case rel => exact ⟨rfl, j, rfl, by omega, rfl, by rw [HAT.out, hst.out]⟩
      · have hcase : (k = 0) ∨ (∃ j, k = j + 1 ∧ gi xs j ≤ x) := by
          cases k with
          | zero => exact .inl rfl
          | succ j => exact .inr ⟨j, rfl, by rw [Nat.add_sub_cancel] at hstep; omega⟩
        have hK : addAt xs x n = k := by
          rw [HAT.out]
          rcases hcase with h | ⟨j, h, h1⟩
          · rw [h]; rfl
          · rw [h, addAt, if_neg (by omega)]
        have HK := Lib.hid hK
        clear hdone hK hstep HAT HG
        have hT0 := Lib.hid (H.out.take hk)
        have hD0 := Lib.hid (H.out.dropInts hk hnc)
        have htl : (ints (xs.take k)).length = k := by rw [ints_len, List.length_take, HL.out]; omega
        have HTL := Lib.hid htl
        clear htl
        have hdw : Grows w w.drew := (Grows.refl w).drew
        have hda := Lib.hid (hdw.alloc (.cells #[.int .i64 x] 3))
        have HDW := Lib.hid hdw
        have hx1 : (w.drew.alloc (.cells #[.int .i64 x] 3)).cell? ⟨w.heap.size, 0, none⟩ = some (.int .i64 x) := cell_new w.drew _ _
        have HX1 := Lib.hid hx1
        clear hdw hx1
        rcases hcase with rfl | ⟨j, rfl, h1⟩
        · have HDR := Lib.hid (show Reads w w.heap.size 1 A n (ints (xs.drop 0)) from H.out)
          have HFIN := Lib.hid (show (addL xs x).length = 0 + 0 + 1 + n ∧ ints (addL xs x) = [] ++ ints (xs.take 0) ++ [.int .i64 x] ++ ints (xs.drop 0) by
            have e := HL.out
            rw [hf.out, HK.out]
            refine ⟨by simp [e]; omega, by simp [ints]⟩)
          go_wp2_with fail
          go_region_law (first
            | (refine step_pushR rfl (.const (.slice none 0 0)) (.tmp 27) _ rfl w.heap.size 3 t0 _ 1 8 Try.underlying23 hi0 hz0 hz1 hz2 rfl (by decide) (.slice none 0 0) 0 [] rfl (World.ownsRow_nil _ _ _ _) w.heap.size A 0 c (ints (xs.take 0)) (by simp [Act.eval, Act.put]) ?c1 (ints_oneCell _) (by simp only [maxLen]; omega) (by omega) ?c2 ?_
               case c1 => exact hT0.out.grows (Nat.le_refl _) HDW.out
               case c2 => exact Nat.le_refl _
               intro v1 w1 hown1 hb1
               have hga := Grows.trans HDW.out hb1)
            | (refine step_pushR rfl (.const (.slice none 0 0)) (.tmp 27) _ rfl (w.heap.size + 1) 3 t0 _ 1 8 Try.underlying23 hi0 hz0 hz1 hz2 rfl (by decide) (.slice none 0 0) 0 [] rfl (World.ownsRow_nil _ _ _ _) w.heap.size A 0 c (ints (xs.take 0)) (by simp [Act.eval]) ?c1 (ints_oneCell _) (by simp only [maxLen]; omega) (by omega) ?c2 ?_
               case c1 => exact hT0.out.grows (Nat.le_refl _) hda.out
               case c2 => simp
               intro v1 w1 hown1 hb1
               have hgb : Grows w w1 := Below.trans hda.out (Below.mono hb1 (by simp))
               have hxc := (Below.cell hb1 (p := ⟨w.heap.size, 0, none⟩) (by simp)).trans HX1.out)
            | (refine step_pushR rfl (.tmp 28) (.tmp 30) _ rfl w.heap.size 3 t0 _ 1 8 Try.underlying23 hi0 hz0 hz1 hz2 rfl (by decide) v1 (0 + 0) ([] ++ ints (xs.take 0)) (by simp [Act.eval]) ?c3 (w1.heap.size + 1) (some ⟨w1.heap.size, 0, none⟩) 1 1 [.int .i64 x] (by simp [Act.eval]) ?c1 ?c4 (by simp only [maxLen]; omega) (by omega) ?c2 ?_
               case c3 => exact hown1.alloc _
               case c1 => exact reads_one (cell_new w1 _ _)
               case c4 => intro u hu; simp at hu; subst hu; rfl
               case c2 => have := hga.size; simp; omega
               intro v2 w2 hown2 hb2
               have hg2 : Grows w w2 := Below.trans (hga.alloc _) hb2)
            | (refine step_pushR rfl (.tmp 28) (.tmp 30) _ rfl (w.heap.size + 1) 3 t0 _ 1 8 Try.underlying23 hi0 hz0 hz1 hz2 rfl (by decide) v1 (0 + 0) ([] ++ ints (xs.take 0)) (by simp [Act.eval]) ?c3 (w.heap.size + 1) (some ⟨w.heap.size, 0, none⟩) 1 1 [.int .i64 x] (by simp [Act.eval]) ?c1 ?c4 (by simp only [maxLen]; omega) (by omega) ?c2 ?_
               case c3 => exact hown1
               case c1 => exact reads_one hxc
               case c4 => intro u hu; simp at hu; subst hu; rfl
               case c2 => have := hb1.size; simpa using this
               intro v2 w2 hown2 hb2
               have hg2b : Grows w w2 := Below.trans hgb (Below.mono hb2 (by simp))
               have hz2b : w.heap.size + 1 ≤ w2.heap.size := Nat.le_trans (by have := hb1.size; simpa using this) hb2.size)
            | (refine step_pushR rfl (.tmp 31) (.tmp 34) _ rfl w.heap.size 3 t0 _ 1 8 Try.underlying23 hi0 hz0 hz1 hz2 rfl (by decide) v2 (0 + 0 + 1) ([] ++ ints (xs.take 0) ++ [.int .i64 x]) (by simp [Act.eval]) ?c3 w.heap.size A n c (ints (xs.drop 0)) (by simp [Act.eval]) ?c1 (ints_oneCell _) (by simp only [maxLen]; omega) (by omega) ?c2 ?_
               case c3 => exact hown2
               case c1 => exact HDR.out.grows (Nat.le_refl _) hg2
               case c2 => exact hg2.size
               intro v3 w3 hown3 hb3
               have hg3 : Grows w w3 := Below.trans hg2 hb3
               have hown4 := hown3)
            | (refine step_pushR rfl (.tmp 31) (.tmp 34) _ rfl (w.heap.size + 1) 3 t0 _ 1 8 Try.underlying23 hi0 hz0 hz1 hz2 rfl (by decide) v2 (0 + 0 + 1) ([] ++ ints (xs.take 0) ++ [.int .i64 x]) (by simp [Act.eval]) ?c3 w.heap.size A n c (ints (xs.drop 0)) (by simp [Act.eval]) ?c1 (ints_oneCell _) (by simp only [maxLen]; omega) (by omega) ?c2 ?_
               case c3 => exact hown2
               case c1 => exact HDR.out.grows (Nat.le_refl _) hg2b
               case c2 => exact hz2b
               intro v3 w3 hown3 hb3
               have hg3 : Grows w w3 := Below.trans hg2b (Below.mono hb3 (by simp))
               have hown4 := own_mono hown3 (Nat.le_succ w.heap.size)))
          all_goals
            go_wp2
            go_ret
            refine ⟨v3, rfl, ?_, hg3⟩
            have e1 := HFIN.out
            rw [e1.1, e1.2]
            exact own_mono hown4 hB
        · have HFIN := Lib.hid (show (addL xs x).length = 0 + (j + 1) + 1 + (n - (j + 1)) ∧ ints (addL xs x) = [] ++ ints (xs.take (j + 1)) ++ [.int .i64 x] ++ ints (xs.drop (j + 1)) by
            have e := HL.out
            rw [hf.out, HK.out]
            refine ⟨by simp [e]; omega, by simp [ints]⟩)
          obtain ⟨ad, rfl, had, hc⟩ := H.out.int (show j < n by omega)
          have ej : ((j + 1 : Nat) : Int) - 1 = j := by omega
          have hdx : decide (x < gi xs j) = false := decide_eq_false (by omega)
          have b1 : (0 : Int) ≤ (j : Int) + 1 := by omega
          have b2 : (j : Int) + 1 ≤ c := by omega
          have b3 : (j : Int) + 1 ≤ n := by omega
          by_cases hcj : c = j + 1
          · have HDR := Lib.hid (show Reads w w.heap.size 1 (some ad) (n - (j + 1)) (ints (xs.drop (j + 1))) by have := hD0.out; rwa [if_pos hcj] at this)
            go_wp2_with fail
            go_region_law (first
              | (refine step_pushR rfl (.const (.slice none 0 0)) (.tmp 27) _ rfl w.heap.size 3 t0 _ 1 8 Try.underlying23 hi0 hz0 hz1 hz2 rfl (by decide) (.slice none 0 0) 0 [] rfl (World.ownsRow_nil _ _ _ _) w.heap.size (some ad) (j + 1) (j + 1) (ints (xs.take (j + 1))) (by simp [Act.eval, Act.put]) ?c1 (ints_oneCell _) (by simp only [maxLen]; omega) (by omega) ?c2 ?_
                 case c1 => exact hT0.out.grows (Nat.le_refl _) HDW.out
                 case c2 => exact Nat.le_refl _
                 intro v1 w1 hown1 hb1
                 have hga := Grows.trans HDW.out hb1)
              | (refine step_pushR rfl (.const (.slice none 0 0)) (.tmp 27) _ rfl (w.heap.size + 1) 3 t0 _ 1 8 Try.underlying23 hi0 hz0 hz1 hz2 rfl (by decide) (.slice none 0 0) 0 [] rfl (World.ownsRow_nil _ _ _ _) w.heap.size (some ad) (j + 1) (j + 1) (ints (xs.take (j + 1))) (by simp [Act.eval]) ?c1 (ints_oneCell _) (by simp only [maxLen]; omega) (by omega) ?c2 ?_
                 case c1 => exact hT0.out.grows (Nat.le_refl _) hda.out
                 case c2 => simp
                 intro v1 w1 hown1 hb1
                 have hgb : Grows w w1 := Below.trans hda.out (Below.mono hb1 (by simp))
                 have hxc := (Below.cell hb1 (p := ⟨w.heap.size, 0, none⟩) (by simp)).trans HX1.out)
              | (refine step_pushR rfl (.tmp 28) (.tmp 30) _ rfl w.heap.size 3 t0 _ 1 8 Try.underlying23 hi0 hz0 hz1 hz2 rfl (by decide) v1 (0 + (j + 1)) ([] ++ ints (xs.take (j + 1))) (by simp [Act.eval]) ?c3 (w1.heap.size + 1) (some ⟨w1.heap.size, 0, none⟩) 1 1 [.int .i64 x] (by simp [Act.eval]) ?c1 ?c4 (by simp only [maxLen]; omega) (by omega) ?c2 ?_
                 case c3 => exact hown1.alloc _
                 case c1 => exact reads_one (cell_new w1 _ _)
                 case c4 => intro u hu; simp at hu; subst hu; rfl
                 case c2 => have := hga.size; simp; omega
                 intro v2 w2 hown2 hb2
                 have hg2 : Grows w w2 := Below.trans (hga.alloc _) hb2)
              | (refine step_pushR rfl (.tmp 28) (.tmp 30) _ rfl (w.heap.size + 1) 3 t0 _ 1 8 Try.underlying23 hi0 hz0 hz1 hz2 rfl (by decide) v1 (0 + (j + 1)) ([] ++ ints (xs.take (j + 1))) (by simp [Act.eval]) ?c3 (w.heap.size + 1) (some ⟨w.heap.size, 0, none⟩) 1 1 [.int .i64 x] (by simp [Act.eval]) ?c1 ?c4 (by simp only [maxLen]; omega) (by omega) ?c2 ?_
                 case c3 => exact hown1
                 case c1 => exact reads_one hxc
                 case c4 => intro u hu; simp at hu; subst hu; rfl
                 case c2 => have := hb1.size; simpa using this
                 intro v2 w2 hown2 hb2
                 have hg2b : Grows w w2 := Below.trans hgb (Below.mono hb2 (by simp))
                 have hz2b : w.heap.size + 1 ≤ w2.heap.size := Nat.le_trans (by have := hb1.size; simpa using this) hb2.size)
              | (refine step_pushR rfl (.tmp 31) (.tmp 34) _ rfl w.heap.size 3 t0 _ 1 8 Try.underlying23 hi0 hz0 hz1 hz2 rfl (by decide) v2 (0 + (j + 1) + 1) ([] ++ ints (xs.take (j + 1)) ++ [.int .i64 x]) (by simp [Act.eval]) ?c3 w.heap.size (some ad) (n - (j + 1)) 0 (ints (xs.drop (j + 1))) (by simp [Act.eval]) ?c1 (ints_oneCell _) (by simp only [maxLen]; omega) (by omega) ?c2 ?_
                 case c3 => exact hown2
                 case c1 => exact HDR.out.grows (Nat.le_refl _) hg2
                 case c2 => exact hg2.size
                 intro v3 w3 hown3 hb3
                 have hg3 : Grows w w3 := Below.trans hg2 hb3
                 have hown4 := hown3)
              | (refine step_pushR rfl (.tmp 31) (.tmp 34) _ rfl (w.heap.size + 1) 3 t0 _ 1 8 Try.underlying23 hi0 hz0 hz1 hz2 rfl (by decide) v2 (0 + (j + 1) + 1) ([] ++ ints (xs.take (j + 1)) ++ [.int .i64 x]) (by simp [Act.eval]) ?c3 w.heap.size (some ad) (n - (j + 1)) 0 (ints (xs.drop (j + 1))) (by simp [Act.eval]) ?c1 (ints_oneCell _) (by simp only [maxLen]; omega) (by omega) ?c2 ?_
                 case c3 => exact hown2
                 case c1 => exact HDR.out.grows (Nat.le_refl _) hg2b
                 case c2 => exact hz2b
                 intro v3 w3 hown3 hb3
                 have hg3 : Grows w w3 := Below.trans hg2b (Below.mono hb3 (by simp))
                 have hown4 := own_mono hown3 (Nat.le_succ w.heap.size)))
            all_goals
              go_wp2
              go_ret
              refine ⟨v3, rfl, ?_, hg3⟩
              have e1 := HFIN.out
              rw [e1.1, e1.2]
              exact own_mono hown4 hB
          · have HDR := Lib.hid (show Reads w w.heap.size 1 (some ⟨ad.block, ad.off + (j + 1), none⟩) (n - (j + 1)) (ints (xs.drop (j + 1))) by have := hD0.out; rwa [if_neg hcj] at this)
            go_wp2_with fail
            go_region_law (first
              | (refine step_pushR rfl (.const (.slice none 0 0)) (.tmp 27) _ rfl w.heap.size 3 t0 _ 1 8 Try.underlying23 hi0 hz0 hz1 hz2 rfl (by decide) (.slice none 0 0) 0 [] rfl (World.ownsRow_nil _ _ _ _) w.heap.size (some ad) (j + 1) c (ints (xs.take (j + 1))) (by simp [Act.eval, Act.put]) ?c1 (ints_oneCell _) (by simp only [maxLen]; omega) (by omega) ?c2 ?_
                 case c1 => exact hT0.out.grows (Nat.le_refl _) HDW.out
                 case c2 => exact Nat.le_refl _
                 intro v1 w1 hown1 hb1
                 have hga := Grows.trans HDW.out hb1)
              | (refine step_pushR rfl (.const (.slice none 0 0)) (.tmp 27) _ rfl (w.heap.size + 1) 3 t0 _ 1 8 Try.underlying23 hi0 hz0 hz1 hz2 rfl (by decide) (.slice none 0 0) 0 [] rfl (World.ownsRow_nil _ _ _ _) w.heap.size (some ad) (j + 1) c (ints (xs.take (j + 1))) (by simp [Act.eval]) ?c1 (ints_oneCell _) (by simp only [maxLen]; omega) (by omega) ?c2 ?_
                 case c1 => exact hT0.out.grows (Nat.le_refl _) hda.out
                 case c2 => simp
                 intro v1 w1 hown1 hb1
                 have hgb : Grows w w1 := Below.trans hda.out (Below.mono hb1 (by simp))
                 have hxc := (Below.cell hb1 (p := ⟨w.heap.size, 0, none⟩) (by simp)).trans HX1.out)
              | (refine step_pushR rfl (.tmp 28) (.tmp 30) _ rfl w.heap.size 3 t0 _ 1 8 Try.underlying23 hi0 hz0 hz1 hz2 rfl (by decide) v1 (0 + (j + 1)) ([] ++ ints (xs.take (j + 1))) (by simp [Act.eval]) ?c3 (w1.heap.size + 1) (some ⟨w1.heap.size, 0, none⟩) 1 1 [.int .i64 x] (by simp [Act.eval]) ?c1 ?c4 (by simp only [maxLen]; omega) (by omega) ?c2 ?_
                 case c3 => exact hown1.alloc _
                 case c1 => exact reads_one (cell_new w1 _ _)
                 case c4 => intro u hu; simp at hu; subst hu; rfl
                 case c2 => have := hga.size; simp; omega
                 intro v2 w2 hown2 hb2
                 have hg2 : Grows w w2 := Below.trans (hga.alloc _) hb2)
              | (refine step_pushR rfl (.tmp 28) (.tmp 30) _ rfl (w.heap.size + 1) 3 t0 _ 1 8 Try.underlying23 hi0 hz0 hz1 hz2 rfl (by decide) v1 (0 + (j + 1)) ([] ++ ints (xs.take (j + 1))) (by simp [Act.eval]) ?c3 (w.heap.size + 1) (some ⟨w.heap.size, 0, none⟩) 1 1 [.int .i64 x] (by simp [Act.eval]) ?c1 ?c4 (by simp only [maxLen]; omega) (by omega) ?c2 ?_
                 case c3 => exact hown1
                 case c1 => exact reads_one hxc
                 case c4 => intro u hu; simp at hu; subst hu; rfl
                 case c2 => have := hb1.size; simpa using this
                 intro v2 w2 hown2 hb2
                 have hg2b : Grows w w2 := Below.trans hgb (Below.mono hb2 (by simp))
                 have hz2b : w.heap.size + 1 ≤ w2.heap.size := Nat.le_trans (by have := hb1.size; simpa using this) hb2.size)
              | (refine step_pushR rfl (.tmp 31) (.tmp 34) _ rfl w.heap.size 3 t0 _ 1 8 Try.underlying23 hi0 hz0 hz1 hz2 rfl (by decide) v2 (0 + (j + 1) + 1) ([] ++ ints (xs.take (j + 1)) ++ [.int .i64 x]) (by simp [Act.eval]) ?c3 w.heap.size (some ⟨ad.block, ad.off + (j + 1), none⟩) (n - (j + 1)) (c - (j + 1)) (ints (xs.drop (j + 1))) (by simp [Act.eval]) ?c1 (ints_oneCell _) (by simp only [maxLen]; omega) (by omega) ?c2 ?_
                 case c3 => exact hown2
                 case c1 => exact HDR.out.grows (Nat.le_refl _) hg2
                 case c2 => exact hg2.size
                 intro v3 w3 hown3 hb3
                 have hg3 : Grows w w3 := Below.trans hg2 hb3
                 have hown4 := hown3)
              | (refine step_pushR rfl (.tmp 31) (.tmp 34) _ rfl (w.heap.size + 1) 3 t0 _ 1 8 Try.underlying23 hi0 hz0 hz1 hz2 rfl (by decide) v2 (0 + (j + 1) + 1) ([] ++ ints (xs.take (j + 1)) ++ [.int .i64 x]) (by simp [Act.eval]) ?c3 w.heap.size (some ⟨ad.block, ad.off + (j + 1), none⟩) (n - (j + 1)) (c - (j + 1)) (ints (xs.drop (j + 1))) (by simp [Act.eval]) ?c1 (ints_oneCell _) (by simp only [maxLen]; omega) (by omega) ?c2 ?_
                 case c3 => exact hown2
                 case c1 => exact HDR.out.grows (Nat.le_refl _) hg2b
                 case c2 => exact hz2b
                 intro v3 w3 hown3 hb3
                 have hg3 : Grows w w3 := Below.trans hg2b (Below.mono hb3 (by simp))
                 have hown4 := own_mono hown3 (Nat.le_succ w.heap.size)))
            all_goals
              go_wp2
              go_ret
              refine ⟨v3, rfl, ?_, hg3⟩
              have e1 := HFIN.out
              rw [e1.1, e1.2]
              exact own_mono hown4 hB

/-- ADD ENDS -/
theorem add_ends : True := trivial

end Go.Proofs.Ytdhdlkbldngmoaa
