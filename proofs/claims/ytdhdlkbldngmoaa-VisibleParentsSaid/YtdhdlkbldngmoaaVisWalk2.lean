/- The walks of package visible: Live, Seen, Heads. -/
import Derived.Test.YtdhdlkbldngmoaaVisWalk
namespace Go.Proofs.Ytdhdlkbldngmoaa
open Go.RowKit Go.Deep

theorem own_up {w w1 w2 : World} {xs ys : List Int} {e : Ending} (hg : Grows w w1) (he : xs = ys) (h : ∃ v, e = .returned v ∧ w2.ownsRow w1.heap.size 3 1 v xs.length (ints xs) ∧ Grows w1 w2) :
    ∃ v, e = .returned v ∧ w2.ownsRow w.heap.size 3 1 v ys.length (ints ys) ∧ Grows w w2 := by
  obtain ⟨v, rfl, hown, hg2⟩ := h
  subst he
  exact ⟨v, rfl, own_mono hown hg.size, hg.trans hg2⟩

set_option maxHeartbeats 2000000 in
theorem vLive_any (B B' : Nat) (A A' : Option Addr) (N n c c' : Nat) (xs olds : List Int) (w : World) (hx : Reads w B 1 A N (ints xs)) (h : Marks w B' A' n olds) (hB' : B' ≤ w.heap.size) (hN : N ≤ 1000000000000) (hn : n ≤ maxLen) :
    Calls Try.prog 31 #[.slice A N c, .slice A' n c'] w fun e w' => ∃ v, e = .returned v ∧ w'.ownsRow w.heap.size 3 1 v (liveL xs olds).length (ints (liveL xs olds)) ∧ Grows w w' := by
  have HL := Lib.hid hx.intLen
  have HX := Lib.hid hx; clear hx
  have H := Lib.hid h; clear h
  cases hr : right xs with
  | false =>
    have HR := Lib.hid hr
    have hf := Lib.hid (liveL_none (olds := olds) hr)
    clear hr
    go_enter Try.func31, Try.ntmps31
    go_wp2_with fail
    refine (right_any _ _ _ _ _ _ HX.out (by simp only [maxLen]; omega)).mono ?_
    rintro e w' ⟨rfl, rfl⟩
    rw [HR.out]
    go_wp2_with fail
    go_ret
    rw [hf.out]
    exact ⟨_, rfl, World.ownsRow_nil _ _ _ _, Grows.refl _⟩
  | true =>
    have HR := Lib.hid hr
    have hf := Lib.hid (show selTo (fun j => decide (j < N) && livep olds j) N = liveL xs olds by
      rw [liveL_right hr, HL.out]
      exact selTo_congr fun j hj => by simp [hj])
    clear hr
    go_enter Try.func31, Try.ntmps31
    go_wp2_with fail
    refine (right_any _ _ _ _ _ _ HX.out (by simp only [maxLen]; omega)).mono ?_
    rintro e w' ⟨rfl, rfl⟩
    rw [HR.out]
    go_wp2_with fail
    refine (vlive_any _ _ _ _ _ olds _ H.out hB' hN hn).mono ?_
    rintro e w1 ⟨g, rfl, _, hset, hg1⟩
    go_wp2_with fail
    refine (vlist_any _ _ _ _ _ hset hN).mono fun e w2 h => ?_
    obtain ⟨v, rfl, hown, hg2⟩ := own_up hg1 hf.out h
    clear h
    go_wp2_with fail
    go_ret
    exact ⟨_, rfl, hown, hg2⟩

set_option maxHeartbeats 2000000 in
theorem vSeen_any (B B' B2 : Nat) (A A' A2 : Option Addr) (N n c c' m c2 : Nat) (xs olds keep : List Int) (w : World) (hx : Reads w B 1 A N (ints xs)) (h : Marks w B' A' n olds) (hk : Reads w B2 1 A2 m (ints keep)) (hB : B ≤ w.heap.size) (hB' : B' ≤ w.heap.size) (hB2 : B2 ≤ w.heap.size) (hN : N ≤ 1000000000000) (hn : n ≤ maxLen) (hm : m ≤ maxLen) :
    Calls Try.prog 33 #[.slice A N c, .slice A' n c', .slice A2 m c2] w fun e w' => ∃ v, e = .returned v ∧ w'.ownsRow w.heap.size 3 1 v (seenL xs olds keep).length (ints (seenL xs olds keep)) ∧ Grows w w' := by
  have HL := Lib.hid hx.intLen
  have HKL := Lib.hid hk.intLen
  have HX := Lib.hid hx; clear hx
  have HK := Lib.hid hk; clear hk
  have H := Lib.hid h; clear h
  unfold maxLen at hm
  cases hr : right xs with
  | false =>
    have HR := Lib.hid hr
    have hf := Lib.hid (seenL_none (olds := olds) (keep := keep) hr)
    clear hr
    go_enter Try.func33, Try.ntmps33
    go_wp2_with fail
    refine (right_any _ _ _ _ _ _ HX.out (by simp only [maxLen]; omega)).mono ?_
    rintro e w' ⟨rfl, rfl⟩
    rw [HR.out]
    go_wp2_with fail
    go_ret
    rw [hf.out]
    exact ⟨_, rfl, World.ownsRow_nil _ _ _ _, Grows.refl _⟩
  | true =>
    have HR := Lib.hid hr
    have hf := Lib.hid (seenL_right (olds := olds) (keep := keep) hr)
    clear hr
    go_enter Try.func33, Try.ntmps33
    go_wp2_with fail
    refine (right_any _ _ _ _ _ _ HX.out (by simp only [maxLen]; omega)).mono ?_
    rintro e w' ⟨rfl, rfl⟩
    rw [HR.out]
    go_wp2_with fail
    refine (vlive_any _ _ _ _ _ olds _ H.out hB' hN hn).mono ?_
    rintro e w1 ⟨g, rfl, hwg, hset1, hg1⟩
    have HS1 := Lib.hid hset1
    have hgl := hset1.lt
    clear hset1
    go_wp2_with fail
    go_loopg [22] m (fun gk q wr => ∃ k : Nat, q = .int .i64 k ∧ k ≤ m ∧ gk = m - k ∧ SetAt wr g ((N + 63) / 64) (fun j => decide (j < N) && (livep olds j || inL (keep.take k) j)) ∧ Grows w wr)
    case atStart => exact ⟨0, rfl, by omega, by omega, HS1.out.congr fun j _ => by simp [inL], hg1⟩
    case round =>
      obtain ⟨k, rfl, hk, hgk, hset, hgr⟩ := hrel
      have HGK := Lib.hid hgk; clear hgk
      by_cases hlt : k < m
      · obtain ⟨ad, rfl, had, hc⟩ := (HK.out.grows hB2 hgr).int hlt
        have HT := Lib.hid (fun x => inL_take (xs := keep) (x := x) (k := k) (by rw [HKL.out]; exact hlt))
        by_cases hin : 0 ≤ gi keep k ∧ gi keep k < N
        · obtain ⟨h0, h1⟩ := hin
          obtain ⟨q, hq⟩ : ∃ q : Nat, gi keep k = q := ⟨(gi keep k).toNat, by omega⟩
          have HQ := Lib.hid hq
          rw [hq] at hc h1
          have hqN : q < N := by omega
          clear hq h0
          go_wp2_with (go_at_call 47; refine (visible_put _ _ _ _ _ _ hset (by omega) (by omega)).mono ?_; rintro e w2 ⟨rfl, hset2, hg2, hs2⟩; have hgr2 : Grows w w2 := Below.grown hgr hg2 hgr.size (fun k hk => by cases hk; omega))
          go_roundg (m - (k + 1))
          case measure => rw [HGK.out]; omega
          case rel => exact ⟨k + 1, by go_num, by omega, rfl, hset2.congr fun j _ => by
            rw [HT.out, HQ.out]
            by_cases e : j = q
            · subst e; simp [hqN]
            · have e1 : (j == q) = false := by simpa using e
              have e2 : ((q : Int) == (j : Int)) = false := by simp; omega
              rw [e1, e2]; simp, hgr2⟩
        · have hset2 := Lib.hid (hset.congr (q := fun j => decide (j < N) && (livep olds j || inL (keep.take (k + 1)) j)) fun j _ => by
            rw [HT.out]
            by_cases e : j < N
            · have e2 : (gi keep k == (j : Int)) = false := by simp; omega
              rw [e2]; simp
            · simp [e])
          have hcase : gi keep k < 0 ∨ (0 ≤ gi keep k ∧ (N : Int) ≤ gi keep k) := by omega
          clear hin
          rcases hcase with h0 | ⟨h0, h1⟩
          all_goals
            go_wp2
            go_roundg (m - (k + 1))
            case measure => rw [HGK.out]; omega
            case rel => exact ⟨k + 1, by go_num, by omega, rfl, hset2.out, hgr⟩
      · have hset2 := Lib.hid (hset.congr (q := fun j => decide (j < N) && shown olds keep j) fun j _ => by rw [List.take_of_length_le (by rw [HKL.out]; omega)]; rfl)
        have hge : m ≤ k := by omega
        have hd0 : decide (k < m) = false := decide_eq_false (by omega)
        clear hset HGK hlt
        go_wp2_with fail
        go_loopg [11] N (fun gk q wr => ∃ (i : Int) (p : Nat → Bool), q = .int .i64 i ∧ -1 ≤ i ∧ i < N ∧ gk = (i + 1).toNat ∧ SetAt wr g ((N + 63) / 64) p ∧ SeenAt xs olds keep (i + 1).toNat p ∧ Grows w wr)
        case atStart =>
          refine ⟨(N : Int) - 1, _, rfl, by omega, by omega, by omega, hset2.out, ?_, hgr⟩
          have e : ((N : Int) - 1 + 1).toNat = xs.length := by rw [HL.out]; omega
          rw [e]
          exact SeenAt.start HR.out fun j hj => by
            rw [HL.out] at hj
            simp [hj]
        case round =>
          clear hset2 hgr
          obtain ⟨i, p, rfl, hi0, hi1, hgk, hset, hsn, hgr⟩ := hrel
          have HGK := Lib.hid hgk
          have HSN := Lib.hid hsn
          clear hgk hsn
          by_cases hneg : i < 0
          · have hset3 := Lib.hid (show selTo p N = seenL xs olds keep by
              rw [hf.out, HL.out]
              refine selTo_congr fun j hj => ?_
              have hz := HSN.out
              rw [show (i + 1).toNat = 0 by omega] at hz
              exact hz.done HR.out (by rw [HL.out]; exact hj))
            go_wp2_with fail
            refine (vlist_any _ _ _ _ _ hset hN).mono fun e w2 h => ?_
            obtain ⟨v, rfl, hown, hg2⟩ := own_up hgr hset3.out h
            clear h
            go_wp2_with fail
            go_ret
            exact ⟨_, rfl, hown, hg2⟩
          · obtain ⟨a, rfl⟩ : ∃ a : Nat, i = a := ⟨i.toNat, by omega⟩
            have ha : a < N := by omega
            have hS := HSN.out
            rw [show ((a : Int) + 1).toNat = a + 1 by omega] at hS
            obtain ⟨ad, rfl, had, hc⟩ := (HX.out.grows hB hgr).int ha
            have hb := right_at HR.out (k := a) (by rw [HL.out]; exact ha)
            cases hp : p a with
            | false =>
              have HP := Lib.hid hp
              have HS := Lib.hid (hS.skip (.inl hp))
              clear hp hS hb
              go_wp2_with (go_at_call 48; refine (visible_has _ _ _ _ _ _ hset (by omega) (by omega)).mono ?_; rintro e w' ⟨rfl, rfl⟩; rw [HP.out])
              go_roundg a
              case measure => rw [HGK.out]; omega
              case rel => exact ⟨(a : Int) - 1, p, rfl, by omega, by omega, by omega, hset, by rw [show ((a : Int) - 1 + 1).toNat = a by omega]; exact HS.out, hgr⟩
            | true =>
              by_cases h0 : 0 ≤ gi xs a
              · obtain ⟨q, hq⟩ : ∃ q : Nat, gi xs a = q := ⟨(gi xs a).toNat, by omega⟩
                have HP := Lib.hid hp
                have HS := Lib.hid (hS.put HR.out (by rw [HL.out]; exact ha) hp hq)
                rw [hq] at hc hb
                have hqa : q < a := by omega
                have hq0 : (0 : Int) ≤ q := by omega
                have HC := Lib.hid (fun (w2 : World) (hg : Grows w w2) => Reads.intAt (HX.out.grows hB hg) ha)
                clear hp hS hb hq h0
                go_wp2_with (first
                  | (go_at_call 48; refine (visible_has _ _ _ _ _ _ hset (by omega) (by omega)).mono ?_; rintro e w' ⟨rfl, rfl⟩; rw [HP.out])
                  | (go_at_call 47; refine (visible_put _ _ _ _ _ _ hset (by omega) (by omega)).mono ?_; rintro e w2 ⟨rfl, hset2, hg2, hs2⟩; have hgr2 : Grows w w2 := Below.grown hgr hg2 hgr.size (fun k hk => by cases hk; omega)))
                go_roundg a
                case measure => rw [HGK.out]; omega
                case rel => exact ⟨(a : Int) - 1, _, rfl, by omega, by omega, by omega, hset2, by rw [show ((a : Int) - 1 + 1).toNat = a by omega]; exact HS.out, hgr2⟩
              · have HP := Lib.hid hp
                have HS := Lib.hid (hS.skip (.inr (by omega)))
                clear hp hS hb
                go_wp2_with (go_at_call 48; refine (visible_has _ _ _ _ _ _ hset (by omega) (by omega)).mono ?_; rintro e w' ⟨rfl, rfl⟩; rw [HP.out])
                go_roundg a
                case measure => rw [HGK.out]; omega
                case rel => exact ⟨(a : Int) - 1, p, rfl, by omega, by omega, by omega, hset, by rw [show ((a : Int) - 1 + 1).toNat = a by omega]; exact HS.out, hgr⟩

set_option maxHeartbeats 2000000 in
theorem vHeads_any (B B' : Nat) (A A' : Option Addr) (N n c c' : Nat) (xs olds : List Int) (w : World) (hx : Reads w B 1 A N (ints xs)) (h : Marks w B' A' n olds) (hB : B ≤ w.heap.size) (hB' : B' ≤ w.heap.size) (hN : N ≤ 1000000000000) (hn : n ≤ maxLen) :
    Calls Try.prog 35 #[.slice A N c, .slice A' n c'] w fun e w' => ∃ v, e = .returned v ∧ w'.ownsRow w.heap.size 3 1 v (headL xs olds).length (ints (headL xs olds)) ∧ Grows w w' := by
  have HL := Lib.hid hx.intLen
  have HX := Lib.hid hx; clear hx
  have H := Lib.hid h; clear h
  cases hr : right xs with
  | false =>
    have HR := Lib.hid hr
    have hf := Lib.hid (headL_none (olds := olds) hr)
    clear hr
    go_enter Try.func35, Try.ntmps35
    go_wp2_with fail
    refine (right_any _ _ _ _ _ _ HX.out (by simp only [maxLen]; omega)).mono ?_
    rintro e w' ⟨rfl, rfl⟩
    rw [HR.out]
    go_wp2_with fail
    go_ret
    rw [hf.out]
    exact ⟨_, rfl, World.ownsRow_nil _ _ _ _, Grows.refl _⟩
  | true =>
    have HR := Lib.hid hr
    have hf := Lib.hid (headL_right (olds := olds) hr)
    obtain ⟨t0, hi0, hz0, hz1, hz2⟩ := info_parts Try.infoInt
    clear hr
    go_enter Try.func35, Try.ntmps35
    go_wp2_with fail
    refine (right_any _ _ _ _ _ _ HX.out (by simp only [maxLen]; omega)).mono ?_
    rintro e w' ⟨rfl, rfl⟩
    rw [HR.out]
    go_wp2_with fail
    refine (vlive_any _ _ _ _ _ olds _ H.out hB' hN hn).mono ?_
    rintro e w1 ⟨g, rfl, hwg, hset1, hg1⟩
    go_wp2_with fail
    refine (visible_made _ _ (by omega)).mono ?_
    rintro e w2 ⟨rfl, hu2, hg2, hz2s⟩
    obtain ⟨u, hu⟩ : ∃ u, u = w1.heap.size := ⟨_, rfl⟩
    rw [← hu] at hu2 hz2s ⊢
    have HS2 := Lib.hid (hset1.grows hg2)
    have HU2 := Lib.hid hu2
    have hgu : g < u := by rw [hu]; exact hset1.lt
    have hgw2 := hg1.trans hg2
    have hzu : u + 1 ≤ w2.heap.size := by omega
    have hwu : w.heap.size ≤ u := by omega
    clear hu hu2 hset1 hz2s
    go_wp2_with fail
    go_loopg [9] N (fun gk q wr => ∃ (i : Int) (p : Nat → Bool), q = .int .i64 i ∧ -1 ≤ i ∧ i < N ∧ gk = (i + 1).toNat ∧ SetAt wr u ((N + 63) / 64) p ∧ HeadAt xs olds (i + 1).toNat p ∧ SetAt wr g ((N + 63) / 64) (fun j => decide (j < N) && livep olds j) ∧ Grows w wr ∧ u + 1 ≤ wr.heap.size)
    case atStart =>
      refine ⟨(N : Int) - 1, _, rfl, by omega, by omega, by omega, HU2.out, ?_, HS2.out, hgw2, hzu⟩
      have e : ((N : Int) - 1 + 1).toNat = xs.length := by rw [HL.out]; omega
      rw [e]
      exact HeadAt.start fun j hj => rfl
    case round =>
      clear hgw2
      obtain ⟨i, p, rfl, hia, hib, hgk, hset, hsn, hlv, hgr, hsz⟩ := hrel
      have HGK := Lib.hid hgk
      have HSN := Lib.hid hsn
      clear hgk hsn
      by_cases hneg : i < 0
      · have hd := Lib.hid (show ∀ j, j < N → (livep olds j && !p j) = headp xs olds j from fun j hj => by
          have hz := HSN.out
          rw [show (i + 1).toNat = 0 by omega] at hz
          rw [headp, hz.done HR.out (by rw [HL.out]; exact hj)])
        have HSET := Lib.hid hset
        have HLV := Lib.hid hlv
        have hzz := hgr.size
        clear hset hlv
        obtain ⟨wo, rfl⟩ : ∃ wo : World, wo = wr := ⟨_, rfl⟩
        go_wp2_with fail
        go_loopg [49, 8] N (fun gk q v wx => ∃ k : Nat, q = .int .i64 k ∧ k ≤ N ∧ gk = N - k ∧ wx.ownsRow wo.heap.size 3 1 v (selTo (headp xs olds) k).length (ints (selTo (headp xs olds) k)) ∧ Grows wo wx)
        case atStart => exact ⟨0, rfl, by omega, by omega, World.ownsRow_nil _ _ _ _, Grows.refl _⟩
        case round =>
          obtain ⟨k, rfl, hk, hgk, hown, hgx⟩ := hrel
          have HGK2 := Lib.hid hgk
          have hlv := HLV.out.grows hgx
          have hun := HSET.out.grows hgx
          have hlen := selTo_len (headp xs olds) k
          have hzx := hgx.size
          clear hgk
          by_cases hlt : k < N
          · have hdk := hd.out k hlt
            have hcase : ∃ x y, livep olds k = x ∧ p k = y := ⟨_, _, rfl, rfl⟩
            obtain ⟨x, y, hx, hy⟩ := hcase
            rw [hx, hy] at hdk
            have H1 := Lib.hid (show (decide (k < N) && livep olds k) = x by rw [hx]; simp [hlt])
            have H2 := Lib.hid hy
            clear hx hy
            cases x
            all_goals
              cases y
              all_goals
                first
                | (have hs := Lib.hid (selTo_no (p := headp xs olds) (k := k) hdk.symm)
                   clear hdk
                   go_wp2_with (first
                     | (go_at_call_of 48 g; refine (visible_has _ _ _ _ _ _ hlv (by omega) (by omega)).mono ?_; rintro e w' ⟨rfl, rfl⟩; rw [H1.out])
                     | (go_at_call_of 48 u; refine (visible_has _ _ _ _ _ _ hun (by omega) (by omega)).mono ?_; rintro e w' ⟨rfl, rfl⟩; rw [H2.out]))
                   go_roundg (N - (k + 1))
                   case measure => rw [HGK2.out]; omega
                   case rel => exact ⟨k + 1, by go_num, by omega, rfl, by rw [hs.out]; exact hown, hgx⟩)
                | (have hs := Lib.hid (selTo_yes (p := headp xs olds) (k := k) hdk.symm)
                   clear hdk
                   go_wp2_with (first
                     | (go_at_call_of 48 g; refine (visible_has _ _ _ _ _ _ hlv (by omega) (by omega)).mono ?_; rintro e w' ⟨rfl, rfl⟩; rw [H1.out])
                     | (go_at_call_of 48 u; refine (visible_has _ _ _ _ _ _ hun (by omega) (by omega)).mono ?_; rintro e w' ⟨rfl, rfl⟩; rw [H2.out])
                     | (at_builtin; refine wpList_push rfl (.tmp 61) (.tmp 63) _ rfl (wo.heap.size) 3 t0 _ 1 8 Try.underlying23 hi0 hz0 hz1 hz2 rfl (by decide) _ _ _ rfl ((hown).alloc _) ⟨(wr).heap.size, 0, none⟩ 1 1 [.int .i64 (k)] rfl rfl (cell_one_new _ _ _) (by intro u hu; simp at hu; subst hu; rfl) (by simp only [maxLen]; omega) (by omega) (by simp; omega) ?_; intro v' w3 hown3 hb3; have hgx3 : Grows wo w3 := Below.trans (hgx.alloc _) hb3))
                   go_roundg (N - (k + 1))
                   case measure => rw [HGK2.out]; omega
                   case rel => exact ⟨k + 1, by go_num, by omega, rfl, by rw [hs.out, ints_append, ints_one, List.length_append]; exact hown3, hgx3⟩)
          · go_wp2
            go_ret
            exact ⟨_, rfl, by rw [hf.out, HL.out, show N = k by omega]; exact own_mono hown hzz, hgr.trans hgx⟩
      · obtain ⟨a, rfl⟩ : ∃ a : Nat, i = a := ⟨i.toNat, by omega⟩
        have ha : a < N := by omega
        have hS := HSN.out
        rw [show ((a : Int) + 1).toNat = a + 1 by omega] at hS
        obtain ⟨ad, rfl, had, hc⟩ := (HX.out.grows hB hgr).int ha
        have hb := right_at HR.out (k := a) (by rw [HL.out]; exact ha)
        have HLa := Lib.hid (show (decide (a < N) && livep olds a) = livep olds a by simp [ha])
        have hcase : ∃ x y, livep olds a = x ∧ p a = y := ⟨_, _, rfl, rfl⟩
        obtain ⟨x, y, hx, hy⟩ := hcase
        have H1 := Lib.hid (HLa.out.trans hx)
        have H2 := Lib.hid hy
        by_cases hno : (x || y) = false ∨ gi xs a < 0
        · have HS := Lib.hid (hS.skip (by rw [hx, hy]; exact hno))
          clear hS hb hx hy
          by_cases h0 : gi xs a < 0
          all_goals
            cases x
            all_goals
              cases y
              all_goals
                first
                | (exfalso; rcases hno with h | h; cases h; omega)
                | (clear hno
                   go_wp2_with (first
                     | (go_at_call_of 48 g; refine (visible_has _ _ _ _ _ _ hlv (by omega) (by omega)).mono ?_; rintro e w' ⟨rfl, rfl⟩; rw [H1.out])
                     | (go_at_call_of 48 u; refine (visible_has _ _ _ _ _ _ hset (by omega) (by omega)).mono ?_; rintro e w' ⟨rfl, rfl⟩; rw [H2.out]))
                   go_roundg a
                   case measure => rw [HGK.out]; omega
                   case rel => exact ⟨(a : Int) - 1, p, rfl, by omega, by omega, by omega, hset, by rw [show ((a : Int) - 1 + 1).toNat = a by omega]; exact HS.out, hlv, hgr, hsz⟩)
        · have hxy : (x || y) = true := by
            cases h : (x || y) with
            | true => rfl
            | false => exact absurd (.inl h) hno
          have h0 : 0 ≤ gi xs a := by
            rcases Int.lt_or_le (gi xs a) 0 with h | h
            · exact absurd (.inr h) hno
            · exact h
          obtain ⟨q, hq⟩ : ∃ q : Nat, gi xs a = q := ⟨(gi xs a).toNat, by omega⟩
          have HS := Lib.hid (hS.put HR.out (by rw [HL.out]; exact ha) (by rw [hx, hy]; exact hxy) hq)
          rw [hq] at hc hb
          have hqa : q < a := by omega
          have hq0 : (0 : Int) ≤ q := by omega
          have HXY := Lib.hid hxy
          clear hS hb hx hy hno h0 hq hxy
          cases x
          all_goals
            cases y
            all_goals
              first
              | (exfalso; exact Bool.noConfusion HXY.out)
              | (go_wp2_with (first
                   | (go_at_call_of 48 g; refine (visible_has _ _ _ _ _ _ hlv (by omega) (by omega)).mono ?_; rintro e w' ⟨rfl, rfl⟩; rw [H1.out])
                   | (go_at_call_of 48 u; refine (visible_has _ _ _ _ _ _ hset (by omega) (by omega)).mono ?_; rintro e w' ⟨rfl, rfl⟩; rw [H2.out])
                   | (go_at_call 47; refine (visible_put _ _ _ _ _ _ hset (by omega) (by omega)).mono ?_; rintro e w3 ⟨rfl, hset3, hg3, hs3⟩; have hgr3 : Grows w w3 := Below.grown hgr hg3 hgr.size (fun k hk => by cases hk; omega); have hlv3 := hlv.of_block (hg3.block g hlv.lt (by simp; omega))))
                 go_roundg a
                 case measure => rw [HGK.out]; omega
                 case rel => exact ⟨(a : Int) - 1, _, rfl, by omega, by omega, by omega, hset3, by rw [show ((a : Int) - 1 + 1).toNat = a by omega]; exact HS.out, hlv3, hgr3, by omega⟩)

end Go.Proofs.Ytdhdlkbldngmoaa
