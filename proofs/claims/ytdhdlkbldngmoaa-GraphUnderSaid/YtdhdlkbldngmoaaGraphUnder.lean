/- GraphUnder: the walk of the law. -/
import Derived.Test.YtdhdlkbldngmoaaGraphAwake
import Derived.Test.YtdhdlkbldngmoaaGraphLaws
import Derived.Test.YtdhdlkbldngmoaaGraphLine
namespace Go.Proofs.Ytdhdlkbldngmoaa
open Go.RowKit

set_option maxHeartbeats 4000000 in
set_option maxRecDepth 100000 in
theorem gunder_any (A : Option Addr) (n c : Nat) (xs : List Int) (a b : Int) (w : World) (h : Reads w w.heap.size 1 A n (ints xs)) (hn : n ≤ maxLen) :
    Calls Try.prog 4 #[.slice A n c, .int .i64 a, .int .i64 b] w fun e w' => e = .returned (.bool true) ∧ Grows w w' := by
  have H := Lib.hid h; clear h
  obtain ⟨G, hG0⟩ : ∃ G, parents xs 40 = G := ⟨_, rfl⟩
  have hr0 : right G = true := by rw [← hG0]; exact right_parents _ _
  have hl0 : G.length ≤ 40 := by rw [← hG0, parents_len]; omega
  obtain ⟨N, hN⟩ : ∃ N, G.length = N := ⟨_, rfl⟩
  have HGL := Lib.hid hN
  have HR := Lib.hid hr0
  have HG := Lib.hid hG0
  rw [hN] at hl0
  clear hN hr0 hG0
  go_enter Try.func4, Try.ntmps4
  go_wp2_with fail
  refine (parents_any _ _ _ _ _ 40 _ H.out (Nat.le_refl _) hn (by omega)).mono fun e w1 h => ?_
  obtain ⟨A1, c1, rfl, hr1, hg1⟩ := retL G N HG.out HGL.out h
  clear h
  by_cases h0 : N = 0
  · subst h0
    go_wp2_with fail
    refine (gawake_any _).mono ?_
    rintro e w3 ⟨rfl, hg3⟩
    have hfin := hg1.trans hg3
    go_wp2_with fail
    go_ret
    exact ⟨rfl, hfin⟩
  · obtain ⟨I, hI, he1⟩ := mod_u64 a N (by omega) (by omega)
    obtain ⟨J, hJ, he2⟩ := mod_u64 b N (by omega) (by omega)
    have h1 : ((N : Int) == 0) = false := by simp; omega
    have HR1 := Lib.hid hr1
    clear hr1
    go_wp2_with fail
    go_quiet (fail)
    simp only [he1, he2]
    have hg2 : Grows w (w1.drewN nq) := hg1.drewN nq
    have HR2 := Lib.hid (HR1.out.drewN nq)
    clear he1 he2 HR1 h1
    obtain ⟨w2, hw2⟩ : ∃ w2, w2 = w1.drewN nq := ⟨_, rfl⟩
    have HZ := Lib.hid (show w1.heap.size = w2.heap.size by rw [hw2]; rfl)
    rw [← hw2] at hg2 HR2
    rw [← hw2]
    rw [HZ.out] at HR2
    clear hw2 HZ
    have hr := HR.out
    have HIB := Lib.hid (isB_iff.2 ⟨(by omega : (0 : Int) ≤ (I : Int)), by rw [HGL.out]; omega, hr⟩)
    have HJB := Lib.hid (isB_iff.2 ⟨(by omega : (0 : Int) ≤ (J : Int)), by rw [HGL.out]; omega, hr⟩)
    clear hr
    go_wp2_with fail
    refine (under_any _ _ _ _ _ _ _ HR2.out (Nat.le_refl _) (by omega)).mono fun e w3 h => ?_
    obtain ⟨A3, c3, rfl, hr3, hg3⟩ := retL (under G I) _ rfl rfl h
    clear h
    have HR3 := Lib.hid (HR2.out.grows (Nat.le_refl _) hg3)
    go_wp2_with fail
    refine (chain_any _ _ _ _ _ _ _ HR3.out hg3.size (by omega)).mono fun e w4 h => ?_
    obtain ⟨L, hL⟩ : ∃ L, L = (chain G J).length := ⟨_, rfl⟩
    obtain ⟨A4, c4, rfl, hr4, hg4⟩ := retL (up G J) L (chain_up HJB.out) (by rw [hL, chain_up HJB.out]) h
    clear h
    have hLL := up_len HR.out (J : Int) (by rw [HGL.out]; omega)
    rw [← chain_up HJB.out, ← hL] at hLL
    have HLe := Lib.hid (show (up G J).length = L by rw [hL, chain_up HJB.out])
    clear hL
    have HR4 := Lib.hid (HR3.out.grows hg3.size hg4)
    have HU := Lib.hid (hr3.grows (Nat.le_refl _) hg4)
    have HC := Lib.hid hr4
    have hg24 := hg3.trans hg4
    have hU4 := hg4.size
    clear hr3 hr4
    obtain ⟨U, hUn⟩ : ∃ U, U = (under G I).length := ⟨_, rfl⟩
    have hUle : U ≤ N := by rw [hUn, ← HGL.out]; exact selTo_len _ _
    rw [← hUn] at HU ⊢
    clear hUn
    go_wp2_with fail
    go_loopg [10] (L - 1) (fun gk q wr => (∃ m, wr = w4.drewN m) ∧ ∃ i : Nat, q = .int .i64 ((i : Int) + 1) ∧ gk = L - (i + 1))
    case atStart => exact ⟨⟨0, rfl⟩, 0, rfl, rfl⟩
    case round =>
      obtain ⟨⟨m, rfl⟩, i, rfl, hgk⟩ := hrel
      have HGK := Lib.hid hgk; clear hgk
      by_cases hlt : i + 1 < L
      · have hil : (i : Int) + 1 < L := by omega
        obtain ⟨ad, rfl, _, hc1⟩ := HC.out.int hlt
        have hc0 := HC.out.intAt (show i < L by omega)
        have hb0 := up_get HR.out (i := (J : Int)) (by rw [HGL.out]; omega) (k := i) (by rw [HLe.out]; omega)
        have hb1 := up_get HR.out (i := (J : Int)) (by rw [HGL.out]; omega) (k := i + 1) (by rw [HLe.out]; omega)
        have hnx := up_next HR.out i (J : Int) (by rw [HGL.out]; omega) (by rw [HLe.out]; omega)
        obtain ⟨q, hq⟩ : ∃ q : Nat, gi (up G J) i = q := ⟨(gi (up G J) i).toNat, by omega⟩
        rw [hq] at hc0 hb0 hnx
        rw [Int.toNat_natCast] at hnx
        have hqN : q < N := by omega
        have hqi : (q : Int) < N := by omega
        obtain ⟨ag, rfl, _, hcg⟩ := HR4.out.int hqN
        have hlow := (right_at HR.out (k := q) (by rw [HGL.out]; exact hqN)).2
        rw [← hnx] at hcg hlow
        generalize gi (up G J) (i + 1) = y at hc1 hb1 hnx hcg hlow
        clear hq hnx
        have hc1' : w4.cell? ⟨ad.block, ad.off + (i + 1), none⟩ = some (Value.int .i64 y) := hc1
        have s1 : IntKind.i64.wrap (i : Int) = (i : Int) := by rw [IntKind.wrap_i64]; omega
        have k0 : (0 : Int) ≤ i := by omega
        have k1 : (i : Int) < L := by omega
        have k2 : (0 : Int) ≤ q := by omega
        have s2 : (0 : Int) ≤ (i : Int) + 1 := by omega
        have s3 : ((i : Int) + 1).toNat = i + 1 := by omega
        have d1 : decide ((q : Int) ≤ y) = false := decide_eq_false (by omega)
        have d2 : decide ((q : Int) < 0) = false := decide_eq_false (by omega)
        have d3 : decide (N ≤ q) = false := decide_eq_false (by omega)
        have d4 : (y != y) = false := by simp
        go_wp2
        go_quiet (fail)
        go_wp2
        go_roundg (L - (i + 1 + 1))
        case measure => rw [HGK.out]; omega
        case rel => exact ⟨⟨m + nq, rfl⟩, i + 1, by go_num, rfl⟩
      · clear HGK
        obtain ⟨w5, hw5⟩ : ∃ w5, w5 = w4.drewN m := ⟨_, rfl⟩
        have HR5 := Lib.hid (HR4.out.drewN m)
        have HU5 := Lib.hid (HU.out.drewN m)
        have HC5 := Lib.hid (HC.out.drewN m)
        have hg5 : Grows w2 (w4.drewN m) := hg24.drewN m
        have hw45 := Lib.hid (show w4.heap.size = (w4.drewN m).heap.size from rfl)
        rw [← hw5] at HR5 HU5 HC5 hg5 hw45
        rw [← hw5]
        clear hw5 HR4 HU HC hg24
        have hj : ¬ ((i : Int) + 1 < L) := by omega
        go_wp2_with fail
        refine (base_any _ _ _ _ _ _ _ _ HR5.out (by omega)).mono ?_
        rintro e w' ⟨rfl, rfl⟩
        have HBC := Lib.hid (base_comm G I J)
        have HBB := Lib.hid (fun k : Int => base_both (xs := G) I J k)
        have HX0 := Lib.hid (fun (k : Int) (h : base G I J < 0) => above_neg (xs := G) (a := k) h)
        have hXl : base G I J ≤ 100 ∧ -1 ≤ base G I J := by
          rcases base_cases G I J with ⟨e, _⟩ | ⟨h3, _⟩
          · omega
          · have h4 := above_isB h3
            have h5 := (isB_iff.1 h4.1).1
            omega
        obtain ⟨X, hX⟩ : ∃ X, X = base G I J := ⟨_, rfl⟩
        rw [← hX] at HBC HBB HX0 hXl
        rw [← hX]
        clear hX
        go_wp2_with fail
        go_loopg [12] N (fun gk q wr => w5 = wr ∧ ∃ k : Nat, q = .int .i64 k ∧ k ≤ N ∧ gk = N - k)
        case atStart => exact ⟨rfl, 0, rfl, by omega, by omega⟩
        case round =>
          obtain ⟨rfl, k, rfl, hk, hgk⟩ := hrel
          have HGK := Lib.hid hgk; clear hgk
          by_cases hlt : k < N
          · have hin : inL (under G I) k = above G I k := by
              rw [Bool.eq_iff_iff, inL_iff, under, mem_selTo]
              have e := HGL.out
              simp; omega
            have HIN := Lib.hid hin
            clear hin
            have hcase : ∃ p r : Bool, above G k I = p ∧ above G k J = r ∧ above G k X = (p && r) := ⟨_, _, rfl, rfl, (HBB.out k).symm⟩
            obtain ⟨p, r, h1, h2, h3⟩ := hcase
            have H1 := Lib.hid h1
            have H2 := Lib.hid h2
            have H3 := Lib.hid h3
            have HP := Lib.hid (fun h : X < 0 => (HX0.out k h).symm.trans h3)
            clear h1 h2 h3
            have hb : (above G I k != above G I k) = false := by simp
            have ht : ((true : Bool) != true) = false := rfl
            have hf : ((false : Bool) != false) = false := rfl
            have hno : ¬ (X < 0 ∧ (p && r) = true) := fun h => by
              have := HP.out h.1
              rw [h.2] at this
              cases this
            have HNO := Lib.hid hno
            clear hno
            by_cases hx : X < 0
            all_goals
              have HXX := Lib.hid hx
              cases p
              all_goals
                cases r
                all_goals
                  first
                  | (exfalso; exact HNO.out ⟨HXX.out, rfl⟩)
                  | (go_wp2_with (first
                      | (go_at_call 16; refine (above_any _ _ _ _ G _ _ _ HR5.out (by omega)).mono ?_; rintro e w' ⟨rfl, rfl⟩; first | rw [H1.out] | rw [H2.out] | rw [H3.out] | skip)
                      | (go_at_call 17; refine (in_any _ _ _ _ (under G I) _ _ HU5.out (by omega)).mono ?_; rintro e w' ⟨rfl, rfl⟩; rw [HIN.out]))
                     go_roundg (N - (k + 1))
                     case measure => rw [HGK.out]; omega
                     case rel => exact ⟨rfl, k + 1, by go_num, by omega, rfl⟩)
          · clear HGK
            have hd := up_head HR.out (i := (J : Int)) (by omega) (by rw [HGL.out]; omega)
            rw [HLe.out] at hd
            obtain ⟨hL0, hd0⟩ := hd
            have HD := Lib.hid hd0
            clear hd0
            go_wp2_with fail
            refine (gawake_any _).mono ?_
            rintro e w6 ⟨rfl, hg6⟩
            have HR6 := Lib.hid (HR5.out.grows hg5.size hg6)
            obtain ⟨ad, rfl, _, hc0⟩ := (HC5.out.grows (by have := hw45.out; omega) hg6).int hL0
            rw [HD.out] at hc0
            have hc0' : w6.cell? ad = some (Value.int .i64 J) := hc0
            have hJJ : ((J : Int) == J) = true := by simp
            have hL0' : (0 : Int) < L := by omega
            go_wp2_with fail
            refine (base_any _ _ _ _ _ _ _ _ HR6.out (by omega)).mono ?_
            rintro e w7 ⟨rfl, rfl⟩
            rw [← HBC.out]
            have hXX : (X == X) = true := by simp
            have hfin := (hg2.trans hg5).trans hg6
            go_wp2_with fail
            go_ret
            exact ⟨rfl, hfin⟩

end Go.Proofs.Ytdhdlkbldngmoaa
