/- The walks of package visible. -/
import Derived.Test.YtdhdlkbldngmoaaVisSpec
import Derived.Test.YtdhdlkbldngmoaaGraphWalk2
namespace Go.Proofs.Ytdhdlkbldngmoaa
open Go.RowKit Go.Deep

/-- a slice of markers, of which the old numbers are told -/
def Marks (w : World) (B : Nat) (A : Option Addr) (n : Nat) (olds : List Int) : Prop :=
  olds.length = n ∧ (0 < n → ∃ ad, A = some ad ∧ ad.block < B ∧ ∀ k, k < n → w.cell? (ad.add (k * 2)) = some (.int .i64 (gi olds k)) ∧ ∃ A' m c, w.cell? ⟨(ad.add (k * 2)).block, (ad.add (k * 2)).off + 1, none⟩ = some (.slice A' m c))
theorem Marks.keep {w w' : World} {B n : Nat} {A : Option Addr} {olds : List Int} (h : Marks w B A n olds) (hk : ∀ p : Addr, p.block < B → w'.cell? p = w.cell? p) : Marks w' B A n olds := by
  refine ⟨h.1, fun hn => ?_⟩
  obtain ⟨ad, e, hb, hc⟩ := h.2 hn
  refine ⟨ad, e, hb, fun k hkn => ?_⟩
  obtain ⟨h1, A', m, c, h2⟩ := hc k hkn
  exact ⟨(hk _ (by rw [block_of_add]; exact hb)).trans h1, A', m, c, (hk _ (by rw [block_of_add]; exact hb)).trans h2⟩
theorem Marks.grows {w w' : World} {B n : Nat} {A : Option Addr} {olds : List Int} (h : Marks w B A n olds) (hB : B ≤ w.heap.size) (hg : Grows w w') : Marks w' B A n olds := h.keep fun _ hp => Below.cell hg (by omega)
theorem Marks.below {w w' : World} {B n : Nat} {A : Option Addr} {olds : List Int} (h : Marks w B A n olds) (hg : Below B w w') : Marks w' B A n olds := h.keep fun _ hp => Below.cell hg hp
theorem Marks.at_ {w : World} {B n k : Nat} {A : Option Addr} {olds : List Int} (h : Marks w B A n olds) (hk : k < n) :
    ∃ ad, A = some ad ∧ ad.block < B ∧ w.cell? (ad.add (k * 2)) = some (.int .i64 (gi olds k)) ∧ ∃ A' m c, w.cell? ⟨(ad.add (k * 2)).block, (ad.add (k * 2)).off + 1, none⟩ = some (.slice A' m c) := by
  obtain ⟨ad, e, hb, hc⟩ := h.2 (by omega)
  exact ⟨ad, e, hb, hc k hk⟩
theorem Marks.len {w : World} {B n : Nat} {A : Option Addr} {olds : List Int} (h : Marks w B A n olds) : olds.length = n := h.1

/-- the old numbers of the first k -/
theorem inL_take {xs : List Int} {x : Int} {k : Nat} (hk : k < xs.length) : inL (xs.take (k + 1)) x = (inL (xs.take k) x || gi xs k == x) := contains_take hk
theorem inL_out {xs : List Int} {x : Int} {k : Nat} (hk : k < xs.length) (h : gi xs k ≠ x) : inL (xs.take (k + 1)) x = inL (xs.take k) x := by
  rw [inL_take hk, show (gi xs k == x) = false by simpa using h, Bool.or_false]

set_option maxHeartbeats 2000000 in
theorem vlive_any (B : Nat) (A : Option Addr) (N n c : Nat) (olds : List Int) (w : World) (h : Marks w B A n olds) (hB : B ≤ w.heap.size) (hN : N ≤ 1000000000000) (hn : n ≤ maxLen) :
    Calls Try.prog 45 #[.int .i64 N, .slice A n c] w fun e w' => ∃ g, e = .returned (.slice (some ⟨g, 0, none⟩) ((N + 63) / 64) ((N + 63) / 64)) ∧ w.heap.size ≤ g ∧ SetAt w' g ((N + 63) / 64) (fun j => decide (j < N) && livep olds j) ∧ Grows w w' := by
  unfold maxLen at hn
  have HL := Lib.hid h.len
  have H := Lib.hid h; clear h
  go_enter Try.func45, Try.ntmps45
  go_wp2_with (go_at_call 50; refine (visible_made _ _ (by omega)).mono ?_; rintro e w1 ⟨rfl, hset0, hgr0, hsz0⟩)
  have hz1 : w.heap.size + 1 ≤ w1.heap.size := by omega
  clear hsz0
  go_loopg [14] n (fun gk q wr => ∃ k : Nat, q = .int .i64 k ∧ k ≤ n ∧ gk = n - k ∧ SetAt wr w.heap.size ((N + 63) / 64) (fun j => decide (j < N) && inL (olds.take k) j) ∧ Grows w wr ∧ w.heap.size + 1 ≤ wr.heap.size)
  case atStart => exact ⟨0, rfl, by omega, by omega, hset0.congr fun j _ => by simp [inL], hgr0, hz1⟩
  case round =>
    obtain ⟨k, rfl, hk, hgk, hset, hgr, hsz⟩ := hrel
    have HGK := Lib.hid hgk; clear hgk hset0 hgr0
    by_cases hlt : k < n
    · obtain ⟨ad, rfl, had, hc0, A', m', c', hc1⟩ := (H.out.grows hB hgr).at_ hlt
      have hx : ∀ x, gi olds k ≠ x → inL (olds.take (k + 1)) x = inL (olds.take k) x := fun x hx => inL_out (by rw [HL.out]; exact hlt) hx
      have HT := Lib.hid (fun x => inL_take (xs := olds) (x := x) (k := k) (by rw [HL.out]; exact hlt))
      clear hx
      by_cases h0 : 0 ≤ gi olds k
      · by_cases h1 : gi olds k < N
        · obtain ⟨q, hq⟩ : ∃ q : Nat, gi olds k = q := ⟨(gi olds k).toNat, by omega⟩
          have HQ := Lib.hid hq
          rw [hq] at hc0 h1
          have hqN : q < N := by omega
          clear hq h0
          go_wp2_with (go_at_call 47; refine (visible_put _ _ _ _ _ _ (hset.alloc _) (by omega) (by omega)).mono ?_; rintro e w2 ⟨rfl, hset2, hg2, hs2⟩; have hgr2 : Grows w w2 := Below.grown (hgr.alloc _) hg2 (by simp; omega) (fun k hk => by cases hk; omega); have hsz2 : w.heap.size + 1 ≤ w2.heap.size := (by rw [hs2]; simp; omega); clear hs2)
          go_roundg (n - (k + 1))
          case measure => rw [HGK.out]; omega
          case rel => exact ⟨k + 1, by go_num, by omega, rfl, hset2.congr fun j _ => by
            rw [HT.out, HQ.out]
            by_cases e : j = q
            · subst e; simp [hqN]
            · have e1 : (j == q) = false := by simpa using e
              have e2 : ((q : Int) == (j : Int)) = false := by simp; omega
              rw [e1, e2]; simp, hgr2, hsz2⟩
        · have hsetx := (hset.alloc (.cells #[.int .i64 (gi olds k), .slice A' m' c'] 50)).congr (q := fun j => decide (j < N) && inL (olds.take (k + 1)) j) fun j _ => by
            rw [HT.out]
            by_cases e : j < N
            · have e2 : (gi olds k == (j : Int)) = false := by simp; omega
              rw [e2]; simp
            · simp [e]
          have HSX := Lib.hid hsetx
          have hgr2 := hgr.alloc (.cells #[.int .i64 (gi olds k), .slice A' m' c'] 50)
          clear hsetx
          go_wp2
          go_roundg (n - (k + 1))
          case measure => rw [HGK.out]; omega
          case rel => exact ⟨k + 1, by go_num, by omega, rfl, HSX.out, hgr2, by simp; omega⟩
      · have hsetx := (hset.alloc (.cells #[.int .i64 (gi olds k), .slice A' m' c'] 50)).congr (q := fun j => decide (j < N) && inL (olds.take (k + 1)) j) fun j _ => by
          rw [HT.out]
          have e2 : (gi olds k == (j : Int)) = false := by simp; omega
          rw [e2]; simp
        have HSX := Lib.hid hsetx
        have hgr2 := hgr.alloc (.cells #[.int .i64 (gi olds k), .slice A' m' c'] 50)
        clear hsetx
        go_wp2
        go_roundg (n - (k + 1))
        case measure => rw [HGK.out]; omega
        case rel => exact ⟨k + 1, by go_num, by omega, rfl, HSX.out, hgr2, by simp; omega⟩
    · have hset2 := Lib.hid (hset.congr (q := fun j => decide (j < N) && inL olds j) fun j _ => by rw [List.take_of_length_le (by rw [HL.out]; omega)])
      clear hset HGK
      have hge : n ≤ k := by omega
      clear hlt
      obtain ⟨b0, hb0⟩ : ∃ b0, b0 = w.heap.size := ⟨_, rfl⟩
      have HB0 := Lib.hid hb0
      rw [← hb0] at hset2 hsz
      rw [← hb0]
      clear hb0
      go_wp2_with (go_at_call 50; refine (visible_made _ _ (by omega)).mono ?_; rintro e w2 ⟨rfl, hset0, hgr0, hsz0⟩)
      have hset3 := Lib.hid (hset2.out.grows hgr0)
      have hz2 : wr.heap.size + 1 ≤ w2.heap.size := by omega
      have hgr2 := hgr.trans hgr0
      clear hsz0
      obtain ⟨g, hg⟩ : ∃ g, g = wr.heap.size := ⟨_, rfl⟩
      have HGE := Lib.hid hg
      rw [← hg] at hset0 hz2
      rw [← hg]
      have hbg : b0 + 1 ≤ g := by omega
      clear hg
      go_loopg [35] N (fun gk q wr => ∃ k : Nat, q = .int .i64 k ∧ k ≤ N ∧ gk = N - k ∧ SetAt wr g ((N + 63) / 64) (fun j => decide (j < k) && livep olds j) ∧ SetAt wr b0 ((N + 63) / 64) (fun j => decide (j < N) && inL olds j) ∧ Grows w wr ∧ g + 1 ≤ wr.heap.size)
      case atStart => exact ⟨0, rfl, by omega, by omega, hset0.congr fun j _ => by simp, hset3.out, hgr2, hz2⟩
      case round =>
        clear hset2 hset3
        obtain ⟨k, rfl, hk, hgk, hset, hgone, hgr, hsz⟩ := hrel
        have HGK := Lib.hid hgk; clear hgk
        have hwg : w.heap.size ≤ g := by have := HB0.out; omega
        by_cases hlt : k < N
        · cases hl : inL olds k with
          | true =>
            have HP := Lib.hid (show (decide (k < N) && inL olds k) = true by simp [hlt, hl])
            have hsetx := Lib.hid (hset.congr (q := fun j => decide (j < k + 1) && livep olds j) fun j _ => by
              by_cases e : j = k
              · subst e; simp [livep, hl]
              · congr 1; rw [Bool.eq_iff_iff]; simp only [decide_eq_true_eq]; omega)
            clear hl
            go_wp2_with (go_at_call 48; refine (visible_has _ _ _ _ _ _ hgone (by omega) (by omega)).mono ?_; rintro e w' ⟨rfl, rfl⟩; rw [HP.out])
            go_roundg (N - (k + 1))
            case measure => rw [HGK.out]; omega
            case rel => exact ⟨k + 1, by go_num, by omega, rfl, hsetx.out, hgone, hgr, hsz⟩
          | false =>
            have HP := Lib.hid (show (decide (k < N) && inL olds k) = false by simp [hl])
            have HL2 := Lib.hid hl
            clear hl
            go_wp2_with (first
              | (go_at_call 48; refine (visible_has _ _ _ _ _ _ hgone (by omega) (by omega)).mono ?_; rintro e w' ⟨rfl, rfl⟩; rw [HP.out])
              | (go_at_call 47; refine (visible_put _ _ _ _ _ _ hset (by omega) (by omega)).mono ?_; rintro e w3 ⟨rfl, hset3, hg3, hs3⟩; have hgr3 : Grows w w3 := Below.grown hgr hg3 hgr.size (fun k hk => by cases hk; omega); have hgone3 := hgone.of_block (hg3.block b0 hgone.lt (by simp; omega))))
            go_roundg (N - (k + 1))
            case measure => rw [HGK.out]; omega
            case rel => exact ⟨k + 1, by go_num, by omega, rfl, hset3.congr fun j _ => by
              by_cases e : j = k
              · subst e; simp [livep, HL2.out]
              · have e1 : (j == k) = false := by simpa using e
                rw [e1, Bool.or_false]
                congr 1; rw [Bool.eq_iff_iff]; simp only [decide_eq_true_eq]; omega, hgone3, hgr3, by omega⟩
        · go_wp2
          go_ret
          exact ⟨g, rfl, hwg, hset.congr fun j _ => by rw [show k = N by omega], hgr⟩

set_option maxHeartbeats 2000000 in
theorem vlist_any (g N c : Nat) (p : Nat → Bool) (w : World) (h : SetAt w g ((N + 63) / 64) p) (hN : N ≤ 1000000000000) :
    Calls Try.prog 46 #[.slice (some ⟨g, 0, none⟩) ((N + 63) / 64) c, .int .i64 N] w fun e w' => ∃ v, e = .returned v ∧ w'.ownsRow w.heap.size 3 1 v (selTo p N).length (ints (selTo p N)) ∧ Grows w w' := by
  have H := Lib.hid h; clear h
  obtain ⟨t0, hi0, hz0, hz1, hz2⟩ := info_parts Try.infoInt
  go_enter Try.func46, Try.ntmps46
  go_wp2_with fail
  go_loopg [8, 5] N (fun gk q v wr => ∃ k : Nat, q = .int .i64 k ∧ k ≤ N ∧ gk = N - k ∧ wr.ownsRow w.heap.size 3 1 v (selTo p k).length (ints (selTo p k)) ∧ Grows w wr)
  case atStart => exact ⟨0, rfl, by omega, by omega, World.ownsRow_nil _ _ _ _, Grows.refl _⟩
  case round =>
    obtain ⟨k, rfl, hk, hgk, hown, hgr⟩ := hrel
    have HGK := Lib.hid hgk; clear hgk
    have hset := H.out.grows hgr
    have hsz := hgr.size
    have hlen := selTo_len p k
    by_cases hlt : k < N
    · cases hp : p k with
      | true =>
        have HP := Lib.hid hp
        have hs := Lib.hid (selTo_yes hp)
        clear hp
        go_wp2_with (first
          | (go_at_call 48; refine (visible_has _ _ _ _ _ _ hset (by omega) (by omega)).mono ?_; rintro e w' ⟨rfl, rfl⟩; rw [HP.out])
          | (at_builtin; refine wpList_push rfl (.tmp 14) (.tmp 16) _ rfl (w.heap.size) 3 t0 _ 1 8 Try.underlying23 hi0 hz0 hz1 hz2 rfl (by decide) _ _ _ rfl ((hown).alloc _) ⟨(wr).heap.size, 0, none⟩ 1 1 [.int .i64 (k)] rfl rfl (cell_one_new _ _ _) (by intro u hu; simp at hu; subst hu; rfl) (by simp only [maxLen]; omega) (by omega) (by simp; omega) ?_; intro v' w1 hown1 hb1; have hgr1 : Grows w w1 := Below.trans (hgr.alloc _) hb1))
        go_roundg (N - (k + 1))
        case measure => rw [HGK.out]; omega
        case rel => exact ⟨k + 1, by go_num, by omega, rfl, by rw [hs.out, ints_append, ints_one, List.length_append]; exact hown1, hgr1⟩
      | false =>
        have HP := Lib.hid hp
        have hs := Lib.hid (selTo_no hp)
        clear hp
        go_wp2_with (go_at_call 48; refine (visible_has _ _ _ _ _ _ hset (by omega) (by omega)).mono ?_; rintro e w' ⟨rfl, rfl⟩; rw [HP.out])
        go_roundg (N - (k + 1))
        case measure => rw [HGK.out]; omega
        case rel => exact ⟨k + 1, by go_num, by omega, rfl, by rw [hs.out]; exact hown, hgr⟩
    · go_wp2
      go_ret
      exact ⟨_, rfl, by rw [show N = k by omega]; exact hown, hgr⟩

end Go.Proofs.Ytdhdlkbldngmoaa
