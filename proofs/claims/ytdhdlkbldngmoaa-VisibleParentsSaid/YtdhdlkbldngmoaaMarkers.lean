/- rickplay.Markers: markers out of raw ones. -/
import Derived.Test.YtdhdlkbldngmoaaVisMark
namespace Go.Proofs.Ytdhdlkbldngmoaa
open Go.RowKit Go.Deep

/-- a slice of markers, read whole -/
def MarksN (w : World) (B : Nat) (A : Option Addr) (n : Nat) (olds : List Int) (news : Nat → List Int) : Prop :=
  olds.length = n ∧ (0 < n → ∃ ad, A = some ad ∧ ad.block < B ∧ ∀ k, k < n → w.cell? (ad.add (k * 2)) = some (.int .i64 (gi olds k)) ∧ ∃ A' m c, w.cell? ⟨(ad.add (k * 2)).block, (ad.add (k * 2)).off + 1, none⟩ = some (.slice A' m c) ∧ Reads w B 1 A' m (ints (news k)))
theorem MarksN.keep {w w' : World} {B n : Nat} {A : Option Addr} {olds : List Int} {news : Nat → List Int} (h : MarksN w B A n olds news) (hk : ∀ p : Addr, p.block < B → w'.cell? p = w.cell? p) : MarksN w' B A n olds news := by
  refine ⟨h.1, fun hn => ?_⟩
  obtain ⟨ad, e, hb, hc⟩ := h.2 hn
  refine ⟨ad, e, hb, fun k hkn => ?_⟩
  obtain ⟨h1, A', m, c, h2, h3⟩ := hc k hkn
  exact ⟨(hk _ (by rw [block_of_add]; exact hb)).trans h1, A', m, c, (hk _ (by rw [block_of_add]; exact hb)).trans h2, h3.keep hk⟩
theorem MarksN.grows {w w' : World} {B n : Nat} {A : Option Addr} {olds : List Int} {news : Nat → List Int} (h : MarksN w B A n olds news) (hB : B ≤ w.heap.size) (hg : Grows w w') : MarksN w' B A n olds news := h.keep fun _ hp => Below.cell hg (by omega)
theorem MarksN.at_ {w : World} {B n k : Nat} {A : Option Addr} {olds : List Int} {news : Nat → List Int} (h : MarksN w B A n olds news) (hk : k < n) :
    ∃ ad, A = some ad ∧ ad.block < B ∧ w.cell? (ad.add (k * 2)) = some (.int .i64 (gi olds k)) ∧ ∃ A' m c, w.cell? ⟨(ad.add (k * 2)).block, (ad.add (k * 2)).off + 1, none⟩ = some (.slice A' m c) ∧ Reads w B 1 A' m (ints (news k)) := by
  obtain ⟨ad, e, hb, hc⟩ := h.2 (by omega)
  exact ⟨ad, e, hb, hc k hk⟩
theorem MarksN.marks {w : World} {B n : Nat} {A : Option Addr} {olds : List Int} {news : Nat → List Int} (h : MarksN w B A n olds news) : Marks w B A n olds := by
  refine ⟨h.1, fun hn => ?_⟩
  obtain ⟨ad, e, hb, hc⟩ := h.2 hn
  refine ⟨ad, e, hb, fun k hkn => ?_⟩
  obtain ⟨h1, A', m, c, h2, _⟩ := hc k hkn
  exact ⟨h1, A', m, c, h2⟩

/-- the cells of markers: each an int and a slice -/
def MarkCells (xs : List Value) (olds : List Int) : Prop := xs.length = olds.length * 2 ∧ ∀ k, k < olds.length → xs[k * 2]? = some (.int .i64 (gi olds k)) ∧ ∃ A m c, xs[k * 2 + 1]? = some (.slice A m c)
theorem MarkCells.nil : MarkCells [] [] := ⟨rfl, fun k hk => by simp at hk⟩
theorem MarkCells.push {xs : List Value} {olds : List Int} (h : MarkCells xs olds) (v : Int) (A : Option Addr) (m c : Nat) : MarkCells (xs ++ [.int .i64 v, .slice A m c]) (olds ++ [v]) := by
  refine ⟨by simp [h.1]; omega, fun k hk => ?_⟩
  simp only [List.length_append, List.length_singleton] at hk
  have hl := h.1
  by_cases hkl : k < olds.length
  · obtain ⟨h1, A', m', c', h2⟩ := h.2 k hkl
    refine ⟨?_, A', m', c', ?_⟩
    · rw [List.getElem?_append_left (by omega), h1, gi_append, if_pos hkl]
    · rw [List.getElem?_append_left (by omega), h2]
  · have e : k = olds.length := by omega
    subst e
    refine ⟨?_, A, m, c, ?_⟩
    · rw [List.getElem?_append_right (by omega), gi_append, if_neg (by omega), h.1, Nat.sub_self, Nat.sub_self]; rfl
    · rw [List.getElem?_append_right (by omega), show olds.length * 2 + 1 - xs.length = 1 by have := h.1; omega]; rfl
theorem Marks.of_own {w : World} {B : Nat} {t : TypeId} {A : Option Addr} {c n : Nat} {xs : List Value} {olds : List Int} (h : w.ownsRow B t 2 (.slice A n c) n xs) (hm : MarkCells xs olds) (hl : olds.length = n) : Marks w w.heap.size A n olds := by
  have hr := Reads.of_own h
  refine ⟨hl, fun hn => ?_⟩
  obtain ⟨ad, e, hb, hc⟩ := hr.2 hn
  have hh := h
  refine ⟨ad, e, hb, fun k hk => ?_⟩
  obtain ⟨h1, A', m', c', h2⟩ := hm.2 k (by omega)
  obtain ⟨g, cap, hv, _, _⟩ := h.form hn
  have hA : A = some ⟨g, 0, none⟩ := by injection hv
  rw [hA] at e
  injection e with e
  subst e
  refine ⟨hc _ _ h1, A', m', c', ?_⟩
  have h3 := hc _ _ h2
  have e2 : ∀ j, Addr.add ⟨g, 0, none⟩ j = ⟨g, j, none⟩ := by intro j; unfold Addr.add; split <;> simp_all
  rw [e2] at h3 ⊢
  exact h3

theorem Try.infoMarker : (Try.prog.info? 50).map (fun i => (i.zero, i.size, i.bytes)) = some (some (.agg #[.int .i64 0, .slice none 0 0]), 2, 32) := by kernel_rfl

/-- what Markers gives -/
def MarkRes (e : Ending) (w w' : World) : Prop := ∃ A' m c' ks, e = .returned (.slice A' m c') ∧ Marks w' w'.heap.size A' m ks ∧ m ≤ 40 ∧ Grows w w'
/-- the marker under work -/
def MarkAt (wx : World) (mb : Nat) (old : Int) (j : Nat) : Prop := ∃ A2 m2 c2 ys, Blk wx mb 50 #[.int .i64 old, .slice A2 m2 c2] ∧ wx.ownsRow (mb + 1) 3 1 (.slice A2 m2 c2) m2 ys ∧ m2 ≤ j
theorem MarkAt.new (w : World) (old : Int) : MarkAt (w.alloc (.cells #[.int .i64 old, .slice none 0 0] 50)) w.heap.size old 0 := ⟨none, 0, 0, [], Blk.new _ _ _, World.ownsRow_nil _ _ _ _, Nat.le_refl _⟩
theorem cell_two_new (w : World) (u v : Value) (t : TypeId) : ∀ j x, [u, v][j]? = some x → (w.alloc (.cells #[u, v] t)).cell? (Addr.add ⟨w.heap.size, 0, none⟩ j) = some x := by
  intro j x hx
  have e2 : Addr.add ⟨w.heap.size, 0, none⟩ j = ⟨w.heap.size, j, none⟩ := by unfold Addr.add; split <;> simp_all
  rw [e2, cell_of_row _ w.heap.size j _ _ _ (heap_alloc_new w _)]
  match j, hx with
  | 0, hx => simpa using hx
  | 1, hx => simpa using hx

set_option maxHeartbeats 4000000 in
set_option maxRecDepth 100000 in
theorem markers_any (B : Nat) (A : Option Addr) (n c N : Nat) (olds : List Int) (news : Nat → List Int) (w : World) (h : MarksN w B A n olds news) (hB : B ≤ w.heap.size) (hn : n ≤ maxLen) (hN : N ≤ 1000000) :
    Calls Try.prog 37 #[.int .i64 N, .slice A n c] w fun e w' => MarkRes e w w' := by
  unfold maxLen at hn
  have H := Lib.hid h; clear h
  obtain ⟨t0, hi0, hz0, hz1, hz2⟩ := info_parts Try.infoInt
  obtain ⟨t1, hj0, hy0, hy1, hy2⟩ := info_parts Try.infoMarker
  go_enter Try.func37, Try.ntmps37
  go_wp2
  go_loopg [6, 5] n (fun gk q v wr => ∃ (k : Nat) (xs : List Value) (ks : List Int), q = .int .i64 k ∧ k ≤ n ∧ k ≤ 40 ∧ gk = n - k ∧ ks.length = k ∧ MarkCells xs ks ∧ wr.ownsRow w.heap.size 50 2 v k xs ∧ Grows w wr)
  case atStart => exact ⟨0, [], [], rfl, by omega, by omega, rfl, rfl, MarkCells.nil, World.ownsRow_nil _ _ _ _, Grows.refl _⟩
  case round =>
    obtain ⟨k, xs, ks, rfl, hk, hk40, hgk, hks, hmc, hown, hgr⟩ := hrel
    have HG := Lib.hid hgk; clear hgk
    have HKS := Lib.hid hks
    have HMC := Lib.hid hmc
    clear hks hmc
    have hsz := hgr.size
    have hfin : ∀ w2 : World, w2 = wr → MarkRes (.returned u5) w w2 := by
      rintro w2 rfl
      obtain ⟨A', c', rfl, _, _⟩ := own_form hown
      exact ⟨A', k, c', ks, rfl, Marks.of_own hown HMC.out HKS.out, hk40, hgr⟩
    have HF := Lib.hid hfin
    clear hfin
    by_cases hlt : k < n
    · by_cases hlm : k < 40
      · by_cases hN0 : 0 < N
        · obtain ⟨ad, rfl, had, hc0, A1, m1, c1, hc1, hr1⟩ := ((H.out).grows hB hgr).at_ hlt
          have HOW := Lib.hid hown
          have HIN := Lib.hid hr1
          have HC1 := Lib.hid hc1
          clear hown hr1 hc1
          go_wp2_with fail
          obtain ⟨old, hold⟩ : ∃ old : Int, wrap64 ((IntKind.u64.wrap (gi olds k)).tmod (N : Int)) = old := ⟨_, rfl⟩
          rw [hold]
          have hat := MarkAt.new wr old
          have hgs : Grows wr (wr.alloc (.cells #[.int .i64 old, .slice none 0 0] 50)) := (Grows.refl wr).alloc _
          have hzz : wr.heap.size + 1 ≤ (wr.alloc (.cells #[.int .i64 old, .slice none 0 0] 50)).heap.size := by simp
          obtain ⟨wo, rfl⟩ : ∃ wo : World, wo = wr := ⟨_, rfl⟩
          clear hold hc0
          go_loopg [8] 4 (fun gk q wx => ∃ j : Nat, q = .int .i64 j ∧ j ≤ 4 ∧ gk = 4 - j ∧ MarkAt wx wo.heap.size old j ∧ Grows wo wx ∧ wo.heap.size + 1 ≤ wx.heap.size)
          case atStart => exact ⟨0, rfl, by omega, by omega, hat, hgs, hzz⟩
          case round =>
            obtain ⟨j, rfl, hj, hgk, ⟨A2, m2, c2, ys, hblk, hrow, hm2⟩, hgx, hszx⟩ := hrel
            have HG2 := Lib.hid hgk; clear hgk
            have HR2 := Lib.hid hrow
            have HB2 := Lib.hid hblk
            have hq0 := hblk.cell 0
            have hq1 := hblk.cell 1
            have hx0 : (wr.cell? ⟨wo.heap.size, 0, none⟩) = some (Value.int .i64 old) := hq0
            have hx1 : (wr.cell? ⟨wo.heap.size, 1, none⟩) = some (Value.slice A2 m2 c2) := hq1
            have hc1' : wr.cell? ⟨(ad.add (k * 2)).block, (ad.add (k * 2)).off + 1, none⟩ = some (Value.slice A1 m1 c1) := (Below.cell hgx (by rw [block_of_add]; omega)).trans HC1.out
            have hgrx := hgr.trans hgx
            clear hq0 hq1 hblk hrow
            have hstop : ∀ (t : Nat), t = t → True := fun _ _ => trivial
            clear hstop
            by_cases hjm : j < m1
            · by_cases hj4 : j < 4
              · obtain ⟨ad1, rfl, had1, hcj⟩ := (HIN.out.grows (by omega) hgx).int hjm
                by_cases hv : old < wrap64 ((IntKind.u64.wrap (gi (news k) j)).tmod (N : Int))
                · obtain ⟨v, hvd⟩ : ∃ v : Int, v = wrap64 ((IntKind.u64.wrap (gi (news k) j)).tmod (N : Int)) := ⟨_, rfl⟩
                  go_wp2_with (at_builtin; refine wpList_push rfl (.tmp 67) (.tmp 69) _ rfl (wo.heap.size + 1) 3 t0 _ 1 8 Try.underlying23 hi0 hz0 hz1 hz2 rfl (by decide) _ _ _ rfl (HR2.out.alloc _) ⟨wr.heap.size, 0, none⟩ 1 1 [.int .i64 (wrap64 ((IntKind.u64.wrap (gi (news k) j)).tmod (N : Int)))] rfl rfl (cell_one_new _ _ _) (by intro u hu; simp at hu; subst hu; rfl) (by simp only [maxLen]; omega) (by omega) (by simp; omega) ?_; intro v' w1 hown1 hb1; obtain ⟨A3, c3, hv3, hnc3, _⟩ := own_form hown1; subst hv3; have HR3 := Lib.hid hown1; have HB3 := Lib.hid ((HB2.out.alloc (.cells #[.int .i64 (wrap64 ((IntKind.u64.wrap (gi (news k) j)).tmod (N : Int)))] 3)).below hb1 (by omega)); have hx3 : (w1.cell? ⟨wo.heap.size, 1, none⟩) = some (Value.slice A2 m2 c2) := HB3.out.cell 1; have hf3 : (w1.frozen? ⟨wo.heap.size, 1, none⟩) = false := HB3.out.frozen 1; have hg3 : Grows wo w1 := Below.trans (hgx.alloc _) (Below.mono hb1 (by omega)); clear hown1 hb1)
                  go_roundg (4 - (j + 1))
                  case measure => rw [HG2.out]; omega
                  case rel => exact ⟨j + 1, by go_num, by omega, rfl, ⟨A3, m2 + 1, c3, _, HB3.out.set_ 1 _, ownsRow_setCell_below HR3.out (by simp) _, by omega⟩, Below.setCell hg3 (Nat.le_refl _) _, by have := HB3.out.lt; simp; omega⟩
                · go_wp2
                  go_roundg (4 - (j + 1))
                  case measure => rw [HG2.out]; omega
                  case rel => exact ⟨j + 1, by go_num, by omega, rfl, ⟨A2, m2, c2, ys, HB2.out, HR2.out, by omega⟩, hgx, hszx⟩
              · have hwx := Lib.hid (own_grows HOW.out hgx)
                obtain ⟨wy, rfl⟩ : ∃ wy : World, wy = wr := ⟨_, rfl⟩
                go_wp2_with (at_builtin; refine wpList_push rfl (.tmp 72) (.tmp 74) _ rfl w.heap.size 50 t1 _ 2 32 Try.underlying34 hj0 hy0 hy1 hy2 rfl (by decide) _ _ _ rfl (hwx.out.alloc _) ⟨wy.heap.size, 0, none⟩ 1 1 [.int .i64 old, .slice A2 m2 c2] rfl rfl (cell_two_new _ _ _ _) (by intro u hu; simp at hu; rcases hu with rfl | rfl <;> rfl) (by simp only [maxLen]; omega) (by omega) (by simp; omega) ?_; intro v' w1 hown1 hb1; have hgr1 : Grows w w1 := Below.trans (hgrx.alloc _) hb1)
                go_roundg (n - (k + 1))
                case measure => rw [HG.out]; omega
                case rel => exact ⟨k + 1, _, _, by go_num, by omega, by omega, rfl, by rw [List.length_append, HKS.out]; rfl, HMC.out.push _ _ _ _, hown1, hgr1⟩
            · have hwx := Lib.hid (own_grows HOW.out hgx)
              obtain ⟨wy, rfl⟩ : ∃ wy : World, wy = wr := ⟨_, rfl⟩
              go_wp2_with (at_builtin; refine wpList_push rfl (.tmp 72) (.tmp 74) _ rfl w.heap.size 50 t1 _ 2 32 Try.underlying34 hj0 hy0 hy1 hy2 rfl (by decide) _ _ _ rfl (hwx.out.alloc _) ⟨wy.heap.size, 0, none⟩ 1 1 [.int .i64 old, .slice A2 m2 c2] rfl rfl (cell_two_new _ _ _ _) (by intro u hu; simp at hu; rcases hu with rfl | rfl <;> rfl) (by simp only [maxLen]; omega) (by omega) (by simp; omega) ?_; intro v' w1 hown1 hb1; have hgr1 : Grows w w1 := Below.trans (hgrx.alloc _) hb1)
              go_roundg (n - (k + 1))
              case measure => rw [HG.out]; omega
              case rel => exact ⟨k + 1, _, _, by go_num, by omega, by omega, rfl, by rw [List.length_append, HKS.out]; rfl, HMC.out.push _ _ _ _, hown1, hgr1⟩
        · go_wp2
          go_ret
          exact HF.out _ rfl
      · go_wp2
        go_ret
        exact HF.out _ rfl
    · go_wp2
      go_ret
      exact HF.out _ rfl

end Go.Proofs.Ytdhdlkbldngmoaa
