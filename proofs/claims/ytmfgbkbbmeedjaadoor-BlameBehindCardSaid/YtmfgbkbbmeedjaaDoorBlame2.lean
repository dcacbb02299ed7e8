/- Where lines come from: Lines of the program; the document's Blame. -/
import Derived.Test.YtmfgbkbbmeedjaaDoorBlame
import Derived.Test.YtmfgbkbbmeedjaaDoorQuietTail
namespace Go.Proofs.YtmfgbkbbmeedjaaDoor
open Go.RowKit Go.Deep Go.MapKept

/-- a slice of lists of lines -/
def Vers (w : World) (B : Nat) (A : Option Addr) (n : Nat) (l : List (List ByteArray)) : Prop :=
  l.length = n ∧ ∃ vs, Reads w B 1 A n vs ∧ ∀ i, i < n → ∃ A' n' c', vs[i]? = some (.slice A' n' c') ∧ Reads w B 1 A' n' (strs (gv l i)) ∧ n' ≤ c' ∧ c' ≤ maxLen
theorem Vers.at_ {w : World} {B n i : Nat} {A : Option Addr} {l : List (List ByteArray)} (h : Vers w B A n l) (hi : i < n) :
    ∃ ad A' n' c', A = some ad ∧ ad.block < B ∧ w.cell? (ad.add i) = some (.slice A' n' c') ∧ Reads w B 1 A' n' (strs (gv l i)) ∧ n' ≤ c' ∧ c' ≤ maxLen ∧ (gv l i).length = n' := by
  obtain ⟨_, vs, hr, hv⟩ := h
  obtain ⟨ad, u, e, hb, hu, hc⟩ := hr.at_ hi
  obtain ⟨A', n', c', e1, r1, h1, h2⟩ := hv i hi
  rw [e1] at hu
  cases hu
  exact ⟨ad, A', n', c', e, hb, hc, r1, h1, h2, r1.strLen⟩
theorem Vers.grows {w w' : World} {B n : Nat} {A : Option Addr} {l : List (List ByteArray)} (h : Vers w B A n l) (hB : B ≤ w.heap.size) (hg : Grows w w') : Vers w' B A n l := by
  obtain ⟨h1, vs, hr, hv⟩ := h
  refine ⟨h1, vs, hr.grows hB hg, fun i hi => ?_⟩
  obtain ⟨A', n', c', e1, r1, h2, h3⟩ := hv i hi
  exact ⟨A', n', c', e1, r1.grows hB hg, h2, h3⟩
theorem adr_z (a : Addr) : a.add 0 = a := by unfold Addr.add; split <;> simp_all
theorem gi_rep {n i : Nat} (h : i < n) : gi (List.replicate n 0) i = 0 := by simp [gi, h]
/-- a row of ints -/
def IntRow (w : World) (v : Value) (xs : List Int) : Prop := ∃ A c, v = .slice A xs.length c ∧ Reads w w.heap.size 1 A xs.length (ints xs)
theorem IntRow.zeros (w : World) (n : Nat) : IntRow (w.alloc (.cells (madeCells #[.int .i64 0] n) 3)) (.slice (some ⟨w.heap.size, 0, none⟩) n n) (List.replicate n 0) := by
  refine ⟨_, n, by rw [List.length_replicate], ?_⟩
  have h := reads_row (xs := List.replicate n 0) (World.rowIs_made w (.int .i64 0) n 3) (fun i hi => by rw [gi_rep hi]) (List.length_replicate ..) (Nat.le_refl n)
  rw [List.length_replicate]
  exact h.more (by simp)

set_option maxRecDepth 100000 in
set_option maxHeartbeats 2000000 in
theorem blines_any (B : Nat) (A : Option Addr) (n c : Nat) (l : List (List ByteArray)) (w : World) (h : Vers w B A n l) (hB : B ≤ w.heap.size) (hn : n ≤ 1000) (hl : ∀ i, i < n → (gv l i).length ≤ 1000) :
    Calls Tryd.prog 36 #[.slice A n c] w fun e w' => ∃ v, e = .returned v ∧ IntRow w' v (blameL l) ∧ Grows w w' := by
  have HL := Lib.hid h.1
  have HV := Lib.hid h
  have HS := Lib.hid hl
  clear h hl
  rcases Nat.eq_zero_or_pos n with h0 | h0
  · subst h0
    have hb := Lib.hid (show blameL l = [] by rw [blameL, if_pos HL.out])
    go_enter Tryd.func36, Tryd.ntmps36
    go_wp2_with fail
    go_ret
    exact ⟨_, rfl, by rw [hb.out]; exact ⟨none, 0, rfl, Reads.none_⟩, Grows.refl _⟩
  · have n0 : ((n : Int) == 0) = false := by rw [beq_eq_false_iff_ne]; omega
    have n1 : (0 : Int) < n := by omega
    have hb := Lib.hid (show blameL l = blameK l (n - 1) by rw [blameL, HL.out, if_neg (by omega)])
    obtain ⟨t0, hi0, hz0, hz1, hz2⟩ := info_parts Tryd.infoInt
    obtain ⟨ad, A', n', c', rfl, had, p0, r0, _, _, l0⟩ := HV.out.at_ (i := 0) h0
    have hn' : n' ≤ 1000 := by rw [← l0]; exact HS.out 0 h0
    rw [adr_z] at p0
    go_enter Tryd.func36, Tryd.ntmps36
    go_wp2_with (at_make; refine wpList_make_row _ rfl (.tmp 11) (.tmp 11) 39 rfl 3 t0 (.int .i64 0) Tryd.underlying39 hi0 hz0 hz1 rfl .i64 .i64 n' rfl rfl (by rw [hz2]; omega) (by omega) ?_)
    have hir := IntRow.zeros w n'
    have hg1 := (Grows.refl w).alloc (.cells (madeCells #[.int .i64 0] n') 3)
    have hb0 := Lib.hid (show blameK l 0 = List.replicate n' 0 by rw [blameK, l0])
    have HV1 := Lib.hid (HV.out.grows hB hg1)
    obtain ⟨w1, hw1⟩ : ∃ w1, w.alloc (.cells (madeCells #[.int .i64 0] n') 3) = w1 := ⟨_, rfl⟩
    rw [hw1] at hir hg1 HV1
    try rw [hw1]
    have hs1 := hg1.size
    clear hw1 p0 r0 l0 hn'
    go_wp2_with fail
    go_loopg [4, 3] n (fun gk q v wr => ∃ (k : Nat), q = .int .i64 ((k : Int) + 1) ∧ k + 1 ≤ n ∧ gk = n - k ∧ IntRow wr v (blameK l k) ∧ Grows w1 wr)
    case atStart => exact ⟨0, rfl, by omega, rfl, by rw [hb0.out]; exact hir, Grows.refl _⟩
    case round =>
      obtain ⟨k, rfl, hk, hgk, hrow, hgr⟩ := hrel
      have HG := Lib.hid hgk; clear hgk
      have hsz := hgr.size
      obtain ⟨Af, cf, rfl, hf⟩ := hrow
      have hfl := blameK_len l k
      by_cases hlt : k + 1 < n
      · obtain ⟨ad1, A1, n1', c1, e1, had1, p1, r1, m1, mm1, l1⟩ := (HV1.out.grows (by omega) hgr).at_ (i := k) (by omega)
        cases e1
        obtain ⟨ad2, A2, n2', c2, e2, had2, p2, r2, m2, mm2, l2⟩ := (HV1.out.grows (by omega) hgr).at_ (i := k + 1) hlt
        cases e2
        rw [show ad.add (k + 1) = ⟨ad.block, ad.off + (k + 1), none⟩ by simp [Addr.add]] at p2
        have z1 := HS.out k (by omega)
        have z2 := HS.out (k + 1) hlt
        have q0 : (0 : Int) ≤ (k : Int) + 1 := by omega
        have q1 : (k : Int) + 1 < n := by omega
        have q2 : (k : Int) + 1 - 1 = k := by omega
        have q3 : (k : Int) < n := by omega
        have q4 : (0 : Int) ≤ k := by omega
        have hbk := Lib.hid (show blameK l (k + 1) = nextL (k + 1) (blameK l k) (script 400 (gv l k) (gv l (k + 1))) from rfl)
        have hlf : (blameK l k).length = n1' := hfl.trans l1
        rw [hlf] at hf
        go_wp2_with fail
        refine wp_region_quiet_tail 11 (by kernel_rfl) (by kernel_rfl) ?_
        simp only [List.take_succ_cons, List.take_zero, List.drop_succ_cons, List.drop_zero]
        repeat (go_big_quiet_step (fail))
        refine wpQuiet_nil ?_
        intro _ hw'
        obtain ⟨nq, hw''⟩ := hw'
        subst hw''
        go_wp2_with fail
        refine (next_any wr.heap.size B B Af A1 A2 n1' cf n1' n2' c1 c2 (blameK l k) (gv l k) (gv l (k + 1)) ((k : Int) + 1) (wr.drewN nq) (hf.drewN nq) (r1.drewN nq) (r2.drewN nq) (Nat.le_refl _) (by show B ≤ wr.heap.size; omega) (by show B ≤ wr.heap.size; omega) (by omega) (by omega) m1 m2 mm1 mm2 rfl).mono ?_
        rw [← hbk.out]
        rintro e w2 ⟨v, rfl, hown, hg2⟩
        obtain ⟨A3, c3, rfl, hc3, hc3M⟩ := own_form hown
        have hr3 := Reads.of_own hown
        have hgr2 := (hgr.drewN nq).trans hg2
        clear hown p1 p2 hf r1 r2
        go_wp2_with fail
        go_roundg (n - (k + 1))
        case measure => rw [HG.out]; omega
        case rel => exact ⟨k + 1, by go_num, by omega, rfl, ⟨_, _, rfl, hr3⟩, hgr2⟩
      · have hkn : k = n - 1 := by omega
        subst hkn
        have q1 : ¬ ((((n - 1 : Nat) : Int) + 1) < n) := by omega
        clear hfl
        go_wp2_with fail
        go_ret
        exact ⟨_, rfl, by rw [hb.out]; exact ⟨_, _, rfl, hf⟩, hg1.trans hgr⟩
end Go.Proofs.YtmfgbkbbmeedjaaDoor
