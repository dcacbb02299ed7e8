/- DiffBoth: of lists that have nothing in common. -/
import Derived.Test.YtlimfndipapfdaaDiffLeads
namespace Go.Proofs.Ytlimfndipapfdaa
open Go.RowKit Go.Deep Go.MapKept

theorem scr_none : ∀ {a : List ByteArray} {b : List ByteArray}, (∀ x ∈ a, x ∉ b) → scr a b = mono 2 a ++ mono 3 b
  | [], b, _ => by rw [scr_nil]; rfl
  | x :: a, [], _ => by rw [scr_nil']; simp [mono]
  | x :: a, y :: b, h => by
    have hxy : x ≠ y := fun e => h x (List.mem_cons_self ..) (by rw [e]; exact List.mem_cons_self ..)
    have h2 : ∀ z ∈ a, z ∉ y :: b := fun z hz => h z (List.mem_cons_of_mem _ hz)
    rw [scr_del hxy, scr_none h2]
    · rfl
    · rw [lcs_none (fun z hz hb => h z hz (List.mem_cons_of_mem _ hb))]
      exact Nat.zero_le _
theorem gek_both {a b : List ByteArray} {k : Nat} (h : k < a.length) : gek (mono 2 a ++ mono 3 b) k = 2 ∧ gel (mono 2 a ++ mono 3 b) k = gs a k := by
  have e : (mono 2 a ++ mono 3 b)[k]? = some (2, gs a k) := by
    rw [List.getElem?_append_left (by rw [mono_len]; exact h)]
    simp [mono, gs, h]
  simp [gek, gel, List.getD_eq_getElem?_getD, e]
theorem gek_both' {a b : List ByteArray} {k : Nat} (h : a.length ≤ k) (h2 : k - a.length < b.length) : gek (mono 2 a ++ mono 3 b) k = 3 ∧ gel (mono 2 a ++ mono 3 b) k = gs b (k - a.length) := by
  have e : (mono 2 a ++ mono 3 b)[k]? = some (3, gs b (k - a.length)) := by
    rw [List.getElem?_append_right (by rw [mono_len]; exact h), mono_len]
    simp [mono, gs, h2]
  simp [gek, gel, List.getD_eq_getElem?_getD, e]
theorem gs_mem {a : List ByteArray} {x : ByteArray} (h : x ∈ a) : ∃ k, k < a.length ∧ gs a k = x := by
  obtain ⟨k, hk, e⟩ := List.getElem_of_mem h
  exact ⟨k, hk, by rw [← e]; simp [gs, List.getElem?_eq_getElem hk]⟩

set_option maxHeartbeats 2000000 in
set_option maxRecDepth 100000 in
theorem dboth_any (A0 A1 : Option Addr) (n0 c0 n1 c1 : Nat) (x0 x1 : List ByteArray) (w : World) (hr0 : Reads w w.heap.size 1 A0 n0 (strs x0)) (hn0 : n0 ≤ c0) (hc0 : c0 ≤ maxLen) (hr1 : Reads w w.heap.size 1 A1 n1 (strs x1)) (hn1 : n1 ≤ c1) (hc1 : c1 ≤ maxLen) :
    Calls Try.prog 4 #[.slice A0 n0 c0, .slice A1 n1 c1] w fun e w' => e = .returned (.bool true) ∧ Grows w w' := by
  have L0 := Lib.hid hr0.strLen
  have L1 := Lib.hid hr1.strLen
  have H0 := Lib.hid hr0
  have H1 := Lib.hid hr1
  clear hr0 hr1
  go_enter Try.func4, Try.ntmps4
  by_cases hbig : 60 < n0 ∨ 60 < n1
  · have hsp : (60 : Int) < n0 ∨ ¬ ((60 : Int) < n0) ∧ (60 : Int) < n1 := by omega
    clear hbig
    have HSP := Lib.hid hsp
    clear hsp
    rcases HSP.out with g0 | ⟨g0, g1⟩
    all_goals
      go_wp2_with fail
      refine (dawake_any w).mono ?_
      rintro e w1 ⟨rfl, hg⟩
      go_wp2_with fail
      go_ret
      exact ⟨rfl, hg⟩
  · have g0 : n0 ≤ 60 := by omega
    have g1 : n1 ≤ 60 := by omega
    clear hbig
    have k0 : (n0 : Int) ≤ 60 := by omega
    have k1 : (n1 : Int) ≤ 60 := by omega
    go_wp2_with fail
    go_loopg [5] n0 (fun gk q wr => w = wr ∧ ∃ k : Nat, q = .int .i64 k ∧ k ≤ n0 ∧ gk = n0 - k ∧ ∀ j, j < k → inS x1 (gs x0 j) = false)
    case atStart => exact ⟨rfl, 0, rfl, by omega, rfl, fun j hj => absurd hj (by omega)⟩
    case round =>
      obtain ⟨rfl, k, rfl, hk, hgk, hno⟩ := hrel
      have HG := Lib.hid hgk; clear hgk
      have HN := Lib.hid hno; clear hno
      by_cases hlt : k < n0
      · obtain ⟨ad, rfl, had, hc⟩ := H0.out.str hlt
        have i0 : (0 : Int) ≤ k := by omega
        have i1 : (k : Int) < n0 := by omega
        go_wp2_with fail
        refine (inS_any w.heap.size A1 n1 c1 x1 (gs x0 k) w H1.out (by omega)).mono ?_
        rintro e w1 ⟨rfl, rfl⟩
        cases he : inS x1 (gs x0 k) with
        | true =>
          go_wp2_with fail
          refine (dawake_any w).mono ?_
          rintro e w1 ⟨rfl, hg⟩
          go_wp2_with fail
          go_ret
          exact ⟨rfl, hg⟩
        | false =>
          have HN2 := Lib.hid (show ∀ j, j < k + 1 → inS x1 (gs x0 j) = false from fun j hj => by
            by_cases hjk : j = k
            · subst hjk; exact he
            · exact HN.out j (by omega))
          go_wp2
          go_roundg (n0 - (k + 1))
          case measure => rw [HG.out]; omega
          case rel => exact ⟨rfl, k + 1, by go_num, by omega, rfl, HN2.out⟩
      · have hdis : ∀ x ∈ x0, x ∉ x1 := by
          intro x hx hx1
          obtain ⟨j, hj, rfl⟩ := gs_mem hx
          have := HN.out j (by rw [L0.out] at hj; omega)
          rw [← Bool.not_eq_true, inS_iff] at this
          exact this hx1
        have hS : script 400 x0 x1 = mono 2 x0 ++ mono 3 x1 := by rw [script_short (by rw [L0.out]; omega) (by rw [L1.out]; omega), scr_none hdis]
        have hC := lcs_none hdis
        have E1 := Lib.hid hS
        have E2 := Lib.hid (show (mono 2 x0 ++ mono 3 x1).length = n0 + n1 by rw [List.length_append, mono_len, mono_len, L0.out, L1.out])
        have E3 := Lib.hid hC
        have E4 := Lib.hid (fun (k : Nat) (h : k < x0.length) => gek_both (b := x1) h)
        have E5 := Lib.hid (fun (k : Nat) (h : x0.length ≤ k) (h2 : k - x0.length < x1.length) => gek_both' (a := x0) (b := x1) h h2)
        clear hdis hS hC HN
        generalize mono 2 x0 ++ mono 3 x1 = l at E1 E2 E4 E5
        go_wp2_with fail
        refine (script_r l (n0 + n1) w.heap.size w.heap.size A0 A1 n0 n1 c0 c1 x0 x1 w E1.out E2.out H0.out H1.out (Nat.le_refl _) (Nat.le_refl _) (by omega) (by omega) hn0 hn1 hc0 hc1).mono ?_
        rintro e w1 ⟨Al, bl, rfl, hbl, hrl, hg1⟩
        have HRL := Lib.hid hrl
        clear hrl hbl
        go_wp2_with fail
        refine (dawake_any w1).mono ?_
        rintro e w2 ⟨rfl, hg2⟩
        have HL2 := Lib.hid (HRL.out.grows (Nat.le_refl _) hg2)
        have hs2 := hg2.size
        replace hg2 := hg1.trans hg2
        clear hg1
        go_wp2_with fail
        go_loopg [7] (n0 + n1) (fun gk q wr => ∃ k : Nat, q = .int .i64 k ∧ k ≤ n0 + n1 ∧ gk = n0 + n1 - k ∧ Grows w2 wr)
        case atStart => exact ⟨0, rfl, by omega, rfl, Grows.refl _⟩
        case round =>
          obtain ⟨j, rfl, hj, hgj, hgx⟩ := hrel
          have HG2 := Lib.hid hgj; clear hgj
          have hgw := hg2.trans hgx
          by_cases hlt2 : j < n0 + n1
          · obtain ⟨al, rfl, hal, hl0', hl1'⟩ := (HL2.out.grows hs2 hgx).ed hlt2
            clear hl0' hl1'
            have i0 : (0 : Int) ≤ j := by omega
            have i1 : (j : Int) < (n0 + n1 : Nat) := by omega
            by_cases hjn : j < n0
            · obtain ⟨ad, rfl, had, hc'⟩ := (H0.out.grows (Nat.le_refl _) hgw).str hjn
              have hE := E4.out j (by rw [L0.out]; exact hjn)
              have hl := fun o => (HL2.out.grows hs2 (hgx.alloc o)).edAt hlt2
              rw [hE.1, hE.2] at hl
              have hl0 := fun o => (hl o).1
              have hl1 := fun o => (hl o).2
              have hc := fun o => (H0.out.grows (Nat.le_refl _) (hgw.alloc o)).strAt hjn
              have i2 : (j : Int) < n0 := by omega
              have hgf := Lib.hid (fun o => (hgx.alloc o))
              clear hE hl hc'
              go_wp2_with fail
              go_quiet (fail)
              go_wp2_with fail
              go_roundg (n0 + n1 - (j + 1))
              case measure => rw [HG2.out]; omega
              case rel => exact ⟨j + 1, by go_num, by omega, rfl, (hgx.alloc _).drewN _⟩
            · have hlt3 : j - x0.length < x1.length := by rw [L0.out, L1.out]; omega
              obtain ⟨q, hq⟩ : ∃ q, q = j - n0 := ⟨_, rfl⟩
              have hq1 : q < n1 := by omega
              obtain ⟨ad, rfl, had, hc'⟩ := (H1.out.grows (Nat.le_refl _) hgw).str hq1
              have hE := E5.out j (by rw [L0.out]; omega) hlt3
              rw [L0.out, ← hq] at hE
              have hl := fun o => (HL2.out.grows hs2 (hgx.alloc o)).edAt hlt2
              rw [hE.1, hE.2] at hl
              have hl0 := fun o => (hl o).1
              have hl1 := fun o => (hl o).2
              have hc := fun o => (H1.out.grows (Nat.le_refl _) (hgw.alloc o)).strAt hq1
              have i2 : ¬ ((j : Int) < n0) := by omega
              have i3 : IntKind.i64.wrap ((j : Int) - (n0 : Int)) = (q : Int) := by rw [wrap_small (by omega) (by omega)]; omega
              have i3' : (j : Int) - (n0 : Int) = (q : Int) := by omega
              have i4 : (0 : Int) ≤ q := by omega
              have i5 : (q : Int) < n1 := by omega
              clear hE hl hc' hq
              go_wp2_with fail
              go_quiet (fail)
              go_wp2_with fail
              go_roundg (n0 + n1 - (j + 1))
              case measure => rw [HG2.out]; omega
              case rel => exact ⟨j + 1, by go_num, by omega, rfl, (hgx.alloc _).drewN _⟩
          · have hi1 : ¬ ((j : Int) < (n0 + n1 : Nat)) := by omega
            go_wp2_with fail
            refine (common_v 0 w.heap.size w.heap.size A0 A1 n0 n1 c0 c1 x0 x1 wr E3.out (H0.out.grows (Nat.le_refl _) hgw) (H1.out.grows (Nat.le_refl _) hgw) hgw.size hgw.size (by omega) (by omega) hn0 hn1 hc0 hc1).mono ?_
            rintro e w5 ⟨rfl, hg5⟩
            have hfin := hgw.trans hg5
            go_wp2_with fail
            go_ret
            exact ⟨rfl, hfin⟩

end Go.Proofs.Ytlimfndipapfdaa
