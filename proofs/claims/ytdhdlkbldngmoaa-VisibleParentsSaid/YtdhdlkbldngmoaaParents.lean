/- rickplay.Parents: a right graph out of any numbers. -/
import Derived.Test.YtdhdlkbldngmoaaGraphSpec
namespace Go.Proofs.Ytdhdlkbldngmoaa
open Go.RowKit

/-- number i's parent out of any number -/
def parent (xs : List Int) (i : Nat) : Int := gi xs i % 18446744073709551616 % ((i : Int) + 1) - 1
def parentsTo (xs : List Int) (k : Nat) : List Int := (List.range k).map (parent xs)
theorem parentsTo_succ (xs : List Int) (k : Nat) : parentsTo xs (k + 1) = parentsTo xs k ++ [parent xs k] := by simp [parentsTo, List.range_succ]
theorem parentsTo_len (xs : List Int) (k : Nat) : (parentsTo xs k).length = k := by simp [parentsTo]
def parents (xs : List Int) (most : Nat) : List Int := parentsTo xs (min xs.length most)
theorem parents_len (xs : List Int) (most : Nat) : (parents xs most).length = min xs.length most := by simp [parents, parentsTo_len]
theorem gi_parentsTo {xs : List Int} {k j : Nat} (h : j < k) : gi (parentsTo xs k) j = parent xs j := by
  simp [gi, parentsTo, h]
theorem parent_le (xs : List Int) (i : Nat) : -1 ≤ parent xs i ∧ parent xs i < i := by
  unfold parent
  have h1 := Int.emod_nonneg (gi xs i % 18446744073709551616) (b := (i : Int) + 1) (by omega)
  have h2 := Int.emod_lt_of_pos (gi xs i % 18446744073709551616) (b := (i : Int) + 1) (by omega)
  omega
theorem right_parents (xs : List Int) (most : Nat) : right (parents xs most) = true := by
  unfold right rightTo
  rw [List.all_eq_true]
  intro i hi
  rw [List.mem_range, parents_len] at hi
  rw [parents, gi_parentsTo hi]
  have := parent_le xs i
  simp; omega

theorem parent_wrap (x : Int) (k : Nat) (hk : k ≤ 1000000000000) : wrap64 (wrap64 ((IntKind.u64.wrap x).tmod ((k : Int) + 1)) - 1) = x % 18446744073709551616 % ((k : Int) + 1) - 1 := by
  rw [IntKind.wrap_u64]
  have h0 := Int.emod_nonneg x (b := 18446744073709551616) (by omega)
  rw [Int.tmod_eq_emod_of_nonneg h0]
  generalize x % 18446744073709551616 = y at h0
  have h1 := Int.emod_nonneg y (b := (k : Int) + 1) (by omega)
  have h2 := Int.emod_lt_of_pos y (b := (k : Int) + 1) (by omega)
  generalize y % ((k : Int) + 1) = z at h1 h2
  unfold wrap64
  omega

set_option maxHeartbeats 400000 in
theorem parents_any (B : Nat) (A : Option Addr) (n c : Nat) (xs : List Int) (most : Nat) (w : World) (h : Reads w B 1 A n (ints xs)) (hB : B ≤ w.heap.size) (hn : n ≤ maxLen) (hm : most ≤ 1000000) :
    Calls Try.prog 15 #[.slice A n c, .int .i64 most] w fun e w' => ∃ v, e = .returned v ∧ w'.ownsRow w.heap.size 3 1 v (parents xs most).length (ints (parents xs most)) ∧ Grows w w' := by
  unfold maxLen at hn
  have HL := Lib.hid h.intLen
  have H := Lib.hid h; clear h
  obtain ⟨t0, hi0, hz0, hz1, hz2⟩ := info_parts Try.infoInt
  go_enter Try.func15, Try.ntmps15
  go_wp2
  go_loopg [6, 5] (n - 0) (fun gk q v wr => ∃ k : Nat, q = .int .i64 k ∧ k ≤ n ∧ k ≤ most ∧ gk = n - k ∧ wr.ownsRow w.heap.size 3 1 v k (ints (parentsTo xs k)) ∧ Grows w wr)
  case atStart => exact ⟨0, rfl, by omega, by omega, rfl, World.ownsRow_nil _ _ _ _, Grows.refl _⟩
  case round =>
    obtain ⟨k, rfl, hk, hkm, hgk, hown, hgr⟩ := hrel
    have HG := Lib.hid hgk; clear hgk
    have hsz := hgr.size
    by_cases hlt : k < n
    · by_cases hlm : k < most
      · obtain ⟨ad, rfl, had, hc⟩ := ((H.out).grows hB hgr).int hlt
        have hv := Lib.hid (parent_wrap (gi xs k) k (by omega))
        go_wp2_with (at_builtin; refine wpList_push rfl (.tmp 18) (.tmp 30) _ rfl (w.heap.size) 3 t0 _ 1 8 Try.underlying23 hi0 hz0 hz1 hz2 rfl (by decide) _ _ _ rfl ((hown).alloc _) ⟨(wr).heap.size, 0, none⟩ 1 1 [.int .i64 (wrap64 (wrap64 ((IntKind.u64.wrap (gi xs k)).tmod ((k : Int) + 1)) - 1))] rfl rfl (cell_one_new _ _ _) (by intro u hu; simp at hu; subst hu; rfl) (by simp only [maxLen]; omega) (by omega) (by simp; omega) ?_; intro v' w1 hown1 hb1; have hgr1 : Grows w w1 := Below.trans (hgr.alloc _) hb1)
        go_roundg (n - (k + 1))
        case measure => rw [HG.out]; omega
        case rel => exact ⟨k + 1, by go_num, by omega, by omega, rfl, by rw [parentsTo_succ, ints_append, ints_one, parent, ← hv.out]; exact hown1, hgr1⟩
      · have hf := Lib.hid (show parents xs most = parentsTo xs k by rw [parents, HL.out]; congr 1; omega)
        go_wp2
        go_ret
        exact ⟨_, rfl, by rw [hf.out, parentsTo_len]; exact hown, hgr⟩
    · have hf := Lib.hid (show parents xs most = parentsTo xs k by rw [parents, HL.out]; congr 1; omega)
      go_wp2
      go_ret
      exact ⟨_, rfl, by rw [hf.out, parentsTo_len]; exact hown, hgr⟩

end Go.Proofs.Ytdhdlkbldngmoaa
