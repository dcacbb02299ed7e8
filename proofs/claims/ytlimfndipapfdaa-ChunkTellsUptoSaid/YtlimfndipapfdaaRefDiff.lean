/- The document's Common and Distance. -/
import Derived.Test.YtlimfndipapfdaaRefScript
import Derived.Test.YtlimfndipapfdaaDiffSame
namespace Go.Proofs.Ytlimfndipapfdaa
open Go.RowKit Go.Deep Go.MapKept

set_option maxHeartbeats 1000000 in
theorem rcommon_v (v B B' : Nat) (A A' : Option Addr) (n m c c' : Nat) (xs ys : List ByteArray) (w : World) (hv : lcs xs ys = v) (hx : Reads w B 1 A n (strs xs)) (hy : Reads w B' 1 A' m (strs ys)) (hB : B ≤ w.heap.size) (hB' : B' ≤ w.heap.size) (hn : n ≤ 1000000) (hm : m ≤ 1000000) :
    Calls Try.prog 23 #[.slice A n c, .slice A' m c'] w fun e w' => e = .returned (.int .i64 (v : Nat)) ∧ Grows w w' := by
  have HV := Lib.hid (show lcsAt xs ys 0 0 = v from hv)
  have HT := Lib.hid (table_any B B' A A' n m c c' xs ys w hx hy hB hB' hn hm)
  clear hv hx hy hB hB'
  go_enter Try.func23, Try.ntmps23
  go_wp2_with fail
  refine HT.out.mono ?_
  rintro e w1 ⟨T, R, rfl, htb, hgr⟩
  have hT0 := htb.cellT (i := 0) (Nat.le_refl _) (Nat.zero_le _)
  have hR0 := htb.cellR (i := 0) (j := 0) (Nat.le_refl _) (Nat.zero_le _) (Nat.zero_le _) rfl
  rw [HV.out] at hR0
  have i0 : (0 : Int) < (n : Int) + 1 := by omega
  have j0 : (0 : Int) < (m : Int) + 1 := by omega
  clear htb HT
  go_wp2_with fail
  go_ret
  exact ⟨rfl, hgr⟩

set_option maxHeartbeats 1000000 in
theorem rdist_v (v B B' : Nat) (A A' : Option Addr) (n m c c' : Nat) (xs ys : List ByteArray) (w : World) (hv : dst xs ys = v) (hx : Reads w B 1 A n (strs xs)) (hy : Reads w B' 1 A' m (strs ys)) (hB : B ≤ w.heap.size) (hB' : B' ≤ w.heap.size) (hn : n ≤ 1000000) (hm : m ≤ 1000000) (hc : n ≤ c) (hc' : m ≤ c') :
    Calls Try.prog 25 #[.slice A n c, .slice A' m c'] w fun e w' => e = .returned (.int .i64 (v : Nat)) ∧ Grows w w' := by
  subst hv
  unfold dst
  have hsl := script_len_le xs ys
  rw [hx.strLen, hy.strLen] at hsl
  have HSC := Lib.hid (rscript_any B B' A A' n m c c' xs ys w hx hy hB hB' hn hm hc hc')
  clear hx hy hB hB' hc hc'
  obtain ⟨N, hN⟩ : ∃ N, N = (script 400 xs ys).length := ⟨_, rfl⟩
  rw [← hN] at hsl HSC
  have HN := Lib.hid hN
  clear hN
  generalize script 400 xs ys = l at HSC HN ⊢
  go_enter Try.func25, Try.ntmps25
  go_wp2_with fail
  refine HSC.out.mono ?_
  rintro e w2 ⟨v, rfl, hown, hgr⟩
  obtain ⟨A2, c2, rfl, hc2, hc2M⟩ := own_form hown
  have HR := Lib.hid (Reads.of_own hown)
  clear HSC hown
  go_wp2_with fail
  go_loopg [5, 7] N (fun gk s q wr => w2 = wr ∧ ∃ k : Nat, q = .int .i64 k ∧ s = .int .i64 (distN (l.take k) : Nat) ∧ k ≤ N ∧ gk = N - k)
  case atStart => exact ⟨rfl, 0, rfl, rfl, by omega, rfl⟩
  case round =>
    obtain ⟨rfl, k, rfl, rfl, hk, hgk⟩ := hrel
    have HG := Lib.hid hgk; clear hgk
    by_cases hlt : k < N
    · obtain ⟨ad, rfl, had, hc0, hc1⟩ := HR.out.ed hlt
      have HT := Lib.hid (distN_take (l := l) (i := k) (by rw [← HN.out]; exact hlt))
      have hle := Nat.le_trans (distN_le (l.take k)) (List.length_take_le k l)
      generalize distN (l.take k) = D at HT hle ⊢
      have i0 : (0 : Int) ≤ k := by omega
      have i1 : (k : Int) < N := by omega
      by_cases h1 : gek l k = 1
      · have HT1 := Lib.hid (show distN (l.take (k + 1)) = D by rw [HT.out, if_pos h1]; rfl)
        rw [h1] at hc0
        clear h1
        go_wp2
        go_roundg (N - (k + 1))
        case measure => rw [HG.out]; omega
        case rel => exact ⟨rfl, k + 1, by go_num, by rw [HT1.out], by omega, rfl⟩
      · have HT1 := Lib.hid (show distN (l.take (k + 1)) = D + 1 by rw [HT.out, if_neg h1])
        have h1' : (gek l k == 1) = false := by simp [h1]
        go_wp2
        go_roundg (N - (k + 1))
        case measure => rw [HG.out]; omega
        case rel => exact ⟨rfl, k + 1, by go_num, by rw [HT1.out]; go_num, by omega, rfl⟩
    · have hf := Lib.hid (show l.take k = l from List.take_of_length_le (by rw [← HN.out]; omega))
      have i1 : ¬ ((k : Int) < N) := by omega
      go_wp2
      go_ret
      exact ⟨by rw [hf.out]; rfl, hgr⟩

/-- a script of the document, read -/
theorem rscript_r (l : List (Int × ByteArray)) (N B B' : Nat) (A A' : Option Addr) (n m c c' : Nat) (xs ys : List ByteArray) (w : World) (hv : script 400 xs ys = l) (hN : l.length = N) (hx : Reads w B 1 A n (strs xs)) (hy : Reads w B' 1 A' m (strs ys)) (hB : B ≤ w.heap.size) (hB' : B' ≤ w.heap.size) (hn : n ≤ 1000000) (hm : m ≤ 1000000) (hc : n ≤ c) (hc' : m ≤ c') :
    Calls Try.prog 24 #[.slice A n c, .slice A' m c'] w fun e w' => ∃ D b, e = .returned (.slice D N b) ∧ (N ≤ b ∧ b ≤ maxLen) ∧ Reads w' w'.heap.size 2 D N (edCells l) ∧ Grows w w' := by
  subst hv hN
  refine (rscript_any B B' A A' n m c c' xs ys w hx hy hB hB' hn hm hc hc').mono ?_
  rintro e w' ⟨v, rfl, hown, hg⟩
  obtain ⟨D, b, rfl, h1, h2⟩ := own_form hown
  exact ⟨D, b, rfl, ⟨h1, h2⟩, Reads.of_own hown, hg⟩
theorem rold_r (ys : List ByteArray) (N B : Nat) (A : Option Addr) (n c : Nat) (l : List (Int × ByteArray)) (w : World) (hv : side 2 l = ys) (hN : ys.length = N) (hx : Reads w B 2 A n (edCells l)) (hB : B ≤ w.heap.size) (hn : n ≤ 1000000000000) :
    Calls Try.prog 27 #[.slice A n c] w fun e w' => ∃ D b, e = .returned (.slice D N b) ∧ (N ≤ b ∧ b ≤ maxLen) ∧ Reads w' w'.heap.size 1 D N (strs ys) ∧ Grows w w' := by
  subst hv hN
  refine (rold_any B A n c l w hx hB hn).mono ?_
  rintro e w' ⟨v, rfl, hown, hg⟩
  obtain ⟨D, b, rfl, h1, h2⟩ := own_form hown
  exact ⟨D, b, rfl, ⟨h1, h2⟩, Reads.of_own hown, hg⟩
theorem rnew_r (ys : List ByteArray) (N B : Nat) (A : Option Addr) (n c : Nat) (l : List (Int × ByteArray)) (w : World) (hv : side 3 l = ys) (hN : ys.length = N) (hx : Reads w B 2 A n (edCells l)) (hB : B ≤ w.heap.size) (hn : n ≤ 1000000000000) :
    Calls Try.prog 29 #[.slice A n c] w fun e w' => ∃ D b, e = .returned (.slice D N b) ∧ (N ≤ b ∧ b ≤ maxLen) ∧ Reads w' w'.heap.size 1 D N (strs ys) ∧ Grows w w' := by
  subst hv hN
  refine (rnew_any B A n c l w hx hB hn).mono ?_
  rintro e w' ⟨v, rfl, hown, hg⟩
  obtain ⟨D, b, rfl, h1, h2⟩ := own_form hown
  exact ⟨D, b, rfl, ⟨h1, h2⟩, Reads.of_own hown, hg⟩
theorem plainE_eq (B B' : Nat) (A A' : Option Addr) (n n' c c' : Nat) (xs : List (Int × ByteArray)) (w : World) (hx : Reads w B 2 A n (edCells xs)) (hy : Reads w B' 2 A' n' (edCells xs)) (hB : B ≤ w.heap.size) (hB' : B' ≤ w.heap.size) (hn : n ≤ 1000000000000) :
    Calls Try.prog 17 #[.slice A n c, .slice A' n' c'] w fun e w' => e = .returned (.bool true) ∧ Grows w w' := by
  have := plainE_any B B' A A' n n' c c' xs xs w hx hy hB hB' hn
  rw [eqE_self] at this
  exact this
theorem plainS_eq (B B' : Nat) (A A' : Option Addr) (n n' c c' : Nat) (xs : List ByteArray) (w : World) (hx : Reads w B 1 A n (strs xs)) (hy : Reads w B' 1 A' n' (strs xs)) (hn : n ≤ 1000000000000) :
    Calls Try.prog 21 #[.slice A n c, .slice A' n' c'] w fun e w' => e = .returned (.bool true) ∧ ∃ m, w' = w.drewN m := by
  have := plainS_any B B' A A' n n' c c' xs xs w hx hy hn
  rw [eqS_self] at this
  exact this

end Go.Proofs.Ytlimfndipapfdaa
