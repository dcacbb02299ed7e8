/- How far two lists are apart, and the chapter's first words: package diff's Distance, 'awake'. -/
import Derived.Test.YtlimfndipapfdaaScript
namespace Go.Proofs.Ytlimfndipapfdaa
open Go.RowKit Go.Deep Go.MapKept

theorem distN_take {l : List (Int × ByteArray)} {i : Nat} (h : i < l.length) : distN (l.take (i + 1)) = distN (l.take i) + (if gek l i = 1 then 0 else 1) := by
  rw [List.take_succ_eq_append_getElem h, distN_append]
  have e : l[i] = (gek l i, gel l i) := by simp [gek, gel, List.getElem?_eq_getElem h]
  rw [e, distN_cons]
  simp [distN]

set_option maxHeartbeats 1000000 in
theorem distance_any (B B' : Nat) (A A' : Option Addr) (n m c c' : Nat) (xs ys : List ByteArray) (w : World) (hx : Reads w B 1 A n (strs xs)) (hy : Reads w B' 1 A' m (strs ys)) (hB : B ≤ w.heap.size) (hB' : B' ≤ w.heap.size) (hn : n ≤ 1000000) (hm : m ≤ 1000000) (hc : n ≤ c) (hc' : m ≤ c') (hcM : c ≤ maxLen) (hcM' : c' ≤ maxLen) :
    Calls Try.prog 20 #[.slice A n c, .slice A' m c'] w fun e w' => e = .returned (.int .i64 (distN (script 400 xs ys) : Nat)) ∧ Grows w w' := by
  have hsl := script_len_le xs ys
  rw [hx.strLen, hy.strLen] at hsl
  have HSC := Lib.hid (script_any B B' A A' n m c c' xs ys w hx hy hB hB' hn hm hc hc' hcM hcM')
  clear hx hy hB hB' hc hc' hcM hcM'
  obtain ⟨N, hN⟩ : ∃ N, N = (script 400 xs ys).length := ⟨_, rfl⟩
  rw [← hN] at hsl HSC
  have HN := Lib.hid hN
  clear hN
  generalize script 400 xs ys = l at HSC HN ⊢
  go_enter Try.func20, Try.ntmps20
  go_wp2_with fail
  refine HSC.out.mono ?_
  rintro e w2 ⟨v, rfl, hown, hgr⟩
  obtain ⟨A2, c2, rfl, hc2, hc2M⟩ := own_form hown
  have HR := Lib.hid (Reads.of_own hown)
  clear HSC hown
  go_wp2_with fail
  go_loopg [12, 5] N (fun gk q s wr => ∃ k : Nat, q = .int .i64 k ∧ s = .int .i64 (distN (l.take k) : Nat) ∧ k ≤ N ∧ gk = N - k ∧ Grows w2 wr)
  case atStart => exact ⟨0, rfl, rfl, by omega, rfl, Grows.refl _⟩
  case round =>
    obtain ⟨k, rfl, rfl, hk, hgk, hgx⟩ := hrel
    have HG := Lib.hid hgk; clear hgk
    by_cases hlt : k < N
    · obtain ⟨ad, rfl, had, hc0, hc1⟩ := (HR.out.grows (Nat.le_refl _) hgx).ed hlt
      have HT := Lib.hid (distN_take (l := l) (i := k) (by rw [← HN.out]; exact hlt))
      have hle := Nat.le_trans (distN_le (l.take k)) (List.length_take_le k l)
      generalize distN (l.take k) = D at HT hle ⊢
      by_cases h1 : gek l k = 1
      · have HT1 := Lib.hid (show distN (l.take (k + 1)) = D by rw [HT.out, if_pos h1]; rfl)
        have h1' : (gek l k == 1) = true := by simp [h1]
        go_wp2
        go_roundg (N - (k + 1))
        case measure => rw [HG.out]; omega
        case rel => exact ⟨k + 1, by go_num, by rw [HT1.out], by omega, rfl, hgx.alloc _⟩
      · have HT1 := Lib.hid (show distN (l.take (k + 1)) = D + 1 by rw [HT.out, if_neg h1])
        have h1' : (gek l k == 1) = false := by simp [h1]
        go_wp2
        go_roundg (N - (k + 1))
        case measure => rw [HG.out]; omega
        case rel => exact ⟨k + 1, by go_num, by rw [HT1.out]; go_num, by omega, rfl, hgx.alloc _⟩
    · have hf := Lib.hid (show l.take k = l from List.take_of_length_le (by rw [← HN.out]; omega))
      go_wp2
      go_ret
      exact ⟨by rw [hf.out]; rfl, hgr.trans hgx⟩

end Go.Proofs.Ytlimfndipapfdaa
