/- The chunk chapter's first lines: awake, few. -/
import Derived.Test.YtlimfndipapfdaaOf
import Derived.Test.YtlimfndipapfdaaChunkUse
import Derived.Test.YtlimfndipapfdaaDiffAwake
import Derived.Test.YtlimfndipapfdaaRefDiff
namespace Go.Proofs.Ytlimfndipapfdaa
open Go.RowKit Go.Deep Go.MapKept

theorem scr_awake : scr [lA, lB] [lA, lC] = [(1, lA), (2, lB), (3, lC)] := by
  rw [scr_eq, scr_del (by decide), scr_nil]
  · rfl
  · rw [lcs_none]
    · exact Nat.zero_le _
    · intro x hx
      simp
theorem chunks_awake : chunks [lA, lB] [lA, lC] [lA, lB] = [(1, [lA], [lA], [lA]), (2, [lB], [lC], [lB])] := by
  have a0 : at3 [lA, lB] [lA, lC] 0 = 0 := by unfold at3; rw [scr_awake]; rfl
  have a1 : at3 [lA, lB] [lA, lC] 1 = -1 := by unfold at3; rw [scr_awake]; rfl
  have b0 : at3 [lA, lB] [lA, lB] 0 = 0 := by have := at3_self (a := [lA, lB]) (i := 0) (by simp); simpa using this
  have b1 : at3 [lA, lB] [lA, lB] 1 = 1 := by have := at3_self (a := [lA, lB]) (i := 1) (by simp); simpa using this
  have hr : runN [lA, lB] [lA, lC] [lA, lB] 0 = 1 := by
    unfold runN
    show ext _ _ 2 0 2 1 = 1
    rw [ext, if_neg]
    rintro ⟨_, h, _⟩
    have h' : at3 [lA, lB] [lA, lC] 1 = at3 [lA, lB] [lA, lC] 0 + 1 := h
    rw [a0, a1] at h'
    omega
  unfold chunks
  rw [chGo, if_pos (by simp), if_neg (by rw [a0, b0]; omega), hr, a0, b0]
  rw [chGo, if_pos (by simp), if_pos (by rw [Nat.zero_add, a1]; omega)]
  rw [chGo, if_neg (by simp)]
  decide
theorem mergeC_short {l : List ChkB} {M : Nat} (hM : (l.flatMap (·.2.2.1)).length + (l.flatMap (·.2.2.2)).length ≤ M) : ∀ k, (mergeC (l.take k)).length ≤ M := by
  have key : ∀ l : List ChkB, (mergeC l).length ≤ (l.flatMap (·.2.2.1)).length + (l.flatMap (·.2.2.2)).length := by
    intro l
    induction l with
    | nil => simp [mergeC]
    | cons ch l ih =>
      have e : mergeC (ch :: l) = (if ch.1 = 3 then ch.2.2.2 else ch.2.2.1) ++ mergeC l := by simp [mergeC]
      rw [e, List.length_append, List.flatMap_cons, List.flatMap_cons, List.length_append, List.length_append]
      split <;> omega
  intro k
  refine Nat.le_trans (key _) (Nat.le_trans ?_ hM)
  have h1 : ((l.take k).flatMap (·.2.2.1)).length ≤ (l.flatMap (·.2.2.1)).length := by
    conv => rhs; rw [← List.take_append_drop k l, List.flatMap_append, List.length_append]
    omega
  have h2 : ((l.take k).flatMap (·.2.2.2)).length ≤ (l.flatMap (·.2.2.2)).length := by
    conv => rhs; rw [← List.take_append_drop k l, List.flatMap_append, List.length_append]
    omega
  omega
/-- what chunks come to is not long -/
theorem merge_chunks (a b c : List ByteArray) : ∀ k, (mergeC ((chunks a b c).take k)).length ≤ b.length + c.length := by
  obtain ⟨_, h2, h3⟩ := chunks_whole a b c
  refine mergeC_short (M := b.length + c.length) ?_
  rw [h2, h3]
  exact Nat.le_refl _

theorem reads_three (w : World) (xs ys zs : List ByteArray) (n m k : Nat) (hx : xs.length = n) (hy : ys.length = m) (hz : zs.length = k) (cs cs' cs'' : Array Value) (h1 : cs = (strs xs).toArray) (h2 : cs' = (strs ys).toArray) (h3 : cs'' = (strs zs).toArray) (t : TypeId) :
    Reads (((w.alloc (.cells cs t)).alloc (.cells cs' t)).alloc (.cells cs'' t)) (w.heap.size + 3) 1 (some ⟨w.heap.size, 0, none⟩) n (strs xs) ∧ Reads (((w.alloc (.cells cs t)).alloc (.cells cs' t)).alloc (.cells cs'' t)) (w.heap.size + 3) 1 (some ⟨w.heap.size + 1, 0, none⟩) m (strs ys) ∧ Reads (((w.alloc (.cells cs t)).alloc (.cells cs' t)).alloc (.cells cs'' t)) (w.heap.size + 3) 1 (some ⟨w.heap.size + 1 + 1, 0, none⟩) k (strs zs) := by
  obtain ⟨r1, r2⟩ := reads_two w xs ys n m hx hy cs cs' h1 h2 t t
  subst h3
  have r3 := reads_alloc ((w.alloc (.cells cs t)).alloc (.cells cs' t)) (strs zs) 1 k t (by simp [strs, hz])
  refine ⟨(r1.alloc (by simp) _).more (by omega), (r2.alloc (by simp) _).more (by omega), ?_⟩
  simpa using r3

theorem addr_add_zero (a : Addr) : a.add 0 = a := by unfold Addr.add; split <;> simp_all
set_option maxRecDepth 100000 in
set_option maxHeartbeats 2000000 in
theorem cawake_any (w : World) : Calls Try.prog 32 #[] w fun e w' => e = .returned (.bool true) ∧ Grows w w' := by
  obtain ⟨r1, r2, r3⟩ := reads_three w [lA, lB] [lA, lC] [lA, lB] 2 2 2 rfl rfl rfl #[.string lA, .string lB] #[.string lA, .string lC] #[.string lA, .string lB] rfl rfl rfl 9
  have hsz : w.heap.size + 3 ≤ (((w.alloc (.cells #[.string lA, .string lB] 9)).alloc (.cells #[.string lA, .string lC] 9)).alloc (.cells #[.string lA, .string lB] 9)).heap.size := by simp
  have hg0 : Grows w (((w.alloc (.cells #[.string lA, .string lB] 9)).alloc (.cells #[.string lA, .string lC] 9)).alloc (.cells #[.string lA, .string lB] 9)) := (((Grows.refl w).alloc _).alloc _).alloc _
  have HS := Lib.hid (of_any _ _ _ 2 2 2 2 2 2 _ _ _ _ _ _ _ r1 r2 r3 hsz hsz hsz (by decide) (by decide) (by decide) (by decide) (by decide) (by decide) (by decide) (by decide) (by decide))
  have HG0 := Lib.hid hg0
  clear r1 r2 r3 hsz hg0
  go_enter Try.func32, Try.ntmps32
  go_wp2_with fail
  refine HS.out.mono ?_
  rw [chunks_awake]
  rintro e w2 ⟨A, n, q, rfl, hch, hg2, hq, hqM⟩
  have hn := hch.1
  have hn2 : n = 2 := hn.symm
  subst hn2
  have HG2 := Lib.hid (HG0.out.trans hg2)
  have HC := Lib.hid hch
  obtain ⟨ad, rfl, had, hk0, _⟩ := hch.at_ (k := 0) (by omega)
  obtain ⟨ad', hadd, had', hk1, _⟩ := hch.at_ (k := 1) (by omega)
  injection hadd with hadd
  subst hadd
  have e0 : (gch [((1 : Int), [lA], [lA], [lA]), (2, [lB], [lC], [lB])] 0).1 = 1 := rfl
  have e1 : (gch [((1 : Int), [lA], [lA], [lA]), (2, [lB], [lC], [lB])] 1).1 = 2 := rfl
  rw [e0] at hk0
  rw [e1, Nat.one_mul, show ad.add 4 = ⟨ad.block, ad.off + 4, none⟩ by simp [Addr.add]] at hk1
  simp only [Nat.zero_mul, addr_add_zero] at hk0
  clear HS HG0 hg2 hch hn e0 e1
  go_wp2_with fail
  refine (clean_any w2.heap.size (some ad) 2 q _ w2 HC.out (Nat.le_refl _) (by decide)).mono ?_
  rintro e w3 ⟨rfl, hg3⟩
  have HG3 := Lib.hid (HG2.out.trans hg3)
  have HC3 := Lib.hid (HC.out.grows (Nat.le_refl _) hg3)
  have hl3 := hg3.size
  rw [show cleanC [((1 : Int), [lA], [lA], [lA]), (2, [lB], [lC], [lB])] = true by decide]
  clear HC hg3 HG2
  go_wp2_with fail
  refine (merged_any w2.heap.size (some ad) 2 q _ w3 HC3.out hl3 (by decide) (fun k _ => Nat.le_trans (mergeC_short (M := 4) (by decide) k) (by decide))).mono ?_
  rw [show mergeC [((1 : Int), [lA], [lA], [lA]), (2, [lB], [lC], [lB])] = [lA, lC] by decide]
  rintro e w4 ⟨v, rfl, hown, hg4⟩
  obtain ⟨A4, c4, rfl, hc4, hc4M⟩ := own_form hown
  have HG4 := Lib.hid (HG3.out.trans hg4)
  have HR := Lib.hid (Reads.of_own hown)
  clear HG3 HC3 hg4 hown
  go_wp2_with fail
  have hR2 : Reads (w4.alloc (.cells #[.string lA, .string lC] 9)) (w4.heap.size + 1) 1 (some ⟨w4.heap.size, 0, none⟩) 2 (strs [lA, lC]) := reads_alloc w4 (strs [lA, lC]) 1 2 9 rfl
  refine (plainS_eq w4.heap.size (w4.heap.size + 1) A4 _ 2 2 c4 2 [lA, lC] _ (HR.out.alloc (Nat.le_refl _) _) hR2 (by decide)).mono ?_
  rintro e w5 ⟨rfl, d, rfl⟩
  have HG5 := Lib.hid (((HG4.out.alloc (.cells #[.string lA, .string lC] 9))).drewN d)
  clear HG4 HR hR2
  go_wp2_with fail
  go_ret
  exact ⟨rfl, HG5.out⟩

theorem few_any (A1 A2 A3 : Option Addr) (n1 n2 n3 c1 c2 c3 : Nat) (w : World) :
    Calls Try.prog 31 #[.slice A1 n1 c1, .slice A2 n2 c2, .slice A3 n3 c3] w fun e w' => e = .returned (.bool (decide (n1 ≤ 60 ∧ n2 ≤ 60 ∧ n3 ≤ 60))) ∧ w = w' := by
  by_cases h1 : n1 ≤ 60
  · by_cases h2 : n2 ≤ 60
    · by_cases h3 : n3 ≤ 60
      · have HD := Lib.hid (show decide (n1 ≤ 60 ∧ n2 ≤ 60 ∧ n3 ≤ 60) = true from decide_eq_true ⟨h1, h2, h3⟩)
        go_enter Try.func31, Try.ntmps31
        have k1 : (n1 : Int) ≤ 60 := by omega
        have k2 : (n2 : Int) ≤ 60 := by omega
        have k3 : (n3 : Int) ≤ 60 := by omega
        go_wp2
        go_ret
        exact ⟨by first | exact ret_bool HD.out.symm | rfl, rfl⟩
      · have HD := Lib.hid (show decide (n1 ≤ 60 ∧ n2 ≤ 60 ∧ n3 ≤ 60) = false from decide_eq_false (fun h => h3 h.2.2))
        go_enter Try.func31, Try.ntmps31
        have k1 : (n1 : Int) ≤ 60 := by omega
        have k2 : (n2 : Int) ≤ 60 := by omega
        have k3 : ¬ (n3 : Int) ≤ 60 := by omega
        go_wp2
        go_ret
        exact ⟨by first | exact ret_bool HD.out.symm | rfl, rfl⟩
    · have HD := Lib.hid (show decide (n1 ≤ 60 ∧ n2 ≤ 60 ∧ n3 ≤ 60) = false from decide_eq_false (fun h => h2 h.2.1))
      go_enter Try.func31, Try.ntmps31
      have k1 : (n1 : Int) ≤ 60 := by omega
      have k2 : ¬ (n2 : Int) ≤ 60 := by omega
      go_wp2
      go_ret
      exact ⟨by first | exact ret_bool HD.out.symm | rfl, rfl⟩
  · have HD := Lib.hid (show decide (n1 ≤ 60 ∧ n2 ≤ 60 ∧ n3 ≤ 60) = false from decide_eq_false (fun h => h1 h.1))
    go_enter Try.func31, Try.ntmps31
    have k1 : ¬ (n1 : Int) ≤ 60 := by omega
    go_wp2
    go_ret
    exact ⟨by first | exact ret_bool HD.out.symm | rfl, rfl⟩

end Go.Proofs.Ytlimfndipapfdaa
