/- Changes that stand apart, in plain Lean. -/
import Derived.Test.YtakgddochbcjbaaDoorChunkTurn
namespace Go.Proofs.YtakgddochbcjbaaDoor

section
variable {α : Type}
theorem mem_keep {s : List (Int × α)} {x : α} (h : x ∈ keepL s) : ∃ s1 s3, s = s1 ++ (1, x) :: s3 := by
  unfold keepL at h
  rw [List.mem_map] at h
  obtain ⟨e, he, rfl⟩ := h
  rw [List.mem_filter] at he
  obtain ⟨s1, s3, rfl⟩ := List.append_of_mem he.1
  have h1 : e.1 = 1 := by simpa using he.2
  exact ⟨s1, s3, by rw [← h1]⟩
theorem once {a b a' b' : List α} {z : α} (ha : z ∉ a) (hb : z ∉ b) (h : a ++ z :: b = a' ++ z :: b') : a.length = a'.length := by
  rcases Nat.lt_trichotomy a.length a'.length with hl | hl | hl
  · exfalso
    have h1 : (a ++ z :: b)[a'.length]? = (a' ++ z :: b')[a'.length]? := by rw [h]
    rw [List.getElem?_append_right (by omega), List.getElem?_append_right (Nat.le_refl _), Nat.sub_self, List.getElem?_cons_zero] at h1
    obtain ⟨n, hn⟩ : ∃ n, a'.length - a.length = n + 1 := ⟨a'.length - a.length - 1, by omega⟩
    rw [hn, List.getElem?_cons_succ] at h1
    exact hb (List.mem_of_getElem? h1)
  · exact hl
  · exfalso
    have h1 : (a ++ z :: b)[a'.length]? = (a' ++ z :: b')[a'.length]? := by rw [h]
    rw [List.getElem?_append_left hl, List.getElem?_append_right (Nat.le_refl _), Nat.sub_self, List.getElem?_cons_zero] at h1
    exact ha (List.mem_of_getElem? h1)
theorem drop_sep (u v : List α) (z : α) (s : Nat) : (u ++ z :: v).drop (u.length + s) = (z :: v).drop s := by rw [← List.drop_drop, List.drop_left' rfl]
theorem sep_get (u v : List α) (z : α) (k : Nat) : (u ++ z :: v)[u.length + k]? = (z :: v)[k]? := by rw [List.getElem?_append_right (by omega), Nat.add_sub_cancel_left]
theorem sep_get' (u v v' : List α) (z : α) {k : Nat} (h : k ≤ u.length) : (u ++ z :: v)[k]? = (u ++ z :: v')[k]? := by
  rcases Nat.eq_or_lt_of_le h with rfl | hl
  · rw [List.getElem?_append_right (Nat.le_refl _), List.getElem?_append_right (Nat.le_refl _), Nat.sub_self]; rfl
  · rw [List.getElem?_append_left hl, List.getElem?_append_left hl]
theorem clean_app {l m : List (Chk α)} : cleanC (l ++ m) = (cleanC l && cleanC m) := by simp [cleanC]
theorem merge_app (l m : List (Chk α)) : mergeC (l ++ m) = mergeC l ++ mergeC m := by simp [mergeC]
theorem clean_stable {s : List α} {l : List (Chk α)} : cleanC ((1, s, s, s) :: l) = cleanC l := by simp [cleanC]
theorem merge_stable (s : List α) (l : List (Chk α)) : mergeC ((1, s, s, s) :: l) = s ++ mergeC l := by simp [mergeC]
end

section
variable {α : Type} [DecidableEq α]
theorem piece_ours {b t : List α} : cleanC (pieceC b b t) = true ∧ mergeC (pieceC b b t) = t := by
  by_cases hn : b = [] ∧ b = [] ∧ t = []
  · rw [pieceC_nil hn.1 hn.2.1 hn.2.2, hn.2.2]; exact ⟨rfl, rfl⟩
  · rw [pieceC_one hn]
    have hk : knd b b t = 3 := by unfold knd; rw [if_pos rfl]
    rw [hk]
    simp [cleanC, mergeC]
theorem piece_theirs {b o : List α} : cleanC (pieceC b o b) = true ∧ mergeC (pieceC b o b) = o := by
  by_cases hn : b = [] ∧ o = [] ∧ b = []
  · rw [pieceC_nil hn.1 hn.2.1 hn.2.2, hn.2.1]; exact ⟨rfl, rfl⟩
  · rw [pieceC_one hn]
    by_cases h : o = b
    · have hk : knd b o b = 3 := by unfold knd; rw [if_pos h]
      rw [hk, h]
      simp [cleanC, mergeC]
    · have hk : knd b o b = 2 := by unfold knd; rw [if_neg h, if_pos rfl]
      rw [hk]
      simp [cleanC, mergeC]
/-- a line that both have but once, what stands ahead of it or behind it alike, is kept -/
theorem sep_kept {a b x y : List α} {z : α} (ha : z ∉ a) (hb : z ∉ b) (hx : z ∉ x) (hy : z ∉ y) (h : a = x ∨ b = y) : at3 (a ++ z :: b) (x ++ z :: y) a.length = (x.length : Nat) := by
  have hl : lcs (a ++ b) (x ++ y) + 1 ≤ lcs (a ++ z :: b) (x ++ z :: y) := by
    rcases h with rfl | rfl
    · rw [lcs_front, lcs_front, lcs_eq]; omega
    · have h1 := lcs_back a x b
      have h2 := lcs_back a x (z :: b)
      rw [h1, h2]; simp only [List.length_cons]; omega
  have hz : z ∈ keepL (scr (a ++ z :: b) (x ++ z :: y)) := by
    refine Classical.byContradiction fun hn => ?_
    have k2 := keepL_side 2 (scr (a ++ z :: b) (x ++ z :: y))
    have k3 := keepL_side 3 (scr (a ++ z :: b) (x ++ z :: y))
    rw [scr_old] at k2
    rw [scr_new] at k3
    have e := scr_keep (a ++ z :: b) (x ++ z :: y)
    have cut : ∀ (u v k : List α), k.Sublist (u ++ z :: v) → z ∉ k → k.Sublist (u ++ v) := by
      intro u v k hk hzk
      obtain ⟨k1, k2, rfl, s1, s2⟩ := List.sublist_append_iff.1 hk
      rcases List.sublist_cons_iff.1 s2 with s2 | ⟨r, hr, _⟩
      · exact s1.append s2
      · exact absurd (by rw [hr]; simp) hzk
    have := lcs_all (cut _ _ _ k2 hn) (cut _ _ _ k3 hn)
    omega
  obtain ⟨s1, s3, e⟩ := mem_keep hz
  have h2 := scr_old (a ++ z :: b) (x ++ z :: y)
  have h3 := scr_new (a ++ z :: b) (x ++ z :: y)
  rw [e, side_append, side_cons_yes (by simp)] at h2 h3
  have l2 := once ha hb h2.symm
  have l3 := once hx hy h3.symm
  have hk := scr_kinds (a ++ z :: b) (x ++ z :: y)
  have hk1 : kinds3 s1 := fun d hd => hk d (by rw [e]; simp [hd])
  have hg := at3_get (a := a ++ z :: b) (b := x ++ z :: y) (i := a.length) (by simp)
  rw [e, plc_app _ hk1, List.getElem?_append_right (by rw [plc_len hk1]; omega), plc_len hk1, l2, Nat.sub_self, plc_1 rfl, List.getElem?_cons_zero] at hg
  have := Option.some.inj hg
  rw [← l2] at this
  rw [← this, l3]; omega
/-- what stands ahead of the line, if it is alike, is kept -/
theorem front_kept {a b y : List α} {z : α} (ha : z ∉ a) (hb : z ∉ b) (hy : z ∉ y) {d : Nat} (hd : d ≤ a.length) : at3 (a ++ z :: b) (a ++ z :: y) d = (d : Nat) := by
  have hs := sep_kept ha hb ha hy (.inl rfl)
  rcases Nat.eq_or_lt_of_le hd with rfl | hlt
  · exact hs
  · obtain ⟨q, c, _⟩ := at3_cut hs
    have := piece_keep ⟨0, CutAt.start _⟩ ⟨q, c⟩ (by rw [List.take_left' rfl, List.take_left' rfl]) (d := d) (by omega)
    simpa using this
/-- what stands behind the line, if it is alike, is kept -/
theorem back_kept {a b x : List α} {z : α} (ha : z ∉ a) (hb : z ∉ b) (hx : z ∉ x) {d : Nat} (hd : d ≤ b.length) : at3 (a ++ z :: b) (x ++ z :: b) (a.length + d) = ((x.length + d : Nat) : Int) := by
  have hs := sep_kept ha hb hx hb (.inr rfl)
  obtain ⟨q, c, _⟩ := at3_cut hs
  rcases Nat.eq_or_lt_of_le (Nat.zero_le d) with rfl | hpos
  · simpa using hs
  · have c2 := CutAt.end_ (scr (a ++ z :: b) (x ++ z :: b))
    rw [scr_old, scr_new] at c2
    have := piece_keep ⟨q, c⟩ ⟨_, c2⟩ (by rw [List.take_length, List.take_length, List.drop_left' rfl, List.drop_left' rfl]) (d := d) (by simp; omega)
    exact this
/-- changes that stand apart, a line that both keep between them, come together -/
theorem chunks_apart {a b x y : List α} {z : α} (ha : z ∉ a) (hb : z ∉ b) (hx : z ∉ x) (hy : z ∉ y) :
    cleanC (chunks (a ++ z :: b) (x ++ z :: b) (a ++ z :: y)) = true ∧ mergeC (chunks (a ++ z :: b) (x ++ z :: b) (a ++ z :: y)) = x ++ z :: y := by
  obtain ⟨A, hA⟩ : ∃ A, A = a ++ z :: b := ⟨_, rfl⟩
  obtain ⟨B, hB⟩ : ∃ B, B = x ++ z :: b := ⟨_, rfl⟩
  obtain ⟨C, hC⟩ : ∃ C, C = a ++ z :: y := ⟨_, rfl⟩
  obtain ⟨T, hT⟩ : ∃ T, T = x ++ z :: y := ⟨_, rfl⟩
  have kF : ∀ d, d ≤ a.length → at3 A C d = (d : Nat) := fun d hd => by rw [hA, hC]; exact front_kept ha hb hy hd
  have kB : ∀ d, d ≤ b.length → at3 A B (a.length + d) = ((x.length + d : Nat) : Int) := fun d hd => by rw [hA, hB]; exact back_kept ha hb hx hd
  have lA : A.length = a.length + 1 + b.length := by rw [hA]; simp; omega
  have lC : C.length = a.length + 1 + y.length := by rw [hC]; simp; omega
  have lB : B.length = x.length + 1 + b.length := by rw [hB]; simp; omega
  have lT : T.length = x.length + 1 + y.length := by rw [hT]; simp; omega
  have dT : ∀ s, T.drop (x.length + s) = C.drop (a.length + s) := fun s => by rw [hT, hC, drop_sep, drop_sep]
  have dB : ∀ s, A.drop (a.length + s) = B.drop (x.length + s) := fun s => by rw [hA, hB, drop_sep, drop_sep]
  have gT : ∀ k, k ≤ x.length → T[k]? = B[k]? := fun k hk => by rw [hT, hB]; exact sep_get' x y b z hk
  have gC : ∀ k, k ≤ a.length → A[k]? = C[k]? := fun k hk => by rw [hA, hC]; exact sep_get' a b y z hk
  have gTC : ∀ s, T[x.length + s]? = C[a.length + s]? := fun s => by rw [hT, hC, sep_get, sep_get]
  have gAB : ∀ s, A[a.length + s]? = B[x.length + s]? := fun s => by rw [hA, hB, sep_get, sep_get]
  rw [← hA, ← hB, ← hC, ← hT]
  have main := chGo_ind (a := A) (b := B) (c := C) (M := fun i p o t l =>
    (p ≤ a.length → t = p → i ≤ a.length → cleanC l = true ∧ mergeC l = T.drop o) ∧
    (a.length < p → a.length < t → o = x.length + (p - a.length) → cleanC l = true ∧ mergeC l = C.drop t)) ?_ ?_ ?_ A.length 0 0 0 0 (by omega) (AtC.start A B C)
  · have := main.1 (Nat.zero_le _) rfl (Nat.zero_le _)
    rw [List.drop_zero] at this
    exact this
  · intro p o t h
    refine ⟨fun _ _ h3 => by omega, fun h1 h2 h3 => ?_⟩
    have e : B.drop o = A.drop p := by
      rw [h3, ← dB, show a.length + (p - a.length) = p by omega]
    rw [e]
    exact piece_ours
  · intro i p o t l h hi hn hM
    refine ⟨fun h1 h2 h3 => hM.1 h1 h2 ?_, hM.2⟩
    rcases Nat.eq_or_lt_of_le h3 with rfl | h4
    · have k1 := kF a.length (Nat.le_refl _)
      have k2 := kB 0 (Nat.zero_le _)
      rw [Nat.add_zero] at k2
      omega
    · exact h4
  · intro i p o t u v l h hi hu hv ho ht hM
    have hs := run_same hi hu hv
    have htop := run_top hi hu hv
    have hpos := runN_pos A B C i
    have hall := fun d (hd : d < runN A B C i) => run_all hi hu hv hd
    obtain ⟨n, hn⟩ : ∃ n, n = runN A B C i := ⟨_, rfl⟩
    rw [← hn] at hs htop hpos hall hM ⊢
    clear hn
    refine ⟨fun h1 h2 h3 => ?_, fun h1 h2 h3 => ?_⟩
    · -- ahead of the line
      subst h2
      have hvi : v = i := by have := kF i h3; omega
      subst hvi
      have hux : u ≤ x.length := by
        obtain ⟨q, c1, _⟩ := at3_cut hu
        obtain ⟨r, c2, c3⟩ := at3_cut (kB 0 (Nat.zero_le _))
        exact (c1.mono c2 (cut_before c1 c3 h3)).2
      have e1 : seg C t v = seg A t v := List.ext_getElem? fun k => by
        rw [seg_get, seg_get]
        by_cases hk : t + k < v
        · rw [if_pos hk, if_pos hk, gC _ (by omega)]
        · rw [if_neg hk, if_neg hk]
      have e2 : seg B o u = seg T o u := List.ext_getElem? fun k => by
        rw [seg_get, seg_get]
        by_cases hk : o + k < u
        · rw [if_pos hk, if_pos hk, gT _ (by omega)]
        · rw [if_neg hk, if_neg hk]
      have e3 : seg A v (v + n) = seg T u (u + n) := List.ext_getElem? fun k => by
        rw [seg_get, seg_get]
        by_cases hk : k < n
        · rw [if_pos (by omega), if_pos (by omega)]
          obtain ⟨g1, g2, g3⟩ := hall k hk
          obtain ⟨w1, w2, w3⟩ := at3_same g2
          obtain ⟨w4, w5, w6⟩ := at3_same g3
          rcases Nat.lt_or_ge x.length (u + k) with hb1 | hb1
          · -- behind the line
            have hva : a.length < v + k := by
              rcases Nat.lt_or_ge a.length (v + k) with h5 | h5
              · exact h5
              · obtain ⟨q, c1, _⟩ := at3_cut g2
                obtain ⟨r, c2, c3⟩ := at3_cut (kB 0 (Nat.zero_le _))
                have := (c1.mono c2 (cut_before c1 c3 h5)).2
                omega
            have hk2 := kB (v + k - a.length) (by omega)
            rw [show a.length + (v + k - a.length) = v + k by omega, g2] at hk2
            have hk3 : u + k = x.length + (v + k - a.length) := by omega
            rw [hk3, gTC, show a.length + (v + k - a.length) = v + k by omega, w6, w5]
          · rw [gT _ hb1, w2, w3]
        · rw [if_neg (by omega), if_neg (by omega)]
      have hrest : cleanC l = true ∧ mergeC l = T.drop (u + n) := by
        rcases Nat.lt_or_ge a.length (v + n) with h5 | h5
        · have hx2 : u + n = x.length + (v + n - a.length) := by
            have hd := hall (a.length - v) (by omega)
            have hk2 := kB 0 (Nat.zero_le _)
            rw [show v + (a.length - v) = a.length by omega] at hd
            rw [Nat.add_zero] at hk2
            omega
          have := hM.2 h5 h5 hx2
          refine ⟨this.1, ?_⟩
          rw [this.2, hx2, dT, show a.length + (v + n - a.length) = v + n by omega]
        · exact hM.1 h5 rfl h5
      rw [e1, clean_app, merge_app, clean_stable, merge_stable, piece_theirs.1, piece_theirs.2, hrest.1, hrest.2, e2, e3]
      refine ⟨rfl, ?_⟩
      have hTl : u + n ≤ T.length := by
        have := congrArg List.length e3
        rw [seg_len A htop.1] at this
        unfold seg at this
        rw [List.length_drop, List.length_take] at this
        omega
      rw [seg_drop T (Nat.le_add_right _ _) hTl, seg_drop T ho (by omega)]
    · -- behind the line
      have hi2 : a.length < i := Nat.lt_of_lt_of_le h1 h.le
      have hu2 : u = x.length + (i - a.length) := by
        have := kB (i - a.length) (by omega)
        rw [show a.length + (i - a.length) = i by omega, hu] at this
        omega
      have e1 : seg B o u = seg A p i := List.ext_getElem? fun k => by
        rw [seg_get, seg_get]
        by_cases hk : p + k < i
        · rw [if_pos (by omega), if_pos hk, h3, show x.length + (p - a.length) + k = x.length + (p - a.length + k) by omega, ← gAB, show a.length + (p - a.length + k) = p + k by omega]
        · rw [if_neg (by omega), if_neg hk]
      have hr := hM.2 (by omega) (by omega) (by omega)
      rw [e1, clean_app, merge_app, clean_stable, merge_stable, piece_ours.1, piece_ours.2, hr.1, hr.2, hs.2]
      refine ⟨rfl, ?_⟩
      rw [seg_drop C (Nat.le_add_right _ _) htop.2.2, seg_drop C ht (by omega)]
theorem common_one {a b x y : List α} {z : α} : 1 ≤ lcs (a ++ z :: b) (x ++ z :: y) := by
  have h := lcs_all (c := [z]) (a := a ++ z :: b) (b := x ++ z :: y) (by simp) (by simp)
  simpa using h
end

end Go.Proofs.YtakgddochbcjbaaDoor
