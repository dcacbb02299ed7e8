/- Where lines come from: next, Lines, Stack of the program. -/
import Derived.Test.YtmfgbkbbmeedjaaDoorBlameSpec
import Derived.Test.YtmfgbkbbmeedjaaDoorRefScript
import Derived.Test.YtmfgbkbbmeedjaaDoorWhole
import Derived.Test.YtmfgbkbbmeedjaaDoorHelp
namespace Go.Proofs.YtmfgbkbbmeedjaaDoor
open Go.RowKit Go.Deep Go.MapKept

theorem drop_ed {l : List (Int × ByteArray)} {k : Nat} (h : k < l.length) : l.drop k = (gek l k, gel l k) :: l.drop (k + 1) := by
  rw [List.drop_eq_getElem_cons h, gek, gel, List.getD_eq_getElem?_getD, List.getElem?_eq_getElem h]; rfl
theorem drop_int {l : List Int} {k : Nat} (h : k < l.length) : l.drop k = gi l k :: l.drop (k + 1) := by
  rw [List.drop_eq_getElem_cons h, gi, List.getD_eq_getElem?_getD, List.getElem?_eq_getElem h]; rfl
theorem ints_app (l m : List Int) : ints (l ++ m) = ints l ++ ints m := by simp [ints]
theorem next_keep {p : Int} {fs : List Int} {es : List (Int × ByteArray)} {out res : List Int} {i j N nf : Nat} (hN : es.length = N) (hf : fs.length = nf) (hj : j < N) (h : out ++ nextL p (fs.drop i) (es.drop j) = res) (hs : i + (side 2 (es.drop j)).length = nf) (hk : gek es j = 1) :
    i < nf ∧ (out ++ [gi fs i]) ++ nextL p (fs.drop (i + 1)) (es.drop (j + 1)) = res ∧ (i + 1) + (side 2 (es.drop (j + 1))).length = nf := by
  rw [drop_ed (by omega : j < es.length)] at h hs
  rw [side2_1 (e := (gek es j, gel es j)) hk, List.length_cons] at hs
  have hi : i < nf := by omega
  rw [nextL, if_pos hk, drop_int (by omega : i < fs.length)] at h
  exact ⟨hi, by rw [← h]; simp, by omega⟩
theorem next_del {p : Int} {fs : List Int} {es : List (Int × ByteArray)} {out res : List Int} {i j N nf : Nat} (hN : es.length = N) (hf : fs.length = nf) (hj : j < N) (h : out ++ nextL p (fs.drop i) (es.drop j) = res) (hs : i + (side 2 (es.drop j)).length = nf) (hk : gek es j = 2) :
    i < nf ∧ out ++ nextL p (fs.drop (i + 1)) (es.drop (j + 1)) = res ∧ (i + 1) + (side 2 (es.drop (j + 1))).length = nf := by
  rw [drop_ed (by omega : j < es.length)] at h hs
  rw [side2_2 (e := (gek es j, gel es j)) hk, List.length_cons] at hs
  have hi : i < nf := by omega
  rw [nextL, if_neg (by show ¬ gek es j = 1; rw [hk]; decide), if_pos hk, drop_int (by omega : i < fs.length)] at h
  exact ⟨hi, by rw [← h]; simp, by omega⟩
theorem next_ins {p : Int} {fs : List Int} {es : List (Int × ByteArray)} {out res : List Int} {i j N nf : Nat} (hN : es.length = N) (hj : j < N) (h : out ++ nextL p (fs.drop i) (es.drop j) = res) (hs : i + (side 2 (es.drop j)).length = nf) (hk : gek es j = 3) :
    (out ++ [p]) ++ nextL p (fs.drop i) (es.drop (j + 1)) = res ∧ i + (side 2 (es.drop (j + 1))).length = nf := by
  rw [drop_ed (by omega : j < es.length)] at h hs
  rw [side2_3 (e := (gek es j, gel es j)) hk] at hs
  rw [nextL, if_neg (by show ¬ gek es j = 1; rw [hk]; decide), if_neg (by show ¬ gek es j = 2; rw [hk]; decide)] at h
  exact ⟨by rw [← h]; simp, hs⟩
theorem kind_at {es : List (Int × ByteArray)} {j : Nat} (hk : kinds es) (h : j < es.length) : gek es j = 1 ∨ gek es j = 2 ∨ gek es j = 3 := by
  have e : es.getD j (0, ByteArray.empty) = es[j] := by rw [List.getD_eq_getElem?_getD, List.getElem?_eq_getElem h]; rfl
  rw [gek, e]
  exact hk _ (List.getElem_mem h)

set_option maxRecDepth 100000 in
set_option maxHeartbeats 2000000 in
theorem next_any (Bf B B' : Nat) (Af A A' : Option Addr) (nf cf n m c c' : Nat) (fs : List Int) (xs ys : List ByteArray) (place : Int) (w : World) (hf : Reads w Bf 1 Af nf (ints fs)) (hx : Reads w B 1 A n (strs xs)) (hy : Reads w B' 1 A' m (strs ys)) (hBf : Bf ≤ w.heap.size) (hB : B ≤ w.heap.size) (hB' : B' ≤ w.heap.size) (hn : n ≤ 1000) (hm : m ≤ 1000) (hc : n ≤ c) (hc' : m ≤ c') (hcM : c ≤ maxLen) (hcM' : c' ≤ maxLen) (hnf : n = nf) :
    Calls Tryd.prog 54 #[.slice Af nf cf, .slice A n c, .slice A' m c', .int .i64 place] w fun e w' => ∃ v, e = .returned v ∧ w'.ownsRow w.heap.size 3 1 v (nextL place fs (script 400 xs ys)).length (ints (nextL place fs (script 400 xs ys))) ∧ Grows w w' := by
  subst hnf
  have HLx := Lib.hid hx.strLen
  have HLy := Lib.hid hy.strLen
  have hfl : fs.length = n := by have := hf.1; simpa [ints] using this
  have HF := Lib.hid hf
  have HFL := Lib.hid hfl
  have HS := Lib.hid (script_any B B' A A' n m c c' xs ys w hx hy hB hB' (by omega) (by omega) hc hc' hcM hcM')
  have hside := script_old 400 xs ys
  have hkd := kinds_script 400 xs ys
  have hlen : (script 400 xs ys).length ≤ 2000 := by
    have h1 := script_len_le xs ys
    rw [HLx.out, HLy.out] at h1
    omega
  obtain ⟨es, hes⟩ : ∃ es, script 400 xs ys = es := ⟨_, rfl⟩
  rw [hes] at HS hside hkd hlen ⊢
  obtain ⟨N, hN⟩ : ∃ N, es.length = N := ⟨_, rfl⟩
  rw [hN] at HS hlen
  obtain ⟨res, hres⟩ : ∃ res, nextL place fs es = res := ⟨_, rfl⟩
  rw [hres]
  have HN := Lib.hid hN
  have HK := Lib.hid hkd
  have hs0 := Lib.hid (show 0 + (side 2 (es.drop 0)).length = n by rw [List.drop_zero, hside, Nat.zero_add, HLx.out])
  have h0 := Lib.hid (show [] ++ nextL place (fs.drop 0) (es.drop 0) = res from hres)
  clear hx hy hB' hes hN hres hkd hside hf hfl hB
  obtain ⟨t0, hi0, hz0, hz1, hz2⟩ := info_parts Tryd.infoInt
  go_enter Tryd.func54, Tryd.ntmps54
  go_wp2_with fail
  refine HS.out.mono ?_
  rintro e w1 ⟨v, rfl, hown, hg1⟩
  obtain ⟨A1, c1, rfl, _, _⟩ := own_form hown
  have HR := Lib.hid (Reads.of_own hown)
  have HF1 := Lib.hid (HF.out.grows hBf hg1)
  have HG1 := Lib.hid hg1
  have hs1 := hg1.size
  clear HS hown hg1 HF
  go_wp2_with fail
  go_loopg [17, 9, 10] N (fun gk q v iv wr => ∃ (k i : Nat) (out : List Int), q = .int .i64 k ∧ iv = .int .i64 i ∧ k ≤ N ∧ i ≤ n ∧ gk = N - k ∧ out ++ nextL place (fs.drop i) (es.drop k) = res ∧ i + (side 2 (es.drop k)).length = n ∧ out.length ≤ k ∧ wr.ownsRow w1.heap.size 3 1 v out.length (ints out) ∧ Grows w1 wr)
  case atStart => exact ⟨0, 0, [], rfl, rfl, by omega, by omega, rfl, h0.out, hs0.out, by simp, World.ownsRow_nil _ _ _ _, Grows.refl _⟩
  case round =>
    obtain ⟨k, i, out, rfl, rfl, hk, hi, hgk, hres, hside, hol, hown, hgr⟩ := hrel
    have HG := Lib.hid hgk; clear hgk
    have HRES := Lib.hid hres; clear hres
    have HSI := Lib.hid hside; clear hside
    have hsz := hgr.size
    by_cases hlt : k < N
    · obtain ⟨ad, rfl, had, hc0, hc1⟩ := ((HR.out).grows (Nat.le_refl _) hgr).ed hlt
      have hown0 := hown.alloc (.cells #[.int .i64 (gek es k), .string (gel es k)] 57)
      have hgr0 := hgr.alloc (.cells #[.int .i64 (gek es k), .string (gel es k)] 57)
      have k0 : (0 : Int) ≤ k := by omega
      have k1 : (k : Int) < N := by omega
      rcases kind_at HK.out (by rw [HN.out]; exact hlt) with h1 | h1 | h1
      · obtain ⟨hin, e1, e2⟩ := next_keep HN.out HFL.out hlt HRES.out HSI.out h1
        have E1 := Lib.hid e1
        have E2 := Lib.hid e2
        clear e1 e2
        obtain ⟨af, rfl, haf, pf⟩ := (HF1.out.grows (by omega) hgr).int hin
        have i0 : (0 : Int) ≤ i := by omega
        have i1 : (i : Int) < n := by omega
        rw [h1] at hc0 hown0 hgr0
        have pf2 := World.cell?_alloc_lt wr (.cells #[.int .i64 1, .string (gel es k)] 57) (af.add i) (by rw [block_of_add]; omega)
        rw [pf] at pf2
        go_wp2_with (at_builtin; refine wpList_push rfl (.tmp 25) (.tmp 30) _ rfl (w1.heap.size) 3 t0 _ 1 8 Tryd.underlying39 hi0 hz0 hz1 hz2 rfl (by decide) _ _ _ rfl ((hown0).alloc _) ⟨wr.heap.size + 1, 0, none⟩ 1 1 [.int .i64 (gi fs i)] rfl rfl (cell_one_at (by simp)) (by intro u hu; simp at hu; subst hu; rfl) (by simp only [maxLen]; omega) (by omega) (by simp; omega) ?_; intro v' w2 hown2 hb2; have hgr2 : Grows w1 w2 := Below.trans (hgr0.alloc _) hb2)
        go_roundg (N - (k + 1))
        case measure => rw [HG.out]; omega
        case rel => exact ⟨k + 1, i + 1, out ++ [gi fs i], by go_num, by go_num, by omega, by omega, rfl, E1.out, E2.out, by simp; omega, by rw [ints_app, List.length_append]; exact hown2, hgr2⟩
      · obtain ⟨hin, e1, e2⟩ := next_del HN.out HFL.out hlt HRES.out HSI.out h1
        have E1 := Lib.hid e1
        have E2 := Lib.hid e2
        clear e1 e2
        rw [h1] at hc0 hown0 hgr0
        go_wp2_with fail
        go_roundg (N - (k + 1))
        case measure => rw [HG.out]; omega
        case rel => exact ⟨k + 1, i + 1, out, by go_num, by go_num, by omega, by omega, rfl, E1.out, E2.out, by omega, hown0, hgr0⟩
      · obtain ⟨e1, e2⟩ := next_ins HN.out hlt HRES.out HSI.out h1
        have E1 := Lib.hid e1
        have E2 := Lib.hid e2
        clear e1 e2
        rw [h1] at hc0 hown0 hgr0
        go_wp2_with (at_builtin; refine wpList_push rfl (.tmp 40) (.tmp 42) _ rfl (w1.heap.size) 3 t0 _ 1 8 Tryd.underlying39 hi0 hz0 hz1 hz2 rfl (by decide) _ _ _ rfl ((hown0).alloc _) ⟨wr.heap.size + 1, 0, none⟩ 1 1 [.int .i64 (place)] rfl rfl (cell_one_at (by simp)) (by intro u hu; simp at hu; subst hu; rfl) (by simp only [maxLen]; omega) (by omega) (by simp; omega) ?_; intro v' w2 hown2 hb2; have hgr2 : Grows w1 w2 := Below.trans (hgr0.alloc _) hb2)
        go_roundg (N - (k + 1))
        case measure => rw [HG.out]; omega
        case rel => exact ⟨k + 1, i, out ++ [place], by go_num, rfl, by omega, hi, rfl, E1.out, E2.out, by simp; omega, by rw [ints_app, List.length_append]; exact hown2, hgr2⟩
    · have hkn : k = N := by omega
      subst hkn
      have hf := Lib.hid (show out = res by
        have h2 := HRES.out
        rw [List.drop_of_length_le (l := es) (by rw [HN.out]; exact Nat.le_refl _)] at h2
        rw [← h2]; simp [nextL])
      have k1 : ¬ ((k : Int) < k) := by omega
      go_wp2_with fail
      go_ret
      exact ⟨_, rfl, by rw [← hf.out]; exact own_mono hown hs1, HG1.out.trans hgr⟩
end Go.Proofs.YtmfgbkbbmeedjaaDoor
