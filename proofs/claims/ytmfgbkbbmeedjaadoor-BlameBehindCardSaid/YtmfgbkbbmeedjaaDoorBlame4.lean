/- Where lines come from: Stack of the program; lists of lists that grow. -/
import Derived.Test.YtmfgbkbbmeedjaaDoorBlame3
import Derived.Test.YtmfgbkbbmeedjaaDoorLinesBack
namespace Go.Proofs.YtmfgbkbbmeedjaaDoor
open Go.RowKit Go.Deep Go.MapKept

theorem vers_of {w : World} {B n c : Nat} {A : Option Addr} {ll : List (List ByteArray)} {vs : List Value} (hown : w.ownsRow B 22 1 (.slice A n c) n vs) (hp : PartsL w ll vs) : Vers w w.heap.size A n ll := by
  have hl : vs.length = n := by have := hown.1; omega
  have hll := hp.len
  refine ⟨by omega, vs, Reads.of_own hown, fun i hi => ?_⟩
  obtain ⟨v, e, ho⟩ := hp.get (k := i) (by omega)
  obtain ⟨A', c', rfl, h1, h2⟩ := ho.form
  exact ⟨A', _, c', e, ho.reads, h1, h2⟩
theorem map_take_succ {xs : List ByteArray} {k : Nat} (h : k < xs.length) : (xs.take (k + 1)).map linesT = (xs.take k).map linesT ++ [linesT (gs xs k)] := by
  rw [List.take_succ_eq_append_getElem h, List.map_append, List.map_cons, List.map_nil, gs_def, List.getD_eq_getElem?_getD, List.getElem?_eq_getElem h]; rfl
theorem gv_lines {xs : List ByteArray} {i : Nat} (h : i < xs.length) : gv (xs.map linesT) i = linesT (gs xs i) := by
  rw [gv, gs_def, List.getD_eq_getElem?_getD, List.getD_eq_getElem?_getD, List.getElem?_map, List.getElem?_eq_getElem h]; rfl

set_option maxRecDepth 100000 in
set_option maxHeartbeats 2000000 in
theorem stack_any (B : Nat) (A : Option Addr) (n c : Nat) (xs : List ByteArray) (w : World) (hx : Reads w B 1 A n (strs xs)) (hB : B ≤ w.heap.size) (hm : MaxL w) (hn : n ≤ 1000) (hz : ∀ i, i < n → (gs xs i).size ≤ 900) :
    Calls Tryd.prog 38 #[.slice A n c] w fun e w' => ∃ v, e = .returned v ∧ IntRow w' v (blameL (xs.map linesT)) ∧ Grows w w' := by
  have HL := Lib.hid hx.strLen
  have HX := Lib.hid hx
  have HZ := Lib.hid hz
  clear hx hz
  obtain ⟨l0, hl0, hl1, hl2, hl3⟩ := info_parts Tryd.infoSl
  go_enter Tryd.func38, Tryd.ntmps38
  go_wp2_with fail
  go_loopg [8, 3] n (fun gk q v wr => ∃ (k : Nat) (vs : List Value), q = .int .i64 k ∧ k ≤ n ∧ gk = n - k ∧ wr.ownsRow w.heap.size 22 1 v k vs ∧ PartsL wr ((xs.take k).map linesT) vs ∧ Grows w wr)
  case atStart => exact ⟨0, [], rfl, by omega, rfl, World.ownsRow_nil _ _ _ _, trivial, Grows.refl _⟩
  case round =>
    obtain ⟨k, vs, rfl, hk, hgk, hown, hp, hgr⟩ := hrel
    have HG := Lib.hid hgk; clear hgk
    have HP := Lib.hid hp; clear hp
    by_cases hlt : k < n
    · obtain ⟨ad, rfl, had, p0⟩ := (HX.out.grows hB hgr).str hlt
      have hxz := HZ.out k hlt
      have hms := Lib.hid (map_take_succ (xs := xs) (k := k) (by rw [HL.out]; exact hlt))
      go_wp2_with fail
      refine (split_any (gs xs k) wr (hm.grows hgr) (by omega)).mono ?_
      rintro e w1 ⟨v1, rfl, g1, c1, rfl, hc1, ⟨_, how⟩, _, hg1⟩
      have HO := Lib.hid (OwnS.of how)
      have HP1 := Lib.hid (HP.out.mono (fun v ys h => OwnS.grows h hg1))
      have hown1 := own_grows hown hg1
      have hgr1 := hgr.trans hg1
      have hs1 := hgr1.size
      clear HP hown hgr hg1 how
      obtain ⟨L, hL⟩ : ∃ L, linesT (gs xs k) = L := ⟨_, rfl⟩
      rw [hL] at hms HO hc1 ⊢
      clear hL
      go_wp2_with (at_builtin; refine wpList_pushG rfl (.tmp 12) (.tmp 15) _ rfl (w.heap.size) 22 l0 _ 1 24 Tryd.underlying37 hl0 hl1 hl2 hl3 rfl (by decide) _ _ _ rfl ((hown1).alloc _) ⟨(w1).heap.size, 0, none⟩ 1 1 [.slice (some ⟨g1, 0, none⟩) L.length c1] rfl rfl (cell_one_new _ _ _) (by intro u hu; simp at hu; subst hu; rfl) (by simp only [maxLen]; omega) (by omega) (by simp; omega) ?_; intro v' w2 hown2 hb2 hgb2; have hgr2 : Grows w w2 := Below.trans (hgr1.alloc _) hb2)
      have HP2 := Lib.hid (show PartsL w2 ((xs.take (k + 1)).map linesT) (vs ++ [.slice (some ⟨g1, 0, none⟩) L.length c1]) by
        rw [hms.out]
        exact PartsL.snoc ((HO.out.alloc _).beside (hown1.alloc _) (by decide) hgb2) (HP1.out.mono (fun v ys h => (OwnS.alloc h _).beside (hown1.alloc _) (by decide) hgb2)))
      go_roundg (n - (k + 1))
      case measure => rw [HG.out]; omega
      case rel => exact ⟨k + 1, _, by go_num, by omega, rfl, hown2, HP2.out, hgr2⟩
    · have hkn : k = n := by omega
      subst hkn
      have k1 : ¬ ((k : Int) < k) := by omega
      have HP1 := Lib.hid (show PartsL wr (xs.map linesT) vs by have h := HP.out; rwa [List.take_of_length_le (by rw [HL.out]; exact Nat.le_refl _)] at h)
      obtain ⟨A1, c1, rfl, _, _⟩ := own_form hown
      have HV := Lib.hid (vers_of hown HP1.out)
      clear hown HP
      go_wp2_with fail
      refine (blines_any wr.heap.size A1 k c1 (xs.map linesT) wr HV.out (Nat.le_refl _) hn (fun i hi => by
        rw [gv_lines (by rw [HL.out]; exact hi)]
        have h1 := lines_len (gs xs i)
        have h2 := HZ.out i hi
        omega)).mono ?_
      rintro e w2 ⟨v, rfl, ⟨A2, c2, rfl, hr2⟩, hg2⟩
      have HR := Lib.hid hr2
      clear hr2
      go_wp2_with fail
      go_ret
      exact ⟨_, rfl, ⟨_, _, rfl, HR.out⟩, hgr.trans hg2⟩
end Go.Proofs.YtmfgbkbbmeedjaaDoor
