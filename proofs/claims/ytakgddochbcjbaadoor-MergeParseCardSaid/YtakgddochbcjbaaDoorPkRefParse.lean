/- What a text with marks is read as: the walk of rickref09.Parse. Written by gen_rparse.py. -/
import Derived.Test.YtakgddochbcjbaaDoorPkLinesFlat
import Derived.Test.YtakgddochbcjbaaDoorPkRefMarks
import Derived.Test.YtakgddochbcjbaaDoorPkRefLines
import Derived.Test.YtakgddochbcjbaaDoorPkMixS
namespace Go.Proofs.YtakgddochbcjbaaDoor
open Go.RowKit Go.Deep Go.MapKept Go.Maps

theorem PS.grows {w w' : World} {B : Nat} {v : Value} {l : List ChkB} (h : PS w B v l) (hg : Grows w w') : PS w' B v l := by
  rcases h with h | ⟨init, c, N, g, cap, xs, vb, vo, vt, e, hL⟩
  · exact .inl h
  · exact .inr ⟨init, c, N, g, cap, xs, vb, vo, vt, e, hL.grows hg⟩
theorem rmarkI_rng (x : ByteArray) : -1 ≤ rmarkI x ∧ rmarkI x ≤ 3 := by
  unfold rmarkI
  repeat' split
  all_goals omega
set_option maxRecDepth 100000 in
set_option maxHeartbeats 8000000 in
theorem rparse_any (s : ByteArray) (w : World) (hs : s.size ≤ 10000) :
    Calls Tryd.prog 16 #[.string s] w fun e w' => ParsedAs w' w.heap.size e (parseT s) ∧ Grows w w' := by
  obtain ⟨t1, hj0, hy0, hy1, hy2⟩ := info_parts Tryd.infoChunkM
  obtain ⟨s0, hs0, hs1, hs2, hs3⟩ := info_parts Tryd.infoStr
  have hnS := Lib.hid (lines_le s)
  have hfl := Lib.hid (flat_lines s)
  have hT := Lib.hid (show parseT s = match parseC (linesT s) 0 [] with | some (i, l) => if i = 0 then some l else none | none => none from rfl)
  go_enter Tryd.func16, Tryd.ntmps16
  go_wp2_with fail
  refine (rsplit_any s w (by omega)).mono ?_
  rintro e w2 ⟨v, rfl, hown2, hg2⟩
  obtain ⟨A2, c2, rfl, hc2a, hc2⟩ := own_form hown2
  obtain ⟨ls, hls⟩ : ∃ ls, linesT s = ls := ⟨_, rfl⟩
  rw [hls] at hown2 hc2a hnS hfl hT
  try rw [hls]
  clear hls
  obtain ⟨N, hN⟩ : ∃ N, ls.length = N := ⟨_, rfl⟩
  rw [hN] at hown2 hc2a hnS
  try rw [hN]
  have HN := Lib.hid hN
  have HR := Lib.hid (OwnS.reads (OwnS.of hown2))
  have hz := hg2.size
  have hg2' := Lib.hid hg2
  clear hN hown2 hg2
  go_wp2_with fail
  obtain ⟨R, hR⟩ : ∃ R, parseC ls 0 [] = R := ⟨_, rfl⟩
  rw [hR] at hT
  have HR0 := Lib.hid (show parseC (ls.drop 0) 0 [] = R from hR)
  clear hR
  go_loopg [7, 5, 6] N (fun gk q v iv wr => ∃ (k : Nat) (i : Int) (l : List ChkB), q = .int .i64 k ∧ iv = .int .i64 (i - 1) ∧ k ≤ N ∧ gk = N - k ∧ PI i l k ∧ parseC (ls.drop k) i l = R ∧ PS wr w2.heap.size v l ∧ Grows w2 wr)
  case atStart => exact ⟨0, 0, [], rfl, rfl, by omega, rfl, PI.start, HR0.out, .inl ⟨rfl, rfl⟩, Grows.refl _⟩
  case round =>
    obtain ⟨k, i, l, rfl, rfl, hk, hgk, hpi, hres, hps, hgr⟩ := hrel
    have HG := Lib.hid hgk; clear hgk
    have HPI := Lib.hid hpi; clear hpi
    have HPS := Lib.hid hps; clear hps
    have hsz := hgr.size
    have hn4 : N ≤ 10000 := Nat.le_trans hnS.out hs
    by_cases hlt : k < N
    · obtain ⟨ad, hA, had, p0⟩ := (HR.out.grows (Nat.le_refl _) hgr).str hlt
      cases hA
      have k0 : (0 : Int) ≤ k := by omega
      have k1 : (k : Int) < N := by omega
      rw [drop_gs (by rw [HN.out]; exact hlt)] at hres
      obtain ⟨x, hx⟩ : ∃ x, gs ls k = x := ⟨_, rfl⟩
      rw [hx] at p0 hres
      have HX := Lib.hid hx
      clear hx
      obtain ⟨m, hm⟩ : ∃ m, rmarkI x = m := ⟨_, rfl⟩
      have hmr := rmarkI_rng x
      have hmf := markF_rmark x
      rw [hm] at hmr hmf
      have HM := Lib.hid hm
      clear hm
      have hrng := HPI.out.rng
      obtain ⟨hi0, hi3⟩ := hrng
      by_cases hm1 : m = -1
      · subst hm1
        rw [parseC_none hmf] at hres
        have HRES := Lib.hid hres
        have HPUT := Lib.hid (HPI.out.put x)
        clear hres hmf
        rcases HPS.out with ⟨hl0, hv0⟩ | ⟨init, c, N0, g, cap, xs, vb, vo, vt, hl1, hL⟩
        · subst hv0
          have hi : i = 0 := Classical.byContradiction fun h0 => HPI.out.some_ h0 hl0
          subst hi
          subst hl0
          go_wp2_with fail
          refine (rmark_any x _).mono ?_
          rintro e w3 ⟨rfl, hg3⟩
          rw [HM.out]

          have hg3w : Below w2.heap.size w2 w3 := Below.trans hgr (Below.mono hg3 hgr.size)
          have hB3 : w2.heap.size ≤ w3.heap.size := hg3w.size

          have HO := Lib.hid (show w3.ownsRow w2.heap.size 36 4 (.slice none 0 0) 0 [] from World.ownsRow_nil _ _ _ _)
          have HP := Lib.hid (show Parts w3 [] [] from rfl)
          have hPE : putC [] 0 x = [] ++ [addC 0 x (1, [], [], [])] := putC_new x rfl

          go_wp2_with (at_builtin; refine wpList_append_any _ rfl (.tmp 64) (.tmp 66) _ rfl w2.heap.size 36 t1 _ 4 80 Tryd.underlying30 hj0 hy0 hy1 hy2 rfl (by decide) _ _ _ rfl (World.ownsRow.alloc HO.out (.cells #[.int .i64 1, .slice none 0 0, .slice none 0 0, .slice none 0 0] 36)) _ _ _ _ _ rfl (reads_chunk w3 1) (chunk_one 1) (le_maxLen (by omega)) (by omega) (alloc_le hB3 _) ?_; intro v9 w9 hown9 hgb9 hor9; have hz9 : w2.heap.size ≤ w9.heap.size := Nat.le_trans (alloc_le hB3 _) hgb9.size; obtain ⟨g, cap9, hL9⟩ := Last.snoc (l := []) (kd := 1) (World.ownsRow.alloc HO.out (.cells #[.int .i64 1, .slice none 0 0, .slice none 0 0, .slice none 0 0] 36)) (Parts.mono (fun _ _ ho => OwnS.alloc ho _) HP.out) hz9 hgb9 rfl hown9; have hf9 := hL9.form; simp only [List.length_nil, Nat.zero_add] at hf9; subst hf9; have HL9 := Lib.hid hL9; have HG9 := Lib.hid (Below.grown (Below.alloc hg3w hB3 (.cells #[.int .i64 1, .slice none 0 0, .slice none 0 0, .slice none 0 0] 36)) hgb9 (alloc_le hB3 _) (fun k hk => (World.ownsRow.lt HO.out k hk).1)); clear hown9 hgb9 hor9 hL9; obtain ⟨N0, hN0⟩ : ∃ N0, w9.heap.size = N0 := ⟨_, rfl⟩; rw [hN0] at HL9; clear hN0)

          have HLd := Lib.hid (HL9.out.grows ((Grows.refl w9).drew))
          have HGd := Lib.hid (Below.trans HG9.out (Below.mono ((Grows.refl w9).drew) HG9.out.size))
          obtain ⟨wd, hwd⟩ : ∃ wd, w9.drew = wd := ⟨_, rfl⟩
          rw [hwd] at HLd HGd
          have hN : N0 ≤ wd.heap.size := HLd.out.size
          have cl := HLd.out.cell2
          simp only [List.length_nil, Nat.zero_mul, Nat.zero_add] at cl
          obtain ⟨adx, hA, _, px⟩ := (HR.out.grows (Nat.le_refl _) HGd.out).str hlt
          cases hA
          rw [HX.out] at px
          obtain ⟨S, hS⟩ : ∃ S : World → Prop, S = fun w' => w'.cell? ⟨g, 2, none⟩ = some (.slice none 0 0) ∧ w'.cell? (ad.add k) = some (.string x) := ⟨_, rfl⟩
          have hS1 : ∀ s : SW S, s.w.cell? ⟨g, 2, none⟩ = some (.slice none 0 0) := fun s => by
            have := s.ok
            subst hS
            exact this.1
          have hS2 : ∀ s : SW S, s.w.cell? (ad.add k) = some (.string x) := fun s => by
            have := s.ok
            subst hS
            exact this.2
          have hSi : ∀ w', w'.cell? ⟨g, 2, none⟩ = some (.slice none 0 0) → w'.cell? (ad.add k) = some (.string x) → S w' := by rw [hS]; exact fun _ h h' => ⟨h, h'⟩
          have hSS : S w9.drew := by rw [hwd]; exact hSi _ cl px
          clear hS
          haveI : Nonempty (SW S) := ⟨⟨_, hSS⟩⟩
          refine wp_region_seq S [([0, 1, 2, 3, 4, 5, 6, 7, 8], 9), ([], 10)] [] [([], [11, 12, 13])] (by kernel_rfl) (fun _ _ _ _ _ h => h) (by kernel_rfl) hSS ?_
          simp only [pickS, pickT, pickL, List.map_cons, List.map_nil, List.filterMap_cons, List.filterMap_nil, List.getElem?_cons_zero, List.getElem?_cons_succ]
          rw [hwd]
          clear hwd hSS
          refine wpSeq_consK fun K2 hK2 K hK => ?_
          repeat (show wpQuiet _ _ _ _ (_ :: _) _; go_big_quiet_step (fail))
          refine wpQuiet_nil (hK _ ?_)
          clear hK K
          show wpList _ _ _ [_] _ _
          go_wp2_with fail
          have hga : Grows wd (wd.alloc (.cells #[.string x] 9)) := (Grows.refl wd).alloc _
          have cl2 := (HLd.out.grows hga).cell2
          simp only [List.length_nil, Nat.zero_mul, Nat.zero_add] at cl2
          obtain ⟨adx, hA, _, px2⟩ := (HR.out.grows (Nat.le_refl _) (Below.trans HGd.out (Below.mono hga HGd.out.size))).str hlt
          cases hA
          rw [HX.out] at px2
          refine hK2.out _ _ (hSi _ cl2 px2) ?_
          clear hK2 K2 cl2 px2 hS1 hS2
          refine wpSeq_consK fun K2 hK2 K hK => ?_
          refine wpQuiet_nil (hK _ ?_)
          clear hK K
          show wpList _ _ _ [_] _ _
          have hrow := Lib.hid (show wd.ownsRow N0 9 1 (.slice none 0 0) 0 [] from HLd.out.ro)
          go_wp2_with (at_builtin; refine wpList_append_any _ rfl (.tmp 83) (.tmp 88) _ rfl (N0) 9 s0 _ 1 16 Tryd.underlying28 hs0 hs1 hs2 hs3 rfl (by decide) _ _ _ rfl (World.ownsRow.alloc (hrow.out) (.cells #[.string (x)] 9)) _ _ _ _ _ rfl (reads_oneS (wd) (x) _ (by simp)) (one_cell _) (le_maxLen (by omega)) (by omega) (alloc_le (by assumption) _) ?_; intro v' wn hown hgb hor; obtain ⟨A4, c4, rfl, _, _⟩ := own_form hown; obtain ⟨hfz, hcl⟩ := HLd.out.mid2 hga hgb; simp only [List.length_nil, Nat.zero_mul, Nat.zero_add] at hfz hcl)
          have hgn := (Below.trans HGd.out (Below.mono hga HGd.out.size)).grown hgb (Nat.le_trans HGd.out.size hga.size) (fun kk hkk => Nat.le_trans HLd.out.le (World.ownsRow.lt HLd.out.ro kk hkk).1)
          obtain ⟨adx, hA, _, px2⟩ := (HR.out.grows (Nat.le_refl _) hgn).str hlt
          cases hA
          rw [HX.out] at px2
          refine hK2.out _ _ (hSi _ hcl px2) ?_
          clear hK2 K2 px2 hSi hgn
          refine wpSeq_nil (wpRest_K fun K hK => ?_)
          refine wpQuiet_nil (hK _ ?_)
          clear hK K
          refine wpSegs_consK fun K2 hK2 K hK => ?_
          refine wpQuiet_nil (hK _ ?_)
          clear hK K
          show wpList _ _ _ [_, _, _] _ _
          go_wp2_with fail
          refine hK2.out _ _ (wpSegs_nil ?_)
          clear hK2 K2 hfz hcl
          obtain ⟨hLn, hBn⟩ := HLd.out.put2 hga hown hgb hor
          simp only [List.length_nil, Nat.zero_mul, Nat.zero_add] at hLn hBn
          have hGn := Below.trans (Below.trans HGd.out (Below.mono hga HGd.out.size)) hBn
          clear hown hgb hor hBn
          obtain ⟨w4, hwn⟩ : ∃ w4, wn.setCell ⟨g, 2, none⟩ (.slice A4 (0 + 1) c4) = w4 := ⟨_, rfl⟩
          rw [hwn] at hLn hGn ⊢
          have HL4 := Lib.hid hLn
          have HG4 := Lib.hid hGn
          clear hwn hLn hGn hrow HLd HGd hN cl px hga wn
          go_wp2_with fail

          have HLd := Lib.hid (HL4.out.grows ((Grows.refl w4).drew))
          have HGd := Lib.hid (Below.trans HG4.out (Below.mono ((Grows.refl w4).drew) HG4.out.size))
          obtain ⟨wd, hwd⟩ : ∃ wd, w4.drew = wd := ⟨_, rfl⟩
          rw [hwd] at HLd HGd
          have hN : N0 ≤ wd.heap.size := HLd.out.size
          have cl := HLd.out.cell1
          simp only [List.length_nil, Nat.zero_mul, Nat.zero_add] at cl
          obtain ⟨adx, hA, _, px⟩ := (HR.out.grows (Nat.le_refl _) HGd.out).str hlt
          cases hA
          rw [HX.out] at px
          obtain ⟨S, hS⟩ : ∃ S : World → Prop, S = fun w' => w'.cell? ⟨g, 1, none⟩ = some (.slice none 0 0) ∧ w'.cell? (ad.add k) = some (.string x) := ⟨_, rfl⟩
          have hS1 : ∀ s : SW S, s.w.cell? ⟨g, 1, none⟩ = some (.slice none 0 0) := fun s => by
            have := s.ok
            subst hS
            exact this.1
          have hS2 : ∀ s : SW S, s.w.cell? (ad.add k) = some (.string x) := fun s => by
            have := s.ok
            subst hS
            exact this.2
          have hSi : ∀ w', w'.cell? ⟨g, 1, none⟩ = some (.slice none 0 0) → w'.cell? (ad.add k) = some (.string x) → S w' := by rw [hS]; exact fun _ h h' => ⟨h, h'⟩
          have hSS : S w4.drew := by rw [hwd]; exact hSi _ cl px
          clear hS
          haveI : Nonempty (SW S) := ⟨⟨_, hSS⟩⟩
          refine wp_region_seq S [([0, 1, 2, 3, 4, 5, 6, 7, 8], 9), ([], 10)] [] [([], [11, 12, 13])] (by kernel_rfl) (fun _ _ _ _ _ h => h) (by kernel_rfl) hSS ?_
          simp only [pickS, pickT, pickL, List.map_cons, List.map_nil, List.filterMap_cons, List.filterMap_nil, List.getElem?_cons_zero, List.getElem?_cons_succ]
          rw [hwd]
          clear hwd hSS
          refine wpSeq_consK fun K2 hK2 K hK => ?_
          repeat (show wpQuiet _ _ _ _ (_ :: _) _; go_big_quiet_step (fail))
          refine wpQuiet_nil (hK _ ?_)
          clear hK K
          show wpList _ _ _ [_] _ _
          go_wp2_with fail
          have hga : Grows wd (wd.alloc (.cells #[.string x] 9)) := (Grows.refl wd).alloc _
          have cl2 := (HLd.out.grows hga).cell1
          simp only [List.length_nil, Nat.zero_mul, Nat.zero_add] at cl2
          obtain ⟨adx, hA, _, px2⟩ := (HR.out.grows (Nat.le_refl _) (Below.trans HGd.out (Below.mono hga HGd.out.size))).str hlt
          cases hA
          rw [HX.out] at px2
          refine hK2.out _ _ (hSi _ cl2 px2) ?_
          clear hK2 K2 cl2 px2 hS1 hS2
          refine wpSeq_consK fun K2 hK2 K hK => ?_
          refine wpQuiet_nil (hK _ ?_)
          clear hK K
          show wpList _ _ _ [_] _ _
          have hrow := Lib.hid (show wd.ownsRow N0 9 1 (.slice none 0 0) 0 [] from HLd.out.rb)
          go_wp2_with (at_builtin; refine wpList_append_any _ rfl (.tmp 102) (.tmp 107) _ rfl (N0) 9 s0 _ 1 16 Tryd.underlying28 hs0 hs1 hs2 hs3 rfl (by decide) _ _ _ rfl (World.ownsRow.alloc (hrow.out) (.cells #[.string (x)] 9)) _ _ _ _ _ rfl (reads_oneS (wd) (x) _ (by simp)) (one_cell _) (le_maxLen (by omega)) (by omega) (alloc_le (by assumption) _) ?_; intro v' wn hown hgb hor; obtain ⟨A5, c5, rfl, _, _⟩ := own_form hown; obtain ⟨hfz, hcl⟩ := HLd.out.mid1 hga hgb; simp only [List.length_nil, Nat.zero_mul, Nat.zero_add] at hfz hcl)
          have hgn := (Below.trans HGd.out (Below.mono hga HGd.out.size)).grown hgb (Nat.le_trans HGd.out.size hga.size) (fun kk hkk => Nat.le_trans HLd.out.le (World.ownsRow.lt HLd.out.rb kk hkk).1)
          obtain ⟨adx, hA, _, px2⟩ := (HR.out.grows (Nat.le_refl _) hgn).str hlt
          cases hA
          rw [HX.out] at px2
          refine hK2.out _ _ (hSi _ hcl px2) ?_
          clear hK2 K2 px2 hSi hgn
          refine wpSeq_nil (wpRest_K fun K hK => ?_)
          refine wpQuiet_nil (hK _ ?_)
          clear hK K
          refine wpSegs_consK fun K2 hK2 K hK => ?_
          refine wpQuiet_nil (hK _ ?_)
          clear hK K
          show wpList _ _ _ [_, _, _] _ _
          go_wp2_with fail
          refine hK2.out _ _ (wpSegs_nil ?_)
          clear hK2 K2 hfz hcl
          obtain ⟨hLn, hBn⟩ := HLd.out.put1 hga hown hgb hor
          simp only [List.length_nil, Nat.zero_mul, Nat.zero_add] at hLn hBn
          have hGn := Below.trans (Below.trans HGd.out (Below.mono hga HGd.out.size)) hBn
          clear hown hgb hor hBn
          obtain ⟨w5, hwn⟩ : ∃ w5, wn.setCell ⟨g, 1, none⟩ (.slice A5 (0 + 1) c5) = w5 := ⟨_, rfl⟩
          rw [hwn] at hLn hGn ⊢
          have HL5 := Lib.hid hLn
          have HG5 := Lib.hid hGn
          clear hwn hLn hGn hrow HLd HGd hN cl px hga wn
          go_wp2_with fail

          have HLd := Lib.hid (HL5.out.grows ((Grows.refl w5).drew))
          have HGd := Lib.hid (Below.trans HG5.out (Below.mono ((Grows.refl w5).drew) HG5.out.size))
          obtain ⟨wd, hwd⟩ : ∃ wd, w5.drew = wd := ⟨_, rfl⟩
          rw [hwd] at HLd HGd
          have hN : N0 ≤ wd.heap.size := HLd.out.size
          have cl := HLd.out.cell3
          simp only [List.length_nil, Nat.zero_mul, Nat.zero_add] at cl
          obtain ⟨adx, hA, _, px⟩ := (HR.out.grows (Nat.le_refl _) HGd.out).str hlt
          cases hA
          rw [HX.out] at px
          obtain ⟨S, hS⟩ : ∃ S : World → Prop, S = fun w' => w'.cell? ⟨g, 3, none⟩ = some (.slice none 0 0) ∧ w'.cell? (ad.add k) = some (.string x) := ⟨_, rfl⟩
          have hS1 : ∀ s : SW S, s.w.cell? ⟨g, 3, none⟩ = some (.slice none 0 0) := fun s => by
            have := s.ok
            subst hS
            exact this.1
          have hS2 : ∀ s : SW S, s.w.cell? (ad.add k) = some (.string x) := fun s => by
            have := s.ok
            subst hS
            exact this.2
          have hSi : ∀ w', w'.cell? ⟨g, 3, none⟩ = some (.slice none 0 0) → w'.cell? (ad.add k) = some (.string x) → S w' := by rw [hS]; exact fun _ h h' => ⟨h, h'⟩
          have hSS : S w5.drew := by rw [hwd]; exact hSi _ cl px
          clear hS
          haveI : Nonempty (SW S) := ⟨⟨_, hSS⟩⟩
          refine wp_region_seq S [([0, 1, 2, 3, 4, 5, 6, 7, 8], 9), ([], 10)] [] [([], [11, 12, 13])] (by kernel_rfl) (fun _ _ _ _ _ h => h) (by kernel_rfl) hSS ?_
          simp only [pickS, pickT, pickL, List.map_cons, List.map_nil, List.filterMap_cons, List.filterMap_nil, List.getElem?_cons_zero, List.getElem?_cons_succ]
          rw [hwd]
          clear hwd hSS
          refine wpSeq_consK fun K2 hK2 K hK => ?_
          repeat (show wpQuiet _ _ _ _ (_ :: _) _; go_big_quiet_step (fail))
          refine wpQuiet_nil (hK _ ?_)
          clear hK K
          show wpList _ _ _ [_] _ _
          go_wp2_with fail
          have hga : Grows wd (wd.alloc (.cells #[.string x] 9)) := (Grows.refl wd).alloc _
          have cl2 := (HLd.out.grows hga).cell3
          simp only [List.length_nil, Nat.zero_mul, Nat.zero_add] at cl2
          obtain ⟨adx, hA, _, px2⟩ := (HR.out.grows (Nat.le_refl _) (Below.trans HGd.out (Below.mono hga HGd.out.size))).str hlt
          cases hA
          rw [HX.out] at px2
          refine hK2.out _ _ (hSi _ cl2 px2) ?_
          clear hK2 K2 cl2 px2 hS1 hS2
          refine wpSeq_consK fun K2 hK2 K hK => ?_
          refine wpQuiet_nil (hK _ ?_)
          clear hK K
          show wpList _ _ _ [_] _ _
          have hrow := Lib.hid (show wd.ownsRow N0 9 1 (.slice none 0 0) 0 [] from HLd.out.rt)
          go_wp2_with (at_builtin; refine wpList_append_any _ rfl (.tmp 121) (.tmp 126) _ rfl (N0) 9 s0 _ 1 16 Tryd.underlying28 hs0 hs1 hs2 hs3 rfl (by decide) _ _ _ rfl (World.ownsRow.alloc (hrow.out) (.cells #[.string (x)] 9)) _ _ _ _ _ rfl (reads_oneS (wd) (x) _ (by simp)) (one_cell _) (le_maxLen (by omega)) (by omega) (alloc_le (by assumption) _) ?_; intro v' wn hown hgb hor; obtain ⟨A6, c6, rfl, _, _⟩ := own_form hown; obtain ⟨hfz, hcl⟩ := HLd.out.mid3 hga hgb; simp only [List.length_nil, Nat.zero_mul, Nat.zero_add] at hfz hcl)
          have hgn := (Below.trans HGd.out (Below.mono hga HGd.out.size)).grown hgb (Nat.le_trans HGd.out.size hga.size) (fun kk hkk => Nat.le_trans HLd.out.le (World.ownsRow.lt HLd.out.rt kk hkk).1)
          obtain ⟨adx, hA, _, px2⟩ := (HR.out.grows (Nat.le_refl _) hgn).str hlt
          cases hA
          rw [HX.out] at px2
          refine hK2.out _ _ (hSi _ hcl px2) ?_
          clear hK2 K2 px2 hSi hgn
          refine wpSeq_nil (wpRest_K fun K hK => ?_)
          refine wpQuiet_nil (hK _ ?_)
          clear hK K
          refine wpSegs_consK fun K2 hK2 K hK => ?_
          refine wpQuiet_nil (hK _ ?_)
          clear hK K
          show wpList _ _ _ [_, _, _] _ _
          go_wp2_with fail
          refine hK2.out _ _ (wpSegs_nil ?_)
          clear hK2 K2 hfz hcl
          obtain ⟨hLn, hBn⟩ := HLd.out.put3 hga hown hgb hor
          simp only [List.length_nil, Nat.zero_mul, Nat.zero_add] at hLn hBn
          have hGn := Below.trans (Below.trans HGd.out (Below.mono hga HGd.out.size)) hBn
          clear hown hgb hor hBn
          obtain ⟨w6, hwn⟩ : ∃ w6, wn.setCell ⟨g, 3, none⟩ (.slice A6 (0 + 1) c6) = w6 := ⟨_, rfl⟩
          rw [hwn] at hLn hGn ⊢
          have HL6 := Lib.hid hLn
          have HG6 := Lib.hid hGn
          clear hwn hLn hGn hrow HLd HGd hN cl px hga wn

          go_wp2_with fail
          go_roundg (N - (k + 1))
          case measure => rw [HG.out]; omega
          case rel => exact ⟨k + 1, 0, putC _ 0 x, by go_num, by first | rfl | go_num, by omega, rfl, HPUT.out, HRES.out, by rw [hPE]; exact .inr ⟨_, _, _, _, _, _, _, _, _, rfl, HL6.out⟩, HG6.out⟩
        · have hf := hL.form
          subst hf
          have hlen := HPI.out.len
          have hrow := HPI.out.rows c (by rw [hl1]; simp)
          have hnn := hnS.out
          have hil : init.length ≤ 20000 := by
            rw [hl1] at hlen
            simp only [List.length_append, List.length_singleton] at hlen
            omega
          obtain ⟨hkd, hcb, hco, hct⟩ := hrow
          have hcb : c.2.1.length ≤ 100000 := by omega
          have hco : c.2.2.1.length ≤ 100000 := by omega
          have hct : c.2.2.2.length ≤ 100000 := by omega
          clear hlen hnn
          by_cases h5 : i = 0 ∧ c.1 = 5
          · obtain ⟨hi, hkd5⟩ := h5
            subst hi
            have HL := Lib.hid hL
            clear hL
            go_wp2_with fail
            refine (rmark_any x _).mono ?_
            rintro e w3 ⟨rfl, hg3⟩
            rw [HM.out]

            have hg3w : Below w2.heap.size w2 w3 := Below.trans hgr (Below.mono hg3 hgr.size)
            have hB3 : w2.heap.size ≤ w3.heap.size := hg3w.size

            have HL3 := Lib.hid (HL.out.grows hg3)
            have k0c := HL3.out.cell0
            rw [hkd5] at k0c
            obtain ⟨hoz, hpz⟩ := HL3.out.all
            have HO := Lib.hid (show w3.ownsRow w2.heap.size 36 4 (.slice (some ⟨g, 0, none⟩) (init.length + 1) cap) l.length (xs ++ [.int .i64 c.1, vb, vo, vt]) from by rw [hl1]; exact hoz)
            have HP := Lib.hid (show Parts w3 l (xs ++ [.int .i64 c.1, vb, vo, vt]) from by rw [hl1]; exact hpz)
            clear hoz hpz
            have hPE : putC l 0 x = l ++ [addC 0 x (1, [], [], [])] := putC_new x (by rw [hl1, newC_snoc]; simp [hkd5])
            have hll : l.length ≤ 100000 := by rw [hl1]; simp only [List.length_append, List.length_singleton]; omega
            have HL1 := Lib.hid hl1
            clear hl1
            have n0 : (((init.length : Int) + 1) == 0) = false := by rw [beq_eq_false_iff_ne]; omega

            go_wp2_with (at_builtin; refine wpList_append_any _ rfl (.tmp 64) (.tmp 66) _ rfl w2.heap.size 36 t1 _ 4 80 Tryd.underlying30 hj0 hy0 hy1 hy2 rfl (by decide) _ _ _ rfl (World.ownsRow.alloc HO.out (.cells #[.int .i64 1, .slice none 0 0, .slice none 0 0, .slice none 0 0] 36)) _ _ _ _ _ rfl (reads_chunk w3 1) (chunk_one 1) (le_maxLen (by omega)) (by omega) (alloc_le hB3 _) ?_; intro v9 w9 hown9 hgb9 hor9; have hz9 : w2.heap.size ≤ w9.heap.size := Nat.le_trans (alloc_le hB3 _) hgb9.size; obtain ⟨g, cap9, hL9⟩ := Last.snoc (l := l) (kd := 1) (World.ownsRow.alloc HO.out (.cells #[.int .i64 1, .slice none 0 0, .slice none 0 0, .slice none 0 0] 36)) (Parts.mono (fun _ _ ho => OwnS.alloc ho _) HP.out) hz9 hgb9 rfl hown9; have hf9 := hL9.form; subst hf9; have HL9 := Lib.hid hL9; have HG9 := Lib.hid (Below.grown (Below.alloc hg3w hB3 (.cells #[.int .i64 1, .slice none 0 0, .slice none 0 0, .slice none 0 0] 36)) hgb9 (alloc_le hB3 _) (fun k hk => (World.ownsRow.lt HO.out k hk).1)); clear hown9 hgb9 hor9 hL9; obtain ⟨N0, hN0⟩ : ∃ N0, w9.heap.size = N0 := ⟨_, rfl⟩; rw [hN0] at HL9; clear hN0)

            have HLd := Lib.hid (HL9.out.grows ((Grows.refl w9).drew))
            have HGd := Lib.hid (Below.trans HG9.out (Below.mono ((Grows.refl w9).drew) HG9.out.size))
            obtain ⟨wd, hwd⟩ : ∃ wd, w9.drew = wd := ⟨_, rfl⟩
            rw [hwd] at HLd HGd
            have hN : N0 ≤ wd.heap.size := HLd.out.size
            have cl := HLd.out.cell2
            obtain ⟨adx, hA, _, px⟩ := (HR.out.grows (Nat.le_refl _) HGd.out).str hlt
            cases hA
            rw [HX.out] at px
            obtain ⟨S, hS⟩ : ∃ S : World → Prop, S = fun w' => w'.cell? ⟨g, l.length * 4 + 2, none⟩ = some (.slice none 0 0) ∧ w'.cell? (ad.add k) = some (.string x) := ⟨_, rfl⟩
            have hS1 : ∀ s : SW S, s.w.cell? ⟨g, l.length * 4 + 2, none⟩ = some (.slice none 0 0) := fun s => by
              have := s.ok
              subst hS
              exact this.1
            have hS2 : ∀ s : SW S, s.w.cell? (ad.add k) = some (.string x) := fun s => by
              have := s.ok
              subst hS
              exact this.2
            have hSi : ∀ w', w'.cell? ⟨g, l.length * 4 + 2, none⟩ = some (.slice none 0 0) → w'.cell? (ad.add k) = some (.string x) → S w' := by rw [hS]; exact fun _ h h' => ⟨h, h'⟩
            have hSS : S w9.drew := by rw [hwd]; exact hSi _ cl px
            clear hS
            haveI : Nonempty (SW S) := ⟨⟨_, hSS⟩⟩
            refine wp_region_seq S [([0, 1, 2, 3, 4, 5, 6, 7, 8], 9), ([], 10)] [] [([], [11, 12, 13])] (by kernel_rfl) (fun _ _ _ _ _ h => h) (by kernel_rfl) hSS ?_
            simp only [pickS, pickT, pickL, List.map_cons, List.map_nil, List.filterMap_cons, List.filterMap_nil, List.getElem?_cons_zero, List.getElem?_cons_succ]
            rw [hwd]
            clear hwd hSS
            refine wpSeq_consK fun K2 hK2 K hK => ?_
            repeat (show wpQuiet _ _ _ _ (_ :: _) _; go_big_quiet_step (fail))
            refine wpQuiet_nil (hK _ ?_)
            clear hK K
            show wpList _ _ _ [_] _ _
            go_wp2_with fail
            have hga : Grows wd (wd.alloc (.cells #[.string x] 9)) := (Grows.refl wd).alloc _
            have cl2 := (HLd.out.grows hga).cell2
            obtain ⟨adx, hA, _, px2⟩ := (HR.out.grows (Nat.le_refl _) (Below.trans HGd.out (Below.mono hga HGd.out.size))).str hlt
            cases hA
            rw [HX.out] at px2
            refine hK2.out _ _ (hSi _ cl2 px2) ?_
            clear hK2 K2 cl2 px2 hS1 hS2
            refine wpSeq_consK fun K2 hK2 K hK => ?_
            refine wpQuiet_nil (hK _ ?_)
            clear hK K
            show wpList _ _ _ [_] _ _
            have hrow := Lib.hid (show wd.ownsRow N0 9 1 (.slice none 0 0) 0 [] from HLd.out.ro)
            go_wp2_with (at_builtin; refine wpList_append_any _ rfl (.tmp 83) (.tmp 88) _ rfl (N0) 9 s0 _ 1 16 Tryd.underlying28 hs0 hs1 hs2 hs3 rfl (by decide) _ _ _ rfl (World.ownsRow.alloc (hrow.out) (.cells #[.string (x)] 9)) _ _ _ _ _ rfl (reads_oneS (wd) (x) _ (by simp)) (one_cell _) (le_maxLen (by omega)) (by omega) (alloc_le (by assumption) _) ?_; intro v' wn hown hgb hor; obtain ⟨A4, c4, rfl, _, _⟩ := own_form hown; obtain ⟨hfz, hcl⟩ := HLd.out.mid2 hga hgb)
            have hgn := (Below.trans HGd.out (Below.mono hga HGd.out.size)).grown hgb (Nat.le_trans HGd.out.size hga.size) (fun kk hkk => Nat.le_trans HLd.out.le (World.ownsRow.lt HLd.out.ro kk hkk).1)
            obtain ⟨adx, hA, _, px2⟩ := (HR.out.grows (Nat.le_refl _) hgn).str hlt
            cases hA
            rw [HX.out] at px2
            refine hK2.out _ _ (hSi _ hcl px2) ?_
            clear hK2 K2 px2 hSi hgn
            refine wpSeq_nil (wpRest_K fun K hK => ?_)
            refine wpQuiet_nil (hK _ ?_)
            clear hK K
            refine wpSegs_consK fun K2 hK2 K hK => ?_
            refine wpQuiet_nil (hK _ ?_)
            clear hK K
            show wpList _ _ _ [_, _, _] _ _
            go_wp2_with fail
            refine hK2.out _ _ (wpSegs_nil ?_)
            clear hK2 K2 hfz hcl
            obtain ⟨hLn, hBn⟩ := HLd.out.put2 hga hown hgb hor
            have hGn := Below.trans (Below.trans HGd.out (Below.mono hga HGd.out.size)) hBn
            clear hown hgb hor hBn
            obtain ⟨w4, hwn⟩ : ∃ w4, wn.setCell ⟨g, l.length * 4 + 2, none⟩ (.slice A4 (0 + 1) c4) = w4 := ⟨_, rfl⟩
            rw [hwn] at hLn hGn ⊢
            have HL4 := Lib.hid hLn
            have HG4 := Lib.hid hGn
            clear hwn hLn hGn hrow HLd HGd hN cl px hga wn
            go_wp2_with fail

            have HLd := Lib.hid (HL4.out.grows ((Grows.refl w4).drew))
            have HGd := Lib.hid (Below.trans HG4.out (Below.mono ((Grows.refl w4).drew) HG4.out.size))
            obtain ⟨wd, hwd⟩ : ∃ wd, w4.drew = wd := ⟨_, rfl⟩
            rw [hwd] at HLd HGd
            have hN : N0 ≤ wd.heap.size := HLd.out.size
            have cl := HLd.out.cell1
            obtain ⟨adx, hA, _, px⟩ := (HR.out.grows (Nat.le_refl _) HGd.out).str hlt
            cases hA
            rw [HX.out] at px
            obtain ⟨S, hS⟩ : ∃ S : World → Prop, S = fun w' => w'.cell? ⟨g, l.length * 4 + 1, none⟩ = some (.slice none 0 0) ∧ w'.cell? (ad.add k) = some (.string x) := ⟨_, rfl⟩
            have hS1 : ∀ s : SW S, s.w.cell? ⟨g, l.length * 4 + 1, none⟩ = some (.slice none 0 0) := fun s => by
              have := s.ok
              subst hS
              exact this.1
            have hS2 : ∀ s : SW S, s.w.cell? (ad.add k) = some (.string x) := fun s => by
              have := s.ok
              subst hS
              exact this.2
            have hSi : ∀ w', w'.cell? ⟨g, l.length * 4 + 1, none⟩ = some (.slice none 0 0) → w'.cell? (ad.add k) = some (.string x) → S w' := by rw [hS]; exact fun _ h h' => ⟨h, h'⟩
            have hSS : S w4.drew := by rw [hwd]; exact hSi _ cl px
            clear hS
            haveI : Nonempty (SW S) := ⟨⟨_, hSS⟩⟩
            refine wp_region_seq S [([0, 1, 2, 3, 4, 5, 6, 7, 8], 9), ([], 10)] [] [([], [11, 12, 13])] (by kernel_rfl) (fun _ _ _ _ _ h => h) (by kernel_rfl) hSS ?_
            simp only [pickS, pickT, pickL, List.map_cons, List.map_nil, List.filterMap_cons, List.filterMap_nil, List.getElem?_cons_zero, List.getElem?_cons_succ]
            rw [hwd]
            clear hwd hSS
            refine wpSeq_consK fun K2 hK2 K hK => ?_
            repeat (show wpQuiet _ _ _ _ (_ :: _) _; go_big_quiet_step (fail))
            refine wpQuiet_nil (hK _ ?_)
            clear hK K
            show wpList _ _ _ [_] _ _
            go_wp2_with fail
            have hga : Grows wd (wd.alloc (.cells #[.string x] 9)) := (Grows.refl wd).alloc _
            have cl2 := (HLd.out.grows hga).cell1
            obtain ⟨adx, hA, _, px2⟩ := (HR.out.grows (Nat.le_refl _) (Below.trans HGd.out (Below.mono hga HGd.out.size))).str hlt
            cases hA
            rw [HX.out] at px2
            refine hK2.out _ _ (hSi _ cl2 px2) ?_
            clear hK2 K2 cl2 px2 hS1 hS2
            refine wpSeq_consK fun K2 hK2 K hK => ?_
            refine wpQuiet_nil (hK _ ?_)
            clear hK K
            show wpList _ _ _ [_] _ _
            have hrow := Lib.hid (show wd.ownsRow N0 9 1 (.slice none 0 0) 0 [] from HLd.out.rb)
            go_wp2_with (at_builtin; refine wpList_append_any _ rfl (.tmp 102) (.tmp 107) _ rfl (N0) 9 s0 _ 1 16 Tryd.underlying28 hs0 hs1 hs2 hs3 rfl (by decide) _ _ _ rfl (World.ownsRow.alloc (hrow.out) (.cells #[.string (x)] 9)) _ _ _ _ _ rfl (reads_oneS (wd) (x) _ (by simp)) (one_cell _) (le_maxLen (by omega)) (by omega) (alloc_le (by assumption) _) ?_; intro v' wn hown hgb hor; obtain ⟨A5, c5, rfl, _, _⟩ := own_form hown; obtain ⟨hfz, hcl⟩ := HLd.out.mid1 hga hgb)
            have hgn := (Below.trans HGd.out (Below.mono hga HGd.out.size)).grown hgb (Nat.le_trans HGd.out.size hga.size) (fun kk hkk => Nat.le_trans HLd.out.le (World.ownsRow.lt HLd.out.rb kk hkk).1)
            obtain ⟨adx, hA, _, px2⟩ := (HR.out.grows (Nat.le_refl _) hgn).str hlt
            cases hA
            rw [HX.out] at px2
            refine hK2.out _ _ (hSi _ hcl px2) ?_
            clear hK2 K2 px2 hSi hgn
            refine wpSeq_nil (wpRest_K fun K hK => ?_)
            refine wpQuiet_nil (hK _ ?_)
            clear hK K
            refine wpSegs_consK fun K2 hK2 K hK => ?_
            refine wpQuiet_nil (hK _ ?_)
            clear hK K
            show wpList _ _ _ [_, _, _] _ _
            go_wp2_with fail
            refine hK2.out _ _ (wpSegs_nil ?_)
            clear hK2 K2 hfz hcl
            obtain ⟨hLn, hBn⟩ := HLd.out.put1 hga hown hgb hor
            have hGn := Below.trans (Below.trans HGd.out (Below.mono hga HGd.out.size)) hBn
            clear hown hgb hor hBn
            obtain ⟨w5, hwn⟩ : ∃ w5, wn.setCell ⟨g, l.length * 4 + 1, none⟩ (.slice A5 (0 + 1) c5) = w5 := ⟨_, rfl⟩
            rw [hwn] at hLn hGn ⊢
            have HL5 := Lib.hid hLn
            have HG5 := Lib.hid hGn
            clear hwn hLn hGn hrow HLd HGd hN cl px hga wn
            go_wp2_with fail

            have HLd := Lib.hid (HL5.out.grows ((Grows.refl w5).drew))
            have HGd := Lib.hid (Below.trans HG5.out (Below.mono ((Grows.refl w5).drew) HG5.out.size))
            obtain ⟨wd, hwd⟩ : ∃ wd, w5.drew = wd := ⟨_, rfl⟩
            rw [hwd] at HLd HGd
            have hN : N0 ≤ wd.heap.size := HLd.out.size
            have cl := HLd.out.cell3
            obtain ⟨adx, hA, _, px⟩ := (HR.out.grows (Nat.le_refl _) HGd.out).str hlt
            cases hA
            rw [HX.out] at px
            obtain ⟨S, hS⟩ : ∃ S : World → Prop, S = fun w' => w'.cell? ⟨g, l.length * 4 + 3, none⟩ = some (.slice none 0 0) ∧ w'.cell? (ad.add k) = some (.string x) := ⟨_, rfl⟩
            have hS1 : ∀ s : SW S, s.w.cell? ⟨g, l.length * 4 + 3, none⟩ = some (.slice none 0 0) := fun s => by
              have := s.ok
              subst hS
              exact this.1
            have hS2 : ∀ s : SW S, s.w.cell? (ad.add k) = some (.string x) := fun s => by
              have := s.ok
              subst hS
              exact this.2
            have hSi : ∀ w', w'.cell? ⟨g, l.length * 4 + 3, none⟩ = some (.slice none 0 0) → w'.cell? (ad.add k) = some (.string x) → S w' := by rw [hS]; exact fun _ h h' => ⟨h, h'⟩
            have hSS : S w5.drew := by rw [hwd]; exact hSi _ cl px
            clear hS
            haveI : Nonempty (SW S) := ⟨⟨_, hSS⟩⟩
            refine wp_region_seq S [([0, 1, 2, 3, 4, 5, 6, 7, 8], 9), ([], 10)] [] [([], [11, 12, 13])] (by kernel_rfl) (fun _ _ _ _ _ h => h) (by kernel_rfl) hSS ?_
            simp only [pickS, pickT, pickL, List.map_cons, List.map_nil, List.filterMap_cons, List.filterMap_nil, List.getElem?_cons_zero, List.getElem?_cons_succ]
            rw [hwd]
            clear hwd hSS
            refine wpSeq_consK fun K2 hK2 K hK => ?_
            repeat (show wpQuiet _ _ _ _ (_ :: _) _; go_big_quiet_step (fail))
            refine wpQuiet_nil (hK _ ?_)
            clear hK K
            show wpList _ _ _ [_] _ _
            go_wp2_with fail
            have hga : Grows wd (wd.alloc (.cells #[.string x] 9)) := (Grows.refl wd).alloc _
            have cl2 := (HLd.out.grows hga).cell3
            obtain ⟨adx, hA, _, px2⟩ := (HR.out.grows (Nat.le_refl _) (Below.trans HGd.out (Below.mono hga HGd.out.size))).str hlt
            cases hA
            rw [HX.out] at px2
            refine hK2.out _ _ (hSi _ cl2 px2) ?_
            clear hK2 K2 cl2 px2 hS1 hS2
            refine wpSeq_consK fun K2 hK2 K hK => ?_
            refine wpQuiet_nil (hK _ ?_)
            clear hK K
            show wpList _ _ _ [_] _ _
            have hrow := Lib.hid (show wd.ownsRow N0 9 1 (.slice none 0 0) 0 [] from HLd.out.rt)
            go_wp2_with (at_builtin; refine wpList_append_any _ rfl (.tmp 121) (.tmp 126) _ rfl (N0) 9 s0 _ 1 16 Tryd.underlying28 hs0 hs1 hs2 hs3 rfl (by decide) _ _ _ rfl (World.ownsRow.alloc (hrow.out) (.cells #[.string (x)] 9)) _ _ _ _ _ rfl (reads_oneS (wd) (x) _ (by simp)) (one_cell _) (le_maxLen (by omega)) (by omega) (alloc_le (by assumption) _) ?_; intro v' wn hown hgb hor; obtain ⟨A6, c6, rfl, _, _⟩ := own_form hown; obtain ⟨hfz, hcl⟩ := HLd.out.mid3 hga hgb)
            have hgn := (Below.trans HGd.out (Below.mono hga HGd.out.size)).grown hgb (Nat.le_trans HGd.out.size hga.size) (fun kk hkk => Nat.le_trans HLd.out.le (World.ownsRow.lt HLd.out.rt kk hkk).1)
            obtain ⟨adx, hA, _, px2⟩ := (HR.out.grows (Nat.le_refl _) hgn).str hlt
            cases hA
            rw [HX.out] at px2
            refine hK2.out _ _ (hSi _ hcl px2) ?_
            clear hK2 K2 px2 hSi hgn
            refine wpSeq_nil (wpRest_K fun K hK => ?_)
            refine wpQuiet_nil (hK _ ?_)
            clear hK K
            refine wpSegs_consK fun K2 hK2 K hK => ?_
            refine wpQuiet_nil (hK _ ?_)
            clear hK K
            show wpList _ _ _ [_, _, _] _ _
            go_wp2_with fail
            refine hK2.out _ _ (wpSegs_nil ?_)
            clear hK2 K2 hfz hcl
            obtain ⟨hLn, hBn⟩ := HLd.out.put3 hga hown hgb hor
            have hGn := Below.trans (Below.trans HGd.out (Below.mono hga HGd.out.size)) hBn
            clear hown hgb hor hBn
            obtain ⟨w6, hwn⟩ : ∃ w6, wn.setCell ⟨g, l.length * 4 + 3, none⟩ (.slice A6 (0 + 1) c6) = w6 := ⟨_, rfl⟩
            rw [hwn] at hLn hGn ⊢
            have HL6 := Lib.hid hLn
            have HG6 := Lib.hid hGn
            clear hwn hLn hGn hrow HLd HGd hN cl px hga wn

            go_wp2_with fail
            go_roundg (N - (k + 1))
            case measure => rw [HG.out]; omega
            case rel => exact ⟨k + 1, 0, putC _ 0 x, by go_num, by first | rfl | go_num, by omega, rfl, HPUT.out, HRES.out, by rw [hPE]; exact .inr ⟨_, _, _, _, _, _, _, _, _, rfl, HL6.out⟩, HG6.out⟩
          · obtain ⟨Ao, co, rfl, _, _⟩ := own_form hL.ro
            obtain ⟨Ab, cb, rfl, _, _⟩ := own_form hL.rb
            obtain ⟨At, ct, rfl, _, _⟩ := own_form hL.rt
            have HL := Lib.hid hL
            clear hL
            rcases (by omega : i = 0 ∨ i = 1 ∨ i = 2 ∨ i = 3) with hi | hi | hi | hi
            · subst hi
              have hkd1 : c.1 = 1 := hkd.resolve_right fun h => h5 ⟨rfl, h⟩
              go_wp2_with fail
              refine (rmark_any x _).mono ?_
              rintro e w3 ⟨rfl, hg3⟩
              rw [HM.out]

              have HL3 := Lib.hid (HL.out.grows hg3)
              have HG3 := Lib.hid (Below.trans hgr (Below.mono hg3 hgr.size))
              have k0c := HL3.out.cell0
              rw [hkd1] at k0c
              go_wp2_with fail
              have hPE : putC l 0 x = init ++ [addC 0 x c] := by rw [hl1]; exact putC_old x (by rw [newC_snoc]; simp [hkd1])

              have HLd := Lib.hid (HL3.out.grows ((Grows.refl w3).drew))
              have HGd := Lib.hid (Below.trans HG3.out (Below.mono ((Grows.refl w3).drew) HG3.out.size))
              obtain ⟨wd, hwd⟩ : ∃ wd, w3.drew = wd := ⟨_, rfl⟩
              rw [hwd] at HLd HGd
              have hN : N0 ≤ wd.heap.size := HLd.out.size
              have cl := HLd.out.cell2
              obtain ⟨adx, hA, _, px⟩ := (HR.out.grows (Nat.le_refl _) HGd.out).str hlt
              cases hA
              rw [HX.out] at px
              obtain ⟨S, hS⟩ : ∃ S : World → Prop, S = fun w' => w'.cell? ⟨g, init.length * 4 + 2, none⟩ = some (.slice Ao c.2.2.1.length co) ∧ w'.cell? (ad.add k) = some (.string x) := ⟨_, rfl⟩
              have hS1 : ∀ s : SW S, s.w.cell? ⟨g, init.length * 4 + 2, none⟩ = some (.slice Ao c.2.2.1.length co) := fun s => by
                have := s.ok
                subst hS
                exact this.1
              have hS2 : ∀ s : SW S, s.w.cell? (ad.add k) = some (.string x) := fun s => by
                have := s.ok
                subst hS
                exact this.2
              have hSi : ∀ w', w'.cell? ⟨g, init.length * 4 + 2, none⟩ = some (.slice Ao c.2.2.1.length co) → w'.cell? (ad.add k) = some (.string x) → S w' := by rw [hS]; exact fun _ h h' => ⟨h, h'⟩
              have hSS : S w3.drew := by rw [hwd]; exact hSi _ cl px
              clear hS
              haveI : Nonempty (SW S) := ⟨⟨_, hSS⟩⟩
              refine wp_region_seq S [([0, 1, 2, 3, 4, 5, 6, 7, 8], 9), ([], 10)] [] [([], [11, 12, 13])] (by kernel_rfl) (fun _ _ _ _ _ h => h) (by kernel_rfl) hSS ?_
              simp only [pickS, pickT, pickL, List.map_cons, List.map_nil, List.filterMap_cons, List.filterMap_nil, List.getElem?_cons_zero, List.getElem?_cons_succ]
              rw [hwd]
              clear hwd hSS
              refine wpSeq_consK fun K2 hK2 K hK => ?_
              repeat (show wpQuiet _ _ _ _ (_ :: _) _; go_big_quiet_step (fail))
              refine wpQuiet_nil (hK _ ?_)
              clear hK K
              show wpList _ _ _ [_] _ _
              go_wp2_with fail
              have hga : Grows wd (wd.alloc (.cells #[.string x] 9)) := (Grows.refl wd).alloc _
              have cl2 := (HLd.out.grows hga).cell2
              obtain ⟨adx, hA, _, px2⟩ := (HR.out.grows (Nat.le_refl _) (Below.trans HGd.out (Below.mono hga HGd.out.size))).str hlt
              cases hA
              rw [HX.out] at px2
              refine hK2.out _ _ (hSi _ cl2 px2) ?_
              clear hK2 K2 cl2 px2 hS1 hS2
              refine wpSeq_consK fun K2 hK2 K hK => ?_
              refine wpQuiet_nil (hK _ ?_)
              clear hK K
              show wpList _ _ _ [_] _ _
              have hrow := Lib.hid (show wd.ownsRow N0 9 1 (.slice Ao c.2.2.1.length co) c.2.2.1.length (strs c.2.2.1) from HLd.out.ro)
              go_wp2_with (at_builtin; refine wpList_append_any _ rfl (.tmp 83) (.tmp 88) _ rfl (N0) 9 s0 _ 1 16 Tryd.underlying28 hs0 hs1 hs2 hs3 rfl (by decide) _ _ _ rfl (World.ownsRow.alloc (hrow.out) (.cells #[.string (x)] 9)) _ _ _ _ _ rfl (reads_oneS (wd) (x) _ (by simp)) (one_cell _) (le_maxLen (by omega)) (by omega) (alloc_le (by assumption) _) ?_; intro v' wn hown hgb hor; obtain ⟨A4, c4, rfl, _, _⟩ := own_form hown; obtain ⟨hfz, hcl⟩ := HLd.out.mid2 hga hgb)
              have hgn := (Below.trans HGd.out (Below.mono hga HGd.out.size)).grown hgb (Nat.le_trans HGd.out.size hga.size) (fun kk hkk => Nat.le_trans HLd.out.le (World.ownsRow.lt HLd.out.ro kk hkk).1)
              obtain ⟨adx, hA, _, px2⟩ := (HR.out.grows (Nat.le_refl _) hgn).str hlt
              cases hA
              rw [HX.out] at px2
              refine hK2.out _ _ (hSi _ hcl px2) ?_
              clear hK2 K2 px2 hSi hgn
              refine wpSeq_nil (wpRest_K fun K hK => ?_)
              refine wpQuiet_nil (hK _ ?_)
              clear hK K
              refine wpSegs_consK fun K2 hK2 K hK => ?_
              refine wpQuiet_nil (hK _ ?_)
              clear hK K
              show wpList _ _ _ [_, _, _] _ _
              go_wp2_with fail
              refine hK2.out _ _ (wpSegs_nil ?_)
              clear hK2 K2 hfz hcl
              obtain ⟨hLn, hBn⟩ := HLd.out.put2 hga hown hgb hor
              have hGn := Below.trans (Below.trans HGd.out (Below.mono hga HGd.out.size)) hBn
              clear hown hgb hor hBn
              obtain ⟨w4, hwn⟩ : ∃ w4, wn.setCell ⟨g, init.length * 4 + 2, none⟩ (.slice A4 (c.2.2.1.length + 1) c4) = w4 := ⟨_, rfl⟩
              rw [hwn] at hLn hGn ⊢
              have HL4 := Lib.hid hLn
              have HG4 := Lib.hid hGn
              clear hwn hLn hGn hrow HLd HGd hN cl px hga wn
              go_wp2_with fail

              have HLd := Lib.hid (HL4.out.grows ((Grows.refl w4).drew))
              have HGd := Lib.hid (Below.trans HG4.out (Below.mono ((Grows.refl w4).drew) HG4.out.size))
              obtain ⟨wd, hwd⟩ : ∃ wd, w4.drew = wd := ⟨_, rfl⟩
              rw [hwd] at HLd HGd
              have hN : N0 ≤ wd.heap.size := HLd.out.size
              have cl := HLd.out.cell1
              obtain ⟨adx, hA, _, px⟩ := (HR.out.grows (Nat.le_refl _) HGd.out).str hlt
              cases hA
              rw [HX.out] at px
              obtain ⟨S, hS⟩ : ∃ S : World → Prop, S = fun w' => w'.cell? ⟨g, init.length * 4 + 1, none⟩ = some (.slice Ab c.2.1.length cb) ∧ w'.cell? (ad.add k) = some (.string x) := ⟨_, rfl⟩
              have hS1 : ∀ s : SW S, s.w.cell? ⟨g, init.length * 4 + 1, none⟩ = some (.slice Ab c.2.1.length cb) := fun s => by
                have := s.ok
                subst hS
                exact this.1
              have hS2 : ∀ s : SW S, s.w.cell? (ad.add k) = some (.string x) := fun s => by
                have := s.ok
                subst hS
                exact this.2
              have hSi : ∀ w', w'.cell? ⟨g, init.length * 4 + 1, none⟩ = some (.slice Ab c.2.1.length cb) → w'.cell? (ad.add k) = some (.string x) → S w' := by rw [hS]; exact fun _ h h' => ⟨h, h'⟩
              have hSS : S w4.drew := by rw [hwd]; exact hSi _ cl px
              clear hS
              haveI : Nonempty (SW S) := ⟨⟨_, hSS⟩⟩
              refine wp_region_seq S [([0, 1, 2, 3, 4, 5, 6, 7, 8], 9), ([], 10)] [] [([], [11, 12, 13])] (by kernel_rfl) (fun _ _ _ _ _ h => h) (by kernel_rfl) hSS ?_
              simp only [pickS, pickT, pickL, List.map_cons, List.map_nil, List.filterMap_cons, List.filterMap_nil, List.getElem?_cons_zero, List.getElem?_cons_succ]
              rw [hwd]
              clear hwd hSS
              refine wpSeq_consK fun K2 hK2 K hK => ?_
              repeat (show wpQuiet _ _ _ _ (_ :: _) _; go_big_quiet_step (fail))
              refine wpQuiet_nil (hK _ ?_)
              clear hK K
              show wpList _ _ _ [_] _ _
              go_wp2_with fail
              have hga : Grows wd (wd.alloc (.cells #[.string x] 9)) := (Grows.refl wd).alloc _
              have cl2 := (HLd.out.grows hga).cell1
              obtain ⟨adx, hA, _, px2⟩ := (HR.out.grows (Nat.le_refl _) (Below.trans HGd.out (Below.mono hga HGd.out.size))).str hlt
              cases hA
              rw [HX.out] at px2
              refine hK2.out _ _ (hSi _ cl2 px2) ?_
              clear hK2 K2 cl2 px2 hS1 hS2
              refine wpSeq_consK fun K2 hK2 K hK => ?_
              refine wpQuiet_nil (hK _ ?_)
              clear hK K
              show wpList _ _ _ [_] _ _
              have hrow := Lib.hid (show wd.ownsRow N0 9 1 (.slice Ab c.2.1.length cb) c.2.1.length (strs c.2.1) from HLd.out.rb)
              go_wp2_with (at_builtin; refine wpList_append_any _ rfl (.tmp 102) (.tmp 107) _ rfl (N0) 9 s0 _ 1 16 Tryd.underlying28 hs0 hs1 hs2 hs3 rfl (by decide) _ _ _ rfl (World.ownsRow.alloc (hrow.out) (.cells #[.string (x)] 9)) _ _ _ _ _ rfl (reads_oneS (wd) (x) _ (by simp)) (one_cell _) (le_maxLen (by omega)) (by omega) (alloc_le (by assumption) _) ?_; intro v' wn hown hgb hor; obtain ⟨A5, c5, rfl, _, _⟩ := own_form hown; obtain ⟨hfz, hcl⟩ := HLd.out.mid1 hga hgb)
              have hgn := (Below.trans HGd.out (Below.mono hga HGd.out.size)).grown hgb (Nat.le_trans HGd.out.size hga.size) (fun kk hkk => Nat.le_trans HLd.out.le (World.ownsRow.lt HLd.out.rb kk hkk).1)
              obtain ⟨adx, hA, _, px2⟩ := (HR.out.grows (Nat.le_refl _) hgn).str hlt
              cases hA
              rw [HX.out] at px2
              refine hK2.out _ _ (hSi _ hcl px2) ?_
              clear hK2 K2 px2 hSi hgn
              refine wpSeq_nil (wpRest_K fun K hK => ?_)
              refine wpQuiet_nil (hK _ ?_)
              clear hK K
              refine wpSegs_consK fun K2 hK2 K hK => ?_
              refine wpQuiet_nil (hK _ ?_)
              clear hK K
              show wpList _ _ _ [_, _, _] _ _
              go_wp2_with fail
              refine hK2.out _ _ (wpSegs_nil ?_)
              clear hK2 K2 hfz hcl
              obtain ⟨hLn, hBn⟩ := HLd.out.put1 hga hown hgb hor
              have hGn := Below.trans (Below.trans HGd.out (Below.mono hga HGd.out.size)) hBn
              clear hown hgb hor hBn
              obtain ⟨w5, hwn⟩ : ∃ w5, wn.setCell ⟨g, init.length * 4 + 1, none⟩ (.slice A5 (c.2.1.length + 1) c5) = w5 := ⟨_, rfl⟩
              rw [hwn] at hLn hGn ⊢
              have HL5 := Lib.hid hLn
              have HG5 := Lib.hid hGn
              clear hwn hLn hGn hrow HLd HGd hN cl px hga wn
              go_wp2_with fail

              have HLd := Lib.hid (HL5.out.grows ((Grows.refl w5).drew))
              have HGd := Lib.hid (Below.trans HG5.out (Below.mono ((Grows.refl w5).drew) HG5.out.size))
              obtain ⟨wd, hwd⟩ : ∃ wd, w5.drew = wd := ⟨_, rfl⟩
              rw [hwd] at HLd HGd
              have hN : N0 ≤ wd.heap.size := HLd.out.size
              have cl := HLd.out.cell3
              obtain ⟨adx, hA, _, px⟩ := (HR.out.grows (Nat.le_refl _) HGd.out).str hlt
              cases hA
              rw [HX.out] at px
              obtain ⟨S, hS⟩ : ∃ S : World → Prop, S = fun w' => w'.cell? ⟨g, init.length * 4 + 3, none⟩ = some (.slice At c.2.2.2.length ct) ∧ w'.cell? (ad.add k) = some (.string x) := ⟨_, rfl⟩
              have hS1 : ∀ s : SW S, s.w.cell? ⟨g, init.length * 4 + 3, none⟩ = some (.slice At c.2.2.2.length ct) := fun s => by
                have := s.ok
                subst hS
                exact this.1
              have hS2 : ∀ s : SW S, s.w.cell? (ad.add k) = some (.string x) := fun s => by
                have := s.ok
                subst hS
                exact this.2
              have hSi : ∀ w', w'.cell? ⟨g, init.length * 4 + 3, none⟩ = some (.slice At c.2.2.2.length ct) → w'.cell? (ad.add k) = some (.string x) → S w' := by rw [hS]; exact fun _ h h' => ⟨h, h'⟩
              have hSS : S w5.drew := by rw [hwd]; exact hSi _ cl px
              clear hS
              haveI : Nonempty (SW S) := ⟨⟨_, hSS⟩⟩
              refine wp_region_seq S [([0, 1, 2, 3, 4, 5, 6, 7, 8], 9), ([], 10)] [] [([], [11, 12, 13])] (by kernel_rfl) (fun _ _ _ _ _ h => h) (by kernel_rfl) hSS ?_
              simp only [pickS, pickT, pickL, List.map_cons, List.map_nil, List.filterMap_cons, List.filterMap_nil, List.getElem?_cons_zero, List.getElem?_cons_succ]
              rw [hwd]
              clear hwd hSS
              refine wpSeq_consK fun K2 hK2 K hK => ?_
              repeat (show wpQuiet _ _ _ _ (_ :: _) _; go_big_quiet_step (fail))
              refine wpQuiet_nil (hK _ ?_)
              clear hK K
              show wpList _ _ _ [_] _ _
              go_wp2_with fail
              have hga : Grows wd (wd.alloc (.cells #[.string x] 9)) := (Grows.refl wd).alloc _
              have cl2 := (HLd.out.grows hga).cell3
              obtain ⟨adx, hA, _, px2⟩ := (HR.out.grows (Nat.le_refl _) (Below.trans HGd.out (Below.mono hga HGd.out.size))).str hlt
              cases hA
              rw [HX.out] at px2
              refine hK2.out _ _ (hSi _ cl2 px2) ?_
              clear hK2 K2 cl2 px2 hS1 hS2
              refine wpSeq_consK fun K2 hK2 K hK => ?_
              refine wpQuiet_nil (hK _ ?_)
              clear hK K
              show wpList _ _ _ [_] _ _
              have hrow := Lib.hid (show wd.ownsRow N0 9 1 (.slice At c.2.2.2.length ct) c.2.2.2.length (strs c.2.2.2) from HLd.out.rt)
              go_wp2_with (at_builtin; refine wpList_append_any _ rfl (.tmp 121) (.tmp 126) _ rfl (N0) 9 s0 _ 1 16 Tryd.underlying28 hs0 hs1 hs2 hs3 rfl (by decide) _ _ _ rfl (World.ownsRow.alloc (hrow.out) (.cells #[.string (x)] 9)) _ _ _ _ _ rfl (reads_oneS (wd) (x) _ (by simp)) (one_cell _) (le_maxLen (by omega)) (by omega) (alloc_le (by assumption) _) ?_; intro v' wn hown hgb hor; obtain ⟨A6, c6, rfl, _, _⟩ := own_form hown; obtain ⟨hfz, hcl⟩ := HLd.out.mid3 hga hgb)
              have hgn := (Below.trans HGd.out (Below.mono hga HGd.out.size)).grown hgb (Nat.le_trans HGd.out.size hga.size) (fun kk hkk => Nat.le_trans HLd.out.le (World.ownsRow.lt HLd.out.rt kk hkk).1)
              obtain ⟨adx, hA, _, px2⟩ := (HR.out.grows (Nat.le_refl _) hgn).str hlt
              cases hA
              rw [HX.out] at px2
              refine hK2.out _ _ (hSi _ hcl px2) ?_
              clear hK2 K2 px2 hSi hgn
              refine wpSeq_nil (wpRest_K fun K hK => ?_)
              refine wpQuiet_nil (hK _ ?_)
              clear hK K
              refine wpSegs_consK fun K2 hK2 K hK => ?_
              refine wpQuiet_nil (hK _ ?_)
              clear hK K
              show wpList _ _ _ [_, _, _] _ _
              go_wp2_with fail
              refine hK2.out _ _ (wpSegs_nil ?_)
              clear hK2 K2 hfz hcl
              obtain ⟨hLn, hBn⟩ := HLd.out.put3 hga hown hgb hor
              have hGn := Below.trans (Below.trans HGd.out (Below.mono hga HGd.out.size)) hBn
              clear hown hgb hor hBn
              obtain ⟨w6, hwn⟩ : ∃ w6, wn.setCell ⟨g, init.length * 4 + 3, none⟩ (.slice A6 (c.2.2.2.length + 1) c6) = w6 := ⟨_, rfl⟩
              rw [hwn] at hLn hGn ⊢
              have HL6 := Lib.hid hLn
              have HG6 := Lib.hid hGn
              clear hwn hLn hGn hrow HLd HGd hN cl px hga wn

              go_wp2_with fail
              go_roundg (N - (k + 1))
              case measure => rw [HG.out]; omega
              case rel => exact ⟨k + 1, 0, putC _ 0 x, by go_num, by first | rfl | go_num, by omega, rfl, HPUT.out, HRES.out, by rw [hPE]; exact .inr ⟨_, _, _, _, _, _, _, _, _, rfl, HL6.out⟩, HG6.out⟩
            · subst hi
              go_wp2_with fail
              refine (rmark_any x _).mono ?_
              rintro e w3 ⟨rfl, hg3⟩
              rw [HM.out]

              have HL3 := Lib.hid (HL.out.grows hg3)
              have HG3 := Lib.hid (Below.trans hgr (Below.mono hg3 hgr.size))
              go_wp2_with fail

              have HLd := Lib.hid (HL3.out.grows ((Grows.refl w3).drew))
              have HGd := Lib.hid (Below.trans HG3.out (Below.mono ((Grows.refl w3).drew) HG3.out.size))
              obtain ⟨wd, hwd⟩ : ∃ wd, w3.drew = wd := ⟨_, rfl⟩
              rw [hwd] at HLd HGd
              have hN : N0 ≤ wd.heap.size := HLd.out.size
              have cl := HLd.out.cell2
              obtain ⟨adx, hA, _, px⟩ := (HR.out.grows (Nat.le_refl _) HGd.out).str hlt
              cases hA
              rw [HX.out] at px
              obtain ⟨S, hS⟩ : ∃ S : World → Prop, S = fun w' => w'.cell? ⟨g, init.length * 4 + 2, none⟩ = some (.slice Ao c.2.2.1.length co) ∧ w'.cell? (ad.add k) = some (.string x) := ⟨_, rfl⟩
              have hS1 : ∀ s : SW S, s.w.cell? ⟨g, init.length * 4 + 2, none⟩ = some (.slice Ao c.2.2.1.length co) := fun s => by
                have := s.ok
                subst hS
                exact this.1
              have hS2 : ∀ s : SW S, s.w.cell? (ad.add k) = some (.string x) := fun s => by
                have := s.ok
                subst hS
                exact this.2
              have hSi : ∀ w', w'.cell? ⟨g, init.length * 4 + 2, none⟩ = some (.slice Ao c.2.2.1.length co) → w'.cell? (ad.add k) = some (.string x) → S w' := by rw [hS]; exact fun _ h h' => ⟨h, h'⟩
              have hSS : S w3.drew := by rw [hwd]; exact hSi _ cl px
              clear hS
              haveI : Nonempty (SW S) := ⟨⟨_, hSS⟩⟩
              refine wp_region_seq S [([0, 1, 2, 3, 4, 5, 6, 7, 8], 9), ([], 10)] [] [([], [11, 12, 13])] (by kernel_rfl) (fun _ _ _ _ _ h => h) (by kernel_rfl) hSS ?_
              simp only [pickS, pickT, pickL, List.map_cons, List.map_nil, List.filterMap_cons, List.filterMap_nil, List.getElem?_cons_zero, List.getElem?_cons_succ]
              rw [hwd]
              clear hwd hSS
              refine wpSeq_consK fun K2 hK2 K hK => ?_
              repeat (show wpQuiet _ _ _ _ (_ :: _) _; go_big_quiet_step (fail))
              refine wpQuiet_nil (hK _ ?_)
              clear hK K
              show wpList _ _ _ [_] _ _
              go_wp2_with fail
              have hga : Grows wd (wd.alloc (.cells #[.string x] 9)) := (Grows.refl wd).alloc _
              have cl2 := (HLd.out.grows hga).cell2
              obtain ⟨adx, hA, _, px2⟩ := (HR.out.grows (Nat.le_refl _) (Below.trans HGd.out (Below.mono hga HGd.out.size))).str hlt
              cases hA
              rw [HX.out] at px2
              refine hK2.out _ _ (hSi _ cl2 px2) ?_
              clear hK2 K2 cl2 px2 hS1 hS2
              refine wpSeq_consK fun K2 hK2 K hK => ?_
              refine wpQuiet_nil (hK _ ?_)
              clear hK K
              show wpList _ _ _ [_] _ _
              have hrow := Lib.hid (show wd.ownsRow N0 9 1 (.slice Ao c.2.2.1.length co) c.2.2.1.length (strs c.2.2.1) from HLd.out.ro)
              go_wp2_with (at_builtin; refine wpList_append_any _ rfl (.tmp 83) (.tmp 88) _ rfl (N0) 9 s0 _ 1 16 Tryd.underlying28 hs0 hs1 hs2 hs3 rfl (by decide) _ _ _ rfl (World.ownsRow.alloc (hrow.out) (.cells #[.string (x)] 9)) _ _ _ _ _ rfl (reads_oneS (wd) (x) _ (by simp)) (one_cell _) (le_maxLen (by omega)) (by omega) (alloc_le (by assumption) _) ?_; intro v' wn hown hgb hor; obtain ⟨A4, c4, rfl, _, _⟩ := own_form hown; obtain ⟨hfz, hcl⟩ := HLd.out.mid2 hga hgb)
              have hgn := (Below.trans HGd.out (Below.mono hga HGd.out.size)).grown hgb (Nat.le_trans HGd.out.size hga.size) (fun kk hkk => Nat.le_trans HLd.out.le (World.ownsRow.lt HLd.out.ro kk hkk).1)
              obtain ⟨adx, hA, _, px2⟩ := (HR.out.grows (Nat.le_refl _) hgn).str hlt
              cases hA
              rw [HX.out] at px2
              refine hK2.out _ _ (hSi _ hcl px2) ?_
              clear hK2 K2 px2 hSi hgn
              refine wpSeq_nil (wpRest_K fun K hK => ?_)
              refine wpQuiet_nil (hK _ ?_)
              clear hK K
              refine wpSegs_consK fun K2 hK2 K hK => ?_
              refine wpQuiet_nil (hK _ ?_)
              clear hK K
              show wpList _ _ _ [_, _, _] _ _
              go_wp2_with fail
              refine hK2.out _ _ (wpSegs_nil ?_)
              clear hK2 K2 hfz hcl
              obtain ⟨hLn, hBn⟩ := HLd.out.put2 hga hown hgb hor
              have hGn := Below.trans (Below.trans HGd.out (Below.mono hga HGd.out.size)) hBn
              clear hown hgb hor hBn
              obtain ⟨w4, hwn⟩ : ∃ w4, wn.setCell ⟨g, init.length * 4 + 2, none⟩ (.slice A4 (c.2.2.1.length + 1) c4) = w4 := ⟨_, rfl⟩
              rw [hwn] at hLn hGn ⊢
              have HL4 := Lib.hid hLn
              have HG4 := Lib.hid hGn
              clear hwn hLn hGn hrow HLd HGd hN cl px hga wn

              have hPE : putC l 1 x = init ++ [addC 1 x c] := by rw [hl1]; exact putC_old x rfl

              go_wp2_with fail
              go_roundg (N - (k + 1))
              case measure => rw [HG.out]; omega
              case rel => exact ⟨k + 1, 1, putC _ 1 x, by go_num, by first | rfl | go_num, by omega, rfl, HPUT.out, HRES.out, by rw [hPE]; exact .inr ⟨_, _, _, _, _, _, _, _, _, rfl, HL4.out⟩, HG4.out⟩
            · subst hi
              go_wp2_with fail
              refine (rmark_any x _).mono ?_
              rintro e w3 ⟨rfl, hg3⟩
              rw [HM.out]

              have HL3 := Lib.hid (HL.out.grows hg3)
              have HG3 := Lib.hid (Below.trans hgr (Below.mono hg3 hgr.size))
              go_wp2_with fail

              have HLd := Lib.hid (HL3.out.grows ((Grows.refl w3).drew))
              have HGd := Lib.hid (Below.trans HG3.out (Below.mono ((Grows.refl w3).drew) HG3.out.size))
              obtain ⟨wd, hwd⟩ : ∃ wd, w3.drew = wd := ⟨_, rfl⟩
              rw [hwd] at HLd HGd
              have hN : N0 ≤ wd.heap.size := HLd.out.size
              have cl := HLd.out.cell1
              obtain ⟨adx, hA, _, px⟩ := (HR.out.grows (Nat.le_refl _) HGd.out).str hlt
              cases hA
              rw [HX.out] at px
              obtain ⟨S, hS⟩ : ∃ S : World → Prop, S = fun w' => w'.cell? ⟨g, init.length * 4 + 1, none⟩ = some (.slice Ab c.2.1.length cb) ∧ w'.cell? (ad.add k) = some (.string x) := ⟨_, rfl⟩
              have hS1 : ∀ s : SW S, s.w.cell? ⟨g, init.length * 4 + 1, none⟩ = some (.slice Ab c.2.1.length cb) := fun s => by
                have := s.ok
                subst hS
                exact this.1
              have hS2 : ∀ s : SW S, s.w.cell? (ad.add k) = some (.string x) := fun s => by
                have := s.ok
                subst hS
                exact this.2
              have hSi : ∀ w', w'.cell? ⟨g, init.length * 4 + 1, none⟩ = some (.slice Ab c.2.1.length cb) → w'.cell? (ad.add k) = some (.string x) → S w' := by rw [hS]; exact fun _ h h' => ⟨h, h'⟩
              have hSS : S w3.drew := by rw [hwd]; exact hSi _ cl px
              clear hS
              haveI : Nonempty (SW S) := ⟨⟨_, hSS⟩⟩
              refine wp_region_seq S [([0, 1, 2, 3, 4, 5, 6, 7, 8], 9), ([], 10)] [] [([], [11, 12, 13])] (by kernel_rfl) (fun _ _ _ _ _ h => h) (by kernel_rfl) hSS ?_
              simp only [pickS, pickT, pickL, List.map_cons, List.map_nil, List.filterMap_cons, List.filterMap_nil, List.getElem?_cons_zero, List.getElem?_cons_succ]
              rw [hwd]
              clear hwd hSS
              refine wpSeq_consK fun K2 hK2 K hK => ?_
              repeat (show wpQuiet _ _ _ _ (_ :: _) _; go_big_quiet_step (fail))
              refine wpQuiet_nil (hK _ ?_)
              clear hK K
              show wpList _ _ _ [_] _ _
              go_wp2_with fail
              have hga : Grows wd (wd.alloc (.cells #[.string x] 9)) := (Grows.refl wd).alloc _
              have cl2 := (HLd.out.grows hga).cell1
              obtain ⟨adx, hA, _, px2⟩ := (HR.out.grows (Nat.le_refl _) (Below.trans HGd.out (Below.mono hga HGd.out.size))).str hlt
              cases hA
              rw [HX.out] at px2
              refine hK2.out _ _ (hSi _ cl2 px2) ?_
              clear hK2 K2 cl2 px2 hS1 hS2
              refine wpSeq_consK fun K2 hK2 K hK => ?_
              refine wpQuiet_nil (hK _ ?_)
              clear hK K
              show wpList _ _ _ [_] _ _
              have hrow := Lib.hid (show wd.ownsRow N0 9 1 (.slice Ab c.2.1.length cb) c.2.1.length (strs c.2.1) from HLd.out.rb)
              go_wp2_with (at_builtin; refine wpList_append_any _ rfl (.tmp 102) (.tmp 107) _ rfl (N0) 9 s0 _ 1 16 Tryd.underlying28 hs0 hs1 hs2 hs3 rfl (by decide) _ _ _ rfl (World.ownsRow.alloc (hrow.out) (.cells #[.string (x)] 9)) _ _ _ _ _ rfl (reads_oneS (wd) (x) _ (by simp)) (one_cell _) (le_maxLen (by omega)) (by omega) (alloc_le (by assumption) _) ?_; intro v' wn hown hgb hor; obtain ⟨A4, c4, rfl, _, _⟩ := own_form hown; obtain ⟨hfz, hcl⟩ := HLd.out.mid1 hga hgb)
              have hgn := (Below.trans HGd.out (Below.mono hga HGd.out.size)).grown hgb (Nat.le_trans HGd.out.size hga.size) (fun kk hkk => Nat.le_trans HLd.out.le (World.ownsRow.lt HLd.out.rb kk hkk).1)
              obtain ⟨adx, hA, _, px2⟩ := (HR.out.grows (Nat.le_refl _) hgn).str hlt
              cases hA
              rw [HX.out] at px2
              refine hK2.out _ _ (hSi _ hcl px2) ?_
              clear hK2 K2 px2 hSi hgn
              refine wpSeq_nil (wpRest_K fun K hK => ?_)
              refine wpQuiet_nil (hK _ ?_)
              clear hK K
              refine wpSegs_consK fun K2 hK2 K hK => ?_
              refine wpQuiet_nil (hK _ ?_)
              clear hK K
              show wpList _ _ _ [_, _, _] _ _
              go_wp2_with fail
              refine hK2.out _ _ (wpSegs_nil ?_)
              clear hK2 K2 hfz hcl
              obtain ⟨hLn, hBn⟩ := HLd.out.put1 hga hown hgb hor
              have hGn := Below.trans (Below.trans HGd.out (Below.mono hga HGd.out.size)) hBn
              clear hown hgb hor hBn
              obtain ⟨w4, hwn⟩ : ∃ w4, wn.setCell ⟨g, init.length * 4 + 1, none⟩ (.slice A4 (c.2.1.length + 1) c4) = w4 := ⟨_, rfl⟩
              rw [hwn] at hLn hGn ⊢
              have HL4 := Lib.hid hLn
              have HG4 := Lib.hid hGn
              clear hwn hLn hGn hrow HLd HGd hN cl px hga wn

              have hPE : putC l 2 x = init ++ [addC 2 x c] := by rw [hl1]; exact putC_old x rfl

              go_wp2_with fail
              go_roundg (N - (k + 1))
              case measure => rw [HG.out]; omega
              case rel => exact ⟨k + 1, 2, putC _ 2 x, by go_num, by first | rfl | go_num, by omega, rfl, HPUT.out, HRES.out, by rw [hPE]; exact .inr ⟨_, _, _, _, _, _, _, _, _, rfl, HL4.out⟩, HG4.out⟩
            · subst hi
              go_wp2_with fail
              refine (rmark_any x _).mono ?_
              rintro e w3 ⟨rfl, hg3⟩
              rw [HM.out]

              have HL3 := Lib.hid (HL.out.grows hg3)
              have HG3 := Lib.hid (Below.trans hgr (Below.mono hg3 hgr.size))
              go_wp2_with fail

              have HLd := Lib.hid (HL3.out.grows ((Grows.refl w3).drew))
              have HGd := Lib.hid (Below.trans HG3.out (Below.mono ((Grows.refl w3).drew) HG3.out.size))
              obtain ⟨wd, hwd⟩ : ∃ wd, w3.drew = wd := ⟨_, rfl⟩
              rw [hwd] at HLd HGd
              have hN : N0 ≤ wd.heap.size := HLd.out.size
              have cl := HLd.out.cell3
              obtain ⟨adx, hA, _, px⟩ := (HR.out.grows (Nat.le_refl _) HGd.out).str hlt
              cases hA
              rw [HX.out] at px
              obtain ⟨S, hS⟩ : ∃ S : World → Prop, S = fun w' => w'.cell? ⟨g, init.length * 4 + 3, none⟩ = some (.slice At c.2.2.2.length ct) ∧ w'.cell? (ad.add k) = some (.string x) := ⟨_, rfl⟩
              have hS1 : ∀ s : SW S, s.w.cell? ⟨g, init.length * 4 + 3, none⟩ = some (.slice At c.2.2.2.length ct) := fun s => by
                have := s.ok
                subst hS
                exact this.1
              have hS2 : ∀ s : SW S, s.w.cell? (ad.add k) = some (.string x) := fun s => by
                have := s.ok
                subst hS
                exact this.2
              have hSi : ∀ w', w'.cell? ⟨g, init.length * 4 + 3, none⟩ = some (.slice At c.2.2.2.length ct) → w'.cell? (ad.add k) = some (.string x) → S w' := by rw [hS]; exact fun _ h h' => ⟨h, h'⟩
              have hSS : S w3.drew := by rw [hwd]; exact hSi _ cl px
              clear hS
              haveI : Nonempty (SW S) := ⟨⟨_, hSS⟩⟩
              refine wp_region_seq S [([0, 1, 2, 3, 4, 5, 6, 7, 8], 9), ([], 10)] [] [([], [11, 12, 13])] (by kernel_rfl) (fun _ _ _ _ _ h => h) (by kernel_rfl) hSS ?_
              simp only [pickS, pickT, pickL, List.map_cons, List.map_nil, List.filterMap_cons, List.filterMap_nil, List.getElem?_cons_zero, List.getElem?_cons_succ]
              rw [hwd]
              clear hwd hSS
              refine wpSeq_consK fun K2 hK2 K hK => ?_
              repeat (show wpQuiet _ _ _ _ (_ :: _) _; go_big_quiet_step (fail))
              refine wpQuiet_nil (hK _ ?_)
              clear hK K
              show wpList _ _ _ [_] _ _
              go_wp2_with fail
              have hga : Grows wd (wd.alloc (.cells #[.string x] 9)) := (Grows.refl wd).alloc _
              have cl2 := (HLd.out.grows hga).cell3
              obtain ⟨adx, hA, _, px2⟩ := (HR.out.grows (Nat.le_refl _) (Below.trans HGd.out (Below.mono hga HGd.out.size))).str hlt
              cases hA
              rw [HX.out] at px2
              refine hK2.out _ _ (hSi _ cl2 px2) ?_
              clear hK2 K2 cl2 px2 hS1 hS2
              refine wpSeq_consK fun K2 hK2 K hK => ?_
              refine wpQuiet_nil (hK _ ?_)
              clear hK K
              show wpList _ _ _ [_] _ _
              have hrow := Lib.hid (show wd.ownsRow N0 9 1 (.slice At c.2.2.2.length ct) c.2.2.2.length (strs c.2.2.2) from HLd.out.rt)
              go_wp2_with (at_builtin; refine wpList_append_any _ rfl (.tmp 121) (.tmp 126) _ rfl (N0) 9 s0 _ 1 16 Tryd.underlying28 hs0 hs1 hs2 hs3 rfl (by decide) _ _ _ rfl (World.ownsRow.alloc (hrow.out) (.cells #[.string (x)] 9)) _ _ _ _ _ rfl (reads_oneS (wd) (x) _ (by simp)) (one_cell _) (le_maxLen (by omega)) (by omega) (alloc_le (by assumption) _) ?_; intro v' wn hown hgb hor; obtain ⟨A4, c4, rfl, _, _⟩ := own_form hown; obtain ⟨hfz, hcl⟩ := HLd.out.mid3 hga hgb)
              have hgn := (Below.trans HGd.out (Below.mono hga HGd.out.size)).grown hgb (Nat.le_trans HGd.out.size hga.size) (fun kk hkk => Nat.le_trans HLd.out.le (World.ownsRow.lt HLd.out.rt kk hkk).1)
              obtain ⟨adx, hA, _, px2⟩ := (HR.out.grows (Nat.le_refl _) hgn).str hlt
              cases hA
              rw [HX.out] at px2
              refine hK2.out _ _ (hSi _ hcl px2) ?_
              clear hK2 K2 px2 hSi hgn
              refine wpSeq_nil (wpRest_K fun K hK => ?_)
              refine wpQuiet_nil (hK _ ?_)
              clear hK K
              refine wpSegs_consK fun K2 hK2 K hK => ?_
              refine wpQuiet_nil (hK _ ?_)
              clear hK K
              show wpList _ _ _ [_, _, _] _ _
              go_wp2_with fail
              refine hK2.out _ _ (wpSegs_nil ?_)
              clear hK2 K2 hfz hcl
              obtain ⟨hLn, hBn⟩ := HLd.out.put3 hga hown hgb hor
              have hGn := Below.trans (Below.trans HGd.out (Below.mono hga HGd.out.size)) hBn
              clear hown hgb hor hBn
              obtain ⟨w4, hwn⟩ : ∃ w4, wn.setCell ⟨g, init.length * 4 + 3, none⟩ (.slice A4 (c.2.2.2.length + 1) c4) = w4 := ⟨_, rfl⟩
              rw [hwn] at hLn hGn ⊢
              have HL4 := Lib.hid hLn
              have HG4 := Lib.hid hGn
              clear hwn hLn hGn hrow HLd HGd hN cl px hga wn

              have hPE : putC l 3 x = init ++ [addC 3 x c] := by rw [hl1]; exact putC_old x rfl

              go_wp2_with fail
              go_roundg (N - (k + 1))
              case measure => rw [HG.out]; omega
              case rel => exact ⟨k + 1, 3, putC _ 3 x, by go_num, by first | rfl | go_num, by omega, rfl, HPUT.out, HRES.out, by rw [hPE]; exact .inr ⟨_, _, _, _, _, _, _, _, _, rfl, HL4.out⟩, HG4.out⟩
      · have hmI : ¬ m = -1 := hm1
        rw [if_neg hmI] at hmf
        obtain ⟨bb, hbb⟩ : ∃ bb, (m + 1) % 4 = bb := ⟨_, rfl⟩
        rw [hbb] at hmf
        have hrem : (i - 1 + 1).tmod 4 = i := by
          rw [Int.sub_add_cancel, Int.tmod_eq_emod_of_nonneg hi0, Int.emod_eq_of_lt hi0 (by omega)]
        have hge : (0 : Int) ≤ m := by omega
        have hge2 : (i - 1 + 1) = i := by omega
        by_cases hbr : m = i
        · subst hbr
          have hmark := HPI.out.mark (b := bb) hbb.symm
          rw [parseC_mark hmf hbb.symm] at hres
          have hne : (m != m) = false := by simp
          rcases (by omega : m = 0 ∨ m = 3 ∨ m = 1 ∨ m = 2) with hz0 | hz3 | hz | hz
          · subst hz0
            have hb1 : bb = 1 := by rw [← hbb]; rfl
            subst hb1
            rw [if_pos rfl] at hmark hres
            have HMARK := Lib.hid hmark
            have HRES := Lib.hid hres
            obtain ⟨xs, hown, hp⟩ := HPS.out.all
            obtain ⟨A4, c4, rfl, _, _⟩ := own_form hown
            have HO0 := Lib.hid hown
            have HP0 := Lib.hid hp
            have hlen := HPI.out.len
            clear hres hmf hmark hbb hown hp
            go_wp2_with fail
            refine (rmark_any x _).mono ?_
            rintro e w3 ⟨rfl, hg3⟩
            rw [HM.out]
            have hg3w : Below w2.heap.size w2 w3 := Below.trans hgr (Below.mono hg3 hgr.size)
            have hB3 : w2.heap.size ≤ w3.heap.size := hg3w.size
            have HO := Lib.hid (own_grows HO0.out hg3)
            have HP := Lib.hid (Parts.mono (fun _ _ ho => OwnS.grows ho hg3) HP0.out)
            go_wp2_with (at_builtin; refine wpList_append_any _ rfl (.tmp 41) (.tmp 43) _ rfl w2.heap.size 36 t1 _ 4 80 Tryd.underlying30 hj0 hy0 hy1 hy2 rfl (by decide) _ _ _ rfl (World.ownsRow.alloc HO.out (.cells #[.int .i64 5, .slice none 0 0, .slice none 0 0, .slice none 0 0] 36)) _ _ _ _ _ rfl (reads_chunk w3 5) (chunk_one 5) (le_maxLen (by omega)) (by omega) (alloc_le hB3 _) ?_; intro v9 w9 hown9 hgb9 hor9)
            have hg9 : Below w2.heap.size w2 w9 := Below.grown (Below.alloc hg3w hB3 (.cells #[.int .i64 5, .slice none 0 0, .slice none 0 0, .slice none 0 0] 36)) hgb9 (alloc_le hB3 _) (fun kk hkk => (World.ownsRow.lt HO.out kk hkk).1)
            have hps9 := PS.snoc (kd := 5) ((Grows.refl w3).alloc (.cells #[.int .i64 5, .slice none 0 0, .slice none 0 0, .slice none 0 0] 36)) HO.out HP.out (Nat.le_trans (alloc_le hB3 _) hgb9.size) hgb9 hown9
            go_roundg (N - (k + 1))
            case measure => rw [HG.out]; omega
            case rel => exact ⟨k + 1, 1, _, by go_num, rfl, by omega, rfl, HMARK.out, HRES.out, hps9, hg9⟩
          · subst hz3
            have hb1 : bb = 0 := by rw [← hbb]; rfl
            subst hb1
            rw [if_neg (by decide)] at hmark hres
            have HMARK := Lib.hid hmark
            have HRES := Lib.hid hres
            clear hres hmf hmark hbb
            go_wp2_with fail
            refine (rmark_any x _).mono ?_
            rintro e w3 ⟨rfl, hg3⟩
            rw [HM.out]
            have hg3w : Below w2.heap.size w2 w3 := Below.trans hgr (Below.mono hg3 hgr.size)
            go_wp2_with fail
            go_roundg (N - (k + 1))
            case measure => rw [HG.out]; omega
            case rel => exact ⟨k + 1, 0, l, by go_num, rfl, by omega, rfl, HMARK.out, HRES.out, HPS.out.grows hg3, hg3w⟩
          · subst hz
            have hb1 : bb = 2 := by rw [← hbb]; rfl
            subst hb1
            rw [if_neg (by decide)] at hmark hres
            have HMARK := Lib.hid hmark
            have HRES := Lib.hid hres
            clear hres hmf hmark hbb
            go_wp2_with fail
            refine (rmark_any x _).mono ?_
            rintro e w3 ⟨rfl, hg3⟩
            rw [HM.out]
            have hg3w : Below w2.heap.size w2 w3 := Below.trans hgr (Below.mono hg3 hgr.size)
            go_wp2_with fail
            go_roundg (N - (k + 1))
            case measure => rw [HG.out]; omega
            case rel => exact ⟨k + 1, 2, l, by go_num, rfl, by omega, rfl, HMARK.out, HRES.out, HPS.out.grows hg3, hg3w⟩
          · subst hz
            have hb1 : bb = 3 := by rw [← hbb]; rfl
            subst hb1
            rw [if_neg (by decide)] at hmark hres
            have HMARK := Lib.hid hmark
            have HRES := Lib.hid hres
            clear hres hmf hmark hbb
            go_wp2_with fail
            refine (rmark_any x _).mono ?_
            rintro e w3 ⟨rfl, hg3⟩
            rw [HM.out]
            have hg3w : Below w2.heap.size w2 w3 := Below.trans hgr (Below.mono hg3 hgr.size)
            go_wp2_with fail
            go_roundg (N - (k + 1))
            case measure => rw [HG.out]; omega
            case rel => exact ⟨k + 1, 3, l, by go_num, rfl, by omega, rfl, HMARK.out, HRES.out, HPS.out.grows hg3, hg3w⟩
        · rw [parseC_bad hmf (fun h => hbr (by omega))] at hres
          have hne : (m != i) = true := by simp [hbr]
          have hTN := Lib.hid (show parseT s = none by rw [hT.out, ← hres])
          clear hres hmf hbb
          go_wp2_with fail
          refine (rmark_any x _).mono ?_
          rintro e w3 ⟨rfl, hg3⟩
          rw [HM.out]
          go_wp2_with fail
          go_ret2
          exact ⟨by rw [hTN.out]; rfl, hg2'.out.trans (hgr.trans hg3)⟩
    · have hkn : k = N := by omega
      subst hkn
      have k1 : ¬ ((k : Int) < k) := by omega
      have hr1 : R = some (i, l) := by
        rw [← hres, List.drop_of_length_le (by rw [HN.out]; exact Nat.le_refl _)]; rfl
      by_cases hi : i = 0
      · subst hi
        have hTS := Lib.hid (show parseT s = some l by rw [hT.out, hr1]; rfl)
        clear hres hr1
        go_wp2_with fail
        go_ret2
        exact ⟨by rw [hTS.out]; exact ⟨_, rfl, HPS.out.mono (Nat.le_trans hg2'.out.size (Nat.le_refl _))⟩, hg2'.out.trans hgr⟩
      · have hi2 : (i - 1 != -1) = true := by simp only [bne_iff_ne]; omega
        have hTS := Lib.hid (show parseT s = none by rw [hT.out, hr1]; exact if_neg hi)
        clear hres hr1
        go_wp2_with fail
        go_ret2
        exact ⟨by rw [hTS.out]; rfl, hg2'.out.trans hgr⟩
end Go.Proofs.YtakgddochbcjbaaDoor
