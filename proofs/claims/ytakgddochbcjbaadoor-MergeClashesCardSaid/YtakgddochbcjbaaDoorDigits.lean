/- rickhelp.Digits, of small numbers. -/
import Derived.Test.YtakgddochbcjbaaDoorChunkUse
import Derived.Test.YtakgddochbcjbaaDoorMixS
import Derived.Laws.IdiomStrings
namespace Go.Proofs.YtakgddochbcjbaaDoor
open Go.RowKit Go.Deep Go.MapKept

theorem Blk.growsD {w w' : World} {g : Nat} {t : TypeId} {cs : Array Value} (h : Blk w g t cs) (hg : Grows w w') : Blk w' g t cs := (hg.block g h.lt).trans h
def byteT (k : Nat) : ByteArray := ⟨#[UInt8.ofNat k]⟩
def digT (v : Nat) : ByteArray := if v < 10 then byteT (48 + v) else byteT 49 ++ byteT (38 + v)
theorem conv_one (w : World) (g k : Nat) (hb : Blk w g 5 #[.int .u8 k]) (hk : k < 256) : (convert 72 9 (.slice (some ⟨g, 0, none⟩) 1 1)).run Tryd.prog w = .ok (.string (byteT k)) w :=
  run_convert_bytes_back (P := Tryd.prog) w 72 9 5 ⟨g, 0, none⟩ 1 [UInt8.ofNat k] Tryd.underlying72 Tryd.underlying5 Tryd.underlying9 (by
    intro j hj
    have hj0 : j = 0 := by simp at hj; omega
    subst hj0
    rw [show (⟨g, 0, none⟩ : Addr).add 0 = ⟨g, 0, none⟩ from rfl, hb.cell]
    simp only [List.getElem_cons_zero, UInt8.toNat_ofNat', Nat.mod_eq_of_lt hk]
    rfl)
theorem dig_one (v : Nat) (w : World) (h : v < 10) : Calls Tryd.prog 19 #[.int .i64 v] w fun e w' => e = .returned (.string (byteT (48 + v))) ∧ Grows w w' := by
  have h1 : (v : Int) < 10 := by omega
  have hc := conv_one (w.alloc (.cells #[.int .u8 ((48 + v : Nat) : Int)] 5)) w.heap.size (48 + v) (Blk.new _ _ _) (by omega)
  have hg := (Grows.refl w).alloc (.cells #[.int .u8 ((48 + v : Nat) : Int)] 5)
  rw [show ((48 + v : Nat) : Int) = 48 + (v : Int) by omega] at hc hg
  generalize byteT (48 + v) = r at hc ⊢
  go_enter Tryd.func19, Tryd.ntmps19
  go_wp2_with fail
  go_ret
  exact ⟨rfl, hg⟩
set_option maxRecDepth 100000 in
set_option maxHeartbeats 1000000 in
theorem dig_two (v : Nat) (w : World) (h0 : 10 ≤ v) (h : v < 20) : Calls Tryd.prog 19 #[.int .i64 v] w fun e w' => e = .returned (.string (byteT 49 ++ byteT (38 + v))) ∧ Grows w w' := by
  have h1 : ¬ ((v : Int) < 10) := by omega
  have hq : (v : Int) / 10 = 1 := by omega
  have hr : (v : Int) % 10 = (v : Int) - 10 := by omega
  have hw : (48 : Int) + ((v : Int) - 10) = 38 + v := by omega
  have HQ := Lib.hid hq
  have HR := Lib.hid hr
  have HW := Lib.hid hw
  clear hq hr hw
  have hsz : (byteT (38 + v)).size = 1 := rfl
  have hsz2 : (byteT 49).size = 1 := rfl
  obtain ⟨r1, hr1⟩ : ∃ r1, r1 = byteT 49 := ⟨_, rfl⟩
  obtain ⟨r2, hr2⟩ : ∃ r2, r2 = byteT (38 + v) := ⟨_, rfl⟩
  have hcv : ∀ (wx : World) (g : Nat), Blk wx g 5 #[.int .u8 ((38 + v : Nat) : Int)] → _ := fun wx g hb => conv_one wx g (38 + v) hb (by omega)
  have hdg : ∀ wx : World, _ := fun wx => dig_one 1 wx (by omega)
  rw [← hr2] at hcv hsz ⊢
  rw [show byteT (48 + 1) = r1 from hr1.symm] at hdg
  rw [← hr1] at hsz2 ⊢
  rw [show ((38 + v : Nat) : Int) = 38 + (v : Int) by omega] at hcv
  clear hr1 hr2
  obtain ⟨S, hS⟩ : ∃ S : World → Prop, S = fun w' => Grows w w' := ⟨_, rfl⟩
  have hSi : ∀ w', Grows w w' → S w' := by rw [hS]; exact fun _ h => h
  have hS0 := hSi _ (Grows.refl w).drew
  have hgd : Grows w w.drew := (Grows.refl w).drew
  clear hS
  haveI : Nonempty (SW S) := ⟨⟨_, hS0⟩⟩
  go_enter Tryd.func19, Tryd.ntmps19
  go_wp2_with fail
  refine wp_region_fre S 2 [([0, 1, 3, 4, 5], 6), ([], 7), ([], 8)] [] [9, 10] [] (by kernel_rfl) (fun _ _ _ _ _ h => h) (by kernel_rfl) hS0 ?_
  simp only [pickS, pickT, pickL, List.map_cons, List.map_nil, List.filterMap_cons, List.filterMap_nil, List.getElem?_cons_zero, List.getElem?_cons_succ]
  generalize w.drew = wd at hgd hS0 ⊢
  refine wpFre_consK fun K1 hK1 K2 hK2 K hK => ?_
  repeat (show wpQuiet _ _ _ _ (_ :: _) _; go_big_quiet_step (fail))
  rw [HQ.out, HR.out, HW.out]
  refine wpQuiet_nil (hK _ ?_ ?_)
  · clear hK K hK2 K2
    show wpList _ _ _ [_] _ _
    have hd := hdg wd
    go_wp2_with fail
    refine hd.mono ?_
    rintro e w1 ⟨rfl, hx1⟩
    clear hd
    have g1 := hgd.trans hx1
    go_wp2_with fail
    refine hK1.out _ _ (hSi _ g1) ?_
    clear hK1 K1
    refine wpSeq_consK fun K2 hK2 K hK => ?_
    refine wpQuiet_nil (hK _ ?_)
    clear hK K
    show wpList _ _ _ [_] _ _
    go_wp2_with fail
    refine hK2.out _ _ (hSi _ g1) ?_
    clear hK2 K2
    refine wpSeq_consK fun K2 hK2 K hK => ?_
    refine wpQuiet_nil (hK _ ?_)
    clear hK K
    show wpList _ _ _ [_] _ _
    go_wp2_with fail
    have g2 := g1.alloc (.cells #[.int .u8 (38 + (v : Int))] 5)
    have b2 := Blk.new w1 5 #[.int .u8 (38 + (v : Int))]
    generalize w1.alloc (.cells #[.int .u8 (38 + (v : Int))] 5) = w2 at g2 b2 ⊢
    refine hK2.out _ _ (hSi _ g2) ?_
    clear hK2 K2
    refine wpSeq_consK fun K2 hK2 K hK => ?_
    refine wpQuiet_nil (hK _ ?_)
    clear hK K
    show wpList _ _ _ [_] _ _
    have hc := hcv w2 _ b2
    go_wp2_with fail
    clear hc
    refine hK2.out _ _ (hSi _ g2) ?_
    clear hK2 K2
    refine wpSeq_nil (wpRest_K fun K hK => ?_)
    repeat (show wpQuiet _ _ _ _ (_ :: _) _; go_big_quiet_step (fail))
    refine wpQuiet_nil (hK _ ?_)
    clear hK K
    refine wpSegs_nil ?_
    go_wp2_with fail
    go_ret
    exact ⟨rfl, g2⟩
  · clear hK K hK1 K1
    show wpList _ _ _ [_] _ _
    go_wp2_with fail
    refine hK2.out _ _ (hSi _ hgd) ?_
    clear hK2 K2
    refine wpFre_consK fun K1 hK1 K2 hK2 K hK => ?_
    refine wpQuiet_nil (hK _ ?_ ?_)
    · clear hK K hK2 K2
      show wpList _ _ _ [_] _ _
      have hd := hdg wd
      go_wp2_with fail
      refine hd.mono ?_
      rintro e w3 ⟨rfl, hx3⟩
      clear hd
      have g3 := hgd.trans hx3
      go_wp2_with fail
      refine hK1.out _ _ (hSi _ g3) ?_
      clear hK1 K1
      refine wpSeq_consK fun K2 hK2 K hK => ?_
      refine wpQuiet_nil (hK _ ?_)
      clear hK K
      show wpList _ _ _ [_] _ _
      go_wp2_with fail
      have g4 := g3.alloc (.cells #[.int .u8 (38 + (v : Int))] 5)
      have b4 := Blk.new w3 5 #[.int .u8 (38 + (v : Int))]
      generalize w3.alloc (.cells #[.int .u8 (38 + (v : Int))] 5) = w4 at g4 b4 ⊢
      refine hK2.out _ _ (hSi _ g4) ?_
      clear hK2 K2
      refine wpSeq_consK fun K2 hK2 K hK => ?_
      refine wpQuiet_nil (hK _ ?_)
      clear hK K
      show wpList _ _ _ [_] _ _
      have hc := hcv w4 _ b4
      go_wp2_with fail
      clear hc
      refine hK2.out _ _ (hSi _ g4) ?_
      clear hK2 K2
      refine wpSeq_nil (wpRest_K fun K hK => ?_)
      repeat (show wpQuiet _ _ _ _ (_ :: _) _; go_big_quiet_step (fail))
      refine wpQuiet_nil (hK _ ?_)
      clear hK K
      refine wpSegs_nil ?_
      go_wp2_with fail
      go_ret
      exact ⟨rfl, g4⟩
    · clear hK K hK1 K1
      show wpList _ _ _ [_] _ _
      go_wp2_with fail
      have g5 := hgd.alloc (.cells #[.int .u8 (38 + (v : Int))] 5)
      have b5 := Blk.new wd 5 #[.int .u8 (38 + (v : Int))]
      generalize wd.alloc (.cells #[.int .u8 (38 + (v : Int))] 5) = w5 at g5 b5 ⊢
      refine hK2.out _ _ (hSi _ g5) ?_
      clear hK2 K2
      refine wpFre_consK fun K1 hK1 K2 hK2 K hK => ?_
      refine wpQuiet_nil (hK _ ?_ ?_)
      · clear hK K hK2 K2
        show wpList _ _ _ [_] _ _
        have hd := hdg w5
        go_wp2_with fail
        refine hd.mono ?_
        rintro e w6 ⟨rfl, hx6⟩
        clear hd
        have g6 := g5.trans hx6
        have b6 := Blk.growsD b5 hx6
        go_wp2_with fail
        refine hK1.out _ _ (hSi _ g6) ?_
        clear hK1 K1
        refine wpSeq_consK fun K2 hK2 K hK => ?_
        refine wpQuiet_nil (hK _ ?_)
        clear hK K
        show wpList _ _ _ [_] _ _
        have hc := hcv w6 _ b6
        go_wp2_with fail
        clear hc
        refine hK2.out _ _ (hSi _ g6) ?_
        clear hK2 K2
        refine wpSeq_nil (wpRest_K fun K hK => ?_)
        repeat (show wpQuiet _ _ _ _ (_ :: _) _; go_big_quiet_step (fail))
        refine wpQuiet_nil (hK _ ?_)
        clear hK K
        refine wpSegs_nil ?_
        go_wp2_with fail
        go_ret
        exact ⟨rfl, g6⟩
      · clear hK K hK1 K1
        show wpList _ _ _ [_] _ _
        have hc := hcv w5 _ b5
        go_wp2_with fail
        clear hc
        refine hK2.out _ _ (hSi _ g5) ?_
        clear hK2 K2
        refine wpFre_nilK fun K1 hK1 => ?_
        show wpList _ _ _ [_] _ _
        have hd := hdg w5
        go_wp2_with fail
        refine hd.mono ?_
        rintro e w7 ⟨rfl, hx7⟩
        clear hd
        have g7 := g5.trans hx7
        have b7 := Blk.growsD b5 hx7
        go_wp2_with fail
        refine hK1.out _ _ (hSi _ g7) ?_
        clear hK1 K1
        refine wpSeq_nil (wpRest_K fun K hK => ?_)
        repeat (show wpQuiet _ _ _ _ (_ :: _) _; go_big_quiet_step (fail))
        refine wpQuiet_nil (hK _ ?_)
        clear hK K
        refine wpSegs_nil ?_
        go_wp2_with fail
        go_ret
        exact ⟨rfl, g7⟩
theorem dig_any (v : Nat) (w : World) (h : v < 20) : Calls Tryd.prog 19 #[.int .i64 v] w fun e w' => e = .returned (.string (digT v)) ∧ Grows w w' := by
  unfold digT
  by_cases h1 : v < 10
  · rw [if_pos h1]
    exact dig_one v w h1
  · rw [if_neg h1]
    exact dig_two v w (by omega) h
end Go.Proofs.YtakgddochbcjbaaDoor
