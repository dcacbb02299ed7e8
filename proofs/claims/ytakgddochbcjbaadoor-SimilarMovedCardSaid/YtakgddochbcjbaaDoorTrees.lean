/- rickref11's trees: Find, without, Sorted. rickref11.Sorted: one more file, in its place. rickref11's trees: Clashes, Right. rickref11's trees: Put, Drop. rickplay's Tree: what it makes; ricklaw13's few. -/
import Derived.Test.YtakgddochbcjbaaDoorSimCmp
import Derived.Test.YtakgddochbcjbaaDoorCommon
import Derived.Test.YtakgddochbcjbaaDoorRefPath
namespace Go.Proofs.YtakgddochbcjbaaDoor
open Go.RowKit Go.Deep Go.MapKept Go.Shelf

theorem Tryd.infoFile : (Tryd.prog.info? 57).map (fun i => (i.zero, i.size, i.bytes)) = some (some (.agg #[.string { data := #[] }, .bool false, .string { data := #[] }]), 3, 40) := by kernel_rfl
theorem fileCells_append (l m : List FileB) : fileCells (l ++ m) = fileCells l ++ fileCells m := by simp [fileCells]
theorem fileCells_one (f : FileB) : fileCells [f] = [.string f.1, .bool f.2.1, .string f.2.2] := rfl
theorem fileCells_cell (l : List FileB) : ∀ u ∈ fileCells l, u.oneCell' = true := by
  intro u hu
  simp only [fileCells, List.mem_flatMap] at hu
  obtain ⟨f, _, hu⟩ := hu
  simp [fcell] at hu
  rcases hu with rfl | rfl | rfl <;> rfl
/-- what Find tells -/
def FoundF (l : List FileB) (p : ByteArray) (f : FileB) : Prop := hasF l p = true → ∃ k, k < l.length ∧ fp l k = p ∧ hasK l p k = false ∧ f = gf l k
/-- .. as a call's end -/
def FoundE (l : List FileB) (p : ByteArray) (e : Ending) : Prop := ∃ f : FileB, e = .returned (.tuple #[.agg #[.string f.1, .bool f.2.1, .string f.2.2], .bool (hasF l p)]) ∧ FoundF l p f
set_option maxRecDepth 100000 in
set_option maxHeartbeats 1000000 in
theorem rfind_any (B : Nat) (A : Option Addr) (n c : Nat) (l : List FileB) (p : ByteArray) (w : World) (h : Reads w B 3 A n (fileCells l)) (hB : B ≤ w.heap.size) (hn : n ≤ 1000000) :
    Calls Tryd.prog 35 #[.slice A n c, .string p] w fun e w' => FoundE l p e ∧ Grows w w' := by
  have HL := Lib.hid h.fileLen
  obtain ⟨w1, hw1⟩ : ∃ w1, w1 = w.alloc (.cells #[.string { data := #[] }, .bool false, .string { data := #[] }] 57) := ⟨_, rfl⟩
  obtain ⟨R, hR⟩ : ∃ R, R = w.heap.size := ⟨_, rfl⟩
  have hg0 : Grows w w1 := by rw [hw1]; exact (Grows.refl w).alloc _
  have hb0 : Blk w1 R 57 #[.string { data := #[] }, .bool false, .string { data := #[] }] := by rw [hw1, hR]; exact Blk.new _ _ _
  have hge : w.heap.size ≤ R := by omega
  have HX := Lib.hid (h.grows hB hg0)
  have HW := Lib.hid hw1
  have HRR := Lib.hid hR
  clear h hw1 hR
  go_enter Tryd.func35, Tryd.ntmps35
  go_wp2_with fail
  rw [← HW.out, ← HRR.out]
  go_loopg [6] n (fun gk q wr => wr = w1 ∧ ∃ k : Nat, q = .int .i64 k ∧ k ≤ n ∧ gk = n - k ∧ hasK l p k = false)
  case atStart => exact ⟨rfl, 0, rfl, by omega, rfl, rfl⟩
  case round =>
    obtain ⟨rfl, k, rfl, hk, hgk, hno⟩ := hrel
    have HG := Lib.hid hgk
    have HN := Lib.hid hno
    clear hgk hno
    have hp1 := hb0.cell 0
    have hp2 := hb0.cell 1
    have hp3 := hb0.cell 2
    simp only [List.getElem?_toArray, List.getElem?_cons_succ, List.getElem?_cons_zero] at hp1 hp2 hp3
    have hf1 := hb0.frozen 0
    have hf2 := hb0.frozen 1
    have hf3 := hb0.frozen 2
    by_cases hlt : k < n
    · have k0 : (0 : Int) ≤ k := by omega
      have k1 : (k : Int) < n := by omega
      obtain ⟨ad, rfl, had, p0, p1, p2⟩ := HX.out.file hlt
      have het := eqT_list (fp l k) p
      cases he : eqT (fp l k) p with
      | true =>
        rw [he] at het
        have HE := Lib.hid (of_decide_eq_true he)
        clear he
        go_wp2_with fail
        obtain ⟨q1, q2⟩ := set_three hb0 hg0 hge (.string (fp l k)) (.bool (fx l k)) (.string (ft l k))
        generalize ((wr.setCell ⟨R, 0, none⟩ (.string (fp l k))).setCell ⟨R, 1, none⟩ (.bool (fx l k))).setCell ⟨R, 2, none⟩ (.string (ft l k)) = wf at q1 q2 ⊢
        have z0 := q1.cell 0
        have z1 := q1.cell 1
        have z2 := q1.cell 2
        simp only [List.getElem?_toArray, List.getElem?_cons_succ, List.getElem?_cons_zero] at z0 z1 z2
        (try simp only [Exit.inBlock, Exit.then])
        refine bodyPost_ret (v := .tuple #[.agg #[.string (fp l k), .bool (fx l k), .string (ft l k)], .bool true]) ?_ rfl ⟨⟨gf l k, by rw [AtF.has (show k < l.length by rw [HL.out]; exact hlt) HE.out]; rfl, fun _ => ⟨k, by rw [HL.out]; exact hlt, HE.out, HN.out, rfl⟩⟩, q2⟩
        rw [results_cell_tmp rfl]
        go_simp
      | false =>
        rw [he] at het
        have HE := Lib.hid (show hasK l p (k + 1) = false by rw [hasK, HN.out, he]; rfl)
        clear he
        go_wp2_with fail
        go_roundg (n - (k + 1))
        case measure => rw [HG.out]; omega
        case rel => exact ⟨rfl, k + 1, by go_num, by omega, rfl, HE.out⟩
    · have hkn : k = n := by omega
      subst hkn
      have k1 : ¬ ((k : Int) < k) := by omega
      have hf := Lib.hid (show hasF l p = false by rw [hasF, HL.out]; exact HN.out)
      go_wp2_with fail
      obtain ⟨q1, q2⟩ := set_three hb0 hg0 hge (.string { data := #[] }) (.bool false) (.string { data := #[] })
      generalize ((wr.setCell ⟨R, 0, none⟩ (.string { data := #[] })).setCell ⟨R, 1, none⟩ (.bool false)).setCell ⟨R, 2, none⟩ (.string { data := #[] }) = wf at q1 q2 ⊢
      have z0 := q1.cell 0
      have z1 := q1.cell 1
      have z2 := q1.cell 2
      simp only [List.getElem?_toArray, List.getElem?_cons_succ, List.getElem?_cons_zero] at z0 z1 z2
      (try simp only [Exit.inBlock, Exit.then])
      refine bodyPost_ret (v := .tuple #[.agg #[.string { data := #[] }, .bool false, .string { data := #[] }], .bool false]) ?_ rfl ⟨⟨({ data := #[] }, false, { data := #[] }), by rw [hf.out], fun h => by rw [hf.out] at h; cases h⟩, q2⟩
      rw [results_cell_tmp rfl]
      go_simp

def withoutTo (l : List FileB) (p : ByteArray) : Nat → List FileB
  | 0 => []
  | k + 1 => if eqT (fp l k) p = true then withoutTo l p k else withoutTo l p k ++ [gf l k]
theorem withoutTo_len (l : List FileB) (p : ByteArray) : ∀ k, (withoutTo l p k).length ≤ k
  | 0 => Nat.le_refl _
  | k + 1 => by
    have := withoutTo_len l p k
    rw [withoutTo]
    split
    · omega
    · rw [List.length_append]; simpa using this
theorem Blk.reads3f {w : World} {g : Nat} {t : TypeId} {a b c : Value} (h : Blk w g t #[a, b, c]) : Reads w w.heap.size 3 (some ⟨g, 0, none⟩) 1 [a, b, c] := by
  refine ⟨rfl, fun _ => ⟨_, rfl, h.lt, fun j u hu => ?_⟩⟩
  have e2 : Addr.add ⟨g, 0, none⟩ j = ⟨g, j, none⟩ := by unfold Addr.add; split <;> simp_all
  rw [e2, h.cell]
  match j, hu with
  | 0, hu => simpa using hu
  | 1, hu => simpa using hu
  | 2, hu => simpa using hu
set_option maxRecDepth 100000 in
set_option maxHeartbeats 1000000 in
theorem without_any (B : Nat) (A : Option Addr) (n c : Nat) (l : List FileB) (p : ByteArray) (w : World) (h : Reads w B 3 A n (fileCells l)) (hB : B ≤ w.heap.size) (hn : n ≤ 1000000) :
    Calls Tryd.prog 71 #[.slice A n c, .string p] w fun e w' => ∃ v, e = .returned v ∧ w'.ownsRow w.heap.size 57 3 v (withoutTo l p n).length (fileCells (withoutTo l p n)) ∧ Grows w w' := by
  have HL := Lib.hid h.fileLen
  have HX := Lib.hid h
  clear h
  obtain ⟨t1, hj0, hy0, hy1, hy2⟩ := info_parts Tryd.infoFile
  go_enter Tryd.func71, Tryd.ntmps71
  go_wp2_with fail
  go_loopg [6, 5] n (fun gk q v wr => ∃ k : Nat, q = .int .i64 k ∧ k ≤ n ∧ gk = n - k ∧ wr.ownsRow w.heap.size 57 3 v (withoutTo l p k).length (fileCells (withoutTo l p k)) ∧ Grows w wr)
  case atStart => exact ⟨0, rfl, by omega, rfl, World.ownsRow_nil _ _ _ _, Grows.refl _⟩
  case round =>
    obtain ⟨k, rfl, hk, hgk, hown, hgr⟩ := hrel
    have HG := Lib.hid hgk
    clear hgk
    have hsz := hgr.size
    have hlen := withoutTo_len l p k
    by_cases hlt : k < n
    · have k0 : (0 : Int) ≤ k := by omega
      have k1 : (k : Int) < n := by omega
      obtain ⟨ad, rfl, had, p0, p1, p2⟩ := (HX.out.grows hB hgr).file hlt
      have het := eqT_list (fp l k) p
      cases he : eqT (fp l k) p with
      | true =>
        rw [he] at het
        have HE := Lib.hid (show withoutTo l p (k + 1) = withoutTo l p k by rw [withoutTo, if_pos he])
        clear he
        go_wp2_with fail
        go_roundg (n - (k + 1))
        case measure => rw [HG.out]; omega
        case rel => exact ⟨k + 1, by go_num, by omega, rfl, by rw [HE.out]; exact hown, hgr⟩
      | false =>
        rw [he] at het
        have HE := Lib.hid (show withoutTo l p (k + 1) = withoutTo l p k ++ [gf l k] by rw [withoutTo, if_neg (by rw [he]; simp)])
        clear he
        have hnw := (Blk.new wr 57 #[.string (fp l k), .bool (fx l k), .string (ft l k)]).reads3f
        go_wp2_with (at_builtin; refine wpList_append_any _ rfl (.tmp 20) (.tmp 25) _ rfl (w.heap.size) 57 t1 _ 3 40 Tryd.underlying51 hj0 hy0 hy1 hy2 rfl (by decide) _ _ _ rfl (hown.alloc _) _ _ _ _ _ rfl hnw (by intro u hu; simp at hu; rcases hu with rfl | rfl | rfl <;> rfl) (by simp only [maxLen]; omega) (by omega) (by simp; omega) ?_; intro v1 w1 hown1 hgb1 hor1)
        have hg1 : Grows w w1 := Below.grown (hgr.alloc _) hgb1 (hgr.alloc _).size (fun k hk => (hown.lt k hk).1)
        go_roundg (n - (k + 1))
        case measure => rw [HG.out]; omega
        case rel => exact ⟨k + 1, by go_num, by omega, rfl, by rw [HE.out, fileCells_append, List.length_append]; exact hown1, hg1⟩
    · have hkn : k = n := by omega
      subst hkn
      have k1 : ¬ ((k : Int) < k) := by omega
      go_wp2_with fail
      go_ret
      exact ⟨_, rfl, hown, hgr⟩
end Go.Proofs.YtakgddochbcjbaaDoor
namespace Go.Proofs.YtakgddochbcjbaaDoor
open Go.RowKit Go.Deep Go.MapKept Go.Shelf

theorem own_lower {w : World} {B B' e size n : Nat} {v : Value} {xs : List Value} (h : w.ownsRow B e size v n xs) (hB : B' ≤ B) : w.ownsRow B' e size v n xs := by
  refine ⟨h.1, ?_⟩
  rcases h.2 with h2 | ⟨g, cap, cur, hv, hb, rest⟩
  · exact .inl h2
  · exact .inr ⟨g, cap, cur, hv, Nat.le_trans hB hb, rest⟩

theorem Reads.takeF {w : World} {B n k : Nat} {A : Option Addr} {l : List FileB} (h : Reads w B 3 A n (fileCells l)) (hk : k ≤ n) : Reads w B 3 A k (fileCells (l.take k)) := by
  have hl := h.fileLen
  refine ⟨by rw [fileCells_len, List.length_take]; omega, fun h0 => ?_⟩
  obtain ⟨ad, e, hb, hc⟩ := h.2 (by omega)
  refine ⟨ad, e, hb, fun j u hu => hc j u ?_⟩
  have e2 : fileCells l = fileCells (l.take k) ++ fileCells (l.drop k) := by rw [← fileCells_append, List.take_append_drop]
  rw [e2, List.getElem?_append_left (List.getElem?_eq_some_iff.1 hu).1]
  exact hu
theorem Reads.dropF {w : World} {B n k c : Nat} {A : Option Addr} {l : List FileB} (h : Reads w B 3 A n (fileCells l)) (hk : k ≤ n) (hc : n ≤ c) : Reads w B 3 (if c = k then A else A.map (·.add (k * 3))) (n - k) (fileCells (l.drop k)) := by
  have hl := h.fileLen
  have := h.cut (k := k) (cap := c) hk hc
  have e : (fileCells l).drop (k * 3) = fileCells (l.drop k) := by
    have e2 : fileCells l = fileCells (l.take k) ++ fileCells (l.drop k) := by rw [← fileCells_append, List.take_append_drop]
    have e3 : (fileCells (l.take k)).length = k * 3 := by rw [fileCells_len, List.length_take]; omega
    rw [e2, List.drop_append_of_le_length (by omega), List.drop_eq_nil_of_le (by omega)]
    rfl
  rw [e] at this
  exact this
/-- a list with one more, where it belongs -/
def InsF (l : List FileB) (f : FileB) (L : List FileB) : Prop := ∃ k, k ≤ l.length ∧ (∀ j, j < k → lessT (fp l j) f.1 = true) ∧ (k < l.length → lessT (fp l k) f.1 = false) ∧ L = l.take k ++ [f] ++ l.drop k
set_option maxRecDepth 100000 in
set_option pp.deepTerms true in
set_option pp.maxSteps 1000000 in
set_option maxRecDepth 100000 in
set_option maxHeartbeats 4000000 in
theorem rsorted_any (B : Nat) (A : Option Addr) (n c : Nat) (l : List FileB) (f : FileB) (w : World) (h : Reads w B 3 A n (fileCells l)) (hB : B ≤ w.heap.size) (hn : n ≤ 1000000) (hc : n ≤ c) (hcM : c ≤ maxLen) :
    Calls Tryd.prog 74 #[.slice A n c, .agg #[.string f.1, .bool f.2.1, .string f.2.2]] w fun e w' => ∃ v, e = .returned v ∧ ∃ L, InsF l f L ∧ w'.ownsRow w.heap.size 57 3 v L.length (fileCells L) ∧ Grows w w' := by
  have HL := Lib.hid h.fileLen
  obtain ⟨t1, hj0, hy0, hy1, hy2⟩ := info_parts Tryd.infoFile
  obtain ⟨w1, hw1⟩ : ∃ w1, w1 = w.alloc (.cells #[.string f.1, .bool f.2.1, .string f.2.2] 57) := ⟨_, rfl⟩
  obtain ⟨R, hR⟩ : ∃ R, R = w.heap.size := ⟨_, rfl⟩
  have hg0 : Grows w w1 := by rw [hw1]; exact (Grows.refl w).alloc _
  have hb0 : Blk w1 R 57 #[.string f.1, .bool f.2.1, .string f.2.2] := by rw [hw1, hR]; exact Blk.new _ _ _
  have HX := Lib.hid h
  have HW := Lib.hid hw1
  have HRR := Lib.hid hR
  have HG0 := Lib.hid hg0
  have HB0 := Lib.hid hb0
  clear h hw1 hR hb0
  unfold maxLen at hcM
  go_enter Tryd.func74, Tryd.ntmps74
  go_wp2_with fail
  rw [← HW.out, ← HRR.out]
  clear HW HRR
  go_loopg [5] n (fun gk q wr => Grows w1 wr ∧ ∃ k : Nat, q = .int .i64 k ∧ k ≤ n ∧ gk = n - k ∧ ∀ j, j < k → lessT (fp l j) f.1 = true)
  case atStart => exact ⟨Grows.refl _, 0, rfl, by omega, rfl, fun j hj => absurd hj (Nat.not_lt_zero _)⟩
  case round =>
    obtain ⟨hgr, k, rfl, hk, hgk, hall⟩ := hrel
    have HG := Lib.hid hgk
    have HA := Lib.hid hall
    clear hgk hall
    have hb := Blk.growsF HB0.out hgr
    have c0 := hb.cell 0
    have c1 := hb.cell 1
    have c2 := hb.cell 2
    simp only [List.getElem?_toArray, List.getElem?_cons_succ, List.getElem?_cons_zero] at c0 c1 c2
    have hgw := hg0.trans hgr
    by_cases hgo : k < n ∧ lessT (fp l k) f.1 = true
    · obtain ⟨hlt, hls⟩ := hgo
      have k0 : (0 : Int) ≤ k := by omega
      have k1 : (k : Int) < n := by omega
      obtain ⟨ad, rfl, had, p0, p1, p2⟩ := (HX.out.grows hB hgw).file hlt
      have HS := Lib.hid (show ∀ j, j < k + 1 → lessT (fp l j) f.1 = true from fun j hj => by
        rcases Nat.lt_succ_iff_lt_or_eq.1 hj with h1 | rfl
        · exact HA.out j h1
        · exact hls)
      have hls' : Op.bytesLess (fp l k).toList f.1.toList = true := hls
      clear hls
      go_wp2_with fail
      go_quiet (fail)
      go_wp2_with fail
      go_roundg (n - (k + 1))
      case measure => rw [HG.out]; omega
      case rel => exact ⟨hgr.trans ((Grows.refl wr).drewN nq), k + 1, by go_num, by omega, rfl, HS.out⟩
    · have hno : k < n → lessT (fp l k) f.1 = false := fun h => by
        cases e : lessT (fp l k) f.1 with
        | false => rfl
        | true => exact absurd ⟨h, e⟩ hgo
      have HIN := Lib.hid (show InsF l f (l.take k ++ [f] ++ l.drop k) from ⟨k, by rw [HL.out]; exact hk, HA.out, fun h => hno (by rwa [HL.out] at h), rfl⟩)
      have HLE := Lib.hid (show k + 1 + (n - k) = (l.take k ++ [f] ++ l.drop k).length by simp [HL.out]; omega)
      have R1 := Lib.hid (HX.out.takeF hk)
      have R2 := Lib.hid (HX.out.dropF (c := c) hk hc)
      have k0 : (0 : Int) ≤ k := by omega
      have k2 : (k : Int) ≤ n := by omega
      have k3 : (n : Int) ≤ c := by omega
      have HNO := Lib.hid hno
      have HGW := Lib.hid hgw
      have HBB := Lib.hid hb
      clear hno hgo hb
      go_upto_region 4 with fail
      go_cut [5, 19] (fun s5 s19 wz => s5 = .int .i64 k ∧ s19 = .bool false ∧ Grows w wz ∧ Blk wz R 57 #[.string f.1, .bool f.2.1, .string f.2.2])
      case first =>
        by_cases hlt : k < n
        · have k1 : (k : Int) < n := by omega
          obtain ⟨ad, rfl, had, p0, p1, p2⟩ := (HX.out.grows hB HGW.out).file hlt
          have hls' : Op.bytesLess (fp l k).toList f.1.toList = false := HNO.out hlt
          go_wp2_with fail
          go_quiet (fail)
          go_wp2_with fail
          go_meet
          exact ⟨rfl, rfl, HGW.out.drewN nq, HBB.out.drewN nq⟩
        · have k1 : ¬ ((k : Int) < n) := by omega
          go_wp2_with fail
          go_quiet (fail)
          go_wp2_with fail
          go_meet
          exact ⟨rfl, rfl, HGW.out.drewN nq, HBB.out.drewN nq⟩
      case rest =>
        obtain ⟨rfl, rfl, hgz, hbz⟩ := hcut
        obtain ⟨S, hS⟩ : ∃ S : World → Prop, S = fun w' => Grows wc w' := ⟨_, rfl⟩
        have hSb : ∀ s : SW S, Grows wc s.w := fun s => by
          have := s.ok
          subst hS
          exact this
        have hS1 : ∀ s : SW S, s.w.cell? ⟨R, 0, none⟩ = some (.string f.1) := fun s => (Blk.growsF hbz (hSb s)).cell 0
        have hS2 : ∀ s : SW S, s.w.cell? ⟨R, 1, none⟩ = some (.bool f.2.1) := fun s => (Blk.growsF hbz (hSb s)).cell 1
        have hS3 : ∀ s : SW S, s.w.cell? ⟨R, 2, none⟩ = some (.string f.2.2) := fun s => (Blk.growsF hbz (hSb s)).cell 2
        have hSi : ∀ w', Grows wc w' → S w' := by rw [hS]; exact fun _ h => h
        have hgd : Grows wc wc.drew := (Grows.refl wc).drew
        have hS0 := hSi _ hgd
        have R1 := Lib.hid (R1.out.grows hB hgz)
        have R2 := Lib.hid (R2.out.grows hB hgz)
        have hB : B ≤ wc.heap.size := Nat.le_trans hB hgz.size
        have hzz := hgz.size
        have HGZ := Lib.hid hgz
        clear hS hSb hbz HG0 HB0 hg0 HBB HGW hgz
        haveI : Nonempty (SW S) := ⟨⟨_, hS0⟩⟩
        go_wp2_with fail
        refine wp_region_fre S 5 [([0, 1, 2, 4, 7, 8, 9], 3)] [([], 6), ([], 10)] [] [([], [11])] (by kernel_rfl) (fun _ _ _ _ _ h => h) (by kernel_rfl) hS0 ?_
        simp only [pickS, pickT, pickL, List.map_cons, List.map_nil, List.filterMap_cons, List.filterMap_nil, List.getElem?_cons_zero, List.getElem?_cons_succ]
        generalize wc.drew = wd at hgd hS0 ⊢
        refine wpFre_consK fun K1 hK1 K2 hK2 K hK => ?_
        repeat (show wpQuiet _ _ _ _ (_ :: _) _; go_big_quiet_step (fail))
        generalize (if c = k then A else Option.map (fun x => x.add (k * 3)) A) = A0 at R2 ⊢
        refine wpQuiet_nil (hK _ ?_ ?_)
        · clear hK K hK2 K2
          show wpList _ _ _ [_] _ _
          go_wp2_with fail
          have gl0 : Grows wd (wd.alloc (.cells #[.string f.1, .bool f.2.1, .string f.2.2] 57)) := (Grows.refl _).alloc _
          have hnw := (Blk.new wd 57 #[.string f.1, .bool f.2.1, .string f.2.2]).reads3f
          have gl : Grows wc (wd.alloc (.cells #[.string f.1, .bool f.2.1, .string f.2.2] 57)) := hgd.trans gl0
          generalize wd.alloc (.cells #[.string f.1, .bool f.2.1, .string f.2.2] 57) = wl at gl0 hnw gl ⊢
          refine hK1.out _ _ (hSi _ gl) ?_
          clear hK1 K1
          refine wpSeq_consK fun K2 hK2 K hK => ?_
          refine wpQuiet_nil (hK _ ?_)
          clear hK K
          show wpList _ _ _ [_] _ _
          go_wp2_with (at_builtin; refine wpList_append_any _ rfl (.const (.slice none 0 0)) (.tmp 24) _ rfl wc.heap.size 57 t1 _ 3 40 Tryd.underlying51 hj0 hy0 hy1 hy2 rfl (by decide) _ _ _ rfl (World.ownsRow_nil wl _ _ _) _ _ _ _ _ rfl (R1.out.grows hB gl) (fileCells_cell _) (by simp only [maxLen]; omega) (by omega) (gl.size) ?_; intro v1 wa o1 gb1 _)
          have ga : Grows wc wa := Below.grown gl gb1 gl.size (fun k hk => by cases hk)
          rw [List.nil_append, Nat.zero_add] at o1
          have hn2 := hnw.below (Below.grown (Below.refl wl.heap.size wl) gb1 (Nat.le_refl _) (fun k hk => by cases hk))
          refine hK2.out _ _ (hSi _ ga) ?_
          clear hK2 K2
          refine wpSeq_consK fun K2 hK2 K hK => ?_
          refine wpQuiet_nil (hK _ ?_)
          clear hK K
          show wpList _ _ _ [_] _ _
          go_wp2_with (at_builtin; refine wpList_append_any _ rfl (.tmp 25) (.tmp 27) _ rfl wc.heap.size 57 t1 _ 3 40 Tryd.underlying51 hj0 hy0 hy1 hy2 rfl (by decide) _ _ _ rfl (o1) _ _ _ _ _ rfl (hn2) (fileCells_cell [f]) (by simp only [maxLen]; omega) (by omega) (ga.size) ?_; intro v2 wb o2 gb2 _)
          have gb : Grows wc wb := Below.grown ga gb2 ga.size (fun k hk => (o1.lt k hk).1)
          rw [show [Value.string f.1, Value.bool f.2.1, Value.string f.2.2] = fileCells [f] from rfl, ← fileCells_append] at o2
          refine hK2.out _ _ (hSi _ gb) ?_
          clear hK2 K2
          refine wpSeq_consK fun K2 hK2 K hK => ?_
          refine wpQuiet_nil (hK _ ?_)
          clear hK K
          show wpList _ _ _ [_] _ _
          go_wp2_with (at_builtin; refine wpList_append_any _ rfl (.tmp 28) (.tmp 31) _ rfl wc.heap.size 57 t1 _ 3 40 Tryd.underlying51 hj0 hy0 hy1 hy2 rfl (by decide) _ _ _ rfl (o2) _ _ _ _ _ rfl (R2.out.grows hB gb) (fileCells_cell _) (by simp only [maxLen]; omega) (by omega) (gb.size) ?_; intro v3 wz o3 gb3 _)
          have gc : Grows wc wz := Below.grown gb gb3 gb.size (fun k hk => (o2.lt k hk).1)
          rw [← fileCells_append] at o3
          obtain ⟨A9, c9, rfl, _, _⟩ := own_form o3
          refine hK2.out _ _ (hSi _ gc) ?_
          clear hK2 K2
          refine wpSeq_nil (wpRest_K fun K hK => ?_)
          refine wpQuiet_nil (hK _ ?_)
          clear hK K
          refine wpSegs_consK fun K2 hK2 K hK => ?_
          refine wpQuiet_nil (hK _ ?_)
          clear hK K
          show wpList _ _ _ [_] _ _
          go_wp2_with fail
          refine hK2.out _ _ (wpSegs_nil ?_)
          clear hK2 K2
          go_wp2_with fail
          go_ret
          exact ⟨_, rfl, _, HIN.out, HLE.out ▸ own_lower o3 hzz, HGZ.out.trans gc⟩
        · clear hK K hK1 K1
          show wpList _ _ _ [_] _ _
          go_wp2_with (at_builtin; refine wpList_append_any _ rfl (.const (.slice none 0 0)) (.tmp 24) _ rfl wc.heap.size 57 t1 _ 3 40 Tryd.underlying51 hj0 hy0 hy1 hy2 rfl (by decide) _ _ _ rfl (World.ownsRow_nil wd _ _ _) _ _ _ _ _ rfl (R1.out.grows hB hgd) (fileCells_cell _) (by simp only [maxLen]; omega) (by omega) (hgd.size) ?_; intro v1 wa o1 gb1 _)
          have ga : Grows wc wa := Below.grown hgd gb1 hgd.size (fun k hk => by cases hk)
          rw [List.nil_append, Nat.zero_add] at o1
          refine hK2.out _ _ (hSi _ ga) ?_
          clear hK2 K2
          refine wpFre_nilK fun K1 hK1 => ?_
          show wpList _ _ _ [_] _ _
          go_wp2_with fail
          have gl0 : Grows wa (wa.alloc (.cells #[.string f.1, .bool f.2.1, .string f.2.2] 57)) := (Grows.refl _).alloc _
          have hnw := (Blk.new wa 57 #[.string f.1, .bool f.2.1, .string f.2.2]).reads3f
          have gl : Grows wc (wa.alloc (.cells #[.string f.1, .bool f.2.1, .string f.2.2] 57)) := ga.trans gl0
          generalize wa.alloc (.cells #[.string f.1, .bool f.2.1, .string f.2.2] 57) = wl at gl0 hnw gl ⊢
          have o1' := own_grows o1 gl0
          refine hK1.out _ _ (hSi _ gl) ?_
          clear hK1 K1
          refine wpSeq_consK fun K2 hK2 K hK => ?_
          refine wpQuiet_nil (hK _ ?_)
          clear hK K
          show wpList _ _ _ [_] _ _
          go_wp2_with (at_builtin; refine wpList_append_any _ rfl (.tmp 25) (.tmp 27) _ rfl wc.heap.size 57 t1 _ 3 40 Tryd.underlying51 hj0 hy0 hy1 hy2 rfl (by decide) _ _ _ rfl (o1') _ _ _ _ _ rfl (hnw) (fileCells_cell [f]) (by simp only [maxLen]; omega) (by omega) (gl.size) ?_; intro v2 wb o2 gb2 _)
          have gb : Grows wc wb := Below.grown gl gb2 gl.size (fun k hk => (o1'.lt k hk).1)
          rw [show [Value.string f.1, Value.bool f.2.1, Value.string f.2.2] = fileCells [f] from rfl, ← fileCells_append] at o2
          refine hK2.out _ _ (hSi _ gb) ?_
          clear hK2 K2
          refine wpSeq_consK fun K2 hK2 K hK => ?_
          refine wpQuiet_nil (hK _ ?_)
          clear hK K
          show wpList _ _ _ [_] _ _
          go_wp2_with (at_builtin; refine wpList_append_any _ rfl (.tmp 28) (.tmp 31) _ rfl wc.heap.size 57 t1 _ 3 40 Tryd.underlying51 hj0 hy0 hy1 hy2 rfl (by decide) _ _ _ rfl (o2) _ _ _ _ _ rfl (R2.out.grows hB gb) (fileCells_cell _) (by simp only [maxLen]; omega) (by omega) (gb.size) ?_; intro v3 wz o3 gb3 _)
          have gc : Grows wc wz := Below.grown gb gb3 gb.size (fun k hk => (o2.lt k hk).1)
          rw [← fileCells_append] at o3
          obtain ⟨A9, c9, rfl, _, _⟩ := own_form o3
          refine hK2.out _ _ (hSi _ gc) ?_
          clear hK2 K2
          refine wpSeq_nil (wpRest_K fun K hK => ?_)
          refine wpQuiet_nil (hK _ ?_)
          clear hK K
          refine wpSegs_consK fun K2 hK2 K hK => ?_
          refine wpQuiet_nil (hK _ ?_)
          clear hK K
          show wpList _ _ _ [_] _ _
          go_wp2_with fail
          refine hK2.out _ _ (wpSegs_nil ?_)
          clear hK2 K2
          go_wp2_with fail
          go_ret
          exact ⟨_, rfl, _, HIN.out, HLE.out ▸ own_lower o3 hzz, HGZ.out.trans gc⟩
end Go.Proofs.YtakgddochbcjbaaDoor
namespace Go.Proofs.YtakgddochbcjbaaDoor
open Go.RowKit Go.Deep Go.MapKept Go.Shelf

/-- yes or no -/
def BoolE (e : Ending) : Prop := ∃ b : Bool, e = .returned (.bool b)
/-- what the test of one file tells -/
def RgtR (l : List FileB) (i : Nat) (wr wz : World) (s3 s47 : Value) : Prop := ∃ b : Bool, s3 = .int .i64 i ∧ s47 = .bool b ∧ (b = false → (fp l i).size ≤ 100) ∧ Grows wr wz

set_option maxRecDepth 100000 in
set_option maxHeartbeats 1000000 in
theorem clashes_any (B : Nat) (A : Option Addr) (n c : Nat) (l : List FileB) (p : ByteArray) (w : World) (h : Reads w B 3 A n (fileCells l)) (hn : n ≤ 1000000) (hp : p.size ≤ 1000000) (hl : ∀ k, k < n → (fp l k).size ≤ 1000000) :
    Calls Tryd.prog 73 #[.slice A n c, .string p] w fun e w' => BoolE e ∧ w = w' := by
  have HX := Lib.hid h
  clear h
  go_enter Tryd.func73, Tryd.ntmps73
  go_wp2_with fail
  go_loopg [5] n (fun gk q wr => w = wr ∧ ∃ k : Nat, q = .int .i64 k ∧ k ≤ n ∧ gk = n - k)
  case atStart => exact ⟨rfl, 0, rfl, by omega, rfl⟩
  case round =>
    obtain ⟨rfl, k, rfl, hk, hgk⟩ := hrel
    have HG := Lib.hid hgk
    clear hgk
    by_cases hlt : k < n
    · have k0 : (0 : Int) ≤ k := by omega
      have k1 : (k : Int) < n := by omega
      obtain ⟨ad, rfl, had, p0, p1, p2⟩ := HX.out.file hlt
      have het := eqT_list (fp l k) p
      have hcl := rclash_any (fp l k) p w (hl k hlt) hp
      cases he : eqT (fp l k) p with
      | true =>
        rw [he] at het
        clear he
        go_wp2_with fail
        go_roundg (n - (k + 1))
        case measure => rw [HG.out]; omega
        case rel => exact ⟨rfl, k + 1, by go_num, by omega, rfl⟩
      | false =>
        rw [he] at het
        clear he
        cases hc : clashP (fp l k) p with
        | true =>
          rw [hc] at hcl
          go_wp2_with fail
          refine hcl.mono ?_
          rintro e _ ⟨rfl, rfl⟩
          go_wp2_with fail
          go_ret
          exact ⟨⟨true, rfl⟩, rfl⟩
        | false =>
          rw [hc] at hcl
          go_wp2_with fail
          refine hcl.mono ?_
          rintro e _ ⟨rfl, rfl⟩
          go_wp2_with fail
          go_roundg (n - (k + 1))
          case measure => rw [HG.out]; omega
          case rel => exact ⟨rfl, k + 1, by go_num, by omega, rfl⟩
    · have hkn : k = n := by omega
      subst hkn
      have k1 : ¬ ((k : Int) < k) := by omega
      go_wp2_with fail
      go_ret
      exact ⟨⟨false, rfl⟩, rfl⟩
theorem right_size {p : ByteArray} (h : rightP p = true) : p.size ≤ 100 := by
  unfold rightP at h
  simp only [Bool.and_eq_true, decide_eq_true_eq] at h
  exact h.1.2
set_option maxRecDepth 100000 in
set_option pp.deepTerms true in
set_option pp.maxSteps 1000000 in
set_option maxRecDepth 100000 in
set_option maxHeartbeats 4000000 in
theorem rright_any (B : Nat) (A : Option Addr) (n c : Nat) (l : List FileB) (w : World) (h : Reads w B 3 A n (fileCells l)) (hB : B ≤ w.heap.size) (hn : n ≤ 1000000) :
    Calls Tryd.prog 70 #[.slice A n c] w fun e w' => BoolE e ∧ Grows w w' := by
  have HX := Lib.hid h
  clear h
  by_cases hbig : 100 < n
  · have hbig' : (100 : Int) < n := by omega
    go_enter Tryd.func70, Tryd.ntmps70
    go_wp2_with fail
    go_ret
    exact ⟨⟨false, rfl⟩, Grows.refl _⟩
  · have hbig' : ¬ ((100 : Int) < n) := by omega
    go_enter Tryd.func70, Tryd.ntmps70
    go_wp2_with fail
    go_loopg [3] n (fun gk q wr => Grows w wr ∧ ∃ i : Nat, q = .int .i64 i ∧ i ≤ n ∧ gk = n - i ∧ ∀ j, j < i → (fp l j).size ≤ 100)
    case atStart => exact ⟨Grows.refl _, 0, rfl, by omega, rfl, fun j hj => absurd hj (Nat.not_lt_zero _)⟩
    case round =>
      obtain ⟨hgr, i, rfl, hi, hgi, hall⟩ := hrel
      have HG := Lib.hid hgi
      clear hgi
      by_cases hlt : i < n
      · have i0 : (0 : Int) ≤ i := by omega
        have i1 : (i : Int) < n := by omega
        have HF := Lib.hid (fun wx (hg : Grows wr wx) => (HX.out.grows hB (hgr.trans hg)))
        go_wp2_with fail
        go_upto_region 6 with fail
        go_cut [3, 47] (fun s3 s47 wz => RgtR l i wr wz s3 s47)
        case first =>
          obtain ⟨ad, rfl, had, p0, p1, p2⟩ := (HX.out.grows hB hgr).file hlt
          obtain ⟨S, hS⟩ : ∃ S : World → Prop, S = fun w' => Grows wr w' := ⟨_, rfl⟩
          have hSb : ∀ s : SW S, Grows wr s.w := fun s => by
            have := s.ok
            subst hS
            exact this
          have hS1 : ∀ s : SW S, s.w.cell? (ad.add (i * 3)) = some (.string (fp l i)) := fun s => ((HF.out _ (hSb s)).fileAt hlt).1
          have hS2 : ∀ s : SW S, s.w.cell? ⟨(ad.add (i * 3)).block, (ad.add (i * 3)).off + 2, none⟩ = some (.string (ft l i)) := fun s => ((HF.out _ (hSb s)).fileAt hlt).2.2
          have hS3 : 0 < i → ∀ s : SW S, s.w.cell? (ad.add ((i - 1) * 3)) = some (.string (fp l (i - 1))) := fun h0 s => ((HF.out _ (hSb s)).fileAt (show i - 1 < n by omega)).1
          have hSi : ∀ w', Grows wr w' → S w' := by rw [hS]; exact fun _ h => h
          have hgd : Grows wr wr.drew := (Grows.refl wr).drew
          have hS0 := hSi _ hgd
          clear hS hSb p0 p1 p2
          haveI : Nonempty (SW S) := ⟨⟨_, hS0⟩⟩
          have hpa := rpath_any (fp l i) wr.drew
          refine wp_region_seq S [([0, 1, 2, 3, 4], 5)] [6, 7, 8, 9, 10, 11, 12, 13, 14, 15, 16, 17, 18, 19, 20, 21, 22, 23, 24, 25, 26, 27, 28, 29, 30, 31, 32, 33] [] (by kernel_rfl) (fun _ _ _ _ _ h => h) (by kernel_rfl) hS0 ?_
          simp only [pickS, pickT, pickL, List.map_cons, List.map_nil, List.filterMap_cons, List.filterMap_nil, List.getElem?_cons_zero, List.getElem?_cons_succ]
          refine wpSeq_consK fun K2 hK2 K hK => ?_
          repeat (show wpQuiet _ _ _ _ (_ :: _) _; go_big_quiet_step (fail))
          refine wpQuiet_nil (hK _ ?_)
          clear hK K
          show wpList _ _ _ [_] _ _
          have HSZ := Lib.hid (right_size (p := fp l i))
          cases hP : rightP (fp l i) with
          | false =>
            rw [hP] at hpa
            go_wp2_with fail
            refine hpa.mono ?_
            rintro e w5 ⟨rfl, hg5⟩
            have hg6 := hgd.trans hg5
            go_wp2_with fail
            refine hK2.out _ _ (hSi _ hg6) ?_
            clear hK2 K2
            refine wpSeq_nil (wpRest_K fun K hK => ?_)
            repeat (show wpQuiet _ _ _ _ (_ :: _) _; go_big_quiet_step (fail))
            refine wpQuiet_nil (hK _ ?_)
            clear hK K
            refine wpSegs_nil ?_
            go_wp2_with fail
            go_meet
            exact ⟨true, rfl, rfl, (fun h => by cases h), hg6⟩
          | true =>
            rw [hP] at hpa
            have HP := Lib.hid hP
            clear hP
            by_cases hq : 20000 < (ft l i).size
            · have hq' : (20000 : Int) < (ft l i).size := by omega
              go_wp2_with fail
              refine hpa.mono ?_
              rintro e w5 ⟨rfl, hg5⟩
              have hg6 := hgd.trans hg5
              go_wp2_with fail
              refine hK2.out _ _ (hSi _ hg6) ?_
              clear hK2 K2
              refine wpSeq_nil (wpRest_K fun K hK => ?_)
              repeat (show wpQuiet _ _ _ _ (_ :: _) _; go_big_quiet_step (fail))
              refine wpQuiet_nil (hK _ ?_)
              clear hK K
              refine wpSegs_nil ?_
              go_wp2_with fail
              go_meet
              exact ⟨_, rfl, rfl, (fun _ => HSZ.out HP.out), hg6⟩
            · have hq' : decide ((20000 : Int) < (ft l i).size) = false := decide_eq_false (by omega)
              by_cases h0 : 0 < i
              · have h0' : (0 : Int) < i := by omega
                have hS4 := hS3 h0
                have e1 : ((i - 1 : Nat) : Int) = (i : Int) - 1 := by omega
                obtain ⟨m1, hm1⟩ : ∃ m1, m1 = i - 1 := ⟨_, rfl⟩
                rw [← hm1] at hS4 e1
                have hm2 : (i : Int) - 1 = m1 := e1.symm
                have hm3 : (m1 : Int) < n := by omega
                have hm4 : (0 : Int) ≤ m1 := by omega
                obtain ⟨b1, hb1⟩ : ∃ b, Op.bytesLess (fp l i).toList (fp l m1).toList = b := ⟨_, rfl⟩
                obtain ⟨b2, hb2⟩ : ∃ b, ((fp l i).toList == (fp l m1).toList) = b := ⟨_, rfl⟩
                obtain ⟨b3, hb3⟩ : ∃ b, Op.bytesLess (fp l m1).toList (fp l i).toList = b := ⟨_, rfl⟩
                clear hm1 e1 hS3
                go_wp2_with fail
                refine hpa.mono ?_
                rintro e w5 ⟨rfl, hg5⟩
                have hg6 := hgd.trans hg5
                go_wp2_with fail
                refine hK2.out _ _ (hSi _ hg6) ?_
                clear hK2 K2
                refine wpSeq_nil (wpRest_K fun K hK => ?_)
                repeat (show wpQuiet _ _ _ _ (_ :: _) _; go_big_quiet_step (fail))
                refine wpQuiet_nil (hK _ ?_)
                clear hK K
                refine wpSegs_nil ?_
                go_wp2_with fail
                go_meet
                exact ⟨_, rfl, rfl, (fun _ => HSZ.out HP.out), hg6⟩
              · have h0' : ¬ ((0 : Int) < i) := by omega
                go_wp2_with fail
                refine hpa.mono ?_
                rintro e w5 ⟨rfl, hg5⟩
                have hg6 := hgd.trans hg5
                go_wp2_with fail
                refine hK2.out _ _ (hSi _ hg6) ?_
                clear hK2 K2
                refine wpSeq_nil (wpRest_K fun K hK => ?_)
                repeat (show wpQuiet _ _ _ _ (_ :: _) _; go_big_quiet_step (fail))
                refine wpQuiet_nil (hK _ ?_)
                clear hK K
                refine wpSegs_nil ?_
                go_wp2_with fail
                go_meet
                exact ⟨_, rfl, rfl, (fun _ => HSZ.out HP.out), hg6⟩
        case rest =>
          obtain ⟨b, rfl, rfl, hsz, hgz⟩ := hcut
          cases b with
          | true =>
            go_wp2_with fail
            go_ret
            exact ⟨⟨false, rfl⟩, hgr.trans hgz⟩
          | false =>
            have hsi := hsz rfl
            have HF2 := Lib.hid (HX.out.grows hB (hgr.trans hgz))
            have HGZ := Lib.hid (hgr.trans hgz)
            clear hsz
            go_wp2_with fail
            go_loopg [4] i (fun gk q wy => Grows w wy ∧ ∃ k : Nat, q = .int .i64 k ∧ k ≤ i ∧ gk = i - k)
            case atStart => exact ⟨HGZ.out, 0, rfl, by omega, rfl⟩
            case round =>
              obtain ⟨hgy, k, rfl, hk, hgk⟩ := hrel
              have HK := Lib.hid hgk
              clear hgk
              by_cases hki : k < i
              · have k0 : (0 : Int) ≤ k := by omega
                have k1 : (k : Int) < i := by omega
                have k2 : (k : Int) < n := by omega
                have hlk := hall k hki
                obtain ⟨ad, rfl, had, p0, p1, p2⟩ := (HX.out.grows hB hgy).file hlt
                have p3 := ((HX.out.grows hB hgy).fileAt (show k < n by omega)).1
                clear p0 p1 p2 p3
                have HF3 := Lib.hid (fun wx (hg : Grows wr wx) => (HX.out.grows hB (hgy.trans hg)))
                obtain ⟨S, hS⟩ : ∃ S : World → Prop, S = fun w' => Grows wr w' := ⟨_, rfl⟩
                have hSb : ∀ s : SW S, Grows wr s.w := fun s => by
                  have := s.ok
                  subst hS
                  exact this
                have hS1 : ∀ s : SW S, s.w.cell? (ad.add (i * 3)) = some (.string (fp l i)) := fun s => ((HF3.out _ (hSb s)).fileAt hlt).1
                have hS2 : ∀ s : SW S, s.w.cell? (ad.add (k * 3)) = some (.string (fp l k)) := fun s => ((HF3.out _ (hSb s)).fileAt (show k < n by omega)).1
                have hSi : ∀ w', Grows wr w' → S w' := by rw [hS]; exact fun _ h => h
                have hgd : Grows wr wr.drew := (Grows.refl wr).drew
                have hS0 := hSi _ hgd
                clear hS hSb
                haveI : Nonempty (SW S) := ⟨⟨_, hS0⟩⟩
                have hcl := rclash_any (fp l k) (fp l i) wr.drew (by omega) (by omega)
                go_wp2_with fail
                refine wp_region_seq S [([0, 1, 2, 3, 4, 5, 6, 7, 8, 9], 10)] [] [] (by kernel_rfl) (fun _ _ _ _ _ h => h) (by kernel_rfl) hS0 ?_
                simp only [pickS, pickT, pickL, List.map_cons, List.map_nil, List.filterMap_cons, List.filterMap_nil, List.getElem?_cons_zero, List.getElem?_cons_succ]
                refine wpSeq_consK fun K2 hK2 K hK => ?_
                repeat (show wpQuiet _ _ _ _ (_ :: _) _; go_big_quiet_step (fail))
                refine wpQuiet_nil (hK _ ?_)
                clear hK K
                show wpList _ _ _ [_] _ _
                cases hc : clashP (fp l k) (fp l i) with
                | true =>
                  rw [hc] at hcl
                  clear hc
                  go_wp2_with fail
                  refine hcl.mono ?_
                  rintro e _ ⟨rfl, rfl⟩
                  go_wp2_with fail
                  refine hK2.out _ _ hS0 ?_
                  clear hK2 K2
                  refine wpSeq_nil (wpRest_K fun K hK => ?_)
                  refine wpQuiet_nil (hK _ ?_)
                  clear hK K
                  refine wpSegs_nil ?_
                  go_wp2_with fail
                  go_ret
                  exact ⟨⟨false, rfl⟩, hgy.trans hgd⟩
                | false =>
                  rw [hc] at hcl
                  clear hc
                  go_wp2_with fail
                  refine hcl.mono ?_
                  rintro e _ ⟨rfl, rfl⟩
                  go_wp2_with fail
                  refine hK2.out _ _ hS0 ?_
                  clear hK2 K2
                  refine wpSeq_nil (wpRest_K fun K hK => ?_)
                  refine wpQuiet_nil (hK _ ?_)
                  clear hK K
                  refine wpSegs_nil ?_
                  go_wp2_with fail
                  go_roundg (i - (k + 1))
                  case measure => rw [HK.out]; omega
                  case rel => exact ⟨hgy.trans hgd, k + 1, by go_num, by omega, rfl⟩
              · have hke : k = i := by omega
                subst hke
                have k1 : ¬ ((k : Int) < k) := by omega
                go_wp2_with fail
                go_roundg (n - (k + 1))
                case measure => rw [HG.out]; omega
                case rel => exact ⟨hgy, k + 1, by go_num, by omega, rfl, fun j hj => by
                  rcases Nat.lt_succ_iff_lt_or_eq.1 hj with h1 | rfl
                  · exact hall j h1
                  · exact hsi⟩
      · have hin : i = n := by omega
        subst hin
        have i1 : ¬ ((i : Int) < i) := by omega
        go_wp2_with fail
        go_ret
        exact ⟨⟨true, rfl⟩, hgr⟩
end Go.Proofs.YtakgddochbcjbaaDoor
namespace Go.Proofs.YtakgddochbcjbaaDoor
open Go.RowKit Go.Deep Go.MapKept Go.Shelf

/-- what Put answers -/
def PutE (l : List FileB) (f : FileB) (B : Nat) (w' : World) (e : Ending) : Prop :=
  ∃ v, ∃ en : Int, e = .returned (.tuple #[v, .int .i64 en]) ∧ ((v = .slice none 0 0 ∧ en ≠ 0) ∨ (en = 0 ∧ rightP f.1 = true ∧ f.2.2.size ≤ 20000 ∧ ∃ L, InsF (withoutTo l f.1 l.length) f L ∧ w'.ownsRow B 57 3 v L.length (fileCells L)))
theorem PutE.none {l : List FileB} {f : FileB} {B : Nat} {w' : World} (en : Int) (h : en ≠ 0) : PutE l f B w' (.returned (.tuple #[.slice none 0 0, .int .i64 en])) := ⟨_, en, rfl, .inl ⟨rfl, h⟩⟩
set_option maxRecDepth 100000 in
set_option pp.deepTerms true in
set_option pp.maxSteps 1000000 in
set_option maxRecDepth 100000 in
set_option maxHeartbeats 4000000 in
theorem rput_any (B : Nat) (A : Option Addr) (n c : Nat) (l : List FileB) (f : FileB) (w : World) (h : Reads w B 3 A n (fileCells l)) (hB : B ≤ w.heap.size) (hn : n ≤ 1000000) (hl : ∀ k, k < n → (fp l k).size ≤ 100) :
    Calls Tryd.prog 38 #[.slice A n c, .agg #[.string f.1, .bool f.2.1, .string f.2.2]] w fun e w' => PutE l f w.heap.size w' e ∧ Grows w w' := by
  have HL := Lib.hid h.fileLen
  obtain ⟨w1, hw1⟩ : ∃ w1, w1 = w.alloc (.cells #[.string f.1, .bool f.2.1, .string f.2.2] 57) := ⟨_, rfl⟩
  obtain ⟨R, hR⟩ : ∃ R, R = w.heap.size := ⟨_, rfl⟩
  have hg0 : Grows w w1 := by rw [hw1]; exact (Grows.refl w).alloc _
  have hb0 : Blk w1 R 57 #[.string f.1, .bool f.2.1, .string f.2.2] := by rw [hw1, hR]; exact Blk.new _ _ _
  have HX := Lib.hid h
  have HW := Lib.hid hw1
  have HRR := Lib.hid hR
  have HG0 := Lib.hid hg0
  have HB0 := Lib.hid hb0
  have C := Lib.hid (fun (w' : World) (hg : Grows w1 w') => (Blk.growsF hb0 hg))
  clear h hw1 hR hb0
  go_enter Tryd.func38, Tryd.ntmps38
  go_wp2_with fail
  rw [← HW.out, ← HRR.out]
  clear HW
  have hb := C.out _ (Grows.refl w1)
  have c0 := hb.cell 0
  have c1 := hb.cell 1
  have c2 := hb.cell 2
  simp only [List.getElem?_toArray, List.getElem?_cons_succ, List.getElem?_cons_zero] at c0 c1 c2
  clear hb
  go_wp2_with fail
  refine (rright_any B A n c l w1 (HX.out.grows hB HG0.out) (Nat.le_trans hB HG0.out.size) hn).mono ?_
  rintro e w2 ⟨⟨b, rfl⟩, hg2⟩
  clear c0 c1 c2
  cases b with
  | false =>
    go_wp2_with fail
    go_ret2
    exact ⟨PutE.none 5 (by decide), HG0.out.trans hg2⟩
  | true =>
    have hb := C.out _ hg2
    have c0 := hb.cell 0
    have c1 := hb.cell 1
    have c2 := hb.cell 2
    simp only [List.getElem?_toArray, List.getElem?_cons_succ, List.getElem?_cons_zero] at c0 c1 c2
    clear hb
    go_wp2_with fail
    refine (rpath_any f.1 w2).mono ?_
    clear c0 c1 c2
    obtain ⟨bp, hbp⟩ : ∃ b, rightP f.1 = b := ⟨_, rfl⟩
    have HPT := Lib.hid hbp
    rw [hbp]
    clear hbp
    rintro e w3 ⟨rfl, hg3'⟩
    have hg3 := hg2.trans hg3'
    clear hg3' hg2
    cases bp with
    | false =>
      go_wp2_with fail
      go_ret2
      exact ⟨PutE.none 11 (by decide), HG0.out.trans hg3⟩
    | true =>
      by_cases hsz : 20000 < f.2.2.size
      · have hsz' : (20000 : Int) < f.2.2.size := by omega
        have hb := C.out _ hg3
        have c0 := hb.cell 0
        have c1 := hb.cell 1
        have c2 := hb.cell 2
        simp only [List.getElem?_toArray, List.getElem?_cons_succ, List.getElem?_cons_zero] at c0 c1 c2
        clear hb
        go_wp2_with fail
        go_ret2
        exact ⟨PutE.none 6 (by decide), HG0.out.trans hg3⟩
      · have hsz' : ¬ ((20000 : Int) < f.2.2.size) := by omega
        have hb := C.out _ hg3
        have c0 := hb.cell 0
        have c1 := hb.cell 1
        have c2 := hb.cell 2
        simp only [List.getElem?_toArray, List.getElem?_cons_succ, List.getElem?_cons_zero] at c0 c1 c2
        clear hb
        go_wp2_with fail
        clear c0 c1 c2
        refine (rfind_any B A n c l f.1 w3 (HX.out.grows hB (HG0.out.trans hg3)) (Nat.le_trans hB (HG0.out.trans hg3).size) hn).mono ?_
        rintro e w4 ⟨⟨g, rfl, -⟩, hg4'⟩
        have hg4 := (hg3.trans hg4').trans ((Grows.refl w4).alloc (.cells #[.string g.1, .bool g.2.1, .string g.2.2] 57))
        clear hg4' hg3
        have hb := C.out _ hg4
        have c0 := hb.cell 0
        have c1 := hb.cell 1
        have c2 := hb.cell 2
        simp only [List.getElem?_toArray, List.getElem?_cons_succ, List.getElem?_cons_zero] at c0 c1 c2
        clear hb
        go_wp2_with fail
        clear c0 c1 c2
        generalize w4.alloc (.cells #[.string g.1, .bool g.2.1, .string g.2.2] 57) = w4 at hg4 ⊢
        refine (without_any B A n c l f.1 w4 (HX.out.grows hB (HG0.out.trans hg4)) (Nat.le_trans hB (HG0.out.trans hg4).size) hn).mono ?_
        rintro e w5 ⟨v, rfl, hown, hg5'⟩
        have hg5 := hg4.trans hg5'
        have HO := Lib.hid (own_lower hown (Nat.le_trans HG0.out.size hg4.size))
        have HBS := Lib.hid (Nat.le_trans HG0.out.size hg5.size)
        clear hg5' hg4
        obtain ⟨A2, c2', rfl, hc1, hc2⟩ := own_form hown
        clear hown
        have hwl := withoutTo_len l f.1 n
        generalize hasF l f.1 = hs
        cases hs with
        | true =>
          have hb := C.out _ hg5
          have c0 := hb.cell 0
          have c1 := hb.cell 1
          have c2 := hb.cell 2
          simp only [List.getElem?_toArray, List.getElem?_cons_succ, List.getElem?_cons_zero] at c0 c1 c2
          clear hb
          go_wp2_with fail
          clear c0 c1 c2
          refine (rsorted_any _ A2 _ c2' _ f _ (Reads.of_own (own_grows HO.out (by first | exact Grows.refl _ | assumption))) (Nat.le_refl _) (by omega) hc1 hc2).mono ?_
          rintro e w6 ⟨v, rfl, L, hin, ho6, hg6⟩
          go_wp2_with fail
          go_ret2
          exact ⟨⟨v, 0, rfl, .inr ⟨rfl, HPT.out, by omega, L, by rw [HL.out]; exact hin, own_lower ho6 (by have := HBS.out; first | exact this | exact Nat.le_trans this (Grows.size (by assumption)))⟩⟩, HG0.out.trans (hg5.trans hg6)⟩
        | false =>
          have hb := C.out _ hg5
          have c0 := hb.cell 0
          have c1 := hb.cell 1
          have c2 := hb.cell 2
          simp only [List.getElem?_toArray, List.getElem?_cons_succ, List.getElem?_cons_zero] at c0 c1 c2
          clear hb
          go_wp2_with fail
          clear c0 c1 c2
          refine (clashes_any B A n c l f.1 w5 (HX.out.grows hB (HG0.out.trans hg5)) hn (by have := right_size HPT.out; omega) (fun k hk => by have := hl k hk; omega)).mono ?_
          rintro e _ ⟨⟨b, rfl⟩, rfl⟩
          cases b with
          | true =>
            go_wp2_with fail
            go_ret2
            exact ⟨PutE.none 11 (by decide), HG0.out.trans hg5⟩
          | false =>
            by_cases hbig : 100 ≤ n
            · have hbig' : (100 : Int) ≤ n := by omega
              go_wp2_with fail
              go_ret2
              exact ⟨PutE.none 6 (by decide), HG0.out.trans hg5⟩
            · have hbig' : ¬ ((100 : Int) ≤ n) := by omega
              have hb := C.out _ hg5
              have c0 := hb.cell 0
              have c1 := hb.cell 1
              have c2 := hb.cell 2
              simp only [List.getElem?_toArray, List.getElem?_cons_succ, List.getElem?_cons_zero] at c0 c1 c2
              clear hb
              go_wp2_with fail
              clear c0 c1 c2
              refine (rsorted_any _ A2 _ c2' _ f _ (Reads.of_own (own_grows HO.out (by first | exact Grows.refl _ | assumption))) (Nat.le_refl _) (by omega) hc1 hc2).mono ?_
              rintro e w6 ⟨v, rfl, L, hin, ho6, hg6⟩
              go_wp2_with fail
              go_ret2
              exact ⟨⟨v, 0, rfl, .inr ⟨rfl, HPT.out, by omega, L, by rw [HL.out]; exact hin, own_lower ho6 (by have := HBS.out; first | exact this | exact Nat.le_trans this (Grows.size (by assumption)))⟩⟩, HG0.out.trans (hg5.trans hg6)⟩

/-- what Drop answers -/
def DropE (l : List FileB) (p : ByteArray) (B : Nat) (w' : World) (e : Ending) : Prop :=
  ∃ v, ∃ en : Int, e = .returned (.tuple #[v, .int .i64 en]) ∧ ((v = .slice none 0 0 ∧ en ≠ 0) ∨ (en = 0 ∧ w'.ownsRow B 57 3 v (withoutTo l p l.length).length (fileCells (withoutTo l p l.length))))
theorem DropE.none {l : List FileB} {p : ByteArray} {B : Nat} {w' : World} (en : Int) (h : en ≠ 0) : DropE l p B w' (.returned (.tuple #[.slice none 0 0, .int .i64 en])) := ⟨_, en, rfl, .inl ⟨rfl, h⟩⟩
set_option maxRecDepth 100000 in
set_option maxHeartbeats 4000000 in
theorem rdrop_any (B : Nat) (A : Option Addr) (n c : Nat) (l : List FileB) (p : ByteArray) (w : World) (h : Reads w B 3 A n (fileCells l)) (hB : B ≤ w.heap.size) (hn : n ≤ 1000000) :
    Calls Tryd.prog 37 #[.slice A n c, .string p] w fun e w' => DropE l p w.heap.size w' e ∧ Grows w w' := by
  have HL := Lib.hid h.fileLen
  have HX := Lib.hid h
  clear h
  go_enter Tryd.func37, Tryd.ntmps37
  go_wp2_with fail
  refine (rright_any B A n c l w HX.out hB hn).mono ?_
  rintro e w2 ⟨⟨b, rfl⟩, hg2⟩
  cases b with
  | false =>
    go_wp2_with fail
    go_ret2
    exact ⟨DropE.none 5 (by decide), hg2⟩
  | true =>
    go_wp2_with fail
    refine (rfind_any B A n c l p w2 (HX.out.grows hB hg2) (Nat.le_trans hB hg2.size) hn).mono ?_
    rintro e w4 ⟨⟨g, rfl, -⟩, hg4'⟩
    have hg4 := (hg2.trans hg4').trans ((Grows.refl w4).alloc (.cells #[.string g.1, .bool g.2.1, .string g.2.2] 57))
    clear hg4' hg2
    generalize hasF l p = hs
    cases hs with
    | false =>
      go_wp2_with fail
      go_ret2
      exact ⟨DropE.none 8 (by decide), hg4⟩
    | true =>
      go_wp2_with fail
      generalize w4.alloc (.cells #[.string g.1, .bool g.2.1, .string g.2.2] 57) = w4 at hg4 ⊢
      refine (without_any B A n c l p w4 (HX.out.grows hB hg4) (Nat.le_trans hB hg4.size) hn).mono ?_
      rintro e w5 ⟨v, rfl, hown, hg5'⟩
      go_wp2_with fail
      go_ret2
      exact ⟨⟨v, 0, rfl, .inr ⟨rfl, by rw [HL.out]; exact own_lower hown hg4.size⟩⟩, hg4.trans hg5'⟩
end Go.Proofs.YtakgddochbcjbaaDoor
namespace Go.Proofs.YtakgddochbcjbaaDoor
open Go.RowKit Go.Deep Go.MapKept Go.Shelf

/-- a tree: paths rise; small -/
def TreeOK (l : List FileB) : Prop := l.Pairwise (fun x y => lessT x.1 y.1 = true) ∧ ∀ x ∈ l, x.1.size ≤ 100 ∧ x.2.2.size ≤ 2000
theorem TreeOK.nil : TreeOK [] := ⟨.nil, fun x h => by cases h⟩
theorem withoutTo_eq (l : List FileB) (p : ByteArray) : ∀ k, k ≤ l.length → withoutTo l p k = (l.take k).filter (fun x => !eqT x.1 p)
  | 0, _ => by simp [withoutTo]
  | k + 1, h => by
    have hk : k < l.length := by omega
    have e : l.take (k + 1) = l.take k ++ [gf l k] := by
      rw [List.take_add_one, List.getElem?_eq_getElem hk]
      simp [gf, List.getD, List.getElem?_eq_getElem hk]
    rw [e, List.filter_append, ← withoutTo_eq l p k (by omega), withoutTo]
    cases h1 : eqT (fp l k) p with
    | true => rw [if_pos rfl]; simp [show eqT (gf l k).1 p = true from h1]
    | false => rw [if_neg (by simp)]; simp [show eqT (gf l k).1 p = false from h1]
theorem gf_mem {l : List FileB} {k : Nat} (h : k < l.length) : gf l k ∈ l := by
  simp [gf, List.getD, List.getElem?_eq_getElem h]
theorem mem_gf {l : List FileB} {x : FileB} (h : x ∈ l) : ∃ k, k < l.length ∧ gf l k = x := by
  obtain ⟨k, hk, e⟩ := List.getElem_of_mem h
  exact ⟨k, hk, by simp [gf, List.getD, List.getElem?_eq_getElem hk, e]⟩
theorem TreeOK.without {l : List FileB} (h : TreeOK l) (p : ByteArray) : TreeOK (withoutTo l p l.length) ∧ (∀ x, x ∈ withoutTo l p l.length ↔ x ∈ l ∧ eqT x.1 p = false) := by
  rw [withoutTo_eq l p _ (Nat.le_refl _), List.take_length]
  refine ⟨⟨h.1.filter _, fun x hx => h.2 x (List.mem_filter.1 hx).1⟩, fun x => ?_⟩
  rw [List.mem_filter, Bool.not_eq_true']
theorem InsF.tree {l : List FileB} {f : FileB} {L : List FileB} (h : InsF l f L) (hl : TreeOK l) (hne : ∀ x ∈ l, eqT x.1 f.1 = false) (h1 : f.1.size ≤ 100) (h2 : f.2.2.size ≤ 2000) : TreeOK L := by
  obtain ⟨k, hk, ha, hb, rfl⟩ := h
  have e := List.take_append_drop k l
  have hp := hl.1
  rw [← e, List.pairwise_append] at hp
  obtain ⟨p1, p2, p3⟩ := hp
  have q1 : ∀ x ∈ l.take k, lessT x.1 f.1 = true := fun x hx => by
    obtain ⟨j, hj, e1⟩ := List.getElem_of_mem hx
    have hj' : j < k := by rw [List.length_take] at hj; omega
    have := ha j hj'
    have hjl : j < l.length := by omega
    rw [List.getElem_take] at e1
    rw [fp, gf, List.getD, List.getElem?_eq_getElem hjl] at this
    rw [← e1]
    exact this
  have q2 : ∀ y ∈ l.drop k, lessT f.1 y.1 = true := fun y hy => by
    obtain ⟨j, hj, e1⟩ := List.getElem_of_mem hy
    rw [List.length_drop] at hj
    have hkl : k < l.length := by omega
    have h3 := hb hkl
    have h4 := hne _ (gf_mem hkl)
    have h5 : lessT f.1 (fp l k) = true := by
      cases h6 : lessT f.1 (fp l k) with
      | true => rfl
      | false =>
        have h7 := lessT_tri h3 h6
        rw [show (gf l k).1 = fp l k from rfl, h7, eqT, decide_eq_false_iff_not] at h4
        exact absurd rfl h4
    rw [List.getElem_drop] at e1
    rcases Nat.eq_zero_or_pos j with rfl | hj0
    · rw [fp, gf, List.getD, List.getElem?_eq_getElem hkl] at h5
      rw [← e1]
      exact h5
    · have h6 := List.pairwise_iff_getElem.1 hl.1 k (k + j) hkl (by omega) (by omega)
      rw [fp, gf, List.getD, List.getElem?_eq_getElem hkl] at h5
      rw [← e1]
      exact lessT_trans h5 h6
  refine ⟨?_, fun x hx => ?_⟩
  · rw [List.append_assoc, List.pairwise_append]
    refine ⟨p1, ?_, fun x hx y hy => ?_⟩
    · rw [List.singleton_append, List.pairwise_cons]
      exact ⟨q2, p2⟩
    · rw [List.singleton_append, List.mem_cons] at hy
      rcases hy with rfl | hy
      · exact q1 x hx
      · exact p3 x hx y hy
  · rw [List.append_assoc, List.singleton_append, List.mem_append, List.mem_cons] at hx
    rcases hx with hx | rfl | hx
    · exact hl.2 x (List.mem_of_mem_take hx)
    · exact ⟨h1, h2⟩
    · exact hl.2 x (List.mem_of_mem_drop hx)
theorem InsF.len {l : List FileB} {f : FileB} {L : List FileB} (h : InsF l f L) : L.length = l.length + 1 := by
  obtain ⟨k, hk, _, _, rfl⟩ := h
  simp
  omega
theorem TreeOK.put {l : List FileB} {f : FileB} {L : List FileB} (hl : TreeOK l) (h : InsF (withoutTo l f.1 l.length) f L) (h1 : f.1.size ≤ 100) (h2 : f.2.2.size ≤ 2000) : TreeOK L ∧ L.length ≤ l.length + 1 := by
  obtain ⟨t1, t2⟩ := hl.without f.1
  refine ⟨h.tree t1 (fun x hx => ((t2 x).1 hx).2) h1 h2, ?_⟩
  have := withoutTo_len l f.1 l.length
  rw [h.len]
  omega
set_option maxRecDepth 100000 in
set_option pp.deepTerms true in
set_option pp.maxSteps 1000000 in
set_option maxRecDepth 100000 in
set_option maxHeartbeats 4000000 in
theorem rtree_any (B : Nat) (A : Option Addr) (n c : Nat) (l : List FileB) (w : World) (h : Reads w B 3 A n (fileCells l)) (hB : B ≤ w.heap.size) (hn : n ≤ 1000000) :
    Calls Tryd.prog 33 #[.slice A n c] w fun e w' => ∃ v, e = .returned v ∧ ∃ a, TreeOK a ∧ a.length ≤ 30 ∧ w'.ownsRow w.heap.size 57 3 v a.length (fileCells a) ∧ Grows w w' := by
  have HL := Lib.hid h.fileLen
  have HX := Lib.hid h
  clear h
  go_enter Tryd.func33, Tryd.ntmps33
  go_wp2_with fail
  go_loopg [3, 4] n (fun gk q3 q4 wr => Grows w wr ∧ ∃ i : Nat, q4 = .int .i64 i ∧ i ≤ n ∧ i ≤ 30 ∧ gk = n - i ∧ ∃ a, TreeOK a ∧ a.length ≤ i ∧ wr.ownsRow w.heap.size 57 3 q3 a.length (fileCells a))
  case atStart => exact ⟨Grows.refl _, 0, rfl, by omega, by omega, rfl, [], TreeOK.nil, Nat.le_refl _, World.ownsRow_nil _ _ _ _⟩
  case round =>
    obtain ⟨hgr, i, rfl, hi, hi30, hgk, a, ha, hal, ho⟩ := hrel
    have HG := Lib.hid hgk
    have HO := Lib.hid ho
    have HA := Lib.hid ha
    obtain ⟨A2, c2, rfl, hc1, hc2⟩ := own_form ho
    clear hgk ho ha
    by_cases hlt : i < n
    · have i0 : (0 : Int) ≤ i := by omega
      have i1 : (i : Int) < n := by omega
      by_cases h30 : i < 30
      · have i3 : (i : Int) < 30 := by omega
        obtain ⟨ad, rfl, had, p0, p1, p2⟩ := (HX.out.grows hB hgr).file hlt
        by_cases hsz : 2000 < (ft l i).size
        · have hsz' : (2000 : Int) < (ft l i).size := by omega
          go_wp2_with fail
          go_roundg (n - (i + 1))
          case measure => rw [HG.out]; omega
          case rel => exact ⟨hgr, i + 1, by go_num, by omega, by omega, rfl, a, HA.out, by omega, HO.out⟩
        · have hsz' : ¬ ((2000 : Int) < (ft l i).size) := by omega
          have hput := rput_any wr.heap.size A2 a.length c2 a (gf l i) wr (Reads.of_own HO.out) (Nat.le_refl _) (by omega) (fun k hk => (HA.out.2 _ (gf_mem hk)).1)
          rw [show (gf l i).1 = fp l i from rfl, show (gf l i).2.1 = fx l i from rfl, show (gf l i).2.2 = ft l i from rfl] at hput
          go_wp2_with fail
          refine hput.mono ?_
          rintro e w2 ⟨⟨v, en, rfl, hv⟩, hg2⟩
          by_cases hen : en = 0
          · subst hen
            rcases hv with ⟨-, h0⟩ | ⟨-, hr, hs, L, hin, hoL⟩
            · exact absurd rfl h0
            have hT := HA.out.put (f := gf l i) hin (right_size hr) (by show (ft l i).size ≤ 2000; omega)
            have HT := Lib.hid hT
            have HOL := Lib.hid (own_lower hoL hgr.size)
            clear hT hoL hin hr hs
            go_wp2_with fail
            go_roundg (n - (i + 1))
            case measure => rw [HG.out]; omega
            case rel => exact ⟨hgr.trans hg2, i + 1, by go_num, by omega, by omega, rfl, L, HT.out.1, by have := HT.out.2; omega, HOL.out⟩
          · have hen' : decide (en = 0) = false := decide_eq_false hen
            clear hv
            go_wp2_with fail
            go_roundg (n - (i + 1))
            case measure => rw [HG.out]; omega
            case rel => exact ⟨hgr.trans hg2, i + 1, by go_num, by omega, by omega, rfl, a, HA.out, by omega, own_grows HO.out hg2⟩
      · have i3 : ¬ ((i : Int) < 30) := by omega
        go_wp2_with fail
        go_ret
        exact ⟨_, rfl, a, HA.out, by omega, HO.out, hgr⟩
    · have hin : i = n := by omega
      subst hin
      have i1 : ¬ ((i : Int) < i) := by omega
      go_wp2_with fail
      go_ret
      exact ⟨_, rfl, a, HA.out, by omega, HO.out, hgr⟩

set_option maxRecDepth 100000 in
set_option maxHeartbeats 1000000 in
theorem few_any (B : Nat) (A : Option Addr) (n c : Nat) (l : List FileB) (w : World) (h : Reads w B 3 A n (fileCells l)) (hn : n ≤ maxLen) :
    Calls Tryd.prog 32 #[.slice A n c] w fun e w' => (BoolE e ∧ (20 < n → e = .returned (.bool false))) ∧ w = w' := by
  have HX := Lib.hid h
  clear h
  unfold maxLen at hn
  go_enter Tryd.func32, Tryd.ntmps32
  go_wp2_with fail
  go_loopg [3, 4] n (fun gk q3 q4 wr => w = wr ∧ ∃ i : Nat, q4 = .int .i64 i ∧ i ≤ n ∧ gk = n - i ∧ ∃ x : Int, q3 = .int .i64 x)
  case atStart => exact ⟨rfl, 0, rfl, by omega, rfl, 0, rfl⟩
  case round =>
    obtain ⟨rfl, i, rfl, hi, hgk, x, rfl⟩ := hrel
    have HG := Lib.hid hgk
    clear hgk
    by_cases hlt : i < n
    · have i0 : (0 : Int) ≤ i := by omega
      have i1 : (i : Int) < n := by omega
      obtain ⟨ad, rfl, had, p0, p1, p2⟩ := HX.out.file hlt
      go_wp2_with fail
      go_roundg (n - (i + 1))
      case measure => rw [HG.out]; omega
      case rel => exact ⟨rfl, i + 1, by go_num, by omega, rfl, _, rfl⟩
    · have hin : i = n := by omega
      subst hin
      have i1 : ¬ ((i : Int) < i) := by omega
      by_cases h20 : i ≤ 20
      · have i2 : (i : Int) ≤ 20 := by omega
        go_wp2_with fail
        go_ret
        exact ⟨⟨⟨_, rfl⟩, fun h => absurd h (by omega)⟩, rfl⟩
      · have i2 : decide ((i : Int) ≤ 20) = false := decide_eq_false (by omega)
        go_wp2_with fail
        go_ret
        exact ⟨⟨⟨_, rfl⟩, fun _ => rfl⟩, rfl⟩
end Go.Proofs.YtakgddochbcjbaaDoor
