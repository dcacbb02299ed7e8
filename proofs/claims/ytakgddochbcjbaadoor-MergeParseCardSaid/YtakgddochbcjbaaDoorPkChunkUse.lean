/- Clean and Merged: the program's and the document's. -/
import Derived.Test.YtakgddochbcjbaaDoorPkChunks
namespace Go.Proofs.YtakgddochbcjbaaDoor
open Go.RowKit Go.Deep Go.MapKept

theorem gch_some {l : List ChkB} {k : Nat} (h : k < l.length) : l[k]? = some (gch l k) := by simp [gch, h]
theorem take_gch {l : List ChkB} {k : Nat} (h : k < l.length) : l.take (k + 1) = l.take k ++ [gch l k] := by
  rw [List.take_succ_eq_append_getElem h]
  simp [gch, h]
theorem clean_take {l : List ChkB} {k : Nat} (h : k < l.length) : cleanC (l.take (k + 1)) = (cleanC (l.take k) && ((gch l k).1 != 5)) := by
  rw [take_gch h, clean_app]
  simp [cleanC]
theorem clean_false {l : List ChkB} {k : Nat} (h : k < l.length) (h5 : (gch l k).1 = 5) : cleanC l = false := by
  unfold cleanC
  rw [List.all_eq_false]
  exact ⟨gch l k, List.mem_of_getElem? (gch_some h), by simp [h5]⟩
theorem merge_take {l : List ChkB} {k : Nat} (h : k < l.length) : mergeC (l.take (k + 1)) = mergeC (l.take k) ++ (if (gch l k).1 = 3 then (gch l k).2.2.2 else (gch l k).2.2.1) := by
  rw [take_gch h, merge_app]
  simp [mergeC]

set_option maxRecDepth 100000 in
set_option maxHeartbeats 400000 in
theorem clash_any (k : Int) (v1 v2 v3 : Value) (A1 A2 A3 : Option Addr) (n1 n2 n3 c1 c2 c3 : Nat) (w : World) (h1 : v1 = .slice A1 n1 c1) (h2 : v2 = .slice A2 n2 c2) (h3 : v3 = .slice A3 n3 c3) :
    Calls Tryd.prog 83 #[.agg #[.int .i64 k, v1, v2, v3]] w fun e w' => e = .returned (.bool (k == 5)) ∧ Grows w w' := by
  subst h1 h2 h3
  have hg : Grows w (w.alloc (.cells #[.int .i64 k, .slice A1 n1 c1, .slice A2 n2 c2, .slice A3 n3 c3] 36)) := (Grows.refl w).alloc _
  go_enter Tryd.func83, Tryd.ntmps83
  go_wp2
  go_ret
  exact ⟨rfl, hg⟩

/-- what IndexFunc tells -/
def IdxRes (b : Bool) (r : Int) : Prop := (b = true → r = -1) ∧ (b = false → 0 ≤ r)
set_option maxRecDepth 100000 in
set_option maxHeartbeats 1000000 in
theorem index_any (B : Nat) (A : Option Addr) (n c : Nat) (l : List ChkB) (w : World) (hx : ChunksN w B A n l) (hB : B ≤ w.heap.size) (hn : n ≤ maxLen) :
    Calls Tryd.prog 115 #[.slice A n c, .func (.func 83) #[] #[]] w fun e w' => (∃ r : Int, e = .returned (.int .i64 r) ∧ IdxRes (cleanC l) r) ∧ Grows w w' := by
  unfold maxLen at hn
  have HL := Lib.hid hx.1
  have HX := Lib.hid hx; clear hx
  go_enter Tryd.func115, Tryd.ntmps115
  go_wp2
  go_loopg [8] n (fun gk q wr => Grows w wr ∧ ∃ k : Nat, q = .int .i64 k ∧ k ≤ n ∧ gk = n - k ∧ cleanC (l.take k) = true)
  case atStart => exact ⟨Grows.refl _, 0, rfl, by omega, rfl, rfl⟩
  case round =>
    obtain ⟨hgr, k, rfl, hk, hgk, hno⟩ := hrel
    have HG := Lib.hid hgk; clear hgk
    have HN := Lib.hid hno; clear hno
    by_cases hlt : k < n
    · obtain ⟨ad, rfl, had, p0, ⟨A1, n1, c1, p1, _⟩, ⟨A2, n2, c2, p2, _⟩, ⟨A3, n3, c3, p3, _⟩⟩ := (HX.out.grows hB hgr).at_ hlt
      have hct := Lib.hid (clean_take (l := l) (k := k) (by rw [HL.out]; exact hlt))
      have k0 : (0 : Int) ≤ k := by omega
      have k1 : (k : Int) < n := by omega
      obtain ⟨kd, hkd⟩ : ∃ kd, (gch l k).1 = kd := ⟨_, rfl⟩
      rw [hkd] at p0 hct
      have HKD := Lib.hid hkd
      clear hkd
      cases he : (kd == 5) with
      | true =>
        have hf := Lib.hid (show cleanC l = false from clean_false (by rw [HL.out]; exact hlt) (HKD.out.trans (by simpa using he)))
        go_wp2_with fail
        refine (clash_any kd _ _ _ A1 A2 A3 n1 n2 n3 c1 c2 c3 wr rfl rfl rfl).mono ?_
        rintro e w5 ⟨rfl, hg5⟩
        rw [he]
        have hg6 := hgr.trans hg5
        go_wp2_with fail
        go_ret
        exact ⟨⟨k, rfl, ⟨fun h => (by rw [hf.out] at h; cases h), fun _ => by omega⟩⟩, hg6⟩
      | false =>
        have hf := Lib.hid (show cleanC (l.take (k + 1)) = true by rw [hct.out, HN.out]; simp at he ⊢; exact he)
        go_wp2_with fail
        refine (clash_any kd _ _ _ A1 A2 A3 n1 n2 n3 c1 c2 c3 wr rfl rfl rfl).mono ?_
        rintro e w5 ⟨rfl, hg5⟩
        rw [he]
        have hg6 := hgr.trans hg5
        go_wp2_with fail
        go_roundg (n - (k + 1))
        case measure => rw [HG.out]; omega
        case rel => exact ⟨hg6, k + 1, by go_num, by omega, rfl, hf.out⟩
    · have hf := Lib.hid (show cleanC l = true by
        have := HN.out
        rw [List.take_of_length_le (by rw [HL.out]; omega)] at this
        exact this)
      have k1 : ¬ ((k : Int) < n) := by omega
      go_wp2
      go_ret
      exact ⟨⟨-1, rfl, ⟨fun _ => rfl, fun h => (by rw [hf.out] at h; cases h)⟩⟩, hgr⟩

set_option maxRecDepth 100000 in
set_option maxHeartbeats 1000000 in
theorem clean_any (B : Nat) (A : Option Addr) (n c : Nat) (l : List ChkB) (w : World) (hx : ChunksN w B A n l) (hB : B ≤ w.heap.size) (hn : n ≤ maxLen) :
    Calls Tryd.prog 42 #[.slice A n c] w fun e w' => e = .returned (.bool (cleanC l)) ∧ Grows w w' := by
  have HX := Lib.hid hx; clear hx
  have hcon : Calls Tryd.prog 82 #[.slice A n c, .func (.func 83) #[] #[]] w fun e w' => e = .returned (.bool (!cleanC l)) ∧ Grows w w' := by
    go_enter Tryd.func82, Tryd.ntmps82
    go_wp2_with fail
    refine (index_any B A n c l w HX.out hB hn).mono ?_
    rintro e w1 ⟨⟨r, rfl, hr⟩, hg⟩
    cases hc : cleanC l with
    | true =>
      have hr1 := hr.1 hc
      subst hr1
      clear hr
      go_wp2_with fail
      go_ret
      exact ⟨ret_bool (by rw [hc]; rfl), hg⟩
    | false =>
      have hr0 : (0 : Int) ≤ r := hr.2 hc
      clear hr
      go_wp2_with fail
      go_ret
      exact ⟨ret_bool (by rw [hc]; rfl), hg⟩
  have HC := Lib.hid hcon
  clear hcon
  go_enter Tryd.func42, Tryd.ntmps42
  go_wp2_with fail
  refine HC.out.mono ?_
  rintro e w1 ⟨rfl, hg⟩
  go_wp2_with fail
  go_ret
  exact ⟨ret_bool (by simp), hg⟩

set_option maxRecDepth 100000 in
set_option maxHeartbeats 1000000 in
theorem rclean_any (B : Nat) (A : Option Addr) (n c : Nat) (l : List ChkB) (w : World) (hx : ChunksN w B A n l) (hn : n ≤ maxLen) :
    Calls Tryd.prog 52 #[.slice A n c] w fun e w' => e = .returned (.bool (cleanC l)) ∧ w = w' := by
  unfold maxLen at hn
  have HL := Lib.hid hx.1
  have HX := Lib.hid hx; clear hx
  go_enter Tryd.func52, Tryd.ntmps52
  go_wp2
  go_loopg [3] n (fun gk q wr => w = wr ∧ ∃ k : Nat, q = .int .i64 k ∧ k ≤ n ∧ gk = n - k ∧ cleanC (l.take k) = true)
  case atStart => exact ⟨rfl, 0, rfl, by omega, rfl, rfl⟩
  case round =>
    obtain ⟨rfl, k, rfl, hk, hgk, hno⟩ := hrel
    have HG := Lib.hid hgk; clear hgk
    have HN := Lib.hid hno; clear hno
    by_cases hlt : k < n
    · obtain ⟨ad, rfl, had, p0, _⟩ := HX.out.at_ hlt
      have hct := Lib.hid (clean_take (l := l) (k := k) (by rw [HL.out]; exact hlt))
      have k0 : (0 : Int) ≤ k := by omega
      have k1 : (k : Int) < n := by omega
      obtain ⟨kd, hkd⟩ : ∃ kd, (gch l k).1 = kd := ⟨_, rfl⟩
      rw [hkd] at p0 hct
      have HKD := Lib.hid hkd
      clear hkd
      cases he : (kd == 5) with
      | true =>
        have hf := Lib.hid (show cleanC l = false from clean_false (by rw [HL.out]; exact hlt) (HKD.out.trans (by simpa using he)))
        go_wp2_with fail
        go_ret
        exact ⟨ret_bool hf.out.symm, rfl⟩
      | false =>
        have hf := Lib.hid (show cleanC (l.take (k + 1)) = true by rw [hct.out, HN.out]; simp at he ⊢; exact he)
        go_wp2_with fail
        go_roundg (n - (k + 1))
        case measure => rw [HG.out]; omega
        case rel => exact ⟨rfl, k + 1, by go_num, by omega, rfl, hf.out⟩
    · have hf := Lib.hid (show cleanC l = true by
        have := HN.out
        rw [List.take_of_length_le (by rw [HL.out]; omega)] at this
        exact this)
      have k1 : ¬ ((k : Int) < n) := by omega
      go_wp2
      go_ret
      exact ⟨ret_bool hf.out.symm, rfl⟩

set_option maxRecDepth 100000 in
set_option maxHeartbeats 2000000 in
theorem merged_any (B : Nat) (A : Option Addr) (n c : Nat) (l : List ChkB) (w : World) (hx : ChunksN w B A n l) (hB : B ≤ w.heap.size) (hn : n ≤ 1000000000) (hM : ∀ k, k ≤ n → (mergeC (l.take k)).length ≤ 1000000000) :
    Calls Tryd.prog 44 #[.slice A n c] w fun e w' => ∃ v, e = .returned v ∧ w'.ownsRow w.heap.size 9 1 v (mergeC l).length (strs (mergeC l)) ∧ Grows w w' := by
  have HL := Lib.hid hx.1
  have HX := Lib.hid hx; clear hx
  have HM := Lib.hid hM; clear hM
  obtain ⟨s0, hs0, hs1, hs2, hs3⟩ := info_parts Tryd.infoStr
  go_enter Tryd.func44, Tryd.ntmps44
  go_wp2
  go_loopg [8, 3] n (fun gk q v wr => ∃ (k : Nat) (ys : List ByteArray), q = .int .i64 k ∧ k ≤ n ∧ gk = n - k ∧ ys = mergeC (l.take k) ∧ wr.ownsRow w.heap.size 9 1 v ys.length (strs ys) ∧ Grows w wr)
  case atStart => exact ⟨0, [], rfl, by omega, rfl, rfl, World.ownsRow_nil _ _ _ _, Grows.refl _⟩
  case round =>
    obtain ⟨k, ys, rfl, hk, hgk, hys, hown, hgr⟩ := hrel
    have HG := Lib.hid hgk; clear hgk
    have HYS := Lib.hid hys; clear hys
    have hsz := hgr.size
    by_cases hlt : k < n
    · obtain ⟨ad, rfl, had, p0, ⟨A1, n1, c1, p1, r1, _⟩, ⟨A2, n2, c2, p2, r2, _⟩, ⟨A3, n3, c3, p3, r3, _⟩⟩ := (HX.out.grows hB hgr).at_ hlt
      have hct0 := merge_take (l := l) (k := k) (by rw [HL.out]; exact hlt)
      rw [← HYS.out] at hct0
      have hlen0 := HM.out (k + 1) (by omega)
      rw [hct0, List.length_append] at hlen0
      have k0 : (0 : Int) ≤ k := by omega
      have k1 : (k : Int) < n := by omega
      obtain ⟨kd, hkd⟩ : ∃ kd, (gch l k).1 = kd := ⟨_, rfl⟩
      obtain ⟨x2, hx2⟩ : ∃ x2, (gch l k).2.2.1 = x2 := ⟨_, rfl⟩
      obtain ⟨x3, hx3⟩ : ∃ x3, (gch l k).2.2.2 = x3 := ⟨_, rfl⟩
      rw [hkd] at p0 hct0 hlen0
      rw [hx2] at r2 hct0 hlen0
      rw [hx3] at r3 hct0 hlen0
      clear hkd hx2 hx3
      have hown0 := hown.alloc (.cells #[.int .i64 kd, .slice A1 n1 c1, .slice A2 n2 c2, .slice A3 n3 c3] 36)
      have hgr0 := hgr.alloc (.cells #[.int .i64 kd, .slice A1 n1 c1, .slice A2 n2 c2, .slice A3 n3 c3] 36)
      have hBw := Nat.le_trans hB hsz
      have R2 := Lib.hid (r2.alloc hBw (.cells #[.int .i64 kd, .slice A1 n1 c1, .slice A2 n2 c2, .slice A3 n3 c3] 36))
      have R3 := Lib.hid (r3.alloc hBw (.cells #[.int .i64 kd, .slice A1 n1 c1, .slice A2 n2 c2, .slice A3 n3 c3] 36))
      have l2 := r2.strLen
      have l3 := r3.strLen
      clear r1 r2 r3 hown hgr
      cases he : (kd == 3) with
      | true =>
        have h3 : kd = 3 := by simpa using he
        rw [if_pos h3] at hct0 hlen0
        have HCT := Lib.hid hct0
        clear hct0 h3
        have hln : ys.length + n3 ≤ 1000000000 := by omega
        clear hlen0 l2 l3
        go_wp2_with (at_builtin; refine wpList_append_any _ rfl (.tmp 15) (.tmp 17) _ rfl w.heap.size 9 s0 _ 1 16 Tryd.underlying28 hs0 hs1 hs2 hs3 rfl (by decide) _ _ _ rfl hown0 B _ _ _ _ rfl R3.out (strs_oneCell _) (by simp only [maxLen]; omega) (by omega) hgr0.size ?_; intro v1 w1 hown1 hgb1 hor1; have hgr1 : Grows w w1 := Below.grown hgr0 hgb1 hgr0.size (fun k hk => (hown0.lt k hk).1))
        go_roundg (n - (k + 1))
        case measure => rw [HG.out]; omega
        case rel =>
          refine ⟨k + 1, ys ++ x3, by go_num, by omega, rfl, HCT.out.symm, ?_, hgr1⟩
          have hl3 : x3.length = n3 := R3.out.strLen
          rw [List.length_append, strs_append, hl3]; exact hown1
      | false =>
        have h3 : ¬ kd = 3 := by simpa using he
        rw [if_neg h3] at hct0 hlen0
        have HCT := Lib.hid hct0
        clear hct0 h3
        have hln : ys.length + n2 ≤ 1000000000 := by omega
        clear hlen0 l2 l3
        go_wp2_with (at_builtin; refine wpList_append_any _ rfl (.tmp 19) (.tmp 21) _ rfl w.heap.size 9 s0 _ 1 16 Tryd.underlying28 hs0 hs1 hs2 hs3 rfl (by decide) _ _ _ rfl hown0 B _ _ _ _ rfl R2.out (strs_oneCell _) (by simp only [maxLen]; omega) (by omega) hgr0.size ?_; intro v1 w1 hown1 hgb1 hor1; have hgr1 : Grows w w1 := Below.grown hgr0 hgb1 hgr0.size (fun k hk => (hown0.lt k hk).1))
        go_roundg (n - (k + 1))
        case measure => rw [HG.out]; omega
        case rel =>
          refine ⟨k + 1, ys ++ x2, by go_num, by omega, rfl, HCT.out.symm, ?_, hgr1⟩
          have hl2 : x2.length = n2 := R2.out.strLen
          rw [List.length_append, strs_append, hl2]; exact hown1
    · have hf := Lib.hid (show ys = mergeC l by rw [HYS.out, List.take_of_length_le (by rw [HL.out]; omega)])
      have k1 : ¬ ((k : Int) < n) := by omega
      go_wp2
      go_ret
      exact ⟨_, rfl, by rw [← hf.out]; exact hown, hgr⟩

set_option maxRecDepth 100000 in
set_option maxHeartbeats 2000000 in
theorem rmerged_any (B : Nat) (A : Option Addr) (n c : Nat) (l : List ChkB) (w : World) (hx : ChunksN w B A n l) (hB : B ≤ w.heap.size) (hn : n ≤ 1000000000) (hM : ∀ k, k ≤ n → (mergeC (l.take k)).length ≤ 1000000000) :
    Calls Tryd.prog 29 #[.slice A n c] w fun e w' => ∃ v, e = .returned v ∧ w'.ownsRow w.heap.size 9 1 v (mergeC l).length (strs (mergeC l)) ∧ Grows w w' := by
  have HL := Lib.hid hx.1
  have HX := Lib.hid hx; clear hx
  have HM := Lib.hid hM; clear hM
  obtain ⟨s0, hs0, hs1, hs2, hs3⟩ := info_parts Tryd.infoStr
  go_enter Tryd.func29, Tryd.ntmps29
  go_wp2
  go_loopg [3, 4] n (fun gk v q wr => ∃ (k : Nat) (ys : List ByteArray), q = .int .i64 k ∧ k ≤ n ∧ gk = n - k ∧ ys = mergeC (l.take k) ∧ wr.ownsRow w.heap.size 9 1 v ys.length (strs ys) ∧ Grows w wr)
  case atStart => exact ⟨0, [], rfl, by omega, rfl, rfl, World.ownsRow_nil _ _ _ _, Grows.refl _⟩
  case round =>
    obtain ⟨k, ys, rfl, hk, hgk, hys, hown, hgr⟩ := hrel
    have HG := Lib.hid hgk; clear hgk
    have HYS := Lib.hid hys; clear hys
    by_cases hlt : k < n
    · obtain ⟨ad, rfl, had, p0, ⟨A1, n1, c1, p1, r1, _⟩, ⟨A2, n2, c2, p2, r2, _⟩, ⟨A3, n3, c3, p3, r3, _⟩⟩ := (HX.out.grows hB hgr).at_ hlt
      have hct0 := merge_take (l := l) (k := k) (by rw [HL.out]; exact hlt)
      rw [← HYS.out] at hct0
      have hlen0 := HM.out (k + 1) (by omega)
      rw [hct0, List.length_append] at hlen0
      have k0 : (0 : Int) ≤ k := by omega
      have k1 : (k : Int) < n := by omega
      obtain ⟨kd, hkd⟩ : ∃ kd, (gch l k).1 = kd := ⟨_, rfl⟩
      obtain ⟨x2, hx2⟩ : ∃ x2, (gch l k).2.2.1 = x2 := ⟨_, rfl⟩
      obtain ⟨x3, hx3⟩ : ∃ x3, (gch l k).2.2.2 = x3 := ⟨_, rfl⟩
      rw [hkd] at p0 hct0 hlen0
      rw [hx2] at r2 hct0 hlen0
      rw [hx3] at r3 hct0 hlen0
      clear hkd hx2 hx3
      have hown0 := hown
      have hgr0 := hgr
      have R2 := Lib.hid r2
      have R3 := Lib.hid r3
      have l2 := r2.strLen
      have l3 := r3.strLen
      clear r1 r2 r3 hown hgr
      cases he : (kd == 3) with
      | true =>
        have h3 : kd = 3 := by simpa using he
        rw [if_pos h3] at hct0 hlen0
        have HCT := Lib.hid hct0
        clear hct0 h3
        have hln : ys.length + n3 ≤ 1000000000 := by omega
        clear hlen0 l2 l3
        go_wp2_with (at_builtin; refine wpList_append_any _ rfl (.tmp 17) (.tmp 22) _ rfl w.heap.size 9 s0 _ 1 16 Tryd.underlying28 hs0 hs1 hs2 hs3 rfl (by decide) _ _ _ rfl hown0 B _ _ _ _ rfl R3.out (strs_oneCell _) (by simp only [maxLen]; omega) (by omega) hgr0.size ?_; intro v1 w1 hown1 hgb1 hor1; have hgr1 : Grows w w1 := Below.grown hgr0 hgb1 hgr0.size (fun k hk => (hown0.lt k hk).1))
        go_roundg (n - (k + 1))
        case measure => rw [HG.out]; omega
        case rel =>
          refine ⟨k + 1, ys ++ x3, by go_num, by omega, rfl, HCT.out.symm, ?_, hgr1⟩
          have hl3 : x3.length = n3 := R3.out.strLen
          rw [List.length_append, strs_append, hl3]; exact hown1
      | false =>
        have h3 : ¬ kd = 3 := by simpa using he
        rw [if_neg h3] at hct0 hlen0
        have HCT := Lib.hid hct0
        clear hct0 h3
        have hln : ys.length + n2 ≤ 1000000000 := by omega
        clear hlen0 l2 l3
        go_wp2_with (at_builtin; refine wpList_append_any _ rfl (.tmp 24) (.tmp 29) _ rfl w.heap.size 9 s0 _ 1 16 Tryd.underlying28 hs0 hs1 hs2 hs3 rfl (by decide) _ _ _ rfl hown0 B _ _ _ _ rfl R2.out (strs_oneCell _) (by simp only [maxLen]; omega) (by omega) hgr0.size ?_; intro v1 w1 hown1 hgb1 hor1; have hgr1 : Grows w w1 := Below.grown hgr0 hgb1 hgr0.size (fun k hk => (hown0.lt k hk).1))
        go_roundg (n - (k + 1))
        case measure => rw [HG.out]; omega
        case rel =>
          refine ⟨k + 1, ys ++ x2, by go_num, by omega, rfl, HCT.out.symm, ?_, hgr1⟩
          have hl2 : x2.length = n2 := R2.out.strLen
          rw [List.length_append, strs_append, hl2]; exact hown1
    · have hf := Lib.hid (show ys = mergeC l by rw [HYS.out, List.take_of_length_le (by rw [HL.out]; omega)])
      have k1 : ¬ ((k : Int) < n) := by omega
      go_wp2
      go_ret
      exact ⟨_, rfl, by rw [← hf.out]; exact hown, hgr⟩

end Go.Proofs.YtakgddochbcjbaaDoor
