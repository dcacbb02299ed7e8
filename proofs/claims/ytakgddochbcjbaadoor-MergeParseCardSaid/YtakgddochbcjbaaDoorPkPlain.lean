/- Has a text no marks? The walk of merge3.Plain. The merge chapter's first line, awake; few; MergeOne. MergeMarks, in plain words: marks in their order are read, others are not. -/
import Derived.Test.YtakgddochbcjbaaDoorPkLinesFlat
import Derived.Test.YtakgddochbcjbaaDoorPkShelf
import Derived.Test.YtakgddochbcjbaaDoorPkDiff1
import Derived.Test.YtakgddochbcjbaaDoorPkParseSpec
namespace Go.Proofs.YtakgddochbcjbaaDoor
open Go.RowKit Go.Deep Go.MapKept Go.Maps

/-- a line with its end -/
def endedL (x : ByteArray) : ByteArray := tx (Lib.trimSuffix x.data.toList [10]) ++ { data := #[10] }
def isMark (x : ByteArray) : Bool := (markF (endedL x)).isSome
/-- has a text no marks? -/
def plainT (s : ByteArray) : Bool := !(linesT s).any isMark

theorem trim_le (x : ByteArray) : (endedL x).size ≤ x.size + 1 := by
  have h : (Lib.trimSuffix x.data.toList [10]).length ≤ x.data.toList.length := by
    unfold Lib.trimSuffix
    split
    · exact (List.take_sublist _ _).length_le
    · exact Nat.le_refl _
  rw [endedL, ByteArray.size_append, tx_size]
  have e : x.data.toList.length = x.size := Array.length_toList
  have e2 : ({ data := #[10] } : ByteArray).size = 1 := rfl
  omega
set_option maxRecDepth 100000 in
set_option maxHeartbeats 2000000 in
theorem isk_any (p b : Nat) (x : ByteArray) (w : World) (hp : w.cell? ⟨p, 0, none⟩ = some (.map (some b))) (hmap : MapS w b 4 markF) (hx : x.size ≤ 5000000) :
    Calls Tryd.prog 56 #[.string x, .pointer (some ⟨p, 0, none⟩)] w fun e w' => e = .returned (.bool (isMark x)) ∧ Grows w w' := by
  have HM := Lib.hid hmap
  have hel := trim_le x
  have hxl : (endedL x).size ≤ maxLen := by simp only [maxLen]; omega
  have hts : (tx (Lib.trimSuffix x.data.toList [10])).size ≤ 5000001 := by
    rw [endedL, ByteArray.size_append] at hel; omega
  have AT := Lib.hid (fun d => (show Calls Tryd.prog 57 #[.string x, .string { data := #[10] }] (w.drewN d) fun e w' => e = .returned (.string (tx (Lib.trimSuffix x.data.toList [10]))) ∧ w.drewN d = w' from (Tryd.strings_TrimSuffix x { data := #[10] } (w.drewN d) (by omega)).mono (fun _ _ h => ⟨h.1, h.2.symm⟩)))
  obtain ⟨c, is, hc, his⟩ : ∃ c is, (markF (endedL x)).getD 0 = c ∧ (markF (endedL x)).isSome = is := ⟨_, _, rfl, rfl⟩
  have hres := Lib.hid (show isMark x = is from his)
  obtain ⟨y, hy⟩ : ∃ y, tx (Lib.trimSuffix x.data.toList [10]) = y := ⟨_, rfl⟩
  have HE := Lib.hid (show y ++ { data := #[10] } = endedL x by rw [← hy]; rfl)
  rw [hy] at AT hts
  clear hmap hy hel
  go_enter Tryd.func56, Tryd.ntmps56
  go_wp2
  have hlk : ∀ d, (Instr.lookup 80 (.map (some b)) (.string (y ++ { data := #[10] })) true).run Tryd.prog (w.drewN d) = .ok (.tuple #[.int .i64 c, .bool is]) (w.drewN d) := fun d => by
    rw [HE.out]
    have h := MapS.look (HM.out.drewN d) (endedL x) hxl
    rw [hc, his] at h
    exact h
  go_quiet ((go_at_call 57; exact quiet_left (AT.out _)))
  go_wp2_with fail
  go_ret
  exact ⟨ret_bool hres.out.symm, (Grows.refl w).drewN nq⟩
theorem any_snoc {xs : List ByteArray} {k : Nat} (h : k < xs.length) : (xs.take (k + 1)).any isMark = ((xs.take k).any isMark || isMark (gs xs k)) := by
  rw [List.take_succ_eq_append_getElem h, List.any_append, gs_def, List.getD_eq_getElem?_getD, List.getElem?_eq_getElem h]; simp
theorem any_hit {xs : List ByteArray} {k : Nat} (h : k < xs.length) (hk : isMark (gs xs k) = true) : xs.any isMark = true := by
  rw [List.any_eq_true]
  refine ⟨gs xs k, ?_, hk⟩
  rw [gs_def, List.getD_eq_getElem?_getD, List.getElem?_eq_getElem h]
  exact List.getElem_mem h
set_option maxRecDepth 100000 in
set_option maxHeartbeats 2000000 in
theorem index_marks (p b B : Nat) (A : Option Addr) (n c : Nat) (xs : List ByteArray) (w : World) (hx : Reads w B 1 A n (strs xs)) (hB : B ≤ w.heap.size) (hn : n ≤ 5000000) (hp : w.cell? ⟨p, 0, none⟩ = some (.map (some b))) (hmap : MapS w b 4 markF) (hz : ∀ i, i < n → (gs xs i).size ≤ 5000000) :
    Calls Tryd.prog 91 #[.slice A n c, .func (.func 56) #[] #[.pointer (some ⟨p, 0, none⟩)]] w fun e w' => (∃ r : Int, e = .returned (.int .i64 r) ∧ IdxRes (!xs.any isMark) r) ∧ Grows w w' := by
  have HL := Lib.hid hx.strLen
  have HX := Lib.hid hx
  have HMP := Lib.hid hmap
  have HPB := Lib.hid (show (⟨p, 0, none⟩ : Addr).block < w.heap.size from World.block_lt_of_cell? w _ hp)
  clear hx hmap
  go_enter Tryd.func91, Tryd.ntmps91
  go_wp2
  go_loopg [8] n (fun gk q wr => Grows w wr ∧ ∃ k : Nat, q = .int .i64 k ∧ k ≤ n ∧ gk = n - k ∧ (xs.take k).any isMark = false)
  case atStart => exact ⟨Grows.refl _, 0, rfl, by omega, rfl, rfl⟩
  case round =>
    obtain ⟨hgr, k, rfl, hk, hgk, hno⟩ := hrel
    have HG := Lib.hid hgk; clear hgk
    have HN := Lib.hid hno; clear hno
    by_cases hlt : k < n
    · obtain ⟨ad, rfl, had, p0⟩ := (HX.out.grows hB hgr).str hlt
      have hct := Lib.hid (any_snoc (xs := xs) (k := k) (by rw [HL.out]; exact hlt))
      have hah := Lib.hid (any_hit (xs := xs) (k := k) (by rw [HL.out]; exact hlt))
      have hxz := hz k hlt
      have hcell := (Below.cell hgr (HPB.out)).trans hp
      have HM2 := Lib.hid (HMP.out.grows hgr)
      have k0 : (0 : Int) ≤ k := by omega
      have k1 : (k : Int) < n := by omega
      obtain ⟨x, hx⟩ : ∃ x, gs xs k = x := ⟨_, rfl⟩
      rw [hx] at p0 hct hah hxz
      clear hx
      cases he : isMark x with
      | true =>
        have hf := Lib.hid (show xs.any isMark = true from hah.out he)
        go_wp2_with fail
        refine (isk_any p b x wr hcell HM2.out hxz).mono ?_
        rw [he]
        rintro e w5 ⟨rfl, hg5⟩
        go_wp2_with fail
        go_ret
        exact ⟨⟨k, rfl, ⟨fun h => (by rw [hf.out] at h; cases h), fun _ => by omega⟩⟩, hgr.trans hg5⟩
      | false =>
        have hf := Lib.hid (show (xs.take (k + 1)).any isMark = false by rw [hct.out, HN.out, he]; rfl)
        go_wp2_with fail
        refine (isk_any p b x wr hcell HM2.out hxz).mono ?_
        rw [he]
        rintro e w5 ⟨rfl, hg5⟩
        have hg6 := hgr.trans hg5
        go_wp2_with fail
        go_roundg (n - (k + 1))
        case measure => rw [HG.out]; omega
        case rel => exact ⟨hg6, k + 1, by go_num, by omega, rfl, hf.out⟩
    · have hf := Lib.hid (show xs.any isMark = false by
        have := HN.out
        rw [List.take_of_length_le (by rw [HL.out]; omega)] at this
        exact this)
      have k1 : ¬ ((k : Int) < n) := by omega
      go_wp2
      go_ret
      exact ⟨⟨-1, rfl, ⟨fun _ => rfl, fun h => (by rw [hf.out] at h; cases h)⟩⟩, hgr⟩
set_option maxRecDepth 100000 in
set_option maxHeartbeats 2000000 in
theorem plain_walk (s : ByteArray) (w : World) (hm : MaxL w) (hs : s.size ≤ 5000000) :
    Calls Tryd.prog 22 #[.string s] w fun e w' => e = .returned (.bool (plainT s)) ∧ Grows w w' := by
  have hnS := Lib.hid (lines_le s)
  have hfl := Lib.hid (flat_lines s)
  go_enter Tryd.func22, Tryd.ntmps22
  go_wp2_with fail
  refine (marks_any _).mono ?_
  rintro e w1 ⟨b, rfl, hmap, hg1, hb⟩
  go_wp2_with fail
  obtain ⟨p, hp⟩ : ∃ p, w1.heap.size = p := ⟨_, rfl⟩
  have hg2 := hg1.alloc (.cells #[.map (some b)] 80)
  refine (split_any s _ (hm.grows hg2) (by omega)).mono ?_
  rintro e w3 ⟨v, rfl, g3, c3, rfl, hc3, _, hr3, hg3⟩
  have hcell := (Below.cell hg3 (show (⟨p, 0, none⟩ : Addr).block < _ by rw [← hp]; simp)).trans (show (w1.alloc (.cells #[.map (some b)] 80)).cell? ⟨p, 0, none⟩ = some (.map (some b)) by rw [← hp, cell_of_row _ w1.heap.size 0 _ _ _ (heap_alloc_new w1 _)]; rfl)
  have HMP := Lib.hid ((hmap.alloc _).grows hg3)
  have HR := Lib.hid hr3
  have HG3 := Lib.hid (hg2.trans hg3)
  clear hmap hr3 hg3 hg2
  obtain ⟨ls, hls⟩ : ∃ ls, linesT s = ls := ⟨_, rfl⟩
  have hpt := Lib.hid (show plainT s = !ls.any isMark by rw [← hls]; rfl)
  rw [hls] at HR hnS hfl
  try rw [hls]
  clear hls
  have hnn := hnS.out
  have HI := Lib.hid (index_marks p b w3.heap.size (some ⟨g3, 0, none⟩) ls.length c3 ls w3 HR.out (Nat.le_refl _) (by omega) hcell HMP.out (fun i hi => by have h1 := gs_flat hi; rw [hfl.out] at h1; omega))
  have hcon : Calls Tryd.prog 55 #[.slice (some ⟨g3, 0, none⟩) ls.length c3, .func (.func 56) #[] #[.pointer (some ⟨p, 0, none⟩)]] w3 fun e w' => e = .returned (.bool (ls.any isMark)) ∧ Grows w3 w' := by
    go_enter Tryd.func55, Tryd.ntmps55
    go_wp2_with fail
    refine HI.out.mono ?_
    rintro e w4 ⟨⟨r, rfl, hr⟩, hg⟩
    cases hc : ls.any isMark with
    | true =>
      have hr0 : (0 : Int) ≤ r := hr.2 (by rw [hc]; rfl)
      clear hr
      go_wp2_with fail
      go_ret
      exact ⟨ret_bool (by rw [hc]), hg⟩
    | false =>
      have hr1 := hr.1 (by rw [hc]; rfl)
      subst hr1
      clear hr
      go_wp2_with fail
      go_ret
      exact ⟨ret_bool (by rw [hc]), hg⟩
  have HC := Lib.hid hcon
  clear hcon HI
  go_wp2_with fail
  refine HC.out.mono ?_
  rintro e w4 ⟨rfl, hg4⟩
  go_wp2_with fail
  go_ret
  exact ⟨ret_bool (by rw [hpt.out]), HG3.out.trans hg4⟩
end Go.Proofs.YtakgddochbcjbaaDoor
namespace Go.Proofs.YtakgddochbcjbaaDoor
open Go.RowKit Go.Deep Go.MapKept

def mA : ByteArray := { data := #[97, 10] }
def mB : ByteArray := { data := #[98, 10] }
theorem lines_mA : linesT mA = [mA] := by kernel_rfl
theorem parse_mA : parseT mA = some [(1, [mA], [mA], [mA])] := by kernel_rfl
theorem plain_mA : plainT mA = true := by kernel_rfl

/-- not too much -/
def fewN (n : Nat) (xs : List ByteArray) : Bool := decide (∀ i, i < n → (gs xs i).size ≤ 400)
theorem fewN_iff {n : Nat} {xs : List ByteArray} : fewN n xs = true ↔ ∀ i, i < n → (gs xs i).size ≤ 400 := decide_eq_true_iff
set_option maxRecDepth 100000 in
set_option maxHeartbeats 1000000 in
theorem few_lines (B : Nat) (A : Option Addr) (n c : Nat) (xs : List ByteArray) (w : World) (h : Reads w B 1 A n (strs xs)) (hn : n ≤ 1000) :
    Calls Tryd.prog 12 #[.slice A n c] w fun e w' => e = .returned (.bool (fewN n xs)) ∧ w = w' := by
  have HR := Lib.hid h
  clear h
  go_enter Tryd.func12, Tryd.ntmps12
  go_wp2_with fail
  go_loopg [3] n (fun gk q wr => w = wr ∧ ∃ k : Nat, q = .int .i64 k ∧ k ≤ n ∧ gk = n - k ∧ ∀ i, i < k → (gs xs i).size ≤ 400)
  case atStart => exact ⟨rfl, 0, rfl, by omega, rfl, fun i hi => absurd hi (Nat.not_lt_zero i)⟩
  case round =>
    obtain ⟨rfl, k, rfl, hk, hgk, hno⟩ := hrel
    have HG := Lib.hid hgk; clear hgk
    have HN := Lib.hid hno; clear hno
    by_cases hlt : k < n
    · obtain ⟨ad, rfl, had, p0⟩ := HR.out.str hlt
      have k0 : (0 : Int) ≤ k := by omega
      have k1 : (k : Int) < n := by omega
      by_cases hz : 400 < (gs xs k).size
      · have hf := Lib.hid (show fewN n xs = false from decide_eq_false (fun h => by have := h k hlt; omega))
        have z1 : ((gs xs k).size : Int) > 400 := by omega
        go_wp2_with fail
        go_ret
        exact ⟨ret_bool hf.out.symm, rfl⟩
      · have z1 : ¬ (((gs xs k).size : Int) > 400) := by omega
        have hsu := Lib.hid (show ∀ i, i < k + 1 → (gs xs i).size ≤ 400 from fun i hi => by
          rcases Nat.lt_succ_iff_lt_or_eq.1 hi with h1 | rfl
          · exact HN.out i h1
          · omega)
        go_wp2_with fail
        go_roundg (n - (k + 1))
        case measure => rw [HG.out]; omega
        case rel => exact ⟨rfl, k + 1, by go_num, by omega, rfl, hsu.out⟩
    · have hkn : k = n := by omega
      subst hkn
      have k1 : ¬ ((k : Int) < k) := by omega
      have hf := Lib.hid (show fewN k xs = true from decide_eq_true HN.out)
      go_wp2_with fail
      go_ret
      exact ⟨ret_bool hf.out.symm, rfl⟩

theorem PS.form {w : World} {B : Nat} {v : Value} {l : List ChkB} (h : PS w B v l) : ∃ A c, v = .slice A l.length c ∧ l.length ≤ c ∧ c ≤ maxLen := by
  obtain ⟨xs, hown, _⟩ := h.all
  exact own_form hown

set_option maxRecDepth 100000 in
set_option maxHeartbeats 1000000 in
theorem mawake_any (w : World) (hm : MaxL w) : Calls Tryd.prog 13 #[] w fun e w' => e = .returned (.bool true) ∧ Grows w w' := by
  have hone := one_theirs (linesT mA) (linesT mB) (SS.of (Nat.le_trans (lines_le mA) (by decide)) (Nat.le_trans (lines_le mB) (by decide)))
  have hbb : mB.toList = [98, 10] := by rw [ByteArray.toList_eq]; rfl
  go_enter Tryd.func13, Tryd.ntmps13
  go_wp2_with fail
  refine (merge_clean _ mA mB mA mB w hm (by decide) (by decide) (by decide) (by decide) rfl hone.1 hone.2).mono ?_
  rintro e w1 ⟨rfl, hg1⟩
  have hm1 := hm.grows hg1
  go_wp2_with fail
  refine (parse_any mA w1 hm1 (by decide)).mono ?_
  rw [parse_mA]
  rintro e w2 ⟨⟨v, rfl, hps⟩, hg2⟩
  obtain ⟨A2, c2, rfl, _, _⟩ := hps.form
  have hg2' := hg1.trans hg2
  have hm2 := hm.grows hg2'
  clear hps
  go_wp2_with fail
  refine (plain_walk mA w2 hm2 (by decide)).mono ?_
  rw [plain_mA]
  rintro e w3 ⟨rfl, hg3⟩
  go_wp2_with fail
  go_ret
  exact ⟨rfl, hg2'.trans hg3⟩

set_option maxRecDepth 100000 in
set_option maxHeartbeats 2000000 in
theorem mone_any (a b : ByteArray) (w : World) (hm : MaxL w) : Calls Tryd.prog 3 #[.string a, .string b] w fun e w' => e = .returned (.bool true) ∧ Grows w w' := by
  have hr0 := Reads.newRow w 9 (strs [a, b]) (0, 0)
  have hg0 := (Grows.refl w).alloc (.cells (strs [a, b]).toArray 9 (0, 0))
  have hm0 := hm.grows hg0
  have HF := Lib.hid (few_lines _ _ 2 2 [a, b] (w.alloc (.cells (strs [a, b]).toArray 9 (0, 0))) hr0 (by decide))
  clear hr0
  cases hd : fewN 2 [a, b] with
  | true =>
    have hfew := fewN_iff.1 hd
    have ha : a.size ≤ 400 := hfew 0 (by decide)
    have hb : b.size ≤ 400 := hfew 1 (by decide)
    have o1 := Lib.hid (one_ours (linesT a) (linesT a) (SS.self _))
    have o2 := Lib.hid (one_ours (linesT a) (linesT b) (SS.of (Nat.le_trans (lines_le a) ha) (Nat.le_trans (lines_le b) hb)))
    have o3 := Lib.hid (one_theirs (linesT a) (linesT b) (SS.of (Nat.le_trans (lines_le a) ha) (Nat.le_trans (lines_le b) hb)))
    have o4 := Lib.hid (one_both (linesT a) (linesT b) (SS.of (Nat.le_trans (lines_le a) ha) (Nat.le_trans (lines_le b) hb)))
    rw [hd] at HF
    clear hfew hd
    go_enter Tryd.func3, Tryd.ntmps3
    go_wp2_with fail
    refine HF.out.mono ?_
    rintro e _ ⟨rfl, rfl⟩
    clear HF
    go_wp2_with fail
    refine (merge_clean _ a a a a _ hm0 ha ha ha ha rfl o1.out.1 o1.out.2).mono ?_
    rintro e w1 ⟨rfl, hg1⟩
    have hg1' := hg0.trans hg1
    go_wp2_with fail
    refine (merge_clean _ a a b b _ (hm.grows hg1') ha ha hb hb rfl o2.out.1 o2.out.2).mono ?_
    rintro e w2 ⟨rfl, hg2⟩
    have hg2' := hg1'.trans hg2
    go_wp2_with fail
    refine (merge_clean _ a b a b _ (hm.grows hg2') ha hb ha hb rfl o3.out.1 o3.out.2).mono ?_
    rintro e w3 ⟨rfl, hg3⟩
    have hg3' := hg2'.trans hg3
    go_wp2_with fail
    refine (merge_clean _ a b b b _ (hm.grows hg3') ha hb hb hb rfl o4.out.1 o4.out.2).mono ?_
    rintro e w4 ⟨rfl, hg4⟩
    have hg4' := hg3'.trans hg4
    go_wp2_with fail
    refine (mawake_any _ (hm.grows hg4')).mono ?_
    rintro e w5 ⟨rfl, hg5⟩
    go_wp2_with fail
    go_ret
    exact ⟨rfl, hg4'.trans hg5⟩
  | false =>
    rw [hd] at HF
    clear hd
    go_enter Tryd.func3, Tryd.ntmps3
    go_wp2_with fail
    refine HF.out.mono ?_
    rintro e _ ⟨rfl, rfl⟩
    clear HF
    go_wp2_with fail
    refine (mawake_any _ hm0).mono ?_
    rintro e w5 ⟨rfl, hg5⟩
    go_wp2_with fail
    go_ret
    exact ⟨rfl, hg0.trans hg5⟩
end Go.Proofs.YtakgddochbcjbaaDoor
namespace Go.Proofs.YtakgddochbcjbaaDoor

def lnX : ByteArray := { data := #[120, 10] }
def lnK (k : Nat) : ByteArray := if k = 4 then lnX else if k = 0 then mkO else if k = 1 then mkB else if k = 2 then mkT else mkE
theorem mark_X : markF lnX = none := by decide
theorem mark_K {k : Nat} (h : k < 4) : markF (lnK k) = some ((k + 1 : Nat) % 4 : Nat) := by
  rcases (by omega : k = 0 ∨ k = 1 ∨ k = 2 ∨ k = 3) with rfl | rfl | rfl | rfl <;> decide
/-- how far the law's own look is: is all right, and which mark is next -/
def runM : List Nat → Bool × Nat → Bool × Nat
  | [], st => st
  | k :: ks, st => runM ks (if k = 4 then st else (st.1 && decide (k = st.2), (k + 1) % 4))
theorem runM_false : ∀ (ks : List Nat) (a : Nat), (runM ks (false, a)).1 = false
  | [], _ => rfl
  | k :: ks, a => by
    rw [runM]
    split
    · exact runM_false ks a
    · rw [Bool.false_and]; exact runM_false ks _
theorem parseC_run : ∀ (ks : List Nat) (i : Nat) (l : List ChkB), (∀ k ∈ ks, k ≤ 4) → i < 4 →
    match parseC (ks.map lnK) (i : Nat) l with
    | some (j, _) => (runM ks (true, i)).1 = true ∧ j = ((runM ks (true, i)).2 : Nat)
    | none => (runM ks (true, i)).1 = false
  | [], i, l, _, _ => ⟨rfl, rfl⟩
  | k :: ks, i, l, hk, hi => by
    have hk4 := hk k (by simp)
    have hks : ∀ k ∈ ks, k ≤ 4 := fun x hx => hk x (by simp [hx])
    rw [List.map_cons, runM]
    by_cases h4 : k = 4
    · subst h4
      rw [if_pos rfl, show lnK 4 = lnX from rfl, parseC_none mark_X]
      exact parseC_run ks i _ hks hi
    · rw [if_neg h4]
      have hm := mark_K (k := k) (by omega)
      by_cases hki : k = i
      · subst hki
        rw [parseC_mark hm (by omega)]
        have h := parseC_run ks ((k + 1) % 4) (if (((k + 1 : Nat) % 4 : Nat) : Int) = 1 then l ++ [(5, [], [], [])] else l) hks (by omega)
        simpa using h
      · rw [parseC_bad hm (by omega)]
        have e : (true && decide (k = i)) = false := by simp [hki]
        rw [e]
        exact runM_false ks _
/-- does the law's own look say yes? -/
def saysM (ks : List Nat) : Bool := (runM ks (true, 0)).1 && decide ((runM ks (true, 0)).2 = 0)
theorem parse_says {ks : List Nat} (hk : ∀ k ∈ ks, k ≤ 4) {s : ByteArray} (hs : linesT s = ks.map lnK) : (parseT s).isSome = saysM ks := by
  have h := parseC_run ks 0 [] hk (by decide)
  unfold parseT saysM
  rw [hs]
  match hp : parseC (ks.map lnK) 0 [] with
  | none =>
    rw [show ((0 : Nat) : Int) = 0 from rfl, hp] at h
    rw [h]; rfl
  | some (j, l) =>
    rw [show ((0 : Nat) : Int) = 0 from rfl, hp] at h
    obtain ⟨h1, h2⟩ := h
    rw [h1, Bool.true_and]
    by_cases h0 : (runM ks (true, 0)).2 = 0
    · have : j = 0 := by rw [h2, h0]; rfl
      simp [this, h0]
    · have : j ≠ 0 := by omega
      simp [this, h0]
/-- the text of such lines -/
theorem lnK_good (k : Nat) : ∀ m, okLine m (lnK k).data.toList = true := by
  intro m
  unfold lnK
  split
  · cases m <;> decide
  · split
    · cases m <;> decide
    · split
      · cases m <;> decide
      · split
        · cases m <;> decide
        · cases m <;> decide
theorem lines_lnK : ∀ ks : List Nat, linesT (joinT (ks.map lnK)) = ks.map lnK := by
  intro ks
  refine lines_join _ ?_
  rw [goodT]
  induction ks with
  | nil => rfl
  | cons k ks ih => exact good_cons (lnK_good k) ih
end Go.Proofs.YtakgddochbcjbaaDoor
