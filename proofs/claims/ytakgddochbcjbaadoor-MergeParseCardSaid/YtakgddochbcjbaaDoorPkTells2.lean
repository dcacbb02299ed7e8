/- Both merges, whatever clashes. What a merged text is read as: its chunks, plain ones joined. -/
import Derived.Test.YtakgddochbcjbaaDoorPkTells
import Derived.Test.YtakgddochbcjbaaDoorPkMixS
namespace Go.Proofs.YtakgddochbcjbaaDoor
open Go.RowKit Go.Deep Go.MapKept

/-- what chunks come to, as a text -/
def mergedT (l : List ChkB) : ByteArray := if cleanC l = true then joinT (mergeC l) else tx (outTo l l.length)
theorem flat_app (x y : List ByteArray) : flatS (x ++ y) = flatS x ++ flatS y := by simp [flatS, bl]
theorem merge_flat_le : ∀ l : List ChkB, (flatS (mergeC l)).length ≤ (flatS (l.flatMap (·.2.2.1))).length + (flatS (l.flatMap (·.2.2.2))).length
  | [] => by simp [mergeC, flatS, bl]
  | c :: l => by
    have ih := merge_flat_le l
    have e : mergeC (c :: l) = (if c.1 = 3 then c.2.2.2 else c.2.2.1) ++ mergeC l := by simp [mergeC]
    rw [e, flat_app, List.flatMap_cons, List.flatMap_cons, flat_app, flat_app, List.length_append, List.length_append, List.length_append]
    split <;> omega
theorem part_leT {l : List ChkB} {c : ChkB} (h : c ∈ l) (f : ChkB → List ByteArray) : (f c).length ≤ (l.flatMap f).length ∧ (flatS (f c)).length ≤ (flatS (l.flatMap f)).length := by
  obtain ⟨l1, l2, rfl⟩ := List.append_of_mem h
  constructor
  · simp only [List.flatMap_append, List.flatMap_cons, List.length_append]
    omega
  · simp only [flatS, bl, List.flatMap_append, List.flatMap_cons, List.map_append, List.flatten_append, List.length_append]
    omega
theorem gch_mem {l : List ChkB} {k : Nat} (hk : k < l.length) : gch l k ∈ l := by
  rw [gch, List.getD_eq_getElem?_getD, List.getElem?_eq_getElem hk]
  exact List.getElem_mem hk
theorem chunks_smallT {b o t : ByteArray} (hb : b.size ≤ 1000) (ho : o.size ≤ 1000) (ht : t.size ≤ 1000) : ∀ k, k < (chunks (linesT b) (linesT o) (linesT t)).length → SmallC (gch (chunks (linesT b) (linesT o) (linesT t)) k) := by
  intro k hk
  have hm := gch_mem hk
  obtain ⟨w1, w2, w3⟩ := chunks_whole (linesT b) (linesT o) (linesT t)
  have p1 := part_leT hm (·.2.1)
  have p2 := part_leT hm (·.2.2.1)
  have p3 := part_leT hm (·.2.2.2)
  rw [w1] at p1
  rw [w2] at p2
  rw [w3] at p3
  have e1 : (flatS (linesT b)).length = b.size := flat_lines b
  have e2 : (flatS (linesT o)).length = o.size := flat_lines o
  have e3 : (flatS (linesT t)).length = t.size := flat_lines t
  have g1 := lines_le b
  have g2 := lines_le o
  have g3 := lines_le t
  exact ⟨⟨by omega, by omega, by omega⟩, by omega, by omega, by omega⟩
theorem merge_flat {b o t : ByteArray} : (flatS (mergeC (chunks (linesT b) (linesT o) (linesT t)))).length ≤ o.size + t.size := by
  have h := merge_flat_le (chunks (linesT b) (linesT o) (linesT t))
  obtain ⟨_, w2, w3⟩ := chunks_whole (linesT b) (linesT o) (linesT t)
  have e2 : (flatS (linesT o)).length = o.size := flat_lines o
  have e3 : (flatS (linesT t)).length = t.size := flat_lines t
  rw [w2, w3] at h
  omega
set_option maxRecDepth 100000 in
set_option maxHeartbeats 2000000 in
theorem merge_yes (l : List ChkB) (b o t : ByteArray) (w : World) (hm : MaxL w) (hb : b.size ≤ 100000) (ho : o.size ≤ 100000) (ht : t.size ≤ 100000) (hbl : (linesT b).length ≤ 450) (hol0 : (linesT o).length ≤ 450) (htl : (linesT t).length ≤ 450) (hl : chunks (linesT b) (linesT o) (linesT t) = l) (hcl : cleanC l = true) :
    Calls Tryd.prog 14 #[.string b, .string o, .string t] w fun e w' => e = .returned (.tuple #[.string (joinT (mergeC l)), .bool true]) ∧ Grows w w' := by
  have hnb := Lib.hid (lines_le b)
  have hno := Lib.hid (lines_le o)
  have hnt := Lib.hid (lines_le t)
  have hfm := Lib.hid (show (bl (mergeC l)).flatten.length ≤ 200000 by have h := merge_flat (b := b) (o := o) (t := t); rw [hl] at h; have : (bl (mergeC l)).flatten.length = (flatS (mergeC l)).length := rfl; omega)
  have HLb := Lib.hid hbl
  have HLo := Lib.hid hol0
  have HLt := Lib.hid htl
  have HCL := Lib.hid hcl
  have HMK := Lib.hid (fun k => Nat.le_trans (hl ▸ merge_chunks (linesT b) (linesT o) (linesT t) k) (show (linesT o).length + (linesT t).length ≤ 1000000000 by have := hno.out; have := hnt.out; omega))
  have HML := Lib.hid (show (mergeC l).length ≤ 1000000000 by have := HMK.out l.length; rwa [List.take_length] at this)
  have hlen := chunks_len (linesT b) (linesT o) (linesT t)
  rw [hl] at hlen
  have HL := Lib.hid hl
  clear hl hcl hbl hol0 htl
  go_enter Tryd.func14, Tryd.ntmps14
  go_wp2_with fail
  refine (split_any b w hm (by omega)).mono ?_
  rintro e w1 ⟨v, rfl, g1, c1, rfl, hc1, ⟨hM1, _⟩, hr1, hg1⟩
  have HR1 := Lib.hid hr1
  have hm1 := hm.grows hg1
  clear hr1
  obtain ⟨L1, hL1⟩ : ∃ L, linesT b = L := ⟨_, rfl⟩
  rw [hL1] at HR1 hc1 hnb HL hlen HLb
  try rw [hL1]
  clear hL1
  go_wp2_with fail
  refine (split_any o w1 hm1 (by omega)).mono ?_
  rintro e w2 ⟨v, rfl, g2, c2, rfl, hc2, ⟨hM2, _⟩, hr2, hg2⟩
  have HR2 := Lib.hid hr2
  have HR1' := Lib.hid (HR1.out.grows (Nat.le_refl _) hg2)
  have hg2' := hg1.trans hg2
  have hm2 := hm1.grows hg2
  have z2 := hg2.size
  clear hr2 hg2 HR1
  obtain ⟨L2, hL2⟩ : ∃ L, linesT o = L := ⟨_, rfl⟩
  rw [hL2] at HR2 hc2 hno HL HLo
  try rw [hL2]
  clear hL2
  go_wp2_with fail
  refine (split_any t w2 hm2 (by omega)).mono ?_
  rintro e w3 ⟨v, rfl, g3, c3, rfl, hc3, ⟨hM3, _⟩, hr3, hg3⟩
  have HR3 := Lib.hid hr3
  have HR2' := Lib.hid (HR2.out.grows (Nat.le_refl _) hg3)
  have HR1 := Lib.hid (HR1'.out.grows z2 hg3)
  have hg3' := hg2'.trans hg3
  have z3 := hg3.size
  have z23 := Nat.le_trans z2 z3
  clear hr3 hg3 hg2' HR2 HR1'
  obtain ⟨L3, hL3⟩ : ∃ L, linesT t = L := ⟨_, rfl⟩
  rw [hL3] at HR3 hc3 hnt HL HLt
  try rw [hL3]
  clear hL3
  have u1 := HLb.out
  have u2 := HLo.out
  have u3 := HLt.out
  go_wp2_with fail
  refine (of_v l _ _ _ _ _ _ c1 c2 c3 _ _ _ L1 L2 L3 w3 HL.out HR1.out HR2'.out HR3.out z23 z3 (Nat.le_refl _) (by omega) (by omega) (by omega) hc1 hc2 hc3 (by simp only [maxLen]; omega) (by simp only [maxLen]; omega) (by simp only [maxLen]; omega)).mono ?_
  rintro e w4 ⟨A4, n4, q4, rfl, hC4, hg4, hq4, hqM4⟩
  have HC4 := Lib.hid hC4
  have k4 := hC4.len
  have hg4' := hg3'.trans hg4
  clear hC4 hg4 hg3' HR1 HR2' HR3
  go_wp2_with fail
  refine (clean_v true _ A4 n4 q4 l w4 HCL.out HC4.out (Nat.le_refl _) (Nat.le_trans hq4 hqM4)).mono ?_
  rintro e w5 ⟨rfl, hg5⟩
  have HC5 := Lib.hid (HC4.out.grows (Nat.le_refl _) hg5)
  have hg5' := hg4'.trans hg5
  have z5 := hg5.size
  clear HC4 hg4' hg5
  go_wp2_with fail
  refine (merged_any _ A4 n4 q4 l w5 HC5.out z5 (by omega) (fun k _ => HMK.out k)).mono ?_
  rintro e w6 ⟨v, rfl, hown, hg6⟩
  obtain ⟨A6, c6, rfl, hc6, _⟩ := own_form hown
  have HR6 := Lib.hid (Reads.of_own hown)
  have hg6' := hg5'.trans hg6
  clear hown hg6 hg5' HC5
  go_wp2_with fail
  refine (join_all _ A6 _ c6 (mergeC l) w6 HR6.out (Nat.le_refl _) (by have := HML.out; omega) hc6 (by have := hfm.out; omega)).mono ?_
  rintro e w7 ⟨rfl, hg7⟩
  go_wp2_with fail
  go_ret2
  exact ⟨rfl, hg6'.trans hg7⟩
theorem merge_all (b o t : ByteArray) (w : World) (hm : MaxL w) (hb : b.size ≤ 1000) (ho : o.size ≤ 1000) (ht : t.size ≤ 1000) (hbl : (linesT b).length ≤ 450) (hol0 : (linesT o).length ≤ 450) (htl : (linesT t).length ≤ 450) :
    Calls Tryd.prog 14 #[.string b, .string o, .string t] w fun e w' => e = .returned (.tuple #[.string (mergedT (chunks (linesT b) (linesT o) (linesT t))), .bool (cleanC (chunks (linesT b) (linesT o) (linesT t)))]) ∧ Grows w w' := by
  cases hc : cleanC (chunks (linesT b) (linesT o) (linesT t)) with
  | true =>
    have := merge_yes _ b o t w hm (by omega) (by omega) (by omega) hbl hol0 htl rfl hc
    rw [mergedT, if_pos hc]
    exact this
  | false =>
    have := merge_other _ b o t w hm (by omega) (by omega) (by omega) hbl hol0 htl rfl hc (chunks_smallT hb ho ht)
    rw [mergedT, if_neg (by rw [hc]; simp)]
    exact this
end Go.Proofs.YtakgddochbcjbaaDoor
namespace Go.Proofs.YtakgddochbcjbaaDoor

/-- the lines that chunks come to, with marks -/
def outLs (c : ChkB) : List ByteArray := if c.1 = 5 then [mkO] ++ c.2.2.1 ++ [mkB] ++ c.2.1 ++ [mkT] ++ c.2.2.2 ++ [mkE] else mergeC [c]
def outLines (l : List ChkB) : List ByteArray := l.flatMap outLs
/-- a line that has its end, and is no mark -/
def LineP (x : ByteArray) : Prop := okLine true x.data.toList = true ∧ markF x = none
def ChunkP (c : ChkB) : Prop := (∀ x ∈ c.2.1, LineP x) ∧ (∀ x ∈ c.2.2.1, LineP x) ∧ (∀ x ∈ c.2.2.2, LineP x)
theorem merge_mem {c : ChkB} (h : ChunkP c) : ∀ x ∈ mergeC [c], LineP x := by
  intro x hx
  simp only [mergeC, List.flatMap_cons, List.flatMap_nil, List.append_nil] at hx
  split at hx
  · exact h.2.2 x hx
  · exact h.2.1 x hx
theorem endL_ok {u : List UInt8} (h : okLine true u = true) : ∃ v, u = v ++ [10] := by
  obtain ⟨v, hv, _⟩ := ok_more h
  exact ⟨v, hv⟩
def EndP (l : List UInt8) : Prop := l = [] ∨ ∃ u, l = u ++ [10]
theorem EndP.endL {l : List UInt8} (h : EndP l) : endL l = l := by
  rcases h with rfl | ⟨u, rfl⟩
  · rfl
  · rw [endL_last (b := 10) (k := u.length) (by simp) (by simp), if_pos rfl]
theorem EndP.app {l m : List UInt8} (hl : EndP l) (hm : EndP m) : EndP (l ++ m) := by
  rcases hm with rfl | ⟨u, rfl⟩
  · rw [List.append_nil]; exact hl
  · exact .inr ⟨l ++ u, by rw [List.append_assoc]⟩
theorem EndP.flat : ∀ {L : List ByteArray}, (∀ x ∈ L, LineP x) → EndP (flatS L)
  | [], _ => .inl rfl
  | x :: L, h => by
    have hx : EndP x.data.toList := .inr (endL_ok (h x (by simp)).1)
    exact hx.app (EndP.flat fun y hy => h y (by simp [hy]))
theorem endP_O : EndP mkO.data.toList := .inr ⟨[60, 60, 60, 60, 60, 60, 60, 32, 111, 117, 114, 115], rfl⟩
theorem endP_B : EndP mkB.data.toList := .inr ⟨[124, 124, 124, 124, 124, 124, 124, 32, 98, 97, 115, 101], rfl⟩
theorem endP_T : EndP mkT.data.toList := .inr ⟨[61, 61, 61, 61, 61, 61, 61], rfl⟩
theorem endP_E : EndP mkE.data.toList := .inr ⟨[62, 62, 62, 62, 62, 62, 62, 32, 116, 104, 101, 105, 114, 115], rfl⟩
theorem flatS_cons (x : ByteArray) (L : List ByteArray) : flatS (x :: L) = x.data.toList ++ flatS L := by simp [flatS, bl]
theorem flatS_nil : flatS [] = [] := rfl
theorem step_lines {out : List UInt8} {c : ChkB} (h : EndP out) (hc : ChunkP c) : stepL out c = out ++ flatS (outLs c) ∧ EndP (stepL out c) := by
  have f1 := EndP.flat hc.1
  have f2 := EndP.flat hc.2.1
  have f3 := EndP.flat hc.2.2
  unfold stepL outLs
  split
  · have g1 := h.app endP_O
    have g2 := g1.app f2
    have g3 := (g2.app endP_B).app f1
    have g4 := (g3.app endP_T).app f3
    have e0 := h.endL
    have e1 := g2.endL
    rw [← e0] at e1
    refine ⟨?_, ?_⟩
    · rw [h.endL, g2.endL, g3.endL, g4.endL]
      simp only [flat_app, flatS_cons, flatS_nil, List.append_nil, List.append_assoc]
    · rw [h.endL, g2.endL, g3.endL, g4.endL]
      exact g4.app endP_E
  · exact ⟨rfl, h.app (EndP.flat (merge_mem hc))⟩
theorem out_fold : ∀ (l : List ChkB) (out : List UInt8), EndP out → (∀ c ∈ l, ChunkP c) → l.foldl stepL out = out ++ flatS (outLines l)
  | [], out, _, _ => by simp [outLines, flatS, bl]
  | c :: l, out, h, hc => by
    obtain ⟨h1, h2⟩ := step_lines h (hc c (by simp))
    rw [List.foldl_cons, out_fold l _ h2 (fun d hd => hc d (by simp [hd])), h1, show outLines (c :: l) = outLs c ++ outLines l from rfl, flat_app, List.append_assoc]
theorem out_lines {l : List ChkB} (hc : ∀ c ∈ l, ChunkP c) : tx (outTo l l.length) = joinT (outLines l) := by
  rw [outTo, List.take_length, out_fold l [] (.inl rfl) hc, List.nil_append]
  rfl
theorem lines_clean : ∀ {l : List ChkB}, cleanC l = true → outLines l = mergeC l
  | [], _ => rfl
  | c :: l, h => by
    simp only [cleanC, List.all_cons, Bool.and_eq_true] at h
    have ih := lines_clean (l := l) h.2
    have h5 : ¬ c.1 = 5 := by simpa using h.1
    show outLs c ++ outLines l = _
    rw [ih, outLs, if_neg h5, ← merge_app]
    rfl
/-- the merged text is its lines -/
theorem merged_lines {l : List ChkB} (hc : ∀ c ∈ l, ChunkP c) : mergedT l = joinT (outLines l) := by
  unfold mergedT
  split
  · rename_i h; rw [lines_clean h]
  · exact out_lines hc
theorem out_ok {l : List ChkB} (hc : ∀ c ∈ l, ChunkP c) : ∀ x ∈ outLines l, ∀ m, okLine m x.data.toList = true := by
  intro x hx m
  have key : okLine true x.data.toList = true → okLine m x.data.toList = true := by
    intro h
    cases m with
    | true => exact h
    | false =>
      obtain ⟨u, hu, hn⟩ := ok_more h
      rw [hu]
      exact ok_end hn false
  refine key ?_
  obtain ⟨c, hcl, hxc⟩ := List.mem_flatMap.1 hx
  have hp := hc c hcl
  unfold outLs at hxc
  split at hxc
  · simp only [List.mem_append, List.mem_singleton] at hxc
    rcases hxc with ((((((h | h) | h) | h) | h) | h) | h)
    · subst h; decide
    · exact (hp.2.1 x h).1
    · subst h; decide
    · exact (hp.1 x h).1
    · subst h; decide
    · exact (hp.2.2 x h).1
    · subst h; decide
  · exact (merge_mem hp x hxc).1
theorem goodT_eachP : ∀ l : List ByteArray, (∀ x ∈ l, ∀ m, okLine m x.data.toList = true) → goodT l = true
  | [], _ => rfl
  | x :: l, h => good_cons (fun m => h x (by simp) m) (goodT_eachP l fun y hy => h y (by simp [hy]))
theorem merged_split {l : List ChkB} (hc : ∀ c ∈ l, ChunkP c) : linesT (mergedT l) = outLines l := by
  rw [merged_lines hc]
  exact lines_join _ (goodT_eachP _ (out_ok hc))
/-- plain lines, put behind what was read -/
def addS (l : List ChkB) (xs : List ByteArray) : List ChkB := xs.foldl (fun l s => putC l 0 s) l
def resL : List ChkB → List ChkB → List ChkB
  | [], l => l
  | c :: cs, l => if c.1 = 5 then resL cs (l ++ [(5, c.2.1, c.2.2.1, c.2.2.2)]) else resL cs (addS l (mergeC [c]))
theorem parse_plain : ∀ (xs rest : List ByteArray) (i : Int) (l : List ChkB), (∀ x ∈ xs, markF x = none) → parseC (xs ++ rest) i l = parseC rest i (xs.foldl (fun l s => putC l i s) l)
  | [], rest, i, l, _ => rfl
  | x :: xs, rest, i, l, h => by
    rw [List.cons_append, parseC_none (h x (by simp)), parse_plain xs rest i _ (fun y hy => h y (by simp [hy]))]
    rfl
theorem putC_in {init : List ChkB} {c : ChkB} {i : Int} (s : ByteArray) (hi : i ≠ 0) : putC (init ++ [c]) i s = init ++ [addC i s c] :=
  putC_old s (by rw [newC_snoc]; simp [hi])
theorem fold_in (i : Int) (hi : i ≠ 0) : ∀ (xs : List ByteArray) (init : List ChkB) (c : ChkB), xs.foldl (fun l s => putC l i s) (init ++ [c]) = init ++ [xs.foldl (fun c s => addC i s c) c]
  | [], init, c => rfl
  | x :: xs, init, c => by rw [List.foldl_cons, putC_in x hi, fold_in i hi xs, List.foldl_cons]
theorem add1 : ∀ (xs : List ByteArray) (k : Int) (a b c : List ByteArray), xs.foldl (fun c s => addC 1 s c) (k, a, b, c) = (k, a, b ++ xs, c)
  | [], k, a, b, c => by simp
  | x :: xs, k, a, b, c => by rw [List.foldl_cons, show addC 1 x (k, a, b, c) = (k, a, b ++ [x], c) by simp [addC], add1]; simp
theorem add2 : ∀ (xs : List ByteArray) (k : Int) (a b c : List ByteArray), xs.foldl (fun c s => addC 2 s c) (k, a, b, c) = (k, a ++ xs, b, c)
  | [], k, a, b, c => by simp
  | x :: xs, k, a, b, c => by rw [List.foldl_cons, show addC 2 x (k, a, b, c) = (k, a ++ [x], b, c) by simp [addC], add2]; simp
theorem add3 : ∀ (xs : List ByteArray) (k : Int) (a b c : List ByteArray), xs.foldl (fun c s => addC 3 s c) (k, a, b, c) = (k, a, b, c ++ xs)
  | [], k, a, b, c => by simp
  | x :: xs, k, a, b, c => by rw [List.foldl_cons, show addC 3 x (k, a, b, c) = (k, a, b, c ++ [x]) by simp [addC], add3]; simp
theorem mF_O : markF mkO = some 1 := by decide
theorem mF_B : markF mkB = some 2 := by decide
theorem mF_T : markF mkT = some 3 := by decide
theorem mF_E : markF mkE = some 0 := by decide
theorem parse_clash {c : ChkB} (hc : ChunkP c) (rest : List ByteArray) (l : List ChkB) :
    parseC ([mkO] ++ c.2.2.1 ++ [mkB] ++ c.2.1 ++ [mkT] ++ c.2.2.2 ++ [mkE] ++ rest) 0 l = parseC rest 0 (l ++ [(5, c.2.1, c.2.2.1, c.2.2.2)]) := by
  simp only [List.append_assoc, List.cons_append, List.nil_append]
  rw [parseC_mark mF_O (by decide), if_pos rfl, parse_plain _ _ _ _ (fun x hx => (hc.2.1 x hx).2), fold_in 1 (by decide), add1,
    parseC_mark mF_B (by decide), if_neg (by decide), parse_plain _ _ _ _ (fun x hx => (hc.1 x hx).2), fold_in 2 (by decide), add2,
    parseC_mark mF_T (by decide), if_neg (by decide), parse_plain _ _ _ _ (fun x hx => (hc.2.2 x hx).2), fold_in 3 (by decide), add3,
    parseC_mark mF_E (by decide), if_neg (by decide)]
  rfl
theorem parse_out : ∀ (cs : List ChkB) (l : List ChkB), (∀ c ∈ cs, ChunkP c) → parseC (outLines cs) 0 l = some (0, resL cs l)
  | [], l, _ => rfl
  | c :: cs, l, h => by
    have hc := h c (by simp)
    have ih := fun l => parse_out cs l (fun d hd => h d (by simp [hd]))
    show parseC (outLs c ++ outLines cs) 0 l = _
    unfold outLs resL
    split
    · rw [parse_clash hc, ih]
    · rw [parse_plain _ _ _ _ (fun x hx => (merge_mem hc x hx).2)]
      exact ih _
theorem parse_merged {l : List ChkB} (hc : ∀ c ∈ l, ChunkP c) : parseT (mergedT l) = some (resL l []) := by
  rw [parseT, merged_split hc, parse_out l [] hc]
  rfl
/-- how many clash -/
def clashN (l : List ChkB) : Nat := l.countP fun c => c.1 == 5
theorem clash_app (l m : List ChkB) : clashN (l ++ m) = clashN l + clashN m := by simp [clashN]
def pickB (l : List ChkB) (ours : Bool) : List UInt8 := l.flatMap fun c => flatS (sideC ours c)
theorem pick_app (l m : List ChkB) (ours : Bool) : pickB (l ++ m) ours = pickB l ours ++ pickB m ours := by simp [pickB]
theorem put_facts (l : List ChkB) (s : ByteArray) (ours : Bool) : clashN (putC l 0 s) = clashN l ∧ pickB (putC l 0 s) ours = pickB l ours ++ s.data.toList := by
  have one : ∀ c : ChkB, sideC ours (addC 0 s c) = sideC ours c ++ [s] := fun c => by unfold sideC addC; split <;> simp
  cases hn : newC l 0 with
  | true =>
    rw [putC_new s hn]
    refine ⟨by rw [clash_app]; simp [clashN, addC], ?_⟩
    rw [pick_app]
    congr 1
    have : pickB [addC 0 s (1, [], [], [])] ours = flatS (sideC ours (addC 0 s (1, [], [], []))) := by simp [pickB]
    rw [this, one]
    unfold sideC
    split <;> simp [flatS, bl]
  | false =>
    have hl : l ≠ [] := by
      rintro rfl
      rw [newC_nil] at hn
      simp at hn
    obtain ⟨init, c, rfl⟩ : ∃ init c, l = init ++ [c] := ⟨l.dropLast, l.getLast hl, (List.dropLast_concat_getLast hl).symm⟩
    rw [putC_old s hn, clash_app, clash_app, pick_app, pick_app]
    refine ⟨by congr 1, ?_⟩
    rw [List.append_assoc]
    congr 1
    have e : ∀ d : ChkB, pickB [d] ours = flatS (sideC ours d) := fun d => by simp [pickB]
    rw [e, e, one, flat_app]
    congr 1
    simp [flatS, bl]
theorem addS_facts (ours : Bool) : ∀ (xs : List ByteArray) (l : List ChkB), clashN (addS l xs) = clashN l ∧ pickB (addS l xs) ours = pickB l ours ++ flatS xs
  | [], l => ⟨rfl, by simp [addS, flatS, bl]⟩
  | x :: xs, l => by
    obtain ⟨h1, h2⟩ := addS_facts ours xs (putC l 0 x)
    obtain ⟨h3, h4⟩ := put_facts l x ours
    refine ⟨h1.trans h3, ?_⟩
    show pickB (addS (putC l 0 x) xs) ours = _
    rw [h2, h4, flatS_cons, List.append_assoc]
/-- what a chunk comes to, on one side -/
def sideB (ours : Bool) (c : ChkB) : List UInt8 := if c.1 = 5 then flatS (sideC ours c) else flatS (mergeC [c])
theorem resL_facts (ours : Bool) : ∀ (cs l : List ChkB), clashN (resL cs l) = clashN l + clashN cs ∧ pickB (resL cs l) ours = pickB l ours ++ cs.flatMap (sideB ours)
  | [], l => ⟨by simp [resL, clashN], by simp [resL]⟩
  | c :: cs, l => by
    unfold resL
    split
    · rename_i h5
      obtain ⟨h1, h2⟩ := resL_facts ours cs (l ++ [(5, c.2.1, c.2.2.1, c.2.2.2)])
      refine ⟨?_, ?_⟩
      · rw [h1, clash_app]
        have : clashN [(5, c.2.1, c.2.2.1, c.2.2.2)] = 1 := by simp [clashN]
        have e : clashN (c :: cs) = clashN cs + 1 := by simp [clashN, h5]
        omega
      · rw [h2, pick_app, List.flatMap_cons, List.append_assoc]
        congr 1
        have : pickB [(5, c.2.1, c.2.2.1, c.2.2.2)] ours = sideB ours c := by
          unfold sideB
          rw [if_pos h5]
          simp [pickB, sideC]
        rw [this]
    · rename_i h5
      obtain ⟨h1, h2⟩ := resL_facts ours cs (addS l (mergeC [c]))
      obtain ⟨h3, h4⟩ := addS_facts ours (mergeC [c]) l
      refine ⟨?_, ?_⟩
      · rw [h1, h3]
        have e : clashN (c :: cs) = clashN cs := by simp [clashN, h5]
        omega
      · rw [h2, h4, List.flatMap_cons, List.append_assoc, sideB, if_neg h5]
theorem clean_iff (l : List ChkB) : cleanC l = decide (clashN l = 0) := by
  rw [Bool.eq_iff_iff, decide_eq_true_eq, clashN, List.countP_eq_zero, cleanC, List.all_eq_true]
  simp
theorem sides_clean {l : List ChkB} (h : cleanC l = true) : ∀ ours, l.flatMap (sideB ours) = flatS (mergeC l) := by
  intro ours
  induction l with
  | nil => rfl
  | cons c l ih =>
    simp only [cleanC, List.all_cons, Bool.and_eq_true] at h
    have h5 : ¬ c.1 = 5 := by simpa using h.1
    rw [List.flatMap_cons, ih h.2, sideB, if_neg h5, ← flat_app, ← merge_app]
    rfl
end Go.Proofs.YtakgddochbcjbaaDoor
