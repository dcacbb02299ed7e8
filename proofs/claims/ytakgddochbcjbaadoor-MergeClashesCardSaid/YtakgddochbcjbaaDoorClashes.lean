/- A line that both changed, unlike: what the chunks of three such texts are. MergeClashes: the walk of the law. MergeClashes: the walk of the law. -/
import Derived.Test.YtakgddochbcjbaaDoorMergeAll
import Derived.Test.YtakgddochbcjbaaDoorDigits
namespace Go.Proofs.YtakgddochbcjbaaDoor

section
variable {α : Type}
def keepM (l : List α) : List (Int × α) := l.map fun s => ((1 : Int), s)
theorem kinds3_keep (l : List α) : kinds3 (keepM l) := by
  intro e he
  obtain ⟨s, _, rfl⟩ := List.mem_map.1 he
  exact .inl rfl
theorem side3_keep (l : List α) : side 3 (keepM l) = l := side_map_yes (k := 3) (j := 1) rfl l
theorem seg_mid (H T : List α) (x : α) : seg (H ++ x :: T) H.length (H.length + 1) = [x] := by
  rw [seg, List.take_append, List.take_of_length_le (by omega), show H.length + 1 - H.length = 1 by omega, List.drop_left' rfl]
  rfl
theorem seg_tail (H T : List α) (x : α) : seg (H ++ x :: T) (H.length + 1) (H ++ x :: T).length = T := by
  rw [seg, List.take_length, show H.length + 1 = (H ++ [x]).length by simp, show H ++ x :: T = (H ++ [x]) ++ T by simp, List.drop_left' rfl]
theorem seg_head (H T : List α) (x : α) : seg (H ++ x :: T) 0 H.length = H := by
  rw [seg, List.drop_zero, List.take_left' rfl]
end
section
variable {α : Type} [DecidableEq α]
theorem scr_selfK (t : List α) : scr t t = keepM t := by
  have := scr_front t [] ([] : List α)
  rw [List.append_nil, scr_nil] at this
  rw [this]
  simp [keepM]
theorem scr_put {T : List α} {y : α} (h : y ∉ T) : scr T (y :: T) = (3, y) :: keepM T := by
  cases T with
  | nil => rw [scr_nil]; rfl
  | cons t T =>
    have h1 : t ≠ y := fun e => h (by simp [e])
    rw [scr_ins h1 (by
      have e1 := lcs_self (t :: T)
      have e2 := lcs_le_left T (y :: t :: T)
      rw [e1, List.length_cons]
      omega), scr_selfK]
theorem scr_mid {H T : List α} {x y : α} (hxy : x ≠ y) (hy : y ∉ T) : scr (H ++ x :: T) (H ++ y :: T) = keepM H ++ (2, x) :: (3, y) :: keepM T := by
  rw [scr_front, scr_del hxy (by
    have e1 := lcs_le_right (x :: T) T
    have e2 := lcs_all (List.Sublist.refl T) (List.sublist_cons_self y T)
    omega), scr_put hy]
  rfl
theorem at3_mid {H T : List α} {x y : α} (hxy : x ≠ y) (hy : y ∉ T) (i : Nat) (hi : i < (H ++ x :: T).length) : at3 (H ++ x :: T) (H ++ y :: T) i = if i = H.length then -1 else (i : Int) := by
  have hp : plc (scr (H ++ x :: T) (H ++ y :: T)) 0 = plc (keepM H) 0 ++ -1 :: plc (keepM T) (H.length + 1) := by
    rw [scr_mid hxy hy, plc_app _ (kinds3_keep H), plc_2 rfl, plc_3 rfl, side3_keep, Nat.zero_add]
  have hl : (plc (keepM H) 0).length = H.length := by rw [plc_len (kinds3_keep H)]; exact congrArg List.length (side_map_yes (k := 2) (j := 1) rfl H)
  rw [at3, hp, List.getD_eq_getElem?_getD]
  rcases Nat.lt_trichotomy i H.length with h | h | h
  · rw [List.getElem?_append_left (by omega), show (plc (keepM H) 0)[i]? = _ from plc_all H 0 i h, if_neg (by omega)]
    simp
  · subst h
    rw [List.getElem?_append_right (by omega), hl, if_pos rfl, Nat.sub_self]
    rfl
  · rw [List.getElem?_append_right (by omega), hl, if_neg (by omega)]
    obtain ⟨d, hd⟩ : ∃ d, i - H.length = d + 1 := ⟨i - H.length - 1, by omega⟩
    rw [hd, List.getElem?_cons_succ, show (plc (keepM T) (H.length + 1))[d]? = _ from plc_all T (H.length + 1) d (by rw [List.length_append, List.length_cons] at hi; omega)]
    simp
    omega
/-- as far as line s, all goes on -/
theorem run_to {a b c : List α} {i s : Nat} (hi : i < s) (hs : s ≤ a.length) (hx : ∀ j, i ≤ j → j < s → at3 a b j = (j : Nat) ∧ at3 a c j = (j : Nat)) (hstop : s < a.length → at3 a b s < 0) : runN a b c i = s - i := by
  have h0 := hx i (Nat.le_refl _) hi
  have hp := runN_pos a b c i
  have hst := run_stop h0.1 h0.2
  have hal := fun d (hd : d < runN a b c i) => run_all (by omega) h0.1 h0.2 hd
  rcases Nat.lt_trichotomy (runN a b c i) (s - i) with h | h | h
  · have := hx (i + runN a b c i) (by omega) (by omega)
    exact absurd ⟨by omega, this.1, this.2⟩ hst
  · exact h
  · have := hal (s - i) h
    rw [show i + (s - i) = s by omega] at this
    have h2 := hstop this.1
    omega
def stab (l : List α) : List (Chk α) := if l = [] then [] else [(1, l, l, l)]
theorem chunks_mid {H T : List α} {x y z : α} (hxy : x ≠ y) (hxz : x ≠ z) (hyz : y ≠ z) (hy : y ∉ T) (hz : z ∉ T) :
    chunks (H ++ x :: T) (H ++ y :: T) (H ++ z :: T) = stab H ++ (5, [x], [y], [z]) :: stab T := by
  obtain ⟨A, hA⟩ : ∃ A, A = H ++ x :: T := ⟨_, rfl⟩
  obtain ⟨B, hB⟩ : ∃ B, B = H ++ y :: T := ⟨_, rfl⟩
  obtain ⟨C, hC⟩ : ∃ C, C = H ++ z :: T := ⟨_, rfl⟩
  have lA : A.length = H.length + 1 + T.length := by rw [hA]; simp; omega
  have lB : B.length = A.length := by rw [hA, hB]; simp
  have lC : C.length = A.length := by rw [hA, hC]; simp
  have kB : ∀ i, i < A.length → at3 A B i = if i = H.length then -1 else (i : Int) := fun i hi => by rw [hA] at hi; rw [hA, hB]; exact at3_mid hxy hy i hi
  have kC : ∀ i, i < A.length → at3 A C i = if i = H.length then -1 else (i : Int) := fun i hi => by rw [hA] at hi; rw [hA, hC]; exact at3_mid hxz hz i hi
  have sA := seg_mid H T x
  have sB := seg_mid H T y
  have sC := seg_mid H T z
  have tA := seg_tail H T x
  have hdA := seg_head H T x
  rw [← hA] at sA tA hdA
  rw [← hB] at sB
  rw [← hC] at sC
  have hk : knd [x] [y] [z] = 5 := by
    rw [knd, if_neg (by simpa using fun e => hxy e.symm), if_neg (by simpa using fun e => hxz e.symm), if_neg (by simpa using hyz)]
  have hpc : pieceC [x] [y] [z] = [(5, [x], [y], [z])] := by rw [pieceC_one (by simp), hk]
  have tail : chGo A B C (H.length + 1) H.length H.length H.length = (5, [x], [y], [z]) :: stab T := by
    rw [chGo]
    by_cases hT : T = []
    · have hl0 : T.length = 0 := by rw [hT]; rfl
      rw [if_neg (by omega), stab, if_pos hT, drop_end A, drop_end B, drop_end C, lB, lC, show A.length = H.length + 1 by omega, sA, sB, sC, hpc]
    · have hl0 : 0 < T.length := List.length_pos_iff.2 hT
      have e1 := kB (H.length + 1) (by omega)
      have e2 := kC (H.length + 1) (by omega)
      rw [if_neg (by omega)] at e1 e2
      have hr : runN A B C (H.length + 1) = A.length - (H.length + 1) := run_to (by omega) (Nat.le_refl _) (fun j h1 h2 => by
        have f1 := kB j h2
        have f2 := kC j h2
        rw [if_neg (by omega)] at f1 f2
        exact ⟨f1, f2⟩) (fun h => absurd h (by omega))
      rw [if_pos (by omega), if_neg (by rw [e1, e2]; omega), e1, e2, Int.toNat_natCast, hr, sA, sB, sC, hpc, show H.length + 1 + (A.length - (H.length + 1)) = A.length by omega, tA, chGo, if_neg (by omega)]
      rw [List.drop_eq_nil_of_le (Nat.le_refl _), List.drop_eq_nil_of_le (by omega), List.drop_eq_nil_of_le (by omega), pieceC_nil rfl rfl rfl, stab, if_neg hT]
      rfl
  have hm := kB H.length (by omega)
  rw [if_pos rfl] at hm
  rw [← hA, ← hB, ← hC, chunks, chGo, if_pos (by omega)]
  by_cases hH : H = []
  · have hl0 : H.length = 0 := by rw [hH]; rfl
    rw [hl0] at tail hm
    rw [if_pos (by omega), stab, if_pos hH, List.nil_append]
    exact tail
  · have hl0 : 0 < H.length := List.length_pos_iff.2 hH
    have e1 := kB 0 (by omega)
    have e2 := kC 0 (by omega)
    rw [if_neg (by omega)] at e1 e2
    have hr : runN A B C 0 = H.length := run_to (s := H.length) hl0 (by omega) (fun j h1 h2 => by
      have f1 := kB j (by omega)
      have f2 := kC j (by omega)
      rw [if_neg (by omega)] at f1 f2
      exact ⟨f1, f2⟩) (fun _ => by omega)
    rw [if_neg (by rw [e1, e2]; simp), e1, e2, hr]
    simp only [Nat.zero_add, Int.toNat_natCast, seg_same, hdA]
    rw [pieceC_nil rfl rfl rfl, chGo, if_pos (by omega), if_pos (by omega), tail, show stab H = [(1, H, H, H)] by rw [stab, if_neg hH]]
    rfl
end
theorem endL_end (u : List UInt8) : endL (u ++ [10]) = u ++ [10] := by
  have h : Lib.hasSuffix (u ++ [10]) [10] = true := by simp [Lib.hasSuffix]
  rw [endL, if_neg (by simp), if_pos h]
/-- nothing, or ended -/
def EndOK (l : List UInt8) : Prop := l = [] ∨ ∃ u, l = u ++ [10]
theorem EndOK.endL {l : List UInt8} (h : EndOK l) : endL l = l := by
  rcases h with rfl | ⟨u, rfl⟩
  · rfl
  · exact endL_end u
theorem EndOK.app {l m : List UInt8} (hl : EndOK l) (hm : EndOK m) : EndOK (l ++ m) := by
  rcases hm with rfl | ⟨u, rfl⟩
  · rw [List.append_nil]; exact hl
  · exact .inr ⟨l ++ u, by rw [List.append_assoc]⟩
theorem EndOK.flat : ∀ {L : List ByteArray}, (∀ x ∈ L, EndOK x.data.toList) → EndOK (flatS L)
  | [], _ => .inl rfl
  | x :: L, h => (h x (by simp)).app (EndOK.flat fun y hy => h y (by simp [hy]))
theorem flatS_one (x : ByteArray) : flatS [x] = x.data.toList := by simp [flatS, bl]
theorem fold_stab (H : List ByteArray) (out : List UInt8) : (stab H).foldl stepL out = out ++ flatS H := by
  unfold stab
  split
  · rename_i h; subst h; simp [flatS, bl]
  · show stepL out (1, H, H, H) = _
    rw [stepL, if_neg (show ¬ ((1 : Int) = 5) by decide)]
    congr 1
    simp [mergeC]
theorem out_mid {H T : List ByteArray} {x y z : ByteArray} (hH : ∀ v ∈ H, EndOK v.data.toList) (hx : EndOK x.data.toList) (hy : EndOK y.data.toList) (hz : EndOK z.data.toList) :
    outTo (stab H ++ (5, [x], [y], [z]) :: stab T) (stab H ++ (5, [x], [y], [z]) :: stab T).length = flatS H ++ mkO.data.toList ++ y.data.toList ++ mkB.data.toList ++ x.data.toList ++ mkT.data.toList ++ z.data.toList ++ mkE.data.toList ++ flatS T := by
  have eO : EndOK mkO.data.toList := .inr ⟨[60, 60, 60, 60, 60, 60, 60, 32, 111, 117, 114, 115], rfl⟩
  have eB : EndOK mkB.data.toList := .inr ⟨[124, 124, 124, 124, 124, 124, 124, 32, 98, 97, 115, 101], rfl⟩
  have eT : EndOK mkT.data.toList := .inr ⟨[61, 61, 61, 61, 61, 61, 61], rfl⟩
  have fH := EndOK.flat hH
  rw [outTo, List.take_length, List.foldl_append, fold_stab, List.foldl_cons, fold_stab, List.nil_append, stepL, if_pos rfl]
  simp only [flatS_one]
  rw [fH.endL, ((fH.app eO).app hy).endL, ((((fH.app eO).app hy).app eB).app hx).endL, ((((((fH.app eO).app hy).app eB).app hx).app eT).app hz).endL]
end Go.Proofs.YtakgddochbcjbaaDoor
namespace Go.Proofs.YtakgddochbcjbaaDoor
open Go.RowKit Go.Deep Go.MapKept

/-- a line: a letter, a number, an end -/
def lnC (c v : Nat) : ByteArray := byteT c ++ digT v ++ byteT 10
def lnsC (c n : Nat) : List ByteArray := (List.range n).map (lnC c)
def txtC (c n : Nat) : ByteArray := joinT (lnsC c n)
theorem lnsC_succ (c n : Nat) : lnsC c (n + 1) = lnsC c n ++ [lnC c n] := by simp [lnsC, List.range_succ]
theorem joinT_app (l m : List ByteArray) : joinT (l ++ m) = joinT l ++ joinT m := by
  apply ByteArray.ext
  rw [ByteArray.data_append]
  simp [joinT, bl, tx]
theorem joinT_one (x : ByteArray) : joinT [x] = x := by
  apply ByteArray.ext
  simp [joinT, bl, tx]
theorem txtC_succ (c n : Nat) : txtC c (n + 1) = txtC c n ++ byteT c ++ digT n ++ byteT 10 := by
  rw [txtC, lnsC_succ, joinT_app, joinT_one, lnC, ← txtC, ByteArray.append_assoc, ByteArray.append_assoc, ByteArray.append_assoc]
theorem c104 : byteT 104 = { data := #[104] } := rfl
theorem c116 : byteT 116 = { data := #[116] } := rfl
theorem c10 : byteT 10 = { data := #[10] } := rfl
theorem digT_le {v : Nat} : (digT v).size ≤ 2 := by
  unfold digT
  split
  · exact (by decide : 1 ≤ 2)
  · exact Nat.le_refl 2
/-- all that is claimed of the lines, of any ten -/
theorem lnC_ok : ((List.range 10).all fun v => okLine true (lnC 104 v).data.toList && okLine false (lnC 104 v).data.toList && okLine true (lnC 116 v).data.toList && okLine false (lnC 116 v).data.toList && decide ((lnC 104 v).size = 3) && decide ((lnC 116 v).size = 3) && decide ((lnC 104 v).data.toList.head? = some 104) && decide ((lnC 116 v).data.toList.head? = some 116)) = true := by decide +kernel
structure LineOK (c : UInt8) (x : ByteArray) : Prop where
  ok : ∀ m, okLine m x.data.toList = true
  hd : x.data.toList.head? = some c
theorem mem_lnsC {c n : Nat} {x : ByteArray} (h : x ∈ lnsC c n) : ∃ v, v < n ∧ x = lnC c v := by
  obtain ⟨v, hv, rfl⟩ := List.mem_map.1 h
  exact ⟨v, List.mem_range.1 hv, rfl⟩
theorem lnsC_line {n : Nat} {x : ByteArray} (hn : n ≤ 10) : (x ∈ lnsC 104 n → LineOK 104 x ∧ x.size = 3) ∧ (x ∈ lnsC 116 n → LineOK 116 x ∧ x.size = 3) := by
  constructor
  all_goals
    intro h
    obtain ⟨v, hv, rfl⟩ := mem_lnsC h
    have h := List.all_eq_true.1 lnC_ok v (List.mem_range.2 (by omega))
    simp only [Bool.and_eq_true, decide_eq_true_eq] at h
    obtain ⟨⟨⟨⟨⟨⟨⟨a, b⟩, c⟩, d⟩, e⟩, f⟩, g⟩, i⟩ := h
    refine ⟨⟨fun m => ?_, by assumption⟩, by assumption⟩
    cases m <;> assumption
/-- a text without its ends, behind a letter -/
def lineTo (m : UInt8) (s : ByteArray) (k : Nat) : ByteArray := tx (m :: ((s.data.toList.take k).filter fun b => b != 10))
def lineF (m : UInt8) (s : ByteArray) : ByteArray := tx ((m :: (s.data.toList.filter fun b => b != 10)) ++ [10])
theorem lineF_ok {m : UInt8} (hm : m ≠ 10) (s : ByteArray) : LineOK m (lineF m s) := by
  have h : (10 : UInt8) ∉ m :: (s.data.toList.filter fun b => b != 10) := by
    intro h
    rcases List.mem_cons.1 h with h | h
    · exact hm h.symm
    · have := (List.mem_filter.1 h).2
      simp at this
  refine ⟨fun k => ?_, ?_⟩
  · rw [lineF, data_tx]; exact ok_end h k
  · rw [lineF, data_tx]; rfl
theorem lineF_size (m : UInt8) (s : ByteArray) : (lineF m s).size ≤ s.size + 2 := by
  rw [lineF, tx_size, List.length_append, List.length_cons]
  have h1 := List.length_filter_le (fun b => b != 10) s.data.toList
  have h2 : s.data.toList.length = s.size := Array.length_toList
  simp only [List.length_cons, List.length_nil]
  omega
theorem LineOK.ne {c d : UInt8} {x y : ByteArray} (hx : LineOK c x) (hy : LineOK d y) (h : c ≠ d) : x ≠ y := by
  rintro rfl
  have := hx.hd.symm.trans hy.hd
  exact h (Option.some.inj this)
theorem LineOK.end_ {c : UInt8} {x : ByteArray} (h : LineOK c x) : EndOK x.data.toList := by
  obtain ⟨u, hu, _⟩ := ok_more (h.ok true)
  exact .inr ⟨u, hu⟩
theorem goodT_lines : ∀ l : List ByteArray, (∀ x ∈ l, ∀ m, okLine m x.data.toList = true) → goodT l = true
  | [], _ => rfl
  | x :: l, h => good_cons (fun m => h x (by simp) m) (goodT_lines l fun y hy => h y (by simp [hy]))
theorem part_le {l : List ChkB} {c : ChkB} (h : c ∈ l) (f : ChkB → List ByteArray) : (f c).length ≤ (l.flatMap f).length ∧ (flatS (f c)).length ≤ (flatS (l.flatMap f)).length := by
  obtain ⟨l1, l2, rfl⟩ := List.append_of_mem h
  constructor
  · simp only [List.flatMap_append, List.flatMap_cons, List.length_append]
    omega
  · simp only [flatS, bl, List.flatMap_append, List.flatMap_cons, List.map_append, List.flatten_append, List.length_append]
    omega
theorem chunks_small {b o t : ByteArray} (hb : b.size ≤ 1000) (ho : o.size ≤ 1000) (ht : t.size ≤ 1000) : ∀ k, k < (chunks (linesT b) (linesT o) (linesT t)).length → SmallC (gch (chunks (linesT b) (linesT o) (linesT t)) k) := by
  intro k hk
  have hm : gch (chunks (linesT b) (linesT o) (linesT t)) k ∈ chunks (linesT b) (linesT o) (linesT t) := by
    rw [gch, List.getD_eq_getElem?_getD, List.getElem?_eq_getElem hk]
    exact List.getElem_mem hk
  obtain ⟨w1, w2, w3⟩ := chunks_whole (linesT b) (linesT o) (linesT t)
  have p1 := part_le hm (·.2.1)
  have p2 := part_le hm (·.2.2.1)
  have p3 := part_le hm (·.2.2.2)
  rw [w1] at p1
  rw [w2] at p2
  rw [w3] at p3
  have f1 := flat_lines b
  have f2 := flat_lines o
  have f3 := flat_lines t
  have g1 := lines_le b
  have g2 := lines_le o
  have g3 := lines_le t
  have e1 : (flatS (linesT b)).length = b.size := f1
  have e2 : (flatS (linesT o)).length = o.size := f2
  have e3 : (flatS (linesT t)).length = t.size := f3
  exact ⟨⟨by omega, by omega, by omega⟩, by omega, by omega, by omega⟩

def mkText (nh nt : Nat) (x : ByteArray) : ByteArray := txtC 104 nh ++ x ++ txtC 116 nt
theorem mkText_lines {nh nt : Nat} {x : ByteArray} {c : UInt8} (hh : nh ≤ 10) (ht : nt ≤ 10) (hx : LineOK c x) : linesT (mkText nh nt x) = lnsC 104 nh ++ x :: lnsC 116 nt := by
  have e : mkText nh nt x = joinT (lnsC 104 nh ++ x :: lnsC 116 nt) := by
    rw [show lnsC 104 nh ++ x :: lnsC 116 nt = lnsC 104 nh ++ ([x] ++ lnsC 116 nt) from rfl, joinT_app, joinT_app, joinT_one, mkText, txtC, txtC, ByteArray.append_assoc]
  rw [e]
  refine lines_join _ (goodT_lines _ fun v hv m => ?_)
  rcases List.mem_append.1 hv with h | h
  · exact ((lnsC_line hh).1 h).1.ok m
  · rcases List.mem_cons.1 h with rfl | h
    · exact hx.ok m
    · exact ((lnsC_line ht).2 h).1.ok m
theorem txt_size {c n : Nat} (h : ∀ x ∈ lnsC c n, x.size = 3) : (txtC c n).size ≤ 3 * n := by
  have key : ∀ l : List ByteArray, (∀ x ∈ l, x.size = 3) → (joinT l).size ≤ 3 * l.length := by
    intro l
    induction l with
    | nil => intro _; simp [joinT, bl, tx_size]
    | cons x l ih =>
      intro h
      have := ih fun y hy => h y (by simp [hy])
      have hx := h x (by simp)
      rw [show x :: l = [x] ++ l from rfl, joinT_app, joinT_one, ByteArray.size_append]
      simp only [List.length_append, List.length_cons, List.length_nil]
      omega
  have := key _ h
  rwa [show (lnsC c n).length = n by simp [lnsC]] at this
theorem txtH_size {n : Nat} (h : n ≤ 10) : (txtC 104 n).size ≤ 30 := by
  have := txt_size (c := 104) (n := n) fun x hx => ((lnsC_line h).1 hx).2
  omega
theorem txtT_size {n : Nat} (h : n ≤ 10) : (txtC 116 n).size ≤ 30 := by
  have := txt_size (c := 116) (n := n) fun x hx => ((lnsC_line h).2 hx).2
  omega
theorem mkText_size {nh nt : Nat} {x : ByteArray} (hh : nh ≤ 10) (ht : nt ≤ 10) (hx : x.size ≤ 500) : (mkText nh nt x).size ≤ 600 := by
  have h1 := txtH_size hh
  have h2 := txtT_size ht
  rw [mkText, ByteArray.size_append, ByteArray.size_append]
  omega
theorem tx_app (l m : List UInt8) : tx (l ++ m) = tx l ++ tx m := by
  apply ByteArray.ext
  rw [ByteArray.data_append]
  simp [tx]
theorem tx_flat (H : List ByteArray) : tx (flatS H) = joinT H := rfl
/-- what three such texts come to -/
theorem clash_out {nh nt : Nat} {b o u : ByteArray} (hh : nh ≤ 10) (ht : nt ≤ 10) (hb : LineOK 98 b) (ho : LineOK 111 o) (hu : LineOK 117 u) :
    cleanC (chunks (linesT (mkText nh nt b)) (linesT (mkText nh nt o)) (linesT (mkText nh nt u))) = false ∧
    tx (outTo (chunks (linesT (mkText nh nt b)) (linesT (mkText nh nt o)) (linesT (mkText nh nt u))) (chunks (linesT (mkText nh nt b)) (linesT (mkText nh nt o)) (linesT (mkText nh nt u))).length) =
      txtC 104 nh ++ mkO ++ o ++ mkB ++ b ++ mkT ++ u ++ mkE ++ txtC 116 nt := by
  rw [mkText_lines hh ht hb, mkText_lines hh ht ho, mkText_lines hh ht hu]
  have no : o ∉ lnsC 116 nt := fun h => (ho.ne ((lnsC_line ht).2 h).1 (by decide)) rfl
  have nu : u ∉ lnsC 116 nt := fun h => (hu.ne ((lnsC_line ht).2 h).1 (by decide)) rfl
  rw [chunks_mid (hb.ne ho (by decide)) (hb.ne hu (by decide)) (ho.ne hu (by decide)) no nu]
  refine ⟨?_, ?_⟩
  · rw [clean_app]
    simp [cleanC]
  · rw [out_mid (fun v hv => ((lnsC_line hh).1 hv).1.end_) hb.end_ ho.end_ hu.end_]
    simp only [tx_app, tx_data, tx_flat]
    rfl
end Go.Proofs.YtakgddochbcjbaaDoor
namespace Go.Proofs.YtakgddochbcjbaaDoor
open Go.RowKit Go.Deep Go.MapKept

theorem byte_getC {p : ByteArray} {k : Nat} (h : k < p.size) : p.data.toList[k]? = some p[k] := by
  rw [Array.getElem?_toList]
  exact Array.getElem?_eq_getElem h
theorem lineTo_succ {m : UInt8} {s : ByteArray} {k : Nat} (h : k < s.size) : lineTo m s (k + 1) = if s[k] = 10 then lineTo m s k else lineTo m s k ++ tx [s[k]] := by
  have hl : k < s.data.toList.length := h
  have e : s.data.toList.take (k + 1) = s.data.toList.take k ++ [s[k]] := by
    rw [List.take_add_one, byte_getC h]; rfl
  rw [lineTo, e, List.filter_append, ← List.cons_append, tx_app]
  split
  · rename_i h10
    rw [h10, show [(10 : UInt8)].filter (fun b => b != 10) = [] from rfl, show tx ([] : List UInt8) = ByteArray.empty from rfl, ByteArray.append_empty, lineTo]
  · rename_i h10
    have : [s[k]].filter (fun b => b != 10) = [s[k]] := by simp [h10]
    rw [this, lineTo]
theorem extract_one {p : ByteArray} {k : Nat} (h : k < p.size) : p.extract k (k + 1) = tx [p[k]] := by
  apply ByteArray.ext
  apply Array.ext'
  have : k < p.data.size := h
  rw [ByteArray.data_extract, Array.toList_extract, tx, List.extract_eq_take_drop, show k + 1 - k = 1 by omega]
  show List.take 1 (List.drop k p.data.toList) = [p[k]]
  rw [List.drop_eq_getElem_cons (by simpa using this)]
  rfl
theorem lineTo_size (m : UInt8) (s : ByteArray) (k : Nat) : (lineTo m s k).size ≤ s.size + 1 := by
  rw [lineTo, tx_size, List.length_cons]
  have h1 := List.length_filter_le (fun b => b != 10) (s.data.toList.take k)
  have h2 : s.data.toList.length = s.size := Array.length_toList
  rw [List.length_take] at h1
  omega
set_option maxRecDepth 100000 in
set_option maxHeartbeats 1000000 in
theorem cline_any (m : UInt8) (s mk : ByteArray) (hmk : mk = tx [m]) (w : World) (hs : s.size ≤ 10000) :
    Calls Tryd.prog 20 #[.string s, .string mk] w fun e w' => e = .returned (.string (lineF m s)) ∧ w = w' := by
  have h0 := Lib.hid (show mk = lineTo m s 0 from hmk)
  clear hmk
  go_enter Tryd.func20, Tryd.ntmps20
  go_wp2_with fail
  go_loopg [5, 6] s.size (fun gk o q wr => w = wr ∧ ∃ k : Nat, q = .int .i64 k ∧ k ≤ s.size ∧ gk = s.size - k ∧ o = .string (lineTo m s k))
  case atStart => exact ⟨rfl, 0, rfl, by omega, rfl, by rw [← h0.out]⟩
  case round =>
    obtain ⟨rfl, k, rfl, hk, hgk, rfl⟩ := hrel
    have HG := Lib.hid hgk
    clear hgk
    have hz := lineTo_size m s k
    by_cases hlt : k < s.size
    · have k0 : (0 : Int) ≤ k := by omega
      have k1 : (k : Int) < s.size := by omega
      have hget := byte_getC hlt
      have hsu := Lib.hid (lineTo_succ (m := m) hlt)
      have hex := Lib.hid (extract_one hlt)
      obtain ⟨o, ho⟩ : ∃ o, o = lineTo m s k := ⟨_, rfl⟩
      rw [← ho] at hz hsu ⊢
      clear ho
      cases he : (((s[k]).toNat : Int) == 10) with
      | true =>
        have hf := Lib.hid (show lineTo m s (k + 1) = o by
          rw [hsu.out, if_pos]
          have h1 : (s[k]).toNat = 10 := by have := beq_iff_eq.1 he; omega
          exact UInt8.toNat_inj.1 h1)
        clear hsu
        go_wp2_with fail
        go_roundg (s.size - (k + 1))
        case measure => rw [HG.out]; omega
        case rel => exact ⟨rfl, k + 1, by go_num, by omega, rfl, by rw [hf.out]⟩
      | false =>
        have hf := Lib.hid (show lineTo m s (k + 1) = o ++ s.extract k (k + 1) by
          rw [hsu.out, if_neg, hex.out]
          intro h1
          rw [h1] at he
          simp at he)
        clear hsu hex
        go_wp2_with fail
        go_roundg (s.size - (k + 1))
        case measure => rw [HG.out]; omega
        case rel => exact ⟨rfl, k + 1, by go_num, by omega, rfl, by rw [hf.out]⟩
    · have hks : k = s.size := by omega
      subst hks
      have k1 : ¬ (((s.size : Nat) : Int) < s.size) := by omega
      have hf := Lib.hid (show lineTo m s s.size ++ { data := #[10] } = lineF m s by
        rw [lineTo, List.take_of_length_le (by rw [Array.length_toList]; exact Nat.le_refl _), lineF, tx_app]; rfl)
      go_wp2_with fail
      go_ret
      exact ⟨congrArg (fun z => Ending.returned (.string z)) hf.out, rfl⟩

set_option maxRecDepth 100000 in
set_option pp.deepTerms true in
set_option pp.maxSteps 1000000 in
set_option maxRecDepth 100000 in
set_option maxHeartbeats 4000000 in
theorem mclash_any (A1 A2 : Option Addr) (n1 n2 c1 c2 : Nat) (s1 s2 s3 : ByteArray) (w : World) (hm : MaxL w) (hn1 : n1 ≤ maxLen) (hn2 : n2 ≤ maxLen) :
    Calls Tryd.prog 5 #[.slice A1 n1 c1, .slice A2 n2 c2, .string s1, .string s2, .string s3] w fun e w' => e = .returned (.bool true) ∧ Grows w w' := by
  unfold maxLen at hn1 hn2
  by_cases h1 : 10 < n1
  · have h1' : (n1 : Int) > 10 := by omega
    go_enter Tryd.func5, Tryd.ntmps5
    go_wp2_with fail
    refine (mawake_any _ hm).mono ?_
    rintro e w1 ⟨rfl, hg1⟩
    go_wp2_with fail
    go_ret
    exact ⟨rfl, hg1⟩
  have h1' : ¬ ((n1 : Int) > 10) := by omega
  by_cases h2 : 10 < n2
  · have h2' : (n2 : Int) > 10 := by omega
    go_enter Tryd.func5, Tryd.ntmps5
    go_wp2_with fail
    refine (mawake_any _ hm).mono ?_
    rintro e w1 ⟨rfl, hg1⟩
    go_wp2_with fail
    go_ret
    exact ⟨rfl, hg1⟩
  have h2' : ¬ ((n2 : Int) > 10) := by omega
  have hr0 := Reads.newRow w 9 (strs [s1, s2, s3]) (0, 0)
  have hg0 := (Grows.refl w).alloc (.cells (strs [s1, s2, s3]).toArray 9 (0, 0))
  have HF := Lib.hid (few_lines _ _ 3 3 [s1, s2, s3] (w.alloc (.cells (strs [s1, s2, s3]).toArray 9 (0, 0))) hr0 (by decide))
  clear hr0
  cases hd : fewN 3 [s1, s2, s3] with
  | false =>
    rw [hd] at HF
    clear hd
    go_enter Tryd.func5, Tryd.ntmps5
    go_wp2_with fail
    refine HF.out.mono ?_
    rintro e _ ⟨rfl, rfl⟩
    clear HF
    go_wp2_with fail
    refine (mawake_any _ (hm.grows hg0)).mono ?_
    rintro e w5 ⟨rfl, hg5⟩
    go_wp2_with fail
    go_ret
    exact ⟨rfl, hg0.trans hg5⟩
  | true =>
    have hfew := fewN_iff.1 hd
    have z1 : s1.size ≤ 400 := hfew 0 (by decide)
    have z2 : s2.size ≤ 400 := hfew 1 (by decide)
    have z3 : s3.size ≤ 400 := hfew 2 (by decide)
    rw [hd] at HF
    clear hfew hd
    have HT0 := Lib.hid (show txtC 104 0 = { data := #[] } from rfl)
    have HT1 := Lib.hid (show txtC 116 0 = { data := #[] } from rfl)
    go_enter Tryd.func5, Tryd.ntmps5
    go_wp2_with fail
    refine HF.out.mono ?_
    rintro e w2 ⟨rfl, hw2⟩
    have HG2 := Lib.hid (show Grows w w2 from hw2 ▸ hg0)
    clear HF hw2 hg0
    go_wp2_with fail
    go_loopg [11, 13] n1 (fun gk av q wr => ∃ i : Nat, q = .int .i64 i ∧ i ≤ n1 ∧ gk = n1 - i ∧ av = .string (txtC 104 i) ∧ Grows w wr)
    case atStart => exact ⟨0, rfl, by omega, rfl, by rw [HT0.out], HG2.out⟩
    case round =>
      obtain ⟨i, rfl, hi, hgk, rfl, hgr⟩ := hrel
      have HG := Lib.hid hgk
      have HGR := Lib.hid hgr
      clear hgk hgr HG2
      by_cases hlt : i < n1
      · have i0 : (0 : Int) ≤ i := by omega
        have i1 : (i : Int) < n1 := by omega
        have HA := Lib.hid (txtC_succ 104 i)
        rw [c104, c10] at HA
        have y1 := txtH_size (n := i) (by omega)
        have y2 := digT_le (v := i)
        have hdg := dig_any i wr (by omega)
        generalize txtC 104 i = ta at y1 HA ⊢
        go_wp2_with fail
        refine hdg.mono ?_
        rintro e w3 ⟨rfl, hg3⟩
        go_wp2_with fail
        go_roundg (n1 - (i + 1))
        case measure => rw [HG.out]; omega
        case rel => exact ⟨i + 1, by go_num, by omega, rfl, by rw [HA.out], HGR.out.trans hg3⟩
      · have hin : i = n1 := by omega
        have i1 : ¬ ((i : Int) < n1) := by omega
        subst hin
        clear HT0
        go_wp2_with fail
        go_loopg [12, 14] n2 (fun gk bv q wx => ∃ j : Nat, q = .int .i64 j ∧ j ≤ n2 ∧ gk = n2 - j ∧ bv = .string (txtC 116 j) ∧ Grows w wx)
        case atStart => exact ⟨0, rfl, by omega, rfl, by rw [HT1.out], HGR.out⟩
        case round =>
          obtain ⟨j, rfl, hj, hgj, rfl, hgx⟩ := hrel
          have HJ := Lib.hid hgj
          have HGX := Lib.hid hgx
          clear hgj hgx HGR
          by_cases hlj : j < n2
          · have i0 : (0 : Int) ≤ j := by omega
            have j1 : (j : Int) < n2 := by omega
            have HA := Lib.hid (txtC_succ 116 j)
            rw [c116, c10] at HA
            have y1 := txtT_size (n := j) (by omega)
            have y2 := digT_le (v := j)
            have hdg := dig_any j wr (by omega)
            generalize txtC 116 j = ta at y1 HA ⊢
            go_wp2_with fail
            refine hdg.mono ?_
            rintro e w3 ⟨rfl, hg3⟩
            go_wp2_with fail
            go_roundg (n2 - (j + 1))
            case measure => rw [HJ.out]; omega
            case rel => exact ⟨j + 1, by go_num, by omega, rfl, by rw [HA.out], HGX.out.trans hg3⟩
          · have hjn : j = n2 := by omega
            have j1 : ¬ ((j : Int) < n2) := by omega
            subst hjn
            have ob := lineF_ok (m := 98) (by decide) s1
            have oo := lineF_ok (m := 111) (by decide) s2
            have ou := lineF_ok (m := 117) (by decide) s3
            have lb := lineF_size 98 s1
            have lo := lineF_size 111 s2
            have lu := lineF_size 117 s3
            have HCO := Lib.hid (clash_out (nh := i) (nt := j) (by omega) (by omega) ob oo ou)
            have tb := mkText_size (nh := i) (nt := j) (x := lineF 98 s1) (by omega) (by omega) (by omega)
            have to_ := mkText_size (nh := i) (nt := j) (x := lineF 111 s2) (by omega) (by omega) (by omega)
            have tu := mkText_size (nh := i) (nt := j) (x := lineF 117 s3) (by omega) (by omega) (by omega)
            have yb : (linesT (mkText i j (lineF 98 s1))).length ≤ 400 := by rw [mkText_lines (by omega) (by omega) ob]; simp [lnsC]; omega
            have yo : (linesT (mkText i j (lineF 111 s2))).length ≤ 400 := by rw [mkText_lines (by omega) (by omega) oo]; simp [lnsC]; omega
            have yu : (linesT (mkText i j (lineF 117 s3))).length ≤ 400 := by rw [mkText_lines (by omega) (by omega) ou]; simp [lnsC]; omega
            have hmer := fun wx (hx : MaxL wx) => merge_other _ (mkText i j (lineF 98 s1)) (mkText i j (lineF 111 s2)) (mkText i j (lineF 117 s3)) wx hx (by omega) (by omega) (by omega) yb yo yu rfl HCO.out.1 (chunks_small (by omega) (by omega) (by omega))
            rw [HCO.out.2] at hmer
            have HME := Lib.hid hmer
            have k1 := fun wx => cline_any 98 s1 { data := #[98] } rfl wx (by omega)
            have k2 := fun wx => cline_any 111 s2 { data := #[111] } rfl wx (by omega)
            have k3 := fun wx => cline_any 117 s3 { data := #[117] } rfl wx (by omega)
            have K1 := Lib.hid k1
            have K2 := Lib.hid k2
            have K3 := Lib.hid k3
            have yh := txtH_size (n := i) (by omega)
            have yt := txtT_size (n := j) (by omega)
            clear hmer k1 k2 k3 ob oo ou tb to_ tu yb yo yu HCO HT1
            unfold mkText mkO mkB mkT mkE at HME
            generalize lineF 98 s1 = lb_ at lb HME K1
            generalize lineF 111 s2 = lo_ at lo HME K2
            generalize lineF 117 s3 = lu_ at lu HME K3
            generalize txtC 104 i = th at yh HME ⊢
            generalize txtC 116 j = tt at yt HME ⊢
            go_wp2_with fail
            refine (K1.out _).mono ?_
            rintro e w3 ⟨rfl, hw3⟩
            subst hw3
            go_wp2_with fail
            refine (K2.out _).mono ?_
            rintro e w3 ⟨rfl, hw3⟩
            subst hw3
            go_wp2_with fail
            refine (K3.out _).mono ?_
            rintro e w3 ⟨rfl, hw3⟩
            subst hw3
            go_wp2_with fail
            refine (HME.out wr (hm.grows HGX.out)).mono ?_
            rintro e w5 ⟨rfl, hg5⟩
            have HG5 := Lib.hid (HGX.out.trans hg5)
            clear HME K1 K2 K3 hg5
            go_wp2_with fail
            refine (mawake_any _ (hm.grows HG5.out)).mono ?_
            rintro e w6 ⟨rfl, hg6⟩
            go_wp2_with fail
            go_ret
            exact ⟨rfl, HG5.out.trans hg6⟩
end Go.Proofs.YtakgddochbcjbaaDoor
