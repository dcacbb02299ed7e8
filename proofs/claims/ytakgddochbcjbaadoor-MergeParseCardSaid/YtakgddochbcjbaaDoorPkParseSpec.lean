/- What a text with marks is read as, in plain words. Rows of chunks of the call's own: what their cells hold. -/
import Derived.Test.YtakgddochbcjbaaDoorPkMaps
import Derived.Test.YtakgddochbcjbaaDoorPkSplSpec
import Derived.Test.YtakgddochbcjbaaDoorPkChunks
import Derived.Test.YtakgddochbcjbaaDoorPkOwnS
namespace Go.Proofs.YtakgddochbcjbaaDoor

def mkO : ByteArray := { data := #[60, 60, 60, 60, 60, 60, 60, 32, 111, 117, 114, 115, 10] }
def mkB : ByteArray := { data := #[124, 124, 124, 124, 124, 124, 124, 32, 98, 97, 115, 101, 10] }
def mkT : ByteArray := { data := #[61, 61, 61, 61, 61, 61, 61, 10] }
def mkE : ByteArray := { data := #[62, 62, 62, 62, 62, 62, 62, 32, 116, 104, 101, 105, 114, 115, 10] }
/-- what a line begins, if it is a mark -/
def markF : ByteArray → Option Int := putF (putF (putF (putF (fun _ => none) mkO 1) mkB 2) mkT 3) mkE 0


def addC (i : Int) (s : ByteArray) (c : ChkB) : ChkB :=
  (c.1, (if i = 0 ∨ i = 2 then c.2.1 ++ [s] else c.2.1), (if i = 0 ∨ i = 1 then c.2.2.1 ++ [s] else c.2.2.1), (if i = 0 ∨ i = 3 then c.2.2.2 ++ [s] else c.2.2.2))
/-- wants a line outside a chunk of its own? -/
def newC (l : List ChkB) (i : Int) : Bool := decide (i = 0) && (match l.getLast? with | none => true | some c => c.1 != 1)
/-- a line, put where it belongs -/
def putC (l : List ChkB) (i : Int) (s : ByteArray) : List ChkB :=
  if newC l i = true then l ++ [addC i s (1, [], [], [])] else l.dropLast ++ [addC i s (l.getLast?.getD (0, [], [], []))]
theorem newC_nil (i : Int) : newC [] i = decide (i = 0) := by simp [newC]
theorem newC_snoc (init : List ChkB) (c : ChkB) (i : Int) : newC (init ++ [c]) i = (decide (i = 0) && (c.1 != 1)) := by simp [newC]
theorem putC_new {l : List ChkB} {i : Int} (s : ByteArray) (h : newC l i = true) : putC l i s = l ++ [addC i s (1, [], [], [])] := by rw [putC, if_pos h]
theorem putC_old {init : List ChkB} {c : ChkB} {i : Int} (s : ByteArray) (h : newC (init ++ [c]) i = false) : putC (init ++ [c]) i s = init ++ [addC i s c] := by
  rw [putC, if_neg (by rw [h]; simp)]
  simp
def parseC : List ByteArray → Int → List ChkB → Option (Int × List ChkB)
  | [], i, l => some (i, l)
  | x :: xs, i, l => match markF x with
    | none => parseC xs i (putC l i x)
    | some b => if b = (i + 1) % 4 then parseC xs b (if b = 1 then l ++ [(5, [], [], [])] else l) else none
/-- a text, read -/
def parseT (s : ByteArray) : Option (List ChkB) := match parseC (linesT s) 0 [] with
  | some (i, l) => if i = 0 then some l else none
  | none => none
theorem parseC_none {x : ByteArray} {xs : List ByteArray} {i : Int} {l : List ChkB} (h : markF x = none) : parseC (x :: xs) i l = parseC xs i (putC l i x) := by rw [parseC, h]
theorem parseC_bad {x : ByteArray} {xs : List ByteArray} {i b : Int} {l : List ChkB} (h : markF x = some b) (hb : b ≠ (i + 1) % 4) : parseC (x :: xs) i l = none := by rw [parseC, h]; exact if_neg hb
theorem parseC_mark {x : ByteArray} {xs : List ByteArray} {i b : Int} {l : List ChkB} (h : markF x = some b) (hb : b = (i + 1) % 4) : parseC (x :: xs) i l = parseC xs b (if b = 1 then l ++ [(5, [], [], [])] else l) := by rw [parseC, h]; exact if_pos hb
/-- what stands while a text is read: at most k lines are in, and there is a chunk where one must be -/
structure PI (i : Int) (l : List ChkB) (k : Nat) : Prop where
  rng : 0 ≤ i ∧ i ≤ 3
  some_ : i ≠ 0 → l ≠ []
  len : l.length ≤ k
  rows : ∀ c ∈ l, (c.1 = 1 ∨ c.1 = 5) ∧ c.2.1.length ≤ k ∧ c.2.2.1.length ≤ k ∧ c.2.2.2.length ≤ k
theorem PI.start : PI 0 [] 0 := ⟨by omega, fun h => absurd rfl h, Nat.le_refl _, fun c h => by cases h⟩
theorem addC_rows {i : Int} {s : ByteArray} {c : ChkB} {k : Nat} (h : (c.1 = 1 ∨ c.1 = 5) ∧ c.2.1.length ≤ k ∧ c.2.2.1.length ≤ k ∧ c.2.2.2.length ≤ k) :
    ((addC i s c).1 = 1 ∨ (addC i s c).1 = 5) ∧ (addC i s c).2.1.length ≤ k + 1 ∧ (addC i s c).2.2.1.length ≤ k + 1 ∧ (addC i s c).2.2.2.length ≤ k + 1 := by
  unfold addC
  refine ⟨h.1, ?_, ?_, ?_⟩
  · show (if i = 0 ∨ i = 2 then c.2.1 ++ [s] else c.2.1).length ≤ _
    split
    · rw [List.length_append]; exact Nat.add_le_add_right h.2.1 1
    · exact Nat.le_succ_of_le h.2.1
  · show (if i = 0 ∨ i = 1 then c.2.2.1 ++ [s] else c.2.2.1).length ≤ _
    split
    · rw [List.length_append]; exact Nat.add_le_add_right h.2.2.1 1
    · exact Nat.le_succ_of_le h.2.2.1
  · show (if i = 0 ∨ i = 3 then c.2.2.2 ++ [s] else c.2.2.2).length ≤ _
    split
    · rw [List.length_append]; exact Nat.add_le_add_right h.2.2.2 1
    · exact Nat.le_succ_of_le h.2.2.2
theorem PI.put {i : Int} {l : List ChkB} {k : Nat} (h : PI i l k) (s : ByteArray) : PI i (putC l i s) (k + 1) := by
  have hmono : ∀ c ∈ l, (c.1 = 1 ∨ c.1 = 5) ∧ c.2.1.length ≤ k + 1 ∧ c.2.2.1.length ≤ k + 1 ∧ c.2.2.2.length ≤ k + 1 := fun c hc => by
    obtain ⟨h1, h2, h3, h4⟩ := h.rows c hc
    exact ⟨h1, by omega, by omega, by omega⟩
  cases hn : newC l i with
  | true =>
    rw [putC_new s hn]
    refine ⟨h.rng, fun _ => by simp, by rw [List.length_append]; exact Nat.add_le_add_right h.len 1, fun c hc => ?_⟩
    rcases List.mem_append.1 hc with hc | hc
    · exact hmono c hc
    · rw [List.mem_singleton.1 hc]
      exact addC_rows ⟨.inl rfl, Nat.zero_le _, Nat.zero_le _, Nat.zero_le _⟩
  | false =>
    have hl : l ≠ [] := by
      rintro rfl
      rw [newC_nil] at hn
      exact h.some_ (by simpa using hn) rfl
    obtain ⟨init, c, rfl⟩ : ∃ init c, l = init ++ [c] := ⟨l.dropLast, l.getLast hl, (List.dropLast_concat_getLast hl).symm⟩
    rw [putC_old s hn]
    refine ⟨h.rng, fun _ => by simp, by have := h.len; simp only [List.length_append, List.length_singleton] at this ⊢; omega, fun d hd => ?_⟩
    rcases List.mem_append.1 hd with hd | hd
    · exact hmono d (by simp [hd])
    · rw [List.mem_singleton.1 hd]
      exact addC_rows (h.rows c (by simp))
theorem PI.mark {i b : Int} {l : List ChkB} {k : Nat} (h : PI i l k) (hb : b = (i + 1) % 4) : PI b (if b = 1 then l ++ [(5, [], [], [])] else l) (k + 1) := by
  have hr := h.rng
  have hmono : ∀ c ∈ l, (c.1 = 1 ∨ c.1 = 5) ∧ c.2.1.length ≤ k + 1 ∧ c.2.2.1.length ≤ k + 1 ∧ c.2.2.2.length ≤ k + 1 := fun c hc => by
    obtain ⟨h1, h2, h3, h4⟩ := h.rows c hc
    exact ⟨h1, by omega, by omega, by omega⟩
  by_cases h1 : b = 1
  · rw [if_pos h1]
    refine ⟨by omega, fun _ => by simp, by rw [List.length_append]; exact Nat.add_le_add_right h.len 1, fun c hc => ?_⟩
    rcases List.mem_append.1 hc with hc | hc
    · exact hmono c hc
    · rw [List.mem_singleton.1 hc]
      exact ⟨.inr rfl, Nat.zero_le _, Nat.zero_le _, Nat.zero_le _⟩
  · rw [if_neg h1]
    exact ⟨by omega, fun h0 => h.some_ (by omega), Nat.le_succ_of_le h.len, hmono⟩
end Go.Proofs.YtakgddochbcjbaaDoor
namespace Go.Proofs.YtakgddochbcjbaaDoor
open Go.RowKit Go.Deep Go.MapKept

/-- the cells of a row of chunks -/
def Parts (w : World) : List ChkB → List Value → Prop
  | [], xs => xs = []
  | ch :: l, xs => ∃ v1 v2 v3 r, xs = .int .i64 ch.1 :: v1 :: v2 :: v3 :: r ∧ OwnS w v1 ch.2.1 ∧ OwnS w v2 ch.2.2.1 ∧ OwnS w v3 ch.2.2.2 ∧ Parts w l r
theorem Parts.mono {w w' : World} (hk : ∀ v ys, OwnS w v ys → OwnS w' v ys) : ∀ {l : List ChkB} {xs : List Value}, Parts w l xs → Parts w' l xs
  | [], _, h => h
  | _ :: _, _, ⟨v1, v2, v3, r, e, h1, h2, h3, h4⟩ => ⟨v1, v2, v3, r, e, hk _ _ h1, hk _ _ h2, hk _ _ h3, Parts.mono hk h4⟩
theorem Parts.app {w : World} : ∀ {l m : List ChkB} {xs ys : List Value}, Parts w l xs → Parts w m ys → Parts w (l ++ m) (xs ++ ys)
  | [], _, xs, ys, h, h' => by
    have : xs = [] := h
    subst this
    exact h'
  | _ :: _, _, _, _, ⟨v1, v2, v3, r, e, h1, h2, h3, h4⟩, h' => ⟨v1, v2, v3, _, by rw [e]; rfl, h1, h2, h3, Parts.app h4 h'⟩
theorem Parts.one {w : World} {k : Int} {v1 v2 v3 : Value} {x1 x2 x3 : List ByteArray} (h1 : OwnS w v1 x1) (h2 : OwnS w v2 x2) (h3 : OwnS w v3 x3) : Parts w [(k, x1, x2, x3)] [.int .i64 k, v1, v2, v3] :=
  ⟨v1, v2, v3, [], rfl, h1, h2, h3, rfl⟩
theorem Parts.get {w : World} : ∀ {l : List ChkB} {xs : List Value} {k : Nat}, Parts w l xs → k < l.length → ∃ v1 v2 v3, xs[k * 4]? = some (.int .i64 (gch l k).1) ∧ xs[k * 4 + 1]? = some v1 ∧ xs[k * 4 + 2]? = some v2 ∧ xs[k * 4 + 3]? = some v3 ∧
    OwnS w v1 (gch l k).2.1 ∧ OwnS w v2 (gch l k).2.2.1 ∧ OwnS w v3 (gch l k).2.2.2
  | [], _, _, _, hk => absurd hk (by simp)
  | ch :: l, xs, k, ⟨v1, v2, v3, r, e, h1, h2, h3, h4⟩, hk => by
    subst e
    cases k with
    | zero => exact ⟨v1, v2, v3, rfl, rfl, rfl, rfl, h1, h2, h3⟩
    | succ k =>
      obtain ⟨u1, u2, u3, g0, g1, g2, g3, g4, g5, g6⟩ := Parts.get (k := k) h4 (by simpa using hk)
      refine ⟨u1, u2, u3, ?_, ?_, ?_, ?_, g4, g5, g6⟩
      · rw [show (k + 1) * 4 = k * 4 + 1 + 1 + 1 + 1 by omega]; exact g0
      · rw [show (k + 1) * 4 + 1 = k * 4 + 1 + 1 + 1 + 1 + 1 by omega]; exact g1
      · rw [show (k + 1) * 4 + 2 = k * 4 + 2 + 1 + 1 + 1 + 1 by omega]; exact g2
      · rw [show (k + 1) * 4 + 3 = k * 4 + 3 + 1 + 1 + 1 + 1 by omega]; exact g3
theorem OwnS.cellS {w : World} {p : Addr} {v : Value} {ys : List ByteArray} (h : OwnS w v ys) (hc : w.cell? p = some v) : CellS w w.heap.size p ys := by
  obtain ⟨A, c, rfl, h1, h2⟩ := h.form
  exact ⟨A, _, c, hc, h.reads, h1, h2⟩
theorem chunksN_of {w : World} {B n c : Nat} {A : Option Addr} {l : List ChkB} {xs : List Value} (h : w.ownsRow B 36 4 (.slice A n c) n xs) (hp : Parts w l xs) (hl : l.length = n) : ChunksN w w.heap.size A n l := by
  refine ⟨hl, fun hn => ?_⟩
  obtain ⟨g, cap, hv, _, hlt⟩ := h.form hn
  have hA : A = some ⟨g, 0, none⟩ := by injection hv
  subst hA
  refine ⟨_, rfl, hlt, fun k hk => ?_⟩
  obtain ⟨v1, v2, v3, g0, g1, g2, g3, g4, g5, g6⟩ := hp.get (k := k) (by omega)
  have hc := h.cells (g := g) rfl
  have ea : ∀ j, (⟨g, 0, none⟩ : Addr).add j = ⟨g, j, none⟩ := fun j => by unfold Addr.add; split <;> simp_all
  refine ⟨hc _ _ g0, ?_, ?_, ?_⟩
  · rw [ea]
    refine g4.cellS ?_
    have := hc _ _ g1
    rwa [ea] at this
  · rw [ea]
    refine g5.cellS ?_
    have := hc _ _ g2
    rwa [ea] at this
  · rw [ea]
    refine g6.cellS ?_
    have := hc _ _ g3
    rwa [ea] at this

end Go.Proofs.YtakgddochbcjbaaDoor
