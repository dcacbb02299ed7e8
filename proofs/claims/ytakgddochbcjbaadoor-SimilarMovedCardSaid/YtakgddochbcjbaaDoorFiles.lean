/- Lists of files as slices of structs; tree.Find, at, and IndexFunc there. -/
import Derived.Test.YtakgddochbcjbaaDoorStrs
namespace Go.Proofs.YtakgddochbcjbaaDoor
open Go.RowKit Go.Deep Go.MapKept

/-- a file: its path, whether it can be run, its text -/
abbrev FileB := ByteArray × Bool × ByteArray
def fcell (f : FileB) : List Value := [.string f.1, .bool f.2.1, .string f.2.2]
def fileCells (l : List FileB) : List Value := l.flatMap fcell
def gf (l : List FileB) (k : Nat) : FileB := l.getD k (ByteArray.empty, false, ByteArray.empty)
def fp (l : List FileB) (k : Nat) : ByteArray := (gf l k).1
def fx (l : List FileB) (k : Nat) : Bool := (gf l k).2.1
def ft (l : List FileB) (k : Nat) : ByteArray := (gf l k).2.2
theorem fileCells_cons (e : FileB) (l : List FileB) : fileCells (e :: l) = .string e.1 :: .bool e.2.1 :: .string e.2.2 :: fileCells l := rfl
theorem fileCells_len (l : List FileB) : (fileCells l).length = l.length * 3 := by
  induction l with
  | nil => rfl
  | cons e l ih => simp [fileCells_cons, ih]; omega
theorem fileCells_get {l : List FileB} {k : Nat} (h : k < l.length) : (fileCells l)[k * 3]? = some (.string (fp l k)) ∧ (fileCells l)[k * 3 + 1]? = some (.bool (fx l k)) ∧ (fileCells l)[k * 3 + 2]? = some (.string (ft l k)) := by
  induction l generalizing k with
  | nil => simp at h
  | cons e l ih =>
    rw [fileCells_cons]
    cases k with
    | zero => exact ⟨rfl, rfl, rfl⟩
    | succ k =>
      have := ih (k := k) (by simpa using h)
      rw [show (k + 1) * 3 = k * 3 + 1 + 1 + 1 by omega]
      simpa [fp, fx, ft, gf] using this
section
variable {w w' : World} {B n : Nat} {A : Option Addr} {l : List FileB}
theorem Reads.fileLen (h : Reads w B 3 A n (fileCells l)) : l.length = n := by
  have := h.1
  rw [fileCells_len] at this
  omega
theorem add_two_of (ad : Addr) (k : Nat) : (ad.add k).add 2 = ⟨(ad.add k).block, (ad.add k).off + 2, none⟩ := by simp [Addr.add]
theorem add_one_of3 (ad : Addr) (k : Nat) : (ad.add k).add 1 = ⟨(ad.add k).block, (ad.add k).off + 1, none⟩ := by simp [Addr.add]
theorem Reads.file {k : Nat} (h : Reads w B 3 A n (fileCells l)) (hk : k < n) :
    ∃ ad, A = some ad ∧ ad.block < B ∧ w.cell? (ad.add (k * 3)) = some (.string (fp l k)) ∧ w.cell? ⟨(ad.add (k * 3)).block, (ad.add (k * 3)).off + 1, none⟩ = some (.bool (fx l k)) ∧ w.cell? ⟨(ad.add (k * 3)).block, (ad.add (k * 3)).off + 2, none⟩ = some (.string (ft l k)) := by
  obtain ⟨ad, e, hb, hc⟩ := h.2 (by omega)
  have hl := h.fileLen
  have hg := fileCells_get (l := l) (k := k) (by omega)
  refine ⟨ad, e, hb, hc _ _ hg.1, ?_, ?_⟩
  · have := hc _ _ hg.2.1
    rw [← add_of_add, add_one_of3] at this
    exact this
  · have := hc _ _ hg.2.2
    rw [← add_of_add, add_two_of] at this
    exact this
theorem Reads.fileAt {ad : Addr} {k : Nat} (h : Reads w B 3 (some ad) n (fileCells l)) (hk : k < n) :
    w.cell? (ad.add (k * 3)) = some (.string (fp l k)) ∧ w.cell? ⟨(ad.add (k * 3)).block, (ad.add (k * 3)).off + 1, none⟩ = some (.bool (fx l k)) ∧ w.cell? ⟨(ad.add (k * 3)).block, (ad.add (k * 3)).off + 2, none⟩ = some (.string (ft l k)) := by
  obtain ⟨ad', e, _, hc⟩ := h.file hk
  cases e
  exact hc
end
/-- are two texts the same? -/
def eqT (a b : ByteArray) : Bool := decide (a = b)
theorem eqT_list (a b : ByteArray) : (a.toList == b.toList) = eqT a b := by
  have h : (a.toList == b.toList) = (a == b) := (beq_toListBytes a b).symm
  rw [h, eqT]
  by_cases e : a = b
  · subst e; rw [decide_eq_true rfl, bytes_beq]
  · rw [decide_eq_false e]
    cases hb : (a == b) with
    | false => rfl
    | true => exact absurd (by rwa [bytes_beq] at hb) e
/-- is a path there, among the first k? -/
def hasK (l : List FileB) (p : ByteArray) : Nat → Bool
  | 0 => false
  | k + 1 => hasK l p k || eqT (fp l k) p
def hasF (l : List FileB) (p : ByteArray) : Bool := hasK l p l.length
theorem hasK_iff {l : List FileB} {p : ByteArray} : ∀ {k : Nat}, hasK l p k = true ↔ ∃ j, j < k ∧ fp l j = p
  | 0 => by simp [hasK]
  | k + 1 => by
    rw [hasK, Bool.or_eq_true, hasK_iff, eqT, decide_eq_true_eq]
    constructor
    · rintro (⟨j, hj, e⟩ | e)
      · exact ⟨j, by omega, e⟩
      · exact ⟨k, by omega, e⟩
    · rintro ⟨j, hj, e⟩
      rcases Nat.lt_succ_iff_lt_or_eq.1 hj with h1 | rfl
      · exact .inl ⟨j, h1, e⟩
      · exact .inr e
/-- what is told of a path's place -/
def AtF (l : List FileB) (p : ByteArray) (r : Int) : Prop := (r = -1 ∧ hasF l p = false) ∨ ∃ k : Nat, r = k ∧ k < l.length ∧ fp l k = p ∧ hasK l p k = false
theorem AtF.has {l : List FileB} {p : ByteArray} {k : Nat} (h1 : k < l.length) (h2 : fp l k = p) : hasF l p = true := hasK_iff.2 ⟨k, h1, h2⟩

theorem at1_any (a : ByteArray) (x : Bool) (t p : ByteArray) (b : Nat) (w : World) (hb : b < w.heap.size) (hc : w.cell? ⟨b, 0, none⟩ = some (.string p)) :
    Calls Tryd.prog 145 #[.agg #[.string a, .bool x, .string t], .pointer (some ⟨b, 0, none⟩)] w fun e w' => e = .returned (.bool (eqT a p)) ∧ Grows w w' := by
  have hg : Grows w (w.alloc (.cells #[.string a, .bool x, .string t] 57)) := (Grows.refl w).alloc _
  have hne : b ≠ w.heap.size := by omega
  have he := eqT_list a p
  go_enter Tryd.func145, Tryd.ntmps145
  go_wp2
  go_ret
  exact ⟨rfl, hg⟩

set_option maxRecDepth 100000 in
set_option maxHeartbeats 1000000 in
theorem indexF_any (B : Nat) (A : Option Addr) (n c : Nat) (l : List FileB) (p : ByteArray) (b : Nat) (w : World) (h : Reads w B 3 A n (fileCells l)) (hB : B ≤ w.heap.size) (hn : n ≤ 1000000000000) (hb : b < w.heap.size) (hc : w.cell? ⟨b, 0, none⟩ = some (.string p)) :
    Calls Tryd.prog 144 #[.slice A n c, .func (.func 145) #[] #[.pointer (some ⟨b, 0, none⟩)]] w fun e w' => (∃ r : Int, e = .returned (.int .i64 r) ∧ AtF l p r) ∧ Grows w w' := by
  have HL := Lib.hid h.fileLen
  have HX := Lib.hid h; clear h
  have HC := Lib.hid hc; clear hc
  go_enter Tryd.func144, Tryd.ntmps144
  go_wp2
  go_loopg [8] n (fun gk q wr => Grows w wr ∧ ∃ k : Nat, q = .int .i64 k ∧ k ≤ n ∧ gk = n - k ∧ hasK l p k = false)
  case atStart => exact ⟨Grows.refl _, 0, rfl, by omega, rfl, rfl⟩
  case round =>
    obtain ⟨hgr, k, rfl, hk, hgk, hno⟩ := hrel
    have HG := Lib.hid hgk; clear hgk
    have HN := Lib.hid hno; clear hno
    by_cases hlt : k < n
    · obtain ⟨ad, rfl, had, p0, p1, p2⟩ := (HX.out.grows hB hgr).file hlt
      have k0 : (0 : Int) ≤ k := by omega
      have k1 : (k : Int) < n := by omega
      have hcw : wr.cell? ⟨b, 0, none⟩ = some (.string p) := (hgr.cell (p := ⟨b, 0, none⟩) hb).trans HC.out
      have hsz := hgr.size
      have HK := Lib.hid (show hasK l p (k + 1) = (hasK l p k || eqT (fp l k) p) from rfl)
      have HA := at1_any (fp l k) (fx l k) (ft l k) p b wr (by omega) hcw
      cases he : eqT (fp l k) p with
      | true =>
        rw [he] at HA
        have HE := Lib.hid he
        clear he
        go_wp2_with fail
        refine HA.mono ?_
        rintro e w5 ⟨rfl, hg5⟩
        have hg6 := hgr.trans hg5
        go_wp2_with fail
        go_ret
        exact ⟨⟨k, rfl, .inr ⟨k, rfl, by rw [HL.out]; exact hlt, of_decide_eq_true HE.out, HN.out⟩⟩, hg6⟩
      | false =>
        rw [he] at HA
        have HE := Lib.hid he
        clear he
        go_wp2_with fail
        refine HA.mono ?_
        rintro e w5 ⟨rfl, hg5⟩
        have hg6 := hgr.trans hg5
        go_wp2_with fail
        go_roundg (n - (k + 1))
        case measure => rw [HG.out]; omega
        case rel => exact ⟨hg6, k + 1, by go_num, by omega, rfl, by rw [HK.out, HN.out, HE.out]; rfl⟩
    · have hkn : k = n := by omega
      subst hkn
      have hf := Lib.hid (show hasF l p = false by rw [hasF, HL.out]; exact HN.out)
      go_wp2_with fail
      go_ret
      exact ⟨⟨-1, rfl, .inl ⟨rfl, hf.out⟩⟩, hgr⟩

set_option maxRecDepth 100000 in
set_option maxHeartbeats 1000000 in
theorem atF_any (B : Nat) (A : Option Addr) (n c : Nat) (l : List FileB) (p : ByteArray) (w : World) (h : Reads w B 3 A n (fileCells l)) (hB : B ≤ w.heap.size) (hn : n ≤ 1000000000000) :
    Calls Tryd.prog 119 #[.slice A n c, .string p] w fun e w' => (∃ r : Int, e = .returned (.int .i64 r) ∧ AtF l p r) ∧ Grows w w' := by
  have hg0 := (Grows.refl w).alloc (.cells #[.string p] 9)
  have HX := indexF_any B A n c l p w.heap.size (w.alloc (.cells #[.string p] 9)) (h.grows hB hg0) (Nat.le_trans hB hg0.size) hn (by simp) (by simp)
  clear h
  go_enter Tryd.func119, Tryd.ntmps119
  go_wp2_with fail
  refine HX.mono ?_
  rintro e w1 ⟨⟨r, rfl, hr⟩, hg1⟩
  have HR := Lib.hid hr
  clear hr
  have hg2 := hg0.trans hg1
  go_wp2_with fail
  go_ret
  exact ⟨⟨r, rfl, HR.out⟩, hg2⟩

theorem Blk.growsF {w w' : World} {g : Nat} {t : TypeId} {cs : Array Value} (h : Blk w g t cs) (hg : Grows w w') : Blk w' g t cs := (hg.block g h.lt).trans h
theorem grown_setC (w : World) (a : Addr) (u : Value) : w.grownBy (w.setCell a u) (some a.block) :=
  ⟨rfl, rfl, rfl, by simp, fun k _ hne => Below.heap_setCell w a u k fun e => hne (by rw [e])⟩
theorem set_one {w w0 : World} {g i : Nat} {t : TypeId} {cs : Array Value} (hb : Blk w g t cs) (hg : Grows w0 w) (hge : w0.heap.size ≤ g) (u : Value) :
    Blk (w.setCell ⟨g, i, none⟩ u) g t (cs.setIfInBounds i u) ∧ Grows w0 (w.setCell ⟨g, i, none⟩ u) :=
  ⟨hb.set_ i u, Below.grown hg (grown_setC w ⟨g, i, none⟩ u) hg.size (fun k hk => by cases hk; exact hge)⟩
theorem set_three {w w0 : World} {g : Nat} {t : TypeId} {a0 a1 a2 : Value} (hb : Blk w g t #[a0, a1, a2]) (hg : Grows w0 w) (hge : w0.heap.size ≤ g) (u0 u1 u2 : Value) :
    Blk (((w.setCell ⟨g, 0, none⟩ u0).setCell ⟨g, 1, none⟩ u1).setCell ⟨g, 2, none⟩ u2) g t #[u0, u1, u2] ∧ Grows w0 (((w.setCell ⟨g, 0, none⟩ u0).setCell ⟨g, 1, none⟩ u1).setCell ⟨g, 2, none⟩ u2) := by
  obtain ⟨a, b⟩ := set_one (i := 0) hb hg hge u0
  obtain ⟨a', b'⟩ := set_one (i := 1) a b hge u1
  obtain ⟨a2, b2⟩ := set_one (i := 2) a' b' hge u2
  exact ⟨a2, b2⟩

set_option maxRecDepth 100000 in
set_option maxHeartbeats 1000000 in
theorem findF_any (B : Nat) (A : Option Addr) (n c : Nat) (l : List FileB) (p : ByteArray) (w : World) (h : Reads w B 3 A n (fileCells l)) (hB : B ≤ w.heap.size) (hn : n ≤ 1000000000000) :
    Calls Tryd.prog 96 #[.slice A n c, .string p] w fun e w' => (∃ a x t, e = .returned (.tuple #[.agg #[.string a, .bool x, .string t], .bool (hasF l p)])) ∧ Grows w w' := by
  have HL := Lib.hid h.fileLen
  have hg0 := (Grows.refl w).alloc (.cells #[.string { data := #[] }, .bool false, .string { data := #[] }] 57)
  have hb0 := Blk.new w 57 #[.string { data := #[] }, .bool false, .string { data := #[] }]
  have HX := Lib.hid (h.grows hB hg0)
  have HA := atF_any B A n c l p (w.alloc (.cells #[.string { data := #[] }, .bool false, .string { data := #[] }] 57)) (h.grows hB hg0) (Nat.le_trans hB hg0.size) hn
  clear h
  go_enter Tryd.func96, Tryd.ntmps96
  go_wp2_with fail
  refine HA.mono ?_
  rintro e w1 ⟨⟨r, rfl, hr⟩, hg1⟩
  have HG2 := Lib.hid (hg0.trans hg1)
  have hb1 := Blk.growsF hb0 hg1
  obtain ⟨R, hR⟩ : ∃ R, R = w.heap.size := ⟨_, rfl⟩
  have hge : w.heap.size ≤ R := by omega
  rw [← hR] at hb1 ⊢
  have hp1 := hb1.cell 0
  have hp2 := hb1.cell 1
  have hp3 := hb1.cell 2
  simp only [List.getElem?_toArray, List.getElem?_cons_succ, List.getElem?_cons_zero] at hp1 hp2 hp3
  have hf1 := hb1.frozen 0
  have hf2 := hb1.frozen 1
  have hf3 := hb1.frozen 2
  have HB1 := Lib.hid hb1
  clear hb1 hb0 hR
  rcases hr with ⟨rfl, hno⟩ | ⟨k, rfl, hk, he, hno⟩
  · have HN := Lib.hid hno
    clear hno
    go_wp2_with fail
    obtain ⟨p1, p2⟩ := set_three HB1.out HG2.out hge (.string { data := #[] }) (.bool false) (.string { data := #[] })
    generalize ((w1.setCell ⟨R, 0, none⟩ (.string { data := #[] })).setCell ⟨R, 1, none⟩ (.bool false)).setCell ⟨R, 2, none⟩ (.string { data := #[] }) = wf at p1 p2 ⊢
    have z0 := p1.cell 0
    have z1 := p1.cell 1
    have z2 := p1.cell 2
    simp only [List.getElem?_toArray, List.getElem?_cons_succ, List.getElem?_cons_zero] at z0 z1 z2
    (try simp only [Exit.inBlock, Exit.then])
    refine bodyPost_ret (v := .tuple #[.agg #[.string { data := #[] }, .bool false, .string { data := #[] }], .bool false]) ?_ rfl ⟨⟨_, _, _, by rw [HN.out]⟩, p2⟩
    rw [results_cell_tmp rfl]
    go_simp
  · have hlt : k < n := by rw [← HL.out]; exact hk
    have HF := Lib.hid (AtF.has hk he)
    clear hk he hno
    have k0 : ¬ ((k : Int) < 0) := by omega
    have k1 : (k : Int) < n := by omega
    have k2 : (0 : Int) ≤ k := by omega
    obtain ⟨ad, rfl, had, p0, q1, q2⟩ := (HX.out.grows (Nat.le_trans hB hg0.size) hg1).file hlt
    go_wp2_with fail
    obtain ⟨p1, p2⟩ := set_three HB1.out HG2.out hge (.string (fp l k)) (.bool (fx l k)) (.string (ft l k))
    generalize ((w1.setCell ⟨R, 0, none⟩ (.string (fp l k))).setCell ⟨R, 1, none⟩ (.bool (fx l k))).setCell ⟨R, 2, none⟩ (.string (ft l k)) = wf at p1 p2 ⊢
    have z0 := p1.cell 0
    have z1 := p1.cell 1
    have z2 := p1.cell 2
    simp only [List.getElem?_toArray, List.getElem?_cons_succ, List.getElem?_cons_zero] at z0 z1 z2
    (try simp only [Exit.inBlock, Exit.then])
    refine bodyPost_ret (v := .tuple #[.agg #[.string (fp l k), .bool (fx l k), .string (ft l k)], .bool true]) ?_ rfl ⟨⟨_, _, _, by rw [HF.out]⟩, p2⟩
    rw [results_cell_tmp rfl]
    go_simp
end Go.Proofs.YtakgddochbcjbaaDoor
