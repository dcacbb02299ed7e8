/- Slices of chunks: their shape; whether two are alike. -/
import Derived.Test.YtakgddochbcjbaaDoorPkOwnS
import Derived.Test.YtakgddochbcjbaaDoorPkChunkPlain
namespace Go.Proofs.YtakgddochbcjbaaDoor
open Go.RowKit Go.Deep Go.MapKept

/-- a chunk's data -/
abbrev ChkB := Chk ByteArray
/-- a slice that reads as strings, in a cell -/
def CellS (w : World) (B : Nat) (p : Addr) (ys : List ByteArray) : Prop := ∃ A n c, w.cell? p = some (.slice A n c) ∧ Reads w B 1 A n (strs ys) ∧ n ≤ c ∧ c ≤ maxLen
theorem CellS.keep {w w' : World} {B : Nat} {p : Addr} {ys : List ByteArray} (h : CellS w B p ys) (hp : p.block < B) (hk : ∀ p : Addr, p.block < B → w'.cell? p = w.cell? p) : CellS w' B p ys := by
  obtain ⟨A, n, c, h1, h2, h3⟩ := h
  exact ⟨A, n, c, (hk p hp).trans h1, h2.keep hk, h3⟩
theorem CellS.more {w : World} {B B' : Nat} {p : Addr} {ys : List ByteArray} (h : CellS w B p ys) (hB : B ≤ B') : CellS w B' p ys := by
  obtain ⟨A, n, c, h1, h2, h3⟩ := h
  exact ⟨A, n, c, h1, h2.more hB, h3⟩
/-- a chunk, at its first cell -/
def ChunkAt (w : World) (B : Nat) (p : Addr) (ch : ChkB) : Prop := w.cell? p = some (.int .i64 ch.1) ∧ CellS w B ⟨p.block, p.off + 1, none⟩ ch.2.1 ∧ CellS w B ⟨p.block, p.off + 2, none⟩ ch.2.2.1 ∧ CellS w B ⟨p.block, p.off + 3, none⟩ ch.2.2.2
theorem ChunkAt.keep {w w' : World} {B : Nat} {p : Addr} {ch : ChkB} (h : ChunkAt w B p ch) (hp : p.block < B) (hk : ∀ p : Addr, p.block < B → w'.cell? p = w.cell? p) : ChunkAt w' B p ch :=
  ⟨(hk p hp).trans h.1, h.2.1.keep hp hk, h.2.2.1.keep hp hk, h.2.2.2.keep hp hk⟩
theorem ChunkAt.more {w : World} {B B' : Nat} {p : Addr} {ch : ChkB} (h : ChunkAt w B p ch) (hB : B ≤ B') : ChunkAt w B' p ch := ⟨h.1, h.2.1.more hB, h.2.2.1.more hB, h.2.2.2.more hB⟩
/-- element k of a list of chunks, behind a name -/
def gch (l : List ChkB) (k : Nat) : ChkB := l.getD k (0, [], [], [])
/-- a slice of chunks, read whole -/
def ChunksN (w : World) (B : Nat) (A : Option Addr) (n : Nat) (l : List ChkB) : Prop :=
  l.length = n ∧ (0 < n → ∃ ad, A = some ad ∧ ad.block < B ∧ ∀ k, k < n → ChunkAt w B (ad.add (k * 4)) (gch l k))
theorem ChunksN.keep {w w' : World} {B n : Nat} {A : Option Addr} {l : List ChkB} (h : ChunksN w B A n l) (hk : ∀ p : Addr, p.block < B → w'.cell? p = w.cell? p) : ChunksN w' B A n l := by
  refine ⟨h.1, fun hn => ?_⟩
  obtain ⟨ad, e, hb, hc⟩ := h.2 hn
  exact ⟨ad, e, hb, fun k hkn => (hc k hkn).keep (by rw [block_of_add]; exact hb) hk⟩
theorem ChunksN.grows {w w' : World} {B n : Nat} {A : Option Addr} {l : List ChkB} (h : ChunksN w B A n l) (hB : B ≤ w.heap.size) (hg : Grows w w') : ChunksN w' B A n l := h.keep fun _ hp => Below.cell hg (by omega)
theorem ChunksN.drewN {w : World} {B n : Nat} {A : Option Addr} {l : List ChkB} (h : ChunksN w B A n l) (d : Nat) : ChunksN (w.drewN d) B A n l := h
theorem ChunksN.at_ {w : World} {B n k : Nat} {A : Option Addr} {l : List ChkB} (h : ChunksN w B A n l) (hk : k < n) : ∃ ad, A = some ad ∧ ad.block < B ∧ ChunkAt w B (ad.add (k * 4)) (gch l k) := by
  obtain ⟨ad, e, hb, hc⟩ := h.2 (by omega)
  exact ⟨ad, e, hb, hc k hk⟩
theorem ChunksN.nil (w : World) (B : Nat) (A : Option Addr) : ChunksN w B A 0 [] := ⟨rfl, fun h => absurd h (by omega)⟩

/-- whether two chunks are alike -/
def eqCh (x y : ChkB) : Bool := (x.1 == y.1) && (eqS x.2.1 y.2.1 && (eqS x.2.2.1 y.2.2.1 && eqS x.2.2.2 y.2.2.2))
theorem eqCh_iff {x y : ChkB} : eqCh x y = true ↔ x = y := by
  obtain ⟨a, b, c, d⟩ := x
  obtain ⟨a', b', c', d'⟩ := y
  simp [eqCh, eqS]

set_option maxRecDepth 100000 in
set_option maxHeartbeats 1000000 in
theorem chunkf_any (B : Nat) (k k' : Int) (A1 A2 A3 A1' A2' A3' : Option Addr) (n1 n2 n3 n1' n2' n3' c1 c2 c3 c1' c2' c3' : Nat) (x1 x2 x3 y1 y2 y3 : List ByteArray) (w : World)
    (h1 : Reads w B 1 A1 n1 (strs x1)) (h2 : Reads w B 1 A2 n2 (strs x2)) (h3 : Reads w B 1 A3 n3 (strs x3)) (g1 : Reads w B 1 A1' n1' (strs y1)) (g2 : Reads w B 1 A2' n2' (strs y2)) (g3 : Reads w B 1 A3' n3' (strs y3))
    (hB : B ≤ w.heap.size) (l1 : n1 ≤ 1000000000000) (l2 : n2 ≤ 1000000000000) (l3 : n3 ≤ 1000000000000) :
    Calls Tryd.prog 18 #[.agg #[.int .i64 k, .slice A1 n1 c1, .slice A2 n2 c2, .slice A3 n3 c3], .agg #[.int .i64 k', .slice A1' n1' c1', .slice A2' n2' c2', .slice A3' n3' c3']] w fun e w' => e = .returned (.bool (eqCh (k, x1, x2, x3) (k', y1, y2, y3))) ∧ Grows w w' := by
  have hg : Grows w ((w.alloc (.cells #[.int .i64 k, .slice A1 n1 c1, .slice A2 n2 c2, .slice A3 n3 c3] 36)).alloc (.cells #[.int .i64 k', .slice A1' n1' c1', .slice A2' n2' c2', .slice A3' n3' c3'] 36)) := ((Grows.refl w).alloc _).alloc _
  have R1 := Lib.hid (h1.grows hB hg)
  have R2 := Lib.hid (h2.grows hB hg)
  have R3 := Lib.hid (h3.grows hB hg)
  have S1 := Lib.hid (g1.grows hB hg)
  have S2 := Lib.hid (g2.grows hB hg)
  have S3 := Lib.hid (g3.grows hB hg)
  have HG := Lib.hid hg
  clear h1 h2 h3 g1 g2 g3 hg
  cases e0 : (k == k') with
  | false =>
    have hf := Lib.hid (show eqCh (k, x1, x2, x3) (k', y1, y2, y3) = false by simp only [eqCh, e0]; rfl)
    go_enter Tryd.func18, Tryd.ntmps18
    go_wp2_with fail
    go_ret
    exact ⟨ret_bool hf.out.symm, HG.out⟩
  | true =>
    go_enter Tryd.func18, Tryd.ntmps18
    go_wp2_with fail
    refine (plainS_any B B A1 A1' n1 n1' c1 c1' x1 y1 _ R1.out S1.out l1).mono ?_
    rintro e w1 ⟨rfl, d1, rfl⟩
    cases e1 : eqS x1 y1 with
    | false =>
      have hf := Lib.hid (show eqCh (k, x1, x2, x3) (k', y1, y2, y3) = false by simp only [eqCh, e0, e1]; rfl)
      go_wp2_with fail
      go_ret
      exact ⟨ret_bool hf.out.symm, HG.out.drewN _⟩
    | true =>
      go_wp2_with fail
      refine (plainS_any B B A2 A2' n2 n2' c2 c2' x2 y2 _ (R2.out.drewN d1) (S2.out.drewN d1) l2).mono ?_
      rintro e w2 ⟨rfl, d2, rfl⟩
      cases e2 : eqS x2 y2 with
      | false =>
        have hf := Lib.hid (show eqCh (k, x1, x2, x3) (k', y1, y2, y3) = false by simp only [eqCh, e0, e1, e2]; rfl)
        go_wp2_with fail
        go_ret
        exact ⟨ret_bool hf.out.symm, HG.out.drewN _⟩
      | true =>
        have hf := Lib.hid (show eqCh (k, x1, x2, x3) (k', y1, y2, y3) = eqS x3 y3 by simp only [eqCh, e0, e1, e2, Bool.true_and])
        go_wp2_with fail
        refine (plainS_any B B A3 A3' n3 n3' c3 c3' x3 y3 _ (R3.out.drewN _) (S3.out.drewN _) l3).mono ?_
        rintro e w3 ⟨rfl, d3, rfl⟩
        go_wp2_with fail
        go_ret
        exact ⟨ret_bool hf.out.symm, HG.out.drewN _⟩

theorem gch_take {l m : List ChkB} {k n : Nat} (hx : l.length = n) (hy : m.length = n) (hk : k < n) : (l.take (k + 1) = m.take (k + 1)) ↔ (l.take k = m.take k ∧ gch l k = gch m k) := by
  rw [List.take_succ_eq_append_getElem (by omega), List.take_succ_eq_append_getElem (by omega)]
  have e1 : gch l k = l[k] := by simp [gch, List.getElem?_eq_getElem (show k < l.length by omega)]
  have e2 : gch m k = m[k] := by simp [gch, List.getElem?_eq_getElem (show k < m.length by omega)]
  rw [e1, e2]
  constructor
  · intro h
    have h1 := List.append_inj' h (by simp)
    exact ⟨h1.1, by simpa using h1.2⟩
  · rintro ⟨h1, h2⟩
    rw [h1, h2]
/-- whether two lists of chunks are alike -/
def eqChs (l m : List ChkB) : Bool := decide (l = m)

set_option maxRecDepth 100000 in
set_option maxHeartbeats 2000000 in
set_option maxRecDepth 100000 in
theorem sameCh_any (B : Nat) (A A' : Option Addr) (n n' c c' : Nat) (l m : List ChkB) (w : World) (hx : ChunksN w B A n l) (hy : ChunksN w B A' n' m) (hB : B ≤ w.heap.size) (hn : n ≤ 1000000000000) (hl : ∀ ch ∈ l, ch.2.1.length ≤ 1000000000000 ∧ ch.2.2.1.length ≤ 1000000000000 ∧ ch.2.2.2.length ≤ 1000000000000) :
    Calls Tryd.prog 17 #[.slice A n c, .slice A' n' c', .func (.func 18) #[] #[]] w fun e w' => e = .returned (.bool (eqChs l m)) ∧ Grows w w' := by
  have HLx := Lib.hid hx.1
  have HLy := Lib.hid hy.1
  have HX := Lib.hid hx; clear hx
  have HY := Lib.hid hy; clear hy
  have HL := Lib.hid hl; clear hl
  by_cases hnn : n = n'
  · subst hnn
    go_enter Tryd.func17, Tryd.ntmps17
    go_wp2
    go_loopg [7] n (fun gk q wr => Grows w wr ∧ ∃ k : Nat, q = .int .i64 k ∧ k ≤ n ∧ gk = n - k ∧ l.take k = m.take k)
    case atStart => exact ⟨Grows.refl _, 0, rfl, by omega, rfl, rfl⟩
    case round =>
      obtain ⟨hgr, k, rfl, hk, hgk, hno⟩ := hrel
      have HG := Lib.hid hgk; clear hgk
      have HN := Lib.hid hno; clear hno
      have hsz := hgr.size
      by_cases hlt : k < n
      · obtain ⟨ad, rfl, had, ha⟩ := (HX.out.grows hB hgr).at_ hlt
        obtain ⟨ad', rfl, had', ha'⟩ := (HY.out.grows hB hgr).at_ hlt
        have hct := Lib.hid (gch_take HLx.out HLy.out hlt)
        have hmem : gch l k ∈ l := by
          have : gch l k = l[k]'(by rw [HLx.out]; exact hlt) := by simp [gch, List.getElem?_eq_getElem (show k < l.length by rw [HLx.out]; exact hlt)]
          rw [this]; exact List.getElem_mem _
        have hlen := HL.out _ hmem
        obtain ⟨x, hxe⟩ : ∃ x, gch l k = x := ⟨_, rfl⟩
        obtain ⟨y, hye⟩ : ∃ y, gch m k = y := ⟨_, rfl⟩
        rw [hxe] at ha hct hlen
        rw [hye] at ha' hct
        have HXE := Lib.hid hxe
        have HYE := Lib.hid hye
        clear hxe hye hmem
        obtain ⟨kx, x1, x2, x3⟩ := x
        obtain ⟨ky, y1, y2, y3⟩ := y
        obtain ⟨p0, ⟨A1, n1, c1, p1, r1, _⟩, ⟨A2, n2, c2, p2, r2, _⟩, ⟨A3, n3, c3, p3, r3, _⟩⟩ := ha
        obtain ⟨q0, ⟨A1', n1', c1', q1, s1, _⟩, ⟨A2', n2', c2', q2, s2, _⟩, ⟨A3', n3', c3', q3, s3, _⟩⟩ := ha'
        have k0 : (0 : Int) ≤ k := by omega
        have k1 : (k : Int) < n := by omega
        dsimp only at p0 q0 hlen r1 r2 r3 s1 s2 s3
        have R1 := Lib.hid r1.drew
        have R2 := Lib.hid r2.drew
        have R3 := Lib.hid r3.drew
        have S1 := Lib.hid s1.drew
        have S2 := Lib.hid s2.drew
        have S3 := Lib.hid s3.drew
        have l1 : n1 ≤ 1000000000000 := by have := r1.strLen; omega
        have l2 : n2 ≤ 1000000000000 := by have := r2.strLen; omega
        have l3 : n3 ≤ 1000000000000 := by have := r3.strLen; omega
        have HBW := Lib.hid (show B ≤ wr.drew.heap.size from Nat.le_trans hB hsz)
        clear r1 r2 r3 s1 s2 s3 hlen
        cases he : eqCh (kx, x1, x2, x3) (ky, y1, y2, y3) with
        | true =>
          have hf := Lib.hid (show l.take (k + 1) = m.take (k + 1) from hct.out.2 ⟨HN.out, eqCh_iff.1 he⟩)
          have he2 := Lib.hid he
          clear he
          go_wp2
          go_still_tail 9, (by kernel_rfl)
          have ew : ({ heap := wr.heap, tape := wr.tape, drawn := wr.drawn + 1, os := wr.os, output := wr.output } : World) = wr.drew := rfl
          rw [ew]
          have hgd : Grows w wr.drew := hgr.drew
          clear ew
          go_wp2_with (go_at_call 18; refine (chunkf_any B kx ky A1 A2 A3 A1' A2' A3' n1 n2 n3 n1' n2' n3' c1 c2 c3 c1' c2' c3' x1 x2 x3 y1 y2 y3 wr.drew R1.out R2.out R3.out S1.out S2.out S3.out HBW.out l1 l2 l3).mono ?_; rintro e w5 ⟨rfl, hg5⟩; rw [he2.out]; have hgx5 := hgd.trans hg5)
          go_roundg (n - (k + 1))
          case measure => rw [HG.out]; omega
          case rel => exact ⟨hgx5, k + 1, by go_num, by omega, rfl, hf.out⟩
        | false =>
          have hf := Lib.hid (show eqChs l m = false by
            rw [eqChs, decide_eq_false_iff_not]
            rintro rfl
            rw [HXE.out] at HYE
            rw [eqCh_iff.2 HYE.out] at he
            cases he)
          have he2 := Lib.hid he
          clear he
          go_wp2
          go_still_tail 9, (by kernel_rfl)
          have ew : ({ heap := wr.heap, tape := wr.tape, drawn := wr.drawn + 1, os := wr.os, output := wr.output } : World) = wr.drew := rfl
          rw [ew]
          have hgd : Grows w wr.drew := hgr.drew
          clear ew
          go_wp2_with (go_at_call 18; refine (chunkf_any B kx ky A1 A2 A3 A1' A2' A3' n1 n2 n3 n1' n2' n3' c1 c2 c3 c1' c2' c3' x1 x2 x3 y1 y2 y3 wr.drew R1.out R2.out R3.out S1.out S2.out S3.out HBW.out l1 l2 l3).mono ?_; rintro e w5 ⟨rfl, hg5⟩; rw [he2.out]; have hgx5 := hgd.trans hg5)
          go_ret
          exact ⟨ret_bool hf.out.symm, hgx5⟩
      · have hf := Lib.hid (show eqChs l m = true by
          have := HN.out
          rw [List.take_of_length_le (by rw [HLx.out]; omega), List.take_of_length_le (by rw [HLy.out]; omega)] at this
          rw [this]; simp [eqChs])
        go_wp2
        go_ret
        exact ⟨ret_bool hf.out.symm, hgr⟩
  · have hf := Lib.hid (show eqChs l m = false by
      rw [eqChs, decide_eq_false_iff_not]
      rintro rfl
      exact hnn (HLx.out.symm.trans HLy.out))
    have hne : ((n : Int) != (n' : Int)) = true := by simp; omega
    go_enter Tryd.func17, Tryd.ntmps17
    go_wp2
    go_ret
    exact ⟨ret_bool hf.out.symm, Grows.refl _⟩

end Go.Proofs.YtakgddochbcjbaaDoor
