/- MergeMarks: marks that stand where they may not are refused; in their places they are read. -/
import Derived.Test.YtakgddochbcjbaaDoorPkRefParse
import Derived.Test.YtakgddochbcjbaaDoorPkPlain
import Derived.Test.YtakgddochbcjbaaDoorPkChunkUse
namespace Go.Proofs.YtakgddochbcjbaaDoor
open Go.RowKit Go.Deep Go.MapKept Go.Maps

/-- what was read, or nothing -/
def lpO (r : Option (List ChkB)) : List ChkB := r.getD []
/-- the answer's number -/
def erO (r : Option (List ChkB)) : Int := if r.isSome then 0 else 5
theorem erO_iff (r : Option (List ChkB)) : (erO r = 0) ↔ r.isSome = true := by
  cases r <;> simp [erO]
theorem ParsedAs.open_ {w : World} {B : Nat} {e : Ending} {r : Option (List ChkB)} (h : ParsedAs w B e r) : ∃ A c, e = .returned (.tuple #[.slice A (lpO r).length c, .int .i64 (erO r)]) ∧ ChunksN w w.heap.size A (lpO r).length (lpO r) := by
  cases r with
  | none => exact ⟨none, 0, h, rfl, fun h => absurd h (by decide)⟩
  | some l =>
    obtain ⟨v, rfl, hp⟩ := h
    obtain ⟨xs, hown, hpt⟩ := hp.all
    obtain ⟨A, c, rfl, _⟩ := own_form hown
    exact ⟨A, c, rfl, chunksN_of hown hpt rfl⟩
theorem ParsedAs.openE {w : World} {B : Nat} {e : Ending} {r : Option (List ChkB)} {E : Int} (h : ParsedAs w B e r) (hE : erO r = E) : ∃ A c, e = .returned (.tuple #[.slice A (lpO r).length c, .int .i64 E]) ∧ ChunksN w w.heap.size A (lpO r).length (lpO r) := by
  subst hE
  exact h.open_
theorem decide_int (a b : Nat) : decide (a = b) = ((a : Int) == (b : Int)) := by
  by_cases h : a = b
  · subst h; simp
  · rw [decide_eq_false h]
    have : (a : Int) ≠ b := by omega
    simpa using this
theorem eqChs_same (l : List ChkB) : eqChs l l = true := by simp [eqChs]
theorem ChunksN.moreM {w : World} {B B' n : Nat} {A : Option Addr} {l : List ChkB} (h : ChunksN w B A n l) (hB : B ≤ B') : ChunksN w B' A n l :=
  ⟨h.1, fun hn => by
    obtain ⟨ad, e, hb, hc⟩ := h.2 hn
    exact ⟨ad, e, by omega, fun k hk => (hc k hk).more hB⟩⟩
theorem parseC_PI : ∀ (xs : List ByteArray) (i : Int) (l : List ChkB) (k : Nat) (j : Int) (m : List ChkB), PI i l k → parseC xs i l = some (j, m) → PI j m (k + xs.length)
  | [], i, l, k, j, m, h, e => by
    have : (i, l) = (j, m) := Option.some.inj e
    cases this
    exact h
  | x :: xs, i, l, k, j, m, h, e => by
    rw [List.length_cons, show k + (xs.length + 1) = k + 1 + xs.length by omega]
    cases hx : markF x with
    | none => rw [parseC_none hx] at e; exact parseC_PI xs i _ (k + 1) j m (h.put x) e
    | some b =>
      by_cases hb : b = (i + 1) % 4
      · rw [parseC_mark hx hb] at e; exact parseC_PI xs b _ _ j m (h.mark hb) e
      · rw [parseC_bad hx hb] at e; cases e
theorem parseT_PI {s : ByteArray} {l : List ChkB} (h : parseT s = some l) : ∃ j, PI j l (linesT s).length := by
  unfold parseT at h
  split at h
  · rename_i i m hp
    split at h
    · obtain rfl := Option.some.inj h
      have := parseC_PI _ _ _ 0 _ _ PI.start hp
      rw [Nat.zero_add] at this
      exact ⟨_, this⟩
    · cases h
  · cases h
theorem lpO_rows {s : ByteArray} {N : Nat} (hs : s.size ≤ N) : (lpO (parseT s)).length ≤ N ∧ ∀ ch ∈ lpO (parseT s), ch.2.1.length ≤ N ∧ ch.2.2.1.length ≤ N ∧ ch.2.2.2.length ≤ N := by
  cases hp : parseT s with
  | none => exact ⟨Nat.zero_le _, fun c h => by cases h⟩
  | some l =>
    obtain ⟨j, hj⟩ := parseT_PI hp
    have hle := lines_le s
    refine ⟨?_, fun c hc => ?_⟩
    · have := hj.len
      show l.length ≤ N
      omega
    · have := hj.rows c hc
      omega

def kN (x : Int) : Nat := (wrap64 ((IntKind.u64.wrap x).tmod 5)).toNat
theorem kN_spec (x : Int) : kN x < 5 ∧ wrap64 ((IntKind.u64.wrap x).tmod 5) = (kN x : Nat) := by
  have h := Int.emod_nonneg x (b := 18446744073709551616) (by omega)
  unfold kN
  rw [IntKind.wrap_u64, Int.tmod_eq_emod_of_nonneg h]
  unfold wrap64
  omega
def ksP (xs : List Int) (i : Nat) : List Nat := (xs.take i).map kN
theorem ksP_succ {xs : List Int} {i : Nat} (h : i < xs.length) : ksP xs (i + 1) = ksP xs i ++ [kN (gi xs i)] := by
  rw [ksP, ksP, List.take_add_one, List.map_append]
  congr 1
  rw [List.getElem?_eq_getElem h, gi, List.getD_eq_getElem?_getD, List.getElem?_eq_getElem h]
  rfl
theorem ksP_le (xs : List Int) (i : Nat) : ∀ k ∈ ksP xs i, k ≤ 4 := by
  intro k hk
  obtain ⟨x, _, rfl⟩ := List.mem_map.1 hk
  have := (kN_spec x).1
  omega
theorem runM_snoc : ∀ (ks : List Nat) (k : Nat) (st : Bool × Nat), runM (ks ++ [k]) st = if k = 4 then runM ks st else ((runM ks st).1 && decide (k = (runM ks st).2), (k + 1) % 4)
  | [], k, st => by
    show runM [k] st = _
    rw [runM]
    rfl
  | x :: ks, k, st => by
    show runM (x :: (ks ++ [k])) st = _
    rw [runM, runM_snoc ks k, runM]
theorem joinT_snoc (l : List ByteArray) (x : ByteArray) : joinT (l ++ [x]) = joinT l ++ x := by
  apply ByteArray.ext
  rw [ByteArray.data_append]
  simp [joinT, bl, tx]
theorem lnK_size (k : Nat) : (lnK k).size ≤ 15 := by
  unfold lnK
  split
  · decide
  · split
    · decide
    · split
      · decide
      · split <;> decide
def stT (xs : List Int) (i : Nat) : ByteArray := joinT ((ksP xs i).map lnK)
def rtM (xs : List Int) (i : Nat) : Bool := (runM (ksP xs i) (true, 0)).1
def atM (xs : List Int) (i : Nat) : Nat := (runM (ksP xs i) (true, 0)).2
theorem stT_succ {xs : List Int} {i : Nat} (h : i < xs.length) : stT xs (i + 1) = stT xs i ++ lnK (kN (gi xs i)) := by
  rw [stT, ksP_succ h, List.map_append, List.map_singleton, joinT_snoc]; rfl
theorem stT_size (xs : List Int) : ∀ i, i ≤ xs.length → (stT xs i).size ≤ 15 * i
  | 0, _ => by simp [stT, ksP, joinT, bl, tx_size]
  | i + 1, h => by
    rw [stT_succ (by omega), ByteArray.size_append]
    have h1 := stT_size xs i (by omega)
    have h2 := lnK_size (kN (gi xs i))
    omega
theorem rtM_succ {xs : List Int} {i : Nat} (h : i < xs.length) : rtM xs (i + 1) = if kN (gi xs i) = 4 then rtM xs i else (rtM xs i && decide (kN (gi xs i) = atM xs i)) := by
  rw [rtM, ksP_succ h, runM_snoc]
  split <;> rfl
theorem atM_succ {xs : List Int} {i : Nat} (h : i < xs.length) : atM xs (i + 1) = if kN (gi xs i) = 4 then atM xs i else (kN (gi xs i) + 1) % 4 := by
  rw [atM, ksP_succ h, runM_snoc]
  split <;> rfl
theorem atM_lt (xs : List Int) : ∀ i, i ≤ xs.length → atM xs i < 4
  | 0, _ => by simp [atM, ksP, runM]
  | i + 1, h => by
    rw [atM_succ (by omega)]
    split
    · exact atM_lt xs i (by omega)
    · omega
theorem says_end {xs : List Int} {i : Nat} : (parseT (stT xs i)).isSome = (rtM xs i && decide (atM xs i = 0)) :=
  parse_says (ksP_le xs i) (lines_lnK _)

def marksL : List ByteArray := [mkO, mkB, mkT, mkE]
theorem marksL_get {k : Nat} (h : k < 4) : gs marksL k = lnK k := by
  rcases (by omega : k = 0 ∨ k = 1 ∨ k = 2 ∨ k = 3) with rfl | rfl | rfl | rfl <;> rfl
set_option maxRecDepth 100000 in
set_option maxHeartbeats 2000000 in
theorem mmarks_any (A : Option Addr) (n c : Nat) (xs : List Int) (w : World) (hm : MaxL w) (h : Reads w w.heap.size 1 A n (ints xs)) (hn : n ≤ 12) :
    Calls Tryd.prog 4 #[.slice A n c] w fun e w' => e = .returned (.bool true) ∧ Grows w w' := by
  have HL := Lib.hid h.intLen
  have hw0 : w.alloc (.cells #[.string { data := #[60, 60, 60, 60, 60, 60, 60, 32, 111, 117, 114, 115, 10] }, .string { data := #[124, 124, 124, 124, 124, 124, 124, 32, 98, 97, 115, 101, 10] }, .string { data := #[61, 61, 61, 61, 61, 61, 61, 10] }, .string { data := #[62, 62, 62, 62, 62, 62, 62, 32, 116, 104, 101, 105, 114, 115, 10] }] 9) = w.alloc (.cells (strs marksL).toArray 9 (0, 0)) := rfl
  have HR0 := Lib.hid (Reads.newRow w 9 (strs marksL) (0, 0))
  have hg0 := (Grows.refl w).alloc (.cells (strs marksL).toArray 9 (0, 0))
  have HX := Lib.hid (h.grows (Nat.le_refl _) hg0)
  have hm0 := hm.grows hg0
  have HW := Lib.hid hw0
  clear h hw0
  go_enter Tryd.func4, Tryd.ntmps4
  go_wp2_with fail
  rw [HW.out]
  clear HW
  generalize w.alloc (.cells (strs marksL).toArray 9 (0, 0)) = w0 at *
  have hs0 : stT xs 0 = { data := #[] } := rfl
  go_loopg [7, 4, 5, 6] n (fun gk q sv rv av wr => wr = w0 ∧ ∃ i : Nat, q = .int .i64 i ∧ i ≤ n ∧ gk = n - i ∧ sv = .string (stT xs i) ∧ rv = .bool (rtM xs i) ∧ av = .int .i64 (atM xs i : Nat))
  case atStart => exact ⟨rfl, 0, rfl, by omega, rfl, rfl, rfl, rfl⟩
  case round =>
    obtain ⟨rfl, i, rfl, hi, hgk, rfl, rfl, rfl⟩ := hrel
    have HG := Lib.hid hgk; clear hgk
    clear hs0
    have hss := stT_size xs i (by rw [HL.out]; exact hi)
    by_cases hlt : i < n
    · obtain ⟨ad, rfl, had, p0⟩ := HX.out.int hlt
      have HS := Lib.hid (stT_succ (xs := xs) (i := i) (by rw [HL.out]; exact hlt))
      have HT := Lib.hid (rtM_succ (xs := xs) (i := i) (by rw [HL.out]; exact hlt))
      have HA := Lib.hid (atM_succ (xs := xs) (i := i) (by rw [HL.out]; exact hlt))
      have hk := kN_spec (gi xs i)
      generalize kN (gi xs i) = kk at HS HT HA hk
      obtain ⟨hk5, hkw⟩ := hk
      have k0 : (0 : Int) ≤ i := by omega
      have k1 : (i : Int) < n := by omega
      have hls := lnK_size kk
      by_cases h4 : kk = 4
      · subst h4
        have HLX := Lib.hid (show lnK 4 = { data := #[120, 10] } from rfl)
        rw [if_pos rfl] at HT HA
        go_wp2_with fail
        go_roundg (n - (i + 1))
        case measure => rw [HG.out]; omega
        case rel => exact ⟨rfl, i + 1, by go_num, by omega, rfl, by rw [HS.out]; rfl, by rw [HT.out], by rw [HA.out]⟩
      · rw [if_neg h4] at HT HA
        have hcell := HR0.out.strAt (k := kk) (show kk < 4 by omega)
        rw [marksL_get (by omega), show (⟨w.heap.size, 0, none⟩ : Addr).add kk = ⟨w.heap.size, kk, none⟩ by unfold Addr.add; split <;> simp_all] at hcell
        have h40 : ¬ ((kk : Int) = 4) := by omega
        have h41 : (kk : Int) < 4 := by omega
        have h42 : (0 : Int) ≤ kk := by omega
        cases hr : rtM xs i with
        | true =>
          go_wp2_with fail
          go_roundg (n - (i + 1))
          case measure => rw [HG.out]; omega
          case rel => exact ⟨rfl, i + 1, by go_num, by omega, rfl, by rw [HS.out], by rw [HT.out, hr, Bool.true_and, decide_int], by rw [HA.out]; push_cast; rfl⟩
        | false =>
          go_wp2_with fail
          go_roundg (n - (i + 1))
          case measure => rw [HG.out]; omega
          case rel => exact ⟨rfl, i + 1, by go_num, by omega, rfl, by rw [HS.out], by rw [HT.out, hr, Bool.false_and], by rw [HA.out]; push_cast; rfl⟩
    · have hin : i = n := by omega
      subst hin
      have k1 : ¬ ((i : Int) < i) := by omega
      have HRO := Lib.hid (lpO_rows (s := stT xs i) (N := 1000000000000) (by omega))
      have HSE := says_end (xs := xs) (i := i)
      have hat := atM_lt xs i (by rw [HL.out]; exact Nat.le_refl _)
      cases hr : rtM xs i with
      | true =>
        rw [hr, Bool.true_and] at HSE
        by_cases ha : atM xs i = 0
        · rw [decide_eq_true ha] at HSE
          have HE := Lib.hid (show erO (parseT (stT xs i)) = 0 from (erO_iff _).2 HSE)
          clear HSE
          go_wp2_with fail
          refine (parse_any (stT xs i) wr hm0 (by omega)).mono ?_
          rintro e w1 ⟨hp1, hg1⟩
          obtain ⟨A1, c1, rfl, hC1⟩ := hp1.openE HE.out
          have hg1' := hg0.trans hg1
          go_wp2_with fail
          refine (rparse_any (stT xs i) w1 (by omega)).mono ?_
          rintro e w2 ⟨hp2, hg2⟩
          obtain ⟨A2, c2, rfl, hC2⟩ := hp2.openE HE.out
          have hg2' := hg1'.trans hg2
          go_wp2_with fail
          refine (mawake_any w2 (hm.grows hg2')).mono ?_
          rintro e w3 ⟨rfl, hg3⟩
          have hg3' := hg2'.trans hg3
          have HS := sameCh_any w3.heap.size A1 A2 _ _ c1 c2 _ _ w3 ((hC1.grows (Nat.le_refl _) (hg2.trans hg3)).moreM (hg2.trans hg3).size) ((hC2.grows (Nat.le_refl _) hg3).moreM hg3.size) (Nat.le_refl _) HRO.out.1 HRO.out.2
          rw [eqChs_same] at HS
          go_wp2_with fail
          refine HS.mono ?_
          rintro e w4 ⟨rfl, hg4⟩
          go_wp2_with fail
          go_ret
          exact ⟨rfl, hg3'.trans hg4⟩
        · rw [decide_eq_false ha] at HSE
          have HE := Lib.hid (show erO (parseT (stT xs i)) = 5 by rw [erO, HSE]; rfl)
          clear HSE
          have ha' : ((atM xs i : Nat) : Int) ≠ 0 := by omega
          have ha2 : (((atM xs i : Nat) : Int) == 0) = false := by simpa using ha
          go_wp2_with fail
          refine (parse_any (stT xs i) wr hm0 (by omega)).mono ?_
          rintro e w1 ⟨hp1, hg1⟩
          obtain ⟨A1, c1, rfl, hC1⟩ := hp1.openE HE.out
          have hg1' := hg0.trans hg1
          go_wp2_with fail
          refine (rparse_any (stT xs i) w1 (by omega)).mono ?_
          rintro e w2 ⟨hp2, hg2⟩
          obtain ⟨A2, c2, rfl, hC2⟩ := hp2.openE HE.out
          have hg2' := hg1'.trans hg2
          go_wp2_with fail
          refine (mawake_any w2 (hm.grows hg2')).mono ?_
          rintro e w3 ⟨rfl, hg3⟩
          have hg3' := hg2'.trans hg3
          have HS := sameCh_any w3.heap.size A1 A2 _ _ c1 c2 _ _ w3 ((hC1.grows (Nat.le_refl _) (hg2.trans hg3)).moreM (hg2.trans hg3).size) ((hC2.grows (Nat.le_refl _) hg3).moreM hg3.size) (Nat.le_refl _) HRO.out.1 HRO.out.2
          rw [eqChs_same] at HS
          go_wp2_with fail
          refine HS.mono ?_
          rintro e w4 ⟨rfl, hg4⟩
          go_wp2_with fail
          go_ret
          exact ⟨rfl, hg3'.trans hg4⟩
      | false =>
        rw [hr, Bool.false_and] at HSE
        have HE := Lib.hid (show erO (parseT (stT xs i)) = 5 by rw [erO, HSE]; rfl)
        clear HSE
        go_wp2_with fail
        refine (parse_any (stT xs i) wr hm0 (by omega)).mono ?_
        rintro e w1 ⟨hp1, hg1⟩
        obtain ⟨A1, c1, rfl, hC1⟩ := hp1.openE HE.out
        have hg1' := hg0.trans hg1
        go_wp2_with fail
        refine (rparse_any (stT xs i) w1 (by omega)).mono ?_
        rintro e w2 ⟨hp2, hg2⟩
        obtain ⟨A2, c2, rfl, hC2⟩ := hp2.openE HE.out
        have hg2' := hg1'.trans hg2
        go_wp2_with fail
        refine (mawake_any w2 (hm.grows hg2')).mono ?_
        rintro e w3 ⟨rfl, hg3⟩
        have hg3' := hg2'.trans hg3
        have HS := sameCh_any w3.heap.size A1 A2 _ _ c1 c2 _ _ w3 ((hC1.grows (Nat.le_refl _) (hg2.trans hg3)).moreM (hg2.trans hg3).size) ((hC2.grows (Nat.le_refl _) hg3).moreM hg3.size) (Nat.le_refl _) HRO.out.1 HRO.out.2
        rw [eqChs_same] at HS
        go_wp2_with fail
        refine HS.mono ?_
        rintro e w4 ⟨rfl, hg4⟩
        go_wp2_with fail
        go_ret
        exact ⟨rfl, hg3'.trans hg4⟩

set_option maxRecDepth 100000 in
theorem mmarks_all (A : Option Addr) (n c : Nat) (xs : List Int) (w : World) (hm : MaxL w) (h : Reads w w.heap.size 1 A n (ints xs)) :
    Calls Tryd.prog 4 #[.slice A n c] w fun e w' => e = .returned (.bool true) ∧ Grows w w' := by
  by_cases hn : n ≤ 12
  · exact mmarks_any A n c xs w hm h hn
  · clear h
    have h12 : (12 : Int) < n := by omega
    go_enter Tryd.func4, Tryd.ntmps4
    go_wp2_with fail
    refine (mawake_any w hm).mono ?_
    rintro e w1 ⟨rfl, hg1⟩
    go_wp2_with fail
    go_ret
    exact ⟨rfl, hg1⟩
end Go.Proofs.YtakgddochbcjbaaDoor
