/- The merge chapter's first line, awake; few; MergeOne. -/
import Derived.Test.YtakgddochbcjbaaDoorPlain
namespace Go.Proofs.YtakgddochbcjbaaDoor
open Go.RowKit Go.Deep Go.MapKept

def mA : ByteArray := { data := #[97, 10] }
def mB : ByteArray := { data := #[98, 10] }
theorem lines_mA : linesT mA = [mA] := by kernel_rfl
theorem parse_mA : parseT mA = some [(1, [mA], [mA], [mA])] := by kernel_rfl
theorem plain_mA : plainT mA = true := by kernel_rfl

/-- not too much -/
def fewN (n : Nat) (xs : List ByteArray) : Bool := decide (∀ i, i < n → (gs xs i).size ≤ 400)
theorem fewN_iff {n : Nat} {xs : List ByteArray} : fewN n xs = true ↔ ∀ i, i < n → (gs xs i).size ≤ 400 := decide_eq_true_iff
set_option maxRecDepth 100000 in
set_option maxHeartbeats 1000000 in
theorem few_lines (B : Nat) (A : Option Addr) (n c : Nat) (xs : List ByteArray) (w : World) (h : Reads w B 1 A n (strs xs)) (hn : n ≤ 1000) :
    Calls Tryd.prog 12 #[.slice A n c] w fun e w' => e = .returned (.bool (fewN n xs)) ∧ w = w' := by
  have HR := Lib.hid h
  clear h
  go_enter Tryd.func12, Tryd.ntmps12
  go_wp2_with fail
  go_loopg [3] n (fun gk q wr => w = wr ∧ ∃ k : Nat, q = .int .i64 k ∧ k ≤ n ∧ gk = n - k ∧ ∀ i, i < k → (gs xs i).size ≤ 400)
  case atStart => exact ⟨rfl, 0, rfl, by omega, rfl, fun i hi => absurd hi (Nat.not_lt_zero i)⟩
  case round =>
    obtain ⟨rfl, k, rfl, hk, hgk, hno⟩ := hrel
    have HG := Lib.hid hgk; clear hgk
    have HN := Lib.hid hno; clear hno
    by_cases hlt : k < n
    · obtain ⟨ad, rfl, had, p0⟩ := HR.out.str hlt
      have k0 : (0 : Int) ≤ k := by omega
      have k1 : (k : Int) < n := by omega
      by_cases hz : 400 < (gs xs k).size
      · have hf := Lib.hid (show fewN n xs = false from decide_eq_false (fun h => by have := h k hlt; omega))
        have z1 : ((gs xs k).size : Int) > 400 := by omega
        go_wp2_with fail
        go_ret
        exact ⟨ret_bool hf.out.symm, rfl⟩
      · have z1 : ¬ (((gs xs k).size : Int) > 400) := by omega
        have hsu := Lib.hid (show ∀ i, i < k + 1 → (gs xs i).size ≤ 400 from fun i hi => by
          rcases Nat.lt_succ_iff_lt_or_eq.1 hi with h1 | rfl
          · exact HN.out i h1
          · omega)
        go_wp2_with fail
        go_roundg (n - (k + 1))
        case measure => rw [HG.out]; omega
        case rel => exact ⟨rfl, k + 1, by go_num, by omega, rfl, hsu.out⟩
    · have hkn : k = n := by omega
      subst hkn
      have k1 : ¬ ((k : Int) < k) := by omega
      have hf := Lib.hid (show fewN k xs = true from decide_eq_true HN.out)
      go_wp2_with fail
      go_ret
      exact ⟨ret_bool hf.out.symm, rfl⟩

theorem PS.form {w : World} {B : Nat} {v : Value} {l : List ChkB} (h : PS w B v l) : ∃ A c, v = .slice A l.length c ∧ l.length ≤ c ∧ c ≤ maxLen := by
  obtain ⟨xs, hown, _⟩ := h.all
  exact own_form hown

set_option maxRecDepth 100000 in
set_option maxHeartbeats 1000000 in
theorem mawake_any (w : World) (hm : MaxL w) : Calls Tryd.prog 13 #[] w fun e w' => e = .returned (.bool true) ∧ Grows w w' := by
  have hone := one_theirs (linesT mA) (linesT mB)
  have hbb : mB.toList = [98, 10] := by rw [ByteArray.toList_eq]; rfl
  go_enter Tryd.func13, Tryd.ntmps13
  go_wp2_with fail
  refine (merge_clean _ mA mB mA mB w hm (by decide) (by decide) (by decide) (by decide) rfl hone.1 hone.2).mono ?_
  rintro e w1 ⟨rfl, hg1⟩
  have hm1 := hm.grows hg1
  go_wp2_with fail
  refine (parse_any mA w1 hm1 (by decide)).mono ?_
  rw [parse_mA]
  rintro e w2 ⟨⟨v, rfl, hps⟩, hg2⟩
  obtain ⟨A2, c2, rfl, _, _⟩ := hps.form
  have hg2' := hg1.trans hg2
  have hm2 := hm.grows hg2'
  clear hps
  go_wp2_with fail
  refine (plain_walk mA w2 hm2 (by decide)).mono ?_
  rw [plain_mA]
  rintro e w3 ⟨rfl, hg3⟩
  go_wp2_with fail
  go_ret
  exact ⟨rfl, hg2'.trans hg3⟩

set_option maxRecDepth 100000 in
set_option maxHeartbeats 2000000 in
theorem mone_any (a b : ByteArray) (w : World) (hm : MaxL w) : Calls Tryd.prog 3 #[.string a, .string b] w fun e w' => e = .returned (.bool true) ∧ Grows w w' := by
  have hr0 := Reads.newRow w 9 (strs [a, b]) (0, 0)
  have hg0 := (Grows.refl w).alloc (.cells (strs [a, b]).toArray 9 (0, 0))
  have hm0 := hm.grows hg0
  have HF := Lib.hid (few_lines _ _ 2 2 [a, b] (w.alloc (.cells (strs [a, b]).toArray 9 (0, 0))) hr0 (by decide))
  clear hr0
  cases hd : fewN 2 [a, b] with
  | true =>
    have hfew := fewN_iff.1 hd
    have ha : a.size ≤ 400 := hfew 0 (by decide)
    have hb : b.size ≤ 400 := hfew 1 (by decide)
    have o1 := Lib.hid (one_ours (linesT a) (linesT a))
    have o2 := Lib.hid (one_ours (linesT a) (linesT b))
    have o3 := Lib.hid (one_theirs (linesT a) (linesT b))
    have o4 := Lib.hid (one_both (linesT a) (linesT b))
    rw [hd] at HF
    clear hfew hd
    go_enter Tryd.func3, Tryd.ntmps3
    go_wp2_with fail
    refine HF.out.mono ?_
    rintro e _ ⟨rfl, rfl⟩
    clear HF
    go_wp2_with fail
    refine (merge_clean _ a a a a _ hm0 ha ha ha ha rfl o1.out.1 o1.out.2).mono ?_
    rintro e w1 ⟨rfl, hg1⟩
    have hg1' := hg0.trans hg1
    go_wp2_with fail
    refine (merge_clean _ a a b b _ (hm.grows hg1') ha ha hb hb rfl o2.out.1 o2.out.2).mono ?_
    rintro e w2 ⟨rfl, hg2⟩
    have hg2' := hg1'.trans hg2
    go_wp2_with fail
    refine (merge_clean _ a b a b _ (hm.grows hg2') ha hb ha hb rfl o3.out.1 o3.out.2).mono ?_
    rintro e w3 ⟨rfl, hg3⟩
    have hg3' := hg2'.trans hg3
    go_wp2_with fail
    refine (merge_clean _ a b b b _ (hm.grows hg3') ha hb hb hb rfl o4.out.1 o4.out.2).mono ?_
    rintro e w4 ⟨rfl, hg4⟩
    have hg4' := hg3'.trans hg4
    go_wp2_with fail
    refine (mawake_any _ (hm.grows hg4')).mono ?_
    rintro e w5 ⟨rfl, hg5⟩
    go_wp2_with fail
    go_ret
    exact ⟨rfl, hg4'.trans hg5⟩
  | false =>
    rw [hd] at HF
    clear hd
    go_enter Tryd.func3, Tryd.ntmps3
    go_wp2_with fail
    refine HF.out.mono ?_
    rintro e _ ⟨rfl, rfl⟩
    clear HF
    go_wp2_with fail
    refine (mawake_any _ hm0).mono ?_
    rintro e w5 ⟨rfl, hg5⟩
    go_wp2_with fail
    go_ret
    exact ⟨rfl, hg0.trans hg5⟩
end Go.Proofs.YtakgddochbcjbaaDoor
