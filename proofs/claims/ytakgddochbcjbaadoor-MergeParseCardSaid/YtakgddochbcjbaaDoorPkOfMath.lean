/- What chunk.Of's maps say of lines. -/
import Derived.Test.YtakgddochbcjbaaDoorPkTo
import Derived.Test.YtakgddochbcjbaaDoorPkStands
import Derived.Test.YtakgddochbcjbaaDoorPkChunkPlain
namespace Go.Proofs.YtakgddochbcjbaaDoor
open Go.RowKit Go.Deep Go.MapKept

section
variable (a b c : List ByteArray)
theorem keptF_nat (i : Nat) : keptF a b i = if 0 ≤ at3 a b i then some (at3 a b i) else none := by
  unfold keptF plcF at3
  rw [Int.toNat_natCast]
  by_cases h : 0 ≤ (plc (sc a b) 0).getD i (-1)
  · rw [if_pos ⟨by omega, h⟩, if_pos h]
  · rw [if_neg (fun h' => h h'.2), if_neg h]
/-- what kept tells, in two words -/
theorem keptF_yes {i x : Nat} (h : at3 a b i = x) : (keptF a b i).getD 0 = x ∧ (keptF a b i).isSome = true := by
  rw [keptF_nat, if_pos (by omega), h]; exact ⟨rfl, rfl⟩
theorem keptF_no {i : Nat} (h : at3 a b i < 0) : (keptF a b i).getD 0 = 0 ∧ (keptF a b i).isSome = false := by
  rw [keptF_nat, if_neg (by omega)]; exact ⟨rfl, rfl⟩
/-- firm lines: their place in base, told by their places in both sides -/
def firmF : Nat → Int × Int → Option Int
  | 0 => fun _ => none
  | k + 1 => if at3 a b k < 0 ∨ at3 a c k < 0 then firmF k else putF (firmF k) (at3 a b k, at3 a c k) k
theorem firmF_none {k : Nat} {q : Int × Int} (h : ∀ j, j < k → ¬ (0 ≤ at3 a b j ∧ 0 ≤ at3 a c j ∧ at3 a b j = q.1 ∧ at3 a c j = q.2)) : firmF a b c k q = none := by
  induction k with
  | zero => rfl
  | succ k ih =>
    unfold firmF
    have h0 := ih fun j hj => h j (by omega)
    split
    · exact h0
    · rename_i hn
      unfold putF
      rw [if_neg]
      · exact h0
      · rintro rfl
        exact h k (by omega) ⟨by omega, by omega, rfl, rfl⟩
theorem firmF_some {k i x y : Nat} (hi : i < k) (hx : at3 a b i = x) (hy : at3 a c i = y) (hu : ∀ j, at3 a b j = (x : Int) → j = i) : firmF a b c k (x, y) = some (i : Int) := by
  induction k with
  | zero => omega
  | succ k ih =>
    unfold firmF
    by_cases hk : i = k
    · subst hk
      rw [if_neg (by omega), hx, hy]
      simp [putF]
    · split
      · exact ih (by omega)
      · unfold putF
        rw [if_neg]
        · exact ih (by omega)
        · intro e
          exact hk (hu k (congrArg Prod.fst e).symm).symm
theorem at3_inj {i j x : Nat} (hi : at3 a b i = x) (hj : at3 a b j = x) : i = j := by
  obtain ⟨q, g1, g2⟩ := at3_cut hi
  obtain ⟨r, h1, h2⟩ := at3_cut hj
  rcases Nat.lt_trichotomy i j with h | h | h
  · have := (g2.mono h1 (cut_before g2 h2 (by omega))).2; omega
  · exact h
  · have := (h2.mono g1 (cut_before h2 g2 (by omega))).2; omega
/-- where a run goes on, the map says so -/
theorem firm_on {i x y n : Nat} (hi : i < a.length) (hx : at3 a b i = x) (hy : at3 a c i = y) (hn : n < runN a b c i) : (firmF a b c a.length ((x : Int) + n, (y : Int) + n)).getD 0 = (i : Int) + n ∧ (firmF a b c a.length ((x : Int) + n, (y : Int) + n)).isSome = true := by
  obtain ⟨h1, h2, h3⟩ := run_all hi hx hy hn
  have h := firmF_some a b c h1 h2 h3 (fun j hj => at3_inj a b hj h2)
  have e : (((x + n : Nat) : Int), ((y + n : Nat) : Int)) = ((x : Int) + n, (y : Int) + n) := by congr 1 <;> omega
  rw [e] at h
  rw [h]
  exact ⟨by simp, rfl⟩
/-- where it stops, the map tells nothing, or another line -/
theorem firm_off {i x y : Nat} (hx : at3 a b i = x) (hy : at3 a c i = y) : (firmF a b c a.length ((x : Int) + runN a b c i, (y : Int) + runN a b c i)).isSome = false ∨ ((firmF a b c a.length ((x : Int) + runN a b c i, (y : Int) + runN a b c i)).isSome = true ∧ (firmF a b c a.length ((x : Int) + runN a b c i, (y : Int) + runN a b c i)).getD 0 ≠ (i : Int) + runN a b c i) := by
  have hs := run_stop hx hy
  generalize runN a b c i = n at hs ⊢
  by_cases h : ∃ j, j < a.length ∧ (0 ≤ at3 a b j ∧ 0 ≤ at3 a c j ∧ at3 a b j = (x : Int) + n ∧ at3 a c j = (y : Int) + n)
  · obtain ⟨j, hj, _, _, h1, h2⟩ := h
    have h1' : at3 a b j = ((x + n : Nat) : Int) := by omega
    have h2' : at3 a c j = ((y + n : Nat) : Int) := by omega
    have hf := firmF_some a b c hj h1' h2' (fun k hk => at3_inj a b hk h1')
    have e : (((x + n : Nat) : Int), ((y + n : Nat) : Int)) = ((x : Int) + n, (y : Int) + n) := by congr 1 <;> omega
    rw [e] at hf
    rw [hf]
    refine .inr ⟨rfl, fun e => hs ?_⟩
    have hji : j = i + n := by simp at e; omega
    subst hji
    exact ⟨hj, h1', h2'⟩
  · rw [firmF_none a b c (fun j hj hq => h ⟨j, hj, hq⟩)]
    exact .inl rfl
end
theorem seg_end {α : Type} (l : List α) (p : Nat) : seg l p l.length = l.drop p := by unfold seg; rw [List.take_length]
theorem Reads.turn {w w' : World} {B Ba size n : Nat} {A : Option Addr} {xs : List Value} (h : Reads w Ba size A n xs) (hB : Ba ≤ B) (ht : Turn B w w') : Reads w' Ba size A n xs := h.below (Below.mono ht.below hB)

end Go.Proofs.YtakgddochbcjbaaDoor
