/- Rows of strings of the call's own; lists of them. -/
import Derived.Test.YtakgddochbcjbaaDoorStrs
namespace Go.Proofs.YtakgddochbcjbaaDoor
open Go.RowKit Go.Deep Go.MapKept

/-- a row of strings of the call's own, wherever it stands -/
def OwnS (w : World) (v : Value) (ys : List ByteArray) : Prop := w.ownsRow 0 9 1 v ys.length (strs ys)
theorem OwnS.of {w : World} {B n : Nat} {v : Value} {ys : List ByteArray} (h : w.ownsRow B 9 1 v n (strs ys)) : OwnS w v ys := by
  have hl : ys.length = n := by have := h.1; simpa [strs] using this
  unfold OwnS
  rw [hl]
  exact own_mono h (Nat.zero_le _)
theorem OwnS.grows {w w' : World} {v : Value} {ys : List ByteArray} (h : OwnS w v ys) (hg : Grows w w') : OwnS w' v ys := own_grows h hg
theorem OwnS.form {w : World} {v : Value} {ys : List ByteArray} (h : OwnS w v ys) : ∃ A c, v = .slice A ys.length c ∧ ys.length ≤ c ∧ c ≤ maxLen := own_form h
theorem OwnS.reads {w : World} {A : Option Addr} {n c : Nat} {ys : List ByteArray} (h : OwnS w (.slice A n c) ys) : Reads w w.heap.size 1 A n (strs ys) := by
  obtain ⟨A', c', e, _, _⟩ := h.form
  injection e with e1 e2 e3
  subst e1 e2 e3
  exact Reads.of_own h
theorem own_own_ne {w : World} {B B' e e' size size' n n' : Nat} {v v' : Value} {xs xs' : List Value} (h : w.ownsRow B e size v n xs) (h' : w.ownsRow B' e' size' v' n' xs') (hne : e ≠ e') : v.ownBlock = none ∨ v.ownBlock ≠ v'.ownBlock := by
  rcases h.2 with ⟨rfl, _⟩ | ⟨g, cap, cur, rfl, _, hg, _⟩
  · exact .inl rfl
  · refine .inr fun he => ?_
    rcases h'.2 with ⟨rfl, _⟩ | ⟨g', cap', cur', rfl, _, hg', _⟩
    · simp [Value.ownBlock] at he
    · have : g = g' := by simpa [Value.ownBlock] using he
      subst this
      rw [hg] at hg'
      injection hg' with hg'
      injection hg' with _ h2
      exact hne h2
/-- what is appended to a row of another kind leaves it -/
theorem OwnS.beside {w w' : World} {B e size n : Nat} {u v : Value} {xs : List Value} {ys : List ByteArray} (h : OwnS w v ys) (hu : w.ownsRow B e size u n xs) (hne : 9 ≠ e) (hg : w.grownBy w' u.ownBlock) : OwnS w' v ys :=
  World.ownsRow.kept h hg (own_own_ne h hu hne)

theorem OwnS.alloc {w : World} {v : Value} {ys : List ByteArray} (h : OwnS w v ys) (o : Obj) : OwnS (w.alloc o) v ys := h.grows ((Grows.refl w).alloc o)
/-- a longer row's beginning -/
theorem own_take {w : World} {B g n k c : Nat} {xs : List ByteArray} (h : w.ownsRow B 9 1 (.slice (some ⟨g, 0, none⟩) n c) n (strs xs)) (hk : k ≤ n) : w.ownsRow B 9 1 (.slice (some ⟨g, 0, none⟩) k c) k (strs (xs.take k)) := by
  obtain ⟨hl, h | ⟨g', cap, cur, e, h1, h2, h3, h4, h5, h6⟩⟩ := h
  · cases h.1
  · injection e with e1 e2 e3
    injection e1 with e1
    injection e1 with e1 _ _
    subst e1 e3
    refine ⟨by rw [strs_len, List.length_take]; rw [strs_len] at hl; omega, .inr ⟨g, c, cur, rfl, h1, h2, by omega, h4, h5, ?_⟩⟩
    rw [strs, List.map_take, show List.map (fun s => Value.string s) xs = strs xs from rfl, ← h6, List.take_take, Nat.mul_one, Nat.mul_one, Nat.min_eq_left hk]
theorem Tryd.infoSl : (Tryd.prog.info? 28).map (fun i => (i.zero, i.size, i.bytes)) = some (some (.slice none 0 0), 1, 24) := by kernel_rfl
/-- values that are rows of strings of the call's own -/
def PartsL (w : World) : List (List ByteArray) → List Value → Prop
  | [], [] => True
  | x :: l, v :: vs => OwnS w v x ∧ PartsL w l vs
  | _, _ => False
theorem PartsL.mono {w w' : World} (hk : ∀ v ys, OwnS w v ys → OwnS w' v ys) : ∀ {l : List (List ByteArray)} {vs : List Value}, PartsL w l vs → PartsL w' l vs
  | [], [], _ => trivial
  | _ :: _, _ :: _, h => ⟨hk _ _ h.1, PartsL.mono hk h.2⟩
  | [], _ :: _, h => h.elim
  | _ :: _, [], h => h.elim
theorem PartsL.snoc {w : World} {x : List ByteArray} {v : Value} (hv : OwnS w v x) : ∀ {l : List (List ByteArray)} {vs : List Value}, PartsL w l vs → PartsL w (l ++ [x]) (vs ++ [v])
  | [], [], _ => ⟨hv, trivial⟩
  | _ :: _, _ :: _, h => ⟨h.1, PartsL.snoc hv h.2⟩
  | [], _ :: _, h => h.elim
  | _ :: _, [], h => h.elim
theorem PartsL.len {w : World} : ∀ {l : List (List ByteArray)} {vs : List Value}, PartsL w l vs → l.length = vs.length
  | [], [], _ => rfl
  | _ :: _, _ :: _, h => by rw [List.length_cons, List.length_cons, PartsL.len h.2]
  | [], _ :: _, h => h.elim
  | _ :: _, [], h => h.elim
theorem PartsL.get {w : World} : ∀ {l : List (List ByteArray)} {vs : List Value} {k : Nat}, PartsL w l vs → k < l.length → ∃ v, vs[k]? = some v ∧ OwnS w v (l.getD k [])
  | [], _, _, _, h => absurd h (by simp)
  | _ :: _, v :: _, 0, h, _ => ⟨v, rfl, h.1⟩
  | _ :: l, _ :: vs, k + 1, h, hk => by
    obtain ⟨v, e, hv⟩ := PartsL.get (k := k) h.2 (by simpa using hk)
    exact ⟨v, by simpa using e, by simpa using hv⟩
  | _ :: _, [], _, h, _ => h.elim
end Go.Proofs.YtakgddochbcjbaaDoor
