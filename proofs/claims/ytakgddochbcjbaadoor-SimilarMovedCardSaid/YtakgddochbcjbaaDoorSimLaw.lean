/- What the moves of two trees are: in plain words. -/
import Derived.Test.YtakgddochbcjbaaDoorTrees
import Derived.Test.YtakgddochbcjbaaDoorSimOne
namespace Go.Proofs.YtakgddochbcjbaaDoor
open Go.RowKit Go.Deep Go.MapKept Go.Shelf

theorem TreeOK.inj_lt {l : List FileB} (h : TreeOK l) {i j : Nat} (hij : i < j) (hj : j < l.length) : lessT (fp l i) (fp l j) = true := by
  have := List.pairwise_iff_getElem.1 h.1 i j (by omega) hj hij
  rw [fp, fp, gf, gf, List.getD, List.getD, List.getElem?_eq_getElem hj, List.getElem?_eq_getElem (show i < l.length by omega)]
  exact this
theorem TreeOK.inj {l : List FileB} (h : TreeOK l) {i j : Nat} (hi : i < l.length) (hj : j < l.length) (e : fp l i = fp l j) : i = j := by
  rcases Nat.lt_trichotomy i j with h1 | h1 | h1
  · have := h.inj_lt h1 hj; rw [e, lessT_irrefl] at this; cases this
  · exact h1
  · have := h.inj_lt h1 hi; rw [e, lessT_irrefl] at this; cases this
/-- what the law asks of a list of moves -/
structure RenOK (a b : List FileB) (r : List (ByteArray × ByteArray)) : Prop where
  one : ∀ i, i < r.length → hasF a (grf r i) = true ∧ hasF b (grt r i) = true ∧ hasF b (grf r i) = false ∧ hasF a (grt r i) = false
  txt : ∀ i, i < r.length → ∀ f g, FoundF a (grf r i) f → FoundF b (grt r i) g → eqT f.2.2 ByteArray.empty = false ∧ (eqT f.2.2 g.2.2 = true ∨ 50 ≤ ratioT f.2.2 g.2.2) ∧ f.2.2.size ≤ 2000 ∧ g.2.2.size ≤ 2000
  asc : ∀ i, 0 < i → i < r.length → lessT (grf r (i - 1)) (grf r i) = true
  dist : ∀ k i, k < i → i < r.length → eqT (grt r k) (grt r i) = false
theorem lone_facts {l m : List FileB} {x : Int} (h : x ∈ loneL l m) : 0 ≤ x ∧ x.toNat < l.length ∧ hasF m (fp l x.toNat) = false ∧ eqT (ft l x.toNat) ByteArray.empty = false := by
  obtain ⟨h0, h1, h2⟩ := lone_range h
  rw [isLone, Bool.and_eq_true, Bool.not_eq_true', Bool.not_eq_true'] at h2
  exact ⟨h0, by omega, h2.1, h2.2⟩
theorem renL_get {a b : List FileB} {O : List (Int × Int)} {i : Nat} (h : i < O.length) : grf (renL a b O) i = fp a O[i].1.toNat ∧ grt (renL a b O) i = fp b O[i].2.toNat := by
  simp [grf, grt, renL, List.getD, List.getElem?_eq_getElem h]
theorem found_one {l : List FileB} (h : TreeOK l) {k : Nat} (hk : k < l.length) {f : FileB} (hf : FoundF l (fp l k) f) : f = gf l k := by
  obtain ⟨j, hj, e, _, rfl⟩ := hf (AtF.has hk rfl)
  rw [h.inj hj hk e]
theorem ren_ok {a b : List FileB} (ha : TreeOK a) (hb : TreeOK b) {O : List (Int × Int)} (hp : O.Perm (outOf a b).O) (hs : SortedP a O) : RenOK a b (renL a b O) := by
  have hI := outOf_oinv a b
  have hl : (renL a b O).length = O.length := by simp [renL]
  have hin : ∀ i (h : i < O.length), O[i].1 ∈ loneL a b ∧ O[i].2 ∈ loneL b a ∧ (wants a b O[i].1 O[i].2 = true ∨ 50 ≤ ratioF a b O[i].1 O[i].2) := fun i h => hI.inO _ (hp.mem_iff.1 (List.getElem_mem h))
  have hdF : O.Pairwise fun p q => p.1 ≠ q.1 := (hp.pairwise_iff (fun h => h.symm)).2 hI.dF
  have hdT : O.Pairwise fun p q => p.2 ≠ q.2 := (hp.pairwise_iff (fun h => h.symm)).2 hI.dT
  refine ⟨fun i h => ?_, fun i h f g hf hg => ?_, fun i h0 h => ?_, fun k i hk h => ?_⟩
  · rw [hl] at h
    obtain ⟨e1, e2⟩ := renL_get (a := a) (b := b) h
    obtain ⟨h1, h2, _⟩ := hin i h
    obtain ⟨p0, p1, p2, p3⟩ := lone_facts h1
    obtain ⟨q0, q1, q2, q3⟩ := lone_facts h2
    rw [e1, e2]
    exact ⟨AtF.has p1 rfl, AtF.has q1 rfl, p2, q2⟩
  · rw [hl] at h
    obtain ⟨e1, e2⟩ := renL_get (a := a) (b := b) h
    obtain ⟨h1, h2, h3⟩ := hin i h
    obtain ⟨p0, p1, p2, p3⟩ := lone_facts h1
    obtain ⟨q0, q1, q2, q3⟩ := lone_facts h2
    rw [e1] at hf
    rw [e2] at hg
    obtain rfl := found_one ha p1 hf
    obtain rfl := found_one hb q1 hg
    refine ⟨p3, ?_, (ha.2 _ (gf_mem p1)).2, (hb.2 _ (gf_mem q1)).2⟩
    rcases h3 with h3 | h3
    · left
      rw [wants, eqT, decide_eq_true_eq] at h3
      rw [eqT, decide_eq_true_eq]
      exact h3.symm
    · right
      have h4 : (50 : Int) ≤ (ratioT (ft a O[i].1.toNat) (ft b O[i].2.toNat) : Nat) := h3
      exact Int.ofNat_le.1 h4
  · rw [hl] at h
    obtain ⟨e1, _⟩ := renL_get (a := a) (b := b) h
    obtain ⟨e3, _⟩ := renL_get (a := a) (b := b) (show i - 1 < O.length by omega)
    obtain ⟨p0, p1, p2, p3⟩ := lone_facts (hin i h).1
    obtain ⟨q0, q1, q2, q3⟩ := lone_facts (hin (i - 1) (by omega)).1
    have h4 := List.pairwise_iff_getElem.1 hdF (i - 1) i (by omega) h (by omega)
    have h5 := List.pairwise_iff_getElem.1 hs (i - 1) i (by omega) h (by omega)
    rw [e1, e3]
    rw [cmpP_lt] at h5
    cases h6 : lessT (fp a O[i - 1].1.toNat) (fp a O[i].1.toNat) with
    | true => rfl
    | false =>
      have h7 := lessT_tri h6 (by cases h8 : lessT (fp a O[i].1.toNat) (fp a O[i - 1].1.toNat) with | false => rfl | true => exact absurd (.inl h8) h5)
      have h9 := ha.inj q1 p1 h7
      exact absurd (by omega) h4
  · rw [hl] at h
    obtain ⟨_, e1⟩ := renL_get (a := a) (b := b) h
    obtain ⟨_, e3⟩ := renL_get (a := a) (b := b) (show k < O.length by omega)
    obtain ⟨p0, p1, p2, p3⟩ := lone_facts (hin i h).2.1
    obtain ⟨q0, q1, q2, q3⟩ := lone_facts (hin k (by omega)).2.1
    have h4 := List.pairwise_iff_getElem.1 hdT k i (by omega) h hk
    rw [e1, e3, eqT, decide_eq_false_iff_not]
    intro h7
    have h9 := hb.inj q1 p1 h7
    exact absurd (by omega) h4
theorem out_none {a b : List FileB} (h : (∀ x, x ∉ loneL a b) ∨ (∀ x, x ∉ loneL b a)) {O : List (Int × Int)} (hp : O.Perm (outOf a b).O) : O = [] := by
  have hI := outOf_oinv a b
  have : (outOf a b).O = [] := by
    rw [List.eq_nil_iff_forall_not_mem]
    intro p hp
    obtain ⟨h1, h2, _⟩ := hI.inO p hp
    rcases h with h | h
    · exact h _ h1
    · exact h _ h2
  rw [this] at hp
  exact hp.eq_nil
theorem lone_self (a : List FileB) (x : Int) : x ∉ loneL a a := fun h => by
  obtain ⟨_, h1, h2, _⟩ := lone_facts h
  rw [AtF.has h1 rfl] at h2
  cases h2
theorem lone_nil (a : List FileB) (x : Int) : x ∉ loneL [] a := fun h => by
  obtain ⟨_, h1, _⟩ := lone_facts h
  exact absurd h1 (by simp)
theorem asc_one {F : List Int} {v : Int} (h : Asc F) (h1 : ∀ x ∈ F, x = v) (h2 : v ∈ F) : F = [v] := by
  match F, h, h1, h2 with
  | [], _, _, h2 => cases h2
  | [y], _, h1, _ => rw [h1 y (by simp)]
  | y :: z :: t, h, h1, _ =>
    have h3 := h 0 1 (by omega) (by simp)
    have h4 : y < z := h3
    have h5 := h1 y (by simp)
    have h6 := h1 z (by simp)
    omega
theorem hasF_mem {l : List FileB} {p : ByteArray} : hasF l p = true ↔ ∃ x ∈ l, x.1 = p := by
  rw [hasF, hasK_iff]
  constructor
  · rintro ⟨j, hj, e⟩
    exact ⟨gf l j, gf_mem hj, e⟩
  · rintro ⟨x, hx, e⟩
    obtain ⟨k, hk, rfl⟩ := mem_gf hx
    exact ⟨k, hk, e⟩
theorem InsF.mem {l : List FileB} {f : FileB} {L : List FileB} (h : InsF l f L) (x : FileB) : x ∈ L ↔ x = f ∨ x ∈ l := by
  obtain ⟨k, hk, _, _, rfl⟩ := h
  rw [List.append_assoc, List.singleton_append, List.mem_append, List.mem_cons]
  have e : x ∈ l ↔ x ∈ l.take k ∨ x ∈ l.drop k := by rw [← List.mem_append, List.take_append_drop]
  rw [e]
  constructor
  · rintro (h | h | h)
    · exact .inr (.inl h)
    · exact .inl h
    · exact .inr (.inr h)
  · rintro (h | h | h)
    · exact .inr (.inl h)
    · exact .inl h
    · exact .inr (.inr h)
/-- a file that moved, as it is -/
theorem out_moved {a L : List FileB} {k : Nat} {tp : ByteArray} (ha : TreeOK a) (hk : k < a.length) (ht : eqT (ft a k) ByteArray.empty = false) (hto : hasF a tp = false)
    (hL : TreeOK L) (hm : ∀ x, x ∈ L ↔ x = (tp, fx a k, ft a k) ∨ (x ∈ a ∧ x.1 ≠ fp a k)) {O : List (Int × Int)} (hp : O.Perm (outOf a L).O) : renL a L O = [(fp a k, tp)] := by
  have hne : ∀ x ∈ a, x.1 ≠ tp := fun x hx e => by rw [hasF_mem.2 ⟨x, hx, e⟩] at hto; cases hto
  obtain ⟨j, hj, ej⟩ := mem_gf ((hm _).2 (.inl rfl))
  have e1 : fp L j = tp := by rw [fp, ej]
  have e2 : ft L j = ft a k := by rw [ft, ej]
  have l1 : isLone a L k = true := by
    rw [isLone, ht, Bool.and_eq_true, Bool.not_eq_true']
    refine ⟨?_, rfl⟩
    cases h : hasF L (fp a k) with
    | false => rfl
    | true =>
      obtain ⟨x, hx, ex⟩ := hasF_mem.1 h
      rcases (hm x).1 hx with rfl | ⟨_, h2⟩
      · exact absurd ex.symm (hne _ (gf_mem hk))
      · exact absurd ex h2
  have l2 : isLone L a j = true := by
    rw [isLone, e2, ht, e1, hto]
    rfl
  have f1 : loneL a L = [(k : Int)] := by
    refine asc_one (loneL_asc a L) (fun x hx => ?_) (mem_loneTo.2 ⟨k, hk, rfl, l1⟩)
    obtain ⟨h0, h1, h2, _⟩ := lone_facts hx
    have h3 : fp a x.toNat = fp a k := by
      by_cases e : fp a x.toNat = fp a k
      · exact e
      · exact absurd ((hasF_mem (p := fp a x.toNat)).2 ⟨gf a x.toNat, (hm _).2 (.inr ⟨gf_mem h1, e⟩), rfl⟩) (by rw [h2]; simp)
    have := ha.inj h1 hk h3
    omega
  have f2 : loneL L a = [(j : Int)] := by
    refine asc_one (loneL_asc L a) (fun x hx => ?_) (mem_loneTo.2 ⟨j, hj, rfl, l2⟩)
    obtain ⟨h0, h1, h2, _⟩ := lone_facts hx
    rcases (hm _).1 (gf_mem h1) with h3 | ⟨h3, _⟩
    · have := hL.inj h1 hj (by rw [e1, fp, h3])
      omega
    · exact absurd ((hasF_mem (p := fp L x.toNat)).2 ⟨gf L x.toNat, h3, rfl⟩) (by rw [h2]; simp)
  have hs : sameOf a L = ⟨[], [], [((k : Int), (j : Int))]⟩ := by
    rw [sameOf, f1, f2]
    have e : idxT a L k [(j : Int)] = 0 := by simp [idxT, Lib.idxBy, Lib.idxByFrom, wants, e2, eqT]
    simp [sameTo, sameStep, gi, e, SSt.take, delL]
  have ho : (outOf a L).O = [((k : Int), (j : Int))] := by
    rw [outOf, hs]
    rfl
  rw [ho] at hp
  rw [List.perm_singleton.1 hp]
  simp [renL, e1]
end Go.Proofs.YtakgddochbcjbaaDoor
