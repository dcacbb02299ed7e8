/- A region that draws its order: what yields in every world that meets a condition is taken as soon as it may; of the rest there is but one that may come up, beside one free operation; once a tail has begun the condition need hold no more. -/
import Derived.Test.YtakgddochbcjbaaDoorPkStands
import Derived.OrdersHeld
namespace Go.Proofs.YtakgddochbcjbaaDoor
open Go

/-- a world that meets S -/
structure SW (S : World → Prop) where
  w : World
  ok : S w

def pureM : Op → Bool
  | .nilCheck _ | .load _ _ | .build _ _ | .extract _ _ => true
  | op => pureB op

theorem andThen_any {α : Type} {X : Result α} {F : α → World → Result Next} {w : World} {v : Value} {P : Program} {C : World → Prop} (h : Oper.quietUpon P C w v (X.andThen F)) (hF : ∀ u w', Oper.quietUpon P C w v (F u w') → F u w' = .ok (.value v) w) : X.andThen F = .ok (.value v) w := by
  cases X with
  | ok u w' => exact hF u w' h
  | halt x w' => exact (h : False).elim

theorem pureM_spec {P : Program} {C : World → Prop} {o : Oper} {a : Act} {w : World} {v : Value} (hp : pureM o.op = true) (h : o.quietAt P a C w v) : (execOp a.eval o).run P w = .ok (.value v) w := by
  unfold Oper.quietAt at h
  unfold execOp at h ⊢
  split at h
  all_goals first
    | (rename_i heq; rw [heq] at hp; simp [pureM, pureB] at hp; done)
    | skip
  all_goals first
    | (simp only [Sem.run_bind, Sem.run_pure] at h ⊢
       exact andThen_value (f := fun u => u) h)
    | (simp only [Sem.run_bind, Sem.run_pure] at h ⊢
       exact andThen_value h)
    | (obtain ⟨_, h2⟩ := (h : w = w ∧ _ = v)
       rw [← h2]; rfl)
    | skip
  case h_12 =>
    rename_i x heq
    revert h
    dsimp only
    split
    · intro h; exact (h : False).elim
    · intro h; exact (h : False).elim
    · intro h; exact (h : False).elim
    · split
      · intro h; exact (h : False).elim
      · intro h
        rw [Sem.run_bind] at h ⊢
        refine andThen_any h fun p w1 h => ?_
        rw [Sem.run_bind] at h ⊢
        refine andThen_any h fun b w2 h => ?_
        by_cases hb : (b != some false) = true
        · simp only [hb, if_true] at h ⊢
          rw [Sem.run_bind] at h ⊢
          refine andThen_any h fun u w3 h => ?_
          obtain ⟨h1, h2⟩ := (h : w3 = w ∧ _ = v)
          rw [← h2, ← h1]; rfl
        · simp only [hb] at h ⊢
          obtain ⟨h1, h2⟩ := (h : w2 = w ∧ _ = v)
          rw [← h2, ← h1]; rfl
      · intro h
        obtain ⟨_, h2⟩ := (h : w = w ∧ _ = v)
        rw [← h2]; rfl
    · intro h
      obtain ⟨_, h2⟩ := (h : w = w ∧ _ = v)
      rw [← h2]; rfl
  rename_i c heq
  rw [heq] at hp
  obtain ⟨callee, args, argTypes⟩ := c
  cases callee with
  | builtin b =>
    cases b
    all_goals first
      | (simp [pureM, pureB] at hp; done)
      | (simp only [resolve, invoke, builtin, Sem.run_bind, Sem.run_pure, Result.andThen_ok] at h ⊢
         exact andThen_value (f := fun u => u) h)
  | _ => simp [pureM, pureB] at hp

section
variable {P : Program} {ops : Array Oper} {md : Region.Mode} {Q : Exit → Act → World → Prop} {S : World → Prop}

theorem wpOp_of_list {i : Nat} {o : Oper} {a : Act} {w : World} {K : Act → World → Prop} (ho : ops[i]? = some o) (h : wpList P ops (Exit.then K Q) [o] a w) : wpOp P ops Q i K a w := by
  unfold wpOp
  simp only [ho]
  unfold wpList at h
  split
  · rename_i hw
    rw [if_pos hw] at h
    exact h.imp (fun h => Oper.wp_turn (fun _ _ _ h => h) (fun ⟨a, w, h⟩ => ⟨a, w, h⟩) (Oper.wp_mono (fun a w h => h) h)) (fun ⟨h1, a, w, h2⟩ => ⟨h1, a, w, h2⟩)
  · rename_i hw
    rw [if_neg hw] at h
    exact h

theorem getD_lt {l : Array Bool} {i : Nat} (h : l.getD i false = true) : i < l.size := by
  rcases Nat.lt_or_ge i l.size with h' | h'
  · exact h'
  · simp [Array.getElem?_eq_none h'] at h
theorem getD_both {l : Array Bool} {i : Nat} (h : i < l.size) : l.getD i false = l.getD i true := by simp [h]
theorem set_ne {l : Array Bool} {i k : Nat} (b d : Bool) (h : i ≠ k) : (l.setIfInBounds i b).getD k d = l.getD k d := by
  simp [Array.getElem?_setIfInBounds_ne h]
/-- whatever is listed has all listed that it waits for -/
def Cl (md : Region.Mode) (ops : Array Oper) (l : Array Bool) : Prop := ∀ j o, l.getD j false = true → ops[j]? = some o → ∀ e ∈ o.after, Region.binds md e = true → l.getD e.on false = true
theorem Cl.set {l : Array Bool} {i : Nat} (h : Cl md ops l) (hr : i ∈ Region.ready md ops l) : Cl md ops (l.setIfInBounds i true) := by
  intro j o hj ho e he hb
  refine getD_set_true ?_
  by_cases e1 : i = j
  · subst e1
    obtain ⟨_, o', ho', hall⟩ := mem_ready.1 hr
    rw [ho] at ho'
    injection ho' with ho'
    subst ho'
    exact hall e he hb
  · rw [set_ne _ _ e1] at hj
    exact h j o hj ho e he hb
def depsIn (md : Region.Mode) (o : Oper) (l : Array Bool) : Bool := o.after.all fun e => !Region.binds md e || l.getD e.on false
/-- x waits for i at once -/
def dirB (md : Region.Mode) (ops : Array Oper) (x i : Nat) : Bool := ((ops[x]?).map fun o => o.after.any fun e => e.on == i && Region.binds md e).getD false
def nextB (md : Region.Mode) (ops : Array Oper) (i : Nat) : Option Nat := (List.range' (i + 1) (ops.size - (i + 1))).find? fun j => dirB md ops j i
def chainB (md : Region.Mode) (ops : Array Oper) (x : Nat) : Nat → Nat → Bool
  | 0, _ => false
  | n + 1, i => dirB md ops x i || (match nextB md ops i with | some j => chainB md ops x n j | none => false)
/-- as long as i is open, none of E may come up -/
def waitsB (md : Region.Mode) (ops : Array Oper) (E : List Nat) (i : Nat) : Bool := E.all fun x => chainB md ops x ops.size i
theorem dir_listed {l : Array Bool} {x i : Nat} {o : Oper} (hx : ops[x]? = some o) (hall : ∀ e ∈ o.after, Region.binds md e = true → l.getD e.on false = true) (h : dirB md ops x i = true) : l.getD i false = true := by
  unfold dirB at h
  rw [hx] at h
  simp only [Option.map_some, Option.getD_some, Array.any_eq_true', Bool.and_eq_true, beq_iff_eq] at h
  obtain ⟨e, he, h1, h2⟩ := h
  have := hall e he h2
  rwa [h1] at this
theorem chain_listed {l : Array Bool} {x : Nat} {o : Oper} (hl : Cl md ops l) (hx : ops[x]? = some o) (hall : ∀ e ∈ o.after, Region.binds md e = true → l.getD e.on false = true) : ∀ (n i : Nat), chainB md ops x n i = true → l.getD i false = true
  | 0, _, h => by cases h
  | n + 1, i, h => by
    unfold chainB at h
    rw [Bool.or_eq_true] at h
    rcases h with h | h
    · exact dir_listed hx hall h
    · cases hn : nextB md ops i with
      | none => rw [hn] at h; cases h
      | some j =>
        rw [hn] at h
        have h1 := chain_listed hl hx hall n j h
        have h2 : dirB md ops j i = true := List.find?_some (p := fun j => dirB md ops j i) hn
        cases hj : ops[j]? with
        | none => unfold dirB at h2; rw [hj] at h2; cases h2
        | some oj => exact dir_listed hj (hl j oj h1 hj) h2
theorem not_of_waits {E : List Nat} {l : Array Bool} {i j : Nat} (hw : waitsB md ops E i = true) (hl : Cl md ops l) (hiu : l.getD i true = false) (hj : j ∈ Region.ready md ops l) : j ∉ E := by
  intro hE
  have h2 := List.all_eq_true.1 hw j hE
  obtain ⟨_, o, ho, hall⟩ := mem_ready.1 hj
  have h3 := chain_listed hl ho hall _ _ h2
  rw [getD_both (getD_lt h3), hiu] at h3
  cases h3

/-- none of E is listed -/
def noneL (E : List Nat) (l : Array Bool) : Bool := E.all fun k => !(l.getD k false)
theorem noneL_set {E : List Nat} {l : Array Bool} {i : Nat} (hi : i ∉ E) : noneL E (l.setIfInBounds i true) = noneL E l := by
  unfold noneL
  rw [Bool.eq_iff_iff, List.all_eq_true, List.all_eq_true]
  constructor
  · intro h k hk
    have := h k hk
    rwa [set_ne _ _ (fun e => hi (by rw [e]; exact hk))] at this
  · intro h k hk
    rw [set_ne _ _ (fun e => hi (by rw [e]; exact hk))]
    exact h k hk
theorem noneL_some {E : List Nat} {l : Array Bool} {i : Nat} (hi : i ∈ E) (hz : i < l.size) : noneL E (l.setIfInBounds i true) = false := by
  unfold noneL
  rw [List.all_eq_false]
  exact ⟨i, hi, by simp [hz]⟩

/-- Whatever order is picked, and S holds as long as none of E has come up. -/
def wpAnyE (P : Program) (md : Region.Mode) (ops : Array Oper) (Q : Exit → Act → World → Prop) (S : World → Prop) (E : List Nat) : Nat → Array Bool → Act → World → Prop
  | 0, listed, a, w => Region.ready md ops listed = [] ∧ Q .normal a w
  | fuel + 1, listed, a, w =>
    (Region.ready md ops listed = [] → Q .normal a w) ∧
    ∀ i ∈ Region.ready md ops listed, wpOp P ops Q i (fun a' w' => (noneL E (listed.setIfInBounds i true) = true → S w') ∧ wpAnyE P md ops Q S E fuel (listed.setIfInBounds i true) a' w') a w
theorem wpAny_of_E {E : List Nat} : ∀ (fuel : Nat) (listed : Array Bool) (a : Act) (w : World), wpAnyE P md ops Q S E fuel listed a w → wpAny P md ops Q fuel listed a w
  | 0, _, _, _, h => h
  | fuel + 1, _, _, _, h => ⟨h.1, fun i hi => wpOp_mono (fun a' w' h' => wpAny_of_E fuel _ a' w' h'.2) (h.2 i hi)⟩

/-- first: what yields in every world that meets T, where each that may come up before keeps T -/
theorem anyE_first {E : List Nat} {T : World → Prop} {i : Nat} {oi : Oper} {v : Value} (hi : ops[i]? = some oi) (hsel : ∀ (j : Nat) (o : Oper) cs b, ops[j]? = some o → o.op ≠ .select cs b)
    (hQ : ∀ c a w, Q (.panic c) (a.put oi.dst v) w → Q (.panic c) a w) (hiE : i ∉ E) (G : Array Bool → Prop) (hG : ∀ l j, G l → l.getD i true = false → j ∈ Region.ready md ops l → j ≠ i → G (l.setIfInBounds j true))
    (hT : ∀ l j w', G l → l.getD i true = false → j ∈ Region.ready md ops l → j ≠ i → (noneL E ((l.setIfInBounds i true).setIfInBounds j true) = true → S w') → T w') :
    ∀ (fuel : Nat) (listed : Array Bool) (a : Act) (w : World),
      (∀ j oj, ops[j]? = some oj → j ≠ i → listed.getD j true = false → (∀ e ∈ oj.after, Region.binds md e = true → e.on ≠ i) → oi.apart ops oj = true) →
      G listed → i ∈ Region.ready md ops listed → YieldsIf P ops T oi v a → T w → (noneL E listed = true → S w) →
      wpAnyE P md ops Q S E fuel (listed.setIfInBounds i true) (a.put oi.dst v) w → wpAnyE P md ops Q S E (fuel + 1) listed a w := by
  intro fuel
  induction fuel with
  | zero =>
    intro listed a w _ _ hr hy hTw hS H
    refine ⟨fun h => (by rw [h] at hr; cases hr), fun j hj => ?_⟩
    by_cases hji : j = i
    · subst hji; exact hy.wpOp hi hTw ⟨fun h => hS (by rwa [noneL_set hiE] at h), H⟩
    · have := ready_mono hj hji
      rw [H.1] at this
      cases this
  | succ fuel ih =>
    intro listed a w hfree hg hr hy hTw hS H
    refine ⟨fun h => (by rw [h] at hr; cases hr), fun j hj => ?_⟩
    by_cases hji : j = i
    · subst hji; exact hy.wpOp hi hTw ⟨fun h => hS (by rwa [noneL_set hiE] at h), H⟩
    · have h1 := H.2 j (ready_mono hj hji)
      obtain ⟨hjun, oj, hoj, hall⟩ := mem_ready.1 hj
      have hnot : ∀ e ∈ oj.after, Region.binds md e = true → e.on ≠ i := fun e he hb heq => by
        have h1 := hall e he hb
        have h0 := (mem_ready.1 hr).1
        rw [heq] at h1
        rw [getD_both (getD_lt h1), h0] at h1
        cases h1
      have h2 := wpOp_putIf hoj (hfree j oj hoj hji hjun hnot) (fun cs b => hsel i oi cs b hi) (fun cs b => hsel j oj cs b hoj) hQ hy h1
      have hfree' : ∀ k ok, ops[k]? = some ok → k ≠ i → (listed.setIfInBounds j true).getD k true = false →
          (∀ e ∈ ok.after, Region.binds md e = true → e.on ≠ i) → oi.apart ops ok = true := fun k ok hk hki hun hno => by
        refine hfree k ok hk hki ?_ hno
        by_cases hjk : j = k
        · subst hjk; exact hjun
        · rw [getD_set_ne true hjk] at hun; exact hun
      have hcm : (listed.setIfInBounds j true).setIfInBounds i true = (listed.setIfInBounds i true).setIfInBounds j true := Array.setIfInBounds_comm _ _ hji
      refine wpOp_mono (fun a' w' h3 => ?_) h2
      have hS' : noneL E (listed.setIfInBounds j true) = true → S w' := fun h => h3.2.1 (by rw [← hcm, noneL_set hiE]; exact h)
      refine ⟨hS', ih (listed.setIfInBounds j true) a' w' hfree' (hG _ _ hg (mem_ready.1 hr).1 hj hji) (ready_mono hr (Ne.symm hji)) h3.1 (hT _ _ _ hg (mem_ready.1 hr).1 hj hji h3.2.1) hS' ?_⟩
      rw [hcm]
      exact h3.2.2

/-- closed, and not out of bounds -/
def Fit (md : Region.Mode) (ops : Array Oper) (l : Array Bool) : Prop := Cl md ops l ∧ l.size = ops.size
theorem Fit.set {l : Array Bool} {i : Nat} (h : Fit md ops l) (hr : i ∈ Region.ready md ops l) : Fit md ops (l.setIfInBounds i true) := ⟨h.1.set hr, by simp [h.2]⟩
theorem Fit.lt {l : Array Bool} {i : Nat} (h : Fit md ops l) (hr : i ∈ Region.ready md ops l) : i < l.size := by
  obtain ⟨_, o, ho, _⟩ := mem_ready.1 hr
  rw [h.2]
  exact (Array.getElem?_eq_some_iff.1 ho).1

/-- segments: some that only read, then one other, and so on; at last some that only read -/
def wpSeq (P : Program) (ops : Array Oper) (Q : Exit → Act → World → Prop) (S : World → Prop) (R : Act → World → Prop) : List (List Oper × List Oper) → Act → World → Prop
  | [], a, w => R a w
  | (pu, im) :: r, a, w => wpQuiet P ops (fun w' => ∃ s : SW S, w' = s.w) (fun a' => wpList P ops (Exit.then (fun a w => S w ∧ wpSeq P ops Q S R r a w) Q) im a' w) pu a
/-- likewise, while one free operation may come up between -/
def wpFre (P : Program) (ops : Array Oper) (Q : Exit → Act → World → Prop) (S : World → Prop) (R : Act → World → Prop) (al : List Oper) (tl : List (List Oper × List Oper)) : List (List Oper × List Oper) → Act → World → Prop
  | [], a, w => wpList P ops (Exit.then (fun a w => S w ∧ wpSeq P ops Q S R tl a w) Q) al a w
  | (pu, im) :: r, a, w => wpQuiet P ops (fun w' => ∃ s : SW S, w' = s.w) (fun a' =>
      wpList P ops (Exit.then (fun a w => S w ∧ wpSeq P ops Q S R (([], im) :: (r ++ tl)) a w) Q) al a' w ∧
      wpList P ops (Exit.then (fun a w => S w ∧ wpFre P ops Q S R al tl r a w) Q) im a' w) pu a
/-- the last that only read, then the tail -/
def wpRest (P : Program) (ops : Array Oper) (Q : Exit → Act → World → Prop) (S : World → Prop) (pz : List Oper) (tail : List (List Oper × List Oper)) (a : Act) (w : World) : Prop :=
  wpQuiet P ops (fun w' => ∃ s : SW S, w' = s.w) (fun a' => wpSegs P ops Q tail a' w) pz a

def readyB (md : Region.Mode) (ops : Array Oper) (l : Array Bool) (i : Nat) : Bool := !(l.getD i true) && ((ops[i]?).map fun o => depsIn md o l).getD false
theorem readyB_mem {l : Array Bool} {i : Nat} (h : readyB md ops l i = true) : i ∈ Region.ready md ops l := by
  simp only [readyB, Bool.and_eq_true, Bool.not_eq_true'] at h
  cases ho : ops[i]? with
  | none => rw [ho] at h; cases h.2
  | some o =>
    rw [ho] at h
    refine mem_ready.2 ⟨h.1, o, ho, fun e he hb => ?_⟩
    have h2 := h.2
    simp only [Option.map_some, Option.getD_some, depsIn, Array.all_eq_true_iff_forall_mem, Bool.or_eq_true, Bool.not_eq_true'] at h2
    exact (h2 e he).resolve_left (by simp [hb])
def pureAt (ops : Array Oper) (i : Nat) : Bool := ((ops[i]?).map fun o => pureM o.op).getD false
def ordPuM (md : Region.Mode) (ops : Array Oper) (E : List Nat) (k : Array Bool → Bool) : List Nat → Array Bool → Bool
  | [], listed => k listed
  | i :: r, listed => !E.contains i && waitsB md ops E i && readyB md ops listed i && Region.free md ops listed i && pureAt ops i && ordPuM md ops E k r (listed.setIfInBounds i true)
def ordSeq (md : Region.Mode) (ops : Array Oper) (E : List Nat) (k : Array Bool → Bool) : List (List Nat × Nat) → Array Bool → Bool
  | [], listed => k listed
  | (pu, im) :: r, listed => ordPuM md ops E (fun l => !E.contains im && decide (Region.ready md ops l = [im]) && ordSeq md ops E k r (l.setIfInBounds im true)) pu listed
def ordFre (md : Region.Mode) (ops : Array Oper) (E : List Nat) (k : Array Bool → Bool) (al : Nat) (tl : List (List Nat × Nat)) : List (List Nat × Nat) → Array Bool → Bool
  | [], l => decide (Region.ready md ops l = [al]) && ordSeq md ops E k tl (l.setIfInBounds al true)
  | (pu, im) :: r, l => ordPuM md ops E (fun l => !E.contains im && (Region.ready md ops l).all (fun j => j == im || j == al) && !(Region.ready md ops l).isEmpty && ordSeq md ops E k (([], im) :: (r ++ tl)) (l.setIfInBounds al true) && ordFre md ops E k al tl r (l.setIfInBounds im true)) pu l
/-- the tail: what looks at no memory, then others, all of E, in their only order -/
def ordImT (md : Region.Mode) (ops : Array Oper) (E : List Nat) (k : Array Bool → Bool) : List Nat → Array Bool → Bool
  | [], listed => k listed
  | i :: r, listed => E.contains i && decide (Region.ready md ops listed = [i]) && ordImT md ops E k r (listed.setIfInBounds i true)
def ordPuT (md : Region.Mode) (ops : Array Oper) (E : List Nat) (k : Array Bool → Bool) : List Nat → Array Bool → Bool
  | [], listed => k listed
  | i :: r, listed => !E.contains i && readyB md ops listed i && Region.free md ops listed i && pureAt ops i && ordPuT md ops E k r (listed.setIfInBounds i true)
def ordT (md : Region.Mode) (ops : Array Oper) (E : List Nat) : List (List Nat × List Nat) → Array Bool → Bool
  | [], listed => (Region.ready md ops listed).isEmpty
  | (pu, im) :: r, listed => ordPuT md ops E (ordImT md ops E (ordT md ops E r) im) pu listed
def seqLen : List (List Nat × Nat) → Nat
  | [] => 0
  | (pu, _) :: r => pu.length + (seqLen r + 1)
theorem seqLen_app : ∀ (r s : List (List Nat × Nat)), seqLen (r ++ s) = seqLen r + seqLen s
  | [], s => by simp [seqLen]
  | (pu, i) :: r, s => by simp only [List.cons_append, seqLen, seqLen_app r s]; omega
def pickS (l : List Oper) (segs : List (List Nat × Nat)) : List (List Oper × List Oper) := segs.map fun s => (pickL l s.1, pickL l [s.2])
def pickT (l : List Oper) (tail : List (List Nat × List Nat)) : List (List Oper × List Oper) := tail.map fun s => (pickL l s.1, pickL l s.2)
theorem pickL_one {l : List Oper} {i : Nat} {o : Oper} (h : l[i]? = some o) : pickL l [i] = [o] := by
  unfold pickL; rw [List.filterMap_cons_some h]; rfl

section
variable {l : List Oper} {E : List Nat}
theorem any_puM {k : Array Bool → Bool} {K : Act → Prop} {g : Nat} {w : World} (hs : Region.noSelect l.toArray = true) (hQ : ∀ c a t v w, Q (.panic c) (Act.put a (some t) v) w → Q (.panic c) a w) (hS : S w)
    (hk : ∀ listed a, Fit md l.toArray listed → noneL E listed = true → k listed = true → K a → wpAnyE P md l.toArray Q S E g listed a w) :
    ∀ (pu : List Nat) (listed : Array Bool) (a : Act), Fit md l.toArray listed → noneL E listed = true → ordPuM md l.toArray E k pu listed = true → wpQuiet P l.toArray (fun w' => ∃ s : SW S, w' = s.w) K (pickL l pu) a → wpAnyE P md l.toArray Q S E (pu.length + g) listed a w
  | [], listed, a, hle, hn, hB, h => by rw [List.length_nil, Nat.zero_add]; exact hk _ _ hle hn hB h
  | i :: r, listed, a, hle, hn, hB, h => by
    simp only [ordPuM, Bool.and_eq_true, Bool.not_eq_true'] at hB
    obtain ⟨⟨⟨⟨⟨hE, hw⟩, hr⟩, hf⟩, hpb⟩, hB⟩ := hB
    have hE' : i ∉ E := fun h => by simp [h] at hE
    have hi := readyB_mem hr
    obtain ⟨_, o, ho, _⟩ := mem_ready.1 hi
    have ho' : l[i]? = some o := by simpa using ho
    have hp : pickL l (i :: r) = o :: pickL l r := by unfold pickL; rw [List.filterMap_cons_some ho']
    rw [hp] at h
    unfold pureAt at hpb
    rw [ho] at hpb
    rw [List.length_cons, show r.length + 1 + g = (r.length + g) + 1 by omega]
    have hn' : noneL E (listed.setIfInBounds i true) = true := by rw [noneL_set hE']; exact hn
    have hnotE : ∀ l' j, (Fit md l.toArray l' ∧ noneL E l' = true) → l'.getD i true = false → j ∈ Region.ready md l.toArray l' → j ∉ E := fun l' j hG hiu hj => not_of_waits hw hG.1.1 hiu hj
    have hG1 : ∀ l' j, (Fit md l.toArray l' ∧ noneL E l' = true) → l'.getD i true = false → j ∈ Region.ready md l.toArray l' → j ≠ i → (Fit md l.toArray (l'.setIfInBounds j true) ∧ noneL E (l'.setIfInBounds j true) = true) := fun l' j hG hiu hj _ =>
      ⟨hG.1.set hj, by rw [noneL_set (hnotE l' j hG hiu hj)]; exact hG.2⟩
    have hT1 : ∀ l' j w', (Fit md l.toArray l' ∧ noneL E l' = true) → l'.getD i true = false → j ∈ Region.ready md l.toArray l' → j ≠ i → (noneL E ((l'.setIfInBounds i true).setIfInBounds j true) = true → S w') → S w' := fun l' j w' hG hiu hj _ h =>
      h (by rw [noneL_set (hnotE l' j hG hiu hj), noneL_set hE']; exact hG.2)
    unfold wpQuiet at h
    by_cases hwd : Region.wanted o (yielded l.toArray a.tmps) = true
    · rw [if_pos hwd] at h
      obtain ⟨v, h1, h2⟩ := h
      exact anyE_first (v := v) ho (Region.noSelect_spec hs) (fun c a w h => put_any hQ h) hE' _ hG1 hT1 _ listed a w (Region.free_spec ho hf) ⟨hle, hn⟩ hi (.inl ⟨hwd, fun w' hS' => pureM_spec hpb (h1 w' ⟨⟨w', hS'⟩, rfl⟩)⟩) hS (fun _ => hS) (any_puM hs hQ hS hk r _ _ (hle.set hi) hn' hB h2)
    · rw [if_neg hwd] at h
      exact anyE_first (v := undef) ho (Region.noSelect_spec hs) (fun c a w h => put_any hQ h) hE' _ hG1 hT1 _ listed a w (Region.free_spec ho hf) ⟨hle, hn⟩ hi (.inr ⟨by simpa using hwd, rfl⟩) hS (fun _ => hS) (any_puM hs hQ hS hk r _ _ (hle.set hi) hn' hB h)

theorem any_puT {k : Array Bool → Bool} {K : Act → Prop} {g : Nat} {w : World} (hs : Region.noSelect l.toArray = true) (hQ : ∀ c a t v w, Q (.panic c) (Act.put a (some t) v) w → Q (.panic c) a w)
    (hk : ∀ listed a, Fit md l.toArray listed → (noneL E listed = true → S w) → k listed = true → K a → wpAnyE P md l.toArray Q S E g listed a w) :
    ∀ (pu : List Nat) (listed : Array Bool) (a : Act), Fit md l.toArray listed → (noneL E listed = true → S w) → ordPuT md l.toArray E k pu listed = true → wpQuiet P l.toArray (fun _ => True) K (pickL l pu) a → wpAnyE P md l.toArray Q S E (pu.length + g) listed a w
  | [], listed, a, hle, hS, hB, h => by rw [List.length_nil, Nat.zero_add]; exact hk _ _ hle hS hB h
  | i :: r, listed, a, hle, hS, hB, h => by
    simp only [ordPuT, Bool.and_eq_true, Bool.not_eq_true'] at hB
    obtain ⟨⟨⟨⟨hE, hr⟩, hf⟩, hpb⟩, hB⟩ := hB
    have hE' : i ∉ E := fun h => by simp [h] at hE
    have hi := readyB_mem hr
    obtain ⟨_, o, ho, _⟩ := mem_ready.1 hi
    have ho' : l[i]? = some o := by simpa using ho
    have hp : pickL l (i :: r) = o :: pickL l r := by unfold pickL; rw [List.filterMap_cons_some ho']
    rw [hp] at h
    unfold pureAt at hpb
    rw [ho] at hpb
    rw [List.length_cons, show r.length + 1 + g = (r.length + g) + 1 by omega]
    have hS' : noneL E (listed.setIfInBounds i true) = true → S w := fun h => hS (by rwa [noneL_set hE'] at h)
    unfold wpQuiet at h
    by_cases hwd : Region.wanted o (yielded l.toArray a.tmps) = true
    · rw [if_pos hwd] at h
      obtain ⟨v, h1, h2⟩ := h
      exact anyE_first (T := fun _ => True) (v := v) ho (Region.noSelect_spec hs) (fun c a w h => put_any hQ h) hE' (fun _ => True) (fun _ _ _ _ _ _ => trivial) (fun _ _ _ _ _ _ _ _ => trivial) _ listed a w (Region.free_spec ho hf) trivial hi (.inl ⟨hwd, fun w' _ => pureM_spec hpb (h1 w' trivial)⟩) trivial hS (any_puT hs hQ hk r _ _ (hle.set hi) hS' hB h2)
    · rw [if_neg hwd] at h
      exact anyE_first (T := fun _ => True) (v := undef) ho (Region.noSelect_spec hs) (fun c a w h => put_any hQ h) hE' (fun _ => True) (fun _ _ _ _ _ _ => trivial) (fun _ _ _ _ _ _ _ _ => trivial) _ listed a w (Region.free_spec ho hf) trivial hi (.inr ⟨by simpa using hwd, rfl⟩) trivial hS (any_puT hs hQ hk r _ _ (hle.set hi) hS' hB h)

theorem any_imT {k : Array Bool → Bool} {K : Act → World → Prop} {g : Nat} (hk : ∀ listed a w, Fit md l.toArray listed → (noneL E listed = true → S w) → k listed = true → K a w → wpAnyE P md l.toArray Q S E g listed a w) :
    ∀ (im : List Nat) (listed : Array Bool) (a : Act) (w : World), Fit md l.toArray listed → (noneL E listed = true → S w) → ordImT md l.toArray E k im listed = true → wpList P l.toArray (Exit.then K Q) (pickL l im) a w → wpAnyE P md l.toArray Q S E (im.length + g) listed a w
  | [], listed, a, w, hle, hS, hB, h => by rw [List.length_nil, Nat.zero_add]; exact hk _ _ _ hle hS hB h
  | i :: r, listed, a, w, hle, hS, hB, h => by
    simp only [ordImT, Bool.and_eq_true, decide_eq_true_eq] at hB
    obtain ⟨⟨hE, hr⟩, hB⟩ := hB
    have hE' : i ∈ E := by simpa using hE
    have hi : i ∈ Region.ready md l.toArray listed := by rw [hr]; exact List.mem_singleton.2 rfl
    have hno : ∀ w', noneL E (listed.setIfInBounds i true) = true → S w' := fun w' h0 => by rw [noneL_some hE' (hle.lt hi)] at h0; cases h0
    obtain ⟨_, o, ho, _⟩ := mem_ready.1 hi
    have ho' : l[i]? = some o := by simpa using ho
    have hp : pickL l (i :: r) = o :: pickL l r := by unfold pickL; rw [List.filterMap_cons_some ho']
    rw [hp] at h
    rw [List.length_cons, show r.length + 1 + g = (r.length + g) + 1 by omega]
    refine ⟨fun h0 => (by rw [hr] at h0; cases h0), fun j hj => ?_⟩
    rw [hr] at hj
    obtain rfl := List.mem_singleton.1 hj
    unfold wpOp
    simp only [ho]
    unfold wpList at h
    split
    · rename_i hw
      rw [if_pos hw] at h
      refine h.imp (fun h => Oper.wp_turn (fun _ _ _ h => h) (fun ⟨a, w, h⟩ => ⟨a, w, h⟩) (Oper.wp_mono (fun a w h => ⟨hno w, any_imT hk r _ a w (hle.set hi) (hno w) hB h⟩) h)) (fun ⟨h1, a, w, h2⟩ => ⟨h1, a, w, h2⟩)
    · rename_i hw
      rw [if_neg hw] at h
      exact ⟨hno w, any_imT hk r _ _ w (hle.set hi) (hno w) hB h⟩

theorem any_tail (hs : Region.noSelect l.toArray = true) (hQ : ∀ c a t v w, Q (.panic c) (Act.put a (some t) v) w → Q (.panic c) a w) :
    ∀ (tail : List (List Nat × List Nat)) (listed : Array Bool) (a : Act) (w : World), Fit md l.toArray listed → (noneL E listed = true → S w) → ordT md l.toArray E tail listed = true → wpSegs P l.toArray Q (pickT l tail) a w → wpAnyE P md l.toArray Q S E (segLen tail) listed a w
  | [], listed, a, w, _, _, hB, h => ⟨by simpa [ordT] using hB, h⟩
  | (pu, im) :: r, listed, a, w, hle, hS, hB, h =>
    any_puT hs hQ (fun listed a hle hS hB h => any_imT (fun listed a w hle hS hB h => any_tail hs hQ r listed a w hle hS hB h) im listed a w hle hS hB h) pu listed a hle hS hB h

theorem any_one {g i : Nat} {listed : Array Bool} {a : Act} {w : World} {K : Act → World → Prop} (hr : Region.ready md l.toArray listed = [i]) (hk : ∀ a w, S w → K a w → wpAnyE P md l.toArray Q S E g (listed.setIfInBounds i true) a w)
    (h : wpList P l.toArray (Exit.then (fun a w => S w ∧ K a w) Q) (pickL l [i]) a w) : wpAnyE P md l.toArray Q S E (g + 1) listed a w := by
  have hi : i ∈ Region.ready md l.toArray listed := by rw [hr]; exact List.mem_singleton.2 rfl
  obtain ⟨_, o, ho, _⟩ := mem_ready.1 hi
  rw [pickL_one (by simpa using ho)] at h
  refine ⟨fun h0 => (by rw [hr] at h0; cases h0), fun j hj => ?_⟩
  rw [hr] at hj
  obtain rfl := List.mem_singleton.1 hj
  exact wpOp_mono (fun a' w' h' => ⟨fun _ => h'.1, hk a' w' h'.1 h'.2⟩) (wpOp_of_list ho h)

variable {R : Act → World → Prop} {k : Array Bool → Bool} {g : Nat}
theorem any_seq (hs : Region.noSelect l.toArray = true) (hQ : ∀ c a t v w, Q (.panic c) (Act.put a (some t) v) w → Q (.panic c) a w)
    (hk : ∀ listed a w, S w → Fit md l.toArray listed → noneL E listed = true → k listed = true → R a w → wpAnyE P md l.toArray Q S E g listed a w) :
    ∀ (segs : List (List Nat × Nat)) (listed : Array Bool) (a : Act) (w : World), S w → Fit md l.toArray listed → noneL E listed = true → ordSeq md l.toArray E k segs listed = true → wpSeq P l.toArray Q S R (pickS l segs) a w → wpAnyE P md l.toArray Q S E (seqLen segs + g) listed a w
  | [], listed, a, w, hS, hle, hn, hB, h => by rw [seqLen, Nat.zero_add]; exact hk _ _ _ hS hle hn hB h
  | (pu, im) :: r, listed, a, w, hS, hle, hn, hB, h => by
    rw [seqLen, show pu.length + (seqLen r + 1) + g = pu.length + (seqLen r + g + 1) by omega]
    exact any_puM hs hQ hS (fun listed a hle hn hB h => by
      simp only [Bool.and_eq_true, decide_eq_true_eq, Bool.not_eq_true'] at hB
      have hE' : im ∉ E := fun h => by simp [h] at hB
      exact any_one hB.1.2 (fun a w hS h => any_seq hs hQ hk r _ a w hS (hle.set (by rw [hB.1.2]; exact List.mem_singleton.2 rfl)) (by rw [noneL_set hE']; exact hn) hB.2 h) h) pu listed a hle hn hB h

theorem any_fre (al : Nat) (tl : List (List Nat × Nat)) (hs : Region.noSelect l.toArray = true) (hQ : ∀ c a t v w, Q (.panic c) (Act.put a (some t) v) w → Q (.panic c) a w)
    (hk : ∀ listed a w, S w → Fit md l.toArray listed → noneL E listed = true → k listed = true → R a w → wpAnyE P md l.toArray Q S E g listed a w) (hal : al ∉ E) :
    ∀ (segs : List (List Nat × Nat)) (listed : Array Bool) (a : Act) (w : World), S w → Fit md l.toArray listed → noneL E listed = true → ordFre md l.toArray E k al tl segs listed = true → wpFre P l.toArray Q S R (pickL l [al]) (pickS l tl) (pickS l segs) a w → wpAnyE P md l.toArray Q S E (seqLen segs + (seqLen tl + 1) + g) listed a w
  | [], listed, a, w, _, hle, hn, hB, h => by
    simp only [ordFre, Bool.and_eq_true, decide_eq_true_eq] at hB
    rw [seqLen, Nat.zero_add, show seqLen tl + 1 + g = seqLen tl + g + 1 by omega]
    exact any_one hB.1 (fun a w hS h => any_seq hs hQ hk tl _ a w hS (hle.set (by rw [hB.1]; exact List.mem_singleton.2 rfl)) (by rw [noneL_set hal]; exact hn) hB.2 h) h
  | (pu, im) :: r, listed, a, w, hS, hle, hn, hB, h => by
    rw [seqLen, show pu.length + (seqLen r + 1) + (seqLen tl + 1) + g = pu.length + ((seqLen r + (seqLen tl + 1) + g) + 1) by omega]
    refine any_puM hs hQ hS (fun listed a hle hn hB h => ?_) pu listed a hle hn hB h
    simp only [Bool.and_eq_true, Bool.not_eq_true', List.isEmpty_eq_false_iff] at hB
    obtain ⟨⟨⟨⟨hE, h1⟩, h0⟩, h2⟩, h3⟩ := hB
    have hE' : im ∉ E := fun h => by simp [h] at hE
    refine ⟨fun h00 => absurd h00 h0, fun j hj => ?_⟩
    obtain ⟨_, o, ho, _⟩ := mem_ready.1 hj
    have ho' : l[j]? = some o := by simpa using ho
    have hj2 := List.all_eq_true.1 h1 j hj
    simp only [Bool.or_eq_true, beq_iff_eq] at hj2
    by_cases hja : j = al
    · subst hja
      have h' := h.1
      rw [pickL_one ho'] at h'
      refine wpOp_mono (fun a' w' h' => ⟨fun _ => h'.1, ?_⟩) (wpOp_of_list ho h')
      have e : (([], pickL l [im]) :: (r.map (fun s => (pickL l s.1, pickL l [s.2])) ++ pickS l tl) : List (List Oper × List Oper)) = pickS l (([], im) :: (r ++ tl)) := by simp [pickS, pickL]
      have h4 := any_seq hs hQ hk (([], im) :: (r ++ tl)) (listed.setIfInBounds j true) a' w' h'.1 (hle.set hj) (by rw [noneL_set hal]; exact hn) h2 (by rw [← e]; exact h'.2)
      rw [seqLen, seqLen_app] at h4
      rw [show seqLen r + (seqLen tl + 1) + g = [].length + (seqLen r + seqLen tl + 1) + g by simp only [List.length_nil]; omega]
      exact h4
    · rcases hj2 with rfl | hj2
      · have h' := h.2
        rw [pickL_one ho'] at h'
        exact wpOp_mono (fun a' w' h' => ⟨fun _ => h'.1, any_fre al tl hs hQ hk hal r _ a' w' h'.1 (hle.set hj) (by rw [noneL_set hE']; exact hn) h3 h'.2⟩) (wpOp_of_list ho h')
      · exact absurd hj2 hja

theorem any_rest {pz : List Nat} {tail : List (List Nat × List Nat)} (hs : Region.noSelect l.toArray = true) (hQ : ∀ c a t v w, Q (.panic c) (Act.put a (some t) v) w → Q (.panic c) a w) :
    ∀ listed a w, S w → Fit md l.toArray listed → noneL E listed = true → ordPuM md l.toArray E (ordT md l.toArray E tail) pz listed = true → wpRest P l.toArray Q S (pickL l pz) (pickT l tail) a w → wpAnyE P md l.toArray Q S E (pz.length + segLen tail) listed a w := by
  intro listed a w hS hle hn hB h
  exact any_puM hs hQ hS (fun listed a hle hn hB h => any_tail hs hQ tail listed a w hle (fun _ => hS) hB h) pz listed a hle hn hB h
end

def tailE (tail : List (List Nat × List Nat)) : List Nat := tail.flatMap (·.2)
def seqB (ops : Array Oper) (segs : List (List Nat × Nat)) (pz : List Nat) (tail : List (List Nat × List Nat)) : Bool :=
  Region.noSelect ops && decide (seqLen segs + (pz.length + segLen tail) = ops.size) && ordSeq .any ops (tailE tail) (ordPuM .any ops (tailE tail) (ordT .any ops (tailE tail) tail) pz) segs (Array.replicate ops.size false)
def freB (ops : Array Oper) (al : Nat) (segs tl : List (List Nat × Nat)) (pz : List Nat) (tail : List (List Nat × List Nat)) : Bool :=
  Region.noSelect ops && decide (seqLen segs + (seqLen tl + 1) + (pz.length + segLen tail) = ops.size) && !(tailE tail).contains al && ordFre .any ops (tailE tail) (ordPuM .any ops (tailE tail) (ordT .any ops (tailE tail) tail) pz) al tl segs (Array.replicate ops.size false)
theorem not_none {n k : Nat} (hk : (Array.replicate n false).getD k false = true) : False := by
  simp only [Array.getD_eq_getD_getElem?, Array.getElem?_replicate] at hk
  split at hk <;> cases hk
theorem Fit_none : Fit md ops (Array.replicate ops.size false) :=
  ⟨fun _ _ hk => (not_none hk).elim, by simp⟩
theorem noneL_none (E : List Nat) (n : Nat) : noneL E (Array.replicate n false) = true := by
  unfold noneL
  rw [List.all_eq_true]
  intro k _
  cases h : (Array.replicate n false).getD k false with
  | false => rfl
  | true => exact (not_none h).elim

/-- A region that draws, in segments, under a condition on the world; in the tail without it. -/
theorem wp_region_seq {id : Nat} {a : Act} {w : World} {l : List Oper} (S : World → Prop) (segs : List (List Nat × Nat)) (pz : List Nat) (tail : List (List Nat × List Nat)) (hm : P.follows .mixedOrders = true) (hQ : ∀ c a t v w, Q (.panic c) (Act.put a (some t) v) w → Q (.panic c) a w) (hB : seqB l.toArray segs pz tail = true) (hS : S w.drew)
    (h : wpSeq P l.toArray Q S (wpRest P l.toArray Q S (pickL l pz) (pickT l tail)) (pickS l segs) a w.drew) : (Code.region id l.toArray true).wp P Q a w := by
  simp only [seqB, Bool.and_eq_true, decide_eq_true_eq] at hB
  obtain ⟨⟨hs, hn⟩, hB⟩ := hB
  refine wp_region_any hm ?_
  have h1 := any_seq hs hQ (any_rest hs hQ) segs _ a _ hS Fit_none (noneL_none _ _) hB h
  rw [hn] at h1
  exact wpAny_of_E _ _ _ _ h1
/-- .. one operation of which is free. -/
theorem wp_region_fre {id : Nat} {a : Act} {w : World} {l : List Oper} (S : World → Prop) (al : Nat) (segs tl : List (List Nat × Nat)) (pz : List Nat) (tail : List (List Nat × List Nat)) (hm : P.follows .mixedOrders = true) (hQ : ∀ c a t v w, Q (.panic c) (Act.put a (some t) v) w → Q (.panic c) a w) (hB : freB l.toArray al segs tl pz tail = true) (hS : S w.drew)
    (h : wpFre P l.toArray Q S (wpRest P l.toArray Q S (pickL l pz) (pickT l tail)) (pickL l [al]) (pickS l tl) (pickS l segs) a w.drew) : (Code.region id l.toArray true).wp P Q a w := by
  simp only [freB, Bool.and_eq_true, decide_eq_true_eq, Bool.not_eq_true'] at hB
  obtain ⟨⟨⟨hs, hn⟩, hal⟩, hB⟩ := hB
  refine wp_region_any hm ?_
  have h1 := any_fre al tl hs hQ (any_rest hs hQ) (fun h => by simp [h] at hal) segs _ a _ hS Fit_none (noneL_none _ _) hB h
  rw [hn] at h1
  exact wpAny_of_E _ _ _ _ h1

theorem wpSeq_consK {R : Act → World → Prop} {pu im : List Oper} {r : List (List Oper × List Oper)} {a : Act} {w : World}
    (h : ∀ K2 : Act → World → Prop, RowKit.Hid (∀ a w, S w → wpSeq P ops Q S R r a w → K2 a w) → ∀ K : Act → Prop, (∀ a, wpList P ops (Exit.then K2 Q) im a w → K a) → wpQuiet P ops (fun w' => ∃ s : SW S, w' = s.w) K pu a) : wpSeq P ops Q S R ((pu, im) :: r) a w :=
  h _ (fun _ _ h1 h2 => ⟨h1, h2⟩) _ (fun _ h => h)
theorem wpSeq_nil {R : Act → World → Prop} {a : Act} {w : World} (h : R a w) : wpSeq P ops Q S R [] a w := h
theorem wpFre_consK {R : Act → World → Prop} {al : List Oper} {tl : List (List Oper × List Oper)} {pu im : List Oper} {r : List (List Oper × List Oper)} {a : Act} {w : World}
    (h : ∀ K1 : Act → World → Prop, RowKit.Hid (∀ a w, S w → wpSeq P ops Q S R (([], im) :: (r ++ tl)) a w → K1 a w) → ∀ K2 : Act → World → Prop, RowKit.Hid (∀ a w, S w → wpFre P ops Q S R al tl r a w → K2 a w) →
      ∀ K : Act → Prop, (∀ a, wpList P ops (Exit.then K1 Q) al a w → wpList P ops (Exit.then K2 Q) im a w → K a) → wpQuiet P ops (fun w' => ∃ s : SW S, w' = s.w) K pu a) : wpFre P ops Q S R al tl ((pu, im) :: r) a w :=
  h _ (fun _ _ h1 h2 => ⟨h1, h2⟩) _ (fun _ _ h1 h2 => ⟨h1, h2⟩) _ (fun _ h1 h2 => ⟨h1, h2⟩)
theorem wpFre_nilK {R : Act → World → Prop} {al : List Oper} {tl : List (List Oper × List Oper)} {a : Act} {w : World}
    (h : ∀ K1 : Act → World → Prop, RowKit.Hid (∀ a w, S w → wpSeq P ops Q S R tl a w → K1 a w) → wpList P ops (Exit.then K1 Q) al a w) : wpFre P ops Q S R al tl [] a w :=
  h _ (fun _ _ h1 h2 => ⟨h1, h2⟩)
theorem wpRest_K {pz : List Oper} {tail : List (List Oper × List Oper)} {a : Act} {w : World}
    (h : ∀ K : Act → Prop, (∀ a, wpSegs P ops Q tail a w → K a) → wpQuiet P ops (fun w' => ∃ s : SW S, w' = s.w) K pz a) : wpRest P ops Q S pz tail a w :=
  h _ (fun _ h => h)
end

end Go.Proofs.YtakgddochbcjbaaDoor
