/- chunk.Of's closure: where a line stands in both sides; what kind a piece is of. A region that draws its order: what yields in whatever world is taken as soon as it may; of the rest there is but one that may come up. -/
import Derived.Test.YtakgddochbcjbaaDoorPkDist
import Derived.Laws.ResultCell
import Derived.Test.YtakgddochbcjbaaDoorPkDiff1
namespace Go.Proofs.YtakgddochbcjbaaDoor
open Go.RowKit Go.Deep Go.MapKept

set_option maxRecDepth 100000 in
set_option maxHeartbeats 1000000 in
theorem stands_any (ga gb ma mb n : Nat) (fa fb : Int → Option Int) (i : Int) (w : World) (ha : Blk w ga 112 #[.map (some ma)]) (hb : Blk w gb 112 #[.map (some mb)]) (hA : MapI w ma n fa) (hB : MapI w mb n fb) (hi : ok64 i)
    (x y : Int) (p q : Bool) (hx : (fa i).getD 0 = x) (hy : (fb i).getD 0 = y) (hp : (fa i).isSome = p) (hq : (fb i).isSome = q) :
    Calls Tryd.prog 78 #[.int .i64 i, .pointer (some ⟨ga, 0, none⟩), .pointer (some ⟨gb, 0, none⟩)] w fun e w' => e = .returned (.tuple #[.agg #[.int .i64 x, .int .i64 y], .bool (p && q)]) ∧ Grows w w' := by
  have hg : Grows w (w.alloc (.cells #[.int .i64 0, .int .i64 0] 116)) := (Grows.refl w).alloc _
  have ha1 : (w.alloc (.cells #[.int .i64 0, .int .i64 0] 116)).cell? ⟨ga, 0, none⟩ = some (.map (some ma)) := (ha.alloc _).cell 0
  have hb1 : (w.alloc (.cells #[.int .i64 0, .int .i64 0] 116)).cell? ⟨gb, 0, none⟩ = some (.map (some mb)) := (hb.alloc _).cell 0
  have hA1 := hA.grows hg
  have hB1 := hB.grows hg
  have HX := Lib.hid hx
  have HY := Lib.hid hy
  have HP := Lib.hid hp
  have HQ := Lib.hid hq
  clear hx hy hp hq ha hb hA hB
  cases p with
  | false =>
    go_enter Tryd.func78, Tryd.ntmps78
    go_wp2_with (first | (at_lookup; refine wpList_lookI rfl _ _ rfl ma n fa rfl hA1 _ rfl hi x false HX.out HP.out ?_) | (at_lookup; refine wpList_lookI rfl _ _ rfl mb n fb rfl hB1 _ rfl hi y q HY.out HQ.out ?_))
    (try simp only [Exit.inBlock, Exit.then])
    refine bodyPost_ret (v := .tuple #[.agg #[.int .i64 x, .int .i64 y], .bool (false)]) ?_ rfl ⟨rfl, (Grows.refl w).alloc _⟩
    rw [results_cell_tmp rfl]
    go_simp
  | true =>
    go_enter Tryd.func78, Tryd.ntmps78
    go_wp2_with (first | (at_lookup; refine wpList_lookI rfl _ _ rfl ma n fa rfl hA1 _ rfl hi x true HX.out HP.out ?_) | (at_lookup; refine wpList_lookI rfl _ _ rfl mb n fb rfl hB1 _ rfl hi y q HY.out HQ.out ?_))
    (try simp only [Exit.inBlock, Exit.then])
    refine bodyPost_ret (v := .tuple #[.agg #[.int .i64 x, .int .i64 y], .bool (q)]) ?_ rfl ⟨rfl, (Grows.refl w).alloc _⟩
    rw [results_cell_tmp rfl]
    go_simp

end Go.Proofs.YtakgddochbcjbaaDoor
namespace Go.Proofs.YtakgddochbcjbaaDoor
open Go

/-- operations that look at no memory and call nothing -/
def pureB : Op → Bool
  | .move _ | .assign _ | .pick _ _ _ | .binOp _ _ _ _ _ | .unOp _ _ _ | .slice _ _ _ _ _ | .fieldAddr _ _ _ | .field _ _ _ | .indexAddr _ _ _ | .index _ _ _ => true
  | .call c => match c.callee with | .builtin .len => true | .builtin .cap => true | _ => false
  | _ => false

theorem andThen_value {α : Type} {X : Result α} {f : α → Value} {w : World} {v : Value} {P : Program} {C : World → Prop} (h : Oper.quietUpon P C w v (X.andThen fun u w' => .ok (.value (f u)) w')) : (X.andThen fun u w' => Result.ok (Next.value (f u)) w') = .ok (.value v) w := by
  cases X with
  | ok u w' =>
    obtain ⟨h1, h2⟩ := (h : w' = w ∧ f u = v)
    subst h1 h2
    rfl
  | halt x w' => exact (h : False).elim

theorem pure_spec {P : Program} {o : Oper} {a : Act} {w : World} {v : Value} (hp : pureB o.op = true) (h : o.quietAt P a (fun _ => True) w v) : (execOp a.eval o).run P w = .ok (.value v) w := by
  unfold Oper.quietAt at h
  unfold execOp at h ⊢
  split at h
  all_goals first
    | (rename_i heq; rw [heq] at hp; simp [pureB] at hp; done)
    | skip
  all_goals first
    | (simp only [Sem.run_bind, Sem.run_pure] at h ⊢
       exact andThen_value (f := fun u => u) h)
    | (simp only [Sem.run_bind, Sem.run_pure] at h ⊢
       exact andThen_value h)
    | (obtain ⟨_, h2⟩ := (h : w = w ∧ _ = v)
       rw [← h2]; rfl)
    | skip
  rename_i c heq
  rw [heq] at hp
  obtain ⟨callee, args, argTypes⟩ := c
  cases callee with
  | builtin b =>
    cases b
    all_goals first
      | (simp [pureB] at hp; done)
      | (simp only [resolve, invoke, builtin, Sem.run_bind, Sem.run_pure, Result.andThen_ok] at h ⊢
         exact andThen_value (f := fun u => u) h)
  | _ => simp [pureB] at hp

section
variable {P : Program} {ops : Array Oper} {md : Region.Mode} {Q : Exit → Act → World → Prop}

theorem Oper.wp_turn {o : Oper} {a : Act} {w : World} {K : Act → World → Prop} {Q Q' : Exit → Act → World → Prop} (h1 : ∀ c a w, Q (.panic c) a w → Q' (.panic c) a w) (h2 : LetsOut Q → LetsOut Q')
    (hh : o.wp P a w K Q) : o.wp P a w K Q' := by
  unfold Oper.wp at *
  generalize (execOp a.eval o).run P w = r at *
  cases r with
  | ok n w' =>
    cases n <;> simp only [Oper.upon] at hh ⊢ <;>
      first
        | exact hh
        | exact Calls.mono hh (fun e w'' he => by cases e <;> first | exact he | exact h1 _ _ _ he | exact h2 he)
  | halt x w' => cases x <;> simp only [Oper.upon] at hh ⊢ <;> first | exact hh | exact h1 _ _ _ hh

/-- segments: first some that look at no memory, then others, in order -/
def wpSegs (P : Program) (ops : Array Oper) (Q : Exit → Act → World → Prop) : List (List Oper × List Oper) → Act → World → Prop
  | [], a, w => Q .normal a w
  | (pu, im) :: r, a, w => wpQuiet P ops (fun _ => True) (fun a' => wpList P ops (Exit.then (wpSegs P ops Q r) Q) im a' w) pu a

theorem wpSegs_cons {Q : Exit → Act → World → Prop} {pu im : List Oper} {r : List (List Oper × List Oper)} {a : Act} {w : World} (h : wpQuiet P ops (fun _ => True) (fun a' => wpList P ops (Exit.then (wpSegs P ops Q r) Q) im a' w) pu a) : wpSegs P ops Q ((pu, im) :: r) a w := h
theorem wpSegs_consK {Q : Exit → Act → World → Prop} {pu im : List Oper} {r : List (List Oper × List Oper)} {a : Act} {w : World}
    (h : ∀ K2 : Act → World → Prop, RowKit.Hid (∀ a w, wpSegs P ops Q r a w → K2 a w) → ∀ K : Act → Prop, (∀ a, wpList P ops (Exit.then K2 Q) im a w → K a) → wpQuiet P ops (fun _ => True) K pu a) : wpSegs P ops Q ((pu, im) :: r) a w :=
  h _ (fun _ _ h => h) _ (fun _ h => h)
theorem wpSegs_nil {Q : Exit → Act → World → Prop} {a : Act} {w : World} (h : Q .normal a w) : wpSegs P ops Q [] a w := h
def pickL (l : List Oper) (ix : List Nat) : List Oper := ix.filterMap (l[·]?)
def ordIm (md : Region.Mode) (ops : Array Oper) (k : Array Bool → Bool) : List Nat → Array Bool → Bool
  | [], listed => k listed
  | i :: r, listed => decide (Region.ready md ops listed = [i]) && ordIm md ops k r (listed.setIfInBounds i true)
def ordPu (md : Region.Mode) (ops : Array Oper) (k : Array Bool → Bool) : List Nat → Array Bool → Bool
  | [], listed => k listed
  | i :: r, listed => (Region.ready md ops listed).contains i && Region.free md ops listed i && ((ops[i]?).map fun o => pureB o.op).getD false && ordPu md ops k r (listed.setIfInBounds i true)
def ordSegs (md : Region.Mode) (ops : Array Oper) : List (List Nat × List Nat) → Array Bool → Bool
  | [], listed => (Region.ready md ops listed).isEmpty
  | (pu, im) :: r, listed => ordPu md ops (ordIm md ops (ordSegs md ops r) im) pu listed
def segLen : List (List Nat × List Nat) → Nat
  | [] => 0
  | (pu, im) :: r => pu.length + (im.length + segLen r)

theorem any_im {l : List Oper} {k : Array Bool → Bool} {K : Act → World → Prop} {g : Nat} (hk : ∀ listed a w, k listed = true → K a w → wpAny P md l.toArray Q g listed a w) :
    ∀ (im : List Nat) (listed : Array Bool) (a : Act) (w : World), ordIm md l.toArray k im listed = true → wpList P l.toArray (Exit.then K Q) (pickL l im) a w → wpAny P md l.toArray Q (im.length + g) listed a w
  | [], listed, a, w, hB, h => by rw [List.length_nil, Nat.zero_add]; exact hk _ _ _ hB h
  | i :: r, listed, a, w, hB, h => by
    simp only [ordIm, Bool.and_eq_true, decide_eq_true_eq] at hB
    obtain ⟨hr, hB⟩ := hB
    have hi : i ∈ Region.ready md l.toArray listed := by rw [hr]; exact List.mem_singleton.2 rfl
    obtain ⟨_, o, ho, _⟩ := mem_ready.1 hi
    have ho' : l[i]? = some o := by simpa using ho
    have hp : pickL l (i :: r) = o :: pickL l r := by unfold pickL; rw [List.filterMap_cons_some ho']
    rw [hp] at h
    rw [List.length_cons, show r.length + 1 + g = (r.length + g) + 1 by omega]
    refine ⟨fun h0 => (by rw [hr] at h0; cases h0), fun j hj => ?_⟩
    rw [hr] at hj
    obtain rfl := List.mem_singleton.1 hj
    unfold wpOp
    simp only [ho]
    unfold wpList at h
    split
    · rename_i hw
      rw [if_pos hw] at h
      refine h.imp (fun h => Oper.wp_turn (fun _ _ _ h => h) (fun ⟨a, w, h⟩ => ⟨a, w, h⟩) (Oper.wp_mono (fun a w h => any_im hk r _ a w hB h) h)) (fun ⟨h1, a, w, h2⟩ => ⟨h1, a, w, h2⟩)
    · rename_i hw
      rw [if_neg hw] at h
      exact any_im hk r _ _ w hB h

theorem put_any (hQ : ∀ c a t v w, Q (.panic c) (Act.put a (some t) v) w → Q (.panic c) a w) {c : List PanicEntry} {a : Act} {d : Option Tmp} {v : Value} {w : World} (h : Q (.panic c) (a.put d v) w) : Q (.panic c) a w := by
  cases d with
  | none => exact h
  | some t => exact hQ _ _ _ _ _ h
theorem any_pu {l : List Oper} {k : Array Bool → Bool} {K : Act → Prop} {g : Nat} {w : World} (hs : Region.noSelect l.toArray = true) (hQ : ∀ c a t v w, Q (.panic c) (Act.put a (some t) v) w → Q (.panic c) a w) (hk : ∀ listed a, k listed = true → K a → wpAny P md l.toArray Q g listed a w) :
    ∀ (pu : List Nat) (listed : Array Bool) (a : Act), ordPu md l.toArray k pu listed = true → wpQuiet P l.toArray (fun _ => True) K (pickL l pu) a → wpAny P md l.toArray Q (pu.length + g) listed a w
  | [], listed, a, hB, h => by rw [List.length_nil, Nat.zero_add]; exact hk _ _ hB h
  | i :: r, listed, a, hB, h => by
    simp only [ordPu, Bool.and_eq_true] at hB
    obtain ⟨⟨⟨hr, hf⟩, hpb⟩, hB⟩ := hB
    have hi : i ∈ Region.ready md l.toArray listed := by simpa using hr
    obtain ⟨_, o, ho, _⟩ := mem_ready.1 hi
    have ho' : l[i]? = some o := by simpa using ho
    have hp : pickL l (i :: r) = o :: pickL l r := by unfold pickL; rw [List.filterMap_cons_some ho']
    rw [hp] at h
    rw [ho] at hpb
    rw [List.length_cons, show r.length + 1 + g = (r.length + g) + 1 by omega]
    unfold wpQuiet at h
    by_cases hw : Region.wanted o (yielded l.toArray a.tmps) = true
    · rw [if_pos hw] at h
      obtain ⟨v, h1, h2⟩ := h
      exact wpAny_take (v := v) ho hs hf hr (fun c a w h => put_any hQ h) (.inl ⟨hw, fun w' => pure_spec hpb (h1 w' trivial)⟩) (any_pu hs hQ hk r _ _ hB h2)
    · rw [if_neg hw] at h
      exact wpAny_take (v := undef) ho hs hf hr (fun c a w h => put_any hQ h) (.inr ⟨by simpa using hw, rfl⟩) (any_pu hs hQ hk r _ _ hB h)

theorem any_segs {l : List Oper} (hs : Region.noSelect l.toArray = true) (hQ : ∀ c a t v w, Q (.panic c) (Act.put a (some t) v) w → Q (.panic c) a w) :
    ∀ (segs : List (List Nat × List Nat)) (listed : Array Bool) (a : Act) (w : World), ordSegs md l.toArray segs listed = true → wpSegs P l.toArray Q (segs.map fun s => (pickL l s.1, pickL l s.2)) a w → wpAny P md l.toArray Q (segLen segs) listed a w
  | [], listed, a, w, hB, h => ⟨by simpa [ordSegs] using hB, h⟩
  | (pu, im) :: r, listed, a, w, hB, h =>
    any_pu hs hQ (fun listed a hB h => any_im (fun listed a w hB h => any_segs hs hQ r listed a w hB h) im listed a w hB h) pu listed a hB h

def segsB (ops : Array Oper) (segs : List (List Nat × List Nat)) : Bool :=
  Region.noSelect ops && decide (segLen segs = ops.size) && ordSegs .any ops segs (Array.replicate ops.size false)

/-- A region that draws, in segments. -/
theorem wp_region_segs {id : Nat} {a : Act} {w : World} {l : List Oper} (segs : List (List Nat × List Nat)) (hm : P.follows .mixedOrders = true) (hQ : ∀ c a t v w, Q (.panic c) (Act.put a (some t) v) w → Q (.panic c) a w) (hB : segsB l.toArray segs = true)
    (h : wpSegs P l.toArray Q (segs.map fun s => (pickL l s.1, pickL l s.2)) a { w with drawn := w.drawn + 1 }) : (Code.region id l.toArray true).wp P Q a w := by
  simp only [segsB, Bool.and_eq_true, decide_eq_true_eq] at hB
  obtain ⟨⟨hs, hn⟩, hB⟩ := hB
  refine wp_region_any hm ?_
  rw [← hn]
  rw [← hn] at hB
  exact any_segs hs hQ segs _ a _ hB h
end
end Go.Proofs.YtakgddochbcjbaaDoor
