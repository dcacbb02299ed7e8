/- slices.SortFunc over similar's pairs. -/
import Derived.Test.YtakgddochbcjbaaDoorSimCmp
import Derived.Shelf.SlSortCmp.NoneTotal
namespace Go.Proofs.YtakgddochbcjbaaDoor
open Go.RowKit Go.Deep Go.MapKept Go.Shelf

theorem cmpP_lt {l : List FileB} {p q : Int × Int} : cmpP l p q < 0 ↔ lessT (fp l p.1.toNat) (fp l q.1.toNat) = true ∨ (fp l p.1.toNat = fp l q.1.toNat ∧ p.1 < q.1) := by
  unfold cmpP
  generalize fp l p.1.toNat = a
  generalize fp l q.1.toNat = b
  unfold orI cmpB Lib.compareInt
  by_cases h1 : lessT a b = true
  · rw [if_pos h1]
    simp [h1]
  · by_cases h2 : a = b
    · have e : eqT a b = true := decide_eq_true h2
      rw [if_neg h1, if_pos e, if_pos rfl]
      constructor
      · intro h
        refine .inr ⟨h2, ?_⟩
        split at h
        · assumption
        · split at h <;> omega
      · rintro (h | ⟨_, h⟩)
        · exact absurd h h1
        · rw [if_pos h]; decide
    · have e : ¬ eqT a b = true := fun h => h2 (of_decide_eq_true h)
      rw [if_neg h1, if_neg e]
      simp [h1, h2]
theorem cmpP_swo (l : List FileB) (n : Nat) : Go.Sort.SWO (ltOf fun x y : Fin n × Int => cmpP l ((x.1.1 : Nat), x.2) ((y.1.1 : Nat), y.2)) where
  irrefl x := by
    unfold ltOf
    rw [decide_eq_false_iff_not, cmpP_lt]
    rintro (h | ⟨_, h⟩)
    · rw [lessT_irrefl] at h; cases h
    · exact absurd h (by omega)
  trans x y z h1 h2 := by
    unfold ltOf at *
    rw [decide_eq_true_eq, cmpP_lt] at *
    rcases h1 with h1 | ⟨e1, h1⟩
    · rcases h2 with h2 | ⟨e2, h2⟩
      · exact .inl (lessT_trans h1 h2)
      · rw [← e2]; exact .inl h1
    · rcases h2 with h2 | ⟨e2, h2⟩
      · rw [e1]; exact .inl h2
      · exact .inr ⟨e1.trans e2, by omega⟩
  ntrans x y z h1 h2 := by
    unfold ltOf at *
    rw [decide_eq_false_iff_not, cmpP_lt] at *
    generalize fp l ((x.1.1 : Nat) : Int).toNat = a at *
    generalize fp l ((y.1.1 : Nat) : Int).toNat = b at *
    generalize fp l ((z.1.1 : Nat) : Int).toNat = c at *
    simp only [not_or, not_and] at h1 h2 ⊢
    obtain ⟨h1, i1⟩ := h1
    obtain ⟨h2, i2⟩ := h2
    refine ⟨fun h => ?_, fun e => ?_⟩
    · by_cases hba : lessT b a = true
      · exact h2 (lessT_trans hba h)
      · have e := lessT_tri (by simpa using h1) (by simpa using hba)
        rw [e] at h
        exact h2 h
    · subst e
      by_cases hba : lessT b a = true
      · exact absurd hba h2
      · have e2 := lessT_tri (by simpa using h1) (by simpa using hba)
        subst e2
        have := i1 rfl
        have := i2 rfl
        omega

def toP {n : Nat} (x : Fin n × Int) : Int × Int := ((x.1.1 : Nat), x.2)
def encP {n : Nat} (x : Fin n × Int) : List Value := [.int .i64 ((x.1.1 : Nat) : Int), .int .i64 x.2]
def finP (n : Nat) (O : List (Int × Int)) (h : ∀ p ∈ O, 0 ≤ p.1 ∧ p.1 < n) : List (Fin n × Int) := O.attach.map fun p => (⟨p.1.1.toNat, by have := h p.1 p.2; omega⟩, p.1.2)
theorem finP_map (n : Nat) (O : List (Int × Int)) (h : ∀ p ∈ O, 0 ≤ p.1 ∧ p.1 < n) : (finP n O h).map toP = O := by
  rw [finP, List.map_map]
  have : (toP ∘ fun p : {x // x ∈ O} => ((⟨p.1.1.toNat, by have := h p.1 p.2; omega⟩, p.1.2) : Fin n × Int)) = fun p : {x // x ∈ O} => p.1 := by
    funext p
    have := h p.1 p.2
    exact Prod.ext (show ((p.1.1.toNat : Nat) : Int) = p.1.1 by omega) rfl
  rw [this]
  exact List.attach_map_subtype_val O
theorem prCells_len (O : List (Int × Int)) : (prCells O).length = O.length * 2 := by
  induction O with
  | nil => rfl
  | cons p O ih => rw [show p :: O = [p] ++ O from rfl, prCells_append, prCells_one, List.length_append, ih]; simp; omega
theorem prCells_get {O : List (Int × Int)} {j : Nat} (h : j < O.length) : (prCells O)[j * 2]? = some (.int .i64 O[j].1) ∧ (prCells O)[j * 2 + 1]? = some (.int .i64 O[j].2) := by
  induction O generalizing j with
  | nil => simp at h
  | cons p O ih =>
    rw [show prCells (p :: O) = .int .i64 p.1 :: .int .i64 p.2 :: prCells O from rfl]
    cases j with
    | zero => exact ⟨rfl, rfl⟩
    | succ j =>
      have := ih (j := j) (by simpa using h)
      rw [show (j + 1) * 2 = j * 2 + 1 + 1 by omega]
      simpa using this
theorem flat_pr {n : Nat} (d : Array (Fin n × Int)) : ∀ inst : Inhabited (Fin n × Int), (@Go.Sort.flatK _ inst encP 2 d).toList = prCells (d.toList.map toP) := by
  intro inst
  apply List.ext_getElem?
  intro t
  by_cases ht : t < d.size * 2
  · have h1 : t / 2 < d.size := by omega
    have h2 := prCells_get (O := d.toList.map toP) (j := t / 2) (by simpa using h1)
    have e : (Go.Sort.flatK encP 2 d).toList[t]? = some (encP d[t / 2]!)[t % 2]! := by
      have hs : t < (Go.Sort.flatK encP 2 d).size := by rw [Go.Sort.size_flatK]; exact ht
      rw [Array.getElem?_toList, Array.getElem?_eq_getElem hs, ← Go.Sort.get_flatK encP 2 d t ht, getElem!_pos _ t hs]
    rw [e, getElem!_pos d (t / 2) h1]
    obtain ⟨h3, h4⟩ := h2
    rcases (by omega : t % 2 = 0 ∨ t % 2 = 1) with hm | hm
    · have et : t / 2 * 2 = t := by omega
      rw [et] at h3
      rw [hm, h3]
      simp [encP, toP]
    · have et : t / 2 * 2 + 1 = t := by omega
      rw [et] at h4
      rw [hm, h4]
      simp [encP, toP]
  · rw [List.getElem?_eq_none (by simp; omega), List.getElem?_eq_none (by rw [prCells_len]; simp; omega)]
theorem putRow_ownV {w : World} {B g n c e size : Nat} {xs : List Value} (h : w.ownsRow B e size (.slice (some ⟨g, 0, none⟩) n c) n xs) (vs : Array Value) (hv : vs.size = xs.length) (q : Nat) :
    (Go.Sort.putRow id (Go.Sort.ahead w q) g 0 vs).ownsRow B e size (.slice (some ⟨g, 0, none⟩) n c) n vs.toList := by
  have hx := h.1
  rcases h.2 with ⟨e, _⟩ | ⟨g', cap, cur, e, hb, hg, h1, h2, h3, h4⟩
  · cases e
  · cases e
    refine ⟨by simp; omega, .inr ⟨g, c, Go.Sort.putCells id 0 vs cur, rfl, hb, ?_, h1, h2, by simp [Go.Sort.putCells, h3], ?_⟩⟩
    · simp [Go.Sort.putRow, Go.Sort.mapBlock, Go.Sort.ahead, Array.getElem?_modify, hg, Go.Sort.onCells]
    · have hle : n * size ≤ c * size := Nat.mul_le_mul_right _ h1
      apply List.ext_getElem?
      intro k
      rw [List.getElem?_take]
      by_cases hk : k < n * size
      · have hkc : k < cur.size := by omega
        have hkd : k < vs.size := by omega
        rw [if_pos hk]
        simp [Go.Sort.putCells, hkd, hkc]
      · rw [if_neg hk, List.getElem?_eq_none (by simp; omega)]
theorem putRowV_grown (w : World) (g q : Nat) (d : Array Value) : w.grownBy (Go.Sort.putRow id (Go.Sort.ahead w q) g 0 d) (some g) :=
  ⟨rfl, rfl, rfl, by simp [Go.Sort.ahead], fun k _ hne => by
    have : g ≠ k := fun e => hne (by rw [e])
    simp [Go.Sort.putRow, Go.Sort.mapBlock, Go.Sort.ahead, Array.getElem?_modify, this]⟩
/-- pairs in order -/
def SortedP (l : List FileB) (O : List (Int × Int)) : Prop := O.Pairwise fun p q => ¬ cmpP l q p < 0

set_option maxRecDepth 100000 in
set_option maxHeartbeats 2000000 in
theorem sort_any (B Bl : Nat) (w : World) (bq n c : Nat) (A : Option Addr) (l : List FileB) (vo : Value) (O : List (Int × Int)) (hO : ∀ p ∈ O, 0 ≤ p.1 ∧ p.1 < n) (hOl : O.length ≤ 1000) (ho : w.ownsRow B 103 2 vo O.length (prCells O)) (hb : Blk w bq 51 #[.slice A n c]) (hl : Reads w Bl 3 A n (fileCells l)) (hBl : Bl ≤ w.heap.size) (hBB : Bl ≤ B) :
    Calls Tryd.prog 64 #[vo, .func (.func 65) #[] #[.pointer (some ⟨bq, 0, none⟩)]] w fun e w' => e = .returned (.tuple #[]) ∧ ∃ O' : List (Int × Int), O'.Perm O ∧ SortedP l O' ∧ w'.ownsRow B 103 2 vo O.length (prCells O') ∧ w.grownBy w' vo.ownBlock := by
  rcases Nat.eq_zero_or_pos O.length with h0 | h0
  · obtain ⟨A1, c1, rfl, _, _⟩ := own_form ho
    obtain rfl := List.length_eq_zero_iff.1 h0
    have := AnyF.slices_SortFunc_none Tryd.pairSort A1 c1 (.func (.func 65) #[] #[.pointer (some ⟨bq, 0, none⟩)]) w
    refine Calls.mono this ?_
    rintro e w' ⟨rfl, rfl⟩
    exact ⟨rfl, [], List.Perm.refl _, List.Pairwise.nil, ho, ⟨rfl, rfl, rfl, Nat.le_refl _, fun _ _ _ => rfl⟩⟩
  · obtain ⟨g, c1, rfl, hgB, hgw⟩ := ho.form h0
    have hn0 : 0 < n := by
      obtain ⟨p, hp⟩ := List.exists_mem_of_length_pos h0
      have := hO p hp
      omega
    haveI inst : Inhabited (Fin n × Int) := ⟨(⟨0, hn0⟩, 0)⟩
    have hmap := finP_map n O hO
    generalize finP n O hO = zs at hmap
    have hzl : zs.length = O.length := by rw [← hmap]; simp
    have hfl := flat_pr zs.toArray inst
    rw [List.toList_toArray, hmap] at hfl
    have hH : Go.Sort.HoldsK encP 2 w g 0 zs.toArray := by
      intro t ht
      have hu : (prCells O)[t]? = some ((Go.Sort.flatK encP 2 zs.toArray)[t]!) := by
        rw [← hfl, Array.getElem?_toList, Array.getElem?_eq_getElem ht, getElem!_pos _ t ht]
      have hcs := ho.cells (g := g) rfl t _ hu
      have e2 : Addr.add ⟨g, 0, none⟩ t = ⟨g, t, none⟩ := by unfold Addr.add; split <;> simp_all
      rw [Nat.zero_add, ← e2, hcs]
      refine ⟨rfl, ?_⟩
      rw [e2]
      rcases ho.2 with ⟨e, _⟩ | ⟨g', cap, cur, e, _, hg, _⟩
      · cases e
      · cases e
        exact Blk.frozen (cs := cur) (t := 103) hg t
    have eg : ∀ args w, (callFunc 65 args).run Tryd.prog w = .ok (.enter 65 args) w := enters_of Tryd.func65 (by kernel_rfl) rfl
    have hne : bq ≠ g := fun e => by
      have := own_blk_ne ho hb (by decide)
      rw [e] at this
      exact this rfl
    have hcmp : CmpLays Tryd.prog 65 #[.pointer (some ⟨bq, 0, none⟩)] encP 2 (fun x y : Fin n × Int => cmpP l ((x.1.1 : Nat), x.2) ((y.1.1 : Nat), y.2)) g 0 zs.toArray.size w := fun k os dk _ x y => by
      have hgr : ∀ b, b < w.heap.size → b ≠ g → (sortWorldK encP 2 w g 0 k dk os).heap[b]? = w.heap[b]? := fun b hb1 hb2 => by
        have h1 := (putRowV_grown w g k (Go.Sort.flatK encP 2 dk)).block b hb1 (fun e => hb2 (by cases e; rfl))
        show (Go.Sort.grow (Go.Sort.putRow id (Go.Sort.ahead w k) g 0 (Go.Sort.flatK encP 2 dk)) os).heap[b]? = _
        rw [← h1]
        exact Go.Sort.heap_grow_old _ os (by rw [Go.Sort.size_putRow]; exact hb1)
      have hbk : Blk (sortWorldK encP 2 w g 0 k dk os) bq 51 #[.slice A n c] := (hgr bq hb.lt hne).trans hb
      have hlk : Reads (sortWorldK encP 2 w g 0 k dk os) Bl 3 A n (fileCells l) := hl.keep fun p hp => World.cell?_of_block (hgr p.block (Nat.lt_of_lt_of_le hp hBl) (by omega))
      have hsz := size_sortWorldK_c encP 2 w g 0 k dk os
      exact ren1_any Bl _ bq n c A l x.1.1 y.1.1 x.2 y.2 hbk hlk (Nat.le_trans hBl hsz) x.1.2 y.1.2
    have hcon := AnyQ.slices_SortFunc Tryd.pairSort 2 (fun w => by kernel_rfl) (fun w => by kernel_rfl) encP (fun _ => rfl) (fun x v hv => by simp [encP] at hv; rcases hv with rfl | rfl <;> rfl) (fun x y : Fin n × Int => cmpP l ((x.1.1 : Nat), x.2) ((y.1.1 : Nat), y.2)) (cmpP_swo l n) 65 #[.pointer (some ⟨bq, 0, none⟩)] g 0 c1 zs.toArray w eg hcmp hH hgw (by simp; omega)
    have e0 : zs.toArray.size = O.length := by simpa using hzl
    rw [e0] at hcon
    refine Calls.mono hcon ?_
    rintro e w' ⟨rfl, d', k, os, hp, hs, rfl⟩
    have hsz := hp.1
    have hperm := hp.2.2
    have hN : d'.size = O.length := by rw [hsz]; exact e0
    have hzN : zs.toArray.size = O.length := e0
    have x1 : d'.extract 0 O.length = d' := by rw [← hN]; simp
    have x2 : zs.toArray.extract 0 O.length = zs.toArray := by rw [← hzN]; simp
    rw [x1, x2, List.toList_toArray] at hperm
    have hG : Grows (Go.Sort.putRow id (Go.Sort.ahead w k) g 0 (Go.Sort.flatK encP 2 d')) (sortWorldK encP 2 w g 0 k d' os) := below_grown _ 0 os
    have hgb := putRowV_grown w g k (Go.Sort.flatK encP 2 d')
    refine ⟨rfl, d'.toList.map toP, ?_, ?_, ?_, ?_⟩
    · rw [← hmap]
      exact hperm.map toP
    · rw [SortedP, List.pairwise_map, List.pairwise_iff_getElem]
      intro i j hi hj hij
      have hi' : i < d'.size := by simpa using hi
      have hj' : j < d'.size := by simpa using hj
      have h := hs i j (Nat.zero_le _) hij (by omega)
      rw [getElem!_pos d' j hj', getElem!_pos d' i hi'] at h
      unfold ltOf at h
      rw [decide_eq_false_iff_not] at h
      simpa [toP] using h
    · have h1 := putRow_ownV ho (Go.Sort.flatK encP 2 d') (by rw [Go.Sort.size_flatK, prCells_len, hN]) k
      rw [flat_pr d' inst] at h1
      exact own_grows h1 hG
    · exact ⟨hG.os.trans hgb.os, hG.tape.trans hgb.tape, hG.output.trans hgb.output, Nat.le_trans hgb.size hG.size, fun b hb1 hb2 => (hG.block b (Nat.lt_of_lt_of_le hb1 hgb.size)).trans (hgb.block b hb1 hb2)⟩
end Go.Proofs.YtakgddochbcjbaaDoor
