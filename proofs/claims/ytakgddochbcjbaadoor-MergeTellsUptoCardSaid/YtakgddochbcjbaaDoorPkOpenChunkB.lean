/- A slice of chunks that came in: read whole, and how much it holds at most. -/
import Derived.Test.YtakgddochbcjbaaDoorPkCard
import Derived.Test.YtakgddochbcjbaaDoorPkTells
namespace Go.Proofs.YtakgddochbcjbaaDoor
open Go.RowKit Go.WideShapes Go.ChangeShapes Go.ChangeAt Go.Deep

section
variable {H : Type} {enc : TypeId × Value → H} {P : Program}
def chW (c : ChkB) : Nat := ((bl c.2.2.1).flatten.length + c.2.2.1.length) + ((bl c.2.2.2).flatten.length + c.2.2.2.length)
theorem bulkB_sum {κ : Type} (F : κ → ChkB) (D : κ → DataW H) : ∀ (ks : List κ), (∀ k ∈ ks, chW (F k) ≤ Rows.uptoBulk (D k)) → ((ks.map F).map chW).sum ≤ Rows.uptoBulkAll (ks.map D)
  | [], _ => by simp [Rows.uptoBulkAll]
  | k :: ks, h => by
    have h1 := h k (by simp)
    have h2 := bulkB_sum F D ks (fun j hj => h j (by simp [hj]))
    simp only [List.map_cons, List.sum_cons, Rows.uptoBulkAll]
    omega
theorem pick_bulk (ours : Bool) : ∀ l : List ChkB, (l.flatMap fun c => flatS (sideC ours c)).length ≤ (l.map chW).sum
  | [] => by simp
  | c :: l => by
    have ih := pick_bulk ours l
    have h1 : (flatS (sideC ours c)).length ≤ chW c := by
      unfold sideC chW flatS
      split <;> omega
    simp only [List.flatMap_cons, List.length_append, List.map_cons, List.sum_cons]
    omega
theorem lines_bulk {l : List ChkB} {M : Nat} (h : (l.map chW).sum ≤ M) (hM : M ≤ 1000000000) : LinesOK l := by
  have key : ∀ (l : List ChkB) (c : ChkB), c ∈ l → chW c ≤ (l.map chW).sum := by
    intro l
    induction l with
    | nil => intro c h; cases h
    | cons x l ih =>
      intro c h
      simp only [List.map_cons, List.sum_cons]
      rcases List.mem_cons.1 h with rfl | h
      · omega
      · have := ih c h; omega
  intro k hk
  have hm : gch l k ∈ l := by
    rw [gch, List.getD_eq_getElem?_getD, List.getElem?_eq_getElem hk]
    exact List.getElem_mem hk
  have h1 := key l _ hm
  have h2 : (gch l k).2.2.1.length ≤ chW (gch l k) := by unfold chW; omega
  have h3 : (gch l k).2.2.2.length ≤ chW (gch l k) := by unfold chW; omega
  exact ⟨by omega, by omega⟩
/-- a slice of strings by its cell -/
theorem cell_strsB {t e : TypeId} {v : Value} {x : DataW H × List MemPlace} {W : World} {fuel : Nat} (ht : P.underlying t = some (.slice e)) (he : P.underlying e = some .string) (hc : P.cellsOf e = 1)
    (hf : DataW.trod enc P W 0 (fun _ => true) true fuel t [v] = some x) : ∃ A n c xs, v = .slice A n c ∧ Reads W W.heap.size 1 A n (Proofs.YtakgddochbcjbaaDoor.strs xs) ∧ n ≤ c ∧ c ≤ maxLen ∧ (bl xs).flatten.length + xs.length ≤ Rows.uptoBulk x.1 := by
  rcases open_strings ht he hc hf with ⟨hcs, _⟩ | ⟨a', len, cap, zs, hcs, _, hlc, hm, hz, hx, hcell, _⟩
  · have e1 : v = .slice none 0 0 := by simpa using hcs
    subst e1
    exact ⟨none, 0, 0, [], rfl, Reads.none_, Nat.zero_le _, Nat.zero_le _, Nat.zero_le _⟩
  · have e1 : v = .slice (some a') len cap := by simpa using hcs
    subst e1
    rw [if_pos rfl] at hz
    refine ⟨_, _, _, zs.take len, rfl, ⟨by simp [Proofs.YtakgddochbcjbaaDoor.strs]; omega, fun h0 => ⟨a', rfl, ?_, fun j u hu => ?_⟩⟩, hlc, hm, ?_⟩
    · exact World.block_lt_of_cell? W _ (hcell 0 (by omega))
    · have hj : j < (zs.take len).length := by
        have := (List.getElem?_eq_some_iff.1 hu).1
        rwa [strs_len] at this
      rw [strs_get hj] at hu
      cases hu
      rw [List.length_take] at hj
      rw [hcell j (by omega)]
      congr 2
      simp [gs, show j < len by omega]
    · have h1 := bulk_strs (H := H) (zs.take len)
      have h3 : x.1 = .slice (ChangeShapes.strs (zs.take len)) (ChangeShapes.strs (zs.drop len)) := congrArg Prod.fst hx
      rw [h3]
      simp only [Rows.uptoBulk]
      omega
theorem open_chunksB {r : Reach} {b0 : Nat} {t e ts es : TypeId} {f0 f1 f2 f3 : Field} {v : Value} {d : DataW H} {ps : List MemPlace} {W : World} (ht : P.underlying t = some (.slice e)) (he : P.underlying e = some (.struct #[f0, f1, f2, f3]))
    (hC : P.cellsOf e = 4) (hk0 : f0.offset = 0 ∧ P.cellsOf f0.type = 1 ∧ P.underlying f0.type = some (.int .i64)) (hk1 : f1.offset = 1 ∧ P.cellsOf f1.type = 1 ∧ f1.type = ts) (hk2 : f2.offset = 2 ∧ P.cellsOf f2.type = 1 ∧ f2.type = ts) (hk3 : f3.offset = 3 ∧ P.cellsOf f3.type = 1 ∧ f3.type = ts)
    (hts : P.underlying ts = some (.slice es)) (hes : P.underlying es = some .string) (hcs1 : P.cellsOf es = 1)
    (hval : Value.okWide P W r b0 t v) (h : DataW.Trod enc P W 0 (fun _ => true) true t v d ps) :
    ∃ A n c l, v = .slice A n c ∧ ChunksN W W.heap.size A n l ∧ n ≤ c ∧ c ≤ maxLen ∧ (l.map chW).sum ≤ Rows.uptoBulk d := by
  obtain ⟨a, n, c, rfl⟩ := okWide_slice ht hval
  obtain ⟨fuel, hf⟩ := h
  rcases open_slice ht hf with ⟨hcs, _⟩ | ⟨a', len, cap, m, nn, D, Pl, hcs, _, hlc, hm, hmm, hx, hi⟩
  · have e1 : Value.slice a n c = .slice none 0 0 := by simpa [Value.cells] using hcs
    cases e1
    exact ⟨none, 0, 0, [], rfl, ChunksN.nil _ _ _, Nat.zero_le _, Nat.zero_le _, Nat.zero_le _⟩
  · have e1 : Value.slice a n c = .slice (some a') len cap := by simpa [Value.cells] using hcs
    cases e1
    have hel : ∀ k, k < n → ∃ ch : ChkB, ChunkAt W W.heap.size (a'.add (k * 4)) ch ∧ chW ch ≤ Rows.uptoBulk (D k) := by
      intro k hk
      obtain ⟨cs', hc', ht'⟩ := hi k (by rw [hmm, if_pos rfl]; omega)
      rw [hC] at hc'
      obtain ⟨_, hcl, hat⟩ := World.cells?_some hc'
      obtain ⟨ys, n', _, hxd, hlen, hyl, hfl⟩ := DataW.trod_struct he ht'
      have g0 := hfl 0 f0 rfl
      have g1 := hfl 1 f1 rfl
      have g2 := hfl 2 f2 rfl
      have g3 := hfl 3 f3 rfl
      rw [hk0.1, hk0.2.1] at g0
      rw [hk1.1, hk1.2.1, hk1.2.2] at g1
      rw [hk2.1, hk2.2.1, hk2.2.2] at g2
      rw [hk3.1, hk3.2.1, hk3.2.2] at g3
      obtain ⟨u0, u1, u2, u3, rfl⟩ : ∃ u0 u1 u2 u3, cs' = [u0, u1, u2, u3] := by
        match cs', hcl with
        | [u0, u1, u2, u3], _ => exact ⟨u0, u1, u2, u3, rfl⟩
      match ys, hyl with
      | [y0, y1, y2, y3], _ =>
        obtain ⟨z, hz, _, _⟩ := DataW.trod_int hk0.2.2 g0
        have hz0 : u0 = .int .i64 z := by simpa using hz
        obtain ⟨A1, m1, c1, x1, rfl, hr1, hc1, hM1, _⟩ := cell_strsB hts hes hcs1 (v := u1) g1
        obtain ⟨A2, m2, c2, x2, rfl, hr2, hc2, hM2, l2⟩ := cell_strsB hts hes hcs1 (v := u2) g2
        obtain ⟨A3, m3, c3, x3, rfl, hr3, hc3, hM3, l3⟩ := cell_strsB hts hes hcs1 (v := u3) g3
        subst hz0
        have h0 := hat 0 (by omega)
        have h1 := hat 1 (by omega)
        have h2 := hat 2 (by omega)
        have h3 := hat 3 (by omega)
        have hd : D k = .agg [y0.1, y1.1, y2.1, y3.1] := by
          have := congrArg Prod.fst hxd
          simpa using this
        refine ⟨(z, x1, x2, x3), ⟨h0, ⟨A1, m1, c1, ?_, hr1, hc1, hM1⟩, ⟨A2, m2, c2, ?_, hr2, hc2, hM2⟩, ⟨A3, m3, c3, ?_, hr3, hc3, hM3⟩⟩, ?_⟩
        · simpa [Addr.add] using h1
        · simpa [Addr.add] using h2
        · simpa [Addr.add] using h3
        · rw [hd]
          simp only [Rows.uptoBulk, Rows.uptoBulkAll]
          have e2 : (bl x2).flatten.length + x2.length ≤ Rows.uptoBulk y2.1 := l2
          have e3 : (bl x3).flatten.length + x3.length ≤ Rows.uptoBulk y3.1 := l3
          unfold chW
          dsimp only
          omega
    have hpick : ∀ k, ∃ ch : ChkB, k < n → ChunkAt W W.heap.size (a'.add (k * 4)) ch ∧ chW ch ≤ Rows.uptoBulk (D k) := by
      intro k
      by_cases hk : k < n
      · obtain ⟨ch, h0⟩ := hel k hk
        exact ⟨ch, fun _ => h0⟩
      · exact ⟨(0, [], [], []), fun h => absurd h hk⟩
    obtain ⟨F, hF⟩ : ∃ F : Nat → ChkB, ∀ k, k < n → ChunkAt W W.heap.size (a'.add (k * 4)) (F k) ∧ chW (F k) ≤ Rows.uptoBulk (D k) := ⟨fun k => Classical.choose (hpick k), fun k => Classical.choose_spec (hpick k)⟩
    refine ⟨_, _, _, (List.range n).map F, rfl, ⟨by simp, fun h0 => ⟨a', rfl, by have := World.block_lt_of_cell? W _ (hF 0 h0).1.1; rwa [block_of_add] at this, fun k hk => ?_⟩⟩, hlc, hm, ?_⟩
    · have hg : gch ((List.range n).map F) k = F k := by simp [gch, hk]
      rw [hg]
      exact (hF k hk).1
    · have hd : d = .slice ((List.range n).map D) ((List.range (m - n)).map fun j => D (n + j)) := congrArg Prod.fst hx
      rw [hd]
      simp only [Rows.uptoBulk]
      have := bulkB_sum F D (List.range n) (fun k hk => (hF k (List.mem_range.1 hk)).2)
      omega
/-- six parameters opened -/
theorem trodAll_six {w : World} {base : Nat} {spare : Nat → Bool} {held : Bool} {t t' t'' t3 t4 t5 : TypeId} {args : Array Value} {ds : List (DataW H)} {ps : List MemPlace} (h : DataW.TrodAll enc P w base spare held [t, t', t'', t3, t4, t5] args.toList ds ps) :
    ∃ v v' v'' v3 v4 v5 d d' d'' d3 d4 d5 p p' p'' p3 p4 p5, args = #[v, v', v'', v3, v4, v5] ∧ ds = [d, d', d'', d3, d4, d5] ∧ ps = p ++ p' ++ p'' ++ p3 ++ p4 ++ p5 ∧ DataW.Trod enc P w base spare held t v d p ∧ DataW.Trod enc P w base spare held t' v' d' p' ∧ DataW.Trod enc P w base spare held t'' v'' d'' p'' ∧ DataW.Trod enc P w base spare held t3 v3 d3 p3 ∧ DataW.Trod enc P w base spare held t4 v4 d4 p4 ∧ DataW.Trod enc P w base spare held t5 v5 d5 p5 := by
  obtain ⟨v, vs, d, ds', p, q, hargs, rfl, rfl, hd, hrest⟩ := trodAll_cons h
  obtain ⟨v', vs', d', ds'', p', q', rfl, rfl, rfl, hd', hrest'⟩ := trodAll_cons hrest
  obtain ⟨v'', vs'', d'', ds''', p'', q'', rfl, rfl, rfl, hd'', hrest''⟩ := trodAll_cons hrest'
  obtain ⟨v3, vs3, d3, ds3, p3, q3, rfl, rfl, rfl, hd3, hrest3⟩ := trodAll_cons hrest''
  obtain ⟨v4, vs4, d4, ds4, p4, q4, rfl, rfl, rfl, hd4, hrest4⟩ := trodAll_cons hrest3
  obtain ⟨v5, vs5, d5, ds5, p5, q5, rfl, rfl, rfl, hd5, hrest5⟩ := trodAll_cons hrest4
  obtain ⟨rfl, rfl, rfl⟩ := trodAll_nil hrest5
  refine ⟨v, v', v'', v3, v4, v5, d, d', d'', d3, d4, d5, p, p', p'', p3, p4, p5, ?_, rfl, by simp, hd, hd', hd'', hd3, hd4, hd5⟩
  exact Array.toList_inj.1 hargs
end
end Go.Proofs.YtakgddochbcjbaaDoor
