/- chunk.Of's closure: where a line stands in both sides; what kind a piece is of. -/
import Derived.Test.YtakgddochbcjbaaDoorKept
import Derived.Laws.ResultCell
namespace Go.Proofs.YtakgddochbcjbaaDoor
open Go.RowKit Go.Deep Go.MapKept

set_option maxRecDepth 100000 in
set_option maxHeartbeats 1000000 in
theorem stands_any (ga gb ma mb n : Nat) (fa fb : Int → Option Int) (i : Int) (w : World) (ha : Blk w ga 112 #[.map (some ma)]) (hb : Blk w gb 112 #[.map (some mb)]) (hA : MapI w ma n fa) (hB : MapI w mb n fb) (hi : ok64 i)
    (x y : Int) (p q : Bool) (hx : (fa i).getD 0 = x) (hy : (fb i).getD 0 = y) (hp : (fa i).isSome = p) (hq : (fb i).isSome = q) :
    Calls Tryd.prog 78 #[.int .i64 i, .pointer (some ⟨ga, 0, none⟩), .pointer (some ⟨gb, 0, none⟩)] w fun e w' => e = .returned (.tuple #[.agg #[.int .i64 x, .int .i64 y], .bool (p && q)]) ∧ Grows w w' := by
  have hg : Grows w (w.alloc (.cells #[.int .i64 0, .int .i64 0] 116)) := (Grows.refl w).alloc _
  have ha1 : (w.alloc (.cells #[.int .i64 0, .int .i64 0] 116)).cell? ⟨ga, 0, none⟩ = some (.map (some ma)) := (ha.alloc _).cell 0
  have hb1 : (w.alloc (.cells #[.int .i64 0, .int .i64 0] 116)).cell? ⟨gb, 0, none⟩ = some (.map (some mb)) := (hb.alloc _).cell 0
  have hA1 := hA.grows hg
  have hB1 := hB.grows hg
  have HX := Lib.hid hx
  have HY := Lib.hid hy
  have HP := Lib.hid hp
  have HQ := Lib.hid hq
  clear hx hy hp hq ha hb hA hB
  cases p with
  | false =>
    go_enter Tryd.func78, Tryd.ntmps78
    go_wp2_with (first | (at_lookup; refine wpList_lookI rfl _ _ rfl ma n fa rfl hA1 _ rfl hi x false HX.out HP.out ?_) | (at_lookup; refine wpList_lookI rfl _ _ rfl mb n fb rfl hB1 _ rfl hi y q HY.out HQ.out ?_))
    (try simp only [Exit.inBlock, Exit.then])
    refine bodyPost_ret (v := .tuple #[.agg #[.int .i64 x, .int .i64 y], .bool (false)]) ?_ rfl ⟨rfl, (Grows.refl w).alloc _⟩
    rw [results_cell_tmp rfl]
    go_simp
  | true =>
    go_enter Tryd.func78, Tryd.ntmps78
    go_wp2_with (first | (at_lookup; refine wpList_lookI rfl _ _ rfl ma n fa rfl hA1 _ rfl hi x true HX.out HP.out ?_) | (at_lookup; refine wpList_lookI rfl _ _ rfl mb n fb rfl hB1 _ rfl hi y q HY.out HQ.out ?_))
    (try simp only [Exit.inBlock, Exit.then])
    refine bodyPost_ret (v := .tuple #[.agg #[.int .i64 x, .int .i64 y], .bool (q)]) ?_ rfl ⟨rfl, (Grows.refl w).alloc _⟩
    rw [results_cell_tmp rfl]
    go_simp

end Go.Proofs.YtakgddochbcjbaaDoor
