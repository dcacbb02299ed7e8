/- slices.Equal at strings. -/
import Derived.Test.YtakgddochbcjbaaDoorStrs
import Derived.Test.YtakgddochbcjbaaDoorQuietTail
namespace Go.Proofs.YtakgddochbcjbaaDoor
open Go.RowKit Go.Deep Go.MapKept

set_option maxRecDepth 100000 in
set_option maxHeartbeats 1000000 in
theorem equal_any (B B' : Nat) (A A' : Option Addr) (n n' c c' : Nat) (xs ys : List ByteArray) (w : World) (hx : Reads w B 1 A n (strs xs)) (hy : Reads w B' 1 A' n' (strs ys)) (hn : n ≤ 1000000000000) :
    Calls Tryd.prog 138 #[.slice A n c, .slice A' n' c'] w fun e w' => e = .returned (.bool (eqS xs ys)) ∧ ∃ m, w' = w.drewN m := by
  have HLx := Lib.hid hx.strLen
  have HLy := Lib.hid hy.strLen
  have HX := Lib.hid hx; clear hx
  have HY := Lib.hid hy; clear hy
  by_cases hnn : n = n'
  · subst hnn
    go_enter Tryd.func138, Tryd.ntmps138
    go_wp2
    go_loopg [13] n (fun gk q wr => (∃ m, wr = w.drewN m) ∧ ∃ k : Nat, q = .int .i64 k ∧ k ≤ n ∧ gk = n - k ∧ xs.take k = ys.take k)
    case atStart => exact ⟨⟨0, rfl⟩, 0, rfl, by omega, rfl, rfl⟩
    case round =>
      obtain ⟨⟨m, rfl⟩, k, rfl, hk, hgk, hno⟩ := hrel
      have HG := Lib.hid hgk; clear hgk
      have HN := Lib.hid hno; clear hno
      by_cases hlt : k < n
      · obtain ⟨ad, rfl, had, hc⟩ := HX.out.str hlt
        obtain ⟨ad', rfl, had', hc'⟩ := HY.out.str hlt
        have hct := Lib.hid (take_eq_succS HLx.out HLy.out hlt)
        have k0 : (0 : Int) ≤ k := by omega
        have k1 : (k : Int) < n := by omega
        cases he : ((gs xs k).toList == (gs ys k).toList) with
        | true =>
          have he2 := he
          rw [← beq_toListBytes, bytes_beq] at he2
          have hf := Lib.hid (show xs.take (k + 1) = ys.take (k + 1) from hct.out.2 ⟨HN.out, he2⟩)
          have hb : ((gs xs k).toList != (gs ys k).toList) = false := by unfold bne; rw [he]; rfl
          clear he2
          go_wp2
          go_quiet (fail)
          go_wp2
          go_roundg (n - (k + 1))
          case measure => rw [HG.out]; omega
          case rel => exact ⟨⟨_, rfl⟩, k + 1, by go_num, by omega, rfl, hf.out⟩
        | false =>
          have hf := Lib.hid (show eqS xs ys = false by
            rw [eqS, decide_eq_false_iff_not]
            rintro rfl
            simp at he)
          have hb : ((gs xs k).toList != (gs ys k).toList) = true := by unfold bne; rw [he]; rfl
          go_wp2
          go_quiet (fail)
          go_wp2
          go_ret
          exact ⟨ret_bool hf.out.symm, m + nq, by rw [World.drewN_drewN]⟩
      · have hf := Lib.hid (show xs = ys by
          have := HN.out
          rw [List.take_of_length_le (by rw [HLx.out]; omega), List.take_of_length_le (by rw [HLy.out]; omega)] at this
          exact this)
        go_wp2
        go_ret
        exact ⟨ret_bool (by rw [hf.out, eqS_self]), m, rfl⟩
  · have hf := Lib.hid (show eqS xs ys = false by
      rw [eqS, decide_eq_false_iff_not]
      rintro rfl
      exact hnn (HLx.out.symm.trans HLy.out))
    have hne : ((n : Int) != (n' : Int)) = true := by simp; omega
    go_enter Tryd.func138, Tryd.ntmps138
    go_wp2
    go_ret
    exact ⟨ret_bool hf.out.symm, 0, rfl⟩
end Go.Proofs.YtakgddochbcjbaaDoor
