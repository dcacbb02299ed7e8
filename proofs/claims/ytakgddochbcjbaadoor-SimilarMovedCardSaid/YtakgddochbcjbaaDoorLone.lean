/- similar.lone: the places of files that another tree has not, with a text. -/
import Derived.Test.YtakgddochbcjbaaDoorFiles
import Derived.Test.YtakgddochbcjbaaDoorEdits
namespace Go.Proofs.YtakgddochbcjbaaDoor
open Go.RowKit Go.Deep Go.MapKept

def isLone (l other : List FileB) (k : Nat) : Bool := !hasF other (fp l k) && !eqT (ft l k) ByteArray.empty
def loneTo (l other : List FileB) : Nat → List Int
  | 0 => []
  | k + 1 => if isLone l other k = true then loneTo l other k ++ [(k : Int)] else loneTo l other k
theorem loneTo_yes {l other : List FileB} {k : Nat} (h : isLone l other k = true) : loneTo l other (k + 1) = loneTo l other k ++ [(k : Int)] := if_pos h
theorem loneTo_no {l other : List FileB} {k : Nat} (h : isLone l other k = false) : loneTo l other (k + 1) = loneTo l other k := if_neg (by rw [h]; simp)
def loneL (l other : List FileB) : List Int := loneTo l other l.length
theorem loneTo_len (l other : List FileB) : ∀ k, (loneTo l other k).length ≤ k
  | 0 => Nat.le_refl _
  | k + 1 => by
    have := loneTo_len l other k
    cases h : isLone l other k with
    | true => rw [loneTo_yes h, List.length_append]; simpa using this
    | false => rw [loneTo_no h]; omega
theorem eqT_none (a : ByteArray) : a.toList.isEmpty = eqT a ByteArray.empty := by
  rw [← eqT_list, show ByteArray.empty.toList = [] by rw [ByteArray.toList_eq]; rfl]
  cases a.toList <;> rfl
set_option maxRecDepth 100000 in
set_option maxHeartbeats 1000000 in
theorem lone_any (B : Nat) (A A' : Option Addr) (n n' c c' : Nat) (l m : List FileB) (w : World) (h : Reads w B 3 A n (fileCells l)) (h' : Reads w B 3 A' n' (fileCells m)) (hB : B ≤ w.heap.size) (hn : n ≤ 1000000) (hn' : n' ≤ 1000000) :
    Calls Tryd.prog 61 #[.slice A n c, .slice A' n' c'] w fun e w' => ∃ v, e = .returned v ∧ w'.ownsRow w.heap.size 3 1 v (loneL l m).length (ints (loneL l m)) ∧ Grows w w' := by
  have HL := Lib.hid h.fileLen
  have HX := Lib.hid h; clear h
  have HY := Lib.hid h'; clear h'
  obtain ⟨t0, hi0, hz0, hz1, hz2⟩ := info_parts Tryd.infoInt
  go_enter Tryd.func61, Tryd.ntmps61
  go_wp2_with fail
  go_loopg [12, 5] n (fun gk q v wr => ∃ k : Nat, q = .int .i64 k ∧ k ≤ n ∧ gk = n - k ∧ wr.ownsRow w.heap.size 3 1 v (loneTo l m k).length (ints (loneTo l m k)) ∧ Grows w wr)
  case atStart => exact ⟨0, rfl, by omega, rfl, World.ownsRow_nil _ _ _ _, Grows.refl _⟩
  case round =>
    obtain ⟨k, rfl, hk, hgk, hown, hgr⟩ := hrel
    have HG := Lib.hid hgk; clear hgk
    have hsz := hgr.size
    have hlen := loneTo_len l m k
    by_cases hlt : k < n
    · obtain ⟨ad, rfl, had, p0, p1, p2⟩ := (HX.out.grows hB hgr).file hlt
      have k0 : (0 : Int) ≤ k := by omega
      have k1 : (k : Int) < n := by omega
      have hne : ad.block ≠ wr.heap.size := by omega
      obtain ⟨wq, hwq⟩ : ∃ wq, wq = wr.alloc (.cells #[.string (fp l k), .bool (fx l k), .string (ft l k)] 57) := ⟨_, rfl⟩
      have hgq : Grows wr wq := by rw [hwq]; exact (Grows.refl wr).alloc _
      have hbq : Blk wq wr.heap.size 57 #[.string (fp l k), .bool (fx l k), .string (ft l k)] := by rw [hwq]; exact Blk.new _ _ _
      have hownq := hown.alloc (.cells #[.string (fp l k), .bool (fx l k), .string (ft l k)] 57)
      rw [← hwq] at hownq
      have HA := findF_any B A' n' c' m (fp l k) wq (HY.out.grows hB (hgr.trans hgq)) (Nat.le_trans hB (hgr.trans hgq).size) (by omega)
      obtain ⟨R, hR⟩ : ∃ R, R = wr.heap.size := ⟨_, rfl⟩
      have HRR := Lib.hid hR
      have HWQ := Lib.hid hwq
      have hyes := Lib.hid (fun hl => loneTo_yes (l := l) (other := m) (k := k) hl)
      have hno := Lib.hid (fun hl => loneTo_no (l := l) (other := m) (k := k) hl)
      have HIS := Lib.hid (show isLone l m k = (!hasF m (fp l k) && !eqT (ft l k) ByteArray.empty) from rfl)
      have het2 := eqT_none (ft l k)
      rw [← hR] at hbq
      clear hR hwq
      go_wp2_with fail
      rw [← HRR.out, ← HWQ.out]
      refine HA.mono ?_
      rintro e w2 ⟨⟨ra, rx, rt, rfl⟩, hg2⟩
      have hgr2 := hgr.trans (hgq.trans hg2)
      have hb2 := (Blk.growsF hbq hg2).alloc (.cells #[.string ra, .bool rx, .string rt] 57)
      have hown2 := (own_grows hownq hg2).alloc (.cells #[.string ra, .bool rx, .string rt] 57)
      have hgr3 := hgr2.alloc (.cells #[.string ra, .bool rx, .string rt] 57)
      have hcc := hb2.cell 2
      have hz2' := hgr2.size
      have hz3 : (w2.alloc (.cells #[.string ra, .bool rx, .string rt] 57)).heap.size = w2.heap.size + 1 := by simp
      have hz4 : w.heap.size ≤ ((w2.alloc (.cells #[.string ra, .bool rx, .string rt] 57)).alloc (.cells #[.int .i64 (k : Int)] 3)).heap.size := by simp; omega
      simp only [List.getElem?_toArray, List.getElem?_cons_succ, List.getElem?_cons_zero] at hcc
      cases hh : hasF m (fp l k) with
      | true =>
        rw [hh] at HIS
        have hv := Lib.hid (hno.out (by rw [HIS.out]; rfl))
        clear hh
        go_wp2_with fail
        go_roundg (n - (k + 1))
        case measure => rw [HG.out]; omega
        case rel => exact ⟨k + 1, by go_num, by omega, rfl, by rw [hv.out]; exact hown2, hgr3⟩
      | false =>
        rw [hh] at HIS
        clear hh
        cases hee : eqT (ft l k) ByteArray.empty with
        | true =>
          rw [hee] at HIS het2
          have hv := Lib.hid (hno.out (by rw [HIS.out]; rfl))
          clear hee
          go_wp2_with fail
          go_roundg (n - (k + 1))
          case measure => rw [HG.out]; omega
          case rel => exact ⟨k + 1, by go_num, by omega, rfl, by rw [hv.out]; exact hown2, hgr3⟩
        | false =>
          rw [hee] at HIS het2
          have hv := Lib.hid (hyes.out (by rw [HIS.out]; rfl))
          clear hee
          go_wp2_with (at_builtin; refine wpList_push rfl (.tmp 31) (.tmp 33) _ rfl (w.heap.size) 3 t0 _ 1 8 Tryd.underlying27 hi0 hz0 hz1 hz2 rfl (by decide) _ _ _ rfl ((hown2).alloc _) ⟨(w2.heap.size + 1), 0, none⟩ 1 1 [.int .i64 ((k : Int))] rfl rfl (cell_one_at (by simp)) (by intro u hu; simp at hu; subst hu; rfl) (by simp only [maxLen]; omega) (by omega) (by simp; omega) ?_; intro v' w1 hown1 hb1; have hgr4 : Grows w w1 := Below.trans (hgr3.alloc _) hb1)
          go_roundg (n - (k + 1))
          case measure => rw [HG.out]; omega
          case rel => exact ⟨k + 1, by go_num, by omega, rfl, by rw [hv.out, ints_append, ints_one, List.length_append]; exact hown1, hgr4⟩
    · have hkn : k = n := by omega
      subst hkn
      have k1 : ¬ ((k : Int) < k) := by omega
      have hf := Lib.hid (show loneL l m = loneTo l m k by rw [loneL, HL.out])
      go_wp2_with fail
      go_ret
      exact ⟨_, rfl, by rw [hf.out]; exact hown, hgr⟩
end Go.Proofs.YtakgddochbcjbaaDoor
