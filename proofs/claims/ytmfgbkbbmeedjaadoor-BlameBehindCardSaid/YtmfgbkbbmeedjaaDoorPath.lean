/- Names of files: Parts, Right, Within, Clash of the program's package path. -/
import Derived.Test.YtmfgbkbbmeedjaaDoorSplSpec
import Derived.Test.YtmfgbkbbmeedjaaDoorShelf
import Derived.Laws.IdiomStrings
namespace Go.Proofs.YtmfgbkbbmeedjaaDoor
open Go.RowKit Go.Deep Go.MapKept

/-- the cells of a list of bytes -/
def byteV (l : List UInt8) : List Value := l.map fun b => .int .u8 b.toNat
/-- a byte that may not stand in a name -/
def badB (b : UInt8) : Bool := decide (b.toNat < 33) || decide (126 < b.toNat)
/-- a part that may not stand in a name -/
def badS (s : ByteArray) : Bool := s == ⟨#[]⟩ || (s == ⟨#[46]⟩ || s == ⟨#[46, 46]⟩)
/-- is a name right? -/
def rightP (p : ByteArray) : Bool := decide (1 ≤ p.size ∧ p.size ≤ 100) && (!p.data.toList.any badB && !(pieces 47 0 p).any badS)
/-- a text, behind a name that the walk does not open -/
def dirT (d : ByteArray) : ByteArray := d ++ ⟨#[47]⟩
def withinP (p d : ByteArray) : Bool := Lib.hasPrefix p.data.toList (dirT d).data.toList
def clashP (a b : ByteArray) : Bool := a == b || (withinP a b || withinP b a)

set_option maxHeartbeats 400000 in
theorem badB_any (b : UInt8) (w : World) : Calls Tryd.prog 41 #[.int .u8 b.toNat] w fun e w' => e = .returned (.bool (badB b)) ∧ w = w' := by
  obtain ⟨n, hn⟩ : ∃ n : Nat, b.toNat = n := ⟨_, rfl⟩
  have hl : n < 256 := by rw [← hn]; exact b.toNat_lt
  have hf := Lib.hid (show badB b = (decide (n < 33) || decide (126 < n)) by rw [badB, hn])
  rw [hn]
  clear hn
  by_cases h1 : n < 33
  · have k1 : (n : Int) < 33 := by omega
    go_enter Tryd.func41, Tryd.ntmps41
    go_wp2
    go_ret
    exact ⟨ret_bool (by rw [hf.out]; simp [h1]), rfl⟩
  · have k1 : ¬ ((n : Int) < 33) := by omega
    by_cases h2 : 126 < n
    · have k2 : (n : Int) > 126 := by omega
      go_enter Tryd.func41, Tryd.ntmps41
      go_wp2
      go_ret
      exact ⟨ret_bool (by rw [hf.out]; simp [h1, h2]), rfl⟩
    · have k2 : ¬ ((n : Int) > 126) := by omega
      go_enter Tryd.func41, Tryd.ntmps41
      go_wp2
      go_ret
      exact ⟨ret_bool (by rw [hf.out]; simp [h1, h2]), rfl⟩

theorem badS_list (s : ByteArray) : badS s = (s.toList.isEmpty || s.toList == [46] || s.toList == [46, 46]) := by
  have e0 : (ByteArray.mk #[]).toList = [] := by decide +kernel
  have e1 : (ByteArray.mk #[46]).toList = [46] := by decide +kernel
  have e2 : (ByteArray.mk #[46, 46]).toList = [46, 46] := by decide +kernel
  rw [badS, beq_toListBytes, beq_toListBytes, beq_toListBytes, e0, e1, e2, Bool.or_assoc]
  generalize s.toList = l
  cases l <;> rfl
set_option maxHeartbeats 400000 in
theorem badS_any (s : ByteArray) (w : World) : Calls Tryd.prog 43 #[.string s] w fun e w' => e = .returned (.bool (badS s)) ∧ w = w' := by
  have hf := Lib.hid (badS_list s)
  go_enter Tryd.func43, Tryd.ntmps43
  go_wp2
  all_goals go_ret
  all_goals exact ⟨ret_bool (by simp_all [hf.out]), rfl⟩

theorem within_any (p d : ByteArray) (w : World) (hd : d.size < 9223372036854775807) : Calls Tryd.prog 20 #[.string p, .string d] w fun e w' => e = .returned (.bool (withinP p d)) ∧ w = w' := by
  go_enter Tryd.func20, Tryd.ntmps20
  go_wp2_with fail
  refine (Tryd.strings_HasPrefix p (dirT d) w).mono ?_
  rintro e w' ⟨rfl, rfl⟩
  go_wp2_with fail
  go_ret
  exact ⟨rfl, rfl⟩

theorem clash_any (a b : ByteArray) (w : World) (ha : a.size < 9223372036854775807) (hb : b.size < 9223372036854775807) : Calls Tryd.prog 22 #[.string a, .string b] w fun e w' => e = .returned (.bool (clashP a b)) ∧ w = w' := by
  cases h1 : (a == b) with
  | true =>
    have hf := Lib.hid (show clashP a b = true by rw [clashP, h1]; rfl)
    rw [beq_toListBytes] at h1
    go_enter Tryd.func22, Tryd.ntmps22
    go_wp2_with fail
    go_ret
    exact ⟨ret_bool hf.out.symm, rfl⟩
  | false =>
    cases h2 : withinP a b with
    | true =>
      have hf := Lib.hid (show clashP a b = true by rw [clashP, h1, h2]; rfl)
      rw [beq_toListBytes] at h1
      go_enter Tryd.func22, Tryd.ntmps22
      go_wp2_with fail
      refine (within_any a b w hb).mono ?_
      rintro e w' ⟨rfl, rfl⟩
      rw [h2]
      go_wp2_with fail
      go_ret
      exact ⟨ret_bool hf.out.symm, rfl⟩
    | false =>
      have hf := Lib.hid (show clashP a b = withinP b a by rw [clashP, h1, h2]; rfl)
      rw [beq_toListBytes] at h1
      go_enter Tryd.func22, Tryd.ntmps22
      go_wp2_with fail
      refine (within_any a b w hb).mono ?_
      rintro e w' ⟨rfl, rfl⟩
      rw [h2]
      go_wp2_with fail
      refine (within_any b a w ha).mono ?_
      rintro e w' ⟨rfl, rfl⟩
      go_wp2_with fail
      go_ret
      exact ⟨ret_bool hf.out.symm, rfl⟩

/-- what IndexFunc tells: is there one that is bad? -/
def IdxBad (b : Bool) (r : Int) : Prop := (b = false → r = -1) ∧ (b = true → 0 ≤ r)
/-- element k of a list of bytes, behind a name that the walk does not open -/
def gby (l : List UInt8) (k : Nat) : UInt8 := l.getD k 0
theorem gby_some {l : List UInt8} {k : Nat} (h : k < l.length) : l[k]? = some (gby l k) := by simp [gby, h]
theorem any_take {α : Type} {l : List α} {k : Nat} {x : α} (f : α → Bool) (h : l[k]? = some x) : (l.take (k + 1)).any f = ((l.take k).any f || f x) := by
  obtain ⟨hk, e⟩ := List.getElem?_eq_some_iff.1 h
  rw [List.take_succ_eq_append_getElem hk, List.any_append, e]
  simp
theorem any_of {α : Type} {l : List α} {k : Nat} {x : α} (f : α → Bool) (h : l[k]? = some x) (hf : f x = true) : l.any f = true := by
  rw [List.any_eq_true]
  exact ⟨x, List.mem_of_getElem? h, hf⟩
theorem Reads.byteAt {w : World} {B n k : Nat} {A : Option Addr} {l : List UInt8} (h : Reads w B 1 A n (byteV l)) (hk : k < n) : ∃ ad, A = some ad ∧ ad.block < B ∧ w.cell? (ad.add k) = some (.int .u8 (gby l k).toNat) := by
  obtain ⟨ad, u, e, hb, hx, hc⟩ := h.at_ hk
  have hl : k < l.length := by have := h.1; simp [byteV] at this; omega
  refine ⟨ad, e, hb, hc.trans ?_⟩
  simp only [byteV, List.getElem?_map, gby_some hl, Option.map_some, Option.some.injEq] at hx
  rw [← hx]
theorem Reads.byteLen {w : World} {B n : Nat} {A : Option Addr} {l : List UInt8} (h : Reads w B 1 A n (byteV l)) : l.length = n := by have := h.1; simpa [byteV] using this

set_option maxHeartbeats 1000000 in
theorem indexB_any (B : Nat) (A : Option Addr) (n c : Nat) (l : List UInt8) (w : World) (hx : Reads w B 1 A n (byteV l)) (hn : n ≤ 1000000000000) :
    Calls Tryd.prog 56 #[.slice A n c, .func (.func 41) #[] #[]] w fun e w' => (∃ r : Int, e = .returned (.int .i64 r) ∧ IdxBad (l.any badB) r) ∧ w = w' := by
  have HL := Lib.hid hx.byteLen
  have HX := Lib.hid hx; clear hx
  go_enter Tryd.func56, Tryd.ntmps56
  go_wp2
  go_loopg [8] n (fun gk q wr => w = wr ∧ ∃ k : Nat, q = .int .i64 k ∧ k ≤ n ∧ gk = n - k ∧ (l.take k).any badB = false)
  case atStart => exact ⟨rfl, 0, rfl, by omega, rfl, rfl⟩
  case round =>
    obtain ⟨rfl, k, rfl, hk, hgk, hno⟩ := hrel
    have HG := Lib.hid hgk; clear hgk
    have HN := Lib.hid hno; clear hno
    by_cases hlt : k < n
    · obtain ⟨ad, rfl, had, p0⟩ := HX.out.byteAt hlt
      have hs := Lib.hid (gby_some (l := l) (k := k) (by rw [HL.out]; exact hlt))
      have hct := Lib.hid (any_take badB hs.out)
      have k0 : (0 : Int) ≤ k := by omega
      have k1 : (k : Int) < n := by omega
      cases he : badB (gby l k) with
      | true =>
        have hf := Lib.hid (show l.any badB = true from any_of badB hs.out he)
        go_wp2_with fail
        refine (badB_any (gby l k) w).mono ?_
        rintro e w5 ⟨rfl, rfl⟩
        rw [he]
        go_wp2_with fail
        go_ret
        exact ⟨⟨k, rfl, ⟨fun h => (by rw [hf.out] at h; cases h), fun _ => by omega⟩⟩, rfl⟩
      | false =>
        have hf := Lib.hid (show (l.take (k + 1)).any badB = false by rw [hct.out, HN.out, he]; rfl)
        go_wp2_with fail
        refine (badB_any (gby l k) w).mono ?_
        rintro e w5 ⟨rfl, rfl⟩
        rw [he]
        go_wp2_with fail
        go_roundg (n - (k + 1))
        case measure => rw [HG.out]; omega
        case rel => exact ⟨rfl, k + 1, by go_num, by omega, rfl, hf.out⟩
    · have hf := Lib.hid (show l.any badB = false by
        have := HN.out
        rw [List.take_of_length_le (by rw [HL.out]; omega)] at this
        exact this)
      have k1 : ¬ ((k : Int) < n) := by omega
      go_wp2
      go_ret
      exact ⟨⟨-1, rfl, ⟨fun _ => rfl, fun h => (by rw [hf.out] at h; cases h)⟩⟩, rfl⟩

theorem gs_some {xs : List ByteArray} {k : Nat} (h : k < xs.length) : xs[k]? = some (gs xs k) := by simp [gs, h]
set_option maxHeartbeats 1000000 in
theorem indexS_any (B : Nat) (A : Option Addr) (n c : Nat) (l : List ByteArray) (w : World) (hx : Reads w B 1 A n (strs l)) (hn : n ≤ 1000000000000) :
    Calls Tryd.prog 57 #[.slice A n c, .func (.func 43) #[] #[]] w fun e w' => (∃ r : Int, e = .returned (.int .i64 r) ∧ IdxBad (l.any badS) r) ∧ w = w' := by
  have HL := Lib.hid hx.strLen
  have HX := Lib.hid hx; clear hx
  go_enter Tryd.func57, Tryd.ntmps57
  go_wp2
  go_loopg [8] n (fun gk q wr => w = wr ∧ ∃ k : Nat, q = .int .i64 k ∧ k ≤ n ∧ gk = n - k ∧ (l.take k).any badS = false)
  case atStart => exact ⟨rfl, 0, rfl, by omega, rfl, rfl⟩
  case round =>
    obtain ⟨rfl, k, rfl, hk, hgk, hno⟩ := hrel
    have HG := Lib.hid hgk; clear hgk
    have HN := Lib.hid hno; clear hno
    by_cases hlt : k < n
    · obtain ⟨ad, rfl, had, p0⟩ := HX.out.str hlt
      have hs := Lib.hid (gs_some (xs := l) (k := k) (by rw [HL.out]; exact hlt))
      have hct := Lib.hid (any_take badS hs.out)
      have k0 : (0 : Int) ≤ k := by omega
      have k1 : (k : Int) < n := by omega
      cases he : badS (gs l k) with
      | true =>
        have hf := Lib.hid (show l.any badS = true from any_of badS hs.out he)
        go_wp2_with fail
        refine (badS_any (gs l k) w).mono ?_
        rintro e w5 ⟨rfl, rfl⟩
        rw [he]
        go_wp2_with fail
        go_ret
        exact ⟨⟨k, rfl, ⟨fun h => (by rw [hf.out] at h; cases h), fun _ => by omega⟩⟩, rfl⟩
      | false =>
        have hf := Lib.hid (show (l.take (k + 1)).any badS = false by rw [hct.out, HN.out, he]; rfl)
        go_wp2_with fail
        refine (badS_any (gs l k) w).mono ?_
        rintro e w5 ⟨rfl, rfl⟩
        rw [he]
        go_wp2_with fail
        go_roundg (n - (k + 1))
        case measure => rw [HG.out]; omega
        case rel => exact ⟨rfl, k + 1, by go_num, by omega, rfl, hf.out⟩
    · have hf := Lib.hid (show l.any badS = false by
        have := HN.out
        rw [List.take_of_length_le (by rw [HL.out]; omega)] at this
        exact this)
      have k1 : ¬ ((k : Int) < n) := by omega
      go_wp2
      go_ret
      exact ⟨⟨-1, rfl, ⟨fun _ => rfl, fun h => (by rw [hf.out] at h; cases h)⟩⟩, rfl⟩

theorem containsB_any (B : Nat) (A : Option Addr) (n c : Nat) (l : List UInt8) (w : World) (hx : Reads w B 1 A n (byteV l)) (hn : n ≤ 1000000000000) :
    Calls Tryd.prog 40 #[.slice A n c, .func (.func 41) #[] #[]] w fun e w' => e = .returned (.bool (l.any badB)) ∧ w = w' := by
  have HX := Lib.hid hx; clear hx
  go_enter Tryd.func40, Tryd.ntmps40
  go_wp2_with fail
  refine (indexB_any B A n c l w HX.out hn).mono ?_
  rintro e w1 ⟨⟨r, rfl, hr⟩, rfl⟩
  obtain ⟨b, hb⟩ : ∃ b, l.any badB = b := ⟨_, rfl⟩
  rw [hb] at hr
  have HB := Lib.hid hb
  clear hb
  cases b with
  | true =>
    have hr0 : (0 : Int) ≤ r := hr.2 rfl
    clear hr
    go_wp2_with fail
    go_ret
    exact ⟨ret_bool HB.out.symm, rfl⟩
  | false =>
    have hr1 := hr.1 rfl
    subst hr1
    clear hr
    go_wp2_with fail
    go_ret
    exact ⟨ret_bool HB.out.symm, rfl⟩
theorem containsS_any (B : Nat) (A : Option Addr) (n c : Nat) (l : List ByteArray) (w : World) (hx : Reads w B 1 A n (strs l)) (hn : n ≤ 1000000000000) :
    Calls Tryd.prog 42 #[.slice A n c, .func (.func 43) #[] #[]] w fun e w' => e = .returned (.bool (l.any badS)) ∧ w = w' := by
  have HX := Lib.hid hx; clear hx
  go_enter Tryd.func42, Tryd.ntmps42
  go_wp2_with fail
  refine (indexS_any B A n c l w HX.out hn).mono ?_
  rintro e w1 ⟨⟨r, rfl, hr⟩, rfl⟩
  obtain ⟨b, hb⟩ : ∃ b, l.any badS = b := ⟨_, rfl⟩
  rw [hb] at hr
  have HB := Lib.hid hb
  clear hb
  cases b with
  | true =>
    have hr0 : (0 : Int) ≤ r := hr.2 rfl
    clear hr
    go_wp2_with fail
    go_ret
    exact ⟨ret_bool HB.out.symm, rfl⟩
  | false =>
    have hr1 := hr.1 rfl
    subst hr1
    clear hr
    go_wp2_with fail
    go_ret
    exact ⟨ret_bool HB.out.symm, rfl⟩
end Go.Proofs.YtmfgbkbbmeedjaaDoor
