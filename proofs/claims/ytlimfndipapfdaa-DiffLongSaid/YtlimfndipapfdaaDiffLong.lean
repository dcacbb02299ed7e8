/- DiffLong: of lists that are too long. -/
import Derived.Test.YtlimfndipapfdaaDiffTells
namespace Go.Proofs.Ytlimfndipapfdaa
open Go.RowKit Go.Deep Go.MapKept

theorem mod_u64 (x : Int) (m : Nat) (h0 : 0 < m) (h1 : m ≤ 1000000000000) : ∃ k : Nat, k < m ∧ wrap64 ((IntKind.u64.wrap x).tmod (m : Int)) = k := by
  rw [IntKind.wrap_u64]
  have h := Int.emod_nonneg x (b := 18446744073709551616) (by omega)
  rw [Int.tmod_eq_emod_of_nonneg h]
  generalize x % 18446744073709551616 = y at h
  have h2 := Int.emod_nonneg y (b := (m : Int)) (by omega)
  have h3 := Int.emod_lt_of_pos y (b := (m : Int)) (by omega)
  generalize y % (m : Int) = z at h2 h3
  exact ⟨z.toNat, by omega, by unfold wrap64; omega⟩

/-- append onto a row of the call's own: what else there is stays, and which block the row has then -/
theorem wpList_pushH {P : Program} {w : World} {ops : Array Oper} {rest : List Oper} {o : Oper} {a : Act} {Q : Exit → Act → World → Prop} (hgd : o.guard = none) (s x : Operand) (t : TypeId)
    (ho : o.op = .call { callee := .builtin .append, args := #[s, x], argTypes := #[t, t] })
    (base : Nat) (e : TypeId) (i : TypeInfo) (z : Value) (size bytes : Nat) (ht : P.underlying t = some (.slice e)) (hi : P.info? e = some i) (hz : i.zero = some z)
    (hsize : i.size = size) (hby : i.bytes = bytes) (hzs : z.cells.size = size) (hsz : 0 < size)
    (v : Value) (n : Nat) (xs : List Value) (hs : a.eval s = v) (hown : w.ownsRow base e size v n xs)
    (ad : Addr) (m c : Nat) (news : List Value) (hx : a.eval x = .slice (some ad) m c) (hl : news.length = m * size) (hnews : ∀ j u, news[j]? = some u → w.cell? (ad.add j) = some u) (h1 : ∀ u ∈ news, u.oneCell' = true)
    (h63 : n + m ≤ maxLen) (hbytes : (n + m) * bytes ≤ 140737488355328) (hbase : base ≤ w.heap.size)
    (h : ∀ v' w', w'.ownsRow base e size v' (n + m) (xs ++ news) → Below base w w' → w.grownBy w' v.ownBlock → (v'.ownBlock = v.ownBlock ∨ v'.ownBlock = some w.heap.size) → wpList P ops Q rest (a.put o.dst v') w') : wpList P ops Q (o :: rest) a w :=
  wpList_append_any _ hgd s x t ho base e i z size bytes ht hi hz hsize hby hzs hsz v n xs hs hown (ad.block + 1) _ m c news hx ⟨hl, fun _ => ⟨ad, rfl, Nat.lt_succ_self _, hnews⟩⟩ h1 h63 hbytes hbase fun v' w' h2 h3 h4 =>
    h v' w' h2 ((Below.refl _ _).grown h3 hbase fun k hk => (hown.lt k hk).1) h3 h4

/-- two rows that share no block -/
def Apart (u v : Value) : Prop := ∀ g, u.ownBlock = some g → v.ownBlock ≠ some g
theorem Apart.symm {u v : Value} (h : Apart u v) : Apart v u := fun g h1 h2 => h g h2 h1
theorem Apart.nil (u : Value) : Apart (.slice none 0 0) u := by
  intro g h
  simp [Value.ownBlock] at h
/-- what is appended to one row leaves the other, and they stay apart -/
theorem two_push {w w' : World} {B e size n2 : Nat} {u u' v : Value} {ys : List Value} {o : Obj} (hv : w.ownsRow B e size v n2 ys) (hap : Apart v u) (hg : (w.alloc o).grownBy w' u.ownBlock) (hor : u'.ownBlock = u.ownBlock ∨ u'.ownBlock = some (w.alloc o).heap.size) :
    w'.ownsRow B e size v n2 ys ∧ Apart v u' := by
  have hva := hv.alloc o
  refine ⟨hva.kept hg ?_, ?_⟩
  · cases hb : v.ownBlock with
    | none => exact .inl rfl
    | some g => exact .inr (Ne.symm (hap g hb))
  · intro g hb
    have hlt := (hva.lt g hb).2
    rcases hor with h | h
    · rw [h]; exact hap g hb
    · rw [h]
      intro he
      have := Option.some.inj he
      omega

theorem long_facts {x X1 X2 : ByteArray} {S n : Nat} (hn : 400 < n) (hne : X1 ≠ X2) :
    script 400 (List.replicate S x ++ List.replicate n X1) (List.replicate S x ++ [X2, X1]) = mono 1 (List.replicate S x) ++ mono 2 (List.replicate n X1) ++ mono 3 [X2, X1] := by
  obtain ⟨n', rfl⟩ : ∃ n', n = n' + 1 := ⟨n - 1, by omega⟩
  have hb : S = beg (List.replicate S x ++ List.replicate (n' + 1) X1) (List.replicate S x ++ [X2, X1]) := by
    rw [beg_front, List.replicate_succ, beg, if_neg hne]
    simp
  have hd : (List.replicate S x ++ List.replicate (n' + 1) X1).drop S = List.replicate (n' + 1) X1 := by
    rw [List.drop_append_of_le_length (by simp), List.drop_eq_nil_of_le (by simp), List.nil_append]
  have hd2 : (List.replicate S x ++ [X2, X1]).drop S = [X2, X1] := by
    rw [List.drop_append_of_le_length (by simp), List.drop_eq_nil_of_le (by simp), List.nil_append]
  have ht : (List.replicate S x ++ List.replicate (n' + 1) X1).take S = List.replicate S x := by
    rw [List.take_append_of_le_length (by simp), List.take_of_length_le (by simp)]
  have h := script_long hb (by rw [hd, List.length_replicate]; omega)
  rw [hd, hd2, ht] at h
  exact h
theorem long_dist {x X1 X2 : ByteArray} {S n : Nat} (hn : 400 < n) (hne : X1 ≠ X2) : dst (List.replicate S x ++ List.replicate n X1) (List.replicate S x ++ [X2, X1]) = n + 2 := by
  unfold dst
  rw [long_facts hn hne, distN_append, distN_append, mono, mono, mono, distN_keep, distN_map (by decide), distN_map (by decide)]
  simp
theorem app_ne (x : ByteArray) : x ++ { data := #[49] } ≠ x ++ ({ data := #[50] } : ByteArray) := by
  intro h
  have h1 := congrArg (fun b : ByteArray => b.data.toList) h
  simp [ByteArray.data_append] at h1

set_option maxHeartbeats 4000000 in
set_option maxRecDepth 100000 in
theorem dlong_any (a b : Int) (x : ByteArray) (w : World) :
    Calls Try.prog 8 #[.int .i64 a, .int .i64 b, .string x] w fun e w' => e = .returned (.bool true) ∧ Grows w w' := by
  obtain ⟨s0, hs0, hs1, hs2, hs3⟩ := info_parts Try.infoStr
  obtain ⟨N, hN, he1⟩ : ∃ N : Nat, (401 ≤ N ∧ N ≤ 450) ∧ wrap64 (401 + wrap64 ((IntKind.u64.wrap a).tmod 50)) = N := by
    obtain ⟨k, hk, e⟩ := mod_u64 a 50 (by omega) (by omega)
    have e' : wrap64 ((IntKind.u64.wrap a).tmod 50) = (k : Int) := e
    exact ⟨401 + k, by omega, by rw [e']; unfold wrap64; omega⟩
  obtain ⟨S, hS, he2⟩ := mod_u64 b 50 (by omega) (by omega)
  have hN1 := hN.1
  have hN2 := hN.2
  have he2' : wrap64 ((IntKind.u64.wrap b).tmod 50) = (S : Int) := he2
  go_enter Try.func8, Try.ntmps8
  by_cases hbig : 20 < x.size
  · have g0 : (20 : Int) < x.size := by omega
    go_wp2_with fail
    refine (dawake_any w).mono ?_
    rintro e w1 ⟨rfl, hg⟩
    go_wp2_with fail
    go_ret
    exact ⟨rfl, hg⟩
  · have g0 : (x.size : Int) ≤ 20 := by omega
    have g1 : x.size ≤ 20 := by omega
    go_wp2_with fail
    simp only [he1, he2']
    clear he1 he2 he2' hbig
    go_loopg [7, 8, 9] S (fun gk u v q wr => ∃ k : Nat, q = .int .i64 k ∧ k ≤ S ∧ gk = S - k ∧ wr.ownsRow w.heap.size 9 1 u k (strs (List.replicate k x)) ∧ wr.ownsRow w.heap.size 9 1 v k (strs (List.replicate k x)) ∧ Apart v u ∧ Grows w wr)
    case atStart => exact ⟨0, rfl, by omega, rfl, World.ownsRow_nil _ _ _ _, World.ownsRow_nil _ _ _ _, Apart.nil _, Grows.refl _⟩
    case round =>
      obtain ⟨k, rfl, hk, hgk, hu, hv, hap, hgr⟩ := hrel
      have HG := Lib.hid hgk; clear hgk
      have hsz := hgr.size
      have HRP := Lib.hid (show strs (List.replicate (k + 1) x) = strs (List.replicate k x) ++ strs [x] by rw [← strs_append, List.replicate_succ'])
      by_cases hlt : k < S
      · have i1 : (k : Int) < S := by omega
        go_wp2_with (first
          | (at_builtin; refine wpList_pushH rfl (.tmp 30) (.tmp 32) _ rfl (w.heap.size) 9 s0 _ 1 16 Try.underlying22 hs0 hs1 hs2 hs3 rfl (by decide) _ _ _ rfl ((hu).alloc _) ⟨(wr).heap.size, 0, none⟩ 1 1 [.string (x)] rfl rfl (cell_one_new _ _ _) (by intro u hu; simp at hu; subst hu; rfl) (by simp only [maxLen]; omega) (by omega) (by simp; omega) ?_; intro u' w1 hu1 hb1 hgb1 hor1; have hvp := two_push hv hap hgb1 hor1; have hgr1 : Grows w w1 := Below.trans (hgr.alloc _) hb1; have hsz1 := hgr1.size; have hv1 := hvp.1; have hap1 := hvp.2)
          | (at_builtin; refine wpList_pushH rfl (.tmp 34) (.tmp 36) _ rfl (w.heap.size) 9 s0 _ 1 16 Try.underlying22 hs0 hs1 hs2 hs3 rfl (by decide) _ _ _ rfl ((hv1).alloc _) ⟨(w1).heap.size, 0, none⟩ 1 1 [.string (x)] rfl rfl (cell_one_new _ _ _) (by intro u hu; simp at hu; subst hu; rfl) (by simp only [maxLen]; omega) (by omega) (by simp; omega) ?_; intro v' w2 hv2 hb2 hgb2 hor2; have hup := two_push hu1 hap1.symm hgb2 hor2; have hgr2 : Grows w w2 := Below.trans (hgr1.alloc _) hb2))
        go_roundg (S - (k + 1))
        case measure => rw [HG.out]; omega
        case rel => exact ⟨k + 1, by go_num, by omega, rfl, by rw [HRP.out]; exact hup.1, by rw [HRP.out]; exact hv2, hup.2.symm, hgr2⟩
      · have hkS : k = S := by omega
        have i1 : ¬ ((k : Int) < S) := by omega
        have HKS := Lib.hid hkS
        rw [HKS.out] at hu hv
        clear HRP hkS
        obtain ⟨p, hp⟩ : ∃ p, p = List.replicate S x := ⟨_, rfl⟩
        rw [← hp] at hu hv
        have HP := Lib.hid hp
        clear hp
        have a1 : x.size + 1 ≤ 9223372036854775807 := by omega
        go_wp2_with fail
        have hX1s : (x ++ ({ data := #[49] } : ByteArray)).size ≤ 100 := by rw [ByteArray.size_append]; have : ({ data := #[49] } : ByteArray).size = 1 := rfl; omega
        obtain ⟨X1, hX1⟩ : ∃ X1, X1 = x ++ ({ data := #[49] } : ByteArray) := ⟨_, rfl⟩
        have HX1 := Lib.hid hX1
        clear hX1 hX1s
        go_loopg [7, 10] N (fun gk u q wx => ∃ j : Nat, q = .int .i64 j ∧ j ≤ N ∧ gk = N - j ∧ wx.ownsRow w.heap.size 9 1 u (S + j) (strs (p ++ List.replicate j X1)) ∧ wx.ownsRow w.heap.size 9 1 u8 S (strs p) ∧ Apart u8 u ∧ Grows w wx)
        case atStart => exact ⟨0, rfl, by omega, rfl, by simpa using hu, hv, hap, hgr⟩
        case round =>
          clear hu hv hap hgr hsz
          obtain ⟨j, rfl, hj, hgj, hu, hv, hap, hgr⟩ := hrel
          have HG2 := Lib.hid hgj; clear hgj
          have hsz := hgr.size
          by_cases hlt2 : j < N
          · have i2 : (j : Int) < N := by omega
            have HRP := Lib.hid (show strs (p ++ List.replicate (j + 1) X1) = strs (p ++ List.replicate j X1) ++ strs [X1] by rw [← strs_append, List.replicate_succ', List.append_assoc])
            rw [HX1.out] at HRP
            go_wp2_with (at_builtin; refine wpList_pushH rfl (.tmp 43) (.tmp 46) _ rfl (w.heap.size) 9 s0 _ 1 16 Try.underlying22 hs0 hs1 hs2 hs3 rfl (by decide) _ _ _ rfl ((hu).alloc _) ⟨(wr).heap.size, 0, none⟩ 1 1 [.string (x ++ { data := #[49] })] rfl rfl (cell_one_new _ _ _) (by intro u hu; simp at hu; subst hu; rfl) (by simp only [maxLen]; omega) (by omega) (by simp; omega) ?_; intro u' w1 hu1 hb1 hgb1 hor1; have hvp := two_push hv hap hgb1 hor1; have hgr1 : Grows w w1 := Below.trans (hgr.alloc _) hb1)
            go_roundg (N - (j + 1))
            case measure => rw [HG2.out]; omega
            case rel => exact ⟨j + 1, by go_num, by omega, rfl, by rw [HX1.out, HRP.out]; rw [HX1.out] at hu1; exact hu1, hvp.1, hvp.2, hgr1⟩
          · have hjN : j = N := by omega
            have i2 : ¬ ((j : Int) < N) := by omega
            have HJN := Lib.hid hjN
            rw [HJN.out] at hu
            clear hjN
            obtain ⟨X2, hX2⟩ : ∃ X2, X2 = x ++ ({ data := #[50] } : ByteArray) := ⟨_, rfl⟩
            have HX2 := Lib.hid hX2
            have hne : X1 ≠ X2 := by rw [HX1.out, hX2]; exact app_ne x
            have HF := long_facts (x := x) (S := S) (n := N) (by omega) hne
            have HDI := long_dist (x := x) (S := S) (n := N) (by omega) hne
            have hold := script_old 400 (List.replicate S x ++ List.replicate N X1) (List.replicate S x ++ [X2, X1])
            have hnew := script_new 400 (List.replicate S x ++ List.replicate N X1) (List.replicate S x ++ [X2, X1])
            rw [HF] at hold hnew
            have hlenl : (mono 1 (List.replicate S x) ++ mono 2 (List.replicate N X1) ++ mono 3 [X2, X1]).length = S + N + 2 := by simp [mono]; omega
            have hla : (List.replicate S x ++ List.replicate N X1).length = S + N := by simp
            have hlb : (List.replicate S x ++ [X2, X1]).length = S + 2 := by simp
            rw [← HP.out] at HF HDI hold hnew hlenl hla hlb
            obtain ⟨l, hl⟩ : ∃ l, mono 1 p ++ mono 2 (List.replicate N X1) ++ mono 3 [X2, X1] = l := ⟨_, rfl⟩
            obtain ⟨la, hlaE⟩ : ∃ la, p ++ List.replicate N X1 = la := ⟨_, rfl⟩
            obtain ⟨lb, hlbE⟩ : ∃ lb, p ++ [X2, X1] = lb := ⟨_, rfl⟩
            rw [hl, hlaE, hlbE] at HF
            rw [hlaE, hlbE] at HDI
            rw [hl] at hold hnew hlenl
            rw [hlaE] at hold hla hu
            rw [hlbE] at hnew hlb
            have E1 := Lib.hid HF
            have E2 := Lib.hid hlenl
            have E3 := Lib.hid HDI
            have E4 := Lib.hid hold
            have E5 := Lib.hid hnew
            have E6 := Lib.hid hla
            have E7 := Lib.hid hlb
            have E8 := Lib.hid (show strs lb = strs p ++ [.string X2, .string X1] by rw [← hlbE, strs_append]; rfl)
            clear HF hlenl HDI hold hnew hla hlb hl hlaE hlbE hX2 hne
            have hvp2 := hv.alloc (.cells #[.string (x ++ { data := #[50] }), .string (x ++ { data := #[49] })] 9)
            go_wp2_with (at_builtin; refine wpList_pushH rfl (.tmp 48) (.tmp 53) _ rfl (w.heap.size) 9 s0 _ 1 16 Try.underlying22 hs0 hs1 hs2 hs3 rfl (by decide) _ _ _ rfl hvp2 ⟨wr.heap.size, 0, none⟩ 2 2 [.string (x ++ { data := #[50] }), .string (x ++ { data := #[49] })] rfl rfl (cell_two_newE _ _ _ _) (by intro u hu; simp at hu; rcases hu with rfl | rfl <;> rfl) (by simp only [maxLen]; omega) (by omega) (by simp; omega) ?_; intro v' w1 hv1 hb1 hgb1 hor1; have hup := two_push hu hap.symm hgb1 hor1; have hgr1 : Grows w w1 := Below.trans (hgr.alloc _) hb1)
            have hu1 := hup.1
            have hv2 : w1.ownsRow w.heap.size 9 1 v' (S + 2) (strs lb) := by
              rw [E8.out, HX1.out, HX2.out]; exact hv1
            clear hv1 hup hvp2 hb1 hgb1 hor1 hu hv hap hgr hsz
            obtain ⟨B1, d1, rfl, hd1, hd1M⟩ := own_form hu1
            obtain ⟨B2, d2, rfl, hd2, hd2M⟩ := own_form hv2
            have HA := Lib.hid (Reads.of_own hu1)
            have HB := Lib.hid (Reads.of_own hv2)
            clear hu1 hv2
            refine (script_r l (S + N + 2) w1.heap.size w1.heap.size B1 B2 (S + N) (S + 2) d1 d2 la lb w1 E1.out E2.out HA.out HB.out (Nat.le_refl _) (Nat.le_refl _) (by omega) (by omega) hd1 hd2 hd1M hd2M).mono ?_
            rintro e w2 ⟨Al, bl, rfl, hbl, hrl, hg2⟩
            have HRL := Lib.hid hrl
            clear hrl hbl
            go_wp2_with fail
            refine (dawake_any w2).mono ?_
            rintro e w3 ⟨rfl, hg3⟩
            have hg13 := hg2.trans hg3
            have HL3 := Lib.hid (HRL.out.grows (Nat.le_refl _) hg3)
            have hs3 := hg3.size
            clear hg2 hg3
            go_wp2_with fail
            refine (old_r la (S + N) w2.heap.size Al (S + N + 2) bl l w3 E4.out E6.out HL3.out hs3 (by omega)).mono ?_
            rintro e w4 ⟨Ao, bo, rfl, hbo, hro, hg4⟩
            have HL4 := Lib.hid (HL3.out.grows hs3 hg4)
            have hs4 := Nat.le_trans hs3 hg4.size
            have hg14 := hg13.trans hg4
            clear hg13 hg4 hbo
            go_wp2_with fail
            refine (plainS_eq w4.heap.size w1.heap.size Ao B1 (S + N) (S + N) bo d1 la w4 hro (HA.out.grows (Nat.le_refl _) hg14) (by omega)).mono ?_
            rintro e w5 ⟨rfl, d5, rfl⟩
            have HL5 := Lib.hid (HL4.out.drewN d5)
            have hs5 := size_drewN hs4 d5
            have hg15 := hg14.drewN d5
            clear hs4 hg14 hro
            generalize w4.drewN d5 = w5 at HL5 hs5 hg15 ⊢
            go_wp2_with fail
            refine (new_r lb (S + 2) w2.heap.size Al (S + N + 2) bl l w5 E5.out E7.out HL5.out hs5 (by omega)).mono ?_
            rintro e w6 ⟨An, bn, rfl, hbn, hrn, hg6⟩
            have HL6 := Lib.hid (HL5.out.grows hs5 hg6)
            have hs6 := Nat.le_trans hs5 hg6.size
            have hg16 := hg15.trans hg6
            clear hg15 hg6 hbn
            go_wp2_with fail
            refine (plainS_eq w6.heap.size w1.heap.size An B2 (S + 2) (S + 2) bn d2 lb w6 hrn (HB.out.grows (Nat.le_refl _) hg16) (by omega)).mono ?_
            rintro e w7 ⟨rfl, d7, rfl⟩
            have HL7 := Lib.hid (HL6.out.drewN d7)
            have hs7 := size_drewN hs6 d7
            have hg17 := hg16.drewN d7
            clear hs6 hg16 hrn
            generalize w6.drewN d7 = w7 at HL7 hs7 hg17 ⊢
            go_wp2_with fail
            refine (dist_any (N + 2) w1.heap.size w1.heap.size B1 B2 (S + N) (S + 2) d1 d2 la lb w7 E3.out (HA.out.grows (Nat.le_refl _) hg17) (HB.out.grows (Nat.le_refl _) hg17) hg17.size hg17.size (by omega) (by omega) hd1 hd2 hd1M hd2M).mono ?_
            rintro e w8 ⟨rfl, hg8⟩
            have HL8 := Lib.hid (HL7.out.grows hs7 hg8)
            have hs8 := Nat.le_trans hs7 hg8.size
            have hg18 := hg17.trans hg8
            clear hg17 hg8
            go_wp2_with fail
            refine (rscript_r l (S + N + 2) w1.heap.size w1.heap.size B1 B2 (S + N) (S + 2) d1 d2 la lb w8 E1.out E2.out (HA.out.grows (Nat.le_refl _) hg18) (HB.out.grows (Nat.le_refl _) hg18) hg18.size hg18.size (by omega) (by omega) hd1 hd2).mono ?_
            rintro e w9 ⟨Ar, br, rfl, hbr, hrr, hg9⟩
            have HL9 := Lib.hid (HL8.out.grows hs8 hg9)
            have hs9 := Nat.le_trans hs8 hg9.size
            have hg19 := hg18.trans hg9
            clear hg18 hg9 hbr
            go_wp2_with fail
            refine (plainE_eq w2.heap.size w9.heap.size Al Ar (S + N + 2) (S + N + 2) bl br l w9 HL9.out hrr hs9 (Nat.le_refl _) (by omega)).mono ?_
            rintro e w10 ⟨rfl, hg10⟩
            have hfin := hgr1.trans (hg19.trans hg10)
            go_wp2_with fail
            go_ret
            exact ⟨rfl, hfin⟩

end Go.Proofs.Ytlimfndipapfdaa
