/- The walk of the law MerkleMany. No condition. -/
import Derived.Test.YtbhmmoecoijojaaDoorMerkK
import Derived.Test.YtbhmmoecoijojaaDoorMerkT
import Derived.Test.YtbhmmoecoijojaaDoorRefN
import Derived.Test.YtbhmmoecoijojaaDoorWithin
namespace Go.Proofs.YtbhmmoecoijojaaDoor
open Go Go.RowKit
attribute [local irreducible] mixW
attribute [local go_sem] n8_lo n8_hi n64_lo n64_hi n32_lo n32_hi
theorem byte_of_int (x : Int) : x % 256 = n8 (UInt8.ofNat (x % 256).toNat) := by
  unfold n8; rw [UInt8.toNat_ofNat']; omega
set_option maxHeartbeats 2000000 in
set_option maxRecDepth 100000 in
theorem merkleMany_walk (w : World) (hG : Glob w) (x0 : Int) (hx0 : -9223372036854775808 ≤ x0 ∧ x0 ≤ 9223372036854775807) (n0 : Int) (hn0 : -9223372036854775808 ≤ n0 ∧ n0 ≤ 9223372036854775807) (ix fr : UInt64) :
    Calls Tryd.prog 12 #[.int .i64 x0, .int .i64 n0, .int .u64 (n64 ix), .int .u64 (n64 fr)] w fun e w' => e = .returned (.bool true) ∧ Below w.heap.size w w' := by
  have hbel := Below.refl w.heap.size w
  have hix := ix.toNat_lt
  have hfr := fr.toNat_lt
  have e1 : n64 ix = (ix.toNat : Int) := rfl
  have e2 : n64 fr = (fr.toNat : Int) := rfl
  rw [e1, e2]
  generalize ix.toNat = I at hix ⊢
  generalize fr.toNat = J at hfr ⊢
  clear e1 e2
  have HI0 := Lib.hid (And.intro hix hfr)
  go_enter Tryd.func12, Tryd.ntmps12
  go_wp2_with fail
  refine (within_any n0 0 200 w (by decide) (by decide) (by decide) hn0.1 hn0.2).mono ?_
  rintro e _ ⟨rfl, rfl⟩
  have hwb := withinI_bounds n0 0 200 (by decide)
  obtain ⟨n, hn⟩ : ∃ n : Nat, withinI n0 0 200 = (n : Int) := ⟨(withinI n0 0 200).toNat, by omega⟩
  rw [hn] at hwb ⊢
  have hn200 : n ≤ 200 := by omega
  clear hn hwb
  obtain ⟨c, hc⟩ : ∃ c : UInt8, IntKind.u8.wrap x0 = n8 c := ⟨UInt8.ofNat (x0 % 256).toNat, by rw [IntKind.wrap_u8]; exact byte_of_int x0⟩
  have hc2 : x0 % 256 = n8 c := by rw [← IntKind.wrap_u8]; exact hc
  go_wp2_with fail
  refine (list_any n c (by omega) (by omega) w).mono ?_
  rintro e w2 ⟨v, rfl, hv, hb1⟩
  have HL : Hid ((listL n c).length ≤ 200 ∧ ∀ b ∈ listL n c, b.length ≤ 40) := Lib.hid ⟨by rw [listL_length]; exact hn200, fun b hb => by rw [listL_mem hb]; decide⟩
  have e3 : (n : Int).toNat = n := Int.toNat_natCast n
  rw [e3] at hv
  generalize listL n c = L at HL hv
  replace hbel := hbel.trans (hb1.mono hbel.size)
  clear hb1 hc hc2 e3
  go_wp2_with fail
  refine (hasher_any x0 w2).mono ?_
  rintro e w4 ⟨h, rfl, hH, hb1⟩
  replace hv := hv.next hb1
  replace hbel := hbel.trans (hb1.mono hbel.size)
  clear hb1
  obtain ⟨A0, cap0, vs0, rfl, h2, h3, h4, h5, h6⟩ := hv
  have hv : SSl w4 w4.heap.size (.slice A0 L.length cap0) L := ⟨A0, cap0, vs0, rfl, h2, h3, h4, h5, h6⟩
  clear h2 h3 h4 h5 h6 vs0
  by_cases hp : 0 < n
  case pos =>
    have hp2 : (0 : Int) < (n : Int) := by omega
    go_wp2_with fail
    obtain ⟨I2, hI2⟩ : ∃ I2 : Nat, (I : Int) % ((n : Int) + 1) = (I2 : Int) := ⟨((I : Int) % ((n : Int) + 1)).toNat, (Int.toNat_of_nonneg (Int.emod_nonneg _ (by omega))).symm⟩
    obtain ⟨J2, hJ2⟩ : ∃ J2 : Nat, (J : Int) % ((n : Int) + 2) = (J2 : Int) := ⟨((J : Int) % ((n : Int) + 2)).toNat, (Int.toNat_of_nonneg (Int.emod_nonneg _ (by omega))).symm⟩
    have hI3 : I2 < 18446744073709551616 := by have := Int.emod_lt_of_pos (I : Int) (show (0 : Int) < (n : Int) + 1 by omega); omega
    have hJ3 : J2 < 18446744073709551616 := by have := Int.emod_lt_of_pos (J : Int) (show (0 : Int) < (n : Int) + 2 by omega); omega
    rw [hI2]
    rw [hJ2]
    have HI : Hid (I2 < 18446744073709551616 ∧ J2 < 18446744073709551616) := Lib.hid ⟨hI3, hJ3⟩
    clear hI2 hJ2 hI3 hJ3 HI0 hix hfr
    refine (prove_tot x0 _ L I2 (by have := HI.out; omega) w4 hv (by have := HL.out.1; omega) (fun c hc => by have := HL.out.2 c hc; omega) (hG.next hbel)).mono ?_
    rintro e w5 ⟨A5, c5, rfl, hd5, hb1⟩
    replace hv := hv.next hb1
    replace hH := hH.nxt hb1
    replace hbel := hbel.trans (hb1.mono hbel.size)
    clear hb1
    go_wp2_with fail
    refine (r8prove_tot _ (cutW x0) _ L I2 (by have := HI.out; omega) w5 hv (by have := HL.out.1; omega) (fun c hc => by have := HL.out.2 c hc; omega) hH).mono ?_
    rintro e w6 ⟨A6, c6, rfl, hd6, hb1⟩
    replace hv := hv.next hb1
    replace hH := hH.nxt hb1
    replace hd5 := hd5.next hb1
    replace hbel := hbel.trans (hb1.mono hbel.size)
    clear hb1
    go_wp2_with fail
    refine (compare_tot x0 _ L J2 (by have := HI.out; omega) w6 hv (by have := HL.out.1; omega) (fun c hc => by have := HL.out.2 c hc; omega) (hG.next hbel)).mono ?_
    rintro e w7 ⟨A7, c7, rfl, hd7, hb1⟩
    replace hv := hv.next hb1
    replace hH := hH.nxt hb1
    replace hd5 := hd5.next hb1
    replace hd6 := hd6.next hb1
    replace hbel := hbel.trans (hb1.mono hbel.size)
    clear hb1
    go_wp2_with fail
    refine (r8compare_tot _ (cutW x0) _ L J2 (by have := HI.out; omega) w7 hv (by have := HL.out.1; omega) (fun c hc => by have := HL.out.2 c hc; omega) hH).mono ?_
    rintro e w8 ⟨A8, c8, rfl, hd8, hb1⟩
    replace hv := hv.next hb1
    replace hH := hH.nxt hb1
    replace hd5 := hd5.next hb1
    replace hd6 := hd6.next hb1
    replace hd7 := hd7.next hb1
    replace hbel := hbel.trans (hb1.mono hbel.size)
    clear hb1
    have HP : Hid ((∀ d ∈ pathX (cutW x0) L I2, d.length = 32) ∧ (pathX (cutW x0) L I2).length ≤ 8) := Lib.hid ⟨pathX_mem _ _ _, pathX_depth _ 8 L _ (by have := HL.out.1; omega)⟩
    have HS : Hid ((∀ d ∈ subX (cutW x0) L J2, d.length = 32) ∧ (subX (cutW x0) L J2).length ≤ 9) := Lib.hid ⟨subX_mem _ _ _, subX_depth _ 8 L _ (by have := HL.out.1; omega)⟩
    generalize pathX (cutW x0) L I2 = P at HP hd5 hd6 ⊢
    generalize subX (cutW x0) L J2 = Q at HS hd7 hd8 ⊢
    generalize pathE L I2 = ep
    generalize subE L J2 = es
    have HD := Lib.hid (And.intro hd5 (And.intro hd6 (And.intro hd7 hd8)))
    clear hd5 hd6 hd7 hd8
    go_wp2_with fail
    refine (mroot_any x0 _ L w8 hv (by have := HL.out.1; omega) (fun c hc => by have := HL.out.2 c hc; omega) (hG.next hbel)).mono ?_
    rintro e w9 ⟨rfl, hb1⟩
    have HD2 := Lib.hid (And.intro (HD.out.1.next hb1) (And.intro (HD.out.2.1.next hb1) (And.intro (HD.out.2.2.1.next hb1) (HD.out.2.2.2.next hb1))))
    clear HD
    replace hv := hv.next hb1
    replace hH := hH.nxt hb1
    replace hbel := hbel.trans (hb1.mono hbel.size)
    clear hb1
    go_wp2_with fail
    refine (r8root_any _ (cutW x0) L.length L (Nat.le_refl _) (by have := HL.out.1; omega) (fun c hc => by have := HL.out.2 c hc; omega) _ w9 hv hH).mono ?_
    rintro e w10 ⟨rfl, hb1⟩
    have HD := Lib.hid (And.intro (HD2.out.1.next hb1) (And.intro (HD2.out.2.1.next hb1) (And.intro (HD2.out.2.2.1.next hb1) (HD2.out.2.2.2.next hb1))))
    clear HD2 hv hH
    replace hbel := hbel.trans (hb1.mono hbel.size)
    clear hb1
    have HR := Lib.hid (rootM_length (cutW x0) L)
    generalize rootM (cutW x0) L = R at HR ⊢
    go_wp2_with (first
      | (refine wpList_eqD rfl (.tmp 69) (.tmp 72) _ rfl R R rfl rfl HR.out HR.out true (decide_eq_true rfl) ?_))
    refine (same8_any _ _ P HP.out.1 (by have := HP.out.2; omega) w10 HD.out.1 HD.out.2.1).mono ?_
    rintro e w11 ⟨rfl, hb1⟩
    have HD2 := Lib.hid (And.intro (HD.out.2.2.1.next hb1) (HD.out.2.2.2.next hb1))
    clear HD
    replace hbel := hbel.trans (hb1.mono hbel.size)
    clear hb1
    go_wp2_with fail
    refine (same8_any _ _ Q HS.out.1 (by have := HS.out.2; omega) w11 HD2.out.1 HD2.out.2).mono ?_
    rintro e w12 ⟨rfl, hb1⟩
    clear HD2
    replace hbel := hbel.trans (hb1.mono hbel.size)
    clear hb1
    have hP8 : (P.length : Int) ≤ 8 := by have := HP.out.2; omega
    have hQ8 : (Q.length : Int) ≤ 16 := by have := HS.out.2; omega
    go_wp2_with fail
    refine (known8_any w12 (hG.next hbel)).mono ?_
    rintro e w13 ⟨rfl, hb1⟩
    replace hbel := hbel.trans (hb1.mono hbel.size)
    clear hb1
    go_wp2_with fail
    go_ret
    exact ⟨rfl, hbel⟩
  case neg =>
    have hp2 : ¬ (0 : Int) < (n : Int) := by omega
    have HI : Hid (I < 18446744073709551616 ∧ J < 18446744073709551616) := HI0
    go_wp2_with fail
    refine (prove_tot x0 _ L I (by have := HI.out; omega) w4 hv (by have := HL.out.1; omega) (fun c hc => by have := HL.out.2 c hc; omega) (hG.next hbel)).mono ?_
    rintro e w5 ⟨A5, c5, rfl, hd5, hb1⟩
    replace hv := hv.next hb1
    replace hH := hH.nxt hb1
    replace hbel := hbel.trans (hb1.mono hbel.size)
    clear hb1
    go_wp2_with fail
    refine (r8prove_tot _ (cutW x0) _ L I (by have := HI.out; omega) w5 hv (by have := HL.out.1; omega) (fun c hc => by have := HL.out.2 c hc; omega) hH).mono ?_
    rintro e w6 ⟨A6, c6, rfl, hd6, hb1⟩
    replace hv := hv.next hb1
    replace hH := hH.nxt hb1
    replace hd5 := hd5.next hb1
    replace hbel := hbel.trans (hb1.mono hbel.size)
    clear hb1
    go_wp2_with fail
    refine (compare_tot x0 _ L J (by have := HI.out; omega) w6 hv (by have := HL.out.1; omega) (fun c hc => by have := HL.out.2 c hc; omega) (hG.next hbel)).mono ?_
    rintro e w7 ⟨A7, c7, rfl, hd7, hb1⟩
    replace hv := hv.next hb1
    replace hH := hH.nxt hb1
    replace hd5 := hd5.next hb1
    replace hd6 := hd6.next hb1
    replace hbel := hbel.trans (hb1.mono hbel.size)
    clear hb1
    go_wp2_with fail
    refine (r8compare_tot _ (cutW x0) _ L J (by have := HI.out; omega) w7 hv (by have := HL.out.1; omega) (fun c hc => by have := HL.out.2 c hc; omega) hH).mono ?_
    rintro e w8 ⟨A8, c8, rfl, hd8, hb1⟩
    replace hv := hv.next hb1
    replace hH := hH.nxt hb1
    replace hd5 := hd5.next hb1
    replace hd6 := hd6.next hb1
    replace hd7 := hd7.next hb1
    replace hbel := hbel.trans (hb1.mono hbel.size)
    clear hb1
    have HP : Hid ((∀ d ∈ pathX (cutW x0) L I, d.length = 32) ∧ (pathX (cutW x0) L I).length ≤ 8) := Lib.hid ⟨pathX_mem _ _ _, pathX_depth _ 8 L _ (by have := HL.out.1; omega)⟩
    have HS : Hid ((∀ d ∈ subX (cutW x0) L J, d.length = 32) ∧ (subX (cutW x0) L J).length ≤ 9) := Lib.hid ⟨subX_mem _ _ _, subX_depth _ 8 L _ (by have := HL.out.1; omega)⟩
    generalize pathX (cutW x0) L I = P at HP hd5 hd6 ⊢
    generalize subX (cutW x0) L J = Q at HS hd7 hd8 ⊢
    generalize pathE L I = ep
    generalize subE L J = es
    have HD := Lib.hid (And.intro hd5 (And.intro hd6 (And.intro hd7 hd8)))
    clear hd5 hd6 hd7 hd8
    go_wp2_with fail
    refine (mroot_any x0 _ L w8 hv (by have := HL.out.1; omega) (fun c hc => by have := HL.out.2 c hc; omega) (hG.next hbel)).mono ?_
    rintro e w9 ⟨rfl, hb1⟩
    have HD2 := Lib.hid (And.intro (HD.out.1.next hb1) (And.intro (HD.out.2.1.next hb1) (And.intro (HD.out.2.2.1.next hb1) (HD.out.2.2.2.next hb1))))
    clear HD
    replace hv := hv.next hb1
    replace hH := hH.nxt hb1
    replace hbel := hbel.trans (hb1.mono hbel.size)
    clear hb1
    go_wp2_with fail
    refine (r8root_any _ (cutW x0) L.length L (Nat.le_refl _) (by have := HL.out.1; omega) (fun c hc => by have := HL.out.2 c hc; omega) _ w9 hv hH).mono ?_
    rintro e w10 ⟨rfl, hb1⟩
    have HD := Lib.hid (And.intro (HD2.out.1.next hb1) (And.intro (HD2.out.2.1.next hb1) (And.intro (HD2.out.2.2.1.next hb1) (HD2.out.2.2.2.next hb1))))
    clear HD2 hv hH
    replace hbel := hbel.trans (hb1.mono hbel.size)
    clear hb1
    have HR := Lib.hid (rootM_length (cutW x0) L)
    generalize rootM (cutW x0) L = R at HR ⊢
    go_wp2_with (first
      | (refine wpList_eqD rfl (.tmp 69) (.tmp 72) _ rfl R R rfl rfl HR.out HR.out true (decide_eq_true rfl) ?_))
    refine (same8_any _ _ P HP.out.1 (by have := HP.out.2; omega) w10 HD.out.1 HD.out.2.1).mono ?_
    rintro e w11 ⟨rfl, hb1⟩
    have HD2 := Lib.hid (And.intro (HD.out.2.2.1.next hb1) (HD.out.2.2.2.next hb1))
    clear HD
    replace hbel := hbel.trans (hb1.mono hbel.size)
    clear hb1
    go_wp2_with fail
    refine (same8_any _ _ Q HS.out.1 (by have := HS.out.2; omega) w11 HD2.out.1 HD2.out.2).mono ?_
    rintro e w12 ⟨rfl, hb1⟩
    clear HD2
    replace hbel := hbel.trans (hb1.mono hbel.size)
    clear hb1
    have hP8 : (P.length : Int) ≤ 8 := by have := HP.out.2; omega
    have hQ8 : (Q.length : Int) ≤ 16 := by have := HS.out.2; omega
    go_wp2_with fail
    refine (known8_any w12 (hG.next hbel)).mono ?_
    rintro e w13 ⟨rfl, hb1⟩
    replace hbel := hbel.trans (hb1.mono hbel.size)
    clear hb1
    go_wp2_with fail
    go_ret
    exact ⟨rfl, hbel⟩
end Go.Proofs.YtbhmmoecoijojaaDoor
