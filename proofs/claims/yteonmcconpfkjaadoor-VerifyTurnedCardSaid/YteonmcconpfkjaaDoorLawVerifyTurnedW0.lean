/- The walk of the law VerifyTurned, the switch at 0. No condition. -/
import Derived.Test.YteonmcconpfkjaaDoorP15
import Derived.Test.YteonmcconpfkjaaDoorP18
import Derived.Test.YteonmcconpfkjaaDoorP20
import Derived.Test.YteonmcconpfkjaaDoorP21
import Derived.Test.YteonmcconpfkjaaDoorP22
import Derived.Test.YteonmcconpfkjaaDoorP9
namespace Go.Proofs.YteonmcconpfkjaaDoor
open Go Go.RowKit
attribute [local irreducible] mixW
attribute [local go_sem] xor8_1 xor8_4 n8_lo n8_hi n64_lo n64_hi n32_lo n32_hi
theorem ownD_emptyT0 (V : World) : (V.alloc (.cells #[] 43)).ownsRow V.heap.size 43 32 (.slice (some ⟨V.heap.size, 0, none⟩) 0 0) ([] : List (List UInt8)).length (dcells []) :=
  ⟨rfl, .inr ⟨V.heap.size, 0, #[], rfl, Nat.le_refl _, heap_alloc_new V _, Nat.le_refl _, by decide, rfl, rfl⟩⟩
set_option maxHeartbeats 60000000 in
set_option maxRecDepth 100000 in
theorem verifyTurned_walk0 (w : World) (hG : Glob w) (x0 : Int) (_hx0 : -9223372036854775808 ≤ x0 ∧ x0 ≤ 9223372036854775807) (n0 : Int) (hn0 : -9223372036854775808 ≤ n0 ∧ n0 ≤ 9223372036854775807) (ix fr : UInt64) (a0 : Int) (ha0 : -9223372036854775808 ≤ a0 ∧ a0 ≤ 9223372036854775807) (b0 : Int) (hb0 : -9223372036854775808 ≤ b0 ∧ b0 ≤ 9223372036854775807) (c0 : Int) (hc0 : -9223372036854775808 ≤ c0 ∧ c0 ≤ 9223372036854775807) (hc : withinI c0 0 4 = 0) :
    Calls Tryd.prog 6 #[.int .i64 x0, .int .i64 n0, .int .u64 (n64 ix), .int .u64 (n64 fr), .int .i64 a0, .int .i64 b0, .int .i64 c0] w fun e w' => e = .returned (.bool true) ∧ Below w.heap.size w w' := by
  have Hc := Lib.hid hc
  clear hc
  have hix := ix.toNat_lt
  have hfr := fr.toNat_lt
  rw [show n64 ix = (ix.toNat : Int) from rfl, show n64 fr = (fr.toNat : Int) from rfl]
  generalize ix.toNat = I0 at hix ⊢
  generalize fr.toNat = J0 at hfr ⊢
  have hbel := Below.refl w.heap.size w
  go_enter Tryd.func6, Tryd.ntmps6
  go_wp2_with fail
  refine (within_any n0 0 60 w (by decide) (by decide) (by decide) hn0.1 hn0.2).mono ?_
  rintro e _ ⟨rfl, rfl⟩
  have hwb := withinI_bounds n0 0 60 (by decide)
  obtain ⟨n, hn⟩ : ∃ n : Nat, withinI n0 0 60 + 1 = (n : Int) := ⟨(withinI n0 0 60 + 1).toNat, by omega⟩
  have hn61 : n ≤ 61 := by omega
  have hn1 : 1 ≤ n := by omega
  go_wp2_with fail
  clear hn hwb
  refine (list9_any n 3 (by omega) (by omega) w).mono ?_
  rintro e w2 ⟨v, rfl, hv, hb1⟩
  have e3 : (n : Int).toNat = n := Int.toNat_natCast n
  rw [e3] at hv
  have hll := listL_length n 3
  have HL : Hid (∀ b ∈ listL n 3, b.length ≤ 40) := Lib.hid (fun b hb => by rw [listL_mem hb]; decide)
  generalize listL n 3 = L at HL hv hll
  subst hll
  replace hbel := hbel.trans (hb1.mono hbel.size)
  clear hb1 e3
  obtain ⟨A0, cap0, vs0, rfl, h2, h3, h4, h5, h6⟩ := hv
  have hv : SSl w2 w2.heap.size (.slice A0 L.length cap0) L := ⟨A0, cap0, vs0, rfl, h2, h3, h4, h5, h6⟩
  clear h3 h4 h5 h6 vs0
  have hlp : (0 : Int) < (L.length : Int) := by omega
  obtain ⟨I, hI⟩ : ∃ i : Nat, (I0 : Int) % (L.length : Int) = (i : Int) := ⟨((I0 : Int) % (L.length : Int)).toNat, (Int.toNat_of_nonneg (Int.emod_nonneg _ (by omega))).symm⟩
  obtain ⟨J, hJ⟩ : ∃ i : Nat, (J0 : Int) % (L.length : Int) + 1 = (i : Int) := ⟨((J0 : Int) % (L.length : Int) + 1).toNat, (Int.toNat_of_nonneg (by have := Int.emod_nonneg (J0 : Int) (show (L.length : Int) ≠ 0 by omega); omega)).symm⟩
  have hIL : I < L.length := by have := Int.emod_lt_of_pos (I0 : Int) hlp; omega
  have hJL : J ≤ L.length := by have := Int.emod_lt_of_pos (J0 : Int) hlp; omega
  have hJ1 : 1 ≤ J := by have := Int.emod_nonneg (J0 : Int) (show (L.length : Int) ≠ 0 by omega); omega
  have hI64 : I ≤ 18446744073709551615 := by omega
  have hJ64 : J ≤ 18446744073709551615 := by omega
  have hn64 : L.length ≤ 18446744073709551615 := by omega
  go_wp2_with fail
  refine (hasher9_any x0 w2).mono ?_
  rintro e w3 ⟨h, rfl, hH, hb1⟩
  replace hv := hv.next hb1
  replace hbel := hbel.trans (hb1.mono hbel.size)
  clear hb1
  go_wp2_with fail
  rw [hI]
  have hHn := hH
  refine (r8prove_any h (cutW x0) L.length L I (Nat.le_refl _) hIL (by omega) (fun c hc => by have := HL.out c hc; omega) _ w3 hv hH).mono ?_
  rintro e w4 ⟨u4, rfl, hown4, hb1⟩
  obtain ⟨A4, c4, hu4⟩ := own_slice hown4
  subst hu4
  have hx4 := DX.of_own hown4
  replace hv := hv.next hb1
  replace hH := hH.nxt hb1
  replace hbel := hbel.trans (hb1.mono hbel.size)
  have hpm := pathM_mem (cutW x0) _ L I (Nat.le_refl _)
  have hpd : (pathM (cutW x0) L I).length ≤ 1000 := by have := pathM_depth (cutW x0) 6 L I (by omega); omega
  clear hb1 hown4 hI hix hHn
  generalize pathM (cutW x0) L I = P4 at hx4 hpm hpd ⊢
  go_wp2_with fail
  refine (r8compare_any h _ (cutW x0) L J w4 hv (by omega) (fun c hc => by have := HL.out c hc; omega) hJ1 hJL hH).mono ?_
  rintro e w5 ⟨u5, rfl, hown5, hb1⟩
  obtain ⟨A5, c5, hu5⟩ := own_slice hown5
  subst hu5
  have hx5 := DX.of_own hown5
  replace hx4 := hx4.next hb1
  replace hv := hv.next hb1
  replace hH := hH.nxt hb1
  replace hbel := hbel.trans (hb1.mono hbel.size)
  have hqm := subM_mem (cutW x0) _ L J true (Nat.le_refl _)
  have hqd : (subM (cutW x0) L J true).length ≤ 1000 := by have := subM_depth (cutW x0) 6 L J true hJ1 hJL (by omega); omega
  clear hb1 hown5 hJ hfr
  generalize subM (cutW x0) L J true = P5 at hx5 hqm hqd ⊢
  have HP := Lib.hid (And.intro hpm (And.intro hpd (And.intro hqm hqd)))
  clear hpm hpd hqm hqd
  go_wp2_with fail
  refine (r8root_any h (cutW x0) L.length L (Nat.le_refl _) (by omega) (fun c hc => by have := HL.out c hc; omega) _ w5 hv hH).mono ?_
  rintro e w6 ⟨rfl, hb1⟩
  have HA := Lib.hid (And.intro (hv.next hb1) (And.intro (hH.nxt hb1) (And.intro (hx4.next hb1) (And.intro (hx5.next hb1) (hbel.trans (hb1.mono hbel.size))))))
  clear hv hH hx4 hx5 hbel hb1
  have hRl := rootM_length (cutW x0) L
  generalize rootM (cutW x0) L = R0 at hRl ⊢
  have hD := Blk.new w6 43 (arr 32 fun _ => 0)
  have hbn := below_new1 w6 (Obj.cells (arr 32 fun _ => 0) 43)
  go_upto_region 9 with (first
    | (refine wpList_storeDat rfl rfl 43 (.tmp 21) (.tmp 59) rfl w6.heap.size rfl _ _ rfl _ hD (by kernel_rfl) ?_; intro w7 hA7 hon7))
  refine wp_at (fun W => Blk W w6.heap.size 43 (dat R0) ∧ Below w6.heap.size w6 W) ⟨hA7, below_only hbn hon7 (Nat.le_refl _) hbn.size⟩ ?_
  obtain ⟨g21, hg21⟩ : ∃ g, g = w6.heap.size := ⟨_, rfl⟩
  rw [← hg21]
  clear hA7 hon7 hbn hD w7
  rintro w7 ⟨hR, hb⟩
  rw [hg21] at hb
  have hg21' : w6.heap.size ≤ g21 := Nat.le_of_eq hg21.symm
  clear hg21
  have hJc : (J : Int) ≤ (cap0 : Int) := by omega
  go_wp2_with fail
  refine (r8root_any h (cutW x0) L.length (L.take J) (by rw [List.length_take]; omega) (by rw [List.length_take]; omega) (fun c hc => by have := HL.out c (List.mem_of_mem_take hc); omega) _ w7 ((HA.out.1.next hb).take J hJL) (HA.out.2.1.nxt hb)).mono ?_
  rintro e w8 ⟨rfl, hb1⟩
  have hOl := rootM_length (cutW x0) (L.take J)
  generalize rootM (cutW x0) (L.take J) = O0 at hOl ⊢
  replace hR := hR.below hb1 hR.lt
  replace hb := hb.trans (hb1.mono hb.size)
  clear hb1
  have hD := Blk.new w8 43 (arr 32 fun _ => 0)
  have hbn := below_new1 w8 (Obj.cells (arr 32 fun _ => 0) 43)
  go_upto_region 10 with (first
    | (refine wpList_storeDat rfl rfl 43 (.tmp 22) (.tmp 64) rfl w8.heap.size rfl _ _ rfl _ hD (by kernel_rfl) ?_; intro w9 hA9 hon9))
  have hb9 := below_only hbn hon9 (Nat.le_refl _) hbn.size
  refine wp_at (fun W => Blk W w8.heap.size 43 (dat O0) ∧ Blk W g21 43 (dat R0) ∧ g21 ≠ w8.heap.size ∧ w6.heap.size ≤ w8.heap.size ∧ Below w6.heap.size w6 W) ⟨hA9, hR.below hb9 hR.lt, Nat.ne_of_lt hR.lt, hb.size, hb.trans (hb9.mono hb.size)⟩ ?_
  generalize w8.heap.size = g22
  clear hA9 hon9 hb9 hbn hD w9 hR hb
  rintro w9 ⟨hO, hR, hne, hg22, hb⟩
  have HC := Lib.hid (And.intro hRl hOl)
  clear hRl hOl
  have hS := Blk.new w9 69 #[.slice A4 P4.length c4, .slice A5 P5.length c5]
  have hbn := below_new1 w9 (Obj.cells #[.slice A4 P4.length c4, .slice A5 P5.length c5] 69)
  have hG67 : w6.heap.size ≤ w9.heap.size := hb.size
  have HN := Lib.hid (And.intro hR.lt (And.intro hne hg21'))
  clear hne hg21'
  go_wp2_with fail
  go_loopg [69] 2 (fun gk iv wr => ∃ (k : Nat) (R : List UInt8), k + gk = 2 ∧ iv = .int .i64 k ∧ R.length = 32 ∧ Blk wr g21 43 (dat R) ∧ Blk wr g22 43 (dat O0) ∧ Blk wr w9.heap.size 69 #[.slice A4 P4.length c4, .slice A5 P5.length c5] ∧ Below w6.heap.size w6 wr)
  case atStart => exact ⟨0, R0, rfl, rfl, HC.out.1, hR.below hbn hR.lt, hO.below hbn hO.lt, hS, hb.trans (hbn.mono hb.size)⟩
  clear hR hO hS hb hbn
  case round =>
    obtain ⟨k, R, hgk, rfl, hRl, hR, hO, hS, hb⟩ := hrel
    have hk2 : k = 0 ∨ k = 1 ∨ k = 2 := by omega
    rcases hk2 with rfl | rfl | rfl
    · have ck : wr.cell? ⟨w9.heap.size, 0, none⟩ = some (.slice A4 P4.length c4) := by have := hS.cell 0; simpa using this
      have hwb := withinI_bounds c0 0 4 (by decide)
      have hn1 := below_new1 wr (Obj.cells #[] 43)
      have hoe := ownD_emptyT0 wr
      have hpx := (HA.out.2.2.1.next hb).next hn1
      have hPd := HP.out.2.1
      go_wp2_with (first
        | (at_builtin; refine wpList_appendDX rfl (.tmp 74) (.tmp 75) rfl wr.heap.size _ [] rfl hoe A4 c4 P4 rfl hpx (by simp; omega) hn1.size ?_; intro v5 V5 hown5 hg5; rw [List.nil_append] at hown5; have hb5 := below_own hn1 hoe hg5 hn1.size; clear hn1 hoe hg5 hpx))
      refine (within_any c0 0 4 V5 (by decide) (by decide) (by decide) hc0.1 hc0.2).mono ?_
      rintro e _ ⟨rfl, rfl⟩
      obtain ⟨Av, cv, hv5⟩ := own_slice hown5
      subst hv5
      have HV := Lib.hid (And.intro hown5 (And.intro (hR.below hb5 hR.lt) (And.intro (hO.below hb5 hO.lt) (And.intro (hS.below hb5 hS.lt) (hb.trans (hb5.mono hb.size))))))
      have HRl := Lib.hid hRl
      have H5 := Lib.hid (And.intro hR.lt (And.intro hO.lt (And.intro hS.lt (And.intro hb.size hb5.size))))
      clear hown5 hR hO hS hb hb5 ck hRl
      have hc5 := Hc.out
      · rw [hc5]
        clear hc5 hwb
        by_cases h0 : P4.length = 0
        case pos =>
          have hgt : ¬ ((0 : Int) < (P4.length : Int)) := by omega
          clear h0
          go_upto_region 26 with fail
          clear hgt
          have hx := DX.of_own HV.out.1
          have hxs := HP.out.1
          have hxl := hPd
          have hRc := HV.out.2.1
          have hRcl := HRl.out
          have hOc := HV.out.2.2.1
          have hSc := HV.out.2.2.2.1
          have hbc := HV.out.2.2.2.2
          clear HV HRl hPd H5
          have HF := Lib.hid (And.intro hx (And.intro hxs (And.intro hxl (And.intro hRc (And.intro hRcl (And.intro hOc (And.intro hSc hbc)))))))
          clear hx hxs hxl hRc hRcl hOc hSc hbc
          have hvv := HA.out.1.next HF.out.2.2.2.2.2.2.2
          obtain ⟨b0x, off, u, eA, hb0x, hcu, hu⟩ := hvv.cellAt I hIL
          subst eA
          have hbG := HA.out.2.2.2.2.trans (HF.out.2.2.2.2.2.2.2.mono HA.out.2.2.2.2.size)
          have hlI : (L.getD I []).length ≤ 40 := HL.out _ (by rw [List.getD_eq_getElem?_getD, List.getElem?_eq_getElem hIL]; exact List.getElem_mem _)
          have hHW := HA.out.2.1.nxt HF.out.2.2.2.2.2.2.2
          have HU := Lib.hid (And.intro hu (And.intro hlI (And.intro hHW hbG)))
          clear hvv hu hlI hHW
          refine wp_region_mixP (.plain 0 <| .plain 1 <| .plain 2 <| .plain 3 <| .plain 4 <| .plain 5 <| .plain 6 <| .plain 7 <| .plain 8 <| .plain 9 <| .plain 10 <| .plain 11 <| .plain 12 <| .plain 14 <| .plain 15 <| .plain 16 <| .plain 17 <| .plain 18 <| .plain 19 <| .plain 20 <| .plain 21 <| .plain 22 <| .plain 23 <| .only 13 <| .only 24 <| .plain 25 <| .plain 26 <| .done) (by kernel_rfl) (by kernel_rfl) (fun W1 hb1 => ?_)
          have hcu1 := (hb1.cell (p := ⟨b0x, off + I, none⟩) hb0x).trans hcu
          have hb01 : b0x < W1.heap.size := Nat.lt_of_lt_of_le hb0x hb1.size
          have hR1 := HF.out.2.2.2.1.below hb1 HF.out.2.2.2.1.lt
          clear hcu hb0x
          iterate 23 (refine mix_plain rfl ?_; (first
            | (refine wpQuiet_load1 rfl _ (.tmp 129) rfl _ rfl _ Tryd.underlying22 rfl _ (fun _ ⟨e, he⟩ => by rw [he, plus_cell _ _ _ hb01]; exact hcu1) ?_; simp only [Act.put, List.setIfInBounds_toArray, List.set_cons_zero, List.set_cons_succ])
            | (refine wpQuiet_load1 rfl _ (.tmp 140) rfl _ rfl _ Tryd.underlying22 rfl _ (fun _ ⟨e, he⟩ => by rw [he, plus_cell _ _ _ hb01]; exact hcu1) ?_; simp only [Act.put, List.setIfInBounds_toArray, List.set_cons_zero, List.set_cons_succ])
            | (refine wpQuiet_load rfl _ (.tmp 21) rfl g21 rfl _ _ _ _ (fun _ ⟨e, he⟩ => by rw [he]; exact hR1.plus e) Tryd.underlying43 rfl (by kernel_rfl) ?_; simp only [Act.put, List.setIfInBounds_toArray, List.set_cons_zero, List.set_cons_succ])
            | go_big_quiet_step (fail)); refine wpQuiet_nil ?_)
          clear hcu1 hb01 hR1
          refine mix_only rfl (fun K hK => ?_)
          refine wpList_unguard rfl ?_
          go_wp2_with fail
          refine (vLeaf_any x0 u (L.getD I []) I L.length hI64 hn64 _ _ HF.out.2.1 (by have := HF.out.2.2.1; omega) _ HF.out.2.2.2.2.1 W1 (HU.out.1.next hb1) (by have := HU.out.2.1; omega) (HF.out.1.next hb1) (hG.next (HU.out.2.2.2.trans (hb1.mono HU.out.2.2.2.size)))).mono ?_
          rintro e W2 ⟨rfl, hbx⟩
          go_wp2_with fail
          refine hK _ _ hbx ?_
          clear hK K
          replace hb1 := hb1.trans (hbx.mono hb1.size)
          clear hbx
          refine mix_only rfl (fun K hK => ?_)
          refine wpList_unguard rfl ?_
          go_wp2_with fail
          refine (rleaf_any _ (cutW x0) u (L.getD I []) I L.length hI64 hn64 _ _ HF.out.2.1 (by have := HF.out.2.2.1; omega) _ HF.out.2.2.2.2.1 W2 (HU.out.2.2.1.nxt hb1) (HU.out.1.next hb1) (by have := HU.out.2.1; omega) (HF.out.1.next hb1)).mono ?_
          rintro e W3 ⟨rfl, hbx⟩
          go_wp2_with fail
          refine hK _ _ hbx ?_
          clear hK K
          replace hb1 := hb1.trans (hbx.mono hb1.size)
          clear hbx
          generalize leafS (cutW x0) (L.getD I []) I L.length _ _ = q1
          iterate 1 (refine mix_plain rfl ?_; go_big_quiet_step (fail); refine wpQuiet_nil ?_)
          try simp only [bne_self_eq_false]
          iterate 1 (refine mix_plain rfl ?_; go_big_quiet_step (fail); refine wpQuiet_nil ?_)
          refine mix_done ?_
          go_upto_region 28 with fail
          refine wp_region_mixP (.plain 0 <| .plain 1 <| .plain 2 <| .plain 3 <| .plain 4 <| .plain 5 <| .plain 6 <| .plain 7 <| .plain 8 <| .plain 9 <| .plain 11 <| .plain 12 <| .plain 13 <| .plain 14 <| .plain 15 <| .plain 16 <| .plain 17 <| .only 10 <| .only 18 <| .plain 19 <| .plain 20 <| .done) (by kernel_rfl) (by kernel_rfl) (fun W4 hb4 => ?_)
          replace hb1 := hb1.trans (hb4.mono hb1.size)
          clear hb4
          iterate 3 (refine mix_plain rfl ?_; go_big_quiet_step (fail); refine wpQuiet_nil ?_)
          iterate 14 (refine mix_skip rfl rfl ?_; simp only [Act.put, List.setIfInBounds_toArray, List.set_cons_zero, List.set_cons_succ])
          iterate 2 (refine mix_only rfl (fun K hK => ?_); go_wp2_with fail; refine hK _ _ (Below.refl _ _) ?_; clear hK K)
          iterate 1 (refine mix_skip rfl rfl ?_; simp only [Act.put, List.setIfInBounds_toArray, List.set_cons_zero, List.set_cons_succ])
          iterate 1 (refine mix_plain rfl ?_; go_big_quiet_step (fail); refine wpQuiet_nil ?_)
          refine mix_done ?_
          go_wp2_with fail
          go_roundg (gk - 1)
          case measure => omega
          case rel => exact ⟨1, _, by omega, rfl, HF.out.2.2.2.2.1, HF.out.2.2.2.1.below hb1 HF.out.2.2.2.1.lt, HF.out.2.2.2.2.2.1.below hb1 HF.out.2.2.2.2.2.1.lt, HF.out.2.2.2.2.2.2.1.below hb1 HF.out.2.2.2.2.2.2.1.lt, HF.out.2.2.2.2.2.2.2.trans (hb1.mono HF.out.2.2.2.2.2.2.2.size)⟩
        obtain ⟨g, cur, eA, hgB, hgb, hsz, hcells, hset⟩ := ownD_set HV.out.1 h0 HP.out.1
        subst eA
        have hgt : (0 : Int) < (P4.length : Int) := by omega
        go_wp2_with fail
        refine (within_any a0 0 ((P4.length : Int) - 1) V5 (by decide) (by omega) (by omega) ha0.1 ha0.2).mono ?_
        rintro e _ ⟨rfl, rfl⟩
        have hwi := withinI_bounds a0 0 ((P4.length : Int) - 1) (by omega)
        obtain ⟨i, hi⟩ : ∃ i : Nat, withinI a0 0 ((P4.length : Int) - 1) = (i : Int) := ⟨(withinI a0 0 ((P4.length : Int) - 1)).toNat, by omega⟩
        rw [hi] at hwi ⊢
        have hiP : i < P4.length := by omega
        clear hi hwi hgt
        have HE := Lib.hid (And.intro hgB (And.intro hsz (And.intro hcells hset)))
        clear hgB hsz hcells hset
        go_upto_region 18 with fail
        refine wp_region_mixT 10 (.plain 0 <| .plain 1 <| .plain 2 <| .plain 4 <| .plain 8 <| .only 3 <| .plain 5 <| .plain 6 <| .plain 7 <| .plain 9 <| .done) (by kernel_rfl) (by kernel_rfl) (fun W1 hb6 => ?_)
        have hgb1 := hgb.below hb6 hgb.lt
        have hg1 := hgb1.lt
        clear hgb
        iterate 5 (refine mix_plain rfl ?_; go_big_quiet_step (fail); refine wpQuiet_nil ?_)
        refine mix_only rfl (fun K hK => ?_)
        go_wp2_with fail
        refine (within_any b0 0 31 W1 (by decide) (by decide) (by decide) hb0.1 hb0.2).mono ?_
        rintro e _ ⟨rfl, rfl⟩
        go_wp2_with fail
        refine hK _ _ (Below.refl _ _) ?_
        clear hK K
        have hwi := withinI_bounds b0 0 31 (by decide)
        obtain ⟨j, hj⟩ : ∃ j : Nat, withinI b0 0 31 = (j : Int) := ⟨(withinI b0 0 31).toNat, by omega⟩
        rw [hj] at hwi ⊢
        have hj32 : j < 32 := by omega
        clear hj hwi
        have hcc : W1.cell? ⟨g, i * 32 + j, none⟩ = some (.int .u8 (n8 ((P4.getD i []).getD j 0))) := by rw [hgb1.cell]; exact HE.out.2.2.1 i j hiP hj32
        obtain ⟨y, hy⟩ : ∃ y, y = (P4.getD i []).getD j 0 := ⟨_, rfl⟩
        rw [← hy] at hcc
        clear hy
        iterate 4 (refine mix_plain rfl ?_; (first
          | (refine wpQuiet_load1 rfl _ (.tmp 94) rfl ⟨g, i * 32 + j, none⟩ rfl _ Tryd.underlying5 rfl _ (fun _ ⟨e, he⟩ => by rw [he, plus_cell _ _ _ hg1]; exact hcc) ?_; simp only [Act.put, List.setIfInBounds_toArray, List.set_cons_zero, List.set_cons_succ])
          | go_big_quiet_step (fail)); refine wpQuiet_nil ?_)
        refine mix_done ?_
        clear hcc
        simp only [List.drop_succ_cons, List.drop_zero]
        go_upto_region 26 with (first
          | (refine wpList_store1 rfl rfl _ (.tmp 98) (.tmp 96) rfl g (i * 32 + j) rfl (.int .u8 (n8 (y ^^^ 1))) rfl _ _ hgb1 (by kernel_rfl) (by have := HE.out.2.1; have : (i + 1) * 32 ≤ P4.length * 32 := Nat.mul_le_mul_right _ hiP; omega) rfl rfl ?_; intro V6 hG6 hon6))
        have hb7 := below_only (hb6.mono H5.out.2.2.2.2) hon6 HE.out.1 (Nat.le_trans H5.out.2.2.2.2 hb6.size)
        clear hb6
        have hb6 := hb7
        have hx := DX.of_own (HE.out.2.2.2 V6 i j _ hiP hj32 hG6)
        have hxs := setB_mem P4 i j (y ^^^ 1) HP.out.1 hiP
        have hxl : (setB P4 i j (y ^^^ 1)).length ≤ 1000 := by rw [setB_len]; exact hPd
        have hRc := HV.out.2.1.below hb6 H5.out.1
        have hRcl := HRl.out
        have hOc := HV.out.2.2.1.below hb6 H5.out.2.1
        have hSc := HV.out.2.2.2.1.below hb6 H5.out.2.2.1
        have hbc := HV.out.2.2.2.2.trans (hb6.mono H5.out.2.2.2.1)
        clear hb6 hb7 hon6 hG6 hgb1 hg1 hiP hj32 h0 HE
        clear HV HRl hPd H5
        have HF := Lib.hid (And.intro hx (And.intro hxs (And.intro hxl (And.intro hRc (And.intro hRcl (And.intro hOc (And.intro hSc hbc)))))))
        clear hx hxs hxl hRc hRcl hOc hSc hbc
        have hvv := HA.out.1.next HF.out.2.2.2.2.2.2.2
        obtain ⟨b0x, off, u, eA, hb0x, hcu, hu⟩ := hvv.cellAt I hIL
        subst eA
        have hbG := HA.out.2.2.2.2.trans (HF.out.2.2.2.2.2.2.2.mono HA.out.2.2.2.2.size)
        have hlI : (L.getD I []).length ≤ 40 := HL.out _ (by rw [List.getD_eq_getElem?_getD, List.getElem?_eq_getElem hIL]; exact List.getElem_mem _)
        have hHW := HA.out.2.1.nxt HF.out.2.2.2.2.2.2.2
        have HU := Lib.hid (And.intro hu (And.intro hlI (And.intro hHW hbG)))
        clear hvv hu hlI hHW
        refine wp_region_mixP (.plain 0 <| .plain 1 <| .plain 2 <| .plain 3 <| .plain 4 <| .plain 5 <| .plain 6 <| .plain 7 <| .plain 8 <| .plain 9 <| .plain 10 <| .plain 11 <| .plain 12 <| .plain 14 <| .plain 15 <| .plain 16 <| .plain 17 <| .plain 18 <| .plain 19 <| .plain 20 <| .plain 21 <| .plain 22 <| .plain 23 <| .only 13 <| .only 24 <| .plain 25 <| .plain 26 <| .done) (by kernel_rfl) (by kernel_rfl) (fun W1 hb1 => ?_)
        have hcu1 := (hb1.cell (p := ⟨b0x, off + I, none⟩) hb0x).trans hcu
        have hb01 : b0x < W1.heap.size := Nat.lt_of_lt_of_le hb0x hb1.size
        have hR1 := HF.out.2.2.2.1.below hb1 HF.out.2.2.2.1.lt
        clear hcu hb0x
        iterate 23 (refine mix_plain rfl ?_; (first
          | (refine wpQuiet_load1 rfl _ (.tmp 129) rfl _ rfl _ Tryd.underlying22 rfl _ (fun _ ⟨e, he⟩ => by rw [he, plus_cell _ _ _ hb01]; exact hcu1) ?_; simp only [Act.put, List.setIfInBounds_toArray, List.set_cons_zero, List.set_cons_succ])
          | (refine wpQuiet_load1 rfl _ (.tmp 140) rfl _ rfl _ Tryd.underlying22 rfl _ (fun _ ⟨e, he⟩ => by rw [he, plus_cell _ _ _ hb01]; exact hcu1) ?_; simp only [Act.put, List.setIfInBounds_toArray, List.set_cons_zero, List.set_cons_succ])
          | (refine wpQuiet_load rfl _ (.tmp 21) rfl g21 rfl _ _ _ _ (fun _ ⟨e, he⟩ => by rw [he]; exact hR1.plus e) Tryd.underlying43 rfl (by kernel_rfl) ?_; simp only [Act.put, List.setIfInBounds_toArray, List.set_cons_zero, List.set_cons_succ])
          | go_big_quiet_step (fail)); refine wpQuiet_nil ?_)
        clear hcu1 hb01 hR1
        refine mix_only rfl (fun K hK => ?_)
        refine wpList_unguard rfl ?_
        go_wp2_with fail
        refine (vLeaf_any x0 u (L.getD I []) I L.length hI64 hn64 _ _ HF.out.2.1 (by have := HF.out.2.2.1; omega) _ HF.out.2.2.2.2.1 W1 (HU.out.1.next hb1) (by have := HU.out.2.1; omega) (HF.out.1.next hb1) (hG.next (HU.out.2.2.2.trans (hb1.mono HU.out.2.2.2.size)))).mono ?_
        rintro e W2 ⟨rfl, hbx⟩
        go_wp2_with fail
        refine hK _ _ hbx ?_
        clear hK K
        replace hb1 := hb1.trans (hbx.mono hb1.size)
        clear hbx
        refine mix_only rfl (fun K hK => ?_)
        refine wpList_unguard rfl ?_
        go_wp2_with fail
        refine (rleaf_any _ (cutW x0) u (L.getD I []) I L.length hI64 hn64 _ _ HF.out.2.1 (by have := HF.out.2.2.1; omega) _ HF.out.2.2.2.2.1 W2 (HU.out.2.2.1.nxt hb1) (HU.out.1.next hb1) (by have := HU.out.2.1; omega) (HF.out.1.next hb1)).mono ?_
        rintro e W3 ⟨rfl, hbx⟩
        go_wp2_with fail
        refine hK _ _ hbx ?_
        clear hK K
        replace hb1 := hb1.trans (hbx.mono hb1.size)
        clear hbx
        generalize leafS (cutW x0) (L.getD I []) I L.length _ _ = q1
        iterate 1 (refine mix_plain rfl ?_; go_big_quiet_step (fail); refine wpQuiet_nil ?_)
        try simp only [bne_self_eq_false]
        iterate 1 (refine mix_plain rfl ?_; go_big_quiet_step (fail); refine wpQuiet_nil ?_)
        refine mix_done ?_
        go_upto_region 28 with fail
        refine wp_region_mixP (.plain 0 <| .plain 1 <| .plain 2 <| .plain 3 <| .plain 4 <| .plain 5 <| .plain 6 <| .plain 7 <| .plain 8 <| .plain 9 <| .plain 11 <| .plain 12 <| .plain 13 <| .plain 14 <| .plain 15 <| .plain 16 <| .plain 17 <| .only 10 <| .only 18 <| .plain 19 <| .plain 20 <| .done) (by kernel_rfl) (by kernel_rfl) (fun W4 hb4 => ?_)
        replace hb1 := hb1.trans (hb4.mono hb1.size)
        clear hb4
        iterate 3 (refine mix_plain rfl ?_; go_big_quiet_step (fail); refine wpQuiet_nil ?_)
        iterate 14 (refine mix_skip rfl rfl ?_; simp only [Act.put, List.setIfInBounds_toArray, List.set_cons_zero, List.set_cons_succ])
        iterate 2 (refine mix_only rfl (fun K hK => ?_); go_wp2_with fail; refine hK _ _ (Below.refl _ _) ?_; clear hK K)
        iterate 1 (refine mix_skip rfl rfl ?_; simp only [Act.put, List.setIfInBounds_toArray, List.set_cons_zero, List.set_cons_succ])
        iterate 1 (refine mix_plain rfl ?_; go_big_quiet_step (fail); refine wpQuiet_nil ?_)
        refine mix_done ?_
        go_wp2_with fail
        go_roundg (gk - 1)
        case measure => omega
        case rel => exact ⟨1, _, by omega, rfl, HF.out.2.2.2.2.1, HF.out.2.2.2.1.below hb1 HF.out.2.2.2.1.lt, HF.out.2.2.2.2.2.1.below hb1 HF.out.2.2.2.2.2.1.lt, HF.out.2.2.2.2.2.2.1.below hb1 HF.out.2.2.2.2.2.2.1.lt, HF.out.2.2.2.2.2.2.2.trans (hb1.mono HF.out.2.2.2.2.2.2.2.size)⟩
    · have ck : wr.cell? ⟨w9.heap.size, 1, none⟩ = some (.slice A5 P5.length c5) := by have := hS.cell 1; simpa using this
      have hwb := withinI_bounds c0 0 4 (by decide)
      have hn1 := below_new1 wr (Obj.cells #[] 43)
      have hoe := ownD_emptyT0 wr
      have hpx := (HA.out.2.2.2.1.next hb).next hn1
      have hPd := HP.out.2.2.2
      go_wp2_with (first
        | (at_builtin; refine wpList_appendDX rfl (.tmp 74) (.tmp 75) rfl wr.heap.size _ [] rfl hoe A5 c5 P5 rfl hpx (by simp; omega) hn1.size ?_; intro v5 V5 hown5 hg5; rw [List.nil_append] at hown5; have hb5 := below_own hn1 hoe hg5 hn1.size; clear hn1 hoe hg5 hpx))
      refine (within_any c0 0 4 V5 (by decide) (by decide) (by decide) hc0.1 hc0.2).mono ?_
      rintro e _ ⟨rfl, rfl⟩
      obtain ⟨Av, cv, hv5⟩ := own_slice hown5
      subst hv5
      have HV := Lib.hid (And.intro hown5 (And.intro (hR.below hb5 hR.lt) (And.intro (hO.below hb5 hO.lt) (And.intro (hS.below hb5 hS.lt) (hb.trans (hb5.mono hb.size))))))
      have HRl := Lib.hid hRl
      have H5 := Lib.hid (And.intro hR.lt (And.intro hO.lt (And.intro hS.lt (And.intro hb.size hb5.size))))
      clear hown5 hR hO hS hb hb5 ck hRl
      have hc5 := Hc.out
      · rw [hc5]
        clear hc5 hwb
        by_cases h0 : P5.length = 0
        case pos =>
          have hgt : ¬ ((0 : Int) < (P5.length : Int)) := by omega
          clear h0
          go_upto_region 26 with fail
          clear hgt
          have hx := DX.of_own HV.out.1
          have hxs := HP.out.2.2.1
          have hxl := hPd
          have hRc := HV.out.2.1
          have hRcl := HRl.out
          have hOc := HV.out.2.2.1
          have hSc := HV.out.2.2.2.1
          have hbc := HV.out.2.2.2.2
          clear HV HRl hPd H5
          have HF := Lib.hid (And.intro hx (And.intro hxs (And.intro hxl (And.intro hRc (And.intro hRcl (And.intro hOc (And.intro hSc hbc)))))))
          clear hx hxs hxl hRc hRcl hOc hSc hbc
          have hHW := HA.out.2.1.nxt HF.out.2.2.2.2.2.2.2
          have hbG := HA.out.2.2.2.2.trans (HF.out.2.2.2.2.2.2.2.mono HA.out.2.2.2.2.size)
          have HU := Lib.hid (And.intro hHW hbG)
          clear hHW
          refine wp_region_mixP (.plain 0 <| .plain 1 <| .plain 2 <| .plain 3 <| .plain 4 <| .plain 5 <| .plain 6 <| .plain 7 <| .plain 8 <| .plain 9 <| .plain 10 <| .plain 11 <| .plain 12 <| .plain 14 <| .plain 15 <| .plain 16 <| .plain 17 <| .plain 18 <| .plain 19 <| .plain 20 <| .plain 21 <| .plain 22 <| .plain 23 <| .only 13 <| .only 24 <| .plain 25 <| .plain 26 <| .done) (by kernel_rfl) (by kernel_rfl) (fun W4 hb1 => ?_)
          iterate 3 (refine mix_plain rfl ?_; go_big_quiet_step (fail); refine wpQuiet_nil ?_)
          iterate 20 (refine mix_skip rfl rfl ?_; simp only [Act.put, List.setIfInBounds_toArray, List.set_cons_zero, List.set_cons_succ])
          iterate 2 (refine mix_only rfl (fun K hK => ?_); go_wp2_with fail; refine hK _ _ (Below.refl _ _) ?_; clear hK K)
          iterate 1 (refine mix_skip rfl rfl ?_; simp only [Act.put, List.setIfInBounds_toArray, List.set_cons_zero, List.set_cons_succ])
          iterate 1 (refine mix_plain rfl ?_; go_big_quiet_step (fail); refine wpQuiet_nil ?_)
          refine mix_done ?_
          go_upto_region 28 with fail
          refine wp_region_mixP (.plain 0 <| .plain 1 <| .plain 2 <| .plain 3 <| .plain 4 <| .plain 5 <| .plain 6 <| .plain 7 <| .plain 8 <| .plain 9 <| .plain 11 <| .plain 12 <| .plain 13 <| .plain 14 <| .plain 15 <| .plain 16 <| .plain 17 <| .only 10 <| .only 18 <| .plain 19 <| .plain 20 <| .done) (by kernel_rfl) (by kernel_rfl) (fun W1 hb4 => ?_)
          replace hb1 := hb1.trans (hb4.mono hb1.size)
          clear hb4
          have hR1 := HF.out.2.2.2.1.below hb1 HF.out.2.2.2.1.lt
          have hO1 := HF.out.2.2.2.2.2.1.below hb1 HF.out.2.2.2.2.2.1.lt
          iterate 17 (refine mix_plain rfl ?_; (first
            | (refine wpQuiet_load rfl _ (.tmp 22) rfl g22 rfl _ _ _ _ (fun _ ⟨e, he⟩ => by rw [he]; exact hO1.plus e) Tryd.underlying43 rfl (by kernel_rfl) ?_; simp only [Act.put, List.setIfInBounds_toArray, List.set_cons_zero, List.set_cons_succ])
            | (refine wpQuiet_load rfl _ (.tmp 21) rfl g21 rfl _ _ _ _ (fun _ ⟨e, he⟩ => by rw [he]; exact hR1.plus e) Tryd.underlying43 rfl (by kernel_rfl) ?_; simp only [Act.put, List.setIfInBounds_toArray, List.set_cons_zero, List.set_cons_succ])
            | go_big_quiet_step (fail)); refine wpQuiet_nil ?_)
          clear hR1 hO1
          refine mix_only rfl (fun K hK => ?_)
          refine wpList_unguard rfl ?_
          go_wp2_with fail
          refine (vprefix_any x0 J L.length hJ64 hn64 _ _ HC.out.2 HF.out.2.2.2.2.1 _ _ HF.out.2.1 (by have := HF.out.2.2.1; omega) W1 (HF.out.1.next hb1) (hG.next (HU.out.2.trans (hb1.mono HU.out.2.size)))).mono ?_
          rintro e W2 ⟨rfl, hbx⟩
          go_wp2_with fail
          refine hK _ _ hbx ?_
          clear hK K
          replace hb1 := hb1.trans (hbx.mono hb1.size)
          clear hbx
          refine mix_only rfl (fun K hK => ?_)
          refine wpList_unguard rfl ?_
          go_wp2_with fail
          refine (rprefix_any _ (cutW x0) J L.length hJ64 hn64 _ _ HC.out.2 HF.out.2.2.2.2.1 _ _ HF.out.2.1 (by have := HF.out.2.2.1; omega) W2 (HU.out.1.nxt hb1) (HF.out.1.next hb1)).mono ?_
          rintro e W3 ⟨rfl, hbx⟩
          go_wp2_with fail
          refine hK _ _ hbx ?_
          clear hK K
          replace hb1 := hb1.trans (hbx.mono hb1.size)
          clear hbx
          generalize prefS (cutW x0) J L.length _ _ _ = q1
          iterate 1 (refine mix_plain rfl ?_; go_big_quiet_step (fail); refine wpQuiet_nil ?_)
          try simp only [bne_self_eq_false]
          iterate 1 (refine mix_plain rfl ?_; go_big_quiet_step (fail); refine wpQuiet_nil ?_)
          refine mix_done ?_
          go_wp2_with fail
          go_roundg (gk - 1)
          case measure => omega
          case rel => exact ⟨2, _, by omega, rfl, HF.out.2.2.2.2.1, HF.out.2.2.2.1.below hb1 HF.out.2.2.2.1.lt, HF.out.2.2.2.2.2.1.below hb1 HF.out.2.2.2.2.2.1.lt, HF.out.2.2.2.2.2.2.1.below hb1 HF.out.2.2.2.2.2.2.1.lt, HF.out.2.2.2.2.2.2.2.trans (hb1.mono HF.out.2.2.2.2.2.2.2.size)⟩
        obtain ⟨g, cur, eA, hgB, hgb, hsz, hcells, hset⟩ := ownD_set HV.out.1 h0 HP.out.2.2.1
        subst eA
        have hgt : (0 : Int) < (P5.length : Int) := by omega
        go_wp2_with fail
        refine (within_any a0 0 ((P5.length : Int) - 1) V5 (by decide) (by omega) (by omega) ha0.1 ha0.2).mono ?_
        rintro e _ ⟨rfl, rfl⟩
        have hwi := withinI_bounds a0 0 ((P5.length : Int) - 1) (by omega)
        obtain ⟨i, hi⟩ : ∃ i : Nat, withinI a0 0 ((P5.length : Int) - 1) = (i : Int) := ⟨(withinI a0 0 ((P5.length : Int) - 1)).toNat, by omega⟩
        rw [hi] at hwi ⊢
        have hiP : i < P5.length := by omega
        clear hi hwi hgt
        have HE := Lib.hid (And.intro hgB (And.intro hsz (And.intro hcells hset)))
        clear hgB hsz hcells hset
        go_upto_region 18 with fail
        refine wp_region_mixT 10 (.plain 0 <| .plain 1 <| .plain 2 <| .plain 4 <| .plain 8 <| .only 3 <| .plain 5 <| .plain 6 <| .plain 7 <| .plain 9 <| .done) (by kernel_rfl) (by kernel_rfl) (fun W1 hb6 => ?_)
        have hgb1 := hgb.below hb6 hgb.lt
        have hg1 := hgb1.lt
        clear hgb
        iterate 5 (refine mix_plain rfl ?_; go_big_quiet_step (fail); refine wpQuiet_nil ?_)
        refine mix_only rfl (fun K hK => ?_)
        go_wp2_with fail
        refine (within_any b0 0 31 W1 (by decide) (by decide) (by decide) hb0.1 hb0.2).mono ?_
        rintro e _ ⟨rfl, rfl⟩
        go_wp2_with fail
        refine hK _ _ (Below.refl _ _) ?_
        clear hK K
        have hwi := withinI_bounds b0 0 31 (by decide)
        obtain ⟨j, hj⟩ : ∃ j : Nat, withinI b0 0 31 = (j : Int) := ⟨(withinI b0 0 31).toNat, by omega⟩
        rw [hj] at hwi ⊢
        have hj32 : j < 32 := by omega
        clear hj hwi
        have hcc : W1.cell? ⟨g, i * 32 + j, none⟩ = some (.int .u8 (n8 ((P5.getD i []).getD j 0))) := by rw [hgb1.cell]; exact HE.out.2.2.1 i j hiP hj32
        obtain ⟨y, hy⟩ : ∃ y, y = (P5.getD i []).getD j 0 := ⟨_, rfl⟩
        rw [← hy] at hcc
        clear hy
        iterate 4 (refine mix_plain rfl ?_; (first
          | (refine wpQuiet_load1 rfl _ (.tmp 94) rfl ⟨g, i * 32 + j, none⟩ rfl _ Tryd.underlying5 rfl _ (fun _ ⟨e, he⟩ => by rw [he, plus_cell _ _ _ hg1]; exact hcc) ?_; simp only [Act.put, List.setIfInBounds_toArray, List.set_cons_zero, List.set_cons_succ])
          | go_big_quiet_step (fail)); refine wpQuiet_nil ?_)
        refine mix_done ?_
        clear hcc
        simp only [List.drop_succ_cons, List.drop_zero]
        go_upto_region 26 with (first
          | (refine wpList_store1 rfl rfl _ (.tmp 98) (.tmp 96) rfl g (i * 32 + j) rfl (.int .u8 (n8 (y ^^^ 1))) rfl _ _ hgb1 (by kernel_rfl) (by have := HE.out.2.1; have : (i + 1) * 32 ≤ P5.length * 32 := Nat.mul_le_mul_right _ hiP; omega) rfl rfl ?_; intro V6 hG6 hon6))
        have hb7 := below_only (hb6.mono H5.out.2.2.2.2) hon6 HE.out.1 (Nat.le_trans H5.out.2.2.2.2 hb6.size)
        clear hb6
        have hb6 := hb7
        have hx := DX.of_own (HE.out.2.2.2 V6 i j _ hiP hj32 hG6)
        have hxs := setB_mem P5 i j (y ^^^ 1) HP.out.2.2.1 hiP
        have hxl : (setB P5 i j (y ^^^ 1)).length ≤ 1000 := by rw [setB_len]; exact hPd
        have hRc := HV.out.2.1.below hb6 H5.out.1
        have hRcl := HRl.out
        have hOc := HV.out.2.2.1.below hb6 H5.out.2.1
        have hSc := HV.out.2.2.2.1.below hb6 H5.out.2.2.1
        have hbc := HV.out.2.2.2.2.trans (hb6.mono H5.out.2.2.2.1)
        clear hb6 hb7 hon6 hG6 hgb1 hg1 hiP hj32 h0 HE
        clear HV HRl hPd H5
        have HF := Lib.hid (And.intro hx (And.intro hxs (And.intro hxl (And.intro hRc (And.intro hRcl (And.intro hOc (And.intro hSc hbc)))))))
        clear hx hxs hxl hRc hRcl hOc hSc hbc
        have hHW := HA.out.2.1.nxt HF.out.2.2.2.2.2.2.2
        have hbG := HA.out.2.2.2.2.trans (HF.out.2.2.2.2.2.2.2.mono HA.out.2.2.2.2.size)
        have HU := Lib.hid (And.intro hHW hbG)
        clear hHW
        refine wp_region_mixP (.plain 0 <| .plain 1 <| .plain 2 <| .plain 3 <| .plain 4 <| .plain 5 <| .plain 6 <| .plain 7 <| .plain 8 <| .plain 9 <| .plain 10 <| .plain 11 <| .plain 12 <| .plain 14 <| .plain 15 <| .plain 16 <| .plain 17 <| .plain 18 <| .plain 19 <| .plain 20 <| .plain 21 <| .plain 22 <| .plain 23 <| .only 13 <| .only 24 <| .plain 25 <| .plain 26 <| .done) (by kernel_rfl) (by kernel_rfl) (fun W4 hb1 => ?_)
        iterate 3 (refine mix_plain rfl ?_; go_big_quiet_step (fail); refine wpQuiet_nil ?_)
        iterate 20 (refine mix_skip rfl rfl ?_; simp only [Act.put, List.setIfInBounds_toArray, List.set_cons_zero, List.set_cons_succ])
        iterate 2 (refine mix_only rfl (fun K hK => ?_); go_wp2_with fail; refine hK _ _ (Below.refl _ _) ?_; clear hK K)
        iterate 1 (refine mix_skip rfl rfl ?_; simp only [Act.put, List.setIfInBounds_toArray, List.set_cons_zero, List.set_cons_succ])
        iterate 1 (refine mix_plain rfl ?_; go_big_quiet_step (fail); refine wpQuiet_nil ?_)
        refine mix_done ?_
        go_upto_region 28 with fail
        refine wp_region_mixP (.plain 0 <| .plain 1 <| .plain 2 <| .plain 3 <| .plain 4 <| .plain 5 <| .plain 6 <| .plain 7 <| .plain 8 <| .plain 9 <| .plain 11 <| .plain 12 <| .plain 13 <| .plain 14 <| .plain 15 <| .plain 16 <| .plain 17 <| .only 10 <| .only 18 <| .plain 19 <| .plain 20 <| .done) (by kernel_rfl) (by kernel_rfl) (fun W1 hb4 => ?_)
        replace hb1 := hb1.trans (hb4.mono hb1.size)
        clear hb4
        have hR1 := HF.out.2.2.2.1.below hb1 HF.out.2.2.2.1.lt
        have hO1 := HF.out.2.2.2.2.2.1.below hb1 HF.out.2.2.2.2.2.1.lt
        iterate 17 (refine mix_plain rfl ?_; (first
          | (refine wpQuiet_load rfl _ (.tmp 22) rfl g22 rfl _ _ _ _ (fun _ ⟨e, he⟩ => by rw [he]; exact hO1.plus e) Tryd.underlying43 rfl (by kernel_rfl) ?_; simp only [Act.put, List.setIfInBounds_toArray, List.set_cons_zero, List.set_cons_succ])
          | (refine wpQuiet_load rfl _ (.tmp 21) rfl g21 rfl _ _ _ _ (fun _ ⟨e, he⟩ => by rw [he]; exact hR1.plus e) Tryd.underlying43 rfl (by kernel_rfl) ?_; simp only [Act.put, List.setIfInBounds_toArray, List.set_cons_zero, List.set_cons_succ])
          | go_big_quiet_step (fail)); refine wpQuiet_nil ?_)
        clear hR1 hO1
        refine mix_only rfl (fun K hK => ?_)
        refine wpList_unguard rfl ?_
        go_wp2_with fail
        refine (vprefix_any x0 J L.length hJ64 hn64 _ _ HC.out.2 HF.out.2.2.2.2.1 _ _ HF.out.2.1 (by have := HF.out.2.2.1; omega) W1 (HF.out.1.next hb1) (hG.next (HU.out.2.trans (hb1.mono HU.out.2.size)))).mono ?_
        rintro e W2 ⟨rfl, hbx⟩
        go_wp2_with fail
        refine hK _ _ hbx ?_
        clear hK K
        replace hb1 := hb1.trans (hbx.mono hb1.size)
        clear hbx
        refine mix_only rfl (fun K hK => ?_)
        refine wpList_unguard rfl ?_
        go_wp2_with fail
        refine (rprefix_any _ (cutW x0) J L.length hJ64 hn64 _ _ HC.out.2 HF.out.2.2.2.2.1 _ _ HF.out.2.1 (by have := HF.out.2.2.1; omega) W2 (HU.out.1.nxt hb1) (HF.out.1.next hb1)).mono ?_
        rintro e W3 ⟨rfl, hbx⟩
        go_wp2_with fail
        refine hK _ _ hbx ?_
        clear hK K
        replace hb1 := hb1.trans (hbx.mono hb1.size)
        clear hbx
        generalize prefS (cutW x0) J L.length _ _ _ = q1
        iterate 1 (refine mix_plain rfl ?_; go_big_quiet_step (fail); refine wpQuiet_nil ?_)
        try simp only [bne_self_eq_false]
        iterate 1 (refine mix_plain rfl ?_; go_big_quiet_step (fail); refine wpQuiet_nil ?_)
        refine mix_done ?_
        go_wp2_with fail
        go_roundg (gk - 1)
        case measure => omega
        case rel => exact ⟨2, _, by omega, rfl, HF.out.2.2.2.2.1, HF.out.2.2.2.1.below hb1 HF.out.2.2.2.1.lt, HF.out.2.2.2.2.2.1.below hb1 HF.out.2.2.2.2.2.1.lt, HF.out.2.2.2.2.2.2.1.below hb1 HF.out.2.2.2.2.2.2.1.lt, HF.out.2.2.2.2.2.2.2.trans (hb1.mono HF.out.2.2.2.2.2.2.2.size)⟩
    · go_wp2_with fail
      refine (known9_any wr (hG.next (HA.out.2.2.2.2.trans (hb.mono HA.out.2.2.2.2.size)))).mono ?_
      rintro e w9 ⟨rfl, hb9⟩
      go_wp2_with fail
      try rw [Exit.noGoto_ret]
      go_ret
      exact ⟨rfl, HA.out.2.2.2.2.trans ((hb.trans (hb9.mono hb.size)).mono HA.out.2.2.2.2.size)⟩
end Go.Proofs.YteonmcconpfkjaaDoor
