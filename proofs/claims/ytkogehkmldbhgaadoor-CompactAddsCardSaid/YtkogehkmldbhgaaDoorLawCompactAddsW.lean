/- The walk of the law CompactAdds. Condition: the tables. -/
import Derived.Test.YtkogehkmldbhgaaDoorP19
import Derived.Test.YtkogehkmldbhgaaDoorP17
import Derived.Test.YtkogehkmldbhgaaDoorP10
namespace Go.Proofs.YtkogehkmldbhgaaDoor
open Go Go.RowKit
attribute [local irreducible] mixW
attribute [local go_sem] n8_lo n8_hi n64_lo n64_hi n32_lo n32_hi
set_option maxHeartbeats 4000000 in
set_option maxRecDepth 100000 in
theorem compactAdds_walk (w : World) (hG : Glob w) (hT : Tz w) (x0 : Int) (hx0 : -9223372036854775808 ≤ x0 ∧ x0 ≤ 9223372036854775807) (n0 : Int) (hn0 : -9223372036854775808 ≤ n0 ∧ n0 ≤ 9223372036854775807) (m0 : Int) (hm0 : -9223372036854775808 ≤ m0 ∧ m0 ≤ 9223372036854775807) (k0 : Int) (hk0 : -9223372036854775808 ≤ k0 ∧ k0 ≤ 9223372036854775807) :
    Calls Tryd.prog 8 #[.int .i64 x0, .int .i64 n0, .int .i64 m0, .int .i64 k0] w fun r w' => r = .returned (.bool true) ∧ Below w.heap.size w w' := by
  go_enter Tryd.func8, Tryd.ntmps8
  go_wp2_with fail
  refine (within_any n0 0 70 w (by decide) (by decide) (by decide) hn0.1 hn0.2).mono ?_
  rintro r _ ⟨rfl, rfl⟩
  have bn := withinI_bounds n0 0 70 (by decide)
  obtain ⟨N, hN⟩ : ∃ N : Nat, withinI n0 0 70 = (N : Int) := ⟨(withinI n0 0 70).toNat, by omega⟩
  rw [hN] at bn ⊢
  clear hN
  go_wp2_with fail
  refine (list10_any (N : Int) (by omega) (by omega) w).mono ?_
  rintro r w1 ⟨u, rfl, hL, hbel⟩
  rw [Int.toNat_natCast] at hL
  have hLl := listE_length N
  have hLm : ∀ c ∈ listE N, c.length ≤ 2 := fun c hc => by rw [listE_mem hc]; exact Nat.le_refl _
  generalize listE N = L at hL hLl hLm
  have Hm := Lib.hid hLm
  have Hl := Lib.hid hLl
  clear hLm hLl
  obtain ⟨A0, cap0, _, rfl, _⟩ := id hL
  go_wp2_with fail
  refine (within_any m0 0 N w1 (by decide) (by omega) (by omega) hm0.1 hm0.2).mono ?_
  rintro r _ ⟨rfl, rfl⟩
  have bi := withinI_bounds m0 0 N (by omega)
  obtain ⟨I, hI⟩ : ∃ I : Nat, withinI m0 0 N = (I : Int) := ⟨(withinI m0 0 N).toNat, by omega⟩
  rw [hI] at bi ⊢
  clear hI
  go_wp2_with fail
  have hsub : wrap64 ((N : Int) - (I : Int)) = (N : Int) - I := by unfold wrap64; omega
  refine (within_any k0 0 ((N : Int) - I) w1 (by decide) (by omega) (by omega) hk0.1 hk0.2).mono ?_
  rintro r _ ⟨rfl, rfl⟩
  have bk := withinI_bounds k0 0 ((N : Int) - I) (by omega)
  obtain ⟨J, hJ⟩ : ∃ J : Nat, withinI k0 0 ((N : Int) - I) = (J : Int) := ⟨(withinI k0 0 ((N : Int) - I)).toNat, by omega⟩
  rw [hJ] at bk ⊢
  clear hJ hsub
  obtain ⟨K, hK⟩ : ∃ K : Nat, I + J = K := ⟨_, rfl⟩
  have hKI : (I : Int) + (J : Int) = (K : Int) := by omega
  have hN60 : N ≤ 70 := by omega
  have hIK : I ≤ K := by omega
  have hKN : K ≤ N := by omega
  have hwI : IntKind.u64.wrap (I : Int) = (I : Int) := IntWalk.u64_in _ (by omega)
  have hwK : IntKind.u64.wrap (K : Int) = (K : Int) := IntWalk.u64_in _ (by omega)
  have hwN : IntKind.u64.wrap (N : Int) = (N : Int) := IntWalk.u64_in _ (by omega)
  clear bn bi bk hK
  have H := Lib.hid (And.intro hL hbel)
  clear hL hbel
  go_wp2_with fail

  refine (empty_any I w1).mono ?_
  rintro r w2 ⟨rfl, hbx⟩
  have hbn := below_new1 w2 (Obj.cells #[.int .u64 (I : Int), .int .u64 (I : Int), .slice none 0 0] 31)
  have hB12 := Blk.new w2 31 #[.int .u64 (I : Int), .int .u64 (I : Int), .slice none 0 0]
  have H2 := Lib.hid (And.intro (H.out.1.next hbx) (And.intro (H.out.2.trans (hbx.mono H.out.2.size)) (And.intro hB12 hbn)))
  clear hbx hbn hB12 H
  simp only [rgC, nU]
  go_wp2_with fail
  go_loopw [13, 14, 15] (fun iv _ _ wr => ∃ (i : Nat) (A : Option Addr) (c : Nat), I ≤ i ∧ i ≤ N ∧ iv = .int .i64 i ∧ Rg wr w2.heap.size I i A c (rangeM (cutW x0) L I i) ∧ Below w2.heap.size w2 wr) (fun iv _ _ _ => N - (intOf iv).toNat)
  case atStart =>
    refine ⟨I, none, 0, Nat.le_refl _, by omega, rfl, ?_, H2.out.2.2.2⟩
    rw [rangeM_nil]
    exact ⟨H2.out.2.2.1, DX.nil_ _⟩
  case round =>
    obtain ⟨i, A, c, hIi, hiN, rfl, hrg, hb⟩ := hrel
    by_cases hlt : i < N
    · have hlt' : (i : Int) < (N : Int) := by omega
      have hSS := H2.out.1.next hb
      have hbw := H2.out.2.1.trans (hb.mono H2.out.2.1.size)
      obtain ⟨gl, ol, u, hA0, hgl, hcu, hBu⟩ := hSS.cellAt i (by have := Hl.out; omega)
      subst hA0
      have hR64 := rangeM_64 (cutW x0) L (a := I) (e := i) (by omega)
      have hRm := rangeM_mem (cutW x0) L I i
      obtain ⟨R, hR⟩ : ∃ R, rangeM (cutW x0) L I i = R := ⟨_, rfl⟩
      rw [hR] at hR64 hRm hrg
      have hu2 : (L.getD i []).length ≤ 2 := Hm.out _ (by rw [List.getD_eq_getElem?_getD, List.getElem?_eq_getElem (by have := Hl.out; omega)]; exact List.getElem_mem _)
      have HR := Lib.hid (And.intro hR (And.intro hR64 (And.intro hRm hu2)))
      have Hi := Lib.hid (And.intro hrg (And.intro hBu (And.intro hbw (And.intro hb hSS))))
      have hLc : (i : Int) < (L.length : Int) := by have := Hl.out; omega
      clear hrg hBu hbw hb hR hR64 hRm hu2 hSS
      go_upto_region 9 with fail
      refine wp_region_mixP (.plain 0 <| .plain 1 <| .plain 2 <| .plain 3 <| .plain 4 <| .plain 5 <| .plain 6 <| .two 7 12 (.two 8 12 (.plain 9 <| .plain 10 <| .plain 11 <| .only 12 <| .only 13 <| .plain 14 <| .done) <| (.only 8 <| .plain 9 <| .plain 10 <| .plain 11 <| .only 13 <| .plain 14 <| .done)) <| (.only 7 <| .only 8 <| .plain 9 <| .plain 10 <| .plain 11 <| .only 13 <| .plain 14 <| .done)) (by kernel_rfl) (by kernel_rfl) (fun X1 hb1 => ?_)
      have hcX : X1.cell? ⟨gl, ol + i, none⟩ = some u := (hb1.cell (p := ⟨gl, ol + i, none⟩) hgl).trans hcu
      have hglX : gl < X1.heap.size := Nat.lt_of_lt_of_le hgl hb1.size
      have HX := Lib.hid (And.intro (Hi.out.1.next hb1) (And.intro (Hi.out.2.1.next hb1) (And.intro (Hi.out.2.2.1.trans (hb1.mono Hi.out.2.2.1.size)) (And.intro (Hi.out.2.2.2.1.trans (hb1.mono Hi.out.2.2.2.1.size)) hglX))))
      have hsl := HX.out.2.1
      clear hb1 hcu hgl Hi
      iterate 7 (refine mix_plain rfl ?_; (first
        | (refine wpQuiet_load rfl _ (.tmp 12) rfl w2.heap.size rfl _ (rgC I i (.slice A R.length c)) _ _ (fun _ ⟨e, he⟩ => by rw [he]; exact HX.out.1.1.plus e) Tryd.underlying31 rfl (by kernel_rfl) ?_; simp only [Act.put, List.setIfInBounds_toArray, List.set_cons_zero, List.set_cons_succ])
        | (refine wpQuiet_load1 rfl _ (.tmp 55) rfl ⟨gl, ol + i, none⟩ rfl _ Tryd.underlying62 rfl u (fun _ ⟨e, he⟩ => by rw [he, plus_cell _ _ _ HX.out.2.2.2.2]; exact hcX) ?_; simp only [Act.put, List.setIfInBounds_toArray, List.set_cons_zero, List.set_cons_succ])
        | go_big_quiet_step (fail)); refine wpQuiet_nil ?_)
      clear hcX hsl hglX
      refine mix_two_in rfl rfl (fun K hK => ?_) (fun K hK => ?_)
      · have hr := Below.refl X1.heap.size X1
        go_wp2_with fail
        refine (mleaf_any x0 u (L.getD i []) X1 (HX.out.2.1.next hr) (by have := HR.out.2.2.2; omega) (hG.next (HX.out.2.2.1.trans (hr.mono HX.out.2.2.1.size)))).mono ?_
        rintro r Y1 ⟨rfl, hbx⟩
        have hl1 := hr.trans (hbx.mono hr.size)
        clear hbx
        go_wp2_with fail
        refine hK _ _ (below_plus hl1) ?_
        clear hK K
        refine mix_two_in rfl rfl (fun K hK => ?_) (fun K hK => ?_)
        · go_wp2_with fail
          have hadd := add_any x0 I i (by omega) (by omega) A c R HR.out.2.2.1 (leafM (cutW x0) (L.getD i [])) (leafM_length _ _) Y1 (HX.out.1.2.next hl1) (hG.next (HX.out.2.2.1.trans (hl1.mono HX.out.2.2.1.size))) (hT.next (HX.out.2.2.1.trans (hl1.mono HX.out.2.2.1.size)))
          rw [show addV (cutW x0) I i R (leafM (cutW x0) (L.getD i [])) = ⟨I, i + 1, rangeM (cutW x0) L I (i + 1), 0⟩ by rw [← HR.out.1]; exact addV_range (cutW x0) L hIi (by have := Hl.out; omega) (by have := Hl.out; omega)] at hadd
          refine hadd.mono ?_
          clear hadd
          rintro r Y2 ⟨v2, rfl, hown, hbx⟩
          obtain ⟨R2, hR2⟩ : ∃ R2, rangeM (cutW x0) L I (i + 1) = R2 := ⟨_, rfl⟩
          have hown : Y2.ownsRow Y1.heap.size 43 32 v2 R2.length (dcells R2) := by rw [← hR2]; exact hown
          have HR2 := Lib.hid hR2
          clear hR2
          obtain ⟨A2, c2, rfl⟩ := own_slice hown
          have hl2 := hl1.trans (hbx.mono hl1.size)
          go_wp2_with fail
          refine hK _ _ (below_plus hl2) ?_
          clear hK K
          iterate 3 (refine mix_plain rfl ?_; go_big_quiet_step (fail); refine wpQuiet_nil ?_)
          refine mix_only_in rfl (fun K hK => ?_)
          have hBn := Blk.new Y2 31 (rgC 0 0 (.slice none 0 0))
          have hbn := below_new1 Y2 (Obj.cells #[.int .u64 0, .int .u64 0, .slice none 0 0] 31)
          have hl3 := hl2.trans (hbn.mono hl2.size)
          have hgX := hl2.size
          have hown3 := own_base (own_below hown hbn) hl1.size
          go_wp2_with fail
          refine hK _ _ (below_plus hl3) ?_
          clear hK K
          refine mix_only_in rfl (fun K hK => ?_)
          refine wpList_storeAll rfl rfl _ (.tmp 14) (.tmp 59) rfl (Y2.heap.size) rfl (rgC I (i + 1) (.slice A2 R2.length c2)) rfl 31 _ hBn (by kernel_rfl) rfl (rgC_one _ _ _ _ _) ?_
          intro Y4 hB14 hg14
          have hbf := below_only hl3 hg14 (by have := hgX; omega) hl3.size
          have HB14 : Hid (Blk Y4 (Y2.heap.size) 31 (rgC I (i + 1) (.slice A2 R2.length c2)) ∧ Y4.ownsRow X1.heap.size 43 32 (.slice A2 R2.length c2) R2.length (dcells R2) ∧ ∀ g, (Value.slice A2 R2.length c2).ownBlock = some g → some w2.heap.size ≠ some g) := Lib.hid ⟨hB14, own_grown (hown3) hg14 (fun g hg e => own_not (hown3) hBn (by decide) (hg.trans e.symm)), fun g hg e => by have h1 := own_ge (hown3) g hg; have h2 := HX.out.1.1.lt; injection e; omega⟩
          refine hK _ _ (below_plus hbf) ?_
          clear hK K hB14 hg14
          iterate 1 (refine mix_plain rfl ?_; go_big_quiet_step (fail); refine wpQuiet_nil ?_)
          refine mix_done ?_
          have hG12 := (HX.out.1.1.below hbf HX.out.1.1.lt)
          have hB14f := HB14.out.1
          have hbX := HX.out.2.2.2.1.trans (hbf.mono HX.out.2.2.2.1.size)
          have hDXf := HB14.out.2
          have Hf := Lib.hid (And.intro hbX hDXf)
          clear hbX hDXf hbf
          go_wp2_with (first
            | (refine wpList_load_row rfl _ (.tmp 14) rfl (Y2.heap.size) rfl _ _ _ _ hB14f Tryd.underlying31 rfl (by kernel_rfl) ?_)
            | (refine wpList_storeAll rfl rfl _ (.tmp 12) (.tmp 63) rfl w2.heap.size rfl (rgC I (i + 1) (.slice A2 R2.length c2)) rfl 31 _ hG12 (by kernel_rfl) rfl (rgC_one _ _ _ _ _) ?_; intro Z1 hZB hgZ))
          have hbZ := below_only Hf.out.1 hgZ (Nat.le_refl _) Hf.out.1.size
          have hDZ : DX Z1 (.slice A2 R2.length c2) R2 := DX.of_own (own_grown Hf.out.2.1 hgZ Hf.out.2.2)
          refine ⟨⟨i + 1, A2, c2, by omega, by omega, by go_num, by rw [HR2.out]; exact ⟨hZB, hDZ⟩, hbZ⟩, by simp [intOf]; omega⟩
        · have hBn := Blk.new Y1 31 (rgC 0 0 (.slice none 0 0))
          have hbn := below_new1 Y1 (Obj.cells #[.int .u64 0, .int .u64 0, .slice none 0 0] 31)
          have hl3 := hl1.trans (hbn.mono hl1.size)
          have hgX := hl1.size
          go_wp2_with fail
          refine hK _ _ (below_plus hl3) ?_
          clear hK K
          refine mix_atC (fun V => Blk V Y1.heap.size 31 (rgC 0 0 (.slice none 0 0)) ∧ Below X1.heap.size X1 V) ⟨hBn, hl3⟩ ?_
          clear hBn hl3 hbn
          rintro V ⟨hBn, hl3⟩
          refine mix_only_in rfl (fun K hK => ?_)
          go_wp2_with fail
          have hadd := add_any x0 I i (by omega) (by omega) A c R HR.out.2.2.1 (leafM (cutW x0) (L.getD i [])) (leafM_length _ _) V (HX.out.1.2.next hl3) (hG.next (HX.out.2.2.1.trans (hl3.mono HX.out.2.2.1.size))) (hT.next (HX.out.2.2.1.trans (hl3.mono HX.out.2.2.1.size)))
          rw [show addV (cutW x0) I i R (leafM (cutW x0) (L.getD i [])) = ⟨I, i + 1, rangeM (cutW x0) L I (i + 1), 0⟩ by rw [← HR.out.1]; exact addV_range (cutW x0) L hIi (by have := Hl.out; omega) (by have := Hl.out; omega)] at hadd
          refine hadd.mono ?_
          clear hadd
          rintro r Y2 ⟨v2, rfl, hown, hbx⟩
          obtain ⟨R2, hR2⟩ : ∃ R2, rangeM (cutW x0) L I (i + 1) = R2 := ⟨_, rfl⟩
          have hown : Y2.ownsRow V.heap.size 43 32 v2 R2.length (dcells R2) := by rw [← hR2]; exact hown
          have HR2 := Lib.hid hR2
          clear hR2
          obtain ⟨A2, c2, rfl⟩ := own_slice hown
          have hl2 := hl3.trans (hbx.mono hl3.size)
          have hBn2 := hBn.below hbx hBn.lt
          have hown3 := own_base hown hl3.size
          go_wp2_with fail
          refine hK _ _ (below_plus hl2) ?_
          clear hK K
          iterate 3 (refine mix_plain rfl ?_; go_big_quiet_step (fail); refine wpQuiet_nil ?_)
          refine mix_only_in rfl (fun K hK => ?_)
          refine wpList_storeAll rfl rfl _ (.tmp 14) (.tmp 59) rfl (Y1.heap.size) rfl (rgC I (i + 1) (.slice A2 R2.length c2)) rfl 31 _ hBn2 (by kernel_rfl) rfl (rgC_one _ _ _ _ _) ?_
          intro Y4 hB14 hg14
          have hbf := below_only hl2 hg14 (by have := hgX; omega) hl2.size
          have HB14 : Hid (Blk Y4 (Y1.heap.size) 31 (rgC I (i + 1) (.slice A2 R2.length c2)) ∧ Y4.ownsRow X1.heap.size 43 32 (.slice A2 R2.length c2) R2.length (dcells R2) ∧ ∀ g, (Value.slice A2 R2.length c2).ownBlock = some g → some w2.heap.size ≠ some g) := Lib.hid ⟨hB14, own_grown (hown3) hg14 (fun g hg e => own_not (hown3) hBn2 (by decide) (hg.trans e.symm)), fun g hg e => by have h1 := own_ge (hown3) g hg; have h2 := HX.out.1.1.lt; injection e; omega⟩
          refine hK _ _ (below_plus hbf) ?_
          clear hK K hB14 hg14
          iterate 1 (refine mix_plain rfl ?_; go_big_quiet_step (fail); refine wpQuiet_nil ?_)
          refine mix_done ?_
          have hG12 := (HX.out.1.1.below hbf HX.out.1.1.lt)
          have hB14f := HB14.out.1
          have hbX := HX.out.2.2.2.1.trans (hbf.mono HX.out.2.2.2.1.size)
          have hDXf := HB14.out.2
          have Hf := Lib.hid (And.intro hbX hDXf)
          clear hbX hDXf hbf
          go_wp2_with (first
            | (refine wpList_load_row rfl _ (.tmp 14) rfl (Y1.heap.size) rfl _ _ _ _ hB14f Tryd.underlying31 rfl (by kernel_rfl) ?_)
            | (refine wpList_storeAll rfl rfl _ (.tmp 12) (.tmp 63) rfl w2.heap.size rfl (rgC I (i + 1) (.slice A2 R2.length c2)) rfl 31 _ hG12 (by kernel_rfl) rfl (rgC_one _ _ _ _ _) ?_; intro Z1 hZB hgZ))
          have hbZ := below_only Hf.out.1 hgZ (Nat.le_refl _) Hf.out.1.size
          have hDZ : DX Z1 (.slice A2 R2.length c2) R2 := DX.of_own (own_grown Hf.out.2.1 hgZ Hf.out.2.2)
          refine ⟨⟨i + 1, A2, c2, by omega, by omega, by go_num, by rw [HR2.out]; exact ⟨hZB, hDZ⟩, hbZ⟩, by simp [intOf]; omega⟩
      · have hBn := Blk.new X1 31 (rgC 0 0 (.slice none 0 0))
        have hl0 := below_new1 X1 (Obj.cells #[.int .u64 0, .int .u64 0, .slice none 0 0] 31)
        go_wp2_with fail
        refine hK _ _ (below_plus hl0) ?_
        clear hK K
        refine mix_atC (fun V => Blk V X1.heap.size 31 (rgC 0 0 (.slice none 0 0)) ∧ Below X1.heap.size X1 V) ⟨hBn, hl0⟩ ?_
        clear hBn hl0
        rintro V ⟨hBn, hl0⟩
        refine mix_only_in rfl (fun K hK => ?_)
        go_wp2_with fail
        refine (mleaf_any x0 u (L.getD i []) V (HX.out.2.1.next hl0) (by have := HR.out.2.2.2; omega) (hG.next (HX.out.2.2.1.trans (hl0.mono HX.out.2.2.1.size)))).mono ?_
        rintro r Y1 ⟨rfl, hbx⟩
        have hl1 := hl0.trans (hbx.mono hl0.size)
        have hBn1 := hBn.below hbx hBn.lt
        clear hbx
        go_wp2_with fail
        refine hK _ _ (below_plus hl1) ?_
        clear hK K
        refine mix_only_in rfl (fun K hK => ?_)
        go_wp2_with fail
        have hadd := add_any x0 I i (by omega) (by omega) A c R HR.out.2.2.1 (leafM (cutW x0) (L.getD i [])) (leafM_length _ _) Y1 (HX.out.1.2.next hl1) (hG.next (HX.out.2.2.1.trans (hl1.mono HX.out.2.2.1.size))) (hT.next (HX.out.2.2.1.trans (hl1.mono HX.out.2.2.1.size)))
        rw [show addV (cutW x0) I i R (leafM (cutW x0) (L.getD i [])) = ⟨I, i + 1, rangeM (cutW x0) L I (i + 1), 0⟩ by rw [← HR.out.1]; exact addV_range (cutW x0) L hIi (by have := Hl.out; omega) (by have := Hl.out; omega)] at hadd
        refine hadd.mono ?_
        clear hadd
        rintro r Y2 ⟨v2, rfl, hown, hbx⟩
        obtain ⟨R2, hR2⟩ : ∃ R2, rangeM (cutW x0) L I (i + 1) = R2 := ⟨_, rfl⟩
        have hown : Y2.ownsRow Y1.heap.size 43 32 v2 R2.length (dcells R2) := by rw [← hR2]; exact hown
        have HR2 := Lib.hid hR2
        clear hR2
        obtain ⟨A2, c2, rfl⟩ := own_slice hown
        have hl2 := hl1.trans (hbx.mono hl1.size)
        have hBn2 := hBn1.below hbx hBn1.lt
        have hown3 := own_base hown hl1.size
        have hgX := Nat.le_refl X1.heap.size
        go_wp2_with fail
        refine hK _ _ (below_plus hl2) ?_
        clear hK K
        iterate 3 (refine mix_plain rfl ?_; go_big_quiet_step (fail); refine wpQuiet_nil ?_)
        refine mix_only_in rfl (fun K hK => ?_)
        refine wpList_storeAll rfl rfl _ (.tmp 14) (.tmp 59) rfl (X1.heap.size) rfl (rgC I (i + 1) (.slice A2 R2.length c2)) rfl 31 _ hBn2 (by kernel_rfl) rfl (rgC_one _ _ _ _ _) ?_
        intro Y4 hB14 hg14
        have hbf := below_only hl2 hg14 (by have := hgX; omega) hl2.size
        have HB14 : Hid (Blk Y4 (X1.heap.size) 31 (rgC I (i + 1) (.slice A2 R2.length c2)) ∧ Y4.ownsRow X1.heap.size 43 32 (.slice A2 R2.length c2) R2.length (dcells R2) ∧ ∀ g, (Value.slice A2 R2.length c2).ownBlock = some g → some w2.heap.size ≠ some g) := Lib.hid ⟨hB14, own_grown (hown3) hg14 (fun g hg e => own_not (hown3) hBn2 (by decide) (hg.trans e.symm)), fun g hg e => by have h1 := own_ge (hown3) g hg; have h2 := HX.out.1.1.lt; injection e; omega⟩
        refine hK _ _ (below_plus hbf) ?_
        clear hK K hB14 hg14
        iterate 1 (refine mix_plain rfl ?_; go_big_quiet_step (fail); refine wpQuiet_nil ?_)
        refine mix_done ?_
        have hG12 := (HX.out.1.1.below hbf HX.out.1.1.lt)
        have hB14f := HB14.out.1
        have hbX := HX.out.2.2.2.1.trans (hbf.mono HX.out.2.2.2.1.size)
        have hDXf := HB14.out.2
        have Hf := Lib.hid (And.intro hbX hDXf)
        clear hbX hDXf hbf
        go_wp2_with (first
          | (refine wpList_load_row rfl _ (.tmp 14) rfl (X1.heap.size) rfl _ _ _ _ hB14f Tryd.underlying31 rfl (by kernel_rfl) ?_)
          | (refine wpList_storeAll rfl rfl _ (.tmp 12) (.tmp 63) rfl w2.heap.size rfl (rgC I (i + 1) (.slice A2 R2.length c2)) rfl 31 _ hG12 (by kernel_rfl) rfl (rgC_one _ _ _ _ _) ?_; intro Z1 hZB hgZ))
        have hbZ := below_only Hf.out.1 hgZ (Nat.le_refl _) Hf.out.1.size
        have hDZ : DX Z1 (.slice A2 R2.length c2) R2 := DX.of_own (own_grown Hf.out.2.1 hgZ Hf.out.2.2)
        refine ⟨⟨i + 1, A2, c2, by omega, by omega, by go_num, by rw [HR2.out]; exact ⟨hZB, hDZ⟩, hbZ⟩, by simp [intOf]; omega⟩
    · have hlt' : ¬ ((i : Int) < (N : Int)) := by omega
      have hiN2 : i = N := by omega
      subst hiN2
      have H := Lib.hid (And.intro (H2.out.1.next hb) (And.intro (H2.out.2.1.trans (hb.mono H2.out.2.1.size)) hrg))
      clear hrg hb H2

      obtain ⟨R0, hR0⟩ : ∃ R, rangeM (cutW x0) L I i = R := ⟨_, rfl⟩
      have HR0 : Hid (rangeM (cutW x0) L I i = R0 ∧ R0.length ≤ 64 ∧ ∀ d ∈ R0, d.length = 32) := Lib.hid ⟨hR0, by rw [← hR0]; exact rangeM_64 _ _ (by omega), by rw [← hR0]; exact rangeM_mem _ _ _ _⟩
      have H3 := H.out
      rw [hR0] at H3
      have Hx := Lib.hid H3
      clear H H3 hR0
      go_wp2_with fail
      refine calls_at (fun V => SSl V V.heap.size (.slice A0 L.length cap0) L ∧ Below w.heap.size w V ∧ Rg V w2.heap.size I i A c R0) Hx.out ?_
      clear Hx
      rintro V0 H0
      have H := Lib.hid H0
      clear H0
      refine (of_ok x0 A0 cap0 L I i V0 H.out.1 (by have := Hl.out; omega) (fun c hc => by have := Hm.out c hc; omega) hIi (by have := Hl.out; omega) (hG.next H.out.2.1) (hT.next H.out.2.1)).mono ?_
      rintro r W0 ⟨v0, rfl, hown, hbx⟩
      obtain ⟨R1, hR1⟩ : ∃ R, rangeM (cutW x0) L I i = R := ⟨_, rfl⟩
      have HR1 : Hid (rangeM (cutW x0) L I i = R1 ∧ R1.length ≤ 64 ∧ ∀ d ∈ R1, d.length = 32) := Lib.hid ⟨hR1, by rw [← hR1]; exact rangeM_64 _ _ (by omega), by rw [← hR1]; exact rangeM_mem _ _ _ _⟩
      rw [hR1] at hown
      clear hR1
      obtain ⟨A2, c2, rfl⟩ := own_slice hown
      have Hk := Lib.hid (And.intro hown hbx)
      clear hown hbx
      have hn1 := below_new1 W0 (Obj.cells #[.int .u64 (((I : Nat)) : Int), .int .u64 (((i : Nat)) : Int), .slice A2 R1.length c2] 31)
      have Hx : Hid (SSl (W0.alloc (Obj.cells #[.int .u64 ((I : Nat) : Int), .int .u64 ((i : Nat) : Int), .slice A2 R1.length c2] 31)) (W0.alloc (Obj.cells #[.int .u64 ((I : Nat) : Int), .int .u64 ((i : Nat) : Int), .slice A2 R1.length c2] 31)).heap.size (.slice A0 L.length cap0) L ∧ Below w.heap.size w (W0.alloc (Obj.cells #[.int .u64 ((I : Nat) : Int), .int .u64 ((i : Nat) : Int), .slice A2 R1.length c2] 31)) ∧ Rg (W0.alloc (Obj.cells #[.int .u64 ((I : Nat) : Int), .int .u64 ((i : Nat) : Int), .slice A2 R1.length c2] 31)) w2.heap.size I i A c R0 ∧ Rg (W0.alloc (Obj.cells #[.int .u64 ((I : Nat) : Int), .int .u64 ((i : Nat) : Int), .slice A2 R1.length c2] 31)) W0.heap.size I i A2 c2 R1) := Lib.hid ⟨(H.out.1.next Hk.out.2).next hn1, (H.out.2.1.trans (Hk.out.2.mono H.out.2.1.size)).trans (hn1.mono (Nat.le_trans H.out.2.1.size Hk.out.2.size)), (H.out.2.2.next Hk.out.2).next hn1, Rg.mk (b := I) (e := i) Hk.out.1⟩
      clear H Hk hn1
      simp only [rgC, nU]
      go_wp2_with fail
      refine calls_at (fun V => SSl V V.heap.size (.slice A0 L.length cap0) L ∧ Below w.heap.size w V ∧ Rg V w2.heap.size I i A c R0 ∧ Rg V W0.heap.size I i A2 c2 R1) Hx.out ?_
      clear Hx
      rintro V1 H0
      have H := Lib.hid H0
      clear H0
      refine (of_ok x0 A0 cap0 L I K V1 H.out.1 (by have := Hl.out; omega) (fun c hc => by have := Hm.out c hc; omega) hIK (by have := Hl.out; omega) (hG.next H.out.2.1) (hT.next H.out.2.1)).mono ?_
      rintro r W1 ⟨v1, rfl, hown, hbx⟩
      obtain ⟨R2, hR2⟩ : ∃ R, rangeM (cutW x0) L I K = R := ⟨_, rfl⟩
      have HR2 : Hid (rangeM (cutW x0) L I K = R2 ∧ R2.length ≤ 64 ∧ ∀ d ∈ R2, d.length = 32) := Lib.hid ⟨hR2, by rw [← hR2]; exact rangeM_64 _ _ (by omega), by rw [← hR2]; exact rangeM_mem _ _ _ _⟩
      rw [hR2] at hown
      clear hR2
      obtain ⟨A3, c3, rfl⟩ := own_slice hown
      have Hk := Lib.hid (And.intro hown hbx)
      clear hown hbx
      have hn1 := below_new1 W1 (Obj.cells #[.int .u64 (((I : Nat)) : Int), .int .u64 (((K : Nat)) : Int), .slice A3 R2.length c3] 31)
      have Hx : Hid (SSl (W1.alloc (Obj.cells #[.int .u64 ((I : Nat) : Int), .int .u64 ((K : Nat) : Int), .slice A3 R2.length c3] 31)) (W1.alloc (Obj.cells #[.int .u64 ((I : Nat) : Int), .int .u64 ((K : Nat) : Int), .slice A3 R2.length c3] 31)).heap.size (.slice A0 L.length cap0) L ∧ Below w.heap.size w (W1.alloc (Obj.cells #[.int .u64 ((I : Nat) : Int), .int .u64 ((K : Nat) : Int), .slice A3 R2.length c3] 31)) ∧ Rg (W1.alloc (Obj.cells #[.int .u64 ((I : Nat) : Int), .int .u64 ((K : Nat) : Int), .slice A3 R2.length c3] 31)) w2.heap.size I i A c R0 ∧ Rg (W1.alloc (Obj.cells #[.int .u64 ((I : Nat) : Int), .int .u64 ((K : Nat) : Int), .slice A3 R2.length c3] 31)) W0.heap.size I i A2 c2 R1 ∧ Rg (W1.alloc (Obj.cells #[.int .u64 ((I : Nat) : Int), .int .u64 ((K : Nat) : Int), .slice A3 R2.length c3] 31)) W1.heap.size I K A3 c3 R2) := Lib.hid ⟨(H.out.1.next Hk.out.2).next hn1, (H.out.2.1.trans (Hk.out.2.mono H.out.2.1.size)).trans (hn1.mono (Nat.le_trans H.out.2.1.size Hk.out.2.size)), (H.out.2.2.1.next Hk.out.2).next hn1, (H.out.2.2.2.next Hk.out.2).next hn1, Rg.mk (b := I) (e := K) Hk.out.1⟩
      clear H Hk hn1
      simp only [rgC, nU]
      go_wp2_with fail
      refine calls_at (fun V => SSl V V.heap.size (.slice A0 L.length cap0) L ∧ Below w.heap.size w V ∧ Rg V w2.heap.size I i A c R0 ∧ Rg V W0.heap.size I i A2 c2 R1 ∧ Rg V W1.heap.size I K A3 c3 R2) Hx.out ?_
      clear Hx
      rintro V2 H0
      have H := Lib.hid H0
      clear H0
      refine (of_ok x0 A0 cap0 L K i V2 H.out.1 (by have := Hl.out; omega) (fun c hc => by have := Hm.out c hc; omega) hKN (by have := Hl.out; omega) (hG.next H.out.2.1) (hT.next H.out.2.1)).mono ?_
      rintro r W2 ⟨v2, rfl, hown, hbx⟩
      obtain ⟨R3, hR3⟩ : ∃ R, rangeM (cutW x0) L K i = R := ⟨_, rfl⟩
      have HR3 : Hid (rangeM (cutW x0) L K i = R3 ∧ R3.length ≤ 64 ∧ ∀ d ∈ R3, d.length = 32) := Lib.hid ⟨hR3, by rw [← hR3]; exact rangeM_64 _ _ (by omega), by rw [← hR3]; exact rangeM_mem _ _ _ _⟩
      rw [hR3] at hown
      clear hR3
      obtain ⟨A4, c4, rfl⟩ := own_slice hown
      have Hk := Lib.hid (And.intro hown hbx)
      clear hown hbx
      have hn1 := below_new1 W2 (Obj.cells #[.int .u64 (((K : Nat)) : Int), .int .u64 (((i : Nat)) : Int), .slice A4 R3.length c4] 31)
      have Hx : Hid (SSl (W2.alloc (Obj.cells #[.int .u64 ((K : Nat) : Int), .int .u64 ((i : Nat) : Int), .slice A4 R3.length c4] 31)) (W2.alloc (Obj.cells #[.int .u64 ((K : Nat) : Int), .int .u64 ((i : Nat) : Int), .slice A4 R3.length c4] 31)).heap.size (.slice A0 L.length cap0) L ∧ Below w.heap.size w (W2.alloc (Obj.cells #[.int .u64 ((K : Nat) : Int), .int .u64 ((i : Nat) : Int), .slice A4 R3.length c4] 31)) ∧ Rg (W2.alloc (Obj.cells #[.int .u64 ((K : Nat) : Int), .int .u64 ((i : Nat) : Int), .slice A4 R3.length c4] 31)) w2.heap.size I i A c R0 ∧ Rg (W2.alloc (Obj.cells #[.int .u64 ((K : Nat) : Int), .int .u64 ((i : Nat) : Int), .slice A4 R3.length c4] 31)) W0.heap.size I i A2 c2 R1 ∧ Rg (W2.alloc (Obj.cells #[.int .u64 ((K : Nat) : Int), .int .u64 ((i : Nat) : Int), .slice A4 R3.length c4] 31)) W1.heap.size I K A3 c3 R2 ∧ Rg (W2.alloc (Obj.cells #[.int .u64 ((K : Nat) : Int), .int .u64 ((i : Nat) : Int), .slice A4 R3.length c4] 31)) W2.heap.size K i A4 c4 R3) := Lib.hid ⟨(H.out.1.next Hk.out.2).next hn1, (H.out.2.1.trans (Hk.out.2.mono H.out.2.1.size)).trans (hn1.mono (Nat.le_trans H.out.2.1.size Hk.out.2.size)), (H.out.2.2.1.next Hk.out.2).next hn1, (H.out.2.2.2.1.next Hk.out.2).next hn1, (H.out.2.2.2.2.next Hk.out.2).next hn1, Rg.mk (b := K) (e := i) Hk.out.1⟩
      clear H Hk hn1
      simp only [rgC, nU]
      go_wp2_with (first
        | (refine wpList_load_row rfl _ (.tmp 18) rfl (W1.heap.size) rfl _ _ _ _ (Hx.out.2.2.2.2.1).1 Tryd.underlying31 rfl (by kernel_rfl) ?_)
        | (refine wpList_load_row rfl _ (.tmp 20) rfl (W2.heap.size) rfl _ _ _ _ (Hx.out.2.2.2.2.2).1 Tryd.underlying31 rfl (by kernel_rfl) ?_))
      refine calls_at (fun V => SSl V V.heap.size (.slice A0 L.length cap0) L ∧ Below w.heap.size w V ∧ Rg V w2.heap.size I i A c R0 ∧ Rg V W0.heap.size I i A2 c2 R1 ∧ Rg V W1.heap.size I K A3 c3 R2 ∧ Rg V W2.heap.size K i A4 c4 R3) Hx.out ?_
      clear Hx
      rintro V3 H0
      have H := Lib.hid H0
      clear H0
      refine (merge_any x0 I K K i (by omega) (by omega) (by omega) (by omega) A3 c3 A4 c4 R2 R3 (fun d hd => by rcases List.mem_append.1 hd with h | h; exact HR2.out.2.2 d h; exact HR3.out.2.2 d h) V3 H.out.2.2.2.2.1.2 H.out.2.2.2.2.2.2 (hG.next H.out.2.1) (hT.next H.out.2.1)).mono ?_
      rintro r W3 ⟨v3, rfl, hown, hbx⟩
      rw [show mergeV (cutW x0) I K R2 K i R3 = ⟨I, i, rangeM (cutW x0) L I i, 0⟩ by rw [← HR2.out.1, ← HR3.out.1]; exact mergeV_range (cutW x0) L (by omega) (by omega) (by have := Hl.out; omega) (by have := Hl.out; omega)] at hown ⊢
      have hown : W3.ownsRow V3.heap.size 43 32 v3 (rangeM (cutW x0) L I i).length (dcells (rangeM (cutW x0) L I i)) := hown
      obtain ⟨R4, hR4⟩ : ∃ R, rangeM (cutW x0) L I i = R := ⟨_, rfl⟩
      have HR4 : Hid (rangeM (cutW x0) L I i = R4 ∧ R4.length ≤ 64 ∧ ∀ d ∈ R4, d.length = 32) := Lib.hid ⟨hR4, by rw [← hR4]; exact rangeM_64 _ _ (by omega), by rw [← hR4]; exact rangeM_mem _ _ _ _⟩
      rw [hR4] at hown
      clear hR4
      obtain ⟨A5, c5, rfl⟩ := own_slice hown
      have Hk := Lib.hid (And.intro hown hbx)
      clear hown hbx
      have hn1 := below_new1 W3 (Obj.cells #[.int .u64 (((I : Nat)) : Int), .int .u64 (((i : Nat)) : Int), .slice A5 R4.length c5] 31)
      have Hx : Hid (SSl (W3.alloc (Obj.cells #[.int .u64 ((I : Nat) : Int), .int .u64 ((i : Nat) : Int), .slice A5 R4.length c5] 31)) (W3.alloc (Obj.cells #[.int .u64 ((I : Nat) : Int), .int .u64 ((i : Nat) : Int), .slice A5 R4.length c5] 31)).heap.size (.slice A0 L.length cap0) L ∧ Below w.heap.size w (W3.alloc (Obj.cells #[.int .u64 ((I : Nat) : Int), .int .u64 ((i : Nat) : Int), .slice A5 R4.length c5] 31)) ∧ Rg (W3.alloc (Obj.cells #[.int .u64 ((I : Nat) : Int), .int .u64 ((i : Nat) : Int), .slice A5 R4.length c5] 31)) w2.heap.size I i A c R0 ∧ Rg (W3.alloc (Obj.cells #[.int .u64 ((I : Nat) : Int), .int .u64 ((i : Nat) : Int), .slice A5 R4.length c5] 31)) W0.heap.size I i A2 c2 R1 ∧ Rg (W3.alloc (Obj.cells #[.int .u64 ((I : Nat) : Int), .int .u64 ((i : Nat) : Int), .slice A5 R4.length c5] 31)) W1.heap.size I K A3 c3 R2 ∧ Rg (W3.alloc (Obj.cells #[.int .u64 ((I : Nat) : Int), .int .u64 ((i : Nat) : Int), .slice A5 R4.length c5] 31)) W2.heap.size K i A4 c4 R3 ∧ Rg (W3.alloc (Obj.cells #[.int .u64 ((I : Nat) : Int), .int .u64 ((i : Nat) : Int), .slice A5 R4.length c5] 31)) W3.heap.size I i A5 c5 R4) := Lib.hid ⟨(H.out.1.next Hk.out.2).next hn1, (H.out.2.1.trans (Hk.out.2.mono H.out.2.1.size)).trans (hn1.mono (Nat.le_trans H.out.2.1.size Hk.out.2.size)), (H.out.2.2.1.next Hk.out.2).next hn1, (H.out.2.2.2.1.next Hk.out.2).next hn1, (H.out.2.2.2.2.1.next Hk.out.2).next hn1, (H.out.2.2.2.2.2.next Hk.out.2).next hn1, Rg.mk (b := I) (e := i) Hk.out.1⟩
      clear H Hk hn1
      simp only [rgC, nU]
      go_upto_region 17 with fail
      refine wp_region_mixP (.plain 0 <| .plain 1 <| .plain 2 <| .plain 3 <| .plain 4 <| .plain 5 <| .plain 6 <| .plain 7 <| .plain 8 <| .plain 9 <| .plain 10 <| .plain 11 <| .plain 12 <| .plain 13 <| .plain 14 <| .plain 15 <| .plain 16 <| .only 17 <| .only 18 <| .plain 19 <| .plain 20 <| .plain 21 <| .plain 22 <| .plain 23 <| .only 24 <| .only 25 <| .plain 26 <| .plain 27 <| .plain 28 <| .plain 29 <| .plain 30 <| .plain 31 <| .plain 32 <| .plain 33 <| .plain 34 <| .plain 35 <| .plain 36 <| .only 37 <| .plain 38 <| .plain 39 <| .plain 40 <| .plain 41 <| .done) (by kernel_rfl) (by kernel_rfl) (fun X1 hb1 => ?_)
      have H12 := Lib.hid (Hx.out.2.2.1.next hb1)
      have H16 := Lib.hid (Hx.out.2.2.2.1.next hb1)
      have H22 := Lib.hid (Hx.out.2.2.2.2.2.2.next hb1)
      have HS := Lib.hid (Hx.out.1.next hb1)
      have HB := Lib.hid (Hx.out.2.1.trans (hb1.mono Hx.out.2.1.size))
      clear hb1 Hx
      have he1 : R1 = R0 := HR1.out.1.symm.trans HR0.out.1
      subst he1
      have he4 : R4 = R1 := HR4.out.1.symm.trans HR1.out.1
      subst he4
      have hbl : (blocksL I i).length = R4.length := by rw [← HR4.out.1]; exact (rangeM_length _ _ _ _).symm
      have Hbl := Lib.hid hbl
      clear hbl
      have hwR : IntKind.u64.wrap (R4.length : Int) = (R4.length : Int) := IntWalk.u64_in _ (by have := HR4.out.2.1; omega)
      iterate 17 (refine mix_plain rfl ?_; (first
        | (refine wpQuiet_load rfl _ (.tmp 12) rfl (w2.heap.size) rfl _ (rgC I i (.slice A R4.length c)) _ _ (fun _ ⟨e, he⟩ => by rw [he]; exact H12.out.1.plus e) Tryd.underlying31 rfl (by kernel_rfl) ?_; simp only [Act.put, List.setIfInBounds_toArray, List.set_cons_zero, List.set_cons_succ])
        | (refine wpQuiet_load rfl _ (.tmp 16) rfl (W0.heap.size) rfl _ (rgC I i (.slice A2 R4.length c2)) _ _ (fun _ ⟨e, he⟩ => by rw [he]; exact H16.out.1.plus e) Tryd.underlying31 rfl (by kernel_rfl) ?_; simp only [Act.put, List.setIfInBounds_toArray, List.set_cons_zero, List.set_cons_succ])
        | go_big_quiet_step (fail)); refine wpQuiet_nil ?_)
      refine mix_only_in rfl (fun K hK => ?_)
      refine wpList_unguard rfl ?_
      go_wp2_with fail
      refine (plain_any I i A2 R4.length c2 X1).mono ?_
      rintro r X2 ⟨rfl, hbx⟩
      have q2 := hbx
      clear hbx
      go_wp2_with fail
      refine hK _ _ (below_plus q2) ?_
      clear hK K
      refine mix_only_in rfl (fun K hK => ?_)
      refine wpList_unguard rfl ?_
      go_wp2_with fail
      refine (same10_any I i A A2 c c2 R4 HR4.out.2.2 (by have := HR4.out.2.1; omega) X2 (H12.out.2.next q2) (H16.out.2.next q2)).mono ?_
      rintro r X3 ⟨rfl, hbx⟩
      have q3 := q2.trans (hbx.mono q2.size)
      clear hbx
      go_wp2_with fail
      refine hK _ _ (below_plus q3) ?_
      clear hK K
      iterate 5 (refine mix_plain rfl ?_; (first
        | (refine wpQuiet_load rfl _ (.tmp 22) rfl (W3.heap.size) rfl _ (rgC I i (.slice A5 R4.length c5)) _ _ (fun _ ⟨e, he⟩ => by rw [he]; exact H22.out.1.plus e) Tryd.underlying31 rfl (by kernel_rfl) ?_; simp only [Act.put, List.setIfInBounds_toArray, List.set_cons_zero, List.set_cons_succ])
        | (refine wpQuiet_load rfl _ (.tmp 16) rfl (W0.heap.size) rfl _ (rgC I i (.slice A2 R4.length c2)) _ _ (fun _ ⟨e, he⟩ => by rw [he]; exact H16.out.1.plus e) Tryd.underlying31 rfl (by kernel_rfl) ?_; simp only [Act.put, List.setIfInBounds_toArray, List.set_cons_zero, List.set_cons_succ])
        | go_big_quiet_step (fail)); refine wpQuiet_nil ?_)
      refine mix_only_in rfl (fun K hK => ?_)
      refine wpList_unguard rfl ?_
      go_wp2_with fail
      refine (plain_any I i A2 R4.length c2 X3).mono ?_
      rintro r X4 ⟨rfl, hbx⟩
      have q4 := q3.trans (hbx.mono q3.size)
      clear hbx
      go_wp2_with fail
      refine hK _ _ (below_plus q4) ?_
      clear hK K
      refine mix_only_in rfl (fun K hK => ?_)
      refine wpList_unguard rfl ?_
      go_wp2_with fail
      refine (same10_any I i A5 A2 c5 c2 R4 HR4.out.2.2 (by have := HR4.out.2.1; omega) X4 (H22.out.2.next q4) (H16.out.2.next q4)).mono ?_
      rintro r X5 ⟨rfl, hbx⟩
      have q5 := q4.trans (hbx.mono q4.size)
      clear hbx
      go_wp2_with fail
      refine hK _ _ (below_plus q5) ?_
      clear hK K
      iterate 11 (refine mix_plain rfl ?_; (first
        | (refine wpQuiet_load1 rfl _ (.tmp 130) rfl _ rfl _ Tryd.underlying29 rfl (.slice A2 R4.length c2) (fun _ ⟨e, he⟩ => by rw [he]; exact (H16.out.1.plus e).cell 2) ?_; simp only [Act.put, List.setIfInBounds_toArray, List.set_cons_zero, List.set_cons_succ])
        | go_big_quiet_step (fail)); refine wpQuiet_nil ?_)
      refine mix_only_in rfl (fun K hK => ?_)
      refine wpList_unguard rfl ?_
      go_wp2_with fail
      refine (blocks_any I i (by omega) (by omega) X5 (hT.next (HB.out.trans (q5.mono HB.out.size)))).mono ?_
      rintro r X6 ⟨u6, rfl, hu, hbx⟩
      rw [show toldL I i = blocksL I i from if_pos (by omega)] at hu
      obtain ⟨Ab, cb, rfl, _⟩ := hu.cells
      rw [Hbl.out]
      have q6 := q5.trans (hbx.mono q5.size)
      clear hu hbx
      go_wp2_with fail
      refine hK _ _ (below_plus q6) ?_
      clear hK K
      iterate 4 (refine mix_plain rfl ?_; go_big_quiet_step (fail); refine wpQuiet_nil ?_)
      refine mix_done ?_
      have HB6 := Lib.hid (HB.out.trans (q6.mono HB.out.size))
      have H16b := Lib.hid (H16.out.next q6)
      have HS6 := Lib.hid (HS.out.next q6)
      have hB16 := H16b.out.1
      clear q2 q3 q4 q5 q6 H12 H22 HB HS H16 hwR
      go_wp2_with (first
        | (refine wpList_load_row rfl _ (.tmp 16) rfl (W0.heap.size) rfl _ _ _ _ hB16 Tryd.underlying31 rfl (by kernel_rfl) ?_))
      refine (croot_any x0 I i (by omega) (by omega) A2 c2 R4 HR4.out.2.2 (by have := HR4.out.2.1; omega) X6 H16b.out.2 (hG.next HB6.out) (hT.next HB6.out)).mono ?_
      rintro r X7 ⟨rfl, hb7⟩
      have HB7 := Lib.hid (HB6.out.trans (hb7.mono HB6.out.size))
      have HS7 := Lib.hid (HS6.out.next hb7)
      clear hb7 hB16
      by_cases hI0 : 0 < I
      case pos =>
        rw [show rootV (cutW x0) I i R4 = (zeroD, 25) by rw [← HR4.out.1]; exact rootV_some (cutW x0) L hI0 (by omega) (by omega)]
        have hI0' : (0 : Int) < (I : Int) := by omega
        have hD := Blk.new X7 43 (arr 32 fun _ => 0)
        have hbn := below_new1 X7 (Obj.cells (arr 32 fun _ => 0) 43)
        go_upto_region 20 with (first
          | (refine wpList_storeDat rfl rfl 43 (.tmp 24) (.tmp 147) rfl X7.heap.size rfl _ _ rfl _ hD (by kernel_rfl) ?_; intro X8 hZ hon3))
        have hb8 := below_only hbn hon3 (Nat.le_refl _) hbn.size
        have HB8 := Lib.hid (HB7.out.trans (hb8.mono HB7.out.size))
        have HS8 := Lib.hid (HS7.out.next hb8)
        clear hb8 hon3 hbn hD
        refine wp_region_mixP (.plain 0 <| .plain 1 <| .plain 2 <| .plain 3 <| .plain 4 <| .plain 5 <| .plain 6 <| .plain 7 <| .plain 8 <| .plain 9 <| .plain 10 <| .plain 11 <| .plain 12 <| .plain 13 <| .plain 14 <| .plain 15 <| .plain 16 <| .only 17 <| .plain 18 <| .plain 19 <| .plain 20 <| .plain 21 <| .only 22 <| .plain 23 <| .plain 24 <| .done) (by kernel_rfl) (by kernel_rfl) (fun X9 hb9 => ?_)
        have hbk := HB8.out.trans (hb9.mono HB8.out.size)
        clear hb9
        iterate 7 (refine mix_plain rfl ?_; go_big_quiet_step (fail); refine wpQuiet_nil ?_)
        iterate 10 (refine mix_skip rfl rfl ?_; simp only [Act.put, List.setIfInBounds_toArray, List.set_cons_zero, List.set_cons_succ])
        refine mix_only_in rfl (fun K hK => ?_)
        go_wp2_with fail
        refine hK _ _ in_plus ?_
        clear hK K
        iterate 2 (refine mix_skip rfl rfl ?_; simp only [Act.put, List.setIfInBounds_toArray, List.set_cons_zero, List.set_cons_succ])
        iterate 2 (refine mix_plain rfl ?_; go_big_quiet_step (fail); refine wpQuiet_nil ?_)
        refine mix_only_in rfl (fun K hK => ?_)
        refine wpList_unguard rfl ?_
        go_wp2_with fail
        refine (known10_any _ (hG.next hbk) (hT.next hbk)).mono ?_
        rintro r X12 ⟨rfl, hbx⟩
        go_wp2_with fail
        refine hK _ _ (below_plus hbx) ?_
        clear hK K
        iterate 2 (refine mix_plain rfl ?_; go_big_quiet_step (fail); refine wpQuiet_nil ?_)
        refine mix_done ?_
        go_wp2_with fail
        go_ret
        exact ⟨rfl, hbk.trans (hbx.mono hbk.size)⟩
      obtain rfl : I = 0 := by omega
      rw [show rootV (cutW x0) 0 i R4 = (rootM (cutW x0) L, 0) by rw [← HR4.out.1]; have := rootV_range (cutW x0) L (by have := Hl.out; omega); rw [Hl.out] at this; exact this]
      obtain ⟨rt, hrt⟩ : ∃ rt, rootM (cutW x0) L = rt := ⟨_, rfl⟩
      have HRt : Hid (rootM (cutW x0) L = rt ∧ rt.length = 32) := Lib.hid ⟨hrt, by rw [← hrt]; exact rootM_length _ _⟩
      rw [hrt]
      clear hrt hI0
      have hD := Blk.new X7 43 (arr 32 fun _ => 0)
      have hbn := below_new1 X7 (Obj.cells (arr 32 fun _ => 0) 43)
      go_upto_region 20 with (first
        | (refine wpList_storeDat rfl rfl 43 (.tmp 24) (.tmp 147) rfl X7.heap.size rfl _ _ rfl _ hD (by kernel_rfl) ?_; intro X8 hZ hon3))
      have hb8 := below_only hbn hon3 (Nat.le_refl _) hbn.size
      have HB8 := Lib.hid (HB7.out.trans (hb8.mono HB7.out.size))
      have HS8 := Lib.hid (HS7.out.next hb8)
      clear hb8 hon3 hbn hD
      refine wp_region_mixP (.plain 0 <| .plain 1 <| .plain 2 <| .plain 3 <| .plain 4 <| .plain 5 <| .plain 6 <| .plain 7 <| .plain 8 <| .plain 9 <| .plain 10 <| .plain 11 <| .plain 12 <| .plain 13 <| .plain 14 <| .plain 15 <| .plain 16 <| .only 17 <| .plain 18 <| .plain 19 <| .plain 20 <| .plain 21 <| .only 22 <| .plain 23 <| .plain 24 <| .done) (by kernel_rfl) (by kernel_rfl) (fun X9 hb9 => ?_)
      replace hZ := hZ.below hb9 hZ.lt
      have hbk0 := HB8.out.trans (hb9.mono HB8.out.size)
      have hS9 := Lib.hid (HS8.out.next hb9)
      clear hb9
      iterate 3 (refine mix_plain rfl ?_; go_big_quiet_step (fail); refine wpQuiet_nil ?_)
      iterate 2 (refine mix_skip rfl rfl ?_; simp only [Act.put, List.setIfInBounds_toArray, List.set_cons_zero, List.set_cons_succ])
      iterate 12 (refine mix_plain rfl ?_; (first
        | (refine wpQuiet_load rfl _ (.tmp 24) rfl X7.heap.size rfl _ (dat rt) _ _ (fun _ ⟨e, he⟩ => by rw [he]; exact hZ.plus e) Tryd.underlying43 rfl (by rw [dat_size]; kernel_rfl) ?_; simp only [Act.put, List.setIfInBounds_toArray, List.set_cons_zero, List.set_cons_succ])
        | go_big_quiet_step (fail)); refine wpQuiet_nil ?_)
      refine mix_only_in rfl (fun K hK => ?_)
      refine wpList_unguard rfl ?_
      go_wp2_with fail
      refine (mroot_any x0 _ L X9 hS9.out (by have := Hl.out; omega) (fun c hc => by have := Hm.out c hc; omega) (hG.next hbk0)).mono ?_
      rintro r X10 ⟨rfl, hb10⟩
      rw [HRt.out.1]
      have hbk := hbk0.trans (hb10.mono hbk0.size)
      go_wp2_with fail
      refine hK _ _ (below_plus hb10) ?_
      clear hK K
      iterate 4 (refine mix_plain rfl ?_; (first
        | (refine wpQuiet_eqD rfl (.tmp 163) (.tmp 166) _ rfl rt rt rfl rfl HRt.out.2 HRt.out.2 true (decide_eq_true rfl) ?_; simp only [Act.put, List.setIfInBounds_toArray, List.set_cons_zero, List.set_cons_succ])
        | go_big_quiet_step (fail)); refine wpQuiet_nil ?_)
      refine mix_only_in rfl (fun K hK => ?_)
      refine wpList_unguard rfl ?_
      go_wp2_with fail
      refine (known10_any _ (hG.next hbk) (hT.next hbk)).mono ?_
      rintro r X12 ⟨rfl, hbx⟩
      go_wp2_with fail
      refine hK _ _ (below_plus (hb10.trans (hbx.mono hb10.size))) ?_
      clear hK K
      iterate 2 (refine mix_plain rfl ?_; go_big_quiet_step (fail); refine wpQuiet_nil ?_)
      refine mix_done ?_
      go_wp2_with fail
      go_ret
      exact ⟨rfl, hbk.trans (hbx.mono hbk.size)⟩
end Go.Proofs.YtkogehkmldbhgaaDoor
