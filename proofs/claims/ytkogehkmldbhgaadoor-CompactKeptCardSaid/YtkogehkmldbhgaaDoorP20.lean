/- Texts that stand behind one another: CmpN. No condition. -/
import Derived.Test.YtkogehkmldbhgaaDoorP19
/- The walks of the reference's Merge. No condition. -/
namespace Go.Proofs.YtkogehkmldbhgaaDoor
open Go Go.RowKit
attribute [local irreducible] mixW
attribute [local go_sem] n8_lo n8_hi n64_lo n64_hi n32_lo n32_hi
set_option maxHeartbeats 1000000 in
set_option maxRecDepth 100000 in
theorem rmerge_any (hv : Value) (n0 : Nat) (b1 e1 b2 e2 : Nat) (hb1 : b1 < 18446744073709551616) (he1 : e1 < 18446744073709551616) (hb2 : b2 < 18446744073709551616) (he2 : e2 < 18446744073709551616) (A1 : Option Addr) (c1 : Nat) (A2 : Option Addr) (c2 : Nat) (h1 h2 : List (List UInt8)) (hall : ∀ d ∈ h1 ++ h2, d.length = 32) (w : World) (hX : DX w (.slice A1 h1.length c1) h1) (hY : DX w (.slice A2 h2.length c2) h2) (hh : Hsr w w.heap.size hv n0) :
    Calls Tryd.prog 22 #[hv, .agg (rgC b1 e1 (.slice A1 h1.length c1)), .agg (rgC b2 e2 (.slice A2 h2.length c2))] w fun r w' => Told w w' r (mergeV (n0) b1 e1 h1 b2 e2 h2) := by
  have Hall := Lib.hid hall
  clear hall
  obtain ⟨y, hy⟩ : ∃ y, mergeV (n0) b1 e1 h1 b2 e2 h2 = y := ⟨_, rfl⟩
  rw [hy]
  have Hy := Lib.hid hy
  clear hy
  unfold Told
  have hA := ((Blk.new w 35 (rgC b1 e1 (.slice A1 h1.length c1))).alloc (Obj.cells (rgC b2 e2 (.slice A2 h2.length c2)) 35)).alloc (Obj.cells (rgC 0 0 (.slice none 0 0)) 35)
  have hB := (Blk.new2 w (Obj.cells (rgC b1 e1 (.slice A1 h1.length c1)) 35) 35 (rgC b2 e2 (.slice A2 h2.length c2))).alloc (Obj.cells (rgC 0 0 (.slice none 0 0)) 35)
  have hR := blk_new3j w (Obj.cells (rgC b1 e1 (.slice A1 h1.length c1)) 35) (Obj.cells (rgC b2 e2 (.slice A2 h2.length c2)) 35) 35 (rgC 0 0 (.slice none 0 0))
  have hbn := below_new3j w (Obj.cells (rgC b1 e1 (.slice A1 h1.length c1)) 35) (Obj.cells (rgC b2 e2 (.slice A2 h2.length c2)) 35) (Obj.cells (rgC 0 0 (.slice none 0 0)) 35)
  unfold rgC at hA hB hR hbn ⊢
  simp only [nU] at hA hB hR hbn ⊢
  go_enter Tryd.func22, Tryd.ntmps22
  go_wp2_with fail
  refine calls_at (fun W => Blk W w.heap.size 35 (rgC b1 e1 (.slice A1 h1.length c1)) ∧ Blk W (w.heap.size + 1) 35 (rgC b2 e2 (.slice A2 h2.length c2)) ∧ Blk W (w.heap.size + 2) 35 (rgC 0 0 (.slice none 0 0)) ∧ Below w.heap.size w W) ⟨hA, hB, hR, hbn⟩ ?_
  clear hA hB hR hbn
  rintro W ⟨hA, hB, hR, hbel⟩
  refine (rright_any b1 e1 hb1 he1 A1 h1.length c1 W).mono ?_
  rintro r W1 ⟨rfl, hbx⟩
  replace hA := hA.below hbx hA.lt
  replace hB := hB.below hbx hB.lt
  replace hR := hR.below hbx hR.lt
  replace hbel := hbel.trans (hbx.mono hbel.size)
  clear hbx
  cases hr1 : rightB b1 e1 h1.length with
  | false =>
    have hyy := Hy.out
    unfold mergeV at hyy
    rw [hr1, if_pos rfl] at hyy
    subst hyy
    go_wp2_with (first
      | (refine wpList_storeAll rfl rfl _ (.tmp 6) (.tmp 18) rfl (w.heap.size + 2) rfl (rgC 0 0 (.slice none 0 0)) rfl 35 _ hR (by kernel_rfl) rfl (rgC_one _ _ _ _ _) ?_; intro w8 h08 hg8))
    have hbel8 := below_only hbel hg8 (by omega) hbel.size
    exact bodyPost_ret (results_cell_two (p := 6) (q := 7) (ty := 35) rfl _ _ (w.heap.size + 2) _ _ _ _ rfl h08 Tryd.underlying35 rfl (by kernel_rfl)) rfl ⟨_, rfl, World.ownsRow_nil _ _ _ _, hbel8⟩
  | true =>
    go_wp2_with (first
      | (refine wpList_loadW (by rfl) 35 (.tmp 5) rfl (w.heap.size + 1) rfl _ _ _ hB Tryd.underlying35 rfl (by kernel_rfl) ?_))
    refine (rright_any b2 e2 hb2 he2 A2 h2.length c2 W1).mono ?_
    rintro r W2 ⟨rfl, hbx⟩
    replace hA := hA.below hbx hA.lt
    replace hB := hB.below hbx hB.lt
    replace hR := hR.below hbx hR.lt
    replace hbel := hbel.trans (hbx.mono hbel.size)
    clear hbx
    cases hr2 : rightB b2 e2 h2.length with
    | false =>
      have hyy := Hy.out
      unfold mergeV at hyy
      rw [hr1, if_neg (by decide), hr2, if_pos rfl] at hyy
      subst hyy
      go_wp2_with (first
        | (refine wpList_storeAll rfl rfl _ (.tmp 6) (.tmp 18) rfl (w.heap.size + 2) rfl (rgC 0 0 (.slice none 0 0)) rfl 35 _ hR (by kernel_rfl) rfl (rgC_one _ _ _ _ _) ?_; intro w8 h08 hg8))
      have hbel8 := below_only hbel hg8 (by omega) hbel.size
      exact bodyPost_ret (results_cell_two (p := 6) (q := 7) (ty := 35) rfl _ _ (w.heap.size + 2) _ _ _ _ rfl h08 Tryd.underlying35 rfl (by kernel_rfl)) rfl ⟨_, rfl, World.ownsRow_nil _ _ _ _, hbel8⟩
    | true =>
      have cA : W2.cell? ⟨w.heap.size, 1, none⟩ = some (.int .u64 (e1 : Int)) := hA.cell 1
      have cB : W2.cell? ⟨w.heap.size + 1, 0, none⟩ = some (.int .u64 (b2 : Int)) := hB.cell 0
      by_cases heq : e1 = b2
      case neg =>
        have hyy := Hy.out
        unfold mergeV at hyy
        rw [hr1, if_neg (by decide), hr2, if_neg (by decide), if_pos heq] at hyy
        subst hyy
        have heq' : ((e1 : Int) != (b2 : Int)) = true := by simp; omega
        go_wp2_with (first
          | (refine wpList_storeAll rfl rfl _ (.tmp 6) (.tmp 24) rfl (w.heap.size + 2) rfl (rgC 0 0 (.slice none 0 0)) rfl 35 _ hR (by kernel_rfl) rfl (rgC_one _ _ _ _ _) ?_; intro w8 h08 hg8))
        have hbel8 := below_only hbel hg8 (by omega) hbel.size
        exact bodyPost_ret (results_cell_two (p := 6) (q := 7) (ty := 35) rfl _ _ (w.heap.size + 2) _ _ _ _ rfl h08 Tryd.underlying35 rfl (by kernel_rfl)) rfl ⟨_, rfl, World.ownsRow_nil _ _ _ _, hbel8⟩
      subst heq
      have hyy := Hy.out
      unfold mergeV at hyy
      rw [hr1, if_neg (by decide), hr2, if_neg (by decide), if_neg (by simp)] at hyy
      subst hyy
      have O1 := Lib.hid (rightB_ok hr1)
      have O2 := Lib.hid (rightB_ok hr2)
      have heq' : ((e1 : Int) != (e1 : Int)) = false := by simp
      have hl1 : h1.length ≤ 64 := by rw [O1.out.2.2]; exact blocks_many 32 (by decide) (by have := O1.out.2.1; omega)
      have hl2 : h2.length ≤ 64 := by rw [O2.out.2.2]; exact blocks_many 32 (by decide) (by have := O2.out.2.1; omega)
      have hbm := O1.out.1
      have hme := O2.out.1
      have hE := O2.out.2.1
      have hstk := join_stk n0 O1.out.1 O2.out.1 O1.out.2.2 O2.out.2.2
      have hfst := joinT_fst O1.out.2.2 O2.out.2.2
      have hsnd := joinT_snd O1.out.2.2 O2.out.2.2
      have hjm : joinM n0 b1 e1 e2 h1 h2 = (joinF (nodeM n0) [] b1 (joinT b1 e1 e2 h1 h2)).reverse.map Prod.snd := rfl
      have hLl : (joinT b1 e1 e2 h1 h2).length = h1.length + h2.length := by rw [← List.length_map (f := Prod.snd), hsnd, List.length_append]
      have hLm : ∀ q ∈ joinT b1 e1 e2 h1 h2, q.2.length = 32 := fun q hq => Hall.out q.2 (by rw [← hsnd]; exact List.mem_map_of_mem hq)
      generalize joinT b1 e1 e2 h1 h2 = L at hstk hfst hsnd hLl hLm hjm
      generalize joinF (nodeM n0) [] b1 L = st at hstk hjm
      obtain ⟨Ds, hDs0⟩ : ∃ Ds, st.reverse.map Prod.snd = Ds := ⟨_, rfl⟩
      rw [hDs0] at hjm
      have HDs := Lib.hid hDs0
      clear hDs0
      have HJ := Lib.hid hjm
      have HL := Lib.hid (And.intro hstk (And.intro hfst (And.intro hsnd (And.intro hLl hLm))))
      clear hstk hfst hsnd hLl hLm hjm
      have HW := Lib.hid (And.intro (hX.next hbel) (And.intro (hY.next hbel) (And.intro (hh.nxt hbel) hbel)))
      have hsz := hbel.size
      clear hX hY hh hbel
      go_wp2_with fail
      clear cA cB
      refine wp_region_mixP (.plain 0 <| .plain 1 <| .plain 2 <| .plain 3 <| .plain 5 <| .plain 6 <| .plain 7 <| .plain 8 <| .only 4 <| .only 9 <| .only 10 <| .plain 11 <| .done) (by kernel_rfl) (by kernel_rfl) (fun V1 hv1 => ?_)
      replace hA := hA.below hv1 hA.lt
      replace hB := hB.below hv1 hB.lt
      replace hR := hR.below hv1 hR.lt
      have HV1 := Lib.hid hv1
      clear hv1
      have c0 : ∀ x, (plus V1 x).cell? ⟨w.heap.size, 0, none⟩ = some (.int .u64 (b1 : Int)) := fun x => (hA.plus x).cell 0
      have c1' : ∀ x, (plus V1 x).cell? ⟨w.heap.size, 1, none⟩ = some (.int .u64 (e1 : Int)) := fun x => (hA.plus x).cell 1
      have c2' : ∀ x, (plus V1 x).cell? ⟨w.heap.size + 1, 0, none⟩ = some (.int .u64 (e1 : Int)) := fun x => (hB.plus x).cell 0
      have c3 : ∀ x, (plus V1 x).cell? ⟨w.heap.size + 1, 1, none⟩ = some (.int .u64 (e2 : Int)) := fun x => (hB.plus x).cell 1
      iterate 8 (refine mix_plain rfl ?_; go_big_quiet_step (fail); refine wpQuiet_nil ?_)
      clear c0 c1' c2' c3
      refine mix_only_in rfl (fun K hK => ?_)
      go_wp2_with fail
      refine (rblocks_any b1 e1 (by omega) (by omega) V1).mono ?_
      rintro r V2 ⟨u1, rfl, hu1, hbx⟩
      rw [show toldL b1 e1 = blocksL b1 e1 from if_pos (by omega)] at hu1
      have H1 := Lib.hid (And.intro hu1 hbx)
      clear hu1 hbx
      go_wp2_with fail
      refine hK _ _ (below_plus H1.out.2) ?_
      clear hK K
      refine mix_only_in rfl (fun K hK => ?_)
      go_wp2_with fail
      refine (rblocks_any e1 e2 (by omega) (by omega) V2).mono ?_
      rintro r V3 ⟨u2, rfl, hu2, hbx⟩
      rw [show toldL e1 e2 = blocksL e1 e2 from if_pos (by omega)] at hu2
      have H2 := Lib.hid (And.intro hu2 (And.intro (own_below H1.out.1 hbx) (H1.out.2.trans (hbx.mono H1.out.2.size))))
      clear hu2 hbx H1
      go_wp2_with fail
      refine hK _ _ (below_plus H2.out.2.2) ?_
      clear hK K
      obtain ⟨A3, c3, rfl, _, _, hr3⟩ := H2.out.1.nsl
      have Hr3 := Lib.hid hr3
      clear hr3
      refine mix_only_in rfl (fun K hK => ?_)
      refine wpList_appendUl rfl (.tmp 29) (.tmp 34) rfl V1.heap.size _ (blocksL b1 e1) rfl H2.out.2.1 A3 c3 (blocksL e1 e2) rfl Hr3.out (by have := O1.out.2.2; have := O2.out.2.2; omega) H2.out.2.2.size ?_
      intro u4 V4 hu4 hg4
      have hb4 := below_own H2.out.2.2 H2.out.2.1 hg4 H2.out.2.2.size
      rw [← HL.out.2.1] at hu4
      have H4 := Lib.hid (And.intro hu4 hb4)
      clear hu4 hb4 hg4 H2 Hr3
      simp only [Act.put, List.setIfInBounds_toArray, List.set_cons_zero, List.set_cons_succ]
      refine hK _ _ (below_plus H4.out.2) ?_
      clear hK K
      iterate 1 (refine mix_plain rfl ?_; go_big_quiet_step (fail); refine wpQuiet_nil ?_)
      refine mix_done ?_
      go_wp2_with fail
      refine wp_region_mixP (.plain 1 <| .plain 2 <| .plain 4 <| .plain 5 <| .only 0 <| .only 3 <| .only 6 <| .plain 7 <| .done) (by kernel_rfl) (by kernel_rfl) (fun X1 hx1 => ?_)
      replace hA := (hA.below H4.out.2 hA.lt).below hx1 (Nat.lt_of_lt_of_le hA.lt H4.out.2.size)
      replace hB := (hB.below H4.out.2 hB.lt).below hx1 (Nat.lt_of_lt_of_le hB.lt H4.out.2.size)
      replace hR := (hR.below H4.out.2 hR.lt).below hx1 (Nat.lt_of_lt_of_le hR.lt H4.out.2.size)
      have hbX := (HV1.out.trans (H4.out.2.mono HV1.out.size)).trans (hx1.mono (Nat.le_trans HV1.out.size H4.out.2.size))
      have HX := Lib.hid (And.intro (own_below H4.out.1 hx1) (And.intro (HW.out.1.next hbX) (And.intro (HW.out.2.1.next hbX) (And.intro (HW.out.2.2.1.nxt hbX) (HW.out.2.2.2.trans (hbX.mono HW.out.2.2.2.size))))))
      have hVX : V1.heap.size ≤ X1.heap.size := Nat.le_trans H4.out.2.size hx1.size
      have hWV : W2.heap.size ≤ V1.heap.size := HV1.out.size
      clear hx1 hbX HW H4 HV1
      have c0 : ∀ x, (plus X1 x).cell? ⟨w.heap.size, 2, none⟩ = some (.slice A1 h1.length c1) := fun x => (hA.plus x).cell 2
      have c1' : ∀ x, (plus X1 x).cell? ⟨w.heap.size + 1, 2, none⟩ = some (.slice A2 h2.length c2) := fun x => (hB.plus x).cell 2
      iterate 4 (refine mix_plain rfl ?_; go_big_quiet_step (fail); refine wpQuiet_nil ?_)
      clear c0 c1'
      refine mix_only_in rfl (fun K hK => ?_)
      have hbn := below_new1 X1 (Obj.cells #[] 43)
      have hoe : (X1.alloc (Obj.cells #[] 43)).ownsRow X1.heap.size 43 32 (.slice (some ⟨X1.heap.size, 0, none⟩) 0 0) ([] : List (List UInt8)).length (dcells []) := ⟨rfl, .inr ⟨X1.heap.size, 0, #[], rfl, Nat.le_refl _, heap_alloc_new X1 _, Nat.le_refl _, by decide, rfl, rfl⟩⟩
      have H5 := Lib.hid (And.intro hoe hbn)
      clear hoe hbn
      go_wp2_with fail
      refine hK _ _ (below_plus H5.out.2) ?_
      clear hK K
      refine mix_only_in rfl (fun K hK => ?_)
      refine wpList_appendDX rfl (.tmp 36) (.tmp 38) rfl X1.heap.size _ [] rfl H5.out.1 A1 c1 h1 rfl (HX.out.2.1.next H5.out.2) (by simp; omega) H5.out.2.size ?_
      intro v6 X6 hv6 hg6
      have hb6 := below_own H5.out.2 H5.out.1 hg6 H5.out.2.size
      rw [List.nil_append] at hv6
      have H6 := Lib.hid (And.intro hv6 hb6)
      clear hv6 hb6 hg6 H5
      simp only [Act.put, List.setIfInBounds_toArray, List.set_cons_zero, List.set_cons_succ]
      refine hK _ _ (below_plus H6.out.2) ?_
      clear hK K
      refine mix_only_in rfl (fun K hK => ?_)
      refine wpList_appendDX rfl (.tmp 39) (.tmp 41) rfl X1.heap.size _ h1 rfl H6.out.1 A2 c2 h2 rfl (HX.out.2.2.1.next H6.out.2) (by omega) H6.out.2.size ?_
      intro v7 X7 hv7 hg7
      have hb7 := below_own H6.out.2 H6.out.1 hg7 H6.out.2.size
      rw [← HL.out.2.2.1] at hv7
      have H7 := Lib.hid (And.intro hv7 hb7)
      clear hv7 hb7 hg7 H6
      simp only [Act.put, List.setIfInBounds_toArray, List.set_cons_zero, List.set_cons_succ]
      refine hK _ _ (below_plus H7.out.2) ?_
      clear hK K
      iterate 1 (refine mix_plain rfl ?_; go_big_quiet_step (fail); refine wpQuiet_nil ?_)
      refine mix_done ?_
      go_wp2_with fail
      have hml1 : (L.map Prod.fst).length = L.length := List.length_map _
      have hml2 : (L.map Prod.snd).length = L.length := List.length_map _
      obtain ⟨Au, cu, hue, hNs1, hNs2, hNs3⟩ := OwnU.nsl HX.out.1
      subst hue
      obtain ⟨Av, cv, hve, hd1, hd2, hd3⟩ := DX.of_own H7.out.1
      subst hve
      have hNs : NSl X1 X1.heap.size (.slice Au (L.map Prod.fst).length cu) (L.map Prod.fst) := ⟨_, _, rfl, hNs1, hNs2, hNs3⟩
      have hDs : DX X7 (.slice Av (L.map Prod.snd).length cv) (L.map Prod.snd) := ⟨_, _, rfl, hd1, hd2, hd3⟩
      clear hNs1 hNs2 hNs3 hd1 hd2 hd3
      rw [hml1] at hNs ⊢
      rw [hml2] at hDs ⊢
      clear hml1 hml2
      replace hA := hA.below H7.out.2 hA.lt
      replace hB := hB.below H7.out.2 hB.lt
      have hRl := hR.lt
      replace hR := hR.below H7.out.2 hR.lt
      replace hNs := hNs.next H7.out.2
      have HN := Lib.hid (And.intro hNs (And.intro hDs (And.intro (HX.out.2.2.2.1.nxt H7.out.2) (HX.out.2.2.2.2.trans (H7.out.2.mono HX.out.2.2.2.2.size)))))
      clear hNs hDs HX
      have hXX : X1.heap.size ≤ X7.heap.size := H7.out.2.size
      clear H7
      refine wp_region_mix (.plain 0 <| .plain 1 <| .plain 2 <| .plain 3 <| .plain 4 <| .plain 5 <| .plain 6 <| .plain 7 <| .plain 8 <| .plain 9 <| .plain 10 <| .only 11 <| .plain 12 <| .only 13 <| .plain 14 <| .done) (fun V => Blk V w.heap.size 35 (rgC b1 e1 (.slice A1 h1.length c1)) ∧ Blk V (w.heap.size + 1) 35 (rgC e1 e2 (.slice A2 h2.length c2))) (by kernel_rfl) (by kernel_rfl) ⟨hA.drewN 1, hB.drewN 1⟩ ?_
      have hdr := below_drewN (Below.refl X7.heap.size X7) 1
      refine mix_atC (fun V => Blk V w.heap.size 35 (rgC b1 e1 (.slice A1 h1.length c1)) ∧ Blk V (w.heap.size + 1) 35 (rgC e1 e2 (.slice A2 h2.length c2)) ∧ Blk V (w.heap.size + 2) 35 (rgC 0 0 (.slice none 0 0)) ∧ NSl V V.heap.size (.slice Au L.length cu) (L.map Prod.fst) ∧ DX V (.slice Av L.length cv) (L.map Prod.snd) ∧ Hsr V V.heap.size hv n0 ∧ Below w.heap.size w V ∧ X7.heap.size ≤ V.heap.size) ⟨hA.drewN 1, hB.drewN 1, hR.drewN 1, HN.out.1.next hdr, HN.out.2.1.next hdr, HN.out.2.2.1.nxt hdr, HN.out.2.2.2.trans (hdr.mono HN.out.2.2.2.size), hdr.size⟩ ?_
      clear hA hB hR HN hdr
      rintro V ⟨hA, hB, hR, hNs, hDs, hHs, hbel, hXV⟩
      have HV := Lib.hid (And.intro hNs (And.intro hDs (And.intro hHs hbel)))
      clear hNs hDs hHs hbel
      iterate 11 (refine mix_plain rfl ?_; (first
        | (refine wpQuiet_load1 rfl _ (.tmp 43) rfl _ rfl _ Tryd.underlying22 rfl (.int .u64 (b1 : Int)) (fun _ hW => hW.1.cell 0) ?_; simp only [Act.put, List.setIfInBounds_toArray, List.set_cons_zero, List.set_cons_succ])
        | (refine wpQuiet_load1 rfl _ (.tmp 45) rfl _ rfl _ Tryd.underlying22 rfl (.int .u64 (e2 : Int)) (fun _ hW => hW.2.cell 1) ?_; simp only [Act.put, List.setIfInBounds_toArray, List.set_cons_zero, List.set_cons_succ])
        | (refine wpQuiet_load1 rfl _ (.tmp 48) rfl _ rfl _ Tryd.underlying22 rfl (.int .u64 (b1 : Int)) (fun _ hW => hW.1.cell 0) ?_; simp only [Act.put, List.setIfInBounds_toArray, List.set_cons_zero, List.set_cons_succ])
        | (refine wpQuiet_load1 rfl _ (.tmp 50) rfl _ rfl _ Tryd.underlying22 rfl (.int .u64 (e2 : Int)) (fun _ hW => hW.2.cell 1) ?_; simp only [Act.put, List.setIfInBounds_toArray, List.set_cons_zero, List.set_cons_succ])
        | go_big_quiet_step ((intros; rfl))); refine wpQuiet_nil ?_)
      refine mix_only_in rfl (fun K hK => ?_)
      go_wp2_with fail
      refine (rjoin_any hv n0 b1 e2 (by omega) hE L st HL.out.1 (by have := HL.out.2.2.2.1; omega) HL.out.2.2.2.2 Au cu Av cv V HV.out.1 HV.out.2.1 HV.out.2.2.1).mono ?_
      rintro r Y1 ⟨v, rfl, hown, hbx⟩
      rw [HDs.out] at hown
      obtain ⟨A6, c6, rfl⟩ := own_slice hown
      have hA1 := hA.below hbx hA.lt
      have hB1 := hB.below hbx hB.lt
      have hR1 := hR.below hbx hR.lt
      have HY := Lib.hid (And.intro hown (HV.out.2.2.2.trans (hbx.mono HV.out.2.2.2.size)))
      clear hA hB hR hown hbx HV
      go_wp2_with fail
      refine hK _ _ ⟨hA1, hB1⟩ ?_
      clear hK K
      iterate 1 (refine mix_plain rfl ?_; go_big_quiet_step ((intros; rfl)); refine wpQuiet_nil ?_)
      refine mix_only_in rfl (fun K hK => ?_)
      refine wpList_storeAll rfl rfl _ (.tmp 6) (.tmp 55) rfl (w.heap.size + 2) rfl (rgC b1 e2 (.slice A6 Ds.length c6)) rfl 35 _ hR1 (by kernel_rfl) rfl (rgC_one _ _ _ _ _) ?_
      intro w8 h08 hg8
      refine hK _ _ ⟨hA1.grown hg8 (fun e => by injection e; omega), hB1.grown hg8 (fun e => by injection e; omega)⟩ ?_
      clear hK K
      iterate 1 (refine mix_plain rfl ?_; go_big_quiet_step ((intros; rfl)); refine wpQuiet_nil ?_)
      refine mix_done ?_
      have hbel8 := below_only HY.out.2 hg8 (by omega) HY.out.2.size
      have hown8 := own_base (own_grown HY.out.1 hg8 (fun g hg e => by have := own_ge HY.out.1 g hg; injection e; omega)) (show w.heap.size ≤ V.heap.size by omega)
      have H8 := Lib.hid (And.intro hown8 hbel8)
      clear hown8 hbel8 hg8 hA1 hB1 hR1
      go_wp2_with fail
      exact bodyPost_ret (results_cell_two (p := 6) (q := 7) (ty := 35) rfl _ _ (w.heap.size + 2) _ _ _ _ rfl h08 Tryd.underlying35 rfl (by kernel_rfl)) rfl ⟨_, rfl, by show World.ownsRow _ _ _ _ _ (joinM n0 b1 e1 e2 h1 h2).length (dcells (joinM n0 b1 e1 e2 h1 h2)); rw [HJ.out]; exact H8.out.1, H8.out.2⟩
end Go.Proofs.YtkogehkmldbhgaaDoor
