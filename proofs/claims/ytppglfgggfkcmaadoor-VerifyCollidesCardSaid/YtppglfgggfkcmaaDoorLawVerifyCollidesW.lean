/- The walk of the law VerifyCollides. No condition. -/
import Derived.Test.YtppglfgggfkcmaaDoorP18
import Derived.Test.YtppglfgggfkcmaaDoorP19
import Derived.Test.YtppglfgggfkcmaaDoorP20
import Derived.Test.YtppglfgggfkcmaaDoorP9
namespace Go.Proofs.YtppglfgggfkcmaaDoor
open Go Go.RowKit
attribute [local irreducible] mixW
attribute [local go_sem] n8_lo n8_hi n64_lo n64_hi n32_lo n32_hi
theorem wpList_neStr {w : World} {ops : Array Oper} {rest : List Oper} {o : Oper} {a : Act} {Q : Exit → Act → World → Prop} (hgd : o.guard = none) (x y : Operand) (yt : TypeId) (ho : o.op = .binOp .neq 9 x y yt) (X Y : List UInt8) (hx : a.eval x = strV X) (hy : a.eval y = strV Y)
    (b : Bool) (hb : decide (X = Y) = b) (h : wpList Tryd.prog ops Q rest (a.put o.dst (.bool (!b))) w) : wpList Tryd.prog ops Q (o :: rest) a w :=
  wpList_plain hgd fun K hK => by
    have hg : (eqGuard .neq 9 x y (strV X) (strV Y)).run Tryd.prog w = .ok () w := by unfold strV; simp [eqGuard]
    unfold Oper.wp execOp
    simp only [ho, hx, hy, Sem.run_bind, hg, run_strNe, hb, Result.andThen_ok, Sem.run_pure]
    exact hK _ _ h
set_option maxHeartbeats 3000000 in
set_option maxRecDepth 100000 in
theorem verifyCollides_walk (w : World) (hG : Glob w) (n0 : Int) (hn0 : -9223372036854775808 ≤ n0 ∧ n0 ≤ 9223372036854775807) (ix : UInt64) (c : UInt8) :
    Calls Tryd.prog 11 #[.int .i64 n0, .int .u64 (n64 ix), .int .u8 (n8 c)] w fun e w' => e = .returned (.bool true) ∧ Below w.heap.size w w' := by
  have hbel := Below.refl w.heap.size w
  have hix := ix.toNat_lt
  have e1 : n64 ix = (ix.toNat : Int) := rfl
  rw [e1]
  generalize ix.toNat = I0 at hix ⊢
  clear e1
  go_enter Tryd.func11, Tryd.ntmps11
  go_wp2_with fail
  refine (within_any n0 0 20 w (by decide) (by decide) (by decide) hn0.1 hn0.2).mono ?_
  rintro e _ ⟨rfl, rfl⟩
  have hwb := withinI_bounds n0 0 20 (by decide)
  obtain ⟨n, hn⟩ : ∃ n : Nat, withinI n0 0 20 + 1 = (n : Int) := ⟨(withinI n0 0 20 + 1).toNat, by omega⟩
  have hn25 : n ≤ 21 := by omega
  have hn1 : 1 ≤ n := by omega
  go_wp2_with fail
  clear hn hwb
  refine (list9_any n c (by omega) (by omega) w).mono ?_
  rintro e w2 ⟨v, rfl, hv, hb1⟩
  have e3 : (n : Int).toNat = n := Int.toNat_natCast n
  rw [e3] at hv
  have hll := listL_length n c
  have HL : Hid (∀ b ∈ listL n c, b.length ≤ 40) := Lib.hid (fun b hb => by rw [listL_mem hb]; decide)
  generalize listL n c = L at HL hv hll
  subst hll
  replace hbel := hbel.trans (hb1.mono hbel.size)
  clear hb1 e3
  obtain ⟨A0, cap0, vs0, rfl, h2, h3, h4, h5, h6⟩ := hv
  have hv : SSl w2 w2.heap.size (.slice A0 L.length cap0) L := ⟨A0, cap0, vs0, rfl, h2, h3, h4, h5, h6⟩
  clear h3 h4 h5 h6 vs0
  obtain ⟨i, hi⟩ : ∃ i : Nat, (I0 : Int) % (L.length : Int) = (i : Int) := ⟨((I0 : Int) % (L.length : Int)).toNat, (Int.toNat_of_nonneg (Int.emod_nonneg _ (by omega))).symm⟩
  have hiL : i < L.length := by have := Int.emod_lt_of_pos (I0 : Int) (show (0 : Int) < (L.length : Int) by omega); omega
  have hlp : (0 : Int) < (L.length : Int) := by omega
  have hlz : ((L.length : Int) == 0) = false := by rw [beq_eq_false_iff_ne]; omega
  have hilt : (i : Int) < (L.length : Int) := by omega
  have hi64 : i ≤ 18446744073709551615 := by omega
  go_wp2_with fail
  refine (found_any _ L i hiL (by omega) (fun c hc => by have := HL.out c hc; omega) w2 hv (hG.next hbel)).mono ?_
  rintro e w3 ⟨hF, hb1⟩
  replace hv := hv.next hb1
  replace hbel := hbel.trans (hb1.mono hbel.size)
  clear hb1 hi hix
  rcases hF with ⟨u3, rfl⟩ | ⟨u3, bb, rfl, hB, hbl, hleq, hbne⟩
  · go_wp2_with fail
    refine (known9_any w3 (hG.next hbel)).mono ?_
    rintro e w9 ⟨rfl, hb1⟩
    go_wp2_with fail
    try rw [Exit.noGoto_ret]
    go_ret
    exact ⟨rfl, hbel.trans (hb1.mono hbel.size)⟩
  have hself := leafS_path 1 L i hiL
  have hswap := leafS_swap 1 (L.getD i []) bb i L.length (pathM 1 L i) (rootM 1 L) hleq.symm hself
  have hcoll := collS_swap 1 (L.getD i []) bb i L.length (pathM 1 L i) (rootM 1 L) hleq.symm hbne.symm hself
  have hal : (L.getD i []).length ≤ 40 := HL.out _ (by rw [List.getD_eq_getElem?_getD, List.getElem?_eq_getElem hiL]; exact List.getElem_mem _)
  have hpm := pathM_mem 1 _ L i (Nat.le_refl _)
  have hpd : (pathM 1 L i).length ≤ 1000000 := by have := pathM_depth 1 5 L i (by omega); omega
  have HS := Lib.hid (And.intro hself (And.intro hswap (And.intro hcoll (And.intro hal (And.intro hpm (And.intro hpd (And.intro hleq hbne)))))))
  clear hself hswap hcoll hal hpm hpd hleq hbne
  go_wp2_with fail
  refine (prove_any 1 _ L i w3 hv (by omega) (fun c hc => by have := HL.out c hc; omega) hiL (hG.next hbel)).mono ?_
  rintro e w5 ⟨u5, rfl, hown5, hb1⟩
  rw [kw1] at hown5
  have hx5 := DX.of_own hown5
  replace hv := hv.next hb1
  replace hB := hB.next hb1
  replace hbel := hbel.trans (hb1.mono hbel.size)
  clear hb1 hown5
  have HX := Lib.hid (And.intro hx5 hB)
  clear hx5 hB
  go_wp2_with fail
  refine (mroot_any 1 _ L w5 hv (by omega) (fun c hc => by have := HL.out c hc; omega) (hG.next hbel)).mono ?_
  rintro e w6 ⟨rfl, hb1⟩
  rw [kw1]
  have HX2 := Lib.hid (And.intro (HX.out.1.next hb1) (HX.out.2.next hb1))
  replace hv := hv.next hb1
  replace hbel := hbel.trans (hb1.mono hbel.size)
  clear hb1 HX
  have hRl := rootM_length 1 L
  generalize rootM 1 L = R at HS hRl ⊢
  generalize pathM 1 L i = P at HS HX2
  have HR := Lib.hid hRl
  clear hRl
  have hD := Blk.new w6 26 (arr 32 fun _ => 0)
  have hbn := below_new1 w6 (Obj.cells (arr 32 fun _ => 0) 26)
  go_upto_region 9 with (first
    | (refine wpList_storeDat rfl rfl 26 (.tmp 13) (.tmp 45) rfl w6.heap.size rfl _ _ rfl _ hD (by kernel_rfl) ?_; intro w7 hA7 hon7))
  have hb7 := below_only hbn hon7 (Nat.le_refl _) hbn.size
  refine wp_at (fun W => Blk W w6.heap.size 26 (dat R) ∧ SSl W W.heap.size (.slice A0 L.length cap0) L ∧ DX W u5 P ∧ BSl W W.heap.size u3 bb ∧ Below w.heap.size w W) ⟨hA7, hv.next hb7, HX2.out.1.next hb7, HX2.out.2.next hb7, hbel.trans (hb7.mono hbel.size)⟩ ?_
  obtain ⟨g13, hg13⟩ : ∃ g, w6.heap.size = g := ⟨_, rfl⟩
  rw [hg13]
  clear hA7 hon7 hb7 hbn hD hbel hg13 w7 hv HX2
  rintro w7 ⟨hA, hv, hx, hB, hbel⟩
  obtain ⟨b0, off, u, eA, hb0, hcu, hu⟩ := hv.cellAt i hiL
  subst eA
  generalize L.getD i [] = a at HS hu
  have HX := Lib.hid (And.intro hu (And.intro hx hB))
  clear hu hx hB hv
  refine wp_region_mixP (.plain 0 <| .plain 1 <| .plain 2 <| .plain 3 <| .plain 4 <| .plain 5 <| .plain 6 <| .plain 7 <| .plain 8 <| .plain 9 <| .only 10 <| .plain 11 <| .plain 12 <| .plain 13 <| .plain 14 <| .plain 15 <| .plain 16 <| .plain 17 <| .plain 18 <| .plain 19 <| .only 20 <| .plain 21 <| .plain 22 <| .done) (by kernel_rfl) (by kernel_rfl) (fun W1 hb1 => ?_)
  replace hA := hA.below hb1 hA.lt
  replace hcu : W1.cell? ⟨b0, off + i, none⟩ = some u := (hb1.cell (p := ⟨b0, off + i, none⟩) hb0).trans hcu
  replace hb0 : b0 < W1.heap.size := Nat.lt_of_lt_of_le hb0 hb1.size
  have HX1 := Lib.hid (And.intro (HX.out.1.next hb1) (And.intro (HX.out.2.1.next hb1) (HX.out.2.2.next hb1)))
  replace hbel := hbel.trans (hb1.mono hbel.size)
  clear hb1 HX
  iterate 10 (refine mix_plain rfl ?_; (first
    | (refine wpQuiet_load1 rfl _ (.tmp 48) rfl _ rfl _ Tryd.underlying22 rfl _ (fun _ ⟨e, he⟩ => by rw [he, plus_cell _ _ _ hb0]; exact hcu) ?_; simp only [Act.put, List.setIfInBounds_toArray, List.set_cons_zero, List.set_cons_succ])
    | (refine wpQuiet_load rfl _ (.tmp 13) rfl g13 rfl _ _ _ _ (fun _ ⟨e, he⟩ => by rw [he]; exact hA.plus e) Tryd.underlying26 rfl (by kernel_rfl) ?_; simp only [Act.put, List.setIfInBounds_toArray, List.set_cons_zero, List.set_cons_succ])
    | go_big_quiet_step (fail)); refine wpQuiet_nil ?_)
  refine mix_only rfl (fun K hK => ?_)
  go_wp2_with fail
  refine (vLeaf_any 1 u a i L.length hi64 (by omega) u5 P HS.out.2.2.2.2.1 HS.out.2.2.2.2.2.1 R HR.out W1 HX1.out.1 (by have := HS.out.2.2.2.1; omega) HX1.out.2.1 (hG.next hbel)).mono ?_
  rintro e W2 ⟨rfl, hb1⟩
  rw [kw1, HS.out.1]
  go_wp2_with fail
  refine hK _ _ hb1 ?_
  clear hK K
  replace hA := hA.below hb1 hA.lt
  replace hcu : W2.cell? ⟨b0, off + i, none⟩ = some u := (hb1.cell (p := ⟨b0, off + i, none⟩) hb0).trans hcu
  replace hb0 : b0 < W2.heap.size := Nat.lt_of_lt_of_le hb0 hb1.size
  have HX2 := Lib.hid (And.intro (HX1.out.1.next hb1) (And.intro (HX1.out.2.1.next hb1) (HX1.out.2.2.next hb1)))
  replace hbel := hbel.trans (hb1.mono hbel.size)
  clear hb1 HX1
  iterate 9 (refine mix_plain rfl ?_; (first
    | (refine wpQuiet_load rfl _ (.tmp 13) rfl g13 rfl _ _ _ _ (fun _ ⟨e, he⟩ => by rw [he]; exact hA.plus e) Tryd.underlying26 rfl (by kernel_rfl) ?_; simp only [Act.put, List.setIfInBounds_toArray, List.set_cons_zero, List.set_cons_succ])
    | go_big_quiet_step (fail)); refine wpQuiet_nil ?_)
  refine mix_only rfl (fun K hK => ?_)
  refine wpList_unguard rfl ?_
  go_wp2_with fail
  refine (vLeaf_any 1 u3 bb i L.length hi64 (by omega) u5 P HS.out.2.2.2.2.1 HS.out.2.2.2.2.2.1 R HR.out W2 HX2.out.2.2 (by omega) HX2.out.2.1 (hG.next hbel)).mono ?_
  rintro e W3 ⟨rfl, hb1⟩
  rw [kw1, HS.out.2.1]
  go_wp2_with fail
  refine hK _ _ hb1 ?_
  clear hK K
  replace hcu : W3.cell? ⟨b0, off + i, none⟩ = some u := (hb1.cell (p := ⟨b0, off + i, none⟩) hb0).trans hcu
  replace hb0 : b0 < W3.heap.size := Nat.lt_of_lt_of_le hb0 hb1.size
  have HX3 := Lib.hid (And.intro (HX2.out.1.next hb1) (And.intro (HX2.out.2.1.next hb1) (HX2.out.2.2.next hb1)))
  replace hbel := hbel.trans (hb1.mono hbel.size)
  clear hb1 HX2 hA
  iterate 2 (refine mix_plain rfl ?_; go_big_quiet_step (fail); refine wpQuiet_nil ?_)
  refine mix_done ?_
  go_wp2_with fail
  refine (vcoll_any 1 u u3 a bb i L.length hi64 (by omega) u5 u5 P P HS.out.2.2.2.2.1 HS.out.2.2.2.2.1 HS.out.2.2.2.2.2.1 HS.out.2.2.2.2.2.1 W3 HX3.out.1 HX3.out.2.2 (by have := HS.out.2.2.2.1; omega) (by omega) HX3.out.2.1 HX3.out.2.1 (hG.next hbel)).mono ?_
  rintro e W4 ⟨⟨cu, cv, rfl, hcu4, hcv4⟩, hb1⟩
  rw [kw1, HS.out.2.2.1] at hcu4 hcv4 ⊢
  replace hbel := hbel.trans (hb1.mono hbel.size)
  clear hb1 HX3 hcu hb0
  have hcu5 : BSl W4 W4.heap.size cu (0 :: a) := hcu4
  have hcv5 : BSl W4 W4.heap.size cv (0 :: bb) := hcv4
  have HC := Lib.hid (And.intro hcu5 hcv5)
  have HNe : Hid (decide ((0 : UInt8) :: a = 0 :: bb) = false) := Lib.hid (decide_eq_false (fun h => HS.out.2.2.2.2.2.2.2 (List.cons.inj h).2.symm))
  clear hcu4 hcv4 hcu5 hcv5
  simp only [Option.isSome_some]
  go_wp2_with (first
    | (refine wpList_unguard rfl ?_; refine wpList_str rfl (.tmp 87) rfl cu (0 :: a) _ rfl HC.out.1 ?_)
    | (refine wpList_unguard rfl ?_; refine wpList_str rfl (.tmp 89) rfl cv (0 :: bb) _ rfl HC.out.2 ?_)
    | (refine wpList_unguard rfl ?_; refine wpList_neStr rfl (.tmp 88) (.tmp 90) _ rfl (0 :: a) (0 :: bb) rfl rfl false HNe.out ?_))
  refine (sum_b cu (0 :: a) W4 HC.out.1 (by have := HS.out.2.2.2.1; simp only [List.length_cons]; omega) (hG.next hbel)).mono ?_
  rintro e W5 ⟨rfl, hb1⟩
  have HC2 := Lib.hid (HC.out.2.next hb1)
  replace hbel := hbel.trans (hb1.mono hbel.size)
  clear hb1 HC HNe
  go_wp2_with fail
  refine (cut_any (sha (0 :: a)) (sha_length _) 1 W5).mono ?_
  rintro e W6 ⟨rfl, hb1⟩
  have HC3 := Lib.hid (HC2.out.next hb1)
  replace hbel := hbel.trans (hb1.mono hbel.size)
  clear hb1 HC2
  go_wp2_with fail
  refine (sum_b cv (0 :: bb) W6 HC3.out (by simp only [List.length_cons]; omega) (hG.next hbel)).mono ?_
  rintro e W7 ⟨rfl, hb1⟩
  replace hbel := hbel.trans (hb1.mono hbel.size)
  clear hb1 HC3
  go_wp2_with fail
  refine (cut_any (sha (0 :: bb)) (sha_length _) 1 W7).mono ?_
  rintro e W8 ⟨rfl, hb1⟩
  replace hbel := hbel.trans (hb1.mono hbel.size)
  clear hb1
  have HE : Hid (decide (cutL (sha (0 :: a)) 1 = cutL (sha (0 :: bb)) 1) = true ∧ (cutL (sha (0 :: a)) 1).length = 32 ∧ (cutL (sha (0 :: bb)) 1).length = 32) := Lib.hid ⟨decide_eq_true HS.out.2.2.2.2.2.2.1.symm, cutL_length _ _ (sha_length _), cutL_length _ _ (sha_length _)⟩
  generalize cutL (sha (0 :: a)) 1 = d1 at HE ⊢
  generalize cutL (sha (0 :: bb)) 1 = d2 at HE ⊢
  go_wp2_with (first
    | (refine wpList_unguard rfl ?_; refine wpList_eqD rfl (.tmp 96) (.tmp 99) _ rfl d1 d2 rfl rfl HE.out.2.1 HE.out.2.2 true HE.out.1 ?_))
  refine (known9_any W8 (hG.next hbel)).mono ?_
  rintro e w9 ⟨rfl, hb1⟩
  go_wp2_with fail
  try rw [Exit.noGoto_ret]
  go_ret
  exact ⟨rfl, hbel.trans (hb1.mono hbel.size)⟩
end Go.Proofs.YtppglfgggfkcmaaDoor
