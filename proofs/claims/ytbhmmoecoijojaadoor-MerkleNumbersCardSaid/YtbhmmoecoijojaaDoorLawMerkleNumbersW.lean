/- The walk of the law MerkleNumbers. No condition. -/
import Derived.Test.YtbhmmoecoijojaaDoorMerkK
import Derived.Test.YtbhmmoecoijojaaDoorMerkT
import Derived.Test.YtbhmmoecoijojaaDoorMixS
namespace Go.Proofs.YtbhmmoecoijojaaDoor
open Go Go.RowKit
attribute [local irreducible] mixW
attribute [local go_sem] n8_lo n8_hi n64_lo n64_hi n32_lo n32_hi
theorem half3 : halfN 3 = 2 := by decide
theorem half2 : halfN 2 = 1 := by decide
theorem path32 (n : Nat) (a b c : List UInt8) : pathM n [a, b, c] 2 = [rootM n [a, b]] := by
  rw [pathM_node n _ _ (by simp)]
  show (if 2 < halfN 3 then _ else pathM n ([a, b, c].drop (halfN 3)) (2 - halfN 3) ++ [rootM n ([a, b, c].take (halfN 3))]) = _
  rw [half3, if_neg (by decide), pathM_one n _ _ (by simp)]
  rfl
theorem path30 (n : Nat) (a b c : List UInt8) : pathM n [a, b, c] 0 = [leafM n b, leafM n c] := by
  rw [pathM_node n _ _ (by simp)]
  show (if 0 < halfN 3 then pathM n ([a, b, c].take (halfN 3)) 0 ++ [rootM n ([a, b, c].drop (halfN 3))] else _) = _
  rw [half3, if_pos (by decide)]
  show pathM n [a, b] 0 ++ [rootM n [c]] = _
  rw [pathM_node n _ _ (by simp)]
  show (if 0 < halfN 2 then pathM n ([a, b].take (halfN 2)) 0 ++ [rootM n ([a, b].drop (halfN 2))] else _) ++ _ = _
  rw [half2, if_pos (by decide), pathM_one n _ _ (by simp)]
  rfl
theorem sub32 (n : Nat) (a b c : List UInt8) : subM n [a, b, c] 2 true = [leafM n c] := by
  rw [subM_node n _ _ _ (by simp) (by simp)]
  show (if 2 ≤ halfN 3 then subM n ([a, b, c].take (halfN 3)) 2 true ++ [rootM n ([a, b, c].drop (halfN 3))] else _) = _
  rw [half3, if_pos (by decide), subM_all n _ _ _ (by rfl)]
  rfl
theorem sub33 (n : Nat) (a b c : List UInt8) : subM n [a, b, c] 3 true = [] := by
  rw [subM_all n _ _ _ (by rfl)]
  rfl
theorem prove_is (x : Int) (v : Value) (ls : List (List UInt8)) (i k : Nat) (er : Int) (ds : List (List UInt8)) (hds : pathX (cutW x) ls i = ds) (hk : ds.length = k) (her : pathE ls i = er) (hi64 : i ≤ 18446744073709551615) (w : World) (hv : SSl w w.heap.size v ls) (h62 : ls.length ≤ 4611686018427387904) (hall : ∀ b ∈ ls, b.length ≤ 140737488355200) (hG : Glob w) :
    Calls Tryd.prog 22 #[.int .i64 x, v, .int .u64 i] w fun e w' => ∃ A cap, e = .returned (.tuple #[.slice A k cap, .int .i64 er]) ∧ DSl w' (.slice A k cap) ds ∧ Below w.heap.size w w' := by
  subst hds hk her
  exact prove_tot x v ls i hi64 w hv h62 hall hG
theorem compare_is (x : Int) (v : Value) (ls : List (List UInt8)) (i k : Nat) (er : Int) (ds : List (List UInt8)) (hds : subX (cutW x) ls i = ds) (hk : ds.length = k) (her : subE ls i = er) (hi64 : i ≤ 18446744073709551615) (w : World) (hv : SSl w w.heap.size v ls) (h62 : ls.length ≤ 4611686018427387904) (hall : ∀ b ∈ ls, b.length ≤ 140737488355200) (hG : Glob w) :
    Calls Tryd.prog 43 #[.int .i64 x, v, .int .u64 i] w fun e w' => ∃ A cap, e = .returned (.tuple #[.slice A k cap, .int .i64 er]) ∧ DSl w' (.slice A k cap) ds ∧ Below w.heap.size w w' := by
  subst hds hk her
  exact compare_tot x v ls i hi64 w hv h62 hall hG
/-- a cell of a table of texts -/
def AtC (w : World) (ba p : Nat) (u : Value) (b : List UInt8) : Prop := ba < w.heap.size ∧ w.cell? ⟨ba, p, none⟩ = some u ∧ BSl w w.heap.size u b
theorem AtC.next {w w' : World} {ba p : Nat} {u : Value} {b : List UInt8} (h : AtC w ba p u b) (hb : Below w.heap.size w w') : AtC w' ba p u b :=
  ⟨Nat.lt_of_lt_of_le h.1 hb.size, (hb.cell (p := ⟨ba, p, none⟩) h.1).trans h.2.1, h.2.2.next hb⟩
set_option maxRecDepth 100000 in
theorem build_digests (d e : List UInt8) (w : World) : (Instr.buildSlice 37 2 #[(0, .agg (dat d)), (1, .agg (dat e))]).run Tryd.prog w = .ok (.slice (some ⟨w.heap.size, 0, none⟩) 2 2) (w.alloc (.cells (dcells [d, e]).toArray 27)) := by kernel_rfl
theorem wpList_buildD2 {w : World} {ops : Array Oper} {rest : List Oper} {o : Oper} {a : Act} {Q : Exit → Act → World → Prop} (hgd : o.guard = none) (x y : Operand) (ho : o.op = .buildSlice 37 2 #[(0, x), (1, y)]) (d e : List UInt8) (hx : a.eval x = .agg (dat d)) (hy : a.eval y = .agg (dat e))
    (h : wpList Tryd.prog ops Q rest (a.put o.dst (.slice (some ⟨w.heap.size, 0, none⟩) 2 2)) (w.alloc (.cells (dcells [d, e]).toArray 27))) : wpList Tryd.prog ops Q (o :: rest) a w :=
  wpList_plain hgd fun K hK => by
    unfold Oper.wp execOp
    simp only [ho, List.map_toArray, List.map_cons, List.map_nil, hx, hy, Sem.run_bind, build_digests d e, Result.andThen_ok, Sem.run_pure]
    exact hK _ _ h
theorem own_twoD (w : World) (base : Nat) (hb : base ≤ w.heap.size) (d e : List UInt8) : (w.alloc (.cells (dcells [d, e]).toArray 27)).ownsRow base 27 32 (.slice (some ⟨w.heap.size, 0, none⟩) 2 2) ([d, e] : List (List UInt8)).length (dcells [d, e]) := by
  have hl : (dcells [d, e]).length = 64 := dcells_length _
  refine ⟨by rw [hl]; rfl, .inr ⟨w.heap.size, 2, (dcells [d, e]).toArray, rfl, hb, heap_alloc_new w _, Nat.le_refl _, by decide, by rw [List.size_toArray, hl], ?_⟩⟩
  rw [List.take_of_length_le (by rw [List.toList_toArray, hl]; show 64 ≤ 2 * 32; decide)]
set_option maxHeartbeats 2000000 in
set_option maxRecDepth 100000 in
theorem merkleNumbers_walk (w : World) (hG : Glob w) :
    Calls Tryd.prog 10 #[] w fun e w' => e = .returned (.bool true) ∧ Below w.heap.size w w' := by
  go_enter Tryd.func10, Tryd.ntmps10
  have e7 : n8 7 = 7 := by decide
  have hli := list_any 3 7 (by decide) (by decide) w
  rw [e7] at hli
  have Hli := Lib.hid hli
  clear hli e7
  go_wp2_with fail
  refine Hli.out.mono ?_
  rintro e w1 ⟨v, rfl, v1, hbel⟩
  clear Hli
  rw [show (3 : Int).toNat = 3 by decide] at v1
  have hL : listL 3 7 = [elemL 7 0, elemL 7 1, elemL 7 2] := rfl
  rw [hL] at v1
  have HL : Hid (∀ b ∈ [elemL 7 0, elemL 7 1, elemL 7 2], b.length ≤ 3) := Lib.hid (fun b hb => by rw [← hL] at hb; rw [listL_mem hb]; decide)
  clear hL
  generalize elemL 7 0 = e0 at v1 HL
  generalize elemL 7 1 = e1 at v1 HL
  generalize elemL 7 2 = e2 at v1 HL
  obtain ⟨A1, cap1, vs1, rfl, h12, h13, h14, h15, h16⟩ := v1
  have v1 : SSl w1 w1.heap.size (.slice A1 3 cap1) [e0, e1, e2] := ⟨A1, cap1, vs1, rfl, h12, h13, h14, h15, h16⟩
  clear h12 h13 h14 h15 h16 vs1
  rw [show ([e0, e1, e2] : List (List UInt8)).length = 3 from rfl]
  have hcap := (v1.lens).2
  have hcap2 : (2 : Int) ≤ (cap1 : Int) := by simp at hcap; omega
  have hcap1 : (1 : Int) ≤ (cap1 : Int) := by omega
  clear hcap
  go_wp2_with fail
  refine (prove_is 32 _ [e0, e1, e2] 2 1 0 [rootM 32 [e0, e1]] (by rw [kw32]; unfold pathX; rw [if_pos (by simp)]; exact path32 32 e0 e1 e2) rfl (by rfl) (by decide) w1 v1 (by simp) (fun b hb => by have := HL.out b hb; omega) (hG.next hbel)).mono ?_
  rintro e w2 ⟨A2, k2, rfl, hA, hb1⟩
  replace v1 := v1.next hb1
  replace hbel := hbel.trans (hb1.mono hbel.size)
  clear hb1
  go_wp2_with fail
  refine (prove_is 32 _ [e0, e1, e2] 0 2 0 [leafM 32 e1, leafM 32 e2] (by rw [kw32]; unfold pathX; rw [if_pos (by simp)]; exact path30 32 e0 e1 e2) rfl (by rfl) (by decide) w2 v1 (by simp) (fun b hb => by have := HL.out b hb; omega) (hG.next hbel)).mono ?_
  rintro e w3 ⟨A3, k3, rfl, hB, hb1⟩
  replace v1 := v1.next hb1
  replace hA := hA.next hb1
  replace hbel := hbel.trans (hb1.mono hbel.size)
  clear hb1
  go_wp2_with fail
  refine (prove_is 32 _ [e0, e1, e2] 3 0 25 [] (by unfold pathX; rw [if_neg (by simp)]) rfl (by rfl) (by decide) w3 v1 (by simp) (fun b hb => by have := HL.out b hb; omega) (hG.next hbel)).mono ?_
  rintro e w4 ⟨A4, k4, rfl, -, hb1⟩
  replace v1 := v1.next hb1
  replace hA := hA.next hb1
  replace hB := hB.next hb1
  replace hbel := hbel.trans (hb1.mono hbel.size)
  clear hb1
  go_wp2_with fail
  refine (compare_is 32 _ [e0, e1, e2] 2 1 0 [leafM 32 e2] (by rw [kw32]; unfold subX; rw [if_pos (by simp)]; exact sub32 32 e0 e1 e2) rfl (by rfl) (by decide) w4 v1 (by simp) (fun b hb => by have := HL.out b hb; omega) (hG.next hbel)).mono ?_
  rintro e w5 ⟨A5, k5, rfl, hC, hb1⟩
  replace v1 := v1.next hb1
  replace hA := hA.next hb1
  replace hB := hB.next hb1
  replace hbel := hbel.trans (hb1.mono hbel.size)
  clear hb1
  go_wp2_with fail
  refine (compare_is 32 _ [e0, e1, e2] 3 0 0 [] (by rw [kw32]; unfold subX; rw [if_pos (by simp)]; exact sub33 32 e0 e1 e2) rfl (by rfl) (by decide) w5 v1 (by simp) (fun b hb => by have := HL.out b hb; omega) (hG.next hbel)).mono ?_
  rintro e w6 ⟨A6, k6, rfl, -, hb1⟩
  replace v1 := v1.next hb1
  replace hA := hA.next hb1
  replace hB := hB.next hb1
  replace hC := hC.next hb1
  replace hbel := hbel.trans (hb1.mono hbel.size)
  clear hb1
  go_wp2_with fail
  refine (compare_is 32 _ [e0, e1, e2] 0 0 25 [] (by unfold subX; rw [if_neg (by simp)]) rfl (by rfl) (by decide) w6 v1 (by simp) (fun b hb => by have := HL.out b hb; omega) (hG.next hbel)).mono ?_
  rintro e w7 ⟨A7, k7, rfl, -, hb1⟩
  replace v1 := v1.next hb1
  replace hA := hA.next hb1
  replace hB := hB.next hb1
  replace hC := hC.next hb1
  replace hbel := hbel.trans (hb1.mono hbel.size)
  clear hb1
  go_wp2_with fail
  refine (compare_is 32 _ [e0, e1, e2] 4 0 25 [] (by unfold subX; rw [if_neg (by simp)]) rfl (by rfl) (by decide) w7 v1 (by simp) (fun b hb => by have := HL.out b hb; omega) (hG.next hbel)).mono ?_
  rintro e w8 ⟨A8, k8, rfl, -, hb1⟩
  replace v1 := v1.next hb1
  replace hA := hA.next hb1
  replace hB := hB.next hb1
  replace hC := hC.next hb1
  replace hbel := hbel.trans (hb1.mono hbel.size)
  clear hb1
  have v3 := v1.take 1 (by decide)
  go_wp2_with fail
  refine (prove_is 32 _ [e0] 0 0 0 [] (by unfold pathX; rw [if_pos (by simp)]; exact pathM_one _ _ _ (by simp)) rfl (by rfl) (by decide) w8 v3 (by simp) (fun b hb => by rw [List.mem_singleton.1 hb]; have := HL.out e0 (by simp); omega) (hG.next hbel)).mono ?_
  rintro e w9 ⟨A9, k9, rfl, -, hb1⟩
  clear v3
  replace v1 := v1.next hb1
  replace hA := hA.next hb1
  replace hB := hB.next hb1
  replace hC := hC.next hb1
  replace hbel := hbel.trans (hb1.mono hbel.size)
  clear hb1
  obtain ⟨ba, off, u1, hAe, hba, hc1, hu1⟩ := v1.cellAt 1 (by simp)
  subst hAe
  obtain ⟨ba', off', u2, hAe, hba', hc2, hu2⟩ := v1.cellAt 2 (by simp)
  injection hAe with hAe
  injection hAe with ea1 ea2
  subst ea1 ea2
  have c1 : AtC w9 ba (off + 1) u1 e1 := ⟨hba, hc1, hu1⟩
  have c2 : AtC w9 ba (off + 2) u2 e2 := ⟨hba, hc2, hu2⟩
  clear hba hba' hc1 hc2 hu1 hu2
  have HR := Lib.hid (rootM_length 32 [e0, e1])
  have HF1 := Lib.hid (leafM_length 32 e1)
  have HF2 := Lib.hid (leafM_length 32 e2)
  have HX := Lib.hid (rootM_length 32 [e0, e1, e2])
  have HR32 : Hid (cutW 0 = 32 ∧ cutW 33 = 32 ∧ cutW 32 = 32) := Lib.hid (by decide)
  have Hle : Hid (e1.length ≤ 3 ∧ e2.length ≤ 3) := Lib.hid ⟨HL.out e1 (by simp), HL.out e2 (by simp)⟩
  obtain ⟨R, hR⟩ : ∃ R, rootM 32 [e0, e1] = R := ⟨_, rfl⟩
  obtain ⟨F1, hF1⟩ : ∃ F1, leafM 32 e1 = F1 := ⟨_, rfl⟩
  obtain ⟨F2, hF2⟩ : ∃ F2, leafM 32 e2 = F2 := ⟨_, rfl⟩
  obtain ⟨X, hX⟩ : ∃ X, rootM 32 [e0, e1, e2] = X := ⟨_, rfl⟩
  rw [hR] at HR hA
  rw [hF1] at HF1 hB
  rw [hF2] at HF2 hB hC
  rw [hX] at HX
  have HRr := Lib.hid hR
  have HFf1 := Lib.hid hF1
  have HFf2 := Lib.hid hF2
  have HXx := Lib.hid hX
  clear hR hF1 hF2 hX
  go_upto_region 10 with fail
  dsimp only [List.append]
  refine wp_region_mixP (.plain 0 <| .plain 1 <| .plain 2 <| .plain 3 <| .plain 4 <| .plain 5 <| .only 6 <| .only 7 <| .only 8 <| .plain 9 <| .plain 10 <| .plain 11 <| .plain 12 <| .plain 13 <| .plain 14 <| .plain 15 <| .plain 16 <| .plain 17 <| .plain 18 <| .plain 20 <| .plain 21 <| .plain 22 <| .only 19 <| .only 23 <| .only 24 <| .only 25 <| .plain 26 <| .plain 27 <| .plain 28 <| .plain 29 <| .plain 30 <| .plain 31 <| .plain 32 <| .plain 33 <| .plain 34 <| .plain 35 <| .plain 36 <| .plain 37 <| .plain 38 <| .plain 39 <| .only 40 <| .only 41 <| .only 42 <| .plain 43 <| .plain 44 <| .plain 45 <| .plain 46 <| .plain 47 <| .plain 48 <| .plain 49 <| .plain 50 <| .plain 51 <| .plain 52 <| .plain 53 <| .plain 54 <| .plain 55 <| .plain 56 <| .plain 57 <| .plain 58 <| .plain 59 <| .plain 60 <| .plain 61 <| .plain 62 <| .plain 63 <| .plain 64 <| .plain 65 <| .plain 66 <| .plain 67 <| .plain 68 <| .plain 69 <| .plain 70 <| .plain 71 <| .plain 73 <| .only 72 <| .only 74 <| .plain 75 <| .plain 76 <| .plain 77 <| .plain 78 <| .plain 80 <| .only 79 <| .only 81 <| .plain 82 <| .plain 83 <| .plain 84 <| .only 85 <| .plain 86 <| .plain 87 <| .done) (by kernel_rfl) (by kernel_rfl) (fun W0 hb1 => ?_)
  replace v1 := v1.next hb1
  replace c1 := c1.next hb1
  replace c2 := c2.next hb1
  replace hA := hA.next hb1
  replace hB := hB.next hb1
  replace hC := hC.next hb1
  replace hbel := hbel.trans (hb1.mono hbel.size)
  clear hb1
  iterate 6 (refine mix_plain rfl ?_; (first
    | (refine wpQuiet_eqD rfl (.tmp 132) (.tmp 134) _ rfl X X rfl rfl HX.out HX.out true (decide_eq_true rfl) ?_; simp only [Act.put, List.setIfInBounds_toArray, List.set_cons_zero, List.set_cons_succ])
    | (refine wpQuiet_eqD rfl (.tmp 139) (.tmp 141) _ rfl X X rfl rfl HX.out HX.out true (decide_eq_true rfl) ?_; simp only [Act.put, List.setIfInBounds_toArray, List.set_cons_zero, List.set_cons_succ])
    | (refine wpQuiet_load1 rfl _ (.tmp 77) rfl _ rfl _ Tryd.underlying32 rfl _ (fun _ ⟨e, he⟩ => by rw [he, plus_cell _ _ _ c1.1]; exact c1.2.1) ?_; simp only [Act.put, List.setIfInBounds_toArray, List.set_cons_zero, List.set_cons_succ])
    | (refine wpQuiet_load1 rfl _ (.tmp 81) rfl _ rfl _ Tryd.underlying32 rfl _ (fun _ ⟨e, he⟩ => by rw [he, plus_cell _ _ _ c2.1]; exact c2.2.1) ?_; simp only [Act.put, List.setIfInBounds_toArray, List.set_cons_zero, List.set_cons_succ])
    | (refine wpQuiet_load1 rfl _ (.tmp 98) rfl _ rfl _ Tryd.underlying32 rfl _ (fun _ ⟨e, he⟩ => by rw [he, plus_cell _ _ _ c2.1]; exact c2.2.1) ?_; simp only [Act.put, List.setIfInBounds_toArray, List.set_cons_zero, List.set_cons_succ])
    | go_big_quiet_step (fail)); refine wpQuiet_nil ?_)
  refine mix_only rfl (fun K hK => ?_)
  go_wp2_with fail
  refine (mroot_any 32 _ [e0, e1] W0 (v1.take 2 (by decide)) (by simp) (fun b hb => by have := HL.out b (List.mem_of_mem_take (i := 2) (l := [e0, e1, e2]) hb); omega) (hG.next hbel)).mono ?_
  rintro e W1 ⟨rfl, hb1⟩
  rw [HR32.out.2.2, HRr.out]
  go_wp2_with fail
  refine hK _ _ hb1 ?_
  clear hK K
  replace v1 := v1.next hb1
  replace c1 := c1.next hb1
  replace c2 := c2.next hb1
  replace hA := hA.next hb1
  replace hB := hB.next hb1
  replace hC := hC.next hb1
  replace hbel := hbel.trans (hb1.mono hbel.size)
  clear hb1
  refine mix_only rfl (fun K hK => ?_)
  have hb1 := below_new1 W1 (Obj.cells (dat R) 27)
  have hd := DSl.of_own (own_oneD W1 W1.heap.size (Nat.le_refl _) R)
  refine wpList_unguard (by rfl) ?_
  refine wpList_buildD rfl (.tmp 66) rfl R rfl ?_
  refine wpList_nil ?_
  refine hK _ _ hb1 ?_
  clear hK K
  simp only [Act.put, List.setIfInBounds_toArray, List.set_cons_zero, List.set_cons_succ]
  generalize W1.alloc (Obj.cells (dat R) 27) = W2 at hb1 hd ⊢
  replace v1 := v1.next hb1
  replace c1 := c1.next hb1
  replace c2 := c2.next hb1
  replace hA := hA.next hb1
  replace hB := hB.next hb1
  replace hC := hC.next hb1
  replace hbel := hbel.trans (hb1.mono hbel.size)
  clear hb1
  refine mix_only rfl (fun K hK => ?_)
  go_wp2_with fail
  refine (same8_any _ _ [R] (fun d hd => by rw [List.mem_singleton.1 hd]; exact HR.out) (by simp) W2 hA hd).mono ?_
  rintro e W3 ⟨rfl, hb1⟩
  clear hd
  go_wp2_with fail
  refine hK _ _ hb1 ?_
  clear hK K
  replace v1 := v1.next hb1
  replace c1 := c1.next hb1
  replace c2 := c2.next hb1
  replace hA := hA.next hb1
  replace hB := hB.next hb1
  replace hC := hC.next hb1
  replace hbel := hbel.trans (hb1.mono hbel.size)
  clear hb1
  iterate 13 (refine mix_plain rfl ?_; (first
    | (refine wpQuiet_eqD rfl (.tmp 132) (.tmp 134) _ rfl X X rfl rfl HX.out HX.out true (decide_eq_true rfl) ?_; simp only [Act.put, List.setIfInBounds_toArray, List.set_cons_zero, List.set_cons_succ])
    | (refine wpQuiet_eqD rfl (.tmp 139) (.tmp 141) _ rfl X X rfl rfl HX.out HX.out true (decide_eq_true rfl) ?_; simp only [Act.put, List.setIfInBounds_toArray, List.set_cons_zero, List.set_cons_succ])
    | (refine wpQuiet_load1 rfl _ (.tmp 77) rfl _ rfl _ Tryd.underlying32 rfl _ (fun _ ⟨e, he⟩ => by rw [he, plus_cell _ _ _ c1.1]; exact c1.2.1) ?_; simp only [Act.put, List.setIfInBounds_toArray, List.set_cons_zero, List.set_cons_succ])
    | (refine wpQuiet_load1 rfl _ (.tmp 81) rfl _ rfl _ Tryd.underlying32 rfl _ (fun _ ⟨e, he⟩ => by rw [he, plus_cell _ _ _ c2.1]; exact c2.2.1) ?_; simp only [Act.put, List.setIfInBounds_toArray, List.set_cons_zero, List.set_cons_succ])
    | (refine wpQuiet_load1 rfl _ (.tmp 98) rfl _ rfl _ Tryd.underlying32 rfl _ (fun _ ⟨e, he⟩ => by rw [he, plus_cell _ _ _ c2.1]; exact c2.2.1) ?_; simp only [Act.put, List.setIfInBounds_toArray, List.set_cons_zero, List.set_cons_succ])
    | go_big_quiet_step (fail)); refine wpQuiet_nil ?_)
  refine mix_only rfl (fun K hK => ?_)
  go_wp2_with fail
  refine (mleaf_any 32 u1 e1 W3 c1.2.2 (by have := Hle.out.1; omega) (hG.next hbel)).mono ?_
  rintro e W4 ⟨rfl, hb1⟩
  rw [HR32.out.2.2, HFf1.out]
  go_wp2_with fail
  refine hK _ _ hb1 ?_
  clear hK K
  replace v1 := v1.next hb1
  replace c1 := c1.next hb1
  replace c2 := c2.next hb1
  replace hA := hA.next hb1
  replace hB := hB.next hb1
  replace hC := hC.next hb1
  replace hbel := hbel.trans (hb1.mono hbel.size)
  clear hb1
  refine mix_only rfl (fun K hK => ?_)
  go_wp2_with fail
  refine (mleaf_any 32 u2 e2 W4 c2.2.2 (by have := Hle.out.2; omega) (hG.next hbel)).mono ?_
  rintro e W5 ⟨rfl, hb1⟩
  rw [HR32.out.2.2, HFf2.out]
  go_wp2_with fail
  refine hK _ _ hb1 ?_
  clear hK K
  replace v1 := v1.next hb1
  replace c1 := c1.next hb1
  replace c2 := c2.next hb1
  replace hA := hA.next hb1
  replace hB := hB.next hb1
  replace hC := hC.next hb1
  replace hbel := hbel.trans (hb1.mono hbel.size)
  clear hb1
  refine mix_only rfl (fun K hK => ?_)
  have hb1 := below_new1 W5 (Obj.cells (dcells [F1, F2]).toArray 27)
  have hd := DSl.of_own (own_twoD W5 W5.heap.size (Nat.le_refl _) F1 F2)
  refine wpList_unguard (by rfl) ?_
  refine wpList_buildD2 rfl (.tmp 79) (.tmp 83) rfl F1 F2 rfl rfl ?_
  refine wpList_nil ?_
  refine hK _ _ hb1 ?_
  clear hK K
  simp only [Act.put, List.setIfInBounds_toArray, List.set_cons_zero, List.set_cons_succ]
  generalize W5.alloc (Obj.cells (dcells [F1, F2]).toArray 27) = W6 at hb1 hd ⊢
  replace v1 := v1.next hb1
  replace c1 := c1.next hb1
  replace c2 := c2.next hb1
  replace hA := hA.next hb1
  replace hB := hB.next hb1
  replace hC := hC.next hb1
  replace hbel := hbel.trans (hb1.mono hbel.size)
  clear hb1
  refine mix_only rfl (fun K hK => ?_)
  go_wp2_with fail
  refine (same8_any _ _ [F1, F2] (fun d hd => by rcases List.mem_cons.1 hd with rfl | hd; exact HF1.out; rw [List.mem_singleton.1 hd]; exact HF2.out) (by simp) W6 hB hd).mono ?_
  rintro e W7 ⟨rfl, hb1⟩
  clear hd
  go_wp2_with fail
  refine hK _ _ hb1 ?_
  clear hK K
  replace v1 := v1.next hb1
  replace c1 := c1.next hb1
  replace c2 := c2.next hb1
  replace hA := hA.next hb1
  replace hB := hB.next hb1
  replace hC := hC.next hb1
  replace hbel := hbel.trans (hb1.mono hbel.size)
  clear hb1
  iterate 14 (refine mix_plain rfl ?_; (first
    | (refine wpQuiet_eqD rfl (.tmp 132) (.tmp 134) _ rfl X X rfl rfl HX.out HX.out true (decide_eq_true rfl) ?_; simp only [Act.put, List.setIfInBounds_toArray, List.set_cons_zero, List.set_cons_succ])
    | (refine wpQuiet_eqD rfl (.tmp 139) (.tmp 141) _ rfl X X rfl rfl HX.out HX.out true (decide_eq_true rfl) ?_; simp only [Act.put, List.setIfInBounds_toArray, List.set_cons_zero, List.set_cons_succ])
    | (refine wpQuiet_load1 rfl _ (.tmp 77) rfl _ rfl _ Tryd.underlying32 rfl _ (fun _ ⟨e, he⟩ => by rw [he, plus_cell _ _ _ c1.1]; exact c1.2.1) ?_; simp only [Act.put, List.setIfInBounds_toArray, List.set_cons_zero, List.set_cons_succ])
    | (refine wpQuiet_load1 rfl _ (.tmp 81) rfl _ rfl _ Tryd.underlying32 rfl _ (fun _ ⟨e, he⟩ => by rw [he, plus_cell _ _ _ c2.1]; exact c2.2.1) ?_; simp only [Act.put, List.setIfInBounds_toArray, List.set_cons_zero, List.set_cons_succ])
    | (refine wpQuiet_load1 rfl _ (.tmp 98) rfl _ rfl _ Tryd.underlying32 rfl _ (fun _ ⟨e, he⟩ => by rw [he, plus_cell _ _ _ c2.1]; exact c2.2.1) ?_; simp only [Act.put, List.setIfInBounds_toArray, List.set_cons_zero, List.set_cons_succ])
    | go_big_quiet_step (fail)); refine wpQuiet_nil ?_)
  refine mix_only rfl (fun K hK => ?_)
  go_wp2_with fail
  refine (mleaf_any 32 u2 e2 W7 c2.2.2 (by have := Hle.out.2; omega) (hG.next hbel)).mono ?_
  rintro e W8 ⟨rfl, hb1⟩
  rw [HR32.out.2.2, HFf2.out]
  go_wp2_with fail
  refine hK _ _ hb1 ?_
  clear hK K
  replace v1 := v1.next hb1
  replace c1 := c1.next hb1
  replace c2 := c2.next hb1
  replace hA := hA.next hb1
  replace hB := hB.next hb1
  replace hC := hC.next hb1
  replace hbel := hbel.trans (hb1.mono hbel.size)
  clear hb1
  refine mix_only rfl (fun K hK => ?_)
  have hb1 := below_new1 W8 (Obj.cells (dat F2) 27)
  have hd := DSl.of_own (own_oneD W8 W8.heap.size (Nat.le_refl _) F2)
  refine wpList_unguard (by rfl) ?_
  refine wpList_buildD rfl (.tmp 100) rfl F2 rfl ?_
  refine wpList_nil ?_
  refine hK _ _ hb1 ?_
  clear hK K
  simp only [Act.put, List.setIfInBounds_toArray, List.set_cons_zero, List.set_cons_succ]
  generalize W8.alloc (Obj.cells (dat F2) 27) = W9 at hb1 hd ⊢
  replace v1 := v1.next hb1
  replace c1 := c1.next hb1
  replace c2 := c2.next hb1
  replace hA := hA.next hb1
  replace hB := hB.next hb1
  replace hC := hC.next hb1
  replace hbel := hbel.trans (hb1.mono hbel.size)
  clear hb1
  refine mix_only rfl (fun K hK => ?_)
  go_wp2_with fail
  refine (same8_any _ _ [F2] (fun d hd => by rw [List.mem_singleton.1 hd]; exact HF2.out) (by simp) W9 hC hd).mono ?_
  rintro e W10 ⟨rfl, hb1⟩
  clear hd
  go_wp2_with fail
  refine hK _ _ hb1 ?_
  clear hK K
  replace v1 := v1.next hb1
  replace c1 := c1.next hb1
  replace c2 := c2.next hb1
  replace hA := hA.next hb1
  replace hB := hB.next hb1
  replace hC := hC.next hb1
  replace hbel := hbel.trans (hb1.mono hbel.size)
  clear hb1
  iterate 30 (refine mix_plain rfl ?_; (first
    | (refine wpQuiet_eqD rfl (.tmp 132) (.tmp 134) _ rfl X X rfl rfl HX.out HX.out true (decide_eq_true rfl) ?_; simp only [Act.put, List.setIfInBounds_toArray, List.set_cons_zero, List.set_cons_succ])
    | (refine wpQuiet_eqD rfl (.tmp 139) (.tmp 141) _ rfl X X rfl rfl HX.out HX.out true (decide_eq_true rfl) ?_; simp only [Act.put, List.setIfInBounds_toArray, List.set_cons_zero, List.set_cons_succ])
    | (refine wpQuiet_load1 rfl _ (.tmp 77) rfl _ rfl _ Tryd.underlying32 rfl _ (fun _ ⟨e, he⟩ => by rw [he, plus_cell _ _ _ c1.1]; exact c1.2.1) ?_; simp only [Act.put, List.setIfInBounds_toArray, List.set_cons_zero, List.set_cons_succ])
    | (refine wpQuiet_load1 rfl _ (.tmp 81) rfl _ rfl _ Tryd.underlying32 rfl _ (fun _ ⟨e, he⟩ => by rw [he, plus_cell _ _ _ c2.1]; exact c2.2.1) ?_; simp only [Act.put, List.setIfInBounds_toArray, List.set_cons_zero, List.set_cons_succ])
    | (refine wpQuiet_load1 rfl _ (.tmp 98) rfl _ rfl _ Tryd.underlying32 rfl _ (fun _ ⟨e, he⟩ => by rw [he, plus_cell _ _ _ c2.1]; exact c2.2.1) ?_; simp only [Act.put, List.setIfInBounds_toArray, List.set_cons_zero, List.set_cons_succ])
    | go_big_quiet_step (fail)); refine wpQuiet_nil ?_)
  refine mix_only rfl (fun K hK => ?_)
  go_wp2_with fail
  refine (mroot_any 0 _ [e0, e1, e2] W10 v1 (by simp) (fun b hb => by have := HL.out b hb; omega) (hG.next hbel)).mono ?_
  rintro e W11 ⟨rfl, hb1⟩
  rw [HR32.out.1, HXx.out]
  go_wp2_with fail
  refine hK _ _ hb1 ?_
  clear hK K
  replace v1 := v1.next hb1
  replace c1 := c1.next hb1
  replace c2 := c2.next hb1
  replace hA := hA.next hb1
  replace hB := hB.next hb1
  replace hC := hC.next hb1
  replace hbel := hbel.trans (hb1.mono hbel.size)
  clear hb1
  refine mix_only rfl (fun K hK => ?_)
  go_wp2_with fail
  refine (mroot_any 32 _ [e0, e1, e2] W11 v1 (by simp) (fun b hb => by have := HL.out b hb; omega) (hG.next hbel)).mono ?_
  rintro e W12 ⟨rfl, hb1⟩
  rw [HR32.out.2.2, HXx.out]
  go_wp2_with fail
  refine hK _ _ hb1 ?_
  clear hK K
  replace v1 := v1.next hb1
  replace c1 := c1.next hb1
  replace c2 := c2.next hb1
  replace hA := hA.next hb1
  replace hB := hB.next hb1
  replace hC := hC.next hb1
  replace hbel := hbel.trans (hb1.mono hbel.size)
  clear hb1
  iterate 5 (refine mix_plain rfl ?_; (first
    | (refine wpQuiet_eqD rfl (.tmp 132) (.tmp 134) _ rfl X X rfl rfl HX.out HX.out true (decide_eq_true rfl) ?_; simp only [Act.put, List.setIfInBounds_toArray, List.set_cons_zero, List.set_cons_succ])
    | (refine wpQuiet_eqD rfl (.tmp 139) (.tmp 141) _ rfl X X rfl rfl HX.out HX.out true (decide_eq_true rfl) ?_; simp only [Act.put, List.setIfInBounds_toArray, List.set_cons_zero, List.set_cons_succ])
    | (refine wpQuiet_load1 rfl _ (.tmp 77) rfl _ rfl _ Tryd.underlying32 rfl _ (fun _ ⟨e, he⟩ => by rw [he, plus_cell _ _ _ c1.1]; exact c1.2.1) ?_; simp only [Act.put, List.setIfInBounds_toArray, List.set_cons_zero, List.set_cons_succ])
    | (refine wpQuiet_load1 rfl _ (.tmp 81) rfl _ rfl _ Tryd.underlying32 rfl _ (fun _ ⟨e, he⟩ => by rw [he, plus_cell _ _ _ c2.1]; exact c2.2.1) ?_; simp only [Act.put, List.setIfInBounds_toArray, List.set_cons_zero, List.set_cons_succ])
    | (refine wpQuiet_load1 rfl _ (.tmp 98) rfl _ rfl _ Tryd.underlying32 rfl _ (fun _ ⟨e, he⟩ => by rw [he, plus_cell _ _ _ c2.1]; exact c2.2.1) ?_; simp only [Act.put, List.setIfInBounds_toArray, List.set_cons_zero, List.set_cons_succ])
    | go_big_quiet_step (fail)); refine wpQuiet_nil ?_)
  refine mix_only rfl (fun K hK => ?_)
  go_wp2_with fail
  refine (mroot_any 33 _ [e0, e1, e2] W12 v1 (by simp) (fun b hb => by have := HL.out b hb; omega) (hG.next hbel)).mono ?_
  rintro e W13 ⟨rfl, hb1⟩
  rw [HR32.out.2.1, HXx.out]
  go_wp2_with fail
  refine hK _ _ hb1 ?_
  clear hK K
  replace v1 := v1.next hb1
  replace c1 := c1.next hb1
  replace c2 := c2.next hb1
  replace hA := hA.next hb1
  replace hB := hB.next hb1
  replace hC := hC.next hb1
  replace hbel := hbel.trans (hb1.mono hbel.size)
  clear hb1
  refine mix_only rfl (fun K hK => ?_)
  go_wp2_with fail
  refine (mroot_any 32 _ [e0, e1, e2] W13 v1 (by simp) (fun b hb => by have := HL.out b hb; omega) (hG.next hbel)).mono ?_
  rintro e W14 ⟨rfl, hb1⟩
  rw [HR32.out.2.2, HXx.out]
  go_wp2_with fail
  refine hK _ _ hb1 ?_
  clear hK K
  replace v1 := v1.next hb1
  replace c1 := c1.next hb1
  replace c2 := c2.next hb1
  replace hA := hA.next hb1
  replace hB := hB.next hb1
  replace hC := hC.next hb1
  replace hbel := hbel.trans (hb1.mono hbel.size)
  clear hb1
  iterate 3 (refine mix_plain rfl ?_; (first
    | (refine wpQuiet_eqD rfl (.tmp 132) (.tmp 134) _ rfl X X rfl rfl HX.out HX.out true (decide_eq_true rfl) ?_; simp only [Act.put, List.setIfInBounds_toArray, List.set_cons_zero, List.set_cons_succ])
    | (refine wpQuiet_eqD rfl (.tmp 139) (.tmp 141) _ rfl X X rfl rfl HX.out HX.out true (decide_eq_true rfl) ?_; simp only [Act.put, List.setIfInBounds_toArray, List.set_cons_zero, List.set_cons_succ])
    | (refine wpQuiet_load1 rfl _ (.tmp 77) rfl _ rfl _ Tryd.underlying32 rfl _ (fun _ ⟨e, he⟩ => by rw [he, plus_cell _ _ _ c1.1]; exact c1.2.1) ?_; simp only [Act.put, List.setIfInBounds_toArray, List.set_cons_zero, List.set_cons_succ])
    | (refine wpQuiet_load1 rfl _ (.tmp 81) rfl _ rfl _ Tryd.underlying32 rfl _ (fun _ ⟨e, he⟩ => by rw [he, plus_cell _ _ _ c2.1]; exact c2.2.1) ?_; simp only [Act.put, List.setIfInBounds_toArray, List.set_cons_zero, List.set_cons_succ])
    | (refine wpQuiet_load1 rfl _ (.tmp 98) rfl _ rfl _ Tryd.underlying32 rfl _ (fun _ ⟨e, he⟩ => by rw [he, plus_cell _ _ _ c2.1]; exact c2.2.1) ?_; simp only [Act.put, List.setIfInBounds_toArray, List.set_cons_zero, List.set_cons_succ])
    | go_big_quiet_step (fail)); refine wpQuiet_nil ?_)
  refine mix_only rfl (fun K hK => ?_)
  go_wp2_with fail
  refine (known8_any W14 (hG.next hbel)).mono ?_
  rintro e W15 ⟨rfl, hb1⟩
  go_wp2_with fail
  refine hK _ _ hb1 ?_
  clear hK K
  replace v1 := v1.next hb1
  replace c1 := c1.next hb1
  replace c2 := c2.next hb1
  replace hA := hA.next hb1
  replace hB := hB.next hb1
  replace hC := hC.next hb1
  replace hbel := hbel.trans (hb1.mono hbel.size)
  clear hb1
  iterate 2 (refine mix_plain rfl ?_; (first
    | (refine wpQuiet_eqD rfl (.tmp 132) (.tmp 134) _ rfl X X rfl rfl HX.out HX.out true (decide_eq_true rfl) ?_; simp only [Act.put, List.setIfInBounds_toArray, List.set_cons_zero, List.set_cons_succ])
    | (refine wpQuiet_eqD rfl (.tmp 139) (.tmp 141) _ rfl X X rfl rfl HX.out HX.out true (decide_eq_true rfl) ?_; simp only [Act.put, List.setIfInBounds_toArray, List.set_cons_zero, List.set_cons_succ])
    | (refine wpQuiet_load1 rfl _ (.tmp 77) rfl _ rfl _ Tryd.underlying32 rfl _ (fun _ ⟨e, he⟩ => by rw [he, plus_cell _ _ _ c1.1]; exact c1.2.1) ?_; simp only [Act.put, List.setIfInBounds_toArray, List.set_cons_zero, List.set_cons_succ])
    | (refine wpQuiet_load1 rfl _ (.tmp 81) rfl _ rfl _ Tryd.underlying32 rfl _ (fun _ ⟨e, he⟩ => by rw [he, plus_cell _ _ _ c2.1]; exact c2.2.1) ?_; simp only [Act.put, List.setIfInBounds_toArray, List.set_cons_zero, List.set_cons_succ])
    | (refine wpQuiet_load1 rfl _ (.tmp 98) rfl _ rfl _ Tryd.underlying32 rfl _ (fun _ ⟨e, he⟩ => by rw [he, plus_cell _ _ _ c2.1]; exact c2.2.1) ?_; simp only [Act.put, List.setIfInBounds_toArray, List.set_cons_zero, List.set_cons_succ])
    | go_big_quiet_step (fail)); refine wpQuiet_nil ?_)
  refine mix_done ?_
  go_wp2_with fail
  go_ret
  exact ⟨rfl, hbel⟩
end Go.Proofs.YtbhmmoecoijojaaDoor
