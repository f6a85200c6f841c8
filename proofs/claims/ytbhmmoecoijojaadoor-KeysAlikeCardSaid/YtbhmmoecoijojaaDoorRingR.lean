/- The refusals of keys' Ring. No condition. -/
import Derived.Test.YtbhmmoecoijojaaDoorRing
import Derived.Test.YtbhmmoecoijojaaDoorMixS
namespace Go.Proofs.YtbhmmoecoijojaaDoor
open Go.RowKit
attribute [local irreducible] mixW
attribute [local go_sem] n8_lo n8_hi n64_lo n64_hi n32_lo n32_hi
set_option maxRecDepth 100000 in
theorem turn_out (p : Value) (t : Int) (ht : ¬ (0 ≤ t ∧ t < 16)) (draw : Value) (w : World) :
    Calls Tryd.prog 24 #[p, .int .i64 t, draw] w fun e w' => e = .returned (.tuple #[.int .i64 0, .int .i64 1]) ∧ w = w' := by
  have Hd := Lib.hid (decide_eq_false ht)
  clear ht
  go_enter Tryd.func24, Tryd.ntmps24
  go_wp2_with fail
  refine (has_any _ _).mono ?_
  rintro e w' ⟨rfl, rfl⟩
  rw [Hd.out]
  go_wp2_with fail
  go_ret2
  exact ⟨rfl, rfl⟩
set_option maxRecDepth 100000 in
theorem turn_many (g B : Nat) (seed : List UInt8) (vs : Value) (rows : List Value) (ks : Nat → List (List UInt8)) (t : Nat) (ht : t < 16) (hk : (ks t).length = 32) (draw : Value) (w : World) (hR : Rng w g B seed vs rows ks) :
    Calls Tryd.prog 24 #[.pointer (some ⟨g, 0, none⟩), .int .i64 t, draw] w fun e w' => e = .returned (.tuple #[.int .i64 0, .int .i64 4]) ∧ w = w' := by
  have hrow := hR.row t ht
  obtain ⟨Ar, cr, er⟩ := hR.rowLen t ht
  rw [er, hk] at hrow
  clear er hk
  have hd : decide ((0 : Int) ≤ (t : Int) ∧ (t : Int) < 16) = true := decide_eq_true (by omega)
  have Hd := Lib.hid hd
  clear hd
  go_enter Tryd.func24, Tryd.ntmps24
  go_wp2_with fail
  refine (has_any _ _).mono ?_
  rintro e w' ⟨rfl, rfl⟩
  rw [Hd.out]
  go_wp2_with fail
  go_ret2
  exact ⟨rfl, rfl⟩
theorem built_S0 : Tryd.prog.built 51 [] = some (sigC zeroHead []) := by kernel_rfl
theorem wpList_build {P : Program} {w : World} {ops : Array Oper} {rest : List Oper} {o : Oper} {a : Act} {Q : Exit → Act → World → Prop} (hg : o.guard = none) (t : TypeId) (parts : Array (Nat × Operand)) (ho : o.op = .build t parts) (cells : Array Value) (hb : P.built t (parts.map fun (i, x) => (i, a.eval x)).toList = some cells)
    (hk : wpList P ops Q rest (a.put o.dst (.agg cells)) w) : wpList P ops Q (o :: rest) a w :=
  wpList_plain hg fun K hK => by
    unfold Oper.wp execOp
    simp only [ho, Sem.run_bind, run_build w t _ cells hb, Result.andThen_ok, Sem.run_pure]
    exact hK _ _ hk
set_option maxHeartbeats 400000 in
set_option maxRecDepth 100000 in
theorem rsign_out (p : Value) (h : HeadL) (ht : ¬ (0 ≤ h.tree ∧ h.tree < 16)) (w : World) :
    Calls Tryd.prog 25 #[p, .agg (headC h)] w fun e w' => e = .returned (.tuple #[.agg (sigC zeroHead []), .int .i64 1]) ∧ Below w.heap.size w w' := by
  have Hd := Lib.hid (decide_eq_false ht)
  clear ht
  have hzv := zero_sig
  go_enter Tryd.func25, Tryd.ntmps25
  go_upto_region 1 with fail
  clear hzv
  refine wp_at (fun W => Blk W w.heap.size 49 (headC h) ∧ Blk W (w.heap.size + 1) 51 (sigC zeroHead []) ∧ Below w.heap.size w W)
    ⟨(Blk.new w _ _).alloc _, Blk.new2 _ _ _ _, ((Below.refl _ _).alloc (Nat.le_refl _) _).alloc (by simp) _⟩ ?_
  rintro W ⟨hH, hS, hbel⟩
  have c0 : W.cell? ⟨w.heap.size, 0, none⟩ = some (.int .i64 h.tree) := by rw [hH.cell, headC_0]
  go_wp2_with fail
  refine (has_any _ _).mono ?_
  rintro e w' ⟨rfl, rfl⟩
  rw [Hd.out]
  clear c0
  have hbS := built_S0
  go_wp2_with (first
    | (refine wpList_build rfl 51 _ rfl (sigC zeroHead []) built_S0 ?_)
    | (refine wpList_storeB rfl rfl 51 (.tmp 4) (.tmp 12) rfl (w.heap.size + 1) 0 rfl (sigC zeroHead []) rfl _ _ hS (by rw [sigC_size]; kernel_rfl) (by rw [sigC_size]; omega) (sigC_one _ _) ?_; intro W5 hS5 hon5))
  rw [copied_all _ _ (by rw [sigC_size])] at hS5
  have hb5 := below_only hbel hon5 (by omega) hbel.size
  refine bodyPost_ret (results_cell_tmp (p := 4) (q := 5) (ty := 51) rfl _ _ (w.heap.size + 1) _ _ _ _ rfl hS5 Tryd.underlying51 rfl (by rw [sigC_size]; kernel_rfl)) rfl ⟨?_, hb5⟩
  rfl
set_option maxHeartbeats 400000 in
set_option maxRecDepth 100000 in
theorem rsign_none (g B : Nat) (seed : List UInt8) (vs : Value) (rows : List Value) (ks : Nat → List (List UInt8)) (t : Nat) (ht : t < 16) (hk : ks t = []) (h : HeadL) (htr : h.tree = t) (w : World) (hR : Rng w g B seed vs rows ks) :
    Calls Tryd.prog 25 #[.pointer (some ⟨g, 0, none⟩), .agg (headC h)] w fun e w' => e = .returned (.tuple #[.agg (sigC zeroHead []), .int .i64 23]) ∧ Below w.heap.size w w' := by
  have hd : decide ((0 : Int) ≤ (t : Int) ∧ (t : Int) < 16) = true := decide_eq_true (by omega)
  have Hd := Lib.hid hd
  have Hk := Lib.hid hk
  have Htr := Lib.hid htr
  clear hd hk htr
  have hzv := zero_sig
  go_enter Tryd.func25, Tryd.ntmps25
  go_upto_region 1 with fail
  clear hzv
  refine wp_at (fun W => Blk W w.heap.size 49 (headC h) ∧ Blk W (w.heap.size + 1) 51 (sigC zeroHead []) ∧ Below w.heap.size w W)
    ⟨(Blk.new w _ _).alloc _, Blk.new2 _ _ _ _, ((Below.refl _ _).alloc (Nat.le_refl _) _).alloc (by simp) _⟩ ?_
  rintro W ⟨hH, hS, hbel⟩
  have c0 : W.cell? ⟨w.heap.size, 0, none⟩ = some (.int .i64 t) := by rw [hH.cell, headC_0, Htr.out]
  have hRW := hR.below hbel
  go_wp2_with fail
  refine (has_any _ _).mono ?_
  rintro e w' ⟨rfl, rfl⟩
  rw [Hd.out]
  go_wp2_with fail
  refine (epoch_none g B seed vs rows ks t ht Hk.out W hRW).mono ?_
  rintro e w' ⟨rfl, rfl⟩
  clear c0
  go_wp2_with (first
    | (refine wpList_build rfl 51 _ rfl (sigC zeroHead []) built_S0 ?_)
    | (refine wpList_storeB rfl rfl 51 (.tmp 4) (.tmp 22) rfl (w.heap.size + 1) 0 rfl (sigC zeroHead []) rfl _ _ hS (by rw [sigC_size]; kernel_rfl) (by rw [sigC_size]; omega) (sigC_one _ _) ?_; intro W5 hS5 hon5))
  rw [copied_all _ _ (by rw [sigC_size])] at hS5
  have hb5 := below_only hbel hon5 (by omega) hbel.size
  refine bodyPost_ret (results_cell_tmp (p := 4) (q := 5) (ty := 51) rfl _ _ (w.heap.size + 1) _ _ _ _ rfl hS5 Tryd.underlying51 rfl (by rw [sigC_size]; kernel_rfl)) rfl ⟨?_, hb5⟩
  rfl
set_option maxHeartbeats 600000 in
set_option maxRecDepth 100000 in
/-- what was never signed by an epoch of a tree does not hold -/
theorem rholds_no (g B : Nat) (seed : List UInt8) (vs : Value) (rows : List Value) (ks : Nat → List (List UInt8)) (hk2 : ∀ i, i < 16 → (ks i).length ≤ 32) (h : HeadL) (hno : ¬ (0 ≤ h.tree ∧ h.tree < 16 ∧ 0 ≤ h.epoch ∧ h.epoch < (ks h.tree.toNat).length)) (tag : List UInt8) (w : World) (hR : Rng w g B seed vs rows ks) :
    Calls Tryd.prog 27 #[.pointer (some ⟨g, 0, none⟩), .agg (sigC h tag)] w fun e w' => e = .returned (.bool false) ∧ Below w.heap.size w w' := by
  have Hno := Lib.hid hno
  have Hk2 := Lib.hid hk2
  clear hno hk2
  go_enter Tryd.func27, Tryd.ntmps27
  go_wp2
  refine wp_at (fun W => Blk W w.heap.size 51 (sigC h tag) ∧ Below w.heap.size w W) ⟨Blk.new w _ _, below_new1 w _⟩ ?_
  rintro W ⟨hS, hbel⟩
  refine wp_region_mixP (.plain 0 <| .plain 1 <| .plain 2 <| .plain 3 <| .plain 4 <| .plain 5 <| .plain 6 <| .plain 7 <| .done) (by kernel_rfl) (by kernel_rfl) (fun W1 hb1 => ?_)
  have hS1 := hS.below hb1 hS.lt
  have hbel1 := hbel.trans (hb1.mono hbel.size)
  have c0 : W1.cell? ⟨w.heap.size, 0, none⟩ = some (.int .i64 h.tree) := by rw [hS1.cell, sigC_0]
  have c1 : W1.cell? ⟨w.heap.size, 1, none⟩ = some (.int .i64 h.epoch) := by rw [hS1.cell, sigC_1]
  clear hS hbel hb1
  repeat (refine mix_plain rfl ?_; (first
    | (refine wpQuiet_load1 rfl _ (.tmp 8) rfl _ rfl _ Tryd.underlying3 rfl _ (fun _ ⟨e, he⟩ => by rw [he, plus_cell _ _ _ hS1.lt]; exact c0) ?_; simp only [Act.put, List.setIfInBounds_toArray, List.set_cons_zero, List.set_cons_succ])
    | (refine wpQuiet_load1 rfl _ (.tmp 11) rfl _ rfl _ Tryd.underlying3 rfl _ (fun _ ⟨e, he⟩ => by rw [he, plus_cell _ _ _ hS1.lt]; exact c1) ?_; simp only [Act.put, List.setIfInBounds_toArray, List.set_cons_zero, List.set_cons_succ])
    | go_big_quiet_step (fail)); refine wpQuiet_nil ?_)
  refine mix_done ?_
  clear c0 c1
  go_wp2
  have hPL := True.intro
  refine wp_region_mixP (.plain 0 <| .only 1 <| .plain 2 <| .plain 3 <| .plain 4 <| .plain 5 <| .plain 6 <| .plain 7 <| .plain 8 <| .plain 9 <| .plain 10 <| .plain 11 <| .plain 12 <| .plain 13 <| .plain 14 <| .plain 15 <| .plain 16 <| .plain 17 <| .plain 18 <| .plain 19 <| .plain 20 <| .plain 21 <| .plain 22 <| .plain 23 <| .plain 24 <| .plain 25 <| .plain 26 <| .plain 27 <| .only 28 <| .plain 29 <| .plain 30 <| .done) (by kernel_rfl) (by kernel_rfl) (fun W2 hb2 => ?_)
  have hS2 := hS1.below hb2 hS1.lt
  have hbel2 := hbel1.trans (hb2.mono hbel1.size)
  clear hS1 hbel1 hb2 hPL
  repeat (refine mix_plain rfl ?_; go_big_quiet_step (fail); refine wpQuiet_nil ?_)
  refine mix_only rfl (fun K hK => ?_)
  go_wp2_with fail
  refine (has_any _ _).mono ?_
  rintro e w' ⟨rfl, rfl⟩
  have hR2 := hR.below hbel2
  by_cases ht : 0 ≤ h.tree ∧ h.tree < 16
  · rw [decide_eq_true ht]
    obtain ⟨t, htt⟩ : ∃ t : Nat, h.tree = (t : Int) := ⟨h.tree.toNat, by omega⟩
    have ht16 : t < 16 := by omega
    have Hno2 : Hid (¬ (0 ≤ h.epoch ∧ h.epoch < ((ks t).length : Int))) := Lib.hid (fun hh => Hno.out ⟨ht.1, ht.2, hh.1, by rw [htt]; exact hh.2⟩)
    rw [htt] at *
    clear ht htt Hno
    go_wp2_with fail
    refine hK _ _ (Below.refl _ _) ?_
    clear hK K
    by_cases he : 0 ≤ h.epoch
    · have hrow := hR2.row t ht16
      obtain ⟨Ar, cr, er⟩ := hR2.rowLen t ht16
      rw [er] at hrow
      have hgl := hR2.blk.lt
      have hlt1 : decide (h.epoch < ((ks t).length : Int)) = false := decide_eq_false (fun hh => Hno2.out ⟨he, hh⟩)
      clear er
      iterate 14 (refine mix_plain rfl ?_; (first
        | (refine wpQuiet_nilCheck rfl (.tmp 21) rfl _ rfl ?_; simp only [Act.put, List.setIfInBounds_toArray, List.set_cons_zero, List.set_cons_succ])
        | (refine wpQuiet_load1 rfl _ (.tmp 25) rfl _ rfl _ Tryd.underlying37 rfl _ (fun _ ⟨e, he⟩ => by rw [he, plus_cell _ _ _ hgl]; exact hrow) ?_; simp only [Act.put, List.setIfInBounds_toArray, List.set_cons_zero, List.set_cons_succ])
        | go_big_quiet_step (fail)); refine wpQuiet_nil ?_)
      iterate 2 (refine mix_plain rfl ?_; go_big_quiet_step (fail); refine wpQuiet_nil ?_)
      iterate 10 (refine mix_skip rfl rfl ?_; simp only [Act.put, List.setIfInBounds_toArray, List.set_cons_zero, List.set_cons_succ])
      refine mix_only rfl (fun K hK => ?_)
      go_wp2_with fail
      refine hK _ _ (Below.refl _ _) ?_
      clear hK K
      iterate 2 (refine mix_plain rfl ?_; go_big_quiet_step (fail); refine wpQuiet_nil ?_)
      refine mix_done ?_
      go_wp2
      go_ret
      exact ⟨rfl, hbel2⟩
    · have he2 : decide (0 ≤ h.epoch) = false := decide_eq_false he
      iterate 5 (refine mix_plain rfl ?_; go_big_quiet_step (fail); refine wpQuiet_nil ?_)
      iterate 9 (refine mix_skip rfl rfl ?_; simp only [Act.put, List.setIfInBounds_toArray, List.set_cons_zero, List.set_cons_succ])
      iterate 2 (refine mix_plain rfl ?_; go_big_quiet_step (fail); refine wpQuiet_nil ?_)
      iterate 10 (refine mix_skip rfl rfl ?_; simp only [Act.put, List.setIfInBounds_toArray, List.set_cons_zero, List.set_cons_succ])
      refine mix_only rfl (fun K hK => ?_)
      go_wp2_with fail
      refine hK _ _ (Below.refl _ _) ?_
      clear hK K
      iterate 2 (refine mix_plain rfl ?_; go_big_quiet_step (fail); refine wpQuiet_nil ?_)
      refine mix_done ?_
      go_wp2
      go_ret
      exact ⟨rfl, hbel2⟩
  · rw [decide_eq_false ht]
    go_wp2_with fail
    refine hK _ _ (Below.refl _ _) ?_
    clear hK K ht
    iterate 1 (refine mix_plain rfl ?_; go_big_quiet_step (fail); refine wpQuiet_nil ?_)
    iterate 2 (refine mix_skip rfl rfl ?_; simp only [Act.put, List.setIfInBounds_toArray, List.set_cons_zero, List.set_cons_succ])
    iterate 2 (refine mix_plain rfl ?_; go_big_quiet_step (fail); refine wpQuiet_nil ?_)
    iterate 9 (refine mix_skip rfl rfl ?_; simp only [Act.put, List.setIfInBounds_toArray, List.set_cons_zero, List.set_cons_succ])
    iterate 2 (refine mix_plain rfl ?_; go_big_quiet_step (fail); refine wpQuiet_nil ?_)
    iterate 10 (refine mix_skip rfl rfl ?_; simp only [Act.put, List.setIfInBounds_toArray, List.set_cons_zero, List.set_cons_succ])
    refine mix_only rfl (fun K hK => ?_)
    go_wp2_with fail
    refine hK _ _ (Below.refl _ _) ?_
    clear hK K
    iterate 2 (refine mix_plain rfl ?_; go_big_quiet_step (fail); refine wpQuiet_nil ?_)
    refine mix_done ?_
    go_wp2
    go_ret
    exact ⟨rfl, hbel2⟩
end Go.Proofs.YtbhmmoecoijojaaDoor
