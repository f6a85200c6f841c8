/- Texts that stand behind one another: CmpK. No condition. -/
import Derived.Test.YtkogehkmldbhgaaDoorP17
/- The walk of deponentlaw10's known. Condition: the tables. -/
namespace Go.Proofs.YtkogehkmldbhgaaDoor
open Go Go.RowKit
attribute [local irreducible] mixW
attribute [local go_sem] n8_lo n8_hi n64_lo n64_hi n32_lo n32_hi
theorem NSl.lit {w : World} {g : Nat} {t : TypeId} {ns : List Nat} (h : Blk w g t (ns.map nU).toArray) (hl : ns.length ≤ 1000) : NSl w w.heap.size (.slice (some ⟨g, 0, none⟩) ns.length ns.length) ns := by
  refine ⟨_, _, rfl, Nat.le_refl _, by omega, ?_⟩
  have := Reads.of_blk h h.lt 0
  simpa using this
theorem lit3 (w : World) (a b c : Nat) : Blk (w.alloc (Obj.cells #[.int .u64 (a : Int), .int .u64 (b : Int), .int .u64 (c : Int)] 22)) w.heap.size 22 (([a, b, c] : List Nat).map nU).toArray := Blk.new w _ _
theorem kw32c : cutW 32 = 32 := by decide
set_option maxHeartbeats 1000000 in
set_option maxRecDepth 100000 in
theorem known10_any (w : World) (hG : Glob w) (hT : Tz w) : Calls Tryd.prog 11 #[] w fun e w' => e = .returned (.bool true) ∧ Below w.heap.size w w' := by
  obtain ⟨Z, hZ0⟩ : ∃ Z, sumM 32 [] = Z := ⟨_, rfl⟩
  have HZ : Hid (sumM 32 [] = Z ∧ Z.length = 32) := Lib.hid ⟨hZ0, by rw [← hZ0]; exact sumM_length _ _⟩
  clear hZ0
  go_enter Tryd.func11, Tryd.ntmps11
  go_wp2_with fail
  refine (empty_any 0 w).mono ?_
  rintro r w1 ⟨rfl, hb1⟩
  go_wp2_with fail
  refine (croot_any 32 0 0 (by decide) (by decide) none 0 [] (fun _ h => by cases h) (by decide) w1 (DX.nil_ w1) (hG.next hb1) (hT.next hb1)).mono ?_
  rintro r w2 ⟨rfl, hb2⟩
  rw [kw32c, show rootV 32 0 0 [] = (sumM 32 [], 0) from by unfold rootV; rw [if_neg (by decide +kernel), if_neg (by decide)]; rfl, HZ.out.1]
  have hbel := hb1.trans (hb2.mono hb1.size)
  have hD := Blk.new w2 43 (arr 32 fun _ => 0)
  clear hb1 hb2
  go_upto_region 2 with (first
    | (refine wpList_storeDat rfl rfl 43 (.tmp 1) (.tmp 6) rfl w2.heap.size rfl _ _ rfl _ hD (by kernel_rfl) ?_; intro w3 hZ hon3))
  replace hbel := hbel.trans ((below_only (below_new1 w2 (Obj.cells (arr 32 fun _ => 0) 43)) hon3 (Nat.le_refl _) (by simp)).mono hbel.size)
  obtain ⟨g1, hg1⟩ : ∃ g, w2.heap.size = g := ⟨_, rfl⟩
  rw [hg1] at hZ ⊢
  clear hon3 hg1 hD
  refine wp_region_mixP (.two 0 1 (.only 1 <| .only 2 <| .plain 3 <| .two 4 5 (.only 5 <| .only 6 <| .plain 7 <| .plain 8 <| .plain 9 <| .only 10 <| .plain 11 <| .plain 12 <| .plain 13 <| .plain 14 <| .plain 15 <| .plain 16 <| .plain 17 <| .done) <| (.only 4 <| .only 6 <| .plain 7 <| .plain 8 <| .plain 9 <| .only 10 <| .plain 11 <| .plain 12 <| .plain 13 <| .plain 14 <| .plain 15 <| .plain 16 <| .plain 17 <| .done)) <| (.only 0 <| .only 2 <| .plain 3 <| .two 4 5 (.only 5 <| .only 6 <| .plain 7 <| .plain 8 <| .plain 9 <| .only 10 <| .plain 11 <| .plain 12 <| .plain 13 <| .plain 14 <| .plain 15 <| .plain 16 <| .plain 17 <| .done) <| (.only 4 <| .only 6 <| .plain 7 <| .plain 8 <| .plain 9 <| .only 10 <| .plain 11 <| .plain 12 <| .plain 13 <| .plain 14 <| .plain 15 <| .plain 16 <| .plain 17 <| .done))) (by kernel_rfl) (by kernel_rfl) (fun W1 hb1 => ?_)
  replace hZ := hZ.below hb1 hZ.lt
  replace hbel := hbel.trans (hb1.mono hbel.size)
  clear hb1
  have hb := Below.refl W1.heap.size W1
  refine mix_two_in rfl rfl (fun K hK => ?_) (fun K hK => ?_)
  · go_wp2_with fail
    refine (blocks_any 0 7 (by decide) (by decide) W1 (hT.next (hbel.trans (hb.mono hbel.size)))).mono ?_
    rintro r Va ⟨u, rfl, hu, hbx⟩
    rw [show toldL 0 7 = [4, 2, 1] by decide +kernel] at hu
    replace hb := hb.trans (hbx.mono hb.size)
    go_wp2_with fail
    refine hK _ _ (below_plus hb) ?_
    clear hK K
    clear hbx
    obtain ⟨Au, cu, rfl, hcu1, hcu2, hru⟩ := hu.nsl
    have hu : NSl Va Va.heap.size (.slice Au 3 cu) [4, 2, 1] := ⟨Au, cu, rfl, hcu1, hcu2, hru⟩
    clear hcu1 hcu2 hru
    refine mix_only_in rfl (fun K hK => ?_)
    have hlit : Blk (Va.alloc (Obj.cells #[.int .u64 4, .int .u64 2, .int .u64 1] 22)) Va.heap.size 22 (([4, 2, 1] : List Nat).map nU).toArray := lit3 Va 4 2 1
    have hbx := below_new1 Va (Obj.cells #[.int .u64 4, .int .u64 2, .int .u64 1] 22)
    replace hb := hb.trans (hbx.mono hb.size)
    go_wp2_with fail
    refine hK _ _ (below_plus hb) ?_
    clear hK K
    replace hu := hu.next hbx
    clear hbx
    obtain ⟨gl, hgl⟩ : ∃ gl, Va.heap.size = gl := ⟨_, rfl⟩
    rw [hgl] at hlit ⊢
    clear hgl
    refine mix_atC (fun V => NSl V V.heap.size (.slice Au 3 cu) [4, 2, 1] ∧ Blk V gl 22 (([4, 2, 1] : List Nat).map nU).toArray ∧ Below W1.heap.size W1 V) ⟨hu, hlit, hb⟩ ?_
    clear hb hlit hu
    rintro Vb ⟨hu, hlit, hb⟩
    refine mix_only_in rfl (fun K hK => ?_)
    go_wp2_with fail
    refine (sameU_any (.slice Au 3 cu) (.slice (some ⟨gl, 0, none⟩) 3 3) [4, 2, 1] (by decide) Vb hu (NSl.lit hlit (by decide))).mono ?_
    rintro r W9 ⟨rfl, hbx⟩
    replace hb := hb.trans (hbx.mono hb.size)
    go_wp2_with fail
    refine hK _ _ (below_plus hb) ?_
    clear hK K hu hbx hlit
    iterate 1 (refine mix_plain rfl ?_; go_big_quiet_step (fail); refine wpQuiet_nil ?_)
    refine mix_atC (fun V => Below W1.heap.size W1 V) hb ?_
    clear hb
    rintro Vc hb
    refine mix_two_in rfl rfl (fun K hK => ?_) (fun K hK => ?_)
    · refine wpList_unguard rfl ?_
      go_wp2_with fail
      refine (blocks_any 3 10 (by decide) (by decide) Vc (hT.next (hbel.trans (hb.mono hbel.size)))).mono ?_
      rintro r Va ⟨u, rfl, hu, hbx⟩
      rw [show toldL 3 10 = [1, 4, 2] by decide +kernel] at hu
      replace hb := hb.trans (hbx.mono hb.size)
      go_wp2_with fail
      refine hK _ _ (below_plus hb) ?_
      clear hK K
      clear hbx
      obtain ⟨Au, cu, rfl, hcu1, hcu2, hru⟩ := hu.nsl
      have hu : NSl Va Va.heap.size (.slice Au 3 cu) [1, 4, 2] := ⟨Au, cu, rfl, hcu1, hcu2, hru⟩
      clear hcu1 hcu2 hru
      refine mix_only_in rfl (fun K hK => ?_)
      have hlit : Blk (Va.alloc (Obj.cells #[.int .u64 1, .int .u64 4, .int .u64 2] 22)) Va.heap.size 22 (([1, 4, 2] : List Nat).map nU).toArray := lit3 Va 1 4 2
      have hbx := below_new1 Va (Obj.cells #[.int .u64 1, .int .u64 4, .int .u64 2] 22)
      replace hb := hb.trans (hbx.mono hb.size)
      refine wpList_unguard rfl ?_
      go_wp2_with fail
      refine hK _ _ (below_plus hb) ?_
      clear hK K
      replace hu := hu.next hbx
      clear hbx
      obtain ⟨gl, hgl⟩ : ∃ gl, Va.heap.size = gl := ⟨_, rfl⟩
      rw [hgl] at hlit ⊢
      clear hgl
      refine mix_atC (fun V => NSl V V.heap.size (.slice Au 3 cu) [1, 4, 2] ∧ Blk V gl 22 (([1, 4, 2] : List Nat).map nU).toArray ∧ Below W1.heap.size W1 V) ⟨hu, hlit, hb⟩ ?_
      clear hb hlit hu
      rintro Vb ⟨hu, hlit, hb⟩
      refine mix_only_in rfl (fun K hK => ?_)
      refine wpList_unguard rfl ?_
      go_wp2_with fail
      refine (sameU_any (.slice Au 3 cu) (.slice (some ⟨gl, 0, none⟩) 3 3) [1, 4, 2] (by decide) Vb hu (NSl.lit hlit (by decide))).mono ?_
      rintro r W9 ⟨rfl, hbx⟩
      replace hb := hb.trans (hbx.mono hb.size)
      go_wp2_with fail
      refine hK _ _ (below_plus hb) ?_
      clear hK K hu hbx hlit
      iterate 3 (refine mix_plain rfl ?_; (first
        | (refine wpQuiet_load rfl _ (.tmp 1) rfl g1 rfl _ (dat Z) _ _ (fun _ ⟨e, he⟩ => by rw [he]; exact hZ.plus e) Tryd.underlying43 rfl (by rw [dat_size]; kernel_rfl) ?_; simp only [Act.put, List.setIfInBounds_toArray, List.set_cons_zero, List.set_cons_succ])
        | go_big_quiet_step (fail)); refine wpQuiet_nil ?_)
      refine mix_only_in rfl (fun K hK => ?_)
      refine wpList_unguard rfl ?_
      go_wp2_with fail
      refine (mroot_any 32 _ [] _ SSl.nil9 (by decide) (fun _ h => by cases h) (hG.next (hbel.trans (hb.mono hbel.size)))).mono ?_
      rintro r W10 ⟨rfl, hbx⟩
      rw [kw32c, show rootM 32 [] = Z from HZ.out.1]
      replace hb := hb.trans (hbx.mono hb.size)
      clear hbx
      go_wp2_with fail
      refine hK _ _ (below_plus hb) ?_
      clear hK K
      iterate 7 (refine mix_plain rfl ?_; (first
        | (refine wpQuiet_eqD rfl (.tmp 17) (.tmp 18) _ rfl Z Z rfl rfl HZ.out.2 HZ.out.2 true (decide_eq_true rfl) ?_; simp only [Act.put, List.setIfInBounds_toArray, List.set_cons_zero, List.set_cons_succ])
        | go_big_quiet_step (fail)); refine wpQuiet_nil ?_)
      refine mix_done ?_
      go_wp2_with fail
      go_ret
      exact ⟨rfl, hbel.trans (hb.mono hbel.size)⟩
    · have hlit : Blk (Vc.alloc (Obj.cells #[.int .u64 1, .int .u64 4, .int .u64 2] 22)) Vc.heap.size 22 (([1, 4, 2] : List Nat).map nU).toArray := lit3 Vc 1 4 2
      have hbx := below_new1 Vc (Obj.cells #[.int .u64 1, .int .u64 4, .int .u64 2] 22)
      replace hb := hb.trans (hbx.mono hb.size)
      refine wpList_unguard rfl ?_
      go_wp2_with fail
      refine hK _ _ (below_plus hb) ?_
      clear hK K
      clear hbx
      obtain ⟨gl, hgl⟩ : ∃ gl, Vc.heap.size = gl := ⟨_, rfl⟩
      rw [hgl] at hlit ⊢
      clear hgl
      refine mix_atC (fun V => Blk V gl 22 (([1, 4, 2] : List Nat).map nU).toArray ∧ Below W1.heap.size W1 V) ⟨hlit, hb⟩ ?_
      clear hb hlit
      rintro Va ⟨hlit, hb⟩
      refine mix_only_in rfl (fun K hK => ?_)
      refine wpList_unguard rfl ?_
      go_wp2_with fail
      refine (blocks_any 3 10 (by decide) (by decide) Va (hT.next (hbel.trans (hb.mono hbel.size)))).mono ?_
      rintro r Vb ⟨u, rfl, hu, hbx⟩
      rw [show toldL 3 10 = [1, 4, 2] by decide +kernel] at hu
      replace hb := hb.trans (hbx.mono hb.size)
      go_wp2_with fail
      refine hK _ _ (below_plus hb) ?_
      clear hK K
      replace hlit := hlit.below hbx hlit.lt
      clear hbx
      obtain ⟨Au, cu, rfl, hcu1, hcu2, hru⟩ := hu.nsl
      have hu : NSl Vb Vb.heap.size (.slice Au 3 cu) [1, 4, 2] := ⟨Au, cu, rfl, hcu1, hcu2, hru⟩
      clear hcu1 hcu2 hru
      refine mix_only_in rfl (fun K hK => ?_)
      refine wpList_unguard rfl ?_
      go_wp2_with fail
      refine (sameU_any (.slice Au 3 cu) (.slice (some ⟨gl, 0, none⟩) 3 3) [1, 4, 2] (by decide) Vb hu (NSl.lit hlit (by decide))).mono ?_
      rintro r W9 ⟨rfl, hbx⟩
      replace hb := hb.trans (hbx.mono hb.size)
      go_wp2_with fail
      refine hK _ _ (below_plus hb) ?_
      clear hK K hu hbx hlit
      iterate 3 (refine mix_plain rfl ?_; (first
        | (refine wpQuiet_load rfl _ (.tmp 1) rfl g1 rfl _ (dat Z) _ _ (fun _ ⟨e, he⟩ => by rw [he]; exact hZ.plus e) Tryd.underlying43 rfl (by rw [dat_size]; kernel_rfl) ?_; simp only [Act.put, List.setIfInBounds_toArray, List.set_cons_zero, List.set_cons_succ])
        | go_big_quiet_step (fail)); refine wpQuiet_nil ?_)
      refine mix_only_in rfl (fun K hK => ?_)
      refine wpList_unguard rfl ?_
      go_wp2_with fail
      refine (mroot_any 32 _ [] _ SSl.nil9 (by decide) (fun _ h => by cases h) (hG.next (hbel.trans (hb.mono hbel.size)))).mono ?_
      rintro r W10 ⟨rfl, hbx⟩
      rw [kw32c, show rootM 32 [] = Z from HZ.out.1]
      replace hb := hb.trans (hbx.mono hb.size)
      clear hbx
      go_wp2_with fail
      refine hK _ _ (below_plus hb) ?_
      clear hK K
      iterate 7 (refine mix_plain rfl ?_; (first
        | (refine wpQuiet_eqD rfl (.tmp 17) (.tmp 18) _ rfl Z Z rfl rfl HZ.out.2 HZ.out.2 true (decide_eq_true rfl) ?_; simp only [Act.put, List.setIfInBounds_toArray, List.set_cons_zero, List.set_cons_succ])
        | go_big_quiet_step (fail)); refine wpQuiet_nil ?_)
      refine mix_done ?_
      go_wp2_with fail
      go_ret
      exact ⟨rfl, hbel.trans (hb.mono hbel.size)⟩
  · have hlit : Blk (W1.alloc (Obj.cells #[.int .u64 4, .int .u64 2, .int .u64 1] 22)) W1.heap.size 22 (([4, 2, 1] : List Nat).map nU).toArray := lit3 W1 4 2 1
    have hbx := below_new1 W1 (Obj.cells #[.int .u64 4, .int .u64 2, .int .u64 1] 22)
    replace hb := hb.trans (hbx.mono hb.size)
    go_wp2_with fail
    refine hK _ _ (below_plus hb) ?_
    clear hK K
    clear hbx
    obtain ⟨gl, hgl⟩ : ∃ gl, W1.heap.size = gl := ⟨_, rfl⟩
    rw [hgl] at hlit ⊢
    clear hgl
    refine mix_atC (fun V => Blk V gl 22 (([4, 2, 1] : List Nat).map nU).toArray ∧ Below W1.heap.size W1 V) ⟨hlit, hb⟩ ?_
    clear hb hlit
    rintro Va ⟨hlit, hb⟩
    refine mix_only_in rfl (fun K hK => ?_)
    go_wp2_with fail
    refine (blocks_any 0 7 (by decide) (by decide) Va (hT.next (hbel.trans (hb.mono hbel.size)))).mono ?_
    rintro r Vb ⟨u, rfl, hu, hbx⟩
    rw [show toldL 0 7 = [4, 2, 1] by decide +kernel] at hu
    replace hb := hb.trans (hbx.mono hb.size)
    go_wp2_with fail
    refine hK _ _ (below_plus hb) ?_
    clear hK K
    replace hlit := hlit.below hbx hlit.lt
    clear hbx
    obtain ⟨Au, cu, rfl, hcu1, hcu2, hru⟩ := hu.nsl
    have hu : NSl Vb Vb.heap.size (.slice Au 3 cu) [4, 2, 1] := ⟨Au, cu, rfl, hcu1, hcu2, hru⟩
    clear hcu1 hcu2 hru
    refine mix_only_in rfl (fun K hK => ?_)
    go_wp2_with fail
    refine (sameU_any (.slice Au 3 cu) (.slice (some ⟨gl, 0, none⟩) 3 3) [4, 2, 1] (by decide) Vb hu (NSl.lit hlit (by decide))).mono ?_
    rintro r W9 ⟨rfl, hbx⟩
    replace hb := hb.trans (hbx.mono hb.size)
    go_wp2_with fail
    refine hK _ _ (below_plus hb) ?_
    clear hK K hu hbx hlit
    iterate 1 (refine mix_plain rfl ?_; go_big_quiet_step (fail); refine wpQuiet_nil ?_)
    refine mix_atC (fun V => Below W1.heap.size W1 V) hb ?_
    clear hb
    rintro Vc hb
    refine mix_two_in rfl rfl (fun K hK => ?_) (fun K hK => ?_)
    · refine wpList_unguard rfl ?_
      go_wp2_with fail
      refine (blocks_any 3 10 (by decide) (by decide) Vc (hT.next (hbel.trans (hb.mono hbel.size)))).mono ?_
      rintro r Va ⟨u, rfl, hu, hbx⟩
      rw [show toldL 3 10 = [1, 4, 2] by decide +kernel] at hu
      replace hb := hb.trans (hbx.mono hb.size)
      go_wp2_with fail
      refine hK _ _ (below_plus hb) ?_
      clear hK K
      clear hbx
      obtain ⟨Au, cu, rfl, hcu1, hcu2, hru⟩ := hu.nsl
      have hu : NSl Va Va.heap.size (.slice Au 3 cu) [1, 4, 2] := ⟨Au, cu, rfl, hcu1, hcu2, hru⟩
      clear hcu1 hcu2 hru
      refine mix_only_in rfl (fun K hK => ?_)
      have hlit : Blk (Va.alloc (Obj.cells #[.int .u64 1, .int .u64 4, .int .u64 2] 22)) Va.heap.size 22 (([1, 4, 2] : List Nat).map nU).toArray := lit3 Va 1 4 2
      have hbx := below_new1 Va (Obj.cells #[.int .u64 1, .int .u64 4, .int .u64 2] 22)
      replace hb := hb.trans (hbx.mono hb.size)
      refine wpList_unguard rfl ?_
      go_wp2_with fail
      refine hK _ _ (below_plus hb) ?_
      clear hK K
      replace hu := hu.next hbx
      clear hbx
      obtain ⟨gl, hgl⟩ : ∃ gl, Va.heap.size = gl := ⟨_, rfl⟩
      rw [hgl] at hlit ⊢
      clear hgl
      refine mix_atC (fun V => NSl V V.heap.size (.slice Au 3 cu) [1, 4, 2] ∧ Blk V gl 22 (([1, 4, 2] : List Nat).map nU).toArray ∧ Below W1.heap.size W1 V) ⟨hu, hlit, hb⟩ ?_
      clear hb hlit hu
      rintro Vb ⟨hu, hlit, hb⟩
      refine mix_only_in rfl (fun K hK => ?_)
      refine wpList_unguard rfl ?_
      go_wp2_with fail
      refine (sameU_any (.slice Au 3 cu) (.slice (some ⟨gl, 0, none⟩) 3 3) [1, 4, 2] (by decide) Vb hu (NSl.lit hlit (by decide))).mono ?_
      rintro r W9 ⟨rfl, hbx⟩
      replace hb := hb.trans (hbx.mono hb.size)
      go_wp2_with fail
      refine hK _ _ (below_plus hb) ?_
      clear hK K hu hbx hlit
      iterate 3 (refine mix_plain rfl ?_; (first
        | (refine wpQuiet_load rfl _ (.tmp 1) rfl g1 rfl _ (dat Z) _ _ (fun _ ⟨e, he⟩ => by rw [he]; exact hZ.plus e) Tryd.underlying43 rfl (by rw [dat_size]; kernel_rfl) ?_; simp only [Act.put, List.setIfInBounds_toArray, List.set_cons_zero, List.set_cons_succ])
        | go_big_quiet_step (fail)); refine wpQuiet_nil ?_)
      refine mix_only_in rfl (fun K hK => ?_)
      refine wpList_unguard rfl ?_
      go_wp2_with fail
      refine (mroot_any 32 _ [] _ SSl.nil9 (by decide) (fun _ h => by cases h) (hG.next (hbel.trans (hb.mono hbel.size)))).mono ?_
      rintro r W10 ⟨rfl, hbx⟩
      rw [kw32c, show rootM 32 [] = Z from HZ.out.1]
      replace hb := hb.trans (hbx.mono hb.size)
      clear hbx
      go_wp2_with fail
      refine hK _ _ (below_plus hb) ?_
      clear hK K
      iterate 7 (refine mix_plain rfl ?_; (first
        | (refine wpQuiet_eqD rfl (.tmp 17) (.tmp 18) _ rfl Z Z rfl rfl HZ.out.2 HZ.out.2 true (decide_eq_true rfl) ?_; simp only [Act.put, List.setIfInBounds_toArray, List.set_cons_zero, List.set_cons_succ])
        | go_big_quiet_step (fail)); refine wpQuiet_nil ?_)
      refine mix_done ?_
      go_wp2_with fail
      go_ret
      exact ⟨rfl, hbel.trans (hb.mono hbel.size)⟩
    · have hlit : Blk (Vc.alloc (Obj.cells #[.int .u64 1, .int .u64 4, .int .u64 2] 22)) Vc.heap.size 22 (([1, 4, 2] : List Nat).map nU).toArray := lit3 Vc 1 4 2
      have hbx := below_new1 Vc (Obj.cells #[.int .u64 1, .int .u64 4, .int .u64 2] 22)
      replace hb := hb.trans (hbx.mono hb.size)
      refine wpList_unguard rfl ?_
      go_wp2_with fail
      refine hK _ _ (below_plus hb) ?_
      clear hK K
      clear hbx
      obtain ⟨gl, hgl⟩ : ∃ gl, Vc.heap.size = gl := ⟨_, rfl⟩
      rw [hgl] at hlit ⊢
      clear hgl
      refine mix_atC (fun V => Blk V gl 22 (([1, 4, 2] : List Nat).map nU).toArray ∧ Below W1.heap.size W1 V) ⟨hlit, hb⟩ ?_
      clear hb hlit
      rintro Va ⟨hlit, hb⟩
      refine mix_only_in rfl (fun K hK => ?_)
      refine wpList_unguard rfl ?_
      go_wp2_with fail
      refine (blocks_any 3 10 (by decide) (by decide) Va (hT.next (hbel.trans (hb.mono hbel.size)))).mono ?_
      rintro r Vb ⟨u, rfl, hu, hbx⟩
      rw [show toldL 3 10 = [1, 4, 2] by decide +kernel] at hu
      replace hb := hb.trans (hbx.mono hb.size)
      go_wp2_with fail
      refine hK _ _ (below_plus hb) ?_
      clear hK K
      replace hlit := hlit.below hbx hlit.lt
      clear hbx
      obtain ⟨Au, cu, rfl, hcu1, hcu2, hru⟩ := hu.nsl
      have hu : NSl Vb Vb.heap.size (.slice Au 3 cu) [1, 4, 2] := ⟨Au, cu, rfl, hcu1, hcu2, hru⟩
      clear hcu1 hcu2 hru
      refine mix_only_in rfl (fun K hK => ?_)
      refine wpList_unguard rfl ?_
      go_wp2_with fail
      refine (sameU_any (.slice Au 3 cu) (.slice (some ⟨gl, 0, none⟩) 3 3) [1, 4, 2] (by decide) Vb hu (NSl.lit hlit (by decide))).mono ?_
      rintro r W9 ⟨rfl, hbx⟩
      replace hb := hb.trans (hbx.mono hb.size)
      go_wp2_with fail
      refine hK _ _ (below_plus hb) ?_
      clear hK K hu hbx hlit
      iterate 3 (refine mix_plain rfl ?_; (first
        | (refine wpQuiet_load rfl _ (.tmp 1) rfl g1 rfl _ (dat Z) _ _ (fun _ ⟨e, he⟩ => by rw [he]; exact hZ.plus e) Tryd.underlying43 rfl (by rw [dat_size]; kernel_rfl) ?_; simp only [Act.put, List.setIfInBounds_toArray, List.set_cons_zero, List.set_cons_succ])
        | go_big_quiet_step (fail)); refine wpQuiet_nil ?_)
      refine mix_only_in rfl (fun K hK => ?_)
      refine wpList_unguard rfl ?_
      go_wp2_with fail
      refine (mroot_any 32 _ [] _ SSl.nil9 (by decide) (fun _ h => by cases h) (hG.next (hbel.trans (hb.mono hbel.size)))).mono ?_
      rintro r W10 ⟨rfl, hbx⟩
      rw [kw32c, show rootM 32 [] = Z from HZ.out.1]
      replace hb := hb.trans (hbx.mono hb.size)
      clear hbx
      go_wp2_with fail
      refine hK _ _ (below_plus hb) ?_
      clear hK K
      iterate 7 (refine mix_plain rfl ?_; (first
        | (refine wpQuiet_eqD rfl (.tmp 17) (.tmp 18) _ rfl Z Z rfl rfl HZ.out.2 HZ.out.2 true (decide_eq_true rfl) ?_; simp only [Act.put, List.setIfInBounds_toArray, List.set_cons_zero, List.set_cons_succ])
        | go_big_quiet_step (fail)); refine wpQuiet_nil ?_)
      refine mix_done ?_
      go_wp2_with fail
      go_ret
      exact ⟨rfl, hbel.trans (hb.mono hbel.size)⟩
end Go.Proofs.YtkogehkmldbhgaaDoor
