/- The walk of deponentlaw8's known. No condition. -/
import Derived.Test.YtbhmmoecoijojaaDoorList
namespace Go.Proofs.YtbhmmoecoijojaaDoor
open Go.RowKit
attribute [local go_sem] n8_lo n8_hi n64_lo n64_hi n32_lo n32_hi
def kLeaf2 : List UInt8 := [110, 52] ++ List.replicate 30 0
theorem kw32 : cutW 32 = 32 := by decide
theorem kw2 : cutW 2 = 2 := by decide
set_option maxRecDepth 100000 in
theorem kn0 : n8 ((rootM 32 []).getD 0 0) = 227 ∧ n8 ((rootM 32 []).getD 1 0) = 176 := by decide +kernel
set_option maxRecDepth 100000 in
theorem kn1 : n8 ((leafM 32 []).getD 0 0) = 110 ∧ n8 ((leafM 32 []).getD 31 0) = 29 := by decide +kernel
set_option maxRecDepth 100000 in
theorem kn2 : leafM 2 [] = kLeaf2 := by decide +kernel
theorem built_K (w : World) : (Instr.build 27 #[(0, .int .u8 110), (1, .int .u8 52)]).run Tryd.prog w = .ok (.agg (dat kLeaf2)) w := by kernel_rfl
theorem dat_cell {w : World} {g : Nat} {t : TypeId} {d : List UInt8} (h : Blk w g t (dat d)) (j : Nat) (hj : j < 32) : w.cell? ⟨g, j, none⟩ = some (.int .u8 (n8 (d.getD j 0))) := by
  rw [h.cell]; exact arr_at _ _ _ hj
set_option maxHeartbeats 400000 in
set_option maxRecDepth 100000 in
theorem known8_any (w : World) (hG : Glob w) : Calls Tryd.prog 18 #[] w fun e w' => e = .returned (.bool true) ∧ Below w.heap.size w w' := by
  go_enter Tryd.func18, Tryd.ntmps18
  go_wp2_with fail
  refine (mroot_any 32 _ [] w ⟨none, 0, [], rfl, Nat.le_refl _, by decide, Reads.nil_, rfl, fun _ h => absurd h (by simp)⟩ (by simp) (by simp) hG).mono ?_
  rintro e w1 ⟨rfl, hbel⟩
  rw [kw32]
  obtain ⟨D1, hD1⟩ : ∃ D, rootM 32 [] = D := ⟨_, rfl⟩
  have HD1 := Lib.hid hD1
  rw [hD1]
  clear hD1
  have hD := Blk.new w1 27 (arr 32 fun _ => 0)
  have hbn := below_new1 w1 (Obj.cells (arr 32 fun _ => 0) 27)
  go_upto_region 2 with (first
    | (refine wpList_storeDat rfl rfl 27 (.tmp 1) (.tmp 3) rfl w1.heap.size rfl _ _ rfl _ hD (by kernel_rfl) ?_; intro w2 hA hon2))
  have hb1 := below_only hbn hon2 (Nat.le_refl _) hbn.size
  replace hbel := hbel.trans (hb1.mono hbel.size)
  clear hb1 hbn hon2 hD
  go_wp2_with fail
  refine (mleaf_any 32 _ [] w2 BSl.nil_ (by simp) (hG.next hbel)).mono ?_
  rintro e w3 ⟨rfl, hb1⟩
  rw [kw32]
  obtain ⟨D2, hD2⟩ : ∃ D, leafM 32 [] = D := ⟨_, rfl⟩
  have HD2 := Lib.hid hD2
  rw [hD2]
  clear hD2
  replace hA := hA.below hb1 hA.lt
  replace hbel := hbel.trans (hb1.mono hbel.size)
  clear hb1
  have hD := Blk.new w3 27 (arr 32 fun _ => 0)
  have hbn := below_new1 w3 (Obj.cells (arr 32 fun _ => 0) 27)
  go_upto_region 3 with (first
    | (refine wpList_storeDat rfl rfl 27 (.tmp 2) (.tmp 4) rfl w3.heap.size rfl _ _ rfl _ hD (by kernel_rfl) ?_; intro w4 hB hon2))
  have hb1 := below_only hbn hon2 (Nat.le_refl _) hbn.size
  replace hA := hA.below hb1 hA.lt
  replace hbel := hbel.trans (hb1.mono hbel.size)
  clear hb1 hbn hon2 hD
  have c0 := dat_cell hA 0 (by decide)
  have c1 := dat_cell hA 1 (by decide)
  have c2 := dat_cell hB 0 (by decide)
  have c3 := dat_cell hB 31 (by decide)
  rw [← HD1.out, kn0.1] at c0
  rw [← HD1.out, kn0.2] at c1
  rw [← HD2.out, kn1.1] at c2
  rw [← HD2.out, kn1.2] at c3
  have hbK := built_K
  clear hA hB
  go_wp2_with fail
  refine (mleaf_any 2 _ [] w4 BSl.nil_ (by simp) (hG.next hbel)).mono ?_
  rintro e w5 ⟨rfl, hb1⟩
  rw [kw2, kn2]
  replace hbel := hbel.trans (hb1.mono hbel.size)
  clear hb1 c0 c1 c2 c3
  go_wp2_with (first
    | (refine wpList_unguard (by rfl) ?_; refine wpList_eqD rfl (.tmp 24) (.tmp 25) _ rfl kLeaf2 kLeaf2 rfl rfl rfl rfl true (decide_eq_true rfl) ?_))
  go_ret
  exact ⟨rfl, hbel⟩
end Go.Proofs.YtbhmmoecoijojaaDoor
