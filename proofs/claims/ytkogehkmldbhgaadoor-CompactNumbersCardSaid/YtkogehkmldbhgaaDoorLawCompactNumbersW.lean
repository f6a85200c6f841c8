/- The walk of the law CompactNumbers. Condition: the tables. -/
import Derived.Test.YtkogehkmldbhgaaDoorP19
import Derived.Test.YtkogehkmldbhgaaDoorP17
namespace Go.Proofs.YtkogehkmldbhgaaDoor
open Go Go.RowKit
attribute [local irreducible] mixW
attribute [local go_sem] n8_lo n8_hi n64_lo n64_hi n32_lo n32_hi
theorem toldL_top : toldL 0 4294967296 = [4294967296] := by
  unfold toldL
  rw [if_pos (Nat.le_refl _)]
  have hb : IsBlk 0 4294967296 32 := ⟨Nat.dvd_zero _, by decide, fun j _ h => p2_le (show 2 ^ j ≤ 2 ^ 32 by omega)⟩
  rw [blocksL_cons hb, blocksL_nil (by decide)]
theorem litU (w : World) (a : Nat) : Blk (w.alloc (Obj.cells #[.int .u64 (a : Int)] 22)) w.heap.size 22 (([a] : List Nat).map nU).toArray := Blk.new w _ _
set_option maxHeartbeats 2000000 in
set_option maxRecDepth 100000 in
theorem compactNumbers_walk (w : World) (hG : Glob w) (hT : Tz w) :
    Calls Tryd.prog 7 #[] w fun r w' => r = .returned (.bool true) ∧ Below w.heap.size w w' := by
  have hz32 := zeroD_len
  go_enter Tryd.func7, Tryd.ntmps7
  go_wp2_with fail
  refine (empty_any 1 w).mono ?_
  rintro r w1 ⟨rfl, hb1⟩
  go_wp2_with fail
  refine (croot_any 32 1 1 (by decide) (by decide) none 0 [] (fun _ h => by cases h) (by decide) w1 (DX.nil_ w1) (hG.next hb1) (hT.next hb1)).mono ?_
  rintro r w2 ⟨rfl, hbx⟩
  rw [kw32c, show rootV 32 1 1 [] = (zeroD, 25) from by unfold rootV; rw [if_neg (by decide +kernel), if_pos (by decide)]]
  have hb2 := hb1.trans (hbx.mono hb1.size)
  have hD := Blk.new w2 43 (arr 32 fun _ => 0)
  have hbn := below_new1 w2 (Obj.cells (arr 32 fun _ => 0) 43)
  clear hb1 hbx
  go_upto_region 2 with (first
    | (refine wpList_storeDat rfl rfl 43 (.tmp 1) (.tmp 20) rfl w2.heap.size rfl _ _ rfl _ hD (by kernel_rfl) ?_; intro w3 hZ hon3))
  have hb3 := hb2.trans ((below_only hbn hon3 (Nat.le_refl _) hbn.size).mono hb2.size)
  clear hb2 hon3 hZ hD hbn
  have hdc : dcells (List.replicate 1 zeroD) = dcells [zeroD] := rfl
  have hbm := below_new1 w3 (Obj.cells (dcells [zeroD]).toArray 43)
  have hXm : DX (w3.alloc (Obj.cells (dcells [zeroD]).toArray 43)) (.slice (some ⟨w3.heap.size, 0, none⟩) 1 1) [zeroD] := DX.of_blk (Blk.new w3 43 (dcells [zeroD]).toArray) (by decide)
  have hb4 := hb3.trans (hbm.mono hb3.size)
  go_wp2_with (first
    | (refine wpList_makeD rfl _ _ rfl .i64 .i64 1 rfl rfl (by decide) ?_; rw [hdc]; refine wpl_at (fun W => DX W (.slice (some ⟨w3.heap.size, 0, none⟩) 1 1) [zeroD] ∧ Below w.heap.size w W) ⟨hXm, hb4⟩ ?_; clear hXm hb4 hbm hb3; rintro W4 ⟨hXm, hb4⟩))
  have hadd := add_any 32 0 0 (by decide) (by decide) (some ⟨w3.heap.size, 0, none⟩) 1 [zeroD] (fun d hd => by rw [List.mem_singleton.1 hd]; exact zeroD_len) zeroD zeroD_len W4 hXm (hG.next hb4) (hT.next hb4)
  rw [show addV (cutW 32) 0 0 [zeroD] zeroD = ⟨0, 0, [], 1⟩ from by unfold addV; exact if_pos (by decide +kernel), dat_zeroD] at hadd
  refine (show Calls _ _ #[.int .i64 32, .agg #[.int .u64 0, .int .u64 0, .slice (some ⟨w3.heap.size, 0, none⟩) 1 1], .agg (arr 32 fun _ => 0)] _ _ from hadd).mono ?_
  rintro r w5 ⟨v5, rfl, hown, hbx⟩
  obtain ⟨A5, c5, rfl⟩ := own_slice hown
  have hb5 := (hb4.trans (hbx.mono hb4.size)).trans ((below_new1 w5 (Obj.cells #[.int .u64 ((0 : Nat) : Int), .int .u64 ((0 : Nat) : Int), .slice A5 ([] : List (List UInt8)).length c5] 31)).mono (Nat.le_trans hb4.size hbx.size))
  clear hown hbx hb4 hXm hadd
  simp only [rgC, nU]
  go_wp2_with fail
  refine calls_at (fun W => Below w.heap.size w W) hb5 ?_
  clear hb5
  rintro W5 hb5
  refine (of_no 32 none 0 0 1 0 (by decide) (by decide) W5).mono ?_
  rintro r w6 ⟨rfl, hbx⟩
  have hb6 := (hb5.trans (hbx.mono hb5.size)).trans ((below_new1 w6 (Obj.cells #[.int .u64 ((0 : Nat) : Int), .int .u64 ((0 : Nat) : Int), .slice none 0 0] 31)).mono (Nat.le_trans hb5.size hbx.size))
  clear hbx hb5
  simp only [rgC, nU]
  go_wp2_with fail
  refine calls_at (fun W => Below w.heap.size w W) hb6 ?_
  clear hb6
  rintro W6 hb6
  refine (of_no 32 none 0 0 0 1 (by decide) (by decide) W6).mono ?_
  rintro r w7 ⟨rfl, hbx⟩
  have hb7 := (hb6.trans (hbx.mono hb6.size)).trans ((below_new1 w7 (Obj.cells #[.int .u64 ((0 : Nat) : Int), .int .u64 ((0 : Nat) : Int), .slice none 0 0] 31)).mono (Nat.le_trans hb6.size hbx.size))
  clear hbx hb6
  simp only [rgC, nU]
  go_wp2_with fail
  refine calls_at (fun W => Below w.heap.size w W) hb7 ?_
  clear hb7
  rintro W7 hb7
  refine (of_ok 32 none 0 [] 0 0 W7 SSl.nil9 (by decide) (fun _ h => by cases h) (Nat.le_refl _) (Nat.le_refl _) (hG.next hb7) (hT.next hb7)).mono ?_
  rintro r w8 ⟨v8, rfl, hown, hbx⟩
  rw [rangeM_nil] at hown
  obtain ⟨A8, c8, rfl⟩ := own_slice hown
  have hrg : Rg (w8.alloc (Obj.cells #[.int .u64 ((0 : Nat) : Int), .int .u64 ((0 : Nat) : Int), .slice A8 ([] : List (List UInt8)).length c8] 31)) w8.heap.size 0 0 A8 c8 [] := Rg.mk hown
  have hb8 := (hb7.trans (hbx.mono hb7.size)).trans ((below_new1 w8 (Obj.cells #[.int .u64 ((0 : Nat) : Int), .int .u64 ((0 : Nat) : Int), .slice A8 ([] : List (List UInt8)).length c8] 31)).mono (Nat.le_trans hb7.size hbx.size))
  clear hown hbx hb7
  have H8 := Lib.hid (And.intro hrg hb8)
  clear hrg hb8
  simp only [rgC, nU]
  go_wp2_with fail
  refine calls_at (fun W => Rg W w8.heap.size 0 0 A8 c8 [] ∧ Below w.heap.size w W) H8.out ?_
  clear H8
  rintro W8 ⟨hrg, hb8⟩
  obtain ⟨g8, hg8⟩ : ∃ g8, w8.heap.size = g8 := ⟨_, rfl⟩
  rw [hg8] at hrg ⊢
  clear hg8
  refine (empty_any 1 W8).mono ?_
  rintro r w9 ⟨rfl, hbx⟩
  replace hrg := hrg.next hbx
  replace hb8 := hb8.trans (hbx.mono hb8.size)
  clear hbx
  go_wp2_with fail
  refine (empty_any 2 w9).mono ?_
  rintro r w10 ⟨rfl, hbx⟩
  replace hrg := hrg.next hbx
  replace hb8 := hb8.trans (hbx.mono hb8.size)
  clear hbx
  go_wp2_with fail
  have hm := merge_any 32 1 1 2 2 (by decide) (by decide) (by decide) (by decide) none 0 none 0 [] [] (fun _ h => by cases h) w10 (DX.nil_ w10) (DX.nil_ w10) (hG.next hb8) (hT.next hb8)
  rw [show mergeV (cutW 32) 1 1 [] 2 2 [] = ⟨0, 0, [], 25⟩ from by unfold mergeV; rw [if_neg (by decide +kernel), if_neg (by decide +kernel), if_pos (by decide)]] at hm
  refine hm.mono ?_
  clear hm
  rintro r w11 ⟨v11, rfl, hown, hbx⟩
  obtain ⟨A11, c11, rfl⟩ := own_slice hown
  have hbn := below_new1 w11 (Obj.cells #[.int .u64 ((0 : Nat) : Int), .int .u64 ((0 : Nat) : Int), .slice A11 ([] : List (List UInt8)).length c11] 31)
  have H11 := Lib.hid (And.intro ((hrg.next hbx).next hbn) ((hb8.trans (hbx.mono hb8.size)).trans (hbn.mono (Nat.le_trans hb8.size hbx.size))))
  clear hown hbx hbn hrg hb8
  simp only [rgC, nU]
  go_wp2_with fail
  refine calls_at (fun W => Rg W g8 0 0 A8 c8 [] ∧ Below w.heap.size w W) H11.out ?_
  clear H11
  rintro W11 ⟨hrg, hb8⟩
  refine (empty_any 4294967296 W11).mono ?_
  rintro r w12 ⟨rfl, hbx⟩
  replace hrg := hrg.next hbx
  replace hb8 := hb8.trans (hbx.mono hb8.size)
  clear hbx
  go_wp2_with fail
  have hadd := add_any 32 4294967296 4294967296 (by decide) (by decide) none 0 [] (fun d hd => by cases hd) zeroD zeroD_len w12 (DX.nil_ w12) (hG.next hb8) (hT.next hb8)
  rw [show addV (cutW 32) 4294967296 4294967296 [] zeroD = ⟨0, 0, [], 1⟩ from by unfold addV; split; rfl; rfl, dat_zeroD] at hadd
  refine (show Calls _ _ #[.int .i64 32, .agg (rgC 4294967296 4294967296 (.slice none 0 0)), .agg (arr 32 fun _ => 0)] _ _ from hadd).mono ?_
  clear hadd
  rintro r w13 ⟨v13, rfl, hown, hbx⟩
  obtain ⟨A13, c13, rfl⟩ := own_slice hown
  have hbn := below_new1 w13 (Obj.cells #[.int .u64 ((0 : Nat) : Int), .int .u64 ((0 : Nat) : Int), .slice A13 ([] : List (List UInt8)).length c13] 31)
  have H13 := Lib.hid (And.intro ((hrg.next hbx).next hbn) ((hb8.trans (hbx.mono hb8.size)).trans (hbn.mono (Nat.le_trans hb8.size hbx.size))))
  clear hown hbx hbn hrg hb8
  simp only [rgC, nU]
  go_wp2_with fail
  refine calls_at (fun W => Rg W g8 0 0 A8 c8 [] ∧ Below w.heap.size w W) H13.out ?_
  clear H13
  rintro W13 ⟨hrg, hb8⟩
  have hcr := croot_any 32 2 1 (by decide) (by decide) none 0 [] (fun _ h => by cases h) (by decide) W13 (DX.nil_ W13) (hG.next hb8) (hT.next hb8)
  rw [show rootV (cutW 32) 2 1 [] = (zeroD, 1) from by unfold rootV; exact if_pos (by decide +kernel)] at hcr
  refine (show Calls _ _ #[.int .i64 32, .agg #[.int .u64 2, .int .u64 1, .slice none 0 0]] _ _ from hcr).mono ?_
  clear hcr
  rintro r w14 ⟨rfl, hbx⟩
  replace hrg := hrg.next hbx
  replace hb8 := hb8.trans (hbx.mono hb8.size)
  clear hbx
  have hD := Blk.new w14 43 (arr 32 fun _ => 0)
  have hbn := below_new1 w14 (Obj.cells (arr 32 fun _ => 0) 43)
  go_upto_region 9 with (first
    | (refine wpList_storeDat rfl rfl 43 (.tmp 15) (.tmp 56) rfl w14.heap.size rfl _ _ rfl _ hD (by kernel_rfl) ?_; intro w15 hZ hon3))
  have hb15 := below_only hbn hon3 (Nat.le_refl _) hbn.size
  replace hrg := hrg.next hb15
  replace hb8 := hb8.trans (hb15.mono hb8.size)
  clear hb15 hon3 hZ hD hbn
  have hB9 := hrg.1
  go_wp2_with (first
    | (refine wpList_loadW (by rfl) 31 (.tmp 9) rfl g8 rfl _ _ _ hB9 Tryd.underlying31 rfl (by kernel_rfl) ?_))
  refine (show Calls _ _ #[.agg (rgC 0 0 (.slice A8 ([] : List (List UInt8)).length c8)), .agg #[.int .u64 0, .int .u64 0, .slice none 0 0]] _ _ from same10_any 0 0 A8 none c8 0 [] (fun _ h => by cases h) (by decide) w15 hrg.2 (DX.nil_ w15)).mono ?_
  rintro r w16 ⟨rfl, hbx⟩
  replace hb8 := hb8.trans (hbx.mono hb8.size)
  clear hbx hrg hB9
  go_wp2_with fail
  refine (blocks_any 5 5 (by decide) (by decide) w16 (hT.next hb8)).mono ?_
  rintro r w17 ⟨u1, rfl, hu, hbx⟩
  rw [toldL_nil (.inl (Nat.le_refl 5))] at hu
  obtain ⟨A17, c17, rfl, _⟩ := hu.cells
  replace hb8 := hb8.trans (hbx.mono hb8.size)
  clear hbx hu
  go_wp2_with fail
  refine (blocks_any 0 4294967297 (by decide) (by decide) w17 (hT.next hb8)).mono ?_
  rintro r w18 ⟨u2, rfl, hu, hbx⟩
  rw [toldL_nil (.inr (by decide))] at hu
  obtain ⟨A18, c18, rfl, _⟩ := hu.cells
  replace hb8 := hb8.trans (hbx.mono hb8.size)
  clear hbx hu
  go_wp2_with fail
  refine (blocks_any 0 4294967296 (by decide) (by decide) w18 (hT.next hb8)).mono ?_
  rintro r w19 ⟨u3, rfl, hu, hbx⟩
  rw [toldL_top] at hu
  obtain ⟨A19, c19, rfl, _⟩ := hu.nsl
  have hlit := litU w19 4294967296
  have hbn := below_new1 w19 (Obj.cells #[.int .u64 ((4294967296 : Nat) : Int)] 22)
  have H19 := Lib.hid (And.intro (hu.nsl.next hbn) (And.intro hlit ((hb8.trans (hbx.mono hb8.size)).trans (hbn.mono (Nat.le_trans hb8.size hbx.size)))))
  clear hu hlit hbn hbx hb8
  go_wp2_with fail
  refine calls_at (fun W => NSl W W.heap.size (.slice A19 1 c19) [4294967296] ∧ Blk W w19.heap.size 22 (([4294967296] : List Nat).map nU).toArray ∧ Below w.heap.size w W) H19.out ?_
  clear H19
  rintro W19 ⟨hu, hlit, hb8⟩
  refine (sameU_any (.slice A19 1 c19) (.slice (some ⟨w19.heap.size, 0, none⟩) 1 1) [4294967296] (by decide) W19 hu (NSl.lit hlit (by decide))).mono ?_
  rintro r w20 ⟨rfl, hbx⟩
  replace hb8 := hb8.trans (hbx.mono hb8.size)
  clear hbx hu hlit
  go_wp2_with fail
  refine (known10_any w20 (hG.next hb8) (hT.next hb8)).mono ?_
  rintro r w21 ⟨rfl, hbx⟩
  go_wp2_with fail
  go_ret
  exact ⟨rfl, hb8.trans (hbx.mono hb8.size)⟩
end Go.Proofs.YtkogehkmldbhgaaDoor
