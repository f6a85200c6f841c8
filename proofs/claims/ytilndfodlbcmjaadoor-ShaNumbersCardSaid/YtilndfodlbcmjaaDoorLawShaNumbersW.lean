/- The walk of the law ShaNumbers. -/
import Derived.Test.YtilndfodlbcmjaaDoorLawShaNumbersP
namespace Go.Proofs.YtilndfodlbcmjaaDoor
open Go.RowKit
attribute [local go_sem] n8_lo n8_hi
set_option maxHeartbeats 1000000 in
set_option maxRecDepth 100000 in
theorem shaNumbers_walk (w : World) (hG : Glob w) :
    Calls Tryd.prog 8 #[] w fun e w' => e = .returned (.bool true) ∧ Below w.heap.size w w' := by
  go_enter Tryd.func8, Tryd.ntmps8
  go_wp2
  refine wp_at (fun W => Blk W w.heap.size 24 (arr 32 (onesF 0)) ∧ Below w.heap.size w W) ⟨by rw [ones_0]; exact Blk.new _ _ _, below_new1 _ _⟩ ?_
  intro W0 ⟨hA, hbel⟩
  go_loopw [2] (fun iv wr => ∃ k : Nat, k ≤ 32 ∧ iv = .int .i64 k ∧ Blk wr w.heap.size 24 (arr 32 (onesF k)) ∧ Below w.heap.size w wr) (fun iv _ => 32 - (intOf iv).toNat)
  case atStart => exact ⟨0, by omega, rfl, hA, hbel⟩
  case round =>
    clear hA hbel
    obtain ⟨k, hk, rfl, hA, hbel⟩ := hrel
    by_cases hlt : k < 32
    · have cD := hA.cell k
      rw [arr_at _ _ _ hlt] at cD
      have fD := hA.frozen k
      go_wp2
      go_roundw
      case rel =>
        have hst := hA.set k (v8 255)
        rw [arr_set, ones_step k] at hst
        exact ⟨k + 1, by omega, by go_num, hst, hbel.setCell (p := ⟨w.heap.size, k, none⟩) (Nat.le_refl _) _⟩
      case measure => simp [intOf]; omega
    · have ek : k = 32 := by omega
      rw [ek, ones_32] at hA
      clear ek
      have hG0 := hG.next hbel
      go_wp2
      refine wp_region_mixP (.two 0 2 (.two 1 2 (.only 2 <| .only 3 <| .only 4 <| .only 5 <| .plain 6 <| .plain 7 <| .plain 8 <| .plain 10 <| .only 9 <| .plain 11 <| .plain 12 <| .plain 13 <| .plain 14 <| .plain 16 <| .only 15 <| .plain 17 <| .plain 18 <| .plain 19 <| .plain 20 <| .plain 22 <| .only 21 <| .plain 23 <| .plain 24 <| .plain 25 <| .plain 26 <| .plain 28 <| .only 27 <| .plain 29 <| .plain 30 <| .plain 31 <| .only 32 <| .plain 33 <| .plain 34 <| .plain 35 <| .plain 36 <| .only 37 <| .plain 38 <| .plain 39 <| .done) <| .two 1 3 (.only 3 <| .only 4 <| .only 5 <| .plain 6 <| .plain 7 <| .plain 8 <| .plain 10 <| .only 9 <| .plain 11 <| .plain 12 <| .plain 13 <| .plain 14 <| .plain 16 <| .only 15 <| .plain 17 <| .plain 18 <| .plain 19 <| .plain 20 <| .plain 22 <| .only 21 <| .plain 23 <| .plain 24 <| .plain 25 <| .plain 26 <| .plain 28 <| .only 27 <| .plain 29 <| .plain 30 <| .plain 31 <| .only 32 <| .plain 33 <| .plain 34 <| .plain 35 <| .plain 36 <| .only 37 <| .plain 38 <| .plain 39 <| .done) <| .only 1 <| .only 4 <| .only 5 <| .plain 6 <| .plain 7 <| .plain 8 <| .plain 10 <| .only 9 <| .plain 11 <| .plain 12 <| .plain 13 <| .plain 14 <| .plain 16 <| .only 15 <| .plain 17 <| .plain 18 <| .plain 19 <| .plain 20 <| .plain 22 <| .only 21 <| .plain 23 <| .plain 24 <| .plain 25 <| .plain 26 <| .plain 28 <| .only 27 <| .plain 29 <| .plain 30 <| .plain 31 <| .only 32 <| .plain 33 <| .plain 34 <| .plain 35 <| .plain 36 <| .only 37 <| .plain 38 <| .plain 39 <| .done) <| .two 0 3 (.two 1 3 (.only 3 <| .only 4 <| .only 5 <| .plain 6 <| .plain 7 <| .plain 8 <| .plain 10 <| .only 9 <| .plain 11 <| .plain 12 <| .plain 13 <| .plain 14 <| .plain 16 <| .only 15 <| .plain 17 <| .plain 18 <| .plain 19 <| .plain 20 <| .plain 22 <| .only 21 <| .plain 23 <| .plain 24 <| .plain 25 <| .plain 26 <| .plain 28 <| .only 27 <| .plain 29 <| .plain 30 <| .plain 31 <| .only 32 <| .plain 33 <| .plain 34 <| .plain 35 <| .plain 36 <| .only 37 <| .plain 38 <| .plain 39 <| .done) <| .only 1 <| .only 4 <| .only 5 <| .plain 6 <| .plain 7 <| .plain 8 <| .plain 10 <| .only 9 <| .plain 11 <| .plain 12 <| .plain 13 <| .plain 14 <| .plain 16 <| .only 15 <| .plain 17 <| .plain 18 <| .plain 19 <| .plain 20 <| .plain 22 <| .only 21 <| .plain 23 <| .plain 24 <| .plain 25 <| .plain 26 <| .plain 28 <| .only 27 <| .plain 29 <| .plain 30 <| .plain 31 <| .only 32 <| .plain 33 <| .plain 34 <| .plain 35 <| .plain 36 <| .only 37 <| .plain 38 <| .plain 39 <| .done) <| .only 0 <| .only 1 <| .only 4 <| .only 5 <| .plain 6 <| .plain 7 <| .plain 8 <| .plain 10 <| .only 9 <| .plain 11 <| .plain 12 <| .plain 13 <| .plain 14 <| .plain 16 <| .only 15 <| .plain 17 <| .plain 18 <| .plain 19 <| .plain 20 <| .plain 22 <| .only 21 <| .plain 23 <| .plain 24 <| .plain 25 <| .plain 26 <| .plain 28 <| .only 27 <| .plain 29 <| .plain 30 <| .plain 31 <| .only 32 <| .plain 33 <| .plain 34 <| .plain 35 <| .plain 36 <| .only 37 <| .plain 38 <| .plain 39 <| .done) (by kernel_rfl) (by kernel_rfl) (fun W hbel0 => ?_)
      have hbW := hbel.trans (hbel0.mono hbel.size)
      have hGW := hG.next hbW
      have hDW := hA.below hbel0 hA.lt
      clear hbel0 hG0 hA hbel
      have hml := Lib.hid (mac_length numKey numText)
      have Hol := Lib.hid (show onesL.length = 32 from rfl)
      obtain ⟨B0, hB0⟩ : ∃ B0, B0 = W.heap.size := ⟨_, rfl⟩
      have HB0 := Lib.hid hB0
      have hb : Below B0 W W := by rw [hB0]; exact Below.refl _ _
      clear hB0
      refine mix_two_in rfl rfl (fun K hk => ?_) (fun K hk => ?_)
      focus go_wp2_with fail
      have hb' := hb.alloc (below_sizeB HB0 hb) (Obj.cells #[.int .u8 107, .int .u8 101, .int .u8 121] 5)
      have hK := Lit.new W numKey 5
      refine hk _ _ (below_plusB HB0 hb') ?_
      clear hk K
      have hgK : B0 ≤ W.heap.size := below_sizeB HB0 hb
      refine mix_atC (fun V => Below B0 W V ∧ Lit V W.heap.size numKey) ⟨hb', hK⟩ ?_
      clear hb hb' hK
      generalize W.heap.size = gK at hgK ⊢
      rintro V1 ⟨hb, hK⟩
      refine mix_two_in rfl rfl (fun K hk => ?_) (fun K hk => ?_)
      refine wpList_convSelf rfl _ 5 (.tmp 9) rfl Tryd.underlying22 Tryd.underlying5 gK 3 3 rfl _ hK ?_
      intro kk
      have hb' := below_freeze hb ⟨gK, kk, none⟩ hgK 1
      have hK := hK.freeze ⟨gK, kk, none⟩ 1
      simp only [Act.put, List.setIfInBounds_toArray, List.set_cons_zero, List.set_cons_succ]
      refine hk _ _ (below_plusB HB0 hb') ?_
      clear hk K
      refine mix_atC (fun V => Below B0 W V ∧ Lit V gK numKey) ⟨hb', hK⟩ ?_
      clear hb hb' hK
      rintro V2 ⟨hb, hK⟩
      refine mix_only_in rfl (fun K hk => ?_)
      focus go_wp2_with fail
      have hb' := hb.alloc (below_sizeB HB0 hb) (Obj.cells #[.int .u8 84, .int .u8 104, .int .u8 101, .int .u8 32, .int .u8 113, .int .u8 117, .int .u8 105, .int .u8 99, .int .u8 107, .int .u8 32, .int .u8 98, .int .u8 114, .int .u8 111, .int .u8 119, .int .u8 110, .int .u8 32, .int .u8 102, .int .u8 111, .int .u8 120, .int .u8 32, .int .u8 106, .int .u8 117, .int .u8 109, .int .u8 112, .int .u8 115, .int .u8 32, .int .u8 111, .int .u8 118, .int .u8 101, .int .u8 114, .int .u8 32, .int .u8 116, .int .u8 104, .int .u8 101, .int .u8 32, .int .u8 108, .int .u8 97, .int .u8 122, .int .u8 121, .int .u8 32, .int .u8 100, .int .u8 111, .int .u8 103] 5)
      have hT := Lit.new V2 numText 5
      have hK := hK.alloc (Obj.cells #[.int .u8 84, .int .u8 104, .int .u8 101, .int .u8 32, .int .u8 113, .int .u8 117, .int .u8 105, .int .u8 99, .int .u8 107, .int .u8 32, .int .u8 98, .int .u8 114, .int .u8 111, .int .u8 119, .int .u8 110, .int .u8 32, .int .u8 102, .int .u8 111, .int .u8 120, .int .u8 32, .int .u8 106, .int .u8 117, .int .u8 109, .int .u8 112, .int .u8 115, .int .u8 32, .int .u8 111, .int .u8 118, .int .u8 101, .int .u8 114, .int .u8 32, .int .u8 116, .int .u8 104, .int .u8 101, .int .u8 32, .int .u8 108, .int .u8 97, .int .u8 122, .int .u8 121, .int .u8 32, .int .u8 100, .int .u8 111, .int .u8 103] 5)
      refine hk _ _ (below_plusB HB0 hb') ?_
      clear hk K
      have hgT : B0 ≤ V2.heap.size := below_sizeB HB0 hb
      refine mix_atC (fun V => Below B0 W V ∧ Lit V gK numKey ∧ Lit V V2.heap.size numText) ⟨hb', hK, hT⟩ ?_
      clear hb hb' hK hT
      generalize V2.heap.size = gT at hgT ⊢
      rintro V3 ⟨hb, hK, hT⟩
      refine mix_only_to rfl (fun K hk => ?_)
      refine wpList_convSelf rfl _ 5 (.tmp 11) rfl Tryd.underlying22 Tryd.underlying5 gT 43 43 rfl _ hT ?_
      intro kk
      have hb' := below_freeze hb ⟨gT, kk, none⟩ hgT 1
      have hT := hT.freeze ⟨gT, kk, none⟩ 1
      have hK := hK.freeze ⟨gT, kk, none⟩ 1
      simp only [Act.put, List.setIfInBounds_toArray, List.set_cons_zero, List.set_cons_succ]
      refine hk _ _ (below_asW HB0 hb') ?_
      clear hk K
      refine mix_at (fun V => Below B0 W V ∧ Lit V gK numKey ∧ Lit V gT numText) ⟨hb', hK, hT⟩ ?_
      clear hb hb' hK hT
      rintro V4 ⟨hb, hK, hT⟩
      rotate_left
      focus go_wp2_with fail
      have hb' := hb.alloc (below_sizeB HB0 hb) (Obj.cells #[.int .u8 84, .int .u8 104, .int .u8 101, .int .u8 32, .int .u8 113, .int .u8 117, .int .u8 105, .int .u8 99, .int .u8 107, .int .u8 32, .int .u8 98, .int .u8 114, .int .u8 111, .int .u8 119, .int .u8 110, .int .u8 32, .int .u8 102, .int .u8 111, .int .u8 120, .int .u8 32, .int .u8 106, .int .u8 117, .int .u8 109, .int .u8 112, .int .u8 115, .int .u8 32, .int .u8 111, .int .u8 118, .int .u8 101, .int .u8 114, .int .u8 32, .int .u8 116, .int .u8 104, .int .u8 101, .int .u8 32, .int .u8 108, .int .u8 97, .int .u8 122, .int .u8 121, .int .u8 32, .int .u8 100, .int .u8 111, .int .u8 103] 5)
      have hT := Lit.new V1 numText 5
      have hK := hK.alloc (Obj.cells #[.int .u8 84, .int .u8 104, .int .u8 101, .int .u8 32, .int .u8 113, .int .u8 117, .int .u8 105, .int .u8 99, .int .u8 107, .int .u8 32, .int .u8 98, .int .u8 114, .int .u8 111, .int .u8 119, .int .u8 110, .int .u8 32, .int .u8 102, .int .u8 111, .int .u8 120, .int .u8 32, .int .u8 106, .int .u8 117, .int .u8 109, .int .u8 112, .int .u8 115, .int .u8 32, .int .u8 111, .int .u8 118, .int .u8 101, .int .u8 114, .int .u8 32, .int .u8 116, .int .u8 104, .int .u8 101, .int .u8 32, .int .u8 108, .int .u8 97, .int .u8 122, .int .u8 121, .int .u8 32, .int .u8 100, .int .u8 111, .int .u8 103] 5)
      refine hk _ _ (below_plusB HB0 hb') ?_
      clear hk K
      have hgT : B0 ≤ V1.heap.size := below_sizeB HB0 hb
      refine mix_atC (fun V => Below B0 W V ∧ Lit V gK numKey ∧ Lit V V1.heap.size numText) ⟨hb', hK, hT⟩ ?_
      clear hb hb' hK hT
      generalize V1.heap.size = gT at hgT ⊢
      rintro V2 ⟨hb, hK, hT⟩
      refine mix_two_in rfl rfl (fun K hk => ?_) (fun K hk => ?_)
      refine wpList_convSelf rfl _ 5 (.tmp 9) rfl Tryd.underlying22 Tryd.underlying5 gK 3 3 rfl _ hK ?_
      intro kk
      have hb' := below_freeze hb ⟨gK, kk, none⟩ hgK 1
      have hK := hK.freeze ⟨gK, kk, none⟩ 1
      have hT := hT.freeze ⟨gK, kk, none⟩ 1
      simp only [Act.put, List.setIfInBounds_toArray, List.set_cons_zero, List.set_cons_succ]
      refine hk _ _ (below_plusB HB0 hb') ?_
      clear hk K
      refine mix_atC (fun V => Below B0 W V ∧ Lit V gK numKey ∧ Lit V gT numText) ⟨hb', hK, hT⟩ ?_
      clear hb hb' hK hT
      rintro V3 ⟨hb, hK, hT⟩
      refine mix_only_to rfl (fun K hk => ?_)
      refine wpList_convSelf rfl _ 5 (.tmp 11) rfl Tryd.underlying22 Tryd.underlying5 gT 43 43 rfl _ hT ?_
      intro kk
      have hb' := below_freeze hb ⟨gT, kk, none⟩ hgT 1
      have hT := hT.freeze ⟨gT, kk, none⟩ 1
      have hK := hK.freeze ⟨gT, kk, none⟩ 1
      simp only [Act.put, List.setIfInBounds_toArray, List.set_cons_zero, List.set_cons_succ]
      refine hk _ _ (below_asW HB0 hb') ?_
      clear hk K
      refine mix_at (fun V => Below B0 W V ∧ Lit V gK numKey ∧ Lit V gT numText) ⟨hb', hK, hT⟩ ?_
      clear hb hb' hK hT
      rintro V4 ⟨hb, hK, hT⟩
      rotate_left
      refine wpList_convSelf rfl _ 5 (.tmp 11) rfl Tryd.underlying22 Tryd.underlying5 gT 43 43 rfl _ hT ?_
      intro kk
      have hb' := below_freeze hb ⟨gT, kk, none⟩ hgT 1
      have hT := hT.freeze ⟨gT, kk, none⟩ 1
      have hK := hK.freeze ⟨gT, kk, none⟩ 1
      simp only [Act.put, List.setIfInBounds_toArray, List.set_cons_zero, List.set_cons_succ]
      refine hk _ _ (below_plusB HB0 hb') ?_
      clear hk K
      refine mix_atC (fun V => Below B0 W V ∧ Lit V gK numKey ∧ Lit V gT numText) ⟨hb', hK, hT⟩ ?_
      clear hb hb' hK hT
      rintro V3 ⟨hb, hK, hT⟩
      refine mix_only_to rfl (fun K hk => ?_)
      refine wpList_convSelf rfl _ 5 (.tmp 9) rfl Tryd.underlying22 Tryd.underlying5 gK 3 3 rfl _ hK ?_
      intro kk
      have hb' := below_freeze hb ⟨gK, kk, none⟩ hgK 1
      have hK := hK.freeze ⟨gK, kk, none⟩ 1
      have hT := hT.freeze ⟨gK, kk, none⟩ 1
      simp only [Act.put, List.setIfInBounds_toArray, List.set_cons_zero, List.set_cons_succ]
      refine hk _ _ (below_asW HB0 hb') ?_
      clear hk K
      refine mix_at (fun V => Below B0 W V ∧ Lit V gK numKey ∧ Lit V gT numText) ⟨hb', hK, hT⟩ ?_
      clear hb hb' hK hT
      rintro V4 ⟨hb, hK, hT⟩
      rotate_left
      focus go_wp2_with fail
      have hb' := hb.alloc (below_sizeB HB0 hb) (Obj.cells #[.int .u8 84, .int .u8 104, .int .u8 101, .int .u8 32, .int .u8 113, .int .u8 117, .int .u8 105, .int .u8 99, .int .u8 107, .int .u8 32, .int .u8 98, .int .u8 114, .int .u8 111, .int .u8 119, .int .u8 110, .int .u8 32, .int .u8 102, .int .u8 111, .int .u8 120, .int .u8 32, .int .u8 106, .int .u8 117, .int .u8 109, .int .u8 112, .int .u8 115, .int .u8 32, .int .u8 111, .int .u8 118, .int .u8 101, .int .u8 114, .int .u8 32, .int .u8 116, .int .u8 104, .int .u8 101, .int .u8 32, .int .u8 108, .int .u8 97, .int .u8 122, .int .u8 121, .int .u8 32, .int .u8 100, .int .u8 111, .int .u8 103] 5)
      have hT := Lit.new W numText 5
      refine hk _ _ (below_plusB HB0 hb') ?_
      clear hk K
      have hgT : B0 ≤ W.heap.size := below_sizeB HB0 hb
      refine mix_atC (fun V => Below B0 W V ∧ Lit V W.heap.size numText) ⟨hb', hT⟩ ?_
      clear hb hb' hT
      generalize W.heap.size = gT at hgT ⊢
      rintro V1 ⟨hb, hT⟩
      refine mix_two_in rfl rfl (fun K hk => ?_) (fun K hk => ?_)
      focus go_wp2_with fail
      have hb' := hb.alloc (below_sizeB HB0 hb) (Obj.cells #[.int .u8 107, .int .u8 101, .int .u8 121] 5)
      have hK := Lit.new V1 numKey 5
      have hT := hT.alloc (Obj.cells #[.int .u8 107, .int .u8 101, .int .u8 121] 5)
      refine hk _ _ (below_plusB HB0 hb') ?_
      clear hk K
      have hgK : B0 ≤ V1.heap.size := below_sizeB HB0 hb
      refine mix_atC (fun V => Below B0 W V ∧ Lit V V1.heap.size numKey ∧ Lit V gT numText) ⟨hb', hK, hT⟩ ?_
      clear hb hb' hK hT
      generalize V1.heap.size = gK at hgK ⊢
      rintro V2 ⟨hb, hK, hT⟩
      refine mix_two_in rfl rfl (fun K hk => ?_) (fun K hk => ?_)
      refine wpList_convSelf rfl _ 5 (.tmp 9) rfl Tryd.underlying22 Tryd.underlying5 gK 3 3 rfl _ hK ?_
      intro kk
      have hb' := below_freeze hb ⟨gK, kk, none⟩ hgK 1
      have hK := hK.freeze ⟨gK, kk, none⟩ 1
      have hT := hT.freeze ⟨gK, kk, none⟩ 1
      simp only [Act.put, List.setIfInBounds_toArray, List.set_cons_zero, List.set_cons_succ]
      refine hk _ _ (below_plusB HB0 hb') ?_
      clear hk K
      refine mix_atC (fun V => Below B0 W V ∧ Lit V gK numKey ∧ Lit V gT numText) ⟨hb', hK, hT⟩ ?_
      clear hb hb' hK hT
      rintro V3 ⟨hb, hK, hT⟩
      refine mix_only_to rfl (fun K hk => ?_)
      refine wpList_convSelf rfl _ 5 (.tmp 11) rfl Tryd.underlying22 Tryd.underlying5 gT 43 43 rfl _ hT ?_
      intro kk
      have hb' := below_freeze hb ⟨gT, kk, none⟩ hgT 1
      have hT := hT.freeze ⟨gT, kk, none⟩ 1
      have hK := hK.freeze ⟨gT, kk, none⟩ 1
      simp only [Act.put, List.setIfInBounds_toArray, List.set_cons_zero, List.set_cons_succ]
      refine hk _ _ (below_asW HB0 hb') ?_
      clear hk K
      refine mix_at (fun V => Below B0 W V ∧ Lit V gK numKey ∧ Lit V gT numText) ⟨hb', hK, hT⟩ ?_
      clear hb hb' hK hT
      rintro V4 ⟨hb, hK, hT⟩
      rotate_left
      refine wpList_convSelf rfl _ 5 (.tmp 11) rfl Tryd.underlying22 Tryd.underlying5 gT 43 43 rfl _ hT ?_
      intro kk
      have hb' := below_freeze hb ⟨gT, kk, none⟩ hgT 1
      have hT := hT.freeze ⟨gT, kk, none⟩ 1
      have hK := hK.freeze ⟨gT, kk, none⟩ 1
      simp only [Act.put, List.setIfInBounds_toArray, List.set_cons_zero, List.set_cons_succ]
      refine hk _ _ (below_plusB HB0 hb') ?_
      clear hk K
      refine mix_atC (fun V => Below B0 W V ∧ Lit V gK numKey ∧ Lit V gT numText) ⟨hb', hK, hT⟩ ?_
      clear hb hb' hK hT
      rintro V3 ⟨hb, hK, hT⟩
      refine mix_only_to rfl (fun K hk => ?_)
      refine wpList_convSelf rfl _ 5 (.tmp 9) rfl Tryd.underlying22 Tryd.underlying5 gK 3 3 rfl _ hK ?_
      intro kk
      have hb' := below_freeze hb ⟨gK, kk, none⟩ hgK 1
      have hK := hK.freeze ⟨gK, kk, none⟩ 1
      have hT := hT.freeze ⟨gK, kk, none⟩ 1
      simp only [Act.put, List.setIfInBounds_toArray, List.set_cons_zero, List.set_cons_succ]
      refine hk _ _ (below_asW HB0 hb') ?_
      clear hk K
      refine mix_at (fun V => Below B0 W V ∧ Lit V gK numKey ∧ Lit V gT numText) ⟨hb', hK, hT⟩ ?_
      clear hb hb' hK hT
      rintro V4 ⟨hb, hK, hT⟩
      rotate_left
      refine wpList_convSelf rfl _ 5 (.tmp 11) rfl Tryd.underlying22 Tryd.underlying5 gT 43 43 rfl _ hT ?_
      intro kk
      have hb' := below_freeze hb ⟨gT, kk, none⟩ hgT 1
      have hT := hT.freeze ⟨gT, kk, none⟩ 1
      simp only [Act.put, List.setIfInBounds_toArray, List.set_cons_zero, List.set_cons_succ]
      refine hk _ _ (below_plusB HB0 hb') ?_
      clear hk K
      refine mix_atC (fun V => Below B0 W V ∧ Lit V gT numText) ⟨hb', hT⟩ ?_
      clear hb hb' hT
      rintro V2 ⟨hb, hT⟩
      refine mix_only_in rfl (fun K hk => ?_)
      focus go_wp2_with fail
      have hb' := hb.alloc (below_sizeB HB0 hb) (Obj.cells #[.int .u8 107, .int .u8 101, .int .u8 121] 5)
      have hK := Lit.new V2 numKey 5
      have hT := hT.alloc (Obj.cells #[.int .u8 107, .int .u8 101, .int .u8 121] 5)
      refine hk _ _ (below_plusB HB0 hb') ?_
      clear hk K
      have hgK : B0 ≤ V2.heap.size := below_sizeB HB0 hb
      refine mix_atC (fun V => Below B0 W V ∧ Lit V V2.heap.size numKey ∧ Lit V gT numText) ⟨hb', hK, hT⟩ ?_
      clear hb hb' hK hT
      generalize V2.heap.size = gK at hgK ⊢
      rintro V3 ⟨hb, hK, hT⟩
      refine mix_only_to rfl (fun K hk => ?_)
      refine wpList_convSelf rfl _ 5 (.tmp 9) rfl Tryd.underlying22 Tryd.underlying5 gK 3 3 rfl _ hK ?_
      intro kk
      have hb' := below_freeze hb ⟨gK, kk, none⟩ hgK 1
      have hK := hK.freeze ⟨gK, kk, none⟩ 1
      have hT := hT.freeze ⟨gK, kk, none⟩ 1
      simp only [Act.put, List.setIfInBounds_toArray, List.set_cons_zero, List.set_cons_succ]
      refine hk _ _ (below_asW HB0 hb') ?_
      clear hk K
      refine mix_at (fun V => Below B0 W V ∧ Lit V gK numKey ∧ Lit V gT numText) ⟨hb', hK, hT⟩ ?_
      clear hb hb' hK hT
      rintro V4 ⟨hb, hK, hT⟩
      rotate_left
      all_goals
        clear hgK hgT
        have hK := hK.bsl 3 rfl (by decide)
        have hT := hT.bsl 43 rfl (by decide)
        have hl := below_asW HB0 hb
        clear hb HB0
        refine mix_only rfl (fun Kq hq => ?_)
        go_wp2_with fail
        refine (mac_any _ _ numKey numText V4 hK hT (by decide) (by decide) (hGW.next hl)).mono ?_
        rintro e V5 ⟨rfl, hb⟩
        go_wp2_with fail
        refine hq _ _ hb ?_
        clear hq Kq
        have hl' := hl.trans (hb.mono hl.size)
        clear hl hb
        have hl := hl'
        clear hl'
        clear hK hT
        refine mix_only rfl (fun Kq hq => ?_)
        go_wp2_with fail
        refine (hex_any _ V5).mono ?_
        rintro e V6 ⟨rfl, hb⟩
        rw [hex_mac]
        go_wp2_with fail
        refine hq _ _ hb ?_
        clear hq Kq
        have hl' := hl.trans (hb.mono hl.size)
        clear hl hb
        have hl := hl'
        clear hl'
        repeat (refine mix_plain rfl ?_; (first
          | (refine wpQuiet_load rfl 24 (.tmp 1) rfl w.heap.size rfl _ _ _ _ (fun _ ⟨e, he⟩ => by rw [he]; exact (hDW.below hl hDW.lt).plus e) Tryd.underlying24 rfl (by rw [dat_size]; kernel_rfl) ?_; simp only [Act.put, List.setIfInBounds_toArray, List.set_cons_zero, List.set_cons_succ])
          | go_big_quiet_step (fail)); refine wpQuiet_nil ?_)
        refine mix_only rfl (fun Kq hq => ?_)
        go_wp2_with fail
        refine (cut_any onesL Hol.out 2 V6).mono ?_
        rintro e V7 ⟨rfl, hb⟩
        go_wp2_with fail
        refine hq _ _ hb ?_
        clear hq Kq
        have hl' := hl.trans (hb.mono hl.size)
        clear hl hb
        have hl := hl'
        clear hl'
        rw [cut_2]
        repeat (refine mix_plain rfl ?_; (first
          | (refine wpQuiet_eqD rfl (.tmp 18) (.tmp 19) _ rfl (255 :: 255 :: List.replicate 30 0) (255 :: 255 :: List.replicate 30 0) rfl (congrArg Value.agg dat_2.symm) (by decide) (by decide) true (decide_eq_true rfl) ?_; simp only [Act.put, List.setIfInBounds_toArray, List.set_cons_zero, List.set_cons_succ])
          | (refine wpQuiet_load rfl 24 (.tmp 1) rfl w.heap.size rfl _ _ _ _ (fun _ ⟨e, he⟩ => by rw [he]; exact (hDW.below hl hDW.lt).plus e) Tryd.underlying24 rfl (by rw [dat_size]; kernel_rfl) ?_; simp only [Act.put, List.setIfInBounds_toArray, List.set_cons_zero, List.set_cons_succ])
          | go_big_quiet_step (fail)); refine wpQuiet_nil ?_)
        refine mix_only rfl (fun Kq hq => ?_)
        go_wp2_with fail
        refine (cut_any onesL Hol.out 0 V7).mono ?_
        rintro e V8 ⟨rfl, hb⟩
        go_wp2_with fail
        refine hq _ _ hb ?_
        clear hq Kq
        have hl' := hl.trans (hb.mono hl.size)
        clear hl hb
        have hl := hl'
        clear hl'
        rw [cut_0]
        repeat (refine mix_plain rfl ?_; (first
          | (refine wpQuiet_eqD rfl (.tmp 24) (.tmp 25) _ rfl (List.replicate 32 0) (List.replicate 32 0) rfl (congrArg Value.agg dat_0.symm) (by decide) (by decide) true (decide_eq_true rfl) ?_; simp only [Act.put, List.setIfInBounds_toArray, List.set_cons_zero, List.set_cons_succ])
          | (refine wpQuiet_load rfl 24 (.tmp 1) rfl w.heap.size rfl _ _ _ _ (fun _ ⟨e, he⟩ => by rw [he]; exact (hDW.below hl hDW.lt).plus e) Tryd.underlying24 rfl (by rw [dat_size]; kernel_rfl) ?_; simp only [Act.put, List.setIfInBounds_toArray, List.set_cons_zero, List.set_cons_succ])
          | go_big_quiet_step (fail)); refine wpQuiet_nil ?_)
        refine mix_only rfl (fun Kq hq => ?_)
        go_wp2_with fail
        refine (cut_any onesL Hol.out (-1) V8).mono ?_
        rintro e V9 ⟨rfl, hb⟩
        go_wp2_with fail
        refine hq _ _ hb ?_
        clear hq Kq
        have hl' := hl.trans (hb.mono hl.size)
        clear hl hb
        have hl := hl'
        clear hl'
        rw [cut_m]
        repeat (refine mix_plain rfl ?_; (first
          | (refine wpQuiet_eqD rfl (.tmp 30) (.tmp 31) _ rfl (List.replicate 32 0) (List.replicate 32 0) rfl (congrArg Value.agg dat_0.symm) (by decide) (by decide) true (decide_eq_true rfl) ?_; simp only [Act.put, List.setIfInBounds_toArray, List.set_cons_zero, List.set_cons_succ])
          | (refine wpQuiet_load rfl 24 (.tmp 1) rfl w.heap.size rfl _ _ _ _ (fun _ ⟨e, he⟩ => by rw [he]; exact (hDW.below hl hDW.lt).plus e) Tryd.underlying24 rfl (by rw [dat_size]; kernel_rfl) ?_; simp only [Act.put, List.setIfInBounds_toArray, List.set_cons_zero, List.set_cons_succ])
          | go_big_quiet_step (fail)); refine wpQuiet_nil ?_)
        refine mix_only rfl (fun Kq hq => ?_)
        go_wp2_with fail
        refine (cut_any onesL Hol.out 40 V9).mono ?_
        rintro e V10 ⟨rfl, hb⟩
        go_wp2_with fail
        refine hq _ _ hb ?_
        clear hq Kq
        have hl' := hl.trans (hb.mono hl.size)
        clear hl hb
        have hl := hl'
        clear hl'
        rw [cut_40]
        repeat (refine mix_plain rfl ?_; (first
          | (refine wpQuiet_eqD rfl (.tmp 36) (.tmp 37) _ rfl (onesL) (onesL) rfl rfl (by decide) (by decide) true (decide_eq_true rfl) ?_; simp only [Act.put, List.setIfInBounds_toArray, List.set_cons_zero, List.set_cons_succ])
          | (refine wpQuiet_load rfl 24 (.tmp 1) rfl w.heap.size rfl _ _ _ _ (fun _ ⟨e, he⟩ => by rw [he]; exact (hDW.below hl hDW.lt).plus e) Tryd.underlying24 rfl (by rw [dat_size]; kernel_rfl) ?_; simp only [Act.put, List.setIfInBounds_toArray, List.set_cons_zero, List.set_cons_succ])
          | go_big_quiet_step (fail)); refine wpQuiet_nil ?_)
        refine mix_only rfl (fun Kq hq => ?_)
        go_wp2_with fail
        refine (join_any _ [] V10 SSl.nil_ (by decide)).mono ?_
        rintro e V11 ⟨v11, rfl, hown, hb⟩
        go_wp2_with fail
        refine hq _ _ hb ?_
        clear hq Kq
        have hl' := hl.trans (hb.mono hl.size)
        clear hl hb
        have hl := hl'
        clear hl'
        obtain ⟨Aj, cj, rfl, _, _, _⟩ := BSl.of_own (bs := []) hown
        clear hown
        repeat (refine mix_plain rfl ?_; (first
          | (refine wpQuiet_load rfl 24 (.tmp 1) rfl w.heap.size rfl _ _ _ _ (fun _ ⟨e, he⟩ => by rw [he]; exact (hDW.below hl hDW.lt).plus e) Tryd.underlying24 rfl (by rw [dat_size]; kernel_rfl) ?_; simp only [Act.put, List.setIfInBounds_toArray, List.set_cons_zero, List.set_cons_succ])
          | go_big_quiet_step (fail)); refine wpQuiet_nil ?_)
        refine mix_only rfl (fun Kq hq => ?_)
        go_wp2_with fail
        refine (known_any V11 (hGW.next hl)).mono ?_
        rintro e V12 ⟨rfl, hb⟩
        go_wp2_with fail
        refine hq _ _ hb ?_
        clear hq Kq
        have hl' := hl.trans (hb.mono hl.size)
        clear hl hb
        have hl := hl'
        clear hl'
        repeat (refine mix_plain rfl ?_; (first
          | (refine wpQuiet_load rfl 24 (.tmp 1) rfl w.heap.size rfl _ _ _ _ (fun _ ⟨e, he⟩ => by rw [he]; exact (hDW.below hl hDW.lt).plus e) Tryd.underlying24 rfl (by rw [dat_size]; kernel_rfl) ?_; simp only [Act.put, List.setIfInBounds_toArray, List.set_cons_zero, List.set_cons_succ])
          | go_big_quiet_step (fail)); refine wpQuiet_nil ?_)
        refine mix_done ?_
        go_wp2_with fail
        go_ret
        exact ⟨rfl, hbW.trans (hl.mono hbW.size)⟩
end Go.Proofs.YtilndfodlbcmjaaDoor
