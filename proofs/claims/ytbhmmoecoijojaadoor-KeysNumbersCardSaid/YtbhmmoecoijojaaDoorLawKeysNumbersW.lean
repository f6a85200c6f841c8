/- The walk of the law KeysNumbers. No condition. -/
import Derived.Test.YtbhmmoecoijojaaDoorKeysKnown
import Derived.Test.YtbhmmoecoijojaaDoorRingK
import Derived.Test.YtbhmmoecoijojaaDoorCut
namespace Go.Proofs.YtbhmmoecoijojaaDoor
open Go.RowKit
attribute [local irreducible] mixW
attribute [local go_sem] n8_lo n8_hi n64_lo n64_hi n32_lo n32_hi
def head2 : HeadL := ⟨2, 0, 0, 0, List.replicate 32 0⟩
def head99 : HeadL := ⟨99, 0, 0, 0, List.replicate 32 0⟩
theorem head2_ok : head2.ok := ⟨by decide, by decide, by decide⟩
theorem built_2 (w : World) : (Instr.build 49 #[(0, .int .i64 2)]).run Tryd.prog w = .ok (.agg (headC head2)) w := by kernel_rfl
theorem built_99 (w : World) : (Instr.build 49 #[(0, .int .i64 99)]).run Tryd.prog w = .ok (.agg (headC head99)) w := by kernel_rfl
structure KInv (ks : Nat → List (List UInt8)) (n : Nat) (d : List UInt8) : Prop where
  len : (ks 2).length = n
  fst : (ks 2).getD 0 [] = d
  oth : ∀ j, j ≠ 2 → ks j = []
theorem KInv.turn {ks : Nat → List (List UInt8)} {n : Nat} {d : List UInt8} (h : KInv ks n d) (hn : 1 ≤ n) (x : List UInt8) : KInv (fun j => if j = 2 then ks 2 ++ [x] else ks j) (n + 1) d := by
  refine ⟨?_, ?_, fun j hj => ?_⟩
  · show (if 2 = 2 then ks 2 ++ [x] else ks 2).length = n + 1
    rw [if_pos rfl, List.length_append, h.len]; rfl
  · show (if 2 = 2 then ks 2 ++ [x] else ks 2).getD 0 [] = d
    rw [if_pos rfl, ← h.fst, List.getD_eq_getElem?_getD, List.getD_eq_getElem?_getD, List.getElem?_append_left (by rw [h.len]; omega)]
  · show (if j = 2 then ks 2 ++ [x] else ks j) = []
    rw [if_neg hj]; exact h.oth j hj
def head3 : HeadL := ⟨3, 0, 0, 0, List.replicate 32 0⟩
theorem sigC_tree (h : HeadL) (tag : List UInt8) (k : Int) : (sigC h tag).setIfInBounds 0 (.int .i64 k) = sigC ⟨k, h.epoch, h.size, h.clock, h.root⟩ tag := by
  unfold sigC headC
  apply Array.toList_inj.1
  rw [Array.toList_setIfInBounds, Array.toList_append, Array.toList_append, Array.toList_append, Array.toList_append]
  rfl
theorem u32_small (k : Nat) (hk : k < 4294967296) : n32 (UInt32.ofNat k) = (k : Int) := by
  unfold n32; rw [UInt32.toNat_ofNat_of_lt' hk]
set_option maxHeartbeats 1000000 in
set_option maxRecDepth 100000 in
theorem keysNumbers_walk (w : World) (hG : Glob w) : Calls Tryd.prog 5 #[] w fun e w' => e = .returned (.bool true) ∧ Below w.heap.size w w' := by
  go_enter Tryd.func5, Tryd.ntmps5
  go_wp2_with fail
  refine (newRing_any _ [] w BSl.nil_ (by decide)).mono ?_
  rintro e w1 ⟨g, vs, rfl, hR, hbel⟩
  have hz := hbel.size
  go_wp2_with fail
  refine (turn_out _ (-1) (by omega) _ w1).mono ?_
  rintro e _ ⟨rfl, rfl⟩
  go_wp2_with fail
  refine (turn_out _ 16 (by omega) _ w1).mono ?_
  rintro e _ ⟨rfl, rfl⟩
  have hb2 := built_2
  go_wp2_with fail
  refine (rsign_none g w.heap.size [] vs _ (fun _ => []) 2 (by decide) rfl head2 rfl w1 hR).mono ?_
  rintro e w2 ⟨rfl, hb1⟩
  replace hR := hR.below hb1
  replace hbel := hbel.trans (hb1.mono hbel.size)
  clear hb1 hz
  have hzv := zero_sig
  have hD := Blk.new w2 51 (sigC zeroHead [])
  have hbn := below_new1 w2 (Obj.cells (sigC zeroHead []) 51)
  clear hb2
  go_upto_region 7 with (first
    | (refine wpList_storeB rfl rfl 51 (.tmp 6) (.tmp 39) rfl w2.heap.size 0 rfl (sigC zeroHead []) rfl _ _ hD (by rw [sigC_size]; kernel_rfl) (by rw [sigC_size]; omega) (sigC_one _ _) ?_; intro w3 hS hon3))
  have hb1 := below_only hbn hon3 (Nat.le_refl _) hbn.size
  replace hR := hR.below hb1
  replace hbel := hbel.trans (hb1.mono hbel.size)
  clear hb1 hbn hon3 hD hS
  have hb99 := built_99
  go_wp2_with fail
  refine (rsign_out _ head99 (by decide) w3).mono ?_
  rintro e w4 ⟨rfl, hb1⟩
  replace hR := hR.below hb1
  replace hbel := hbel.trans (hb1.mono hbel.size)
  clear hb1 hb99
  have hD := Blk.new w4 51 (sigC zeroHead [])
  have hbn := below_new1 w4 (Obj.cells (sigC zeroHead []) 51)
  go_upto_region 8 with (first
    | (refine wpList_storeB rfl rfl 51 (.tmp 8) (.tmp 45) rfl w4.heap.size 0 rfl (sigC zeroHead []) rfl _ _ hD (by rw [sigC_size]; kernel_rfl) (by rw [sigC_size]; omega) (sigC_one _ _) ?_; intro w5 hS hon3))
  have hb1 := below_only hbn hon3 (Nat.le_refl _) hbn.size
  replace hR := hR.below hb1
  replace hbel := hbel.trans (hb1.mono hbel.size)
  clear hb1 hbn hon3 hD hS hzv
  go_wp2_with fail
  refine (epoch_none g w.heap.size [] vs _ (fun _ => []) 2 (by decide) rfl w5 hR).mono ?_
  rintro e _ ⟨rfl, rfl⟩
  go_wp2_with fail
  refine (epoch_out g (-1) (by omega) w5).mono ?_
  rintro e _ ⟨rfl, rfl⟩
  go_wp2_with fail
  refine (turn_ok g w.heap.size [] vs _ (fun _ => []) 2 (by decide) (by decide) 1 w5 hR hbel.size (by decide) (hG.next hbel)).mono ?_
  rintro e w6 ⟨rfl, ⟨rows, hR2⟩, hb1⟩
  replace hbel := hbel.trans hb1
  clear hR hb1
  obtain ⟨d, hd⟩ : ∃ d, keyL' [] ((2 : Nat) : Int) ((([] : List (List UInt8)).length : Nat) : Int) 1 = d := ⟨_, rfl⟩
  have Hdl : Hid (d.length = 32) := Lib.hid (by rw [← hd]; exact mac_length _ _)
  obtain ⟨ks, hks⟩ : ∃ ks : Nat → List (List UInt8), ks = fun j => if j = 2 then ([] : List (List UInt8)) ++ [keyL' [] ((2 : Nat) : Int) ((([] : List (List UInt8)).length : Nat) : Int) 1] else [] := ⟨_, rfl⟩
  have hK : KInv ks 1 d := by
    rw [hks]
    refine ⟨rfl, by rw [← hd]; rfl, fun j hj => ?_⟩
    show (if j = 2 then _ else ([] : List (List UInt8))) = []
    rw [if_neg hj]
  rw [← hks] at hR2
  clear hks hd
  have HK := Lib.hid hK
  clear hK
  have hb2 := built_2
  have hA : (⟨((2 : Nat) : Int), (((1 : Nat) : Int) - 1), head2.size, head2.clock, head2.root⟩ : HeadL) = head2 := rfl
  go_wp2_with fail
  refine (rsign_ok g w.heap.size [] vs rows ks 2 (by decide) (by rw [HK.out.len]; decide) (by rw [HK.out.len]; decide) (fun k hk => by rw [HK.out.len] at hk; rw [show k = 0 by omega, HK.out.fst]; exact Hdl.out) head2 head2_ok rfl w6 hR2 (hG.next hbel)).mono ?_
  rintro e w7 ⟨rfl, hb1⟩
  rw [HK.out.len, hA, show ((1 : Nat) - 1) = 0 from rfl, HK.out.fst]
  replace hR2 := hR2.below hb1
  replace hbel := hbel.trans (hb1.mono hbel.size)
  clear hb1 hb2 hA
  obtain ⟨T, hTd⟩ : ∃ T, tagL d head2 = T := ⟨_, rfl⟩
  have Htl : Hid (T.length = 32) := Lib.hid (by rw [← hTd]; exact tagL_length _ _)
  have HT := Lib.hid hTd
  rw [hTd]
  clear hTd
  have hA := hR2.away (Nat.le_refl w7.heap.size)
  have hzv := zero_sig
  have hD := Blk.new w7 51 (sigC zeroHead [])
  have hbn := below_new1 w7 (Obj.cells (sigC zeroHead []) 51)
  go_upto_region 12 with (first
    | (refine wpList_storeB rfl rfl 51 (.tmp 14) (.tmp 63) rfl w7.heap.size 0 rfl (sigC head2 T) rfl _ _ hD (by rw [sigC_size]; kernel_rfl) (by rw [sigC_size, sigC_size]; omega) (sigC_one _ _) ?_; intro w8 hS hon3))
  rw [copied_all _ _ (by rw [sigC_size, sigC_size])] at hS
  have hb1 := below_only hbn hon3 (Nat.le_refl _) hbn.size
  replace hR2 := hR2.below hb1
  replace hbel := hbel.trans (hb1.mono hbel.size)
  clear hb1 hbn hon3 hD
  go_wp2_with fail
  refine (turn_all g w.heap.size [] vs rows ks 2 (by decide) (by rw [HK.out.len]; decide) 2 w8 hR2 hbel.size (by decide) (hG.next hbel)).mono ?_
  rintro e w9 ⟨rfl, ⟨v', hR, htn⟩, hb1⟩
  have hA2 := htn.away (by decide) hR2.len hS.lt hA
  replace hS := htn.blk (by decide) hA hS
  clear hA
  replace hbel := hbel.trans hb1
  have hKK := HK.out.turn (by decide) (keyL' [] ((2 : Nat) : Int) ((ks 2).length : Int) 2)
  clear hR2 hb1 htn HK
  generalize (fun j => if j = 2 then ks 2 ++ [keyL' [] ((2 : Nat) : Int) ((ks 2).length : Int) 2] else ks j) = ks2 at hR hKK
  generalize rows.set 2 v' = rows2 at hR hA2
  have HKK := Lib.hid hKK
  clear hKK
  have hA3 := hR.away (Nat.le_refl w9.heap.size)
  have hD := Blk.new w9 51 (sigC zeroHead [])
  have hbn := below_new1 w9 (Obj.cells (sigC zeroHead []) 51)
  go_upto_region 14 with (first
    | (refine wpList_loadW (by rfl) 51 (.tmp 14) rfl w7.heap.size rfl _ _ _ hS Tryd.underlying51 rfl (by rw [sigC_size]; kernel_rfl) ?_)
    | (refine wpList_storeB rfl rfl 51 (.tmp 16) (.tmp 67) rfl w9.heap.size 0 rfl (sigC head2 T) rfl _ _ hD (by rw [sigC_size]; kernel_rfl) (by rw [sigC_size, sigC_size]; omega) (sigC_one _ _) ?_; intro w10 hS3 hon3))
  rw [copied_all _ _ (by rw [sigC_size, sigC_size])] at hS3
  have hbx := below_only hbn hon3 (Nat.le_refl _) hbn.size
  clear hbn hon3 hD hzv
  go_upto_region 15 with (first
    | (refine wpList_store1 rfl rfl _ (.tmp 69) (.const (.int .i64 3)) rfl w9.heap.size 0 rfl (.int .i64 3) rfl _ _ hS3 (by kernel_rfl) (by rw [sigC_size]; omega) rfl rfl ?_; intro w11 hS4 hon4))
  rw [sigC_tree] at hS4
  have hb1 := below_only hbx hon4 (Nat.le_refl _) hbx.size
  replace hS := hS.below hb1 hS.lt
  replace hR := hR.below hb1
  replace hbel := hbel.trans (hb1.mono hbel.size)
  clear hb1 hbx hon4 hS3
  have h31 : (⟨3, head2.epoch, head2.size, head2.clock, head2.root⟩ : HeadL) = head3 := rfl
  rw [h31] at hS4
  clear h31
  go_wp2_with fail
  refine (epoch_ok g w.heap.size [] vs rows2 ks2 2 (by decide) (by rw [HKK.out.len]; decide) (by rw [HKK.out.len]; decide) w11 hR).mono ?_
  rintro e _ ⟨rfl, rfl⟩
  rw [HKK.out.len]
  go_wp2_with fail
  obtain ⟨B7, hB7⟩ : ∃ B7, B7 = w7.heap.size := ⟨_, rfl⟩
  obtain ⟨B9, hB9⟩ : ∃ B9, B9 = w9.heap.size := ⟨_, rfl⟩
  rw [← hB7] at hS hA2 ⊢
  rw [← hB9] at hS4 hA3 ⊢
  clear hB7 hB9
  have HS0 := Lib.hid (And.intro hS (And.intro hS4 (And.intro hA2 (And.intro hA3 (And.intro hR (And.intro hbel HKK.out))))))
  clear hS hS4 hA2 hA3 hR hbel HKK
  go_loopw [19] (fun iv wr => ∃ (k : Nat) (rw' : List Value) (kk : Nat → List (List UInt8)), 2 ≤ k ∧ k ≤ 32 ∧ iv = .int .i64 k ∧ Blk wr B7 51 (sigC head2 T) ∧ Blk wr B9 51 (sigC head3 T) ∧ Away B7 g vs rw' ∧ Away B9 g vs rw' ∧ Rng wr g w.heap.size [] vs rw' kk ∧ KInv kk k d ∧ Below w.heap.size w wr) (fun iv _ => 32 - (intOf iv).toNat)
  case atStart => exact ⟨2, rows2, ks2, by omega, by omega, rfl, HS0.out.1, HS0.out.2.1, HS0.out.2.2.1, HS0.out.2.2.2.1, HS0.out.2.2.2.2.1, HS0.out.2.2.2.2.2.2, HS0.out.2.2.2.2.2.1⟩
  case round =>
    clear HS0
    obtain ⟨k, rw', kk, hk0, hk, rfl, hS, hS3, hA, hA3, hR, hK, hbel⟩ := hrel
    have HK := Lib.hid hK
    clear hK
    by_cases hlt : k < 32
    · have hu := u32_small k (by omega)
      go_wp2_with fail
      have htu := turn_all g w.heap.size [] vs rw' kk 2 (by decide) (by rw [HK.out.len]; exact hlt) (UInt32.ofNat k) wr hR hbel.size (by decide) (hG.next hbel)
      rw [hu] at htu
      refine htu.mono ?_
      clear htu hu
      rintro e w12 ⟨rfl, ⟨v2, hR2, htn⟩, hb1⟩
      have hA' := htn.away (by decide) hR.len hS.lt hA
      have hA3' := htn.away (by decide) hR.len hS3.lt hA3
      replace hS := htn.blk (by decide) hA hS
      replace hS3 := htn.blk (by decide) hA3 hS3
      replace hbel := hbel.trans hb1
      have hKK := HK.out.turn (by omega) (keyL' [] ((2 : Nat) : Int) ((kk 2).length : Int) (UInt32.ofNat k))
      clear hR hb1 htn HK hA hA3
      generalize (fun j => if j = 2 then kk 2 ++ [keyL' [] ((2 : Nat) : Int) ((kk 2).length : Int) (UInt32.ofNat k)] else kk j) = ks3 at hR2 hKK
      generalize rw'.set 2 v2 = rows3 at hR2 hA' hA3'
      have HH := Lib.hid (And.intro hS (And.intro hS3 (And.intro hA' (And.intro hA3' (And.intro hR2 (And.intro hKK hbel))))))
      clear hS hS3 hA' hA3' hR2 hKK hbel
      go_wp2_with fail
      go_roundw
      case rel => exact ⟨k + 1, rows3, ks3, by omega, by omega, by go_num, HH.out.1, HH.out.2.1, HH.out.2.2.1, HH.out.2.2.2.1, HH.out.2.2.2.2.1, HH.out.2.2.2.2.2.1, HH.out.2.2.2.2.2.2⟩
      case measure => simp [intOf]; omega
    · have ek : k = 32 := by omega
      subst ek
      clear hlt hk hk0
      go_wp2_with fail
      refine (turn_many g w.heap.size [] vs rw' kk 2 (by decide) HK.out.len _ wr hR).mono ?_
      rintro e _ ⟨rfl, rfl⟩
      go_wp2_with (first
        | (refine wpList_loadW (by rfl) 51 (.tmp 14) rfl B7 rfl _ _ _ hS Tryd.underlying51 rfl (by rw [sigC_size]; kernel_rfl) ?_))
      refine (rholds_ok g w.heap.size [] vs rw' kk 2 (by decide) 0 (by rw [HK.out.len]; decide) (by rw [HK.out.len]; decide) d HK.out.fst Hdl.out head2 head2_ok rfl rfl T Htl.out wr hR (hG.next hbel)).mono ?_
      rintro e w12 ⟨rfl, hb1⟩
      rw [decide_eq_true HT.out]
      replace hS3 := hS3.below hb1 hS3.lt
      replace hR := hR.below hb1
      replace hbel := hbel.trans (hb1.mono hbel.size)
      clear hb1 hS
      go_wp2_with (first
        | (refine wpList_loadW (by rfl) 51 (.tmp 16) rfl B9 rfl _ _ _ hS3 Tryd.underlying51 rfl (by rw [sigC_size]; kernel_rfl) ?_))
      refine (rholds_no g w.heap.size [] vs rw' kk (fun i hi => by
        by_cases h2 : i = 2
        · rw [h2, HK.out.len]; decide
        · rw [HK.out.oth i h2]; decide) head3 (fun hh => by
        have h4 := hh.2.2.2
        rw [show head3.tree.toNat = 3 from rfl, HK.out.oth 3 (by decide)] at h4
        exact absurd h4 (by decide)) T w12 hR).mono ?_
      rintro e w13 ⟨rfl, hb1⟩
      replace hbel := hbel.trans (hb1.mono hbel.size)
      clear hb1 hS3 hR
      go_wp2_with fail
      refine (known11_any w13 (hG.next hbel)).mono ?_
      rintro e w14 ⟨rfl, hb1⟩
      replace hbel := hbel.trans (hb1.mono hbel.size)
      clear hb1
      go_wp2_with fail
      go_ret
      exact ⟨rfl, hbel⟩
end Go.Proofs.YtbhmmoecoijojaaDoor
