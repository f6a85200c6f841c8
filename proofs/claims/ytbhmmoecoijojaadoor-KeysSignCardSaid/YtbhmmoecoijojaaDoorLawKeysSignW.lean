/- The walk of the law KeysSign. No condition. -/
import Derived.Test.YtbhmmoecoijojaaDoorKeysKnown
import Derived.Test.YtbhmmoecoijojaaDoorBook
import Derived.Test.YtbhmmoecoijojaaDoorCut
import Derived.Test.YtbhmmoecoijojaaDoorStr
import Derived.Test.YtbhmmoecoijojaaDoorTbl
namespace Go.Proofs.YtbhmmoecoijojaaDoor
open Go.RowKit
attribute [local go_sem] n8_lo n8_hi n64_lo n64_hi n32_lo n32_hi
set_option maxRecDepth 100000 in
set_option maxHeartbeats 1000000 in
theorem keysSign_walk (w : World) (hG : Glob w) (A : Option Addr) (cap : Nat) (b : List UInt8) (hb : BSl w w.heap.size (.slice A b.length cap) b) (hc : cap ≤ 140737488351232)
    (tree : Int) (ht : -9223372036854775808 ≤ tree ∧ tree ≤ 9223372036854775807) (epoch : Int) (he : -9223372036854775808 ≤ epoch ∧ epoch ≤ 9223372036854775807) (draw : UInt32)
    (h : HeadL) (hok : h.ok) (hs : HeadL) (hsok : hs.ok) (tag : List UInt8) (htl : tag.length = 32) :
    Calls Tryd.prog 6 #[.slice A b.length cap, .int .i64 tree, .int .i64 epoch, .int .u32 (n32 draw), .agg (headC h), .agg (sigC hs tag)] w fun e w' => e = .returned (.bool true) ∧ Below w.heap.size w w' := by
  go_enter Tryd.func6, Tryd.ntmps6
  go_wp2_with fail
  have hD1 := (Blk.new w 49 (headC h)).alloc (Obj.cells (sigC hs tag) 51)
  have hD2 := Blk.new2 w (Obj.cells (headC h) 49) 51 (sigC hs tag)
  have hb2 := (below_new1 w (Obj.cells (headC h) 49)).trans ((below_new1 (w.alloc (Obj.cells (headC h) 49)) (Obj.cells (sigC hs tag) 51)).mono (by simp))
  refine calls_at (fun W => Blk W w.heap.size 49 (headC h) ∧ Blk W (w.heap.size + 1) 51 (sigC hs tag) ∧ Below w.heap.size w W) ⟨hD1, hD2, hb2⟩ ?_
  clear hD1 hD2 hb2
  rintro W ⟨hD1, hD2, hbel⟩
  refine (new_any W).mono ?_
  rintro e w1 ⟨t, rfl, hT1, hb1⟩
  have hD1 := hD1.below hb1 hD1.lt
  have hD2 := hD2.below hb1 hD2.lt
  have hbel1 := hbel.trans (hb1.mono hbel.size)
  have hb := hb.next hbel1
  clear hbel hb1
  have hlc : b.length ≤ cap := by obtain ⟨A', c', e1, h1, -⟩ := hb; injection e1 with _ _ e2; omega
  by_cases h200 : (200 : Int) < (b.length : Int)
  case' pos =>
    have hc1 : ((200 : Int) ≤ (cap : Int)) := by omega
    have hs1 := head_b hb 200 (by omega)
    have hsl : (b.take 200).length = 200 := by rw [List.length_take]; omega
    clear hlc hb
    go_wp2_with fail
    clear hc1 h200
    generalize b.take 200 = sd at hs1 hsl
    obtain ⟨m, hm⟩ : ∃ m : Nat, m = 200 := ⟨_, rfl⟩
    have hm2 : m ≤ 200 := by omega
    rw [← hm] at hs1 hsl ⊢
    clear hm
  case' neg =>
    have hm2 : b.length ≤ 200 := by omega
    have hs1 := hb
    obtain ⟨m, hm⟩ : ∃ m, b.length = m := ⟨_, rfl⟩
    rw [hm] at hs1 hm2 h200 ⊢
    have hsl := Lib.hid hm
    clear hm hlc hb
    go_wp2_with fail
    clear h200
    replace hsl := hsl.out
    generalize b = sd at hs1 hsl
  all_goals
    refine (roomy_any _ sd 165 w1 hs1 (by omega)).mono ?_
    rintro e w2 ⟨v2, rfl, ⟨A2, c2, rfl, h21, h22, hr2⟩, hb2⟩
    have hR2 : BSl w2 w2.heap.size (.slice A2 (sd ++ List.replicate 80 165).length c2) (sd ++ List.replicate 80 165) := ⟨A2, c2, rfl, h21, h22, hr2⟩
    have hlen : (sd ++ List.replicate 80 (165 : UInt8)).length = m + 80 := by simp [hsl]
    rw [hlen] at h21 hR2 ⊢
    clear hr2
    go_wp2_with fail
    have hS2 := head_b hR2 m (by omega)
    rw [show (sd ++ List.replicate 80 (165 : UInt8)).take m = sd by rw [← hsl, List.take_left]] at hS2
    have hbel2 := hbel1.trans (hb2.mono hbel1.size)
    have hs2 := hs1.next hb2
    have hT2 := hT1.nxt hb2
    clear hT1 hs1
    refine (key_any _ sd tree epoch draw w2 hS2 (by omega) (hG.next hbel2) ht he).mono ?_
    rintro e w3 ⟨rfl, hb3⟩
    have hbel3 := hbel2.trans (hb3.mono hbel2.size)
    have hkl : (keyL' sd tree epoch draw).length = 32 := mac_length _ _
    obtain ⟨key, hkey⟩ : ∃ key, keyL' sd tree epoch draw = key := ⟨_, rfl⟩
    rw [hkey] at hkl ⊢
    have hkey := Lib.hid hkey
    have hD := Blk.new w3 27 (arr 32 fun _ => 0)
    go_upto_region 6 with (first
      | (refine wpList_storeDat rfl rfl 27 (.tmp 15) (.tmp 32) rfl w3.heap.size rfl _ _ rfl _ hD (by kernel_rfl) ?_; intro w4 hK4 hon4))
    have hb4 := below_only (below_new1 w3 (Obj.cells (arr 32 fun _ => 0) 27)) hon4 (Nat.le_refl _) (below_new1 w3 (Obj.cells (arr 32 fun _ => 0) 27)).size
    have hbel4 := hbel3.trans (hb4.mono hbel3.size)
    have hb14 := (hb2.trans (hb3.mono hb2.size)).trans (hb4.mono (Nat.le_trans hb2.size hb3.size))
    have hT4 := hT2.nxt (hb3.trans (hb4.mono hb3.size))
    have hH4 := hD1.below hb14 hD1.lt
    have hX4 := hD2.below hb14 hD2.lt
    have hs4 := (hs2.next hb3).next hb4
    have hR4 := (hR2.next hb3).next hb4
    clear hb4 hb14 hon4 hD hD1 hD2 hs2 hS2 hR2 hbel3 hb3 hb2 hbel2 hbel1
    go_wp2_with (first
      | (refine wpList_loadW (by rfl) 27 (.tmp 15) rfl w3.heap.size rfl _ _ _ hK4 Tryd.underlying27 rfl (by kernel_rfl) ?_)
      | (refine wpList_loadW (by rfl) 49 (.tmp 10) rfl w.heap.size rfl _ _ _ hH4 Tryd.underlying49 rfl (by rw [headC_size]; kernel_rfl) ?_))
    refine (sign_any key hkl h hok w4 (hG.next hbel4)).mono ?_
    rintro e w5 ⟨rfl, hb5⟩
    have hbel5 := hbel4.trans (hb5.mono hbel4.size)
    have hT5 := hT4.nxt hb5
    have hH5 := hH4.below hb5 hH4.lt
    have hX5 := hX4.below hb5 hX4.lt
    have hK5 := hK4.below hb5 hK4.lt
    have hs5 := hs4.next hb5
    have hR5 := hR4.next hb5
    have hzv := zero_sig
    have hD := Blk.new w5 51 (sigC zeroHead [])
    have hb6 := below_new1 w5 (Obj.cells (sigC zeroHead []) 51)
    clear hb5 hH4 hX4 hK4 hs4 hR4 hbel4 hT4 hT2
    go_upto_region 7 with (first
      | (refine wpList_storeB rfl rfl 51 (.tmp 16) (.tmp 35) rfl w5.heap.size 0 rfl (sigC h (tagL key h)) rfl _ _ hD (by rw [sigC_size]; kernel_rfl) (by rw [sigC_size, sigC_size]; omega) (sigC_one _ _) ?_; intro w6 hS6 hon6))
    rw [copied_all _ _ (by rw [sigC_size, sigC_size])] at hS6
    have hb6 := below_only hb6 hon6 (Nat.le_refl _) hb6.size
    -- region 7
    have hbel := hbel5.trans (hb6.mono hbel5.size)
    have hH := hH5.below hb6 hH5.lt
    have hX := hX5.below hb6 hX5.lt
    have hK0 := hK5.below hb6 hK5.lt
    have hS := hS6
    have hq := hs5.next hb6
    have hR := hR5.next hb6
    have hT := hT5.nxt hb6
    clear hbel5 hb6 hH5 hX5 hK5 hS6 hs5 hR5 hT5 hD hzv hon6
    have Hkey := Lib.hid hkey.out
    have Hkl := Lib.hid hkl
    have Htl := Lib.hid htl
    have Hgl := Lib.hid (tagL_length key h)
    have Hok := Lib.hid hok
    have Hsok := Lib.hid hsok
    have HG := Lib.hid hG
    have Hlen := Lib.hid hlen
    obtain ⟨T, hTd⟩ : ∃ T, tagL key h = T := ⟨_, rfl⟩
    have HT := Lib.hid hTd
    rw [hTd] at Hgl hS ⊢
    clear hTd hkey hkl htl hok hsok hlen
    have HX : ∀ b : Bool, (b == b) = true := fun b => by cases b <;> rfl
    refine wp_region_mixP (.plain 0 <| .plain 1 <| .plain 2 <| .plain 3 <| .plain 4 <| .plain 5 <| .only 6 <| .plain 7 <| .plain 8 <| .plain 9 <| .plain 12 <| .only 10 <| .plain 11 <| .only 13 <| .plain 14 <| .plain 15 <| .plain 16 <| .plain 17 <| .plain 18 <| .plain 19 <| .plain 20 <| .plain 21 <| .only 22 <| .plain 23 <| .plain 24 <| .plain 25 <| .plain 26 <| .plain 27 <| .only 28 <| .plain 29 <| .plain 30 <| .plain 31 <| .plain 32 <| .plain 34 <| .plain 35 <| .plain 36 <| .only 33 <| .only 37 <| .plain 38 <| .plain 39 <| .plain 40 <| .plain 41 <| .plain 42 <| .only 43 <| .plain 44 <| .plain 45 <| .only 46 <| .plain 47 <| .plain 48 <| .done) (by kernel_rfl) (by kernel_rfl) (fun W0 hb1 => ?_)
    replace hH := hH.below hb1 hH.lt
    replace hX := hX.below hb1 hX.lt
    replace hK0 := hK0.below hb1 hK0.lt
    replace hS := hS.below hb1 hS.lt
    replace hq := hq.next hb1
    replace hR := hR.next hb1
    replace hT := hT.nxt hb1
    replace hbel := hbel.trans (hb1.mono hbel.size)
    clear hb1
    iterate 6 (refine mix_plain rfl ?_; (first
      | (refine wpQuiet_load rfl 27 (.tmp 15) rfl w3.heap.size rfl _ _ _ _ (fun _ ⟨e, he⟩ => by rw [he]; exact hK0.plus e) Tryd.underlying27 rfl (by rw [dat_size]; kernel_rfl) ?_; simp only [Act.put, List.setIfInBounds_toArray, List.set_cons_zero, List.set_cons_succ])
      | go_big_quiet_step (fail)); refine wpQuiet_nil ?_)
    refine mix_only rfl (fun K hK => ?_)
    go_wp2_with fail
    refine (rkey_any _ _ sd tree epoch draw W0 hT hq (by omega) ht he).mono ?_
    rintro e W1 ⟨rfl, hb1⟩
    go_wp2_with fail
    refine hK _ _ hb1 ?_
    clear hK K
    replace hH := hH.below hb1 hH.lt
    replace hX := hX.below hb1 hX.lt
    replace hK0 := hK0.below hb1 hK0.lt
    replace hS := hS.below hb1 hS.lt
    replace hq := hq.next hb1
    replace hR := hR.next hb1
    replace hT := hT.nxt hb1
    replace hbel := hbel.trans (hb1.mono hbel.size)
    try rw [Hkey.out]
    clear hb1
    iterate 4 (refine mix_plain rfl ?_; (first
      | (refine wpQuiet_load rfl 49 (.tmp 10) rfl w.heap.size rfl _ _ _ _ (fun _ ⟨e, he⟩ => by rw [he]; exact hH.plus e) Tryd.underlying49 rfl (by rw [headC_size]; kernel_rfl) ?_; simp only [Act.put, List.setIfInBounds_toArray, List.set_cons_zero, List.set_cons_succ])
      | (refine wpQuiet_eqD rfl (.tmp 36) (.tmp 42) _ rfl key key rfl rfl Hkl.out Hkl.out true (decide_eq_true rfl) ?_; simp only [Act.put, List.setIfInBounds_toArray, List.set_cons_zero, List.set_cons_succ])
      | go_big_quiet_step (fail)); refine wpQuiet_nil ?_)
    refine mix_only rfl (fun K hK => ?_)
    go_wp2_with fail
    refine (bytes_any h Hok.out W1).mono ?_
    rintro e W2 ⟨v1, rfl, hv1, hb1⟩
    go_wp2_with fail
    refine hK _ _ hb1 ?_
    clear hK K
    replace hH := hH.below hb1 hH.lt
    replace hX := hX.below hb1 hX.lt
    replace hK0 := hK0.below hb1 hK0.lt
    replace hS := hS.below hb1 hS.lt
    replace hq := hq.next hb1
    replace hR := hR.next hb1
    replace hT := hT.nxt hb1
    replace hbel := hbel.trans (hb1.mono hbel.size)
    clear hb1
    iterate 1 (refine mix_plain rfl ?_; (first
      | (refine wpQuiet_str rfl (.tmp 46) rfl v1 (headB h) _ rfl (fun _ ⟨e, he⟩ => by rw [he]; exact hv1.below (plus_below _ e)) ?_; simp only [Act.put, List.setIfInBounds_toArray, List.set_cons_zero, List.set_cons_succ])
      | go_big_quiet_step (fail)); refine wpQuiet_nil ?_)
    refine mix_only rfl (fun K hK => ?_)
    go_wp2_with fail
    refine (rbytes_any h Hok.out W2).mono ?_
    rintro e W3 ⟨v2, rfl, hv2, hb1⟩
    go_wp2_with fail
    refine hK _ _ hb1 ?_
    clear hK K
    replace hH := hH.below hb1 hH.lt
    replace hX := hX.below hb1 hX.lt
    replace hK0 := hK0.below hb1 hK0.lt
    replace hS := hS.below hb1 hS.lt
    replace hq := hq.next hb1
    replace hR := hR.next hb1
    replace hT := hT.nxt hb1
    replace hbel := hbel.trans (hb1.mono hbel.size)
    clear hb1
    iterate 8 (refine mix_plain rfl ?_; (first
      | (refine wpQuiet_load rfl 27 (.tmp 15) rfl w3.heap.size rfl _ _ _ _ (fun _ ⟨e, he⟩ => by rw [he]; exact hK0.plus e) Tryd.underlying27 rfl (by rw [dat_size]; kernel_rfl) ?_; simp only [Act.put, List.setIfInBounds_toArray, List.set_cons_zero, List.set_cons_succ])
      | (refine wpQuiet_load rfl 49 (.tmp 10) rfl w.heap.size rfl _ _ _ _ (fun _ ⟨e, he⟩ => by rw [he]; exact hH.plus e) Tryd.underlying49 rfl (by rw [headC_size]; kernel_rfl) ?_; simp only [Act.put, List.setIfInBounds_toArray, List.set_cons_zero, List.set_cons_succ])
      | (refine wpQuiet_load rfl 51 (.tmp 16) rfl w5.heap.size rfl _ _ _ _ (fun _ ⟨e, he⟩ => by rw [he]; exact hS.plus e) Tryd.underlying51 rfl (by rw [sigC_size]; kernel_rfl) ?_; simp only [Act.put, List.setIfInBounds_toArray, List.set_cons_zero, List.set_cons_succ])
      | (refine wpQuiet_str rfl (.tmp 49) rfl v2 (headB h) _ rfl (fun _ ⟨e, he⟩ => by rw [he]; exact hv2.below (plus_below _ e)) ?_; simp only [Act.put, List.setIfInBounds_toArray, List.set_cons_zero, List.set_cons_succ])
      | (unfold strV; go_big_quiet_step (fail))
      | go_big_quiet_step (fail)); refine wpQuiet_nil ?_)
    refine mix_only rfl (fun K hK => ?_)
    go_wp2_with fail
    refine (rsign_any _ key Hkl.out h Hok.out W3 hT).mono ?_
    rintro e W4 ⟨rfl, hb1⟩
    go_wp2_with fail
    refine hK _ _ hb1 ?_
    clear hK K
    replace hH := hH.below hb1 hH.lt
    replace hX := hX.below hb1 hX.lt
    replace hK0 := hK0.below hb1 hK0.lt
    replace hS := hS.below hb1 hS.lt
    replace hq := hq.next hb1
    replace hR := hR.next hb1
    replace hT := hT.nxt hb1
    replace hbel := hbel.trans (hb1.mono hbel.size)
    rw [HT.out]
    clear hb1
    iterate 5 (refine mix_plain rfl ?_; (first
      | (refine wpQuiet_load rfl 27 (.tmp 15) rfl w3.heap.size rfl _ _ _ _ (fun _ ⟨e, he⟩ => by rw [he]; exact hK0.plus e) Tryd.underlying27 rfl (by rw [dat_size]; kernel_rfl) ?_; simp only [Act.put, List.setIfInBounds_toArray, List.set_cons_zero, List.set_cons_succ])
      | (refine wpQuiet_load rfl 49 (.tmp 10) rfl w.heap.size rfl _ _ _ _ (fun _ ⟨e, he⟩ => by rw [he]; exact hH.plus e) Tryd.underlying49 rfl (by rw [headC_size]; kernel_rfl) ?_; simp only [Act.put, List.setIfInBounds_toArray, List.set_cons_zero, List.set_cons_succ])
      | (refine wpQuiet_load rfl 51 (.tmp 16) rfl w5.heap.size rfl _ _ _ _ (fun _ ⟨e, he⟩ => by rw [he]; exact hS.plus e) Tryd.underlying51 rfl (by rw [sigC_size]; kernel_rfl) ?_; simp only [Act.put, List.setIfInBounds_toArray, List.set_cons_zero, List.set_cons_succ])
      | (refine wpQuiet_load rfl 51 (.tmp 11) rfl (w.heap.size + 1) rfl _ _ _ _ (fun _ ⟨e, he⟩ => by rw [he]; exact hX.plus e) Tryd.underlying51 rfl (by rw [sigC_size]; kernel_rfl) ?_; simp only [Act.put, List.setIfInBounds_toArray, List.set_cons_zero, List.set_cons_succ])
      | (refine wpQuiet_eqS rfl (.tmp 54) (.tmp 58) _ rfl h h T T rfl rfl Hok.out.1 Hok.out.1 Hgl.out Hgl.out true (by rw [headEq_self, decide_eq_true rfl]; rfl) ?_; simp only [Act.put, List.setIfInBounds_toArray, List.set_cons_zero, List.set_cons_succ])
      | go_big_quiet_step (fail)); refine wpQuiet_nil ?_)
    refine mix_only rfl (fun K hK => ?_)
    go_wp2_with fail
    refine (holds_any key Hkl.out h Hok.out T Hgl.out W4 (HG.out.next hbel)).mono ?_
    rintro e W5 ⟨rfl, hb1⟩
    go_wp2_with fail
    refine hK _ _ hb1 ?_
    clear hK K
    replace hH := hH.below hb1 hH.lt
    replace hX := hX.below hb1 hX.lt
    replace hK0 := hK0.below hb1 hK0.lt
    replace hS := hS.below hb1 hS.lt
    replace hq := hq.next hb1
    replace hR := hR.next hb1
    replace hT := hT.nxt hb1
    replace hbel := hbel.trans (hb1.mono hbel.size)
    rw [decide_eq_true HT.out]
    clear hb1
    iterate 7 (refine mix_plain rfl ?_; (first
      | (refine wpQuiet_load rfl 27 (.tmp 15) rfl w3.heap.size rfl _ _ _ _ (fun _ ⟨e, he⟩ => by rw [he]; exact hK0.plus e) Tryd.underlying27 rfl (by rw [dat_size]; kernel_rfl) ?_; simp only [Act.put, List.setIfInBounds_toArray, List.set_cons_zero, List.set_cons_succ])
      | (refine wpQuiet_load rfl 49 (.tmp 10) rfl w.heap.size rfl _ _ _ _ (fun _ ⟨e, he⟩ => by rw [he]; exact hH.plus e) Tryd.underlying49 rfl (by rw [headC_size]; kernel_rfl) ?_; simp only [Act.put, List.setIfInBounds_toArray, List.set_cons_zero, List.set_cons_succ])
      | (refine wpQuiet_load rfl 51 (.tmp 16) rfl w5.heap.size rfl _ _ _ _ (fun _ ⟨e, he⟩ => by rw [he]; exact hS.plus e) Tryd.underlying51 rfl (by rw [sigC_size]; kernel_rfl) ?_; simp only [Act.put, List.setIfInBounds_toArray, List.set_cons_zero, List.set_cons_succ])
      | (refine wpQuiet_load rfl 51 (.tmp 11) rfl (w.heap.size + 1) rfl _ _ _ _ (fun _ ⟨e, he⟩ => by rw [he]; exact hX.plus e) Tryd.underlying51 rfl (by rw [sigC_size]; kernel_rfl) ?_; simp only [Act.put, List.setIfInBounds_toArray, List.set_cons_zero, List.set_cons_succ])
      | go_big_quiet_step (fail)); refine wpQuiet_nil ?_)
    refine mix_only rfl (fun K hK => ?_)
    go_wp2_with fail
    refine (holds_any key Hkl.out hs Hsok.out tag Htl.out W5 (HG.out.next hbel)).mono ?_
    rintro e W6 ⟨rfl, hb1⟩
    go_wp2_with fail
    refine hK _ _ hb1 ?_
    clear hK K
    replace hH := hH.below hb1 hH.lt
    replace hX := hX.below hb1 hX.lt
    replace hK0 := hK0.below hb1 hK0.lt
    replace hS := hS.below hb1 hS.lt
    replace hq := hq.next hb1
    replace hR := hR.next hb1
    replace hT := hT.nxt hb1
    replace hbel := hbel.trans (hb1.mono hbel.size)
    obtain ⟨q, hQ⟩ : ∃ q, decide (tagL key hs = tag) = q := ⟨_, rfl⟩
    rw [hQ]
    have HQ := Lib.hid hQ
    clear hQ
    clear hb1
    refine mix_only rfl (fun K hK => ?_)
    go_wp2_with fail
    refine (rholds_any _ key Hkl.out hs Hsok.out tag Htl.out W6 hT).mono ?_
    rintro e W7 ⟨rfl, hb1⟩
    go_wp2_with fail
    refine hK _ _ hb1 ?_
    clear hK K
    replace hH := hH.below hb1 hH.lt
    replace hX := hX.below hb1 hX.lt
    replace hK0 := hK0.below hb1 hK0.lt
    replace hS := hS.below hb1 hS.lt
    replace hq := hq.next hb1
    replace hR := hR.next hb1
    replace hT := hT.nxt hb1
    replace hbel := hbel.trans (hb1.mono hbel.size)
    try rw [HQ.out]
    clear hb1
    iterate 1 (refine mix_plain rfl ?_; go_big_quiet_step (fail); refine wpQuiet_nil ?_)
    try simp only [beq_self_eq_true]
    iterate 4 (refine mix_plain rfl ?_; go_big_quiet_step (fail); refine wpQuiet_nil ?_)
    refine mix_only rfl (fun K hK => ?_)
    go_wp2_with fail
    refine (intact_any _ _ sd 165 W7 hR hq (by omega)).mono ?_
    rintro e W8 ⟨rfl, hb1⟩
    go_wp2_with fail
    refine hK _ _ hb1 ?_
    clear hK K
    replace hH := hH.below hb1 hH.lt
    replace hX := hX.below hb1 hX.lt
    replace hK0 := hK0.below hb1 hK0.lt
    replace hS := hS.below hb1 hS.lt
    replace hq := hq.next hb1
    replace hR := hR.next hb1
    replace hT := hT.nxt hb1
    replace hbel := hbel.trans (hb1.mono hbel.size)
    clear hb1
    iterate 2 (refine mix_plain rfl ?_; go_big_quiet_step (fail); refine wpQuiet_nil ?_)
    refine mix_only rfl (fun K hK => ?_)
    go_wp2_with fail
    refine (known11_any W8 (HG.out.next hbel)).mono ?_
    rintro e W9 ⟨rfl, hb1⟩
    go_wp2_with fail
    refine hK _ _ hb1 ?_
    clear hK K
    replace hH := hH.below hb1 hH.lt
    replace hX := hX.below hb1 hX.lt
    replace hK0 := hK0.below hb1 hK0.lt
    replace hS := hS.below hb1 hS.lt
    replace hq := hq.next hb1
    replace hR := hR.next hb1
    replace hT := hT.nxt hb1
    replace hbel := hbel.trans (hb1.mono hbel.size)
    clear hb1
    iterate 2 (refine mix_plain rfl ?_; go_big_quiet_step (fail); refine wpQuiet_nil ?_)
    refine mix_done ?_
    go_wp2_with fail
    go_ret
    exact ⟨rfl, hbel⟩
end Go.Proofs.YtbhmmoecoijojaaDoor
