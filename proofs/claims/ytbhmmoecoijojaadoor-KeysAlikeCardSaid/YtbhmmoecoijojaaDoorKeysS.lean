/- The walks of keys' Sign and Holds. No condition. -/
import Derived.Test.YtbhmmoecoijojaaDoorKeysE
namespace Go.Proofs.YtbhmmoecoijojaaDoor
open Go.RowKit
attribute [local go_sem] n8_lo n8_hi n64_lo n64_hi
def zeroHead : HeadL := ⟨0, 0, 0, 0, []⟩
theorem sigC_size (h : HeadL) (t : List UInt8) : (sigC h t).size = 68 := by simp [sigC, headC_size, dat_size]
theorem zero_sig (w : World) : (zeroValue 51).run Tryd.prog w = .ok (.agg (sigC zeroHead [])) w := by kernel_rfl
theorem headC_one (h : HeadL) : ∀ v ∈ (headC h).toList, v.oneCell' = true := by
  intro v hv
  unfold headC at hv
  rw [Array.toList_append, List.mem_append] at hv
  rcases hv with hv | hv
  · simp at hv
    rcases hv with rfl | rfl | rfl | rfl <;> rfl
  · exact arr_one _ _ v hv
theorem sigC_one (h : HeadL) (t : List UInt8) : ∀ v ∈ (sigC h t).toList, v.oneCell' = true := by
  intro v hv
  unfold sigC at hv
  rw [Array.toList_append, List.mem_append] at hv
  rcases hv with hv | hv
  · exact headC_one h v hv
  · exact arr_one _ _ v hv
/-- a tag of the document -/
def tagL (key : List UInt8) (h : HeadL) : List UInt8 := mac key (headB h)
theorem tagL_length (key : List UInt8) (h : HeadL) : (tagL key h).length = 32 := mac_length _ _
set_option maxHeartbeats 200000 in
set_option maxRecDepth 100000 in
theorem sign_any (key : List UInt8) (hkl : key.length = 32) (h : HeadL) (hok : h.ok) (w : World) (hG : Glob w) :
    Calls Tryd.prog 32 #[.agg (dat key), .agg (headC h)] w fun e w' => e = .returned (.agg (sigC h (tagL key h))) ∧ Below w.heap.size w w' := by
  have Hk := Lib.hid hkl
  clear hkl
  have Hb57 := Lib.hid (headB_length h hok.1)
  have hzv := zero_sig
  go_enter Tryd.func32, Tryd.ntmps32
  go_wp2
  clear hzv
  refine wp_at (fun W => Blk W w.heap.size 27 (dat key) ∧ Blk W (w.heap.size + 1) 49 (headC h) ∧ Blk W (w.heap.size + 2) 51 (sigC zeroHead []) ∧ Below w.heap.size w W)
    ⟨((Blk.new w _ _).alloc _).alloc _, (Blk.new2 _ _ _ _).alloc _, Blk.new3 _ _ _ _ _, below_new3 _ _ _ _⟩ ?_
  rintro W ⟨hK, hH, hS, hbel⟩
  refine wp_region_mixT 6 (.plain 0 <| .plain 1 <| .plain 2 <| .only 3 <| .only 4 <| .plain 5 <| .done) (by kernel_rfl) (by kernel_rfl) (fun W1 hb1 => ?_)
  have hK1 := hK.below hb1 hK.lt
  have hH1 := hH.below hb1 hH.lt
  have hS1 := hS.below hb1 hS.lt
  have hbel1 := hbel.trans (hb1.mono hbel.size)
  clear hK hH hS hbel hb1
  repeat (refine mix_plain rfl ?_; (first
    | (refine wpQuiet_load rfl 49 (.tmp 3) rfl (w.heap.size + 1) rfl _ _ _ _ (fun _ ⟨e, he⟩ => by rw [he]; exact hH1.plus e) Tryd.underlying49 rfl (by rw [headC_size]; kernel_rfl) ?_; simp only [Act.put, List.setIfInBounds_toArray, List.set_cons_zero, List.set_cons_succ])
    | go_big_quiet_step (fail)); refine wpQuiet_nil ?_)
  refine mix_only rfl (fun K hK => ?_)
  go_wp2_with fail
  refine (bytes_any h hok W1).mono ?_
  rintro e W2 ⟨v2, rfl, hv2, hb2⟩
  go_wp2_with fail
  refine hK _ _ hb2 ?_
  clear hK K
  have hK2 := hK1.below hb2 hK1.lt
  have hS2 := hS1.below hb2 hS1.lt
  have hbel2 := hbel1.trans (hb2.mono hbel1.size)
  clear hK1 hH1 hS1 hbel1 hb2
  refine mix_only rfl (fun K hK => ?_)
  go_wp2_with fail
  refine (mac_any _ v2 key (headB h) W2 (BSl.of_dat hK2 _ hK2.lt Hk.out) hv2 (by rw [Hk.out]; decide) (by rw [Hb57.out]; decide) (hG.next hbel2)).mono ?_
  rintro e W3 ⟨rfl, hb3⟩
  go_wp2_with fail
  refine hK _ _ hb3 ?_
  clear hK K
  have hS3 := hS2.below hb3 hS2.lt
  have hbel3 := hbel2.trans (hb3.mono hbel2.size)
  clear hK2 hS2 hbel2 hb3 hv2
  refine mix_plain rfl ?_
  refine wpQuiet_build2 rfl 51 (.tmp 5) (.tmp 9) rfl _ _ rfl rfl (sigC h (mac key (headB h))) (built_sig h (mac key (headB h))) ?_
  simp only [Act.put, List.setIfInBounds_toArray, List.set_cons_zero, List.set_cons_succ]
  refine wpQuiet_nil ?_
  refine mix_done ?_
  simp only [List.drop_succ_cons, List.drop_zero]
  refine wpList_storeB rfl rfl 51 (.tmp 4) (.tmp 10) rfl (w.heap.size + 2) 0 rfl (sigC h (mac key (headB h))) rfl _ _ hS3 (by rw [sigC_size]; kernel_rfl) (by rw [sigC_size, sigC_size]; omega) (sigC_one _ _) ?_
  intro W4 hS4 hon4
  rw [copied_all _ _ (by rw [sigC_size, sigC_size])] at hS4
  have hb4 := below_only hbel3 hon4 (by omega) hbel3.size
  go_wp2
  exact bodyPost_ret (results_cell_row (p := 4) (ty := 51) rfl _ _ (w.heap.size + 2) _ _ _ _ rfl hS4 Tryd.underlying51 rfl (by rw [sigC_size]; kernel_rfl)) rfl ⟨rfl, hb4⟩
set_option maxHeartbeats 400000 in
set_option maxRecDepth 100000 in
theorem holds_any (key : List UInt8) (hkl : key.length = 32) (h : HeadL) (hok : h.ok) (tag : List UInt8) (htl : tag.length = 32) (w : World) (hG : Glob w) :
    Calls Tryd.prog 37 #[.agg (dat key), .agg (sigC h tag)] w fun e w' => e = .returned (.bool (decide (tagL key h = tag))) ∧ Below w.heap.size w w' := by
  have Hk := Lib.hid hkl
  have Ht := Lib.hid htl
  have Hr := Lib.hid hok.1
  obtain ⟨d, hd⟩ : ∃ d, decide (tagL key h = tag) = d := ⟨_, rfl⟩
  have Hd := Lib.hid (show (headEq h h && decide (tagL key h = tag)) = d by rw [headEq_self, Bool.true_and, hd])
  rw [hd]
  clear hkl htl hd
  go_enter Tryd.func37, Tryd.ntmps37
  go_wp2
  refine wp_at (fun W => Blk W w.heap.size 27 (dat key) ∧ Blk W (w.heap.size + 1) 51 (sigC h tag) ∧ Below w.heap.size w W)
    ⟨(Blk.new w _ _).alloc _, Blk.new2 _ _ _ _, ((Below.refl _ _).alloc (Nat.le_refl _) _).alloc (by simp) _⟩ ?_
  rintro W ⟨hK, hS, hbel⟩
  refine wp_region_mixP (.plain 0 <| .plain 1 <| .plain 2 <| .plain 4 <| .only 3 <| .plain 5 <| .plain 6 <| .done) (by kernel_rfl) (by kernel_rfl) (fun W1 hb1 => ?_)
  have hK1 := hK.below hb1 hK.lt
  have hS1 := hS.below hb1 hS.lt
  have hbel1 := hbel.trans (hb1.mono hbel.size)
  clear hK hS hbel hb1
  repeat (refine mix_plain rfl ?_; (first
    | (refine wpQuiet_load rfl 27 (.tmp 2) rfl w.heap.size rfl _ _ _ _ (fun _ ⟨e, he⟩ => by rw [he]; exact hK1.plus e) Tryd.underlying27 rfl (by rw [dat_size]; kernel_rfl) ?_; simp only [Act.put, List.setIfInBounds_toArray, List.set_cons_zero, List.set_cons_succ])
    | (refine wpQuiet_loadMid rfl 49 (.tmp 6) rfl (w.heap.size + 1) 0 rfl (headC h) _ (fun _ ⟨e, he⟩ => by rw [he]; exact sig_head_range (hS1.plus e)) Tryd.underlying49 rfl (by rw [headC_size]; kernel_rfl) ?_; simp only [Act.put, List.setIfInBounds_toArray, List.set_cons_zero, List.set_cons_succ])
    | (refine wpQuiet_load rfl 51 (.tmp 3) rfl (w.heap.size + 1) rfl _ _ _ _ (fun _ ⟨e, he⟩ => by rw [he]; exact hS1.plus e) Tryd.underlying51 rfl (by rw [sigC_size]; kernel_rfl) ?_; simp only [Act.put, List.setIfInBounds_toArray, List.set_cons_zero, List.set_cons_succ])
    | go_big_quiet_step (fail)); refine wpQuiet_nil ?_)
  refine mix_only rfl (fun K hK => ?_)
  go_wp2_with fail
  refine (sign_any key Hk.out h hok W1 (hG.next hbel1)).mono ?_
  rintro e W2 ⟨rfl, hb2⟩
  go_wp2_with fail
  refine hK _ _ hb2 ?_
  clear hK K
  have hbel2 := hbel1.trans (hb2.mono hbel1.size)
  refine mix_plain rfl ?_
  refine wpQuiet_eqS rfl (.tmp 8) (.tmp 9) _ rfl h h (tagL key h) tag rfl rfl Hr.out Hr.out (tagL_length _ _) Ht.out d Hd.out ?_
  simp only [Act.put, List.setIfInBounds_toArray, List.set_cons_zero, List.set_cons_succ]
  refine wpQuiet_nil ?_
  repeat (refine mix_plain rfl ?_; go_big_quiet_step (fail); refine wpQuiet_nil ?_)
  refine mix_done ?_
  go_wp2
  go_ret
  exact ⟨rfl, hbel2⟩
end Go.Proofs.YtbhmmoecoijojaaDoor
