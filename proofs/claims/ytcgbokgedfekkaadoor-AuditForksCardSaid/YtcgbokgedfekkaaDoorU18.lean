/- Texts that stand behind one another: AudG. No condition. -/
import Derived.Test.YtcgbokgedfekkaaDoorU17
import Derived.Test.YtcgbokgedfekkaaDoorU16
/- The walk of law24's signed. No condition. -/
namespace Go.Proofs.YtcgbokgedfekkaaDoor
open Go Go.RowKit
attribute [local irreducible] mixW
attribute [local go_sem] n8_lo n8_hi n64_lo n64_hi n32_lo n32_hi
theorem range_blk24 {W : World} {b : Nat} {t : TypeId} {cs : Array Value} (h : Blk W b t cs) : W.rangeAt b 0 cs.toList := fun j v hj => by
  rw [Nat.zero_add, h.cell, ← hj]; simp
/-- a head that is signed -/
def tag24 (h : HeadL) (draw : UInt32) : List UInt8 := tagL (keyL' seed24 h.tree h.epoch draw) h
set_option maxHeartbeats 4000000 in
set_option maxRecDepth 100000 in
theorem signed24_any (h : HeadL) (hok : h.ok) (draw : UInt32) (w : World) :
    Calls Tryd.prog 46 #[.agg (headC h), .int .u32 (n32 draw)] w fun e w' => e = .returned (.agg (sigC h (tag24 h draw))) ∧ Below w.heap.size w w' := by
  have hzv := zero_sig
  go_enter Tryd.func46, Tryd.ntmps46
  go_upto_region 1 with fail
  clear hzv
  refine wp_at (fun W => Blk W w.heap.size 64 (headC h) ∧ Blk W (w.heap.size + 1) 66 (sigC zeroHead []) ∧ Below w.heap.size w W)
    ⟨(Blk.new w _ _).alloc _, Blk.new2 _ _ _ _, ((Below.refl _ _).alloc (Nat.le_refl _) _).alloc (by simp) _⟩ ?_
  rintro W1 h1
  have H1 := Lib.hid h1
  clear h1
  go_wp2_with fail
  refine (new_at W1).mono ?_
  rintro e W2 ⟨rfl, hT, hb2⟩
  have hTb : Tbl W2 W2.heap.size (.pointer (some ⟨W1.heap.size, 0, none⟩)) := ⟨_, rfl, hT.lt, hT⟩
  have H2 := Lib.hid (And.intro (H1.out.1.below hb2 H1.out.1.lt) (And.intro (H1.out.2.1.below hb2 H1.out.2.1.lt) (And.intro (H1.out.2.2.trans (hb2.mono H1.out.2.2.size)) hTb)))
  clear hT hb2 hTb H1
  generalize W1.heap.size = gT at H2 ⊢
  go_upto_region 2 with fail
  refine wp_region_mixT 11 (.plain 0 <| .plain 1 <| .plain 3 <| .plain 4 <| .plain 5 <| .plain 6 <| .plain 7 <| .plain 9 <| .only 2 <| .only 8 <| .only 10 <| .done) (by kernel_rfl) (by kernel_rfl) (fun W3 hb3 => ?_)
  have H3 := Lib.hid (And.intro (H2.out.1.below hb3 H2.out.1.lt) (And.intro (H2.out.2.1.below hb3 H2.out.2.1.lt) (And.intro (H2.out.2.2.1.trans (hb3.mono H2.out.2.2.1.size)) (H2.out.2.2.2.nxt hb3))))
  have d0 : ∀ z, (plus W3 z).cell? ⟨w.heap.size, 0, none⟩ = some (.int .i64 h.tree) := fun z => by rw [(H3.out.1.plus z).cell, headC_0]
  have d1 : ∀ z, (plus W3 z).cell? ⟨w.heap.size, 1, none⟩ = some (.int .i64 h.epoch) := fun z => by rw [(H3.out.1.plus z).cell, headC_1]
  have HR := Lib.hid (show ∀ z, (plus W3 z).rangeAt w.heap.size 0 (headC h).toList from fun z => range_blk24 (H3.out.1.plus z))
  clear hb3 H2
  iterate 8 (refine mix_plain rfl ?_; (first
    | (refine wpQuiet_loadMid rfl 64 (.tmp 2) rfl w.heap.size 0 rfl (headC h) _ (fun _ ⟨e, he⟩ => by rw [he]; exact HR.out e) Tryd.underlying64 rfl (by rw [headC_size]; kernel_rfl) ?_; simp only [Act.put, List.setIfInBounds_toArray, List.set_cons_zero, List.set_cons_succ])
    | go_big_quiet_step (fail)); refine wpQuiet_nil ?_)
  clear d0 d1 HR
  refine mix_only_in rfl (fun K hK => ?_)
  go_wp2_with fail
  refine (seed24_any W3).mono ?_
  rintro e W4 ⟨sv, rfl, hs, hb4⟩
  go_wp2_with fail
  refine hK _ _ (below_plus hb4) ?_
  clear hK K
  refine mix_only_in rfl (fun K hK => ?_)
  go_wp2_with fail
  refine (rkey_any (.pointer (some ⟨gT, 0, none⟩)) sv seed24 h.tree h.epoch draw W4 (H3.out.2.2.2.nxt hb4) hs (by decide) hok.2.1 hok.2.2).mono ?_
  rintro e W5 ⟨rfl, hb5⟩
  have hkl : (keyL' seed24 h.tree h.epoch draw).length = 32 := mac_length _ _
  have hb45 := hb4.trans (hb5.mono hb4.size)
  go_wp2_with fail
  refine hK _ _ (below_plus hb45) ?_
  clear hK K
  refine mix_only_in rfl (fun K hK => ?_)
  go_wp2_with fail
  refine (rsign_any (.pointer (some ⟨gT, 0, none⟩)) (keyL' seed24 h.tree h.epoch draw) hkl h hok W5 (H3.out.2.2.2.nxt hb45)).mono ?_
  rintro e W6 ⟨rfl, hb6⟩
  have hb46 := hb45.trans (hb6.mono hb45.size)
  go_wp2_with fail
  refine hK _ _ (below_plus hb46) ?_
  clear hK K hs
  refine mix_done ?_
  simp only [List.drop_succ_cons, List.drop_zero]
  have hS6 := H3.out.2.1.below hb46 H3.out.2.1.lt
  go_wp2_with (first
    | (refine wpList_storeB rfl rfl 66 (.tmp 4) (.tmp 17) rfl (w.heap.size + 1) 0 rfl (sigC h (tagL (keyL' seed24 h.tree h.epoch draw) h)) rfl _ _ hS6 (by rw [sigC_size]; kernel_rfl) (by rw [sigC_size, sigC_size]; omega) (sigC_one _ _) ?_; intro W7 hS7 hg7))
  rw [copied_all _ _ (by rw [sigC_size, sigC_size])] at hS7
  have hb := below_only (H3.out.2.2.1.trans (hb46.mono H3.out.2.2.1.size)) hg7 (by omega) (Nat.le_trans H3.out.2.2.1.size hb46.size)
  exact bodyPost_ret (results_cell_row (p := 4) (ty := 66) rfl _ _ (w.heap.size + 1) _ _ _ _ rfl hS7 Tryd.underlying66 rfl (by rw [sigC_size]; kernel_rfl)) rfl ⟨rfl, hb⟩
end Go.Proofs.YtcgbokgedfekkaaDoor
