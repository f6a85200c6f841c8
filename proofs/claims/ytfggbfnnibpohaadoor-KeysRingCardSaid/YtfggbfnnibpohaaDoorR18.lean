/- Texts that stand behind one another: KrC. No condition. -/
import Derived.Test.YtfggbfnnibpohaaDoorR17
import Derived.Test.YtfggbfnnibpohaaDoorR13
/- The walk of law11's holds. No condition. -/
namespace Go.Proofs.YtfggbfnnibpohaaDoor
open Go Go.RowKit
attribute [local irreducible] mixW
attribute [local go_sem] n8_lo n8_hi n64_lo n64_hi n32_lo n32_hi
set_option maxHeartbeats 4000000 in
set_option maxRecDepth 100000 in
theorem holds_in (tv u : Value) (seed : List UInt8) (h : HeadL) (tag : List UInt8) (t k B gd : Nat) (rows : List Value) (ds : Nat → List UInt32) (w : World) (hT : Tbl w w.heap.size tv) (hu : BSl w w.heap.size u seed) (hl : seed.length ≤ 140737488355128)
    (hD : Drw w B gd rows ds) (ht : t < 16) (hk : k < (ds t).length) (hk2 : (ds t).length ≤ 32) (htr : h.tree = (t : Int)) (hep : h.epoch = (k : Int)) (hok : h.ok) (htl : tag.length = 32) :
    Calls Tryd.prog 20 #[tv, u, .slice (some ⟨gd, 0, none⟩) 16 16, .agg (sigC h tag)] w fun e w' => e = .returned (.bool (decide (tagL (keyL' seed t k ((ds t).getD k 0)) h = tag))) ∧ Below w.heap.size w w' := by
  have hk32 : k < 32 := by omega
  obtain ⟨d, hd⟩ : ∃ d, (ds t).getD k 0 = d := ⟨_, rfl⟩
  rw [hd]
  have Hdd := Lib.hid hd
  clear hd
  have H0 := Lib.hid (And.intro hT (And.intro hu (And.intro hD (And.intro hok (And.intro htr hep)))))
  have Htl := Lib.hid htl
  clear hT hu hD hok htr hep htl
  go_enter Tryd.func20, Tryd.ntmps20
  go_upto_region 1 with fail
  refine wp_at (fun W => Blk W w.heap.size 45 (sigC h tag) ∧ Below w.heap.size w W) ⟨Blk.new w _ _, below_new1 w _⟩ ?_
  rintro W ⟨hS, hbel⟩
  have c0 : W.cell? ⟨w.heap.size, 0, none⟩ = some (.int .i64 (t : Int)) := by rw [hS.cell, sigC_0, H0.out.2.2.2.2.1]
  have c1 : W.cell? ⟨w.heap.size, 1, none⟩ = some (.int .i64 (k : Int)) := by rw [hS.cell, sigC_1, H0.out.2.2.2.2.2]
  have HW := Lib.hid (And.intro hS hbel)
  clear hS hbel
  go_upto_region 3 with fail
  clear c0 c1
  refine wp_region_mixP (.plain 0 <| .plain 1 <| .plain 2 <| .plain 3 <| .plain 4 <| .plain 5 <| .plain 6 <| .plain 7 <| .plain 8 <| .plain 9 <| .plain 10 <| .plain 11 <| .plain 12 <| .plain 13 <| .plain 14 <| .plain 15 <| .plain 16 <| .plain 17 <| .plain 18 <| .plain 19 <| .plain 20 <| .plain 21 <| .plain 22 <| .plain 23 <| .plain 24 <| .plain 25 <| .plain 26 <| .plain 27 <| .plain 28 <| .plain 29 <| .plain 30 <| .plain 31 <| .plain 32 <| .plain 33 <| .plain 35 <| .only 34 <| .only 36 <| .plain 37 <| .plain 38 <| .done) (by kernel_rfl) (by kernel_rfl) (fun W1 hb1 => ?_)
  have hbw : Below w.heap.size w W1 := HW.out.2.trans (hb1.mono HW.out.2.size)
  have hS1 := HW.out.1.below hb1 HW.out.1.lt
  have hD1 := H0.out.2.2.1.below hbw
  obtain ⟨Ar, cr, er⟩ := hD1.rowLen t ht
  have hown := hD1.own t ht
  rw [er] at hown
  obtain ⟨rb, ro, rfl, hrb, hcell⟩ := (Reads.of_own hown) (by rw [List.length_map]; omega)
  have hv := hcell k (.int .u32 (n32 d)) (by rw [List.getElem?_map, List.getElem?_eq_getElem hk, ← Hdd.out, List.getD_eq_getElem?_getD, List.getElem?_eq_getElem hk]; rfl)
  have hrow : W1.cell? ⟨gd, t, none⟩ = some (.slice (some ⟨rb, ro, none⟩) (ds t).length cr) := by rw [hD1.row t ht, er]
  have d0 : ∀ z, (plus W1 z).cell? ⟨gd, t, none⟩ = some (.slice (some ⟨rb, ro, none⟩) (ds t).length cr) := fun z => by rw [plus_cell _ _ _ hD1.blk.lt]; exact hrow
  have d1 : ∀ z, (plus W1 z).cell? ⟨rb, ro + k, none⟩ = some (.int .u32 (n32 d)) := fun z => by rw [plus_cell _ _ _ hrb]; exact hv
  have hrg : ∀ z, (plus W1 z).rangeAt w.heap.size 0 (sigC h tag).toList := fun z j v hj => by
    rw [plus_cell _ _ _ hS1.lt, hS1.cell, Nat.zero_add, ← hj]; simp
  have HR := Lib.hid hrg
  have ht' : (t : Int) < 16 := by omega
  obtain ⟨n, hn⟩ : ∃ n, (ds t).length = n := ⟨_, rfl⟩
  rw [hn] at d0 hk
  have hk' : (k : Int) < (n : Int) := by omega
  have hsz1 := hb1.size
  clear hown hcell hv hrow er hn hrg
  iterate 35 (refine mix_plain rfl ?_; (first
    | (refine wpQuiet_loadMid rfl 45 (.tmp 7) rfl w.heap.size 0 rfl (sigC h tag) _ (fun _ ⟨e, he⟩ => by rw [he]; exact HR.out e) Tryd.underlying45 rfl (by rw [sigC_size]; kernel_rfl) ?_; simp only [Act.put, List.setIfInBounds_toArray, List.set_cons_zero, List.set_cons_succ])
    | go_big_quiet_step (fail)); refine wpQuiet_nil ?_)
  clear d0 d1
  refine mix_only rfl (fun K hK => ?_)
  go_wp2_with fail
  refine (rkey_any tv u seed (t : Int) (k : Int) d W1 (H0.out.1.nxt hbw) (H0.out.2.1.next hbw) hl (by omega) (by omega)).mono ?_
  rintro e W2 ⟨rfl, hb2⟩
  have hkl : (keyL' seed (t : Int) (k : Int) d).length = 32 := mac_length _ _
  go_wp2_with fail
  refine hK _ _ hb2 ?_
  clear hK K
  refine mix_only rfl (fun K hK => ?_)
  go_wp2_with fail
  refine (rholds_any tv (keyL' seed (t : Int) (k : Int) d) hkl h H0.out.2.2.2.1 tag Htl.out W2 ((H0.out.1.nxt hbw).nxt hb2)).mono ?_
  rintro e W3 ⟨rfl, hb3⟩
  obtain ⟨b, hb⟩ : ∃ b, decide (tagL (keyL' seed (t : Int) (k : Int) d) h = tag) = b := ⟨_, rfl⟩
  have HBb := Lib.hid hb
  rw [hb]
  clear hb
  go_wp2_with fail
  refine hK _ _ hb3 ?_
  clear hK K
  iterate 2 (refine mix_plain rfl ?_; go_big_quiet_step (fail); refine wpQuiet_nil ?_)
  refine mix_done ?_
  go_wp2_with fail
  go_ret
  exact ⟨by rw [HBb.out]; rfl, hbw.trans ((hb2.trans (hb3.mono hb2.size)).mono hbw.size)⟩
set_option maxHeartbeats 4000000 in
set_option maxRecDepth 100000 in
theorem holds_out (tv u : Value) (h : HeadL) (tag : List UInt8) (t k B gd : Nat) (rows : List Value) (ds : Nat → List UInt32) (w : World)
    (hD : Drw w B gd rows ds) (ht : t < 16) (hk : (ds t).length ≤ k) (_hk2 : k ≤ 9223372036854775807) (htr : h.tree = (t : Int)) (hep : h.epoch = (k : Int)) :
    Calls Tryd.prog 20 #[tv, u, .slice (some ⟨gd, 0, none⟩) 16 16, .agg (sigC h tag)] w fun e w' => e = .returned (.bool false) ∧ Below w.heap.size w w' := by
  have H0 := Lib.hid (And.intro hD (And.intro htr hep))
  clear hD htr hep
  go_enter Tryd.func20, Tryd.ntmps20
  go_upto_region 1 with fail
  refine wp_at (fun W => Blk W w.heap.size 45 (sigC h tag) ∧ Below w.heap.size w W) ⟨Blk.new w _ _, below_new1 w _⟩ ?_
  rintro W ⟨hS, hbel⟩
  have c0 : W.cell? ⟨w.heap.size, 0, none⟩ = some (.int .i64 (t : Int)) := by rw [hS.cell, sigC_0, H0.out.2.1]
  have c1 : W.cell? ⟨w.heap.size, 1, none⟩ = some (.int .i64 (k : Int)) := by rw [hS.cell, sigC_1, H0.out.2.2]
  have HW := Lib.hid (And.intro hS hbel)
  clear hS hbel
  go_upto_region 3 with fail
  clear c0 c1
  refine wp_region_mixP (.plain 0 <| .plain 1 <| .plain 2 <| .plain 3 <| .plain 4 <| .plain 5 <| .plain 6 <| .plain 7 <| .plain 8 <| .plain 9 <| .plain 10 <| .plain 11 <| .plain 12 <| .plain 13 <| .plain 14 <| .plain 15 <| .plain 16 <| .plain 17 <| .plain 18 <| .plain 19 <| .plain 20 <| .plain 21 <| .plain 22 <| .plain 23 <| .plain 24 <| .plain 25 <| .plain 26 <| .plain 27 <| .plain 28 <| .plain 29 <| .plain 30 <| .plain 31 <| .plain 32 <| .plain 33 <| .plain 35 <| .only 34 <| .only 36 <| .plain 37 <| .plain 38 <| .done) (by kernel_rfl) (by kernel_rfl) (fun W1 hb1 => ?_)
  have hbw : Below w.heap.size w W1 := HW.out.2.trans (hb1.mono HW.out.2.size)
  have hD1 := H0.out.1.below hbw
  obtain ⟨Ar, cr, er⟩ := hD1.rowLen t ht
  have hrow : W1.cell? ⟨gd, t, none⟩ = some (.slice Ar (ds t).length cr) := by rw [hD1.row t ht, er]
  have d0 : ∀ z, (plus W1 z).cell? ⟨gd, t, none⟩ = some (.slice Ar (ds t).length cr) := fun z => by rw [plus_cell _ _ _ hD1.blk.lt]; exact hrow
  have ht' : (t : Int) < 16 := by omega
  obtain ⟨n, hn⟩ : ∃ n, (ds t).length = n := ⟨_, rfl⟩
  rw [hn] at d0 hk
  have hk' : (n : Int) ≤ (k : Int) := by omega
  have hk3 : decide (k < n) = false := decide_eq_false (by omega)
  clear hrow er hn
  iterate 22 (refine mix_plain rfl ?_; go_big_quiet_step (fail); refine wpQuiet_nil ?_)
  clear d0
  iterate 13 (refine mix_skip rfl rfl ?_; simp only [Act.put, List.setIfInBounds_toArray, List.set_cons_zero, List.set_cons_succ])
  refine mix_only rfl (fun K hK => ?_)
  go_wp2_with fail
  refine hK _ _ (Below.refl _ _) ?_
  clear hK K
  refine mix_only rfl (fun K hK => ?_)
  go_wp2_with fail
  refine hK _ _ (Below.refl _ _) ?_
  clear hK K
  iterate 2 (refine mix_plain rfl ?_; go_big_quiet_step (fail); refine wpQuiet_nil ?_)
  refine mix_done ?_
  go_wp2_with fail
  go_ret
  exact ⟨rfl, hbw⟩
end Go.Proofs.YtfggbfnnibpohaaDoor
