/- Texts that stand behind one another: AudE. No condition. -/
import Derived.Test.YtcgbokgedfekkaaDoorU18
import Derived.Test.YtcgbokgedfekkaaDoorU15
/- The walks of audit's See: no such tree, no such tag, the first head. No condition but the words of SHA-256. -/
namespace Go.Proofs.YtcgbokgedfekkaaDoor
open Go Go.RowKit
attribute [local irreducible] mixW
attribute [local go_sem] n8_lo n8_hi n64_lo n64_hi n32_lo n32_hi
theorem zero_head24 (w : World) : (zeroValue 64).run Tryd.prog w = .ok (.agg (headC zeroHead)) w := by kernel_rfl
theorem built_aud (a b : Int) (w : World) : (Instr.build 183 #[(0, .int .i64 a), (1, .int .i64 b)]).run Tryd.prog w = .ok (.agg #[.int .i64 a, .int .i64 b]) w := by kernel_rfl
/-- what a Watch's cells lead to -/
theorem Wch.facts {w : World} {B g m : Nat} {o : Option (HeadL × List UInt8)} (h : Wch w B g m o) : ∃ As cs bd od cd br or_ cr, Blk w g 180 #[.int .i64 32, .slice As 4 cs, .slice (some ⟨bd, od, none⟩) 1 cd, .map (some m)] ∧ w.cell? ⟨bd, od, none⟩ = some (.slice (some ⟨br, or_, none⟩) 1 cr) ∧ w.cell? ⟨br, or_, none⟩ = some (.int .u32 5) ∧ bd < w.heap.size ∧ br < w.heap.size ∧ BSl w w.heap.size (.slice As 4 cs) seed24 := by
  obtain ⟨sv, dv, rv, h1, h2, h3, h4, h5, h6, h7⟩ := h
  have hb := BSl.of_own h3
  obtain ⟨As, cs, rfl⟩ := own_slice h3
  obtain ⟨Ad, cd, rfl⟩ := own_slice h4
  obtain ⟨Ar, cr, rfl⟩ := own_slice h5
  obtain ⟨bd, od, rfl, hbd, hcd⟩ := (Reads.of_own h4) (by simp)
  obtain ⟨br, or_, rfl, hbr, hcr⟩ := (Reads.of_own h5) (by simp)
  exact ⟨As, cs, bd, od, cd, br, or_, cr, h2, hcd 0 _ rfl, hcr 0 _ rfl, hbd, hbr, hb⟩
set_option maxHeartbeats 4000000 in
set_option maxRecDepth 100000 in
/-- a head of no tree -/
theorem see_arg (h : HeadL) (t : Nat) (ht : 0 < t) (ht2 : t ≤ 9223372036854775807) (htr : h.tree = (t : Int)) (e0 : Int) (hep : h.epoch = e0) (tag : List UInt8) (path : Value) (B g m : Nat) (o : Option (HeadL × List UInt8)) (w : World) (hW : Wch w B g m o) :
    Calls Tryd.prog 45 #[.pointer (some ⟨g, 0, none⟩), .agg (sigC h tag), path] w fun e w' => ∃ r, e = .returned (.iface 181 (.pointer (some ⟨r, 0, none⟩))) ∧ Blk w' r 183 #[.int .i64 (t : Int), .int .i64 ((1 : Nat) : Int)] ∧ Wch w' B g m o ∧ Below w.heap.size w w' := by
  have hbu := built_aud
  have c1 : (1 : Int) ≤ (t : Int) := by omega
  have c2 : decide ((t : Int) < 0) = false := decide_eq_false (by omega)
  have c3 : decide ((1 : Int) ≤ (t : Int)) = true := decide_eq_true (by omega)
  have hzv := zero_head24
  have hX := Blk.new w 66 (sigC h tag)
  have hn := below_new1 w (Obj.cells (sigC h tag) 66)
  have HRX := Lib.hid (sig_head_range hX)
  have hD := Blk.new (w.alloc (Obj.cells (sigC h tag) 66)) 64 (headC zeroHead)
  have hn2 := below_new1 (w.alloc (Obj.cells (sigC h tag) 66)) (Obj.cells (headC zeroHead) 64)
  have esz : (w.alloc (Obj.cells (sigC h tag) 66)).heap.size = w.heap.size + 1 := by simp
  rw [esz] at hD
  have hX2 := hX.below hn2 hX.lt
  have HP := Lib.hid (And.intro hX2 (hn.trans (hn2.mono hn.size)))
  have HW := Lib.hid hW
  clear hX hn hn2 hX2 esz hW
  go_enter Tryd.func45, Tryd.ntmps45
  go_upto_region 2 with (first
    | (refine wpList_loadMid rfl 64 (.tmp 11) rfl w.heap.size 0 rfl (headC h) _ HRX.out Tryd.underlying64 rfl (by rw [headC_size]; kernel_rfl) ?_)
    | (refine wpList_storeB rfl rfl 64 (.tmp 7) (.tmp 12) rfl (w.heap.size + 1) 0 rfl (headC h) rfl _ _ hD (by rw [headC_size]; kernel_rfl) (by rw [headC_size, headC_size]; omega) (headC_one _) ?_; intro W1 hH1 hg1))
  rw [copied_all _ _ (by rw [headC_size, headC_size])] at hH1
  have hX1 := HP.out.1.grown hg1 (fun e => by injection e with e; omega)
  have hb1 := below_only HP.out.2 hg1 (by omega) HP.out.2.size
  have H1 := Lib.hid (And.intro (HW.out.below hb1) (And.intro hX1 (And.intro hH1 hb1)))
  clear hzv HRX hD HP HW hH1 hg1 hX1 hb1
  refine wp_region_mixP (.plain 0 <| .plain 1 <| .plain 2 <| .plain 3 <| .plain 4 <| .plain 5 <| .plain 6 <| .plain 7 <| .plain 8 <| .plain 9 <| .plain 10 <| .plain 11 <| .plain 12 <| .plain 13 <| .plain 14 <| .plain 15 <| .plain 16 <| .plain 17 <| .plain 18 <| .plain 19 <| .plain 20 <| .plain 21 <| .plain 22 <| .plain 23 <| .plain 24 <| .plain 25 <| .plain 26 <| .plain 27 <| .plain 28 <| .plain 29 <| .plain 30 <| .plain 31 <| .done) (by kernel_rfl) (by kernel_rfl) (fun W2 hb2 => ?_)
  have H2 := Lib.hid (And.intro (H1.out.1.below hb2) (And.intro (H1.out.2.1.below hb2 H1.out.2.1.lt) (And.intro (H1.out.2.2.1.below hb2 H1.out.2.2.1.lt) (H1.out.2.2.2.trans (hb2.mono H1.out.2.2.2.size)))))
  clear hb2 H1
  obtain ⟨As, cs, bd, od, cd, br, or_, cr, q1, q2, q3, q4, q5, q6⟩ := H2.out.1.facts
  have HS := Lib.hid q6
  have d0 : ∀ z, (plus W2 z).cell? ⟨w.heap.size + 1, 0, none⟩ = some (.int .i64 (t : Int)) := fun z => by rw [(H2.out.2.2.1.plus z).cell, headC_0, htr]
  have d1 : ∀ z, (plus W2 z).cell? ⟨w.heap.size + 1, 1, none⟩ = some (.int .i64 e0) := fun z => by rw [(H2.out.2.2.1.plus z).cell, headC_1, hep]
  have d2 : ∀ z, (plus W2 z).cell? ⟨g, 2, none⟩ = some (.slice (some ⟨bd, od, none⟩) 1 cd) := fun z => (q1.plus z).cell 2
  have d3 : ∀ z, (plus W2 z).cell? ⟨bd, od, none⟩ = some (.slice (some ⟨br, or_, none⟩) 1 cr) := fun z => by rw [plus_cell _ _ _ q4]; exact q2
  have Q := Lib.hid (And.intro q1 (And.intro q2 (And.intro q3 (And.intro q4 q5))))
  clear q1 q2 q3 q4 q5 q6
  iterate 32 (first
    | (refine mix_skip rfl rfl ?_; simp only [Act.put, List.setIfInBounds_toArray, List.set_cons_zero, List.set_cons_succ])
    | (refine mix_plain rfl ?_; (first
      | (refine wpQuiet_nilCheck rfl (.tmp 19) rfl _ rfl ?_; simp only [Act.put, List.setIfInBounds_toArray, List.set_cons_zero, List.set_cons_succ])
      | (refine wpQuiet_nilCheck rfl (.tmp 34) rfl _ rfl ?_; simp only [Act.put, List.setIfInBounds_toArray, List.set_cons_zero, List.set_cons_succ])
      | go_big_quiet_step (fail)); refine wpQuiet_nil ?_))
  clear d0 d1 d2 d3
  refine mix_done ?_
  have c0 : W2.cell? ⟨w.heap.size + 1, 0, none⟩ = some (.int .i64 (t : Int)) := by rw [H2.out.2.2.1.cell, headC_0, htr]
  have hbu2 := fun w => hbu (t : Int) 1 w
  clear hbu
  go_wp2_with fail
  go_ret
  have hn := below_new1 W2 (Obj.cells #[.int .i64 (t : Int), .int .i64 1] 183)
  exact ⟨W2.heap.size, rfl, Blk.new W2 _ _, H2.out.1.below hn, H2.out.2.2.2.trans (hn.mono H2.out.2.2.2.size)⟩
set_option maxHeartbeats 4000000 in
set_option maxRecDepth 100000 in
/-- a head with another tag -/
theorem see_token (h : HeadL) (hok : h.ok) (htr : h.tree = 0) (hep : h.epoch = 0) (tag : List UInt8) (htl : tag.length = 32) (hne : tagL (keyL' seed24 0 0 5) h ≠ tag) (path : Value) (B g m : Nat) (o : Option (HeadL × List UInt8)) (w : World) (hG : Glob w) (hW : Wch w B g m o) :
    Calls Tryd.prog 45 #[.pointer (some ⟨g, 0, none⟩), .agg (sigC h tag), path] w fun e w' => ∃ r, e = .returned (.iface 181 (.pointer (some ⟨r, 0, none⟩))) ∧ Blk w' r 183 #[.int .i64 ((0 : Nat) : Int), .int .i64 ((20 : Nat) : Int)] ∧ Wch w' B g m o ∧ Below w.heap.size w w' := by
  have hbu := built_aud
  have hzv := zero_head24
  have hX := Blk.new w 66 (sigC h tag)
  have hn := below_new1 w (Obj.cells (sigC h tag) 66)
  have HRX := Lib.hid (sig_head_range hX)
  have hD := Blk.new (w.alloc (Obj.cells (sigC h tag) 66)) 64 (headC zeroHead)
  have hn2 := below_new1 (w.alloc (Obj.cells (sigC h tag) 66)) (Obj.cells (headC zeroHead) 64)
  have esz : (w.alloc (Obj.cells (sigC h tag) 66)).heap.size = w.heap.size + 1 := by simp
  rw [esz] at hD
  have hX2 := hX.below hn2 hX.lt
  have HP := Lib.hid (And.intro hX2 (hn.trans (hn2.mono hn.size)))
  have HW := Lib.hid hW
  clear hX hn hn2 hX2 esz hW
  go_enter Tryd.func45, Tryd.ntmps45
  go_upto_region 2 with (first
    | (refine wpList_loadMid rfl 64 (.tmp 11) rfl w.heap.size 0 rfl (headC h) _ HRX.out Tryd.underlying64 rfl (by rw [headC_size]; kernel_rfl) ?_)
    | (refine wpList_storeB rfl rfl 64 (.tmp 7) (.tmp 12) rfl (w.heap.size + 1) 0 rfl (headC h) rfl _ _ hD (by rw [headC_size]; kernel_rfl) (by rw [headC_size, headC_size]; omega) (headC_one _) ?_; intro W1 hH1 hg1))
  rw [copied_all _ _ (by rw [headC_size, headC_size])] at hH1
  have hX1 := HP.out.1.grown hg1 (fun e => by injection e with e; omega)
  have hb1 := below_only HP.out.2 hg1 (by omega) HP.out.2.size
  have H1 := Lib.hid (And.intro (HW.out.below hb1) (And.intro hX1 (And.intro hH1 hb1)))
  clear hzv HRX hD HP HW hH1 hg1 hX1 hb1
  refine wp_region_mixP (.plain 0 <| .plain 1 <| .plain 2 <| .plain 3 <| .plain 4 <| .plain 5 <| .plain 6 <| .plain 7 <| .plain 8 <| .plain 9 <| .plain 10 <| .plain 11 <| .plain 12 <| .plain 13 <| .plain 14 <| .plain 15 <| .plain 16 <| .plain 17 <| .plain 18 <| .plain 19 <| .plain 20 <| .plain 21 <| .plain 22 <| .plain 23 <| .plain 24 <| .plain 25 <| .plain 26 <| .plain 27 <| .plain 28 <| .plain 29 <| .plain 30 <| .plain 31 <| .done) (by kernel_rfl) (by kernel_rfl) (fun W2 hb2 => ?_)
  have H2 := Lib.hid (And.intro (H1.out.1.below hb2) (And.intro (H1.out.2.1.below hb2 H1.out.2.1.lt) (And.intro (H1.out.2.2.1.below hb2 H1.out.2.2.1.lt) (H1.out.2.2.2.trans (hb2.mono H1.out.2.2.2.size)))))
  clear hb2 H1
  obtain ⟨As, cs, bd, od, cd, br, or_, cr, q1, q2, q3, q4, q5, q6⟩ := H2.out.1.facts
  have HS := Lib.hid q6
  have d0 : ∀ z, (plus W2 z).cell? ⟨w.heap.size + 1, 0, none⟩ = some (.int .i64 0) := fun z => by rw [(H2.out.2.2.1.plus z).cell, headC_0, htr]
  have d1 : ∀ z, (plus W2 z).cell? ⟨w.heap.size + 1, 1, none⟩ = some (.int .i64 0) := fun z => by rw [(H2.out.2.2.1.plus z).cell, headC_1, hep]
  have d2 : ∀ z, (plus W2 z).cell? ⟨g, 2, none⟩ = some (.slice (some ⟨bd, od, none⟩) 1 cd) := fun z => (q1.plus z).cell 2
  have d3 : ∀ z, (plus W2 z).cell? ⟨bd, od, none⟩ = some (.slice (some ⟨br, or_, none⟩) 1 cr) := fun z => by rw [plus_cell _ _ _ q4]; exact q2
  have Q := Lib.hid (And.intro q1 (And.intro q2 (And.intro q3 (And.intro q4 q5))))
  clear q1 q2 q3 q4 q5 q6
  iterate 32 (first
    | (refine mix_skip rfl rfl ?_; simp only [Act.put, List.setIfInBounds_toArray, List.set_cons_zero, List.set_cons_succ])
    | (refine mix_plain rfl ?_; (first
      | (refine wpQuiet_nilCheck rfl (.tmp 19) rfl _ rfl ?_; simp only [Act.put, List.setIfInBounds_toArray, List.set_cons_zero, List.set_cons_succ])
      | (refine wpQuiet_nilCheck rfl (.tmp 34) rfl _ rfl ?_; simp only [Act.put, List.setIfInBounds_toArray, List.set_cons_zero, List.set_cons_succ])
      | go_big_quiet_step (fail)); refine wpQuiet_nil ?_))
  clear d0 d1 d2 d3
  refine mix_done ?_
  go_upto_region 4 with fail
  refine wp_region_mixP (.plain 0 <| .plain 1 <| .plain 2 <| .plain 3 <| .plain 4 <| .plain 5 <| .plain 6 <| .plain 7 <| .plain 8 <| .plain 9 <| .plain 10 <| .plain 11 <| .plain 12 <| .plain 13 <| .plain 14 <| .plain 15 <| .plain 16 <| .plain 17 <| .plain 18 <| .plain 19 <| .plain 21 <| .only 20 <| .only 22 <| .plain 23 <| .done) (by kernel_rfl) (by kernel_rfl) (fun W3 hb3 => ?_)
  have H3 := Lib.hid (And.intro (H2.out.1.below hb3) (And.intro (H2.out.2.1.below hb3 H2.out.2.1.lt) (And.intro (H2.out.2.2.1.below hb3 H2.out.2.2.1.lt) (H2.out.2.2.2.trans (hb3.mono H2.out.2.2.2.size)))))
  have Q3 := Lib.hid (And.intro (Q.out.1.below hb3 Q.out.1.lt) (And.intro ((hb3.cell (p := ⟨bd, od, none⟩) Q.out.2.2.2.1).trans Q.out.2.1) (And.intro ((hb3.cell (p := ⟨br, or_, none⟩) Q.out.2.2.2.2).trans Q.out.2.2.1) (And.intro (Nat.lt_of_lt_of_le Q.out.2.2.2.1 hb3.size) (Nat.lt_of_lt_of_le Q.out.2.2.2.2 hb3.size)))))
  have hS3 := HS.out.next hb3
  clear hb3 Q HS H2
  have d0 : ∀ z, (plus W3 z).cell? ⟨w.heap.size + 1, 0, none⟩ = some (.int .i64 0) := fun z => by rw [(H3.out.2.2.1.plus z).cell, headC_0, htr]
  have d1 : ∀ z, (plus W3 z).cell? ⟨w.heap.size + 1, 1, none⟩ = some (.int .i64 0) := fun z => by rw [(H3.out.2.2.1.plus z).cell, headC_1, hep]
  have d2 : ∀ z, (plus W3 z).cell? ⟨g, 2, none⟩ = some (.slice (some ⟨bd, od, none⟩) 1 cd) := fun z => (Q3.out.1.plus z).cell 2
  have d4 : ∀ z, (plus W3 z).cell? ⟨g, 1, none⟩ = some (.slice As 4 cs) := fun z => (Q3.out.1.plus z).cell 1
  have d3 : ∀ z, (plus W3 z).cell? ⟨bd, od, none⟩ = some (.slice (some ⟨br, or_, none⟩) 1 cr) := fun z => by rw [plus_cell _ _ _ Q3.out.2.2.2.1]; exact Q3.out.2.1
  have d5 : ∀ z, (plus W3 z).cell? ⟨br, or_, none⟩ = some (.int .u32 5) := fun z => by rw [plus_cell _ _ _ Q3.out.2.2.2.2]; exact Q3.out.2.2.1
  have HR := Lib.hid (show ∀ z, (plus W3 z).rangeAt w.heap.size 0 (sigC h tag).toList from fun z => range_blk24 (H3.out.2.1.plus z))
  iterate 21 (refine mix_plain rfl ?_; (first
    | (refine wpQuiet_nilCheck rfl (.tmp 50) rfl _ rfl ?_; simp only [Act.put, List.setIfInBounds_toArray, List.set_cons_zero, List.set_cons_succ])
    | (refine wpQuiet_nilCheck rfl (.tmp 58) rfl _ rfl ?_; simp only [Act.put, List.setIfInBounds_toArray, List.set_cons_zero, List.set_cons_succ])
    | (refine wpQuiet_loadMid rfl 66 (.tmp 4) rfl w.heap.size 0 rfl (sigC h tag) _ (fun _ ⟨e, he⟩ => by rw [he]; exact HR.out e) Tryd.underlying66 rfl (by rw [sigC_size]; kernel_rfl) ?_; simp only [Act.put, List.setIfInBounds_toArray, List.set_cons_zero, List.set_cons_succ])
    | go_big_quiet_step (fail)); refine wpQuiet_nil ?_)
  clear d0 d1 d2 d3 d4 d5 HR
  have hG3 := hG.next H3.out.2.2.2
  refine mix_only_in rfl (fun K hK => ?_)
  go_wp2_with fail
  refine (key_any (.slice As 4 cs) seed24 0 0 5 W3 hS3 (by decide) hG3 (by decide) (by decide)).mono ?_
  rintro e W4 ⟨rfl, hb4⟩
  have hkl : (keyL' seed24 0 0 5).length = 32 := mac_length _ _
  go_wp2_with fail
  refine hK _ _ (below_plus hb4) ?_
  clear hK K hS3
  refine mix_only_in rfl (fun K hK => ?_)
  go_wp2_with fail
  refine (holds_any (keyL' seed24 0 0 5) hkl h hok tag htl W4 (hG3.next hb4)).mono ?_
  rintro e W5 ⟨rfl, hb5⟩
  rw [decide_eq_false hne]
  have hb45 := hb4.trans (hb5.mono hb4.size)
  go_wp2_with fail
  refine hK _ _ (below_plus hb45) ?_
  clear hK K hkl hG3
  have H5 := Lib.hid (And.intro (H3.out.1.below hb45) (And.intro (H3.out.2.1.below hb45 H3.out.2.1.lt) (And.intro (H3.out.2.2.1.below hb45 H3.out.2.2.1.lt) (H3.out.2.2.2.trans (hb45.mono H3.out.2.2.2.size)))))
  have Q5 := Lib.hid (Q3.out.1.below hb45 Q3.out.1.lt)
  clear hb4 hb5 hb45 H3 Q3
  iterate 1 (refine mix_plain rfl ?_; go_big_quiet_step (fail); refine wpQuiet_nil ?_)
  refine mix_done ?_
  have c0 : W5.cell? ⟨w.heap.size + 1, 0, none⟩ = some (.int .i64 0) := by rw [H5.out.2.2.1.cell, headC_0, htr]
  have hbu2 := fun w => hbu 0 20 w
  clear hbu
  go_wp2_with fail
  go_ret
  have hn := below_new1 W5 (Obj.cells #[.int .i64 0, .int .i64 20] 183)
  exact ⟨W5.heap.size, rfl, Blk.new W5 _ _, H5.out.1.below hn, H5.out.2.2.2.trans (hn.mono H5.out.2.2.2.size)⟩
theorem Wch.heads {w : World} {B g m : Nat} {o : Option (HeadL × List UInt8)} (h : Wch w B g m o) : Hds w m o := by
  obtain ⟨_, _, _, _, _, _, _, _, _, h⟩ := h
  exact h
theorem Wch.low {w : World} {B g m : Nat} {o : Option (HeadL × List UInt8)} (h : Wch w B g m o) : B ≤ m := by
  obtain ⟨_, _, _, _, _, _, _, _, h, _⟩ := h
  exact h
theorem Wch.put {w w' : World} {B g m : Nat} {o p : Option (HeadL × List UInt8)} (h : Wch w B g m o) (hg : w.grownBy w' (some m)) (hM : Hds w' m p) : Wch w' B g m p := by
  obtain ⟨sv, dv, rv, h1, h2, h3, h4, h5, h6, h7⟩ := h
  have hne : ∀ (k : Nat) (t : TypeId) (cs : Array Value), Blk w k t cs → some k ≠ some m := fun k t cs hb e => by
    injection e with e
    subst e
    have : some (Obj.cells _ _ _) = some (hdsO o) := hb.symm.trans h7
    cases o <;> (unfold hdsO at this; cases this)
  have hno : ∀ (e : TypeId) (n : Nat) (v : Value) (xs : List Value), w.ownsRow B e 1 v n xs → w'.ownsRow B e 1 v n xs := fun e n v xs ho => by
    refine own_grown ho hg (fun q hq e2 => ?_)
    rcases ho.2 with ⟨rfl, _⟩ | ⟨g', cap, cur, rfl, _, hh, _⟩
    · cases hq
    · cases hq
      exact hne _ e cur hh e2.symm
  exact ⟨sv, dv, rv, h1, h2.grown hg (fun e => hne _ _ _ h2 e), hno _ _ _ _ h3, hno _ _ _ _ h4, hno _ _ _ _ h5, h6, hM⟩
set_option maxHeartbeats 4000000 in
set_option maxRecDepth 100000 in
/-- the first head -/
theorem see_first (h : HeadL) (hok : h.ok) (htr : h.tree = 0) (hep : h.epoch = 0) (tag : List UInt8) (htl : tag.length = 32) (hne : tagL (keyL' seed24 0 0 5) h = tag) (path : Value) (B g m : Nat) (w : World) (hG : Glob w) (hB : B ≤ w.heap.size) (hW : Wch w B g m none) :
    Calls Tryd.prog 45 #[.pointer (some ⟨g, 0, none⟩), .agg (sigC h tag), path] w fun e w' => e = .returned .nilIface ∧ Wch w' B g m (some (h, tag)) ∧ Below B w w' := by
  have hzv := zero_head24
  have hX := Blk.new w 66 (sigC h tag)
  have hn := below_new1 w (Obj.cells (sigC h tag) 66)
  have HRX := Lib.hid (sig_head_range hX)
  have hD := Blk.new (w.alloc (Obj.cells (sigC h tag) 66)) 64 (headC zeroHead)
  have hn2 := below_new1 (w.alloc (Obj.cells (sigC h tag) 66)) (Obj.cells (headC zeroHead) 64)
  have esz : (w.alloc (Obj.cells (sigC h tag) 66)).heap.size = w.heap.size + 1 := by simp
  rw [esz] at hD
  have hX2 := hX.below hn2 hX.lt
  have HP := Lib.hid (And.intro hX2 (hn.trans (hn2.mono hn.size)))
  have HW := Lib.hid hW
  clear hX hn hn2 hX2 esz hW
  go_enter Tryd.func45, Tryd.ntmps45
  go_upto_region 2 with (first
    | (refine wpList_loadMid rfl 64 (.tmp 11) rfl w.heap.size 0 rfl (headC h) _ HRX.out Tryd.underlying64 rfl (by rw [headC_size]; kernel_rfl) ?_)
    | (refine wpList_storeB rfl rfl 64 (.tmp 7) (.tmp 12) rfl (w.heap.size + 1) 0 rfl (headC h) rfl _ _ hD (by rw [headC_size]; kernel_rfl) (by rw [headC_size, headC_size]; omega) (headC_one _) ?_; intro W1 hH1 hg1))
  rw [copied_all _ _ (by rw [headC_size, headC_size])] at hH1
  have hX1 := HP.out.1.grown hg1 (fun e => by injection e with e; omega)
  have hb1 := below_only HP.out.2 hg1 (by omega) HP.out.2.size
  have H1 := Lib.hid (And.intro (HW.out.below hb1) (And.intro hX1 (And.intro hH1 hb1)))
  clear hzv HRX hD HP HW hH1 hg1 hX1 hb1
  refine wp_region_mixP (.plain 0 <| .plain 1 <| .plain 2 <| .plain 3 <| .plain 4 <| .plain 5 <| .plain 6 <| .plain 7 <| .plain 8 <| .plain 9 <| .plain 10 <| .plain 11 <| .plain 12 <| .plain 13 <| .plain 14 <| .plain 15 <| .plain 16 <| .plain 17 <| .plain 18 <| .plain 19 <| .plain 20 <| .plain 21 <| .plain 22 <| .plain 23 <| .plain 24 <| .plain 25 <| .plain 26 <| .plain 27 <| .plain 28 <| .plain 29 <| .plain 30 <| .plain 31 <| .done) (by kernel_rfl) (by kernel_rfl) (fun W2 hb2 => ?_)
  have H2 := Lib.hid (And.intro (H1.out.1.below hb2) (And.intro (H1.out.2.1.below hb2 H1.out.2.1.lt) (And.intro (H1.out.2.2.1.below hb2 H1.out.2.2.1.lt) (H1.out.2.2.2.trans (hb2.mono H1.out.2.2.2.size)))))
  clear hb2 H1
  obtain ⟨As, cs, bd, od, cd, br, or_, cr, q1, q2, q3, q4, q5, q6⟩ := H2.out.1.facts
  have HS := Lib.hid q6
  have d0 : ∀ z, (plus W2 z).cell? ⟨w.heap.size + 1, 0, none⟩ = some (.int .i64 0) := fun z => by rw [(H2.out.2.2.1.plus z).cell, headC_0, htr]
  have d1 : ∀ z, (plus W2 z).cell? ⟨w.heap.size + 1, 1, none⟩ = some (.int .i64 0) := fun z => by rw [(H2.out.2.2.1.plus z).cell, headC_1, hep]
  have d2 : ∀ z, (plus W2 z).cell? ⟨g, 2, none⟩ = some (.slice (some ⟨bd, od, none⟩) 1 cd) := fun z => (q1.plus z).cell 2
  have d3 : ∀ z, (plus W2 z).cell? ⟨bd, od, none⟩ = some (.slice (some ⟨br, or_, none⟩) 1 cr) := fun z => by rw [plus_cell _ _ _ q4]; exact q2
  have Q := Lib.hid (And.intro q1 (And.intro q2 (And.intro q3 (And.intro q4 q5))))
  clear q1 q2 q3 q4 q5 q6
  iterate 32 (first
    | (refine mix_skip rfl rfl ?_; simp only [Act.put, List.setIfInBounds_toArray, List.set_cons_zero, List.set_cons_succ])
    | (refine mix_plain rfl ?_; (first
      | (refine wpQuiet_nilCheck rfl (.tmp 19) rfl _ rfl ?_; simp only [Act.put, List.setIfInBounds_toArray, List.set_cons_zero, List.set_cons_succ])
      | (refine wpQuiet_nilCheck rfl (.tmp 34) rfl _ rfl ?_; simp only [Act.put, List.setIfInBounds_toArray, List.set_cons_zero, List.set_cons_succ])
      | go_big_quiet_step (fail)); refine wpQuiet_nil ?_))
  clear d0 d1 d2 d3
  refine mix_done ?_
  go_upto_region 4 with fail
  refine wp_region_mixP (.plain 0 <| .plain 1 <| .plain 2 <| .plain 3 <| .plain 4 <| .plain 5 <| .plain 6 <| .plain 7 <| .plain 8 <| .plain 9 <| .plain 10 <| .plain 11 <| .plain 12 <| .plain 13 <| .plain 14 <| .plain 15 <| .plain 16 <| .plain 17 <| .plain 18 <| .plain 19 <| .plain 21 <| .only 20 <| .only 22 <| .plain 23 <| .done) (by kernel_rfl) (by kernel_rfl) (fun W3 hb3 => ?_)
  have H3 := Lib.hid (And.intro (H2.out.1.below hb3) (And.intro (H2.out.2.1.below hb3 H2.out.2.1.lt) (And.intro (H2.out.2.2.1.below hb3 H2.out.2.2.1.lt) (H2.out.2.2.2.trans (hb3.mono H2.out.2.2.2.size)))))
  have Q3 := Lib.hid (And.intro (Q.out.1.below hb3 Q.out.1.lt) (And.intro ((hb3.cell (p := ⟨bd, od, none⟩) Q.out.2.2.2.1).trans Q.out.2.1) (And.intro ((hb3.cell (p := ⟨br, or_, none⟩) Q.out.2.2.2.2).trans Q.out.2.2.1) (And.intro (Nat.lt_of_lt_of_le Q.out.2.2.2.1 hb3.size) (Nat.lt_of_lt_of_le Q.out.2.2.2.2 hb3.size)))))
  have hS3 := HS.out.next hb3
  clear hb3 Q HS H2
  have d0 : ∀ z, (plus W3 z).cell? ⟨w.heap.size + 1, 0, none⟩ = some (.int .i64 0) := fun z => by rw [(H3.out.2.2.1.plus z).cell, headC_0, htr]
  have d1 : ∀ z, (plus W3 z).cell? ⟨w.heap.size + 1, 1, none⟩ = some (.int .i64 0) := fun z => by rw [(H3.out.2.2.1.plus z).cell, headC_1, hep]
  have d2 : ∀ z, (plus W3 z).cell? ⟨g, 2, none⟩ = some (.slice (some ⟨bd, od, none⟩) 1 cd) := fun z => (Q3.out.1.plus z).cell 2
  have d4 : ∀ z, (plus W3 z).cell? ⟨g, 1, none⟩ = some (.slice As 4 cs) := fun z => (Q3.out.1.plus z).cell 1
  have d3 : ∀ z, (plus W3 z).cell? ⟨bd, od, none⟩ = some (.slice (some ⟨br, or_, none⟩) 1 cr) := fun z => by rw [plus_cell _ _ _ Q3.out.2.2.2.1]; exact Q3.out.2.1
  have d5 : ∀ z, (plus W3 z).cell? ⟨br, or_, none⟩ = some (.int .u32 5) := fun z => by rw [plus_cell _ _ _ Q3.out.2.2.2.2]; exact Q3.out.2.2.1
  have HR := Lib.hid (show ∀ z, (plus W3 z).rangeAt w.heap.size 0 (sigC h tag).toList from fun z => range_blk24 (H3.out.2.1.plus z))
  iterate 21 (refine mix_plain rfl ?_; (first
    | (refine wpQuiet_nilCheck rfl (.tmp 50) rfl _ rfl ?_; simp only [Act.put, List.setIfInBounds_toArray, List.set_cons_zero, List.set_cons_succ])
    | (refine wpQuiet_nilCheck rfl (.tmp 58) rfl _ rfl ?_; simp only [Act.put, List.setIfInBounds_toArray, List.set_cons_zero, List.set_cons_succ])
    | (refine wpQuiet_loadMid rfl 66 (.tmp 4) rfl w.heap.size 0 rfl (sigC h tag) _ (fun _ ⟨e, he⟩ => by rw [he]; exact HR.out e) Tryd.underlying66 rfl (by rw [sigC_size]; kernel_rfl) ?_; simp only [Act.put, List.setIfInBounds_toArray, List.set_cons_zero, List.set_cons_succ])
    | go_big_quiet_step (fail)); refine wpQuiet_nil ?_)
  clear d0 d1 d2 d3 d4 d5 HR
  have hG3 := hG.next H3.out.2.2.2
  refine mix_only_in rfl (fun K hK => ?_)
  go_wp2_with fail
  refine (key_any (.slice As 4 cs) seed24 0 0 5 W3 hS3 (by decide) hG3 (by decide) (by decide)).mono ?_
  rintro e W4 ⟨rfl, hb4⟩
  have hkl : (keyL' seed24 0 0 5).length = 32 := mac_length _ _
  go_wp2_with fail
  refine hK _ _ (below_plus hb4) ?_
  clear hK K hS3
  refine mix_only_in rfl (fun K hK => ?_)
  go_wp2_with fail
  refine (holds_any (keyL' seed24 0 0 5) hkl h hok tag htl W4 (hG3.next hb4)).mono ?_
  rintro e W5 ⟨rfl, hb5⟩
  rw [decide_eq_true hne]
  have hb45 := hb4.trans (hb5.mono hb4.size)
  go_wp2_with fail
  refine hK _ _ (below_plus hb45) ?_
  clear hK K hkl hG3
  have H5 := Lib.hid (And.intro (H3.out.1.below hb45) (And.intro (H3.out.2.1.below hb45 H3.out.2.1.lt) (And.intro (H3.out.2.2.1.below hb45 H3.out.2.2.1.lt) (H3.out.2.2.2.trans (hb45.mono H3.out.2.2.2.size)))))
  have Q5 := Lib.hid (Q3.out.1.below hb45 Q3.out.1.lt)
  clear hb4 hb5 hb45 H3 Q3
  iterate 1 (refine mix_plain rfl ?_; go_big_quiet_step (fail); refine wpQuiet_nil ?_)
  refine mix_done ?_
  go_upto_region 6 with fail
  refine wp_region_mixP (.plain 0 <| .plain 1 <| .plain 2 <| .plain 3 <| .plain 4 <| .plain 5 <| .two 6 10 (.plain 7 <| .plain 8 <| .plain 9 <| .only 10 <| .only 11 <| .plain 12 <| .done) (.only 6 <| .plain 7 <| .plain 8 <| .plain 9 <| .only 11 <| .plain 12 <| .done)) (by kernel_rfl) (by kernel_rfl) (fun W6 hb6 => ?_)
  have H6 := Lib.hid (And.intro (H5.out.1.below hb6) (And.intro (H5.out.2.1.below hb6 H5.out.2.1.lt) (And.intro (H5.out.2.2.1.below hb6 H5.out.2.2.1.lt) (And.intro (H5.out.2.2.2.trans (hb6.mono H5.out.2.2.2.size)) (Q5.out.below hb6 Q5.out.lt)))))
  clear hb6 H5 Q5
  have d0 : ∀ z, (plus W6 z).cell? ⟨w.heap.size + 1, 0, none⟩ = some (.int .i64 0) := fun z => by rw [(H6.out.2.2.1.plus z).cell, headC_0, htr]
  have d1 : ∀ z, (plus W6 z).cell? ⟨g, 3, none⟩ = some (.map (some m)) := fun z => (H6.out.2.2.2.2.plus z).cell 3
  iterate 6 (refine mix_plain rfl ?_; (first
    | (refine wpQuiet_nilCheck rfl (.tmp 80) rfl _ rfl ?_; simp only [Act.put, List.setIfInBounds_toArray, List.set_cons_zero, List.set_cons_succ])
    | go_big_quiet_step (fail)); refine wpQuiet_nil ?_)
  clear d0 d1
  have hv0 : sigV (hdsV none 0) = .agg (sigC zeroHead []) := rfl
  have ho0 : (hdsV none 0).isSome = false := rfl
  have hzs := zero_sig
  have hD8 := Blk.new W6 66 (sigC zeroHead [])
  have hn8 := below_new1 W6 (Obj.cells (sigC zeroHead []) 66)
  refine mix_two_in rfl rfl (fun K hK => ?_) (fun K hK => ?_)
  · go_wp2_with (first
      | (refine wpList_lookupH (.tmp 83) (.tmp 85) true rfl m none 0 rfl rfl H6.out.1.heads rfl ?_; rw [if_pos rfl, hv0, ho0]))
    refine hK _ _ (below_plus (Below.refl _ _)) ?_
    clear hK K hv0 ho0
    iterate 3 (refine mix_plain rfl ?_; go_big_quiet_step (fail); refine wpQuiet_nil ?_)
    refine mix_only_in rfl (fun K hK => ?_)
    go_wp2_with fail
    refine hK _ _ (below_plus hn8) ?_
    clear hK K
    refine mix_only_in rfl (fun K hK => ?_)
    go_wp2_with (first
      | (refine wpList_storeB rfl rfl 66 (.tmp 8) (.tmp 87) rfl W6.heap.size 0 rfl (sigC zeroHead []) rfl _ _ hD8 (by rw [sigC_size]; kernel_rfl) (by rw [sigC_size]; omega) (sigC_one _ _) ?_; intro W8 hS8 hg8))
    have hb8 := below_only hn8 hg8 (Nat.le_refl _) hn8.size
    refine hK _ _ (below_plus hb8) ?_
    clear hK K
    iterate 1 (refine mix_plain rfl ?_; go_big_quiet_step (fail); refine wpQuiet_nil ?_)
    refine mix_done ?_
    have H8 := Lib.hid (And.intro (H6.out.1.below hb8) (And.intro (H6.out.2.1.below hb8 H6.out.2.1.lt) (And.intro (H6.out.2.2.1.below hb8 H6.out.2.2.1.lt) (And.intro (H6.out.2.2.2.1.trans (hb8.mono H6.out.2.2.2.1.size)) (H6.out.2.2.2.2.below hb8 H6.out.2.2.2.2.lt)))))
    clear hn8 hD8 hS8 hg8 hb8 H6 hzs
    go_upto_region 11 with fail
    refine wp_region_mixT 7 (.plain 0 <| .plain 1 <| .plain 2 <| .plain 3 <| .plain 4 <| .plain 5 <| .plain 6 <| .done) (by kernel_rfl) (by kernel_rfl) (fun W9 hb9 => ?_)
    have H9 := Lib.hid (And.intro (H8.out.1.below hb9) (And.intro (H8.out.2.1.below hb9 H8.out.2.1.lt) (And.intro (H8.out.2.2.1.below hb9 H8.out.2.2.1.lt) (And.intro (H8.out.2.2.2.1.trans (hb9.mono H8.out.2.2.2.1.size)) (H8.out.2.2.2.2.below hb9 H8.out.2.2.2.2.lt)))))
    clear hb9 H8
    have d0 : ∀ z, (plus W9 z).cell? ⟨w.heap.size + 1, 0, none⟩ = some (.int .i64 0) := fun z => by rw [(H9.out.2.2.1.plus z).cell, headC_0, htr]
    have d1 : ∀ z, (plus W9 z).cell? ⟨g, 3, none⟩ = some (.map (some m)) := fun z => (H9.out.2.2.2.2.plus z).cell 3
    have HR := Lib.hid (show ∀ z, (plus W9 z).rangeAt w.heap.size 0 (sigC h tag).toList from fun z => range_blk24 (H9.out.2.1.plus z))
    iterate 7 (refine mix_plain rfl ?_; (first
      | (refine wpQuiet_nilCheck rfl (.tmp 104) rfl _ rfl ?_; simp only [Act.put, List.setIfInBounds_toArray, List.set_cons_zero, List.set_cons_succ])
      | (refine wpQuiet_loadMid rfl 66 (.tmp 4) rfl w.heap.size 0 rfl (sigC h tag) _ (fun _ ⟨e, he⟩ => by rw [he]; exact HR.out e) Tryd.underlying66 rfl (by rw [sigC_size]; kernel_rfl) ?_; simp only [Act.put, List.setIfInBounds_toArray, List.set_cons_zero, List.set_cons_succ])
      | go_big_quiet_step (fail)); refine wpQuiet_nil ?_)
    clear d0 d1 HR
    refine mix_done ?_
    simp only [List.drop_succ_cons, List.drop_zero]
    go_wp2_with (first
      | (refine wpList_updateH rfl rfl (.tmp 107) (.tmp 109) (.tmp 110) rfl m none (h, tag) rfl rfl rfl H9.out.1.heads ?_; intro W10 hM10 hg10))
    go_ret
    exact ⟨rfl, H9.out.1.put hg10 hM10, below_only (H9.out.2.2.2.1.mono hB) hg10 H9.out.1.low (Nat.le_trans hB H9.out.2.2.2.1.size)⟩
  · go_wp2_with fail
    refine hK _ _ (below_plus hn8) ?_
    clear hK K
    refine mix_only_in rfl (fun K hK => ?_)
    go_wp2_with (first
      | (refine wpList_lookupH (.tmp 83) (.tmp 85) true rfl m none 0 rfl rfl (H6.out.1.heads.below hn8) rfl ?_; rw [if_pos rfl, hv0, ho0]))
    refine hK _ _ (below_plus hn8) ?_
    clear hK K hv0 ho0
    iterate 3 (refine mix_plain rfl ?_; go_big_quiet_step (fail); refine wpQuiet_nil ?_)
    refine mix_only_in rfl (fun K hK => ?_)
    go_wp2_with (first
      | (refine wpList_storeB rfl rfl 66 (.tmp 8) (.tmp 87) rfl W6.heap.size 0 rfl (sigC zeroHead []) rfl _ _ hD8 (by rw [sigC_size]; kernel_rfl) (by rw [sigC_size]; omega) (sigC_one _ _) ?_; intro W8 hS8 hg8))
    have hb8 := below_only hn8 hg8 (Nat.le_refl _) hn8.size
    refine hK _ _ (below_plus hb8) ?_
    clear hK K
    iterate 1 (refine mix_plain rfl ?_; go_big_quiet_step (fail); refine wpQuiet_nil ?_)
    refine mix_done ?_
    have H8 := Lib.hid (And.intro (H6.out.1.below hb8) (And.intro (H6.out.2.1.below hb8 H6.out.2.1.lt) (And.intro (H6.out.2.2.1.below hb8 H6.out.2.2.1.lt) (And.intro (H6.out.2.2.2.1.trans (hb8.mono H6.out.2.2.2.1.size)) (H6.out.2.2.2.2.below hb8 H6.out.2.2.2.2.lt)))))
    clear hn8 hD8 hS8 hg8 hb8 H6 hzs
    go_upto_region 11 with fail
    refine wp_region_mixT 7 (.plain 0 <| .plain 1 <| .plain 2 <| .plain 3 <| .plain 4 <| .plain 5 <| .plain 6 <| .done) (by kernel_rfl) (by kernel_rfl) (fun W9 hb9 => ?_)
    have H9 := Lib.hid (And.intro (H8.out.1.below hb9) (And.intro (H8.out.2.1.below hb9 H8.out.2.1.lt) (And.intro (H8.out.2.2.1.below hb9 H8.out.2.2.1.lt) (And.intro (H8.out.2.2.2.1.trans (hb9.mono H8.out.2.2.2.1.size)) (H8.out.2.2.2.2.below hb9 H8.out.2.2.2.2.lt)))))
    clear hb9 H8
    have d0 : ∀ z, (plus W9 z).cell? ⟨w.heap.size + 1, 0, none⟩ = some (.int .i64 0) := fun z => by rw [(H9.out.2.2.1.plus z).cell, headC_0, htr]
    have d1 : ∀ z, (plus W9 z).cell? ⟨g, 3, none⟩ = some (.map (some m)) := fun z => (H9.out.2.2.2.2.plus z).cell 3
    have HR := Lib.hid (show ∀ z, (plus W9 z).rangeAt w.heap.size 0 (sigC h tag).toList from fun z => range_blk24 (H9.out.2.1.plus z))
    iterate 7 (refine mix_plain rfl ?_; (first
      | (refine wpQuiet_nilCheck rfl (.tmp 104) rfl _ rfl ?_; simp only [Act.put, List.setIfInBounds_toArray, List.set_cons_zero, List.set_cons_succ])
      | (refine wpQuiet_loadMid rfl 66 (.tmp 4) rfl w.heap.size 0 rfl (sigC h tag) _ (fun _ ⟨e, he⟩ => by rw [he]; exact HR.out e) Tryd.underlying66 rfl (by rw [sigC_size]; kernel_rfl) ?_; simp only [Act.put, List.setIfInBounds_toArray, List.set_cons_zero, List.set_cons_succ])
      | go_big_quiet_step (fail)); refine wpQuiet_nil ?_)
    clear d0 d1 HR
    refine mix_done ?_
    simp only [List.drop_succ_cons, List.drop_zero]
    go_wp2_with (first
      | (refine wpList_updateH rfl rfl (.tmp 107) (.tmp 109) (.tmp 110) rfl m none (h, tag) rfl rfl rfl H9.out.1.heads ?_; intro W10 hM10 hg10))
    go_ret
    exact ⟨rfl, H9.out.1.put hg10 hM10, below_only (H9.out.2.2.2.1.mono hB) hg10 H9.out.1.low (Nat.le_trans hB H9.out.2.2.2.1.size)⟩
end Go.Proofs.YtcgbokgedfekkaaDoor
