/- Texts that stand behind one another: StRp. No condition. -/
import Derived.Test.YtcdkadidkkbhpaaDoorS34
import Derived.Test.YtcdkadidkkbhpaaDoorS19
import Derived.Test.YtcdkadidkkbhpaaDoorS39
/- The walk of the reference deponentref19's Publish. No condition. -/
namespace Go.Proofs.YtcdkadidkkbhpaaDoor
open Go Go.RowKit
attribute [local irreducible] mixW mixWA
attribute [local go_sem] n8_lo n8_hi n64_lo n64_hi n32_lo n32_hi
theorem zero_rtree (w : World) : (zeroValue 111).run Tryd.prog w = .ok (.agg (treC ⟨0, 0, 0, 0, [], [], [], zeroHead, []⟩ (.slice none 0 0) (.slice none 0 0) (.slice none 0 0))) w := by kernel_rfl
theorem Wld.atB {w w' : World} {B : Nat} {v : Value} {wd qu : Int} {st : UInt32} {seed : List UInt8} (h : Wld w B v wd qu st seed) (hb : Below B w w') : Wld w' B v wd qu st seed := by
  obtain ⟨g, t, sv, rfl, hg, hB, ⟨g2, rfl, hg2, hT⟩, hs⟩ := h
  exact ⟨g, _, sv, rfl, hg, hB.below hb hg, ⟨g2, rfl, hg2, hT.below hb hg2⟩, hs.below hb⟩
set_option maxHeartbeats 4000000 in
set_option maxRecDepth 100000 in
theorem rpub_ok (vW : Value) (wd qu : Int) (st : UInt32) (v : Value) (seed : List UInt8) (s : StaL) (k : Nat) (hk : k < s.trees.length) (hok : (s.trees.getD k zeroTre).ok) (hn : s.trees.length ≤ 1000) (hdr : (s.trees.getD k zeroTre).draws ≠ []) (w : World) (hW : Wld w w.heap.size vW wd qu st seed) (hsl : seed.length ≤ 1000000) (hS : Sta w w.heap.size v s) :
    Calls Tryd.prog 51 #[vW, v, .int .i64 (k : Int)] w fun e w' => e = .returned (.agg (sigC (pubH wd s.clock k (s.trees.getD k zeroTre)) (pubT wd seed s.clock k (s.trees.getD k zeroTre)))) ∧ Below w.heap.size w w' := by
  obtain ⟨tv, rv, gv, rfl, -, hTr, -⟩ := hS
  obtain ⟨Ar, cr, rfl⟩ := hTr.shape
  obtain ⟨-, hcr, hcr2⟩ := hTr.len
  obtain ⟨g, o, d, l, q, rfl, hgB, hra, hd, hl, hq⟩ := hTr.at_ k hk
  generalize s.trees.getD k zeroTre = t at hok hdr hra hd hl hq ⊢
  obtain ⟨Ad, cd, hde⟩ := hd.shape
  subst hde
  obtain ⟨o1, o2, o3, o4, o5, o6, o7, o8, o9, o10, o11⟩ := hok
  have hd0 : 0 < t.draws.length := List.length_pos_iff.2 hdr
  obtain ⟨gd, od, rfl, hgd, hcd⟩ := hd.cellAt (t.draws.length - 1) (by omega)
  obtain ⟨Al, cl, hle⟩ : ∃ A c, l = .slice A t.leaves.length c := by obtain ⟨A, c, _, e, _⟩ := hl; exact ⟨A, c, e⟩
  subst hle
  have hlone : q.oneCell' = true := by obtain ⟨A, c, _, e, _⟩ := hq; rw [e]; rfl
  have HF := Lib.hid (And.intro hra (And.intro hd (And.intro hl (And.intro hW (And.intro hgd hcd)))))
  have HH := Lib.hid (And.intro o5 (And.intro o8 o10))
  have hk1 : ¬ ((k : Int) < 0) := by omega
  have hkn : (k : Int) < (s.trees.length : Int) := by omega
  clear hgd hcd hra hd hl hW hTr hq o1 o2 o3 o4 o5 o6 o9 o10 o11 hdr hcr hcr2 hk
  have hzs := zero_sig
  go_enter Tryd.func51, Tryd.ntmps51
  go_upto_region 1 with fail
  clear hzs
  refine wp_at (fun W => Blk W w.heap.size 62 (staC s tv (.slice (some ⟨g, o, none⟩) s.trees.length cr) gv) ∧ Blk W (w.heap.size + 1) 42 (sigC zeroHead []) ∧ Below w.heap.size w W)
    ⟨(Blk.new w _ _).alloc _, Blk.new2 _ _ _ _, below_new2 _ _ _⟩ ?_
  rintro W1 ⟨hS1, hR1, hb1⟩
  have HR1 := Lib.hid (show W1.rangeAt g (o + k * 75) (treC t (.slice (some ⟨gd, od, none⟩) t.draws.length cd) (.slice Al t.leaves.length cl) q).toList from fun j u hj => (hb1.cell (p := ⟨g, o + k * 75 + j, none⟩) hgB).trans (HF.out.1 j u hj))
  have H1 := Lib.hid (And.intro hS1 (And.intro hR1 hb1))
  have c4 : W1.cell? ⟨w.heap.size, 4, none⟩ = some (.slice (some ⟨g, o, none⟩) s.trees.length cr) := hS1.cell 4
  have hD := Blk.new W1 111 (treC ⟨0, 0, 0, 0, [], [], [], zeroHead, []⟩ (.slice none 0 0) (.slice none 0 0) (.slice none 0 0))
  have hn1 := below_new1 W1 (Obj.cells (treC ⟨0, 0, 0, 0, [], [], [], zeroHead, []⟩ (.slice none 0 0) (.slice none 0 0) (.slice none 0 0)) 111)
  have hW1 : w.heap.size + 1 < W1.heap.size := hR1.lt
  clear hS1 hR1 hb1
  have hzt := zero_rtree
  go_upto_region 2 with (first
    | (refine wpList_loadR 111 (.tmp 13) rfl g (o + k * 75) rfl (treC t (.slice (some ⟨gd, od, none⟩) t.draws.length cd) (.slice Al t.leaves.length cl) q) _ HR1.out Tryd.underlying111 rfl (by rw [treC_size]; kernel_rfl) rfl ?_)
    | (refine wpList_storeB rfl rfl 111 (.tmp 7) (.tmp 14) rfl W1.heap.size 0 rfl (treC t (.slice (some ⟨gd, od, none⟩) t.draws.length cd) (.slice Al t.leaves.length cl) q) rfl _ _ hD (by rw [treC_size]; kernel_rfl) (by rw [treC_size, treC_size]; omega) (treC_one _ _ _ _ rfl rfl hlone) ?_; intro W2 hT2 hg2))
  rw [copied_all _ _ (by rw [treC_size, treC_size])] at hT2
  have hb12 := below_only hn1 hg2 (Nat.le_refl _) hn1.size
  have H2 := Lib.hid (show Blk W2 w.heap.size 62 (staC s tv (.slice (some ⟨g, o, none⟩) s.trees.length cr) gv) ∧ Blk W2 (w.heap.size + 1) 42 (sigC zeroHead []) ∧ Blk W2 W1.heap.size 111 (treC t (.slice (some ⟨gd, od, none⟩) t.draws.length cd) (.slice Al t.leaves.length cl) q) ∧ Below w.heap.size w W2 from
    ⟨H1.out.1.below hb12 (by omega), H1.out.2.1.below hb12 hW1, hT2, H1.out.2.2.trans (hb12.mono H1.out.2.2.size)⟩)
  clear H1 HR1 c4 hD hn1 hzt hT2 hg2 hb12
  generalize W1.heap.size = tb at H2 hW1 ⊢
  have c4 : W2.cell? ⟨tb, 4, none⟩ = some (.slice (some ⟨gd, od, none⟩) t.draws.length cd) := by rw [H2.out.2.2.1.cell, treC_4]
  go_upto_region 3 with fail
  clear c4
  have eep : (t.draws.length : Int) - 1 = ((t.draws.length - 1 : Nat) : Int) := by omega
  rw [eep]
  obtain ⟨ep, hep⟩ : ∃ ep, t.draws.length - 1 = ep := ⟨_, rfl⟩
  have hepl : ep < t.draws.length := by omega
  have hepi : (ep : Int) < (t.draws.length : Int) := by omega
  rw [hep]
  have HE := Lib.hid hep
  clear hep eep
  obtain ⟨R, hR⟩ : ∃ R, rootM (cutW wd) t.leaves = R := ⟨_, rfl⟩
  have HR := Lib.hid (And.intro hR (show R.length = 32 by rw [← hR]; exact rootM_length _ _))
  clear hR
  obtain ⟨hd, hhd⟩ : ∃ hd : HeadL, hd = ⟨(k : Int), (ep : Int), UInt64.ofNat t.leaves.length, s.clock, R⟩ := ⟨_, rfl⟩
  have HD := Lib.hid (show hd = ⟨(k : Int), (ep : Int), UInt64.ofNat t.leaves.length, s.clock, R⟩ ∧ hd.ok ∧ Tryd.prog.built 40 [(0, .int .i64 (k : Int)), (1, .int .i64 (ep : Int)), (2, .int .u64 (t.leaves.length : Int)), (3, .int .u64 (n64 s.clock)), (4, .agg (dat R))] = some (headC hd) from by
    refine ⟨hhd, ?_, ?_⟩
    · rw [hhd]; refine ⟨HR.out.2, ⟨?_, ?_⟩, ⟨?_, ?_⟩⟩ <;> (simp only []; omega)
    · rw [hhd, ← n64_ofNat t.leaves.length (by omega)]; exact built_pub _ _ _ _ _)
  clear hhd
  go_cut [9] (fun s wx => ∃ hbk, s = .pointer (some ⟨hbk, 0, none⟩) ∧ Blk wx hbk 40 (headC hd) ∧ Below W2.heap.size W2 wx)
  case first =>
    refine wp_region_mixAP (.plain 0 (.plain 1 (.plain 2 (.plain 3 (.plain 4 (.plain 5 (.plain 6 (.plain 7 (.plain 8 (.plain 10 (.plain 11 (.more 9 (.more 12 (.plain 13 (.only 14 (.only 15 .done))) (.only 14 (.only 12 (.plain 13 (.only 15 .done))))) (.only 14 (.only 9 (.only 12 (.plain 13 (.only 15 .done))))))))))))))))) (by kernel_rfl) (by kernel_rfl) (fun W3 hb3 => ?_)
    have hS3 := H2.out.1.below hb3 H2.out.1.lt
    have hT3 := H2.out.2.2.1.below hb3 H2.out.2.2.1.lt
    have hb3w := H2.out.2.2.2.trans (hb3.mono H2.out.2.2.2.size)
    have d5 : ∀ z, (plus W3 z).cell? ⟨tb, 5, none⟩ = some (.slice Al t.leaves.length cl) := fun z => by rw [(hT3.plus z).cell, treC_5]
    have dc : ∀ z, (plus W3 z).cell? ⟨w.heap.size, 0, none⟩ = some (.int .u64 (n64 s.clock)) := fun z => (hS3.plus z).cell 0
    have e64 : (t.leaves.length : Int) % 18446744073709551616 = (t.leaves.length : Int) := by omega
    clear hS3 hT3
    iterate 11 (refine mixA_plain rfl ?_; go_big_quiet_step (fail); refine wpQuiet_nil ?_)
    clear d5 dc e64
    have HW := Lib.hid (And.intro (HF.out.2.2.2.1.next hb3w) (And.intro (HF.out.2.2.1.next hb3w) hb3))
    clear hb3w hb3
    refine mixA_more rfl (fun K hK => ?_) ?_
    · skip
      skip
      go_wp2_with fail
      refine (hasher19_any vW wd qu st seed W3 (HW.out.1.next (Below.refl W3.heap.size W3))).mono ?_
      rintro e V4 ⟨hs, rfl, hHs, hbV⟩
      have bV4 := ((Below.refl W3.heap.size W3)).trans (hbV.mono ((Below.refl W3.heap.size W3)).size)
      go_wp2_with fail
      refine hK _ _ (below_plus bV4) ?_
      clear hK K hbV
      refine mixA_more rfl (fun K hK => ?_) ?_
      · skip
        go_wp2_with fail
        refine (r8root_any hs (cutW wd) t.leaves.length t.leaves (Nat.le_refl _) (by have := HH.out.2.1; omega) (fun b hb => by have := HH.out.2.2 b hb; omega) _ V4 (HW.out.2.1.next bV4) (hHs)).mono ?_
        rintro e V5 ⟨rfl, hbV⟩
        rw [HR.out.1]
        have bV5 := (bV4).trans (hbV.mono (bV4).size)
        go_wp2_with fail
        refine hK _ _ (below_plus bV5) ?_
        clear hK K
        refine mixA_plain rfl ?_
        refine wpQuiet_build5 rfl 40 (.tmp 19) (.tmp 20) (.tmp 24) (.tmp 26) (.tmp 31) rfl _ _ _ _ _ rfl rfl rfl rfl rfl (headC hd) HD.out.2.2 ?_
        simp only [Act.put, List.setIfInBounds_toArray, List.set_cons_zero, List.set_cons_succ]
        refine wpQuiet_nil ?_
        refine mixA_only rfl (fun K hK => ?_)
        have hzh := zero_headS
        go_wp2_with fail
        have hHd := Blk.new V5 40 (headC zeroHead)
        have hn := below_new1 V5 (Obj.cells (headC zeroHead) 40)
        have bV60 := (bV5).trans (hn.mono (bV5).size)
        refine hK _ _ (below_plus bV60) ?_
        clear hK K hzh
        refine mixA_at (fun V => Blk V V5.heap.size 40 (headC zeroHead) ∧ Below V5.heap.size V5 V ∧ Below W3.heap.size W3 V) ⟨hHd, hn, bV60⟩ ?_
        clear hHd hn bV60
        rintro V6 ⟨hHd, hnV, bV6⟩
        have hlo := (bV5).size
        refine mixA_only rfl (fun K hK => ?_)
        refine wpList_storeB rfl rfl 40 (.tmp 9) (.tmp 32) rfl V5.heap.size 0 rfl (headC hd) rfl _ _ hHd (by rw [headC_size]; kernel_rfl) (by rw [headC_size, headC_size]; omega) (headC_one _) ?_
        intro W6 hH6 hg6
        rw [copied_all _ _ (by rw [headC_size, headC_size])] at hH6
        have hb36 := below_only bV6 hg6 hlo bV6.size
        refine hK _ _ (below_plus hb36) ?_
        clear hK K
        refine mixA_done ?_
        go_wp2_with fail
        go_meet
        exact ⟨_, rfl, hH6, HW.out.2.2.trans (hb36.mono HW.out.2.2.size)⟩
      · refine mixA_only rfl (fun K hK => ?_)
        have hzh := zero_headS
        go_wp2_with fail
        have hHd := Blk.new V4 40 (headC zeroHead)
        have hn := below_new1 V4 (Obj.cells (headC zeroHead) 40)
        have bV70 := (bV4).trans (hn.mono (bV4).size)
        refine hK _ _ (below_plus bV70) ?_
        clear hK K hzh
        refine mixA_at (fun V => Blk V V4.heap.size 40 (headC zeroHead) ∧ Below V4.heap.size V4 V ∧ Below W3.heap.size W3 V) ⟨hHd, hn, bV70⟩ ?_
        clear hHd hn bV70
        rintro V7 ⟨hHd, hnV, bV7⟩
        have hlo := (bV4).size
        refine mixA_only rfl (fun K hK => ?_)
        go_wp2_with fail
        refine (r8root_any hs (cutW wd) t.leaves.length t.leaves (Nat.le_refl _) (by have := HH.out.2.1; omega) (fun b hb => by have := HH.out.2.2 b hb; omega) _ V7 (HW.out.2.1.next bV7) (hHs.nxt hnV)).mono ?_
        rintro e V8 ⟨rfl, hbV⟩
        rw [HR.out.1]
        have bV8 := (bV7).trans (hbV.mono (bV7).size)
        go_wp2_with fail
        refine hK _ _ (below_plus bV8) ?_
        clear hK K
        have hHd := hHd.below hbV hHd.lt
        refine mixA_plain rfl ?_
        refine wpQuiet_build5 rfl 40 (.tmp 19) (.tmp 20) (.tmp 24) (.tmp 26) (.tmp 31) rfl _ _ _ _ _ rfl rfl rfl rfl rfl (headC hd) HD.out.2.2 ?_
        simp only [Act.put, List.setIfInBounds_toArray, List.set_cons_zero, List.set_cons_succ]
        refine wpQuiet_nil ?_
        refine mixA_only rfl (fun K hK => ?_)
        refine wpList_storeB rfl rfl 40 (.tmp 9) (.tmp 32) rfl V4.heap.size 0 rfl (headC hd) rfl _ _ hHd (by rw [headC_size]; kernel_rfl) (by rw [headC_size, headC_size]; omega) (headC_one _) ?_
        intro W6 hH6 hg6
        rw [copied_all _ _ (by rw [headC_size, headC_size])] at hH6
        have hb36 := below_only bV8 hg6 hlo bV8.size
        refine hK _ _ (below_plus hb36) ?_
        clear hK K
        refine mixA_done ?_
        go_wp2_with fail
        go_meet
        exact ⟨_, rfl, hH6, HW.out.2.2.trans (hb36.mono HW.out.2.2.size)⟩
    · refine mixA_only rfl (fun K hK => ?_)
      have hzh := zero_headS
      go_wp2_with fail
      have hHd := Blk.new W3 40 (headC zeroHead)
      have hn := below_new1 W3 (Obj.cells (headC zeroHead) 40)
      have bV90 := ((Below.refl W3.heap.size W3)).trans (hn.mono ((Below.refl W3.heap.size W3)).size)
      refine hK _ _ (below_plus bV90) ?_
      clear hK K hzh
      refine mixA_at (fun V => Blk V W3.heap.size 40 (headC zeroHead) ∧ Below W3.heap.size W3 V ∧ Below W3.heap.size W3 V) ⟨hHd, hn, bV90⟩ ?_
      clear hHd hn bV90
      rintro V9 ⟨hHd, hnV, bV9⟩
      have hlo := ((Below.refl W3.heap.size W3)).size
      refine mixA_only rfl (fun K hK => ?_)
      have hHd0 := hHd
      go_wp2_with fail
      refine (hasher19_any vW wd qu st seed V9 (HW.out.1.next bV9)).mono ?_
      rintro e V10 ⟨hs, rfl, hHs, hbV⟩
      have bV10 := (bV9).trans (hbV.mono (bV9).size)
      go_wp2_with fail
      refine hK _ _ (below_plus bV10) ?_
      have hbA := hbV
      clear hK K hbV
      refine mixA_only rfl (fun K hK => ?_)
      go_wp2_with fail
      refine (r8root_any hs (cutW wd) t.leaves.length t.leaves (Nat.le_refl _) (by have := HH.out.2.1; omega) (fun b hb => by have := HH.out.2.2 b hb; omega) _ V10 (HW.out.2.1.next bV10) (hHs)).mono ?_
      rintro e V11 ⟨rfl, hbV⟩
      rw [HR.out.1]
      have bV11 := (bV10).trans (hbV.mono (bV10).size)
      go_wp2_with fail
      refine hK _ _ (below_plus bV11) ?_
      clear hK K
      have hHd := (hHd0.below (show Below V9.heap.size V9 V10 from hbA) hHd0.lt).below hbV (Nat.lt_of_lt_of_le hHd0.lt hbA.size)
      refine mixA_plain rfl ?_
      refine wpQuiet_build5 rfl 40 (.tmp 19) (.tmp 20) (.tmp 24) (.tmp 26) (.tmp 31) rfl _ _ _ _ _ rfl rfl rfl rfl rfl (headC hd) HD.out.2.2 ?_
      simp only [Act.put, List.setIfInBounds_toArray, List.set_cons_zero, List.set_cons_succ]
      refine wpQuiet_nil ?_
      refine mixA_only rfl (fun K hK => ?_)
      refine wpList_storeB rfl rfl 40 (.tmp 9) (.tmp 32) rfl W3.heap.size 0 rfl (headC hd) rfl _ _ hHd (by rw [headC_size]; kernel_rfl) (by rw [headC_size, headC_size]; omega) (headC_one _) ?_
      intro W6 hH6 hg6
      rw [copied_all _ _ (by rw [headC_size, headC_size])] at hH6
      have hb36 := below_only bV11 hg6 hlo bV11.size
      refine hK _ _ (below_plus hb36) ?_
      clear hK K
      refine mixA_done ?_
      go_wp2_with fail
      go_meet
      exact ⟨_, rfl, hH6, HW.out.2.2.trans (hb36.mono HW.out.2.2.size)⟩
  case rest =>
    obtain ⟨hbk, rfl, hH, hbc⟩ := hcut
    have hbcw := H2.out.2.2.2.trans (hbc.mono H2.out.2.2.2.size)
    have H6 := Lib.hid (show Blk wc (w.heap.size + 1) 42 (sigC zeroHead []) ∧ Blk wc tb 111 (treC t (.slice (some ⟨gd, od, none⟩) t.draws.length cd) (.slice Al t.leaves.length cl) q) ∧ Blk wc hbk 40 (headC hd) ∧ Below w.heap.size w wc from
      ⟨H2.out.2.1.below hbc H2.out.2.1.lt, H2.out.2.2.1.below hbc H2.out.2.2.1.lt, hH, hbcw⟩)
    clear hH hbc hbcw H2
    obtain ⟨draw, hdrw⟩ : ∃ draw, t.draws.getD ep 0 = draw := ⟨_, rfl⟩
    go_upto_region 4 with fail
    obtain ⟨gw, tp, sv, hvW, hgw, hWb, hTb, hsv⟩ := HF.out.2.2.2.1
    subst hvW
    have HWb := Lib.hid (And.intro hWb (And.intro hTb hsv))
    clear hWb hTb hsv
    refine wp_region_mixT 23 (.plain 0 <| .plain 1 <| .plain 2 <| .plain 3 <| .plain 4 <| .plain 5 <| .plain 6 <| .plain 7 <| .plain 8 <| .plain 9 <| .plain 10 <| .plain 11 <| .plain 12 <| .plain 13 <| .plain 14 <| .plain 15 <| .plain 16 <| .plain 17 <| .plain 18 <| .plain 19 <| .plain 21 <| .only 20 <| .only 22 <| .done) (by kernel_rfl) (by kernel_rfl) (fun W7 hb67 => ?_)
    have hR7 := H6.out.1.below hb67 H6.out.1.lt
    have hT7 := H6.out.2.1.below hb67 H6.out.2.1.lt
    have hD7 := H6.out.2.2.1.below hb67 H6.out.2.2.1.lt
    have hb7 := H6.out.2.2.2.trans (hb67.mono H6.out.2.2.2.size)
    have hW7 := HWb.out.1.below hb7 hgw
    obtain ⟨g2, rfl, hg2, hTt⟩ := HWb.out.2.1
    have hTb7 : Tbl W7 W7.heap.size (.pointer (some ⟨g2, 0, none⟩)) := ⟨g2, rfl, Nat.lt_of_lt_of_le hg2 hb7.size, hTt.below hb7 hg2⟩
    have cw0 : ∀ z, (plus W7 z).cell? ⟨gw, 0, none⟩ = some (.pointer (some ⟨g2, 0, none⟩)) := fun z => (hW7.plus z).cell 0
    have cw4 : ∀ z, (plus W7 z).cell? ⟨gw, 4, none⟩ = some sv := fun z => (hW7.plus z).cell 4
    have c4 : ∀ z, (plus W7 z).cell? ⟨tb, 4, none⟩ = some (.slice (some ⟨gd, od, none⟩) t.draws.length cd) := fun z => by rw [(hT7.plus z).cell, treC_4]
    have cdr : ∀ z, (plus W7 z).cell? ⟨gd, od + ep, none⟩ = some (.int .u32 (n32 draw)) := fun z => by
      have h1 := HF.out.2.2.2.2.2
      rw [HE.out, hdrw] at h1
      exact ((hb7.trans ((plus_below W7 z).mono hb7.size)).cell (p := ⟨gd, od + ep, none⟩) HF.out.2.2.2.2.1).trans h1
    have HB7 := Lib.hid (And.intro hR7 (And.intro hb7 (And.intro hTb7 (HWb.out.2.2.next hb7))))
    have HDr := Lib.hid hdrw
    clear H6 hb67 hT7 hR7 hb7 hdrw hW7 hTt hTb7 HWb
    iterate 21 (refine mix_plain rfl ?_; (first
      | (refine wpQuiet_nilCheck rfl (.tmp 33) rfl _ rfl ?_; simp only [Act.put, List.setIfInBounds_toArray, List.set_cons_zero, List.set_cons_succ])
      | (refine wpQuiet_nilCheck rfl (.tmp 37) rfl _ rfl ?_; simp only [Act.put, List.setIfInBounds_toArray, List.set_cons_zero, List.set_cons_succ])
      | (refine wpQuiet_nilCheck rfl (.tmp 41) rfl _ rfl ?_; simp only [Act.put, List.setIfInBounds_toArray, List.set_cons_zero, List.set_cons_succ])
      | (refine wpQuiet_load rfl 40 (.tmp 9) rfl hbk rfl _ _ _ _ (fun _ ⟨e, he⟩ => by rw [he]; exact hD7.plus e) Tryd.underlying40 rfl (by rw [headC_size]; kernel_rfl) ?_; simp only [Act.put, List.setIfInBounds_toArray, List.set_cons_zero, List.set_cons_succ])
      | go_big_quiet_step (fail)); refine wpQuiet_nil ?_)
    clear cw0 cw4 c4 cdr hD7
    obtain ⟨key, hkey⟩ : ∃ key, keyL' seed (k : Int) (ep : Int) draw = key := ⟨_, rfl⟩
    have mk := rkey_any (.pointer (some ⟨g2, 0, none⟩)) sv seed (k : Int) (ep : Int) draw W7 HB7.out.2.2.1 HB7.out.2.2.2 (by omega) (by omega) (by omega)
    rw [hkey] at mk
    have HK := Lib.hid (show keyL' seed (k : Int) (ep : Int) draw = key ∧ key.length = 32 from ⟨hkey, by rw [← hkey]; exact mac_length _ _⟩)
    clear hkey
    refine mix_only_in rfl (fun K hK => ?_)
    go_wp2_with fail
    refine mk.mono ?_
    clear mk
    rintro e W8 ⟨rfl, hb8⟩
    go_wp2_with fail
    refine hK _ _ (below_plus hb8) ?_
    clear hK K
    obtain ⟨tg, htg⟩ : ∃ tg, tagL key hd = tg := ⟨_, rfl⟩
    have ms := rsign_any (.pointer (some ⟨g2, 0, none⟩)) key HK.out.2 hd HD.out.2.1 W8 (HB7.out.2.2.1.nxt hb8)
    rw [htg] at ms
    have HT := Lib.hid htg
    clear htg
    refine mix_only_in rfl (fun K hK => ?_)
    go_wp2_with fail
    refine ms.mono ?_
    clear ms
    rintro e W9 ⟨rfl, hb9⟩
    have hb79 := hb8.trans (hb9.mono hb8.size)
    go_wp2_with fail
    refine hK _ _ (below_plus hb79) ?_
    clear hK K
    have hR9 := HB7.out.1.below hb79 HB7.out.1.lt
    have hb9w := HB7.out.2.1.trans (hb79.mono HB7.out.2.1.size)
    clear hb8 hb9
    refine mix_done ?_
    simp only [List.drop_succ_cons, List.drop_zero]
    refine wpList_storeB rfl rfl 42 (.tmp 6) (.tmp 55) rfl (w.heap.size + 1) 0 rfl (sigC hd tg) rfl _ _ hR9 (by rw [sigC_size]; kernel_rfl) (by rw [sigC_size, sigC_size]; omega) (sigC_one _ _) ?_
    intro W10 hR10 hg10
    rw [copied_all _ _ (by rw [sigC_size, sigC_size])] at hR10
    have hb10 := below_only hb9w hg10 (by omega) hb9w.size
    go_wp2_with fail
    refine bodyPost_ret (results_cell_row (p := 6) (ty := 42) rfl _ _ (w.heap.size + 1) _ _ _ _ rfl hR10 Tryd.underlying42 rfl (by rw [sigC_size]; kernel_rfl)) rfl ⟨?_, hb10⟩
    have e1 : pubH wd s.clock k t = hd := by unfold pubH; rw [HE.out, HR.out.1, HD.out.1]
    have e2 : pubT wd seed s.clock k t = tg := by unfold pubT; rw [HE.out, HDr.out, HK.out.1, e1, HT.out]
    rw [e1, e2]
end Go.Proofs.YtcdkadidkkbhpaaDoor
