/- Texts that stand behind one another: VerM. No condition. -/
import Derived.Test.YteonmcconpfkjaaDoorP19
/- The walk of the reference's Leaf. No condition. -/
namespace Go.Proofs.YteonmcconpfkjaaDoor
open Go Go.RowKit
attribute [local irreducible] mixW
attribute [local go_sem] n8_lo n8_hi n64_lo n64_hi n32_lo n32_hi
set_option maxHeartbeats 3000000 in
set_option maxRecDepth 100000 in
theorem rleaf_any (h : Value) (n : Nat) (v : Value) (b : List UInt8) (i s : Nat) (hi64 : i ≤ 18446744073709551615) (hs64 : s ≤ 18446744073709551615) (pv : Value) (ps : List (List UInt8)) (hall : ∀ d ∈ ps, d.length = 32) (hps : ps.length ≤ 1000000) (root : List UInt8) (hroot : root.length = 32) (w : World) (hh : Hsr w w.heap.size h n) (hv : BSl w w.heap.size v b) (hl : b.length ≤ 140737488351232) (hp : DX w pv ps) :
    Calls Tryd.prog 46 #[h, v, .int .u64 i, .int .u64 s, pv, .agg (dat root)] w fun e w' => e = .returned (.bool (leafS n b i s ps root)) ∧ Below w.heap.size w w' := by
  obtain ⟨q, hq⟩ : ∃ q, leafS n b i s ps root = q := ⟨_, rfl⟩
  rw [hq]
  rw [wayO_leaf] at hq
  have Hq0 := Lib.hid hq
  clear hq
  have hD := Blk.new w 43 (dat root)
  have hb0 := below_new1 w (Obj.cells (dat root) 43)
  obtain ⟨g, t, rfl, hg, hB, hT, hn1, hn2⟩ := hh
  have Hh : Hid (Hsr w w.heap.size (.pointer (some ⟨g, 0, none⟩)) n) := Lib.hid ⟨g, t, rfl, hg, hB, hT, hn1, hn2⟩
  obtain ⟨gt, rfl, hgt, hTb⟩ := hT
  have Htb : Hid (Tbl w w.heap.size (.pointer (some ⟨gt, 0, none⟩))) := Lib.hid ⟨gt, rfl, hgt, hTb⟩
  have Hgc : Hid (w.cell? ⟨g, 0, none⟩ = some (.pointer (some ⟨gt, 0, none⟩)) ∧ w.cell? ⟨g, 1, none⟩ = some (.int .i64 n) ∧ g < w.heap.size) := Lib.hid ⟨by have := hB.cell 0; simpa using this, by have := hB.cell 1; simpa using this, hg⟩
  clear hTb hB
  have HA := Lib.hid (And.intro hall (And.intro hroot (And.intro hv hp)))
  clear hall hroot hv hp
  go_enter Tryd.func46, Tryd.ntmps46
  go_wp2_with fail
  refine calls_at (fun W => Blk W w.heap.size 43 (dat root) ∧ Below w.heap.size w W) ⟨hD, hb0⟩ ?_
  clear hD hb0
  rintro W ⟨hD, hbel⟩
  refine (rway_any _ n v b i s hi64 hs64 pv ps HA.out.1 hps W (Hh.out.nxt hbel) (HA.out.2.2.1.next hbel) hl (HA.out.2.2.2.next hbel)).mono ?_
  rintro e W1 ⟨⟨u, rfl, hX⟩, hb1⟩
  replace hD := hD.below hb1 hD.lt
  replace hbel := hbel.trans (hb1.mono hbel.size)
  clear hb1
  obtain ⟨o, ho⟩ : ∃ o, wayO n b i s ps = o := ⟨_, rfl⟩
  have hq := Hq0.out
  rw [ho] at hX hq ⊢
  have Ho := Lib.hid ho
  clear ho
  cases o with
  | none =>
    have Hq := Lib.hid (show q = false from hq.symm)
    clear hX hq
    simp only [Option.isSome_none]
    go_wp2_with fail
    try rw [Exit.noGoto_ret]
    go_ret
    exact ⟨by rw [Hq.out]; rfl, hbel⟩
  | some X =>
  have hq : decide (lastH n X = cutL root (n : Int)) = q := hq
  have hlen1 := wayO_len _ _ _ _ _ _ Ho.out
  have hXl := wayO_texts n b i s ps X hn2 hl Ho.out
  have hX1 := hX X rfl
  obtain ⟨A1, c1, vs1, rfl, x2, x3, x4, x5, x6⟩ := hX1
  have hX2 : SSl W1 W1.heap.size (.slice A1 X.length c1) X := ⟨A1, c1, vs1, rfl, x2, x3, x4, x5, x6⟩
  clear x2 x3 x4 x5 x6 vs1 hX
  simp only [Option.isSome_some]
  obtain ⟨N, hN⟩ : ∃ N, X.length = N := ⟨_, rfl⟩
  rw [hN] at hX2 hlen1 ⊢
  obtain ⟨K, hK⟩ : ∃ K, K + 1 = N := ⟨N - 1, by omega⟩
  have hK1 : (N : Int) - 1 = (K : Int) := by omega
  have hK2 : (K : Int) < (N : Int) := by omega
  have hK6 : K ≤ 1000001 := by omega
  have hKX : K < X.length := by omega
  obtain ⟨xb, xo, xu, exA, hxb, hxc, hxu⟩ := hX2.cellAt K hKX
  subst exA
  have hlx := lastH_at n X K (by omega)
  have hxlen : (X.getD K []).length ≤ 140737488351233 := hXl _ (by rw [List.getD_eq_getElem?_getD, List.getElem?_eq_getElem hKX]; exact List.getElem_mem _)
  have hN6 : N ≤ 1000001 := by omega
  clear hlen1 hN hK hKX hXl hX2 Hq0 Ho
  generalize X.getD K [] = tX at hxu hlx hxlen
  have hll := lastH_length n X
  generalize lastH n X = lX at hq hlx hll
  have HL := Lib.hid (And.intro hlx (And.intro hxlen (And.intro hll hq)))
  have Hxu := Lib.hid hxu
  clear hlx hxlen hll hq hxu
  have hc0 : W1.cell? ⟨g, 0, none⟩ = some (.pointer (some ⟨gt, 0, none⟩)) := (hbel.cell (p := ⟨g, 0, none⟩) Hgc.out.2.2).trans Hgc.out.1
  have hc1 : W1.cell? ⟨g, 1, none⟩ = some (.int .i64 n) := (hbel.cell (p := ⟨g, 1, none⟩) Hgc.out.2.2).trans Hgc.out.2.1
  have hgG : g < W1.heap.size := Nat.lt_of_lt_of_le Hgc.out.2.2 hbel.size
  have Htb1 := Lib.hid (Htb.out.nxt hbel)
  have Hbel := Lib.hid (And.intro hbel hD)
  clear hbel hD Hgc Htb
  go_upto_region 4 with fail
  go_cut [15] (fun p wx => ∃ G, p = .pointer (some ⟨G, 0, none⟩) ∧ Blk wx G 43 (dat lX) ∧ Below W1.heap.size W1 wx)
  case first =>
    refine wp_region_mixP (.plain 0 <| .plain 1 <| .plain 2 <| .plain 3 <| .plain 4 <| .plain 5 <| .plain 6 <| .plain 7 <| .plain 8 <| .plain 9 <| .plain 11 <| .plain 12 <| .plain 13 <| .plain 14 <| .two 10 16 (.two 15 16 (.only 16 <| .only 17 <| .done) (.only 15 <| .only 17 <| .done)) (.only 10 <| .only 15 <| .only 17 <| .done)) (by kernel_rfl) (by kernel_rfl) (fun W2 hb1 => ?_)
    have hd0 := (hb1.cell (p := ⟨g, 0, none⟩) hgG).trans hc0
    have hd1 := (hb1.cell (p := ⟨g, 1, none⟩) hgG).trans hc1
    have hd2 := (hb1.cell (p := ⟨xb, xo + K, none⟩) hxb).trans hxc
    have hgG1 : g < W2.heap.size := Nat.lt_of_lt_of_le hgG hb1.size
    have hgl1 : xb < W2.heap.size := Nat.lt_of_lt_of_le hxb hb1.size
    clear hc0 hc1 hxc
    iterate 14 (refine mix_plain rfl ?_; (first
      | (refine wpQuiet_nilCheck rfl (.tmp 27) rfl _ rfl ?_; simp only [Act.put, List.setIfInBounds_toArray, List.set_cons_zero, List.set_cons_succ])
      | (refine wpQuiet_nilCheck rfl (.tmp 38) rfl _ rfl ?_; simp only [Act.put, List.setIfInBounds_toArray, List.set_cons_zero, List.set_cons_succ])
      | (refine wpQuiet_load1 rfl _ (.tmp 29) rfl _ rfl _ Tryd.underlying33 rfl _ (fun _ ⟨e, he⟩ => by rw [he, plus_cell _ _ _ hgG1]; exact hd0) ?_; simp only [Act.put, List.setIfInBounds_toArray, List.set_cons_zero, List.set_cons_succ])
      | (refine wpQuiet_load1 rfl _ (.tmp 40) rfl _ rfl _ Tryd.underlying3 rfl _ (fun _ ⟨e, he⟩ => by rw [he, plus_cell _ _ _ hgG1]; exact hd1) ?_; simp only [Act.put, List.setIfInBounds_toArray, List.set_cons_zero, List.set_cons_succ])
      | (refine wpQuiet_load1 rfl _ (.tmp 35) rfl _ rfl _ Tryd.underlying22 rfl _ (fun _ ⟨e, he⟩ => by rw [he, plus_cell _ _ _ hgl1]; exact hd2) ?_; simp only [Act.put, List.setIfInBounds_toArray, List.set_cons_zero, List.set_cons_succ])
      | go_big_quiet_step (fail)); refine wpQuiet_nil ?_)
    clear hd0 hd1 hd2 hgG1 hgl1
    have hbw := Below.refl W2.heap.size W2
    refine mix_two_in rfl rfl (fun K hK => ?_) (fun K hK => ?_)
    · go_wp2_with fail
      refine (rsum_any _ _ tX W2 (Htb1.out.nxt (hb1.trans (hbw.mono hb1.size))) (Hxu.out.next (hb1.trans (hbw.mono hb1.size))) (by have := HL.out.2.1; omega)).mono ?_
      rintro e W3 ⟨rfl, hb2⟩
      go_wp2_with fail
      refine hK _ _ (below_plus (hbw.trans (hb2.mono hbw.size))) ?_
      clear hK K
      replace hbw := hbw.trans (hb2.mono hbw.size)
      clear hb2
      refine mix_two_in rfl rfl (fun K hK => ?_) (fun K hK => ?_)
      · go_wp2_with fail
        refine (rcut_any (sha tX) (sha_length tX) (n : Int) W3).mono ?_
        rintro e W4 ⟨rfl, hb2⟩
        go_wp2_with fail
        refine hK _ _ (below_plus (hbw.trans (hb2.mono hbw.size))) ?_
        clear hK K
        replace hbw := hbw.trans (hb2.mono hbw.size)
        clear hb2
        refine mix_only_in rfl (fun K hK => ?_)
        go_wp2_with fail
        have hbw3 := hbw.trans ((below_new1 W4 (Obj.cells (arr 32 fun _ => 0) 43)).mono hbw.size)
        refine hK _ _ (below_plus hbw3) ?_
        clear hK K
        refine mix_atC (fun W => Blk W W4.heap.size 43 (arr 32 fun _ => 0) ∧ W2.heap.size ≤ W4.heap.size ∧ Below W2.heap.size W2 W) ⟨Blk.new W4 43 (arr 32 fun _ => 0), hbw.size, hbw3⟩ ?_
        clear hbw hbw3
        obtain ⟨gD, hgD⟩ : ∃ g, W4.heap.size = g := ⟨_, rfl⟩
        rw [hgD]
        clear hgD
        rintro W4a ⟨hD, hGD, hbw⟩
        refine mix_only_in rfl (fun K hK => ?_)
        refine wpList_storeDat rfl rfl 43 (.tmp 15) (.tmp 42) rfl gD rfl lX _ (congrArg (fun z => Value.agg (dat z)) HL.out.1) _ hD (by kernel_rfl) ?_
        intro W9 hD9 hon9
        have hbw9 := below_only hbw hon9 hGD hbw.size
        go_wp2_with fail
        refine hK _ _ (below_plus hbw9) ?_
        clear hK K
        refine mix_done ?_
        go_wp2_with fail
        go_meet
        exact ⟨gD, rfl, hD9, hb1.trans (hbw9.mono hb1.size)⟩
      · go_wp2_with fail
        have hbw3 := hbw.trans ((below_new1 W3 (Obj.cells (arr 32 fun _ => 0) 43)).mono hbw.size)
        refine hK _ _ (below_plus hbw3) ?_
        clear hK K
        refine mix_atC (fun W => Blk W W3.heap.size 43 (arr 32 fun _ => 0) ∧ W2.heap.size ≤ W3.heap.size ∧ Below W2.heap.size W2 W) ⟨Blk.new W3 43 (arr 32 fun _ => 0), hbw.size, hbw3⟩ ?_
        clear hbw hbw3
        obtain ⟨gD, hgD⟩ : ∃ g, W3.heap.size = g := ⟨_, rfl⟩
        rw [hgD]
        clear hgD
        rintro W3a ⟨hD, hGD, hbw⟩
        refine mix_only_in rfl (fun K hK => ?_)
        go_wp2_with fail
        refine (rcut_any (sha tX) (sha_length tX) (n : Int) W3a).mono ?_
        rintro e W4 ⟨rfl, hb2⟩
        go_wp2_with fail
        refine hK _ _ (below_plus (hbw.trans (hb2.mono hbw.size))) ?_
        clear hK K
        replace hD := hD.below hb2 hD.lt
        replace hbw := hbw.trans (hb2.mono hbw.size)
        clear hb2
        refine mix_only_in rfl (fun K hK => ?_)
        refine wpList_storeDat rfl rfl 43 (.tmp 15) (.tmp 42) rfl gD rfl lX _ (congrArg (fun z => Value.agg (dat z)) HL.out.1) _ hD (by kernel_rfl) ?_
        intro W9 hD9 hon9
        have hbw9 := below_only hbw hon9 hGD hbw.size
        go_wp2_with fail
        refine hK _ _ (below_plus hbw9) ?_
        clear hK K
        refine mix_done ?_
        go_wp2_with fail
        go_meet
        exact ⟨gD, rfl, hD9, hb1.trans (hbw9.mono hb1.size)⟩
    · go_wp2_with fail
      have hbw3 := hbw.trans ((below_new1 W2 (Obj.cells (arr 32 fun _ => 0) 43)).mono hbw.size)
      refine hK _ _ (below_plus hbw3) ?_
      clear hK K
      refine mix_atC (fun W => Blk W W2.heap.size 43 (arr 32 fun _ => 0) ∧ W2.heap.size ≤ W2.heap.size ∧ Below W2.heap.size W2 W) ⟨Blk.new W2 43 (arr 32 fun _ => 0), hbw.size, hbw3⟩ ?_
      clear hbw hbw3
      obtain ⟨gD, hgD⟩ : ∃ g, W2.heap.size = g := ⟨_, rfl⟩
      rw [hgD]
      rintro W2a ⟨hD, hGD, hbw⟩
      rw [← hgD] at hbw
      replace hGD : W2.heap.size ≤ gD := Nat.le_of_eq hgD
      clear hgD
      refine mix_only_in rfl (fun K hK => ?_)
      go_wp2_with fail
      refine (rsum_any _ _ tX W2a (Htb1.out.nxt (hb1.trans (hbw.mono hb1.size))) (Hxu.out.next (hb1.trans (hbw.mono hb1.size))) (by have := HL.out.2.1; omega)).mono ?_
      rintro e W3 ⟨rfl, hb2⟩
      go_wp2_with fail
      refine hK _ _ (below_plus (hbw.trans (hb2.mono hbw.size))) ?_
      clear hK K
      replace hD := hD.below hb2 hD.lt
      replace hbw := hbw.trans (hb2.mono hbw.size)
      clear hb2
      refine mix_only_in rfl (fun K hK => ?_)
      go_wp2_with fail
      refine (rcut_any (sha tX) (sha_length tX) (n : Int) W3).mono ?_
      rintro e W4 ⟨rfl, hb2⟩
      go_wp2_with fail
      refine hK _ _ (below_plus (hbw.trans (hb2.mono hbw.size))) ?_
      clear hK K
      replace hD := hD.below hb2 hD.lt
      replace hbw := hbw.trans (hb2.mono hbw.size)
      clear hb2
      refine mix_only_in rfl (fun K hK => ?_)
      refine wpList_storeDat rfl rfl 43 (.tmp 15) (.tmp 42) rfl gD rfl lX _ (congrArg (fun z => Value.agg (dat z)) HL.out.1) _ hD (by kernel_rfl) ?_
      intro W9 hD9 hon9
      have hbw9 := below_only hbw hon9 hGD hbw.size
      go_wp2_with fail
      refine hK _ _ (below_plus hbw9) ?_
      clear hK K
      refine mix_done ?_
      go_wp2_with fail
      go_meet
      exact ⟨gD, rfl, hD9, hb1.trans (hbw9.mono hb1.size)⟩
  case rest =>
    obtain ⟨G, rfl, hE, hb2⟩ := hcut
    have hD := Hbel.out.2.below hb2 Hbel.out.2.lt
    have hbel := Hbel.out.1.trans (hb2.mono Hbel.out.1.size)
    have hd1 : wc.cell? ⟨g, 1, none⟩ = some (.int .i64 n) := (hb2.cell (p := ⟨g, 1, none⟩) hgG).trans hc1
    have hg2 : g < wc.heap.size := Nat.lt_of_lt_of_le hgG hb2.size
    clear hc0 hc1 hxc hxb hgG Hbel hb2
    go_upto_region 5 with fail
    refine wp_region_mixP (.plain 0 <| .plain 1 <| .plain 2 <| .plain 3 <| .plain 4 <| .plain 5 <| .only 6 <| .plain 7 <| .plain 8 <| .done) (by kernel_rfl) (by kernel_rfl) (fun W2 hb1 => ?_)
    have hE2 := hE.below hb1 hE.lt
    have hD2 := hD.below hb1 hD.lt
    have hd2 := (hb1.cell (p := ⟨g, 1, none⟩) hg2).trans hd1
    have hg3 : g < W2.heap.size := Nat.lt_of_lt_of_le hg2 hb1.size
    replace hbel := hbel.trans (hb1.mono hbel.size)
    clear hd1 hg2 hE hD hb1
    iterate 6 (refine mix_plain rfl ?_; (first
      | (refine wpQuiet_load rfl _ (.tmp 15) rfl G rfl _ _ _ _ (fun _ ⟨e, he⟩ => by rw [he]; exact hE2.plus e) Tryd.underlying43 rfl (by kernel_rfl) ?_; simp only [Act.put, List.setIfInBounds_toArray, List.set_cons_zero, List.set_cons_succ])
      | (refine wpQuiet_load rfl _ (.tmp 11) rfl w.heap.size rfl _ _ _ _ (fun _ ⟨e, he⟩ => by rw [he]; exact hD2.plus e) Tryd.underlying43 rfl (by kernel_rfl) ?_; simp only [Act.put, List.setIfInBounds_toArray, List.set_cons_zero, List.set_cons_succ])
      | (refine wpQuiet_nilCheck rfl (.tmp 45) rfl _ rfl ?_; simp only [Act.put, List.setIfInBounds_toArray, List.set_cons_zero, List.set_cons_succ])
      | (refine wpQuiet_load1 rfl _ (.tmp 47) rfl _ rfl _ Tryd.underlying3 rfl _ (fun _ ⟨e, he⟩ => by rw [he, plus_cell _ _ _ hg3]; exact hd2) ?_; simp only [Act.put, List.setIfInBounds_toArray, List.set_cons_zero, List.set_cons_succ])
      | go_big_quiet_step (fail)); refine wpQuiet_nil ?_)
    clear hd2 hg3 hE2 hD2
    refine mix_only rfl (fun K hK => ?_)
    go_wp2_with fail
    refine (rcut_any root HA.out.2.1 (n : Int) W2).mono ?_
    rintro e W3 ⟨rfl, hb1⟩
    go_wp2_with fail
    refine hK _ _ hb1 ?_
    clear hK K
    replace hbel := hbel.trans (hb1.mono hbel.size)
    clear hb1
    have Hc := Lib.hid (cutL_length root (n : Int) HA.out.2.1)
    generalize cutL root (n : Int) = c at Hc HL ⊢
    refine mix_plain rfl ?_
    refine wpQuiet_eqD rfl (.tmp 43) (.tmp 49) _ rfl lX c rfl rfl HL.out.2.2.1 Hc.out q HL.out.2.2.2 ?_
    simp only [Act.put, List.setIfInBounds_toArray, List.set_cons_zero, List.set_cons_succ]
    refine wpQuiet_nil ?_
    refine mix_plain rfl ?_
    go_big_quiet_step (fail)
    refine wpQuiet_nil ?_
    refine mix_done ?_
    go_wp2_with fail
    try rw [Exit.noGoto_ret]
    go_ret
    exact ⟨rfl, hbel⟩
end Go.Proofs.YteonmcconpfkjaaDoor
