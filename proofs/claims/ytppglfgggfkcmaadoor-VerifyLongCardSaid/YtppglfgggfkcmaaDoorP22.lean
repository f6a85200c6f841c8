/- Texts that stand behind one another: VerM, VerN, VerO. No condition. -/
import Derived.Test.YtppglfgggfkcmaaDoorP21
import Derived.Test.YtppglfgggfkcmaaDoorP11
import Derived.Test.YtppglfgggfkcmaaDoorP5
/- The walk of the reference's Leaf. No condition. -/
namespace Go.Proofs.YtppglfgggfkcmaaDoor
open Go Go.RowKit
attribute [local irreducible] mixW
attribute [local go_sem] n8_lo n8_hi n64_lo n64_hi n32_lo n32_hi
set_option maxHeartbeats 3000000 in
set_option maxRecDepth 100000 in
theorem rleaf_any (h : Value) (n : Nat) (v : Value) (b : List UInt8) (i s : Nat) (hi64 : i ≤ 18446744073709551615) (hs64 : s ≤ 18446744073709551615) (pv : Value) (ps : List (List UInt8)) (hall : ∀ d ∈ ps, d.length = 32) (hps : ps.length ≤ 1000000) (root : List UInt8) (hroot : root.length = 32) (w : World) (hh : Hsr w w.heap.size h n) (hv : BSl w w.heap.size v b) (hl : b.length ≤ 140737488351232) (hp : DX w pv ps) :
    Calls Tryd.prog 15 #[h, v, .int .u64 i, .int .u64 s, pv, .agg (dat root)] w fun e w' => e = .returned (.bool (leafS n b i s ps root)) ∧ Below w.heap.size w w' := by
  obtain ⟨q, hq⟩ : ∃ q, leafS n b i s ps root = q := ⟨_, rfl⟩
  rw [hq]
  rw [wayO_leaf] at hq
  have Hq0 := Lib.hid hq
  clear hq
  have hD := Blk.new w 26 (dat root)
  have hb0 := below_new1 w (Obj.cells (dat root) 26)
  obtain ⟨g, t, rfl, hg, hB, hT, hn1, hn2⟩ := hh
  have Hh : Hid (Hsr w w.heap.size (.pointer (some ⟨g, 0, none⟩)) n) := Lib.hid ⟨g, t, rfl, hg, hB, hT, hn1, hn2⟩
  obtain ⟨gt, rfl, hgt, hTb⟩ := hT
  have Htb : Hid (Tbl w w.heap.size (.pointer (some ⟨gt, 0, none⟩))) := Lib.hid ⟨gt, rfl, hgt, hTb⟩
  have Hgc : Hid (w.cell? ⟨g, 0, none⟩ = some (.pointer (some ⟨gt, 0, none⟩)) ∧ w.cell? ⟨g, 1, none⟩ = some (.int .i64 n) ∧ g < w.heap.size) := Lib.hid ⟨by have := hB.cell 0; simpa using this, by have := hB.cell 1; simpa using this, hg⟩
  clear hTb hB
  have HA := Lib.hid (And.intro hall (And.intro hroot (And.intro hv hp)))
  clear hall hroot hv hp
  go_enter Tryd.func15, Tryd.ntmps15
  go_wp2_with fail
  refine calls_at (fun W => Blk W w.heap.size 26 (dat root) ∧ Below w.heap.size w W) ⟨hD, hb0⟩ ?_
  clear hD hb0
  rintro W ⟨hD, hbel⟩
  refine (rway_any _ n v b i s hi64 hs64 pv ps HA.out.1 hps W (Hh.out.nxt hbel) (HA.out.2.2.1.next hbel) hl (HA.out.2.2.2.next hbel)).mono ?_
  rintro e W1 ⟨⟨u, rfl, hX⟩, hb1⟩
  replace hD := hD.below hb1 hD.lt
  replace hbel := hbel.trans (hb1.mono hbel.size)
  clear hb1
  obtain ⟨o, ho⟩ : ∃ o, wayO n b i s ps = o := ⟨_, rfl⟩
  have hq := Hq0.out
  rw [ho] at hX hq ⊢
  have Ho := Lib.hid ho
  clear ho
  cases o with
  | none =>
    have Hq := Lib.hid (show q = false from hq.symm)
    clear hX hq
    simp only [Option.isSome_none]
    go_wp2_with fail
    try rw [Exit.noGoto_ret]
    go_ret
    exact ⟨by rw [Hq.out]; rfl, hbel⟩
  | some X =>
  have hq : decide (lastH n X = cutL root (n : Int)) = q := hq
  have hlen1 := wayO_len _ _ _ _ _ _ Ho.out
  have hXl := wayO_texts n b i s ps X hn2 hl Ho.out
  have hX1 := hX X rfl
  obtain ⟨A1, c1, vs1, rfl, x2, x3, x4, x5, x6⟩ := hX1
  have hX2 : SSl W1 W1.heap.size (.slice A1 X.length c1) X := ⟨A1, c1, vs1, rfl, x2, x3, x4, x5, x6⟩
  clear x2 x3 x4 x5 x6 vs1 hX
  simp only [Option.isSome_some]
  obtain ⟨N, hN⟩ : ∃ N, X.length = N := ⟨_, rfl⟩
  rw [hN] at hX2 hlen1 ⊢
  obtain ⟨K, hK⟩ : ∃ K, K + 1 = N := ⟨N - 1, by omega⟩
  have hK1 : (N : Int) - 1 = (K : Int) := by omega
  have hK2 : (K : Int) < (N : Int) := by omega
  have hK6 : K ≤ 1000001 := by omega
  have hKX : K < X.length := by omega
  obtain ⟨xb, xo, xu, exA, hxb, hxc, hxu⟩ := hX2.cellAt K hKX
  subst exA
  have hlx := lastH_at n X K (by omega)
  have hxlen : (X.getD K []).length ≤ 140737488351233 := hXl _ (by rw [List.getD_eq_getElem?_getD, List.getElem?_eq_getElem hKX]; exact List.getElem_mem _)
  have hN6 : N ≤ 1000001 := by omega
  clear hlen1 hN hK hKX hXl hX2 Hq0 Ho
  generalize X.getD K [] = tX at hxu hlx hxlen
  have hll := lastH_length n X
  generalize lastH n X = lX at hq hlx hll
  have HL := Lib.hid (And.intro hlx (And.intro hxlen (And.intro hll hq)))
  have Hxu := Lib.hid hxu
  clear hlx hxlen hll hq hxu
  have hc0 : W1.cell? ⟨g, 0, none⟩ = some (.pointer (some ⟨gt, 0, none⟩)) := (hbel.cell (p := ⟨g, 0, none⟩) Hgc.out.2.2).trans Hgc.out.1
  have hc1 : W1.cell? ⟨g, 1, none⟩ = some (.int .i64 n) := (hbel.cell (p := ⟨g, 1, none⟩) Hgc.out.2.2).trans Hgc.out.2.1
  have hgG : g < W1.heap.size := Nat.lt_of_lt_of_le Hgc.out.2.2 hbel.size
  have Htb1 := Lib.hid (Htb.out.nxt hbel)
  have Hbel := Lib.hid (And.intro hbel hD)
  clear hbel hD Hgc Htb
  go_upto_region 4 with fail
  go_cut [15] (fun p wx => ∃ G, p = .pointer (some ⟨G, 0, none⟩) ∧ Blk wx G 26 (dat lX) ∧ Below W1.heap.size W1 wx)
  case first =>
    refine wp_region_mixP (.plain 0 <| .plain 1 <| .plain 2 <| .plain 3 <| .plain 4 <| .plain 5 <| .plain 6 <| .plain 7 <| .plain 8 <| .plain 9 <| .plain 11 <| .plain 12 <| .plain 13 <| .plain 14 <| .two 10 16 (.two 15 16 (.only 16 <| .only 17 <| .done) (.only 15 <| .only 17 <| .done)) (.only 10 <| .only 15 <| .only 17 <| .done)) (by kernel_rfl) (by kernel_rfl) (fun W2 hb1 => ?_)
    have hd0 := (hb1.cell (p := ⟨g, 0, none⟩) hgG).trans hc0
    have hd1 := (hb1.cell (p := ⟨g, 1, none⟩) hgG).trans hc1
    have hd2 := (hb1.cell (p := ⟨xb, xo + K, none⟩) hxb).trans hxc
    have hgG1 : g < W2.heap.size := Nat.lt_of_lt_of_le hgG hb1.size
    have hgl1 : xb < W2.heap.size := Nat.lt_of_lt_of_le hxb hb1.size
    clear hc0 hc1 hxc
    iterate 14 (refine mix_plain rfl ?_; (first
      | (refine wpQuiet_nilCheck rfl (.tmp 27) rfl _ rfl ?_; simp only [Act.put, List.setIfInBounds_toArray, List.set_cons_zero, List.set_cons_succ])
      | (refine wpQuiet_nilCheck rfl (.tmp 38) rfl _ rfl ?_; simp only [Act.put, List.setIfInBounds_toArray, List.set_cons_zero, List.set_cons_succ])
      | (refine wpQuiet_load1 rfl _ (.tmp 29) rfl _ rfl _ Tryd.underlying47 rfl _ (fun _ ⟨e, he⟩ => by rw [he, plus_cell _ _ _ hgG1]; exact hd0) ?_; simp only [Act.put, List.setIfInBounds_toArray, List.set_cons_zero, List.set_cons_succ])
      | (refine wpQuiet_load1 rfl _ (.tmp 40) rfl _ rfl _ Tryd.underlying3 rfl _ (fun _ ⟨e, he⟩ => by rw [he, plus_cell _ _ _ hgG1]; exact hd1) ?_; simp only [Act.put, List.setIfInBounds_toArray, List.set_cons_zero, List.set_cons_succ])
      | (refine wpQuiet_load1 rfl _ (.tmp 35) rfl _ rfl _ Tryd.underlying22 rfl _ (fun _ ⟨e, he⟩ => by rw [he, plus_cell _ _ _ hgl1]; exact hd2) ?_; simp only [Act.put, List.setIfInBounds_toArray, List.set_cons_zero, List.set_cons_succ])
      | go_big_quiet_step (fail)); refine wpQuiet_nil ?_)
    clear hd0 hd1 hd2 hgG1 hgl1
    have hbw := Below.refl W2.heap.size W2
    refine mix_two_in rfl rfl (fun K hK => ?_) (fun K hK => ?_)
    · go_wp2_with fail
      refine (rsum_any _ _ tX W2 (Htb1.out.nxt (hb1.trans (hbw.mono hb1.size))) (Hxu.out.next (hb1.trans (hbw.mono hb1.size))) (by have := HL.out.2.1; omega)).mono ?_
      rintro e W3 ⟨rfl, hb2⟩
      go_wp2_with fail
      refine hK _ _ (below_plus (hbw.trans (hb2.mono hbw.size))) ?_
      clear hK K
      replace hbw := hbw.trans (hb2.mono hbw.size)
      clear hb2
      refine mix_two_in rfl rfl (fun K hK => ?_) (fun K hK => ?_)
      · go_wp2_with fail
        refine (rcut_any (sha tX) (sha_length tX) (n : Int) W3).mono ?_
        rintro e W4 ⟨rfl, hb2⟩
        go_wp2_with fail
        refine hK _ _ (below_plus (hbw.trans (hb2.mono hbw.size))) ?_
        clear hK K
        replace hbw := hbw.trans (hb2.mono hbw.size)
        clear hb2
        refine mix_only_in rfl (fun K hK => ?_)
        go_wp2_with fail
        have hbw3 := hbw.trans ((below_new1 W4 (Obj.cells (arr 32 fun _ => 0) 26)).mono hbw.size)
        refine hK _ _ (below_plus hbw3) ?_
        clear hK K
        refine mix_atC (fun W => Blk W W4.heap.size 26 (arr 32 fun _ => 0) ∧ W2.heap.size ≤ W4.heap.size ∧ Below W2.heap.size W2 W) ⟨Blk.new W4 26 (arr 32 fun _ => 0), hbw.size, hbw3⟩ ?_
        clear hbw hbw3
        obtain ⟨gD, hgD⟩ : ∃ g, W4.heap.size = g := ⟨_, rfl⟩
        rw [hgD]
        clear hgD
        rintro W4a ⟨hD, hGD, hbw⟩
        refine mix_only_in rfl (fun K hK => ?_)
        refine wpList_storeDat rfl rfl 26 (.tmp 15) (.tmp 42) rfl gD rfl lX _ (congrArg (fun z => Value.agg (dat z)) HL.out.1) _ hD (by kernel_rfl) ?_
        intro W9 hD9 hon9
        have hbw9 := below_only hbw hon9 hGD hbw.size
        go_wp2_with fail
        refine hK _ _ (below_plus hbw9) ?_
        clear hK K
        refine mix_done ?_
        go_wp2_with fail
        go_meet
        exact ⟨gD, rfl, hD9, hb1.trans (hbw9.mono hb1.size)⟩
      · go_wp2_with fail
        have hbw3 := hbw.trans ((below_new1 W3 (Obj.cells (arr 32 fun _ => 0) 26)).mono hbw.size)
        refine hK _ _ (below_plus hbw3) ?_
        clear hK K
        refine mix_atC (fun W => Blk W W3.heap.size 26 (arr 32 fun _ => 0) ∧ W2.heap.size ≤ W3.heap.size ∧ Below W2.heap.size W2 W) ⟨Blk.new W3 26 (arr 32 fun _ => 0), hbw.size, hbw3⟩ ?_
        clear hbw hbw3
        obtain ⟨gD, hgD⟩ : ∃ g, W3.heap.size = g := ⟨_, rfl⟩
        rw [hgD]
        clear hgD
        rintro W3a ⟨hD, hGD, hbw⟩
        refine mix_only_in rfl (fun K hK => ?_)
        go_wp2_with fail
        refine (rcut_any (sha tX) (sha_length tX) (n : Int) W3a).mono ?_
        rintro e W4 ⟨rfl, hb2⟩
        go_wp2_with fail
        refine hK _ _ (below_plus (hbw.trans (hb2.mono hbw.size))) ?_
        clear hK K
        replace hD := hD.below hb2 hD.lt
        replace hbw := hbw.trans (hb2.mono hbw.size)
        clear hb2
        refine mix_only_in rfl (fun K hK => ?_)
        refine wpList_storeDat rfl rfl 26 (.tmp 15) (.tmp 42) rfl gD rfl lX _ (congrArg (fun z => Value.agg (dat z)) HL.out.1) _ hD (by kernel_rfl) ?_
        intro W9 hD9 hon9
        have hbw9 := below_only hbw hon9 hGD hbw.size
        go_wp2_with fail
        refine hK _ _ (below_plus hbw9) ?_
        clear hK K
        refine mix_done ?_
        go_wp2_with fail
        go_meet
        exact ⟨gD, rfl, hD9, hb1.trans (hbw9.mono hb1.size)⟩
    · go_wp2_with fail
      have hbw3 := hbw.trans ((below_new1 W2 (Obj.cells (arr 32 fun _ => 0) 26)).mono hbw.size)
      refine hK _ _ (below_plus hbw3) ?_
      clear hK K
      refine mix_atC (fun W => Blk W W2.heap.size 26 (arr 32 fun _ => 0) ∧ W2.heap.size ≤ W2.heap.size ∧ Below W2.heap.size W2 W) ⟨Blk.new W2 26 (arr 32 fun _ => 0), hbw.size, hbw3⟩ ?_
      clear hbw hbw3
      obtain ⟨gD, hgD⟩ : ∃ g, W2.heap.size = g := ⟨_, rfl⟩
      rw [hgD]
      rintro W2a ⟨hD, hGD, hbw⟩
      rw [← hgD] at hbw
      replace hGD : W2.heap.size ≤ gD := Nat.le_of_eq hgD
      clear hgD
      refine mix_only_in rfl (fun K hK => ?_)
      go_wp2_with fail
      refine (rsum_any _ _ tX W2a (Htb1.out.nxt (hb1.trans (hbw.mono hb1.size))) (Hxu.out.next (hb1.trans (hbw.mono hb1.size))) (by have := HL.out.2.1; omega)).mono ?_
      rintro e W3 ⟨rfl, hb2⟩
      go_wp2_with fail
      refine hK _ _ (below_plus (hbw.trans (hb2.mono hbw.size))) ?_
      clear hK K
      replace hD := hD.below hb2 hD.lt
      replace hbw := hbw.trans (hb2.mono hbw.size)
      clear hb2
      refine mix_only_in rfl (fun K hK => ?_)
      go_wp2_with fail
      refine (rcut_any (sha tX) (sha_length tX) (n : Int) W3).mono ?_
      rintro e W4 ⟨rfl, hb2⟩
      go_wp2_with fail
      refine hK _ _ (below_plus (hbw.trans (hb2.mono hbw.size))) ?_
      clear hK K
      replace hD := hD.below hb2 hD.lt
      replace hbw := hbw.trans (hb2.mono hbw.size)
      clear hb2
      refine mix_only_in rfl (fun K hK => ?_)
      refine wpList_storeDat rfl rfl 26 (.tmp 15) (.tmp 42) rfl gD rfl lX _ (congrArg (fun z => Value.agg (dat z)) HL.out.1) _ hD (by kernel_rfl) ?_
      intro W9 hD9 hon9
      have hbw9 := below_only hbw hon9 hGD hbw.size
      go_wp2_with fail
      refine hK _ _ (below_plus hbw9) ?_
      clear hK K
      refine mix_done ?_
      go_wp2_with fail
      go_meet
      exact ⟨gD, rfl, hD9, hb1.trans (hbw9.mono hb1.size)⟩
  case rest =>
    obtain ⟨G, rfl, hE, hb2⟩ := hcut
    have hD := Hbel.out.2.below hb2 Hbel.out.2.lt
    have hbel := Hbel.out.1.trans (hb2.mono Hbel.out.1.size)
    have hd1 : wc.cell? ⟨g, 1, none⟩ = some (.int .i64 n) := (hb2.cell (p := ⟨g, 1, none⟩) hgG).trans hc1
    have hg2 : g < wc.heap.size := Nat.lt_of_lt_of_le hgG hb2.size
    clear hc0 hc1 hxc hxb hgG Hbel hb2
    go_upto_region 5 with fail
    refine wp_region_mixP (.plain 0 <| .plain 1 <| .plain 2 <| .plain 3 <| .plain 4 <| .plain 5 <| .only 6 <| .plain 7 <| .plain 8 <| .done) (by kernel_rfl) (by kernel_rfl) (fun W2 hb1 => ?_)
    have hE2 := hE.below hb1 hE.lt
    have hD2 := hD.below hb1 hD.lt
    have hd2 := (hb1.cell (p := ⟨g, 1, none⟩) hg2).trans hd1
    have hg3 : g < W2.heap.size := Nat.lt_of_lt_of_le hg2 hb1.size
    replace hbel := hbel.trans (hb1.mono hbel.size)
    clear hd1 hg2 hE hD hb1
    iterate 6 (refine mix_plain rfl ?_; (first
      | (refine wpQuiet_load rfl _ (.tmp 15) rfl G rfl _ _ _ _ (fun _ ⟨e, he⟩ => by rw [he]; exact hE2.plus e) Tryd.underlying26 rfl (by kernel_rfl) ?_; simp only [Act.put, List.setIfInBounds_toArray, List.set_cons_zero, List.set_cons_succ])
      | (refine wpQuiet_load rfl _ (.tmp 11) rfl w.heap.size rfl _ _ _ _ (fun _ ⟨e, he⟩ => by rw [he]; exact hD2.plus e) Tryd.underlying26 rfl (by kernel_rfl) ?_; simp only [Act.put, List.setIfInBounds_toArray, List.set_cons_zero, List.set_cons_succ])
      | (refine wpQuiet_nilCheck rfl (.tmp 45) rfl _ rfl ?_; simp only [Act.put, List.setIfInBounds_toArray, List.set_cons_zero, List.set_cons_succ])
      | (refine wpQuiet_load1 rfl _ (.tmp 47) rfl _ rfl _ Tryd.underlying3 rfl _ (fun _ ⟨e, he⟩ => by rw [he, plus_cell _ _ _ hg3]; exact hd2) ?_; simp only [Act.put, List.setIfInBounds_toArray, List.set_cons_zero, List.set_cons_succ])
      | go_big_quiet_step (fail)); refine wpQuiet_nil ?_)
    clear hd2 hg3 hE2 hD2
    refine mix_only rfl (fun K hK => ?_)
    go_wp2_with fail
    refine (rcut_any root HA.out.2.1 (n : Int) W2).mono ?_
    rintro e W3 ⟨rfl, hb1⟩
    go_wp2_with fail
    refine hK _ _ hb1 ?_
    clear hK K
    replace hbel := hbel.trans (hb1.mono hbel.size)
    clear hb1
    have Hc := Lib.hid (cutL_length root (n : Int) HA.out.2.1)
    generalize cutL root (n : Int) = c at Hc HL ⊢
    refine mix_plain rfl ?_
    refine wpQuiet_eqD rfl (.tmp 43) (.tmp 49) _ rfl lX c rfl rfl HL.out.2.2.1 Hc.out q HL.out.2.2.2 ?_
    simp only [Act.put, List.setIfInBounds_toArray, List.set_cons_zero, List.set_cons_succ]
    refine wpQuiet_nil ?_
    refine mix_plain rfl ?_
    go_big_quiet_step (fail)
    refine wpQuiet_nil ?_
    refine mix_done ?_
    go_wp2_with fail
    try rw [Exit.noGoto_ret]
    go_ret
    exact ⟨rfl, hbel⟩
end Go.Proofs.YtppglfgggfkcmaaDoor

/- Blocks of digests: made, copied into, one stored; deponentbook's Same at digests. No condition. -/
namespace Go.Proofs.YtppglfgggfkcmaaDoor
open Go Go.RowKit
attribute [local irreducible] mixW
attribute [local go_sem] n8_lo n8_hi n64_lo n64_hi n32_lo n32_hi
def zeroD : List UInt8 := List.replicate 32 0
theorem zeroD_len : zeroD.length = 32 := by unfold zeroD; simp
theorem dat_zeroD : dat zeroD = arr 32 fun _ => 0 := by
  unfold dat
  apply arr_congr
  intro p hp
  unfold zeroD
  rw [List.getD_eq_getElem?_getD, List.getElem?_replicate, if_pos hp]; rfl
theorem zeros_at (N j : Nat) (hj : j < N * 32) : (dcells (List.replicate N zeroD))[j]? = some (.int .u8 0) := by
  have h1 : j = (j / 32) * 32 + j % 32 := by omega
  rw [h1, dcells_at _ (j / 32) (by rw [List.length_replicate]; omega) (j % 32) (Nat.mod_lt _ (by decide))]
  rw [List.getD_eq_getElem?_getD, List.getElem?_replicate, if_pos (by omega), Option.getD_some, dat_zeroD, arr_at _ _ _ (Nat.mod_lt _ (by decide))]; rfl
theorem made_digs (N : Nat) : madeCells (arr 32 fun _ => 0) (N * 32) = (dcells (List.replicate N zeroD)).toArray := by
  apply Array.ext_getElem?
  intro j
  by_cases hj : j < N * 32
  · have hR : (dcells (List.replicate N zeroD)).toArray[j]? = some (.int .u8 0) := by rw [List.getElem?_toArray]; exact zeros_at N j hj
    rw [hR]
    unfold madeCells
    rw [Array.getElem?_map, Array.getElem?_range, if_pos hj]
    have h32 : (arr 32 fun _ => (0 : UInt8)).size = 32 := arr_size _ _
    have hm : j % (arr 32 fun _ => (0 : UInt8)).size < (arr 32 fun _ => (0 : UInt8)).size := by rw [h32]; exact Nat.mod_lt _ (by decide)
    show some ((arr 32 fun _ => (0 : UInt8))[j % (arr 32 fun _ => (0 : UInt8)).size]!) = _
    rw [getElem!_pos (arr 32 fun _ => (0 : UInt8)) _ hm]
    have := arr_at 32 (fun _ => (0 : UInt8)) (j % (arr 32 fun _ => (0 : UInt8)).size) (by rw [h32] at hm ⊢; exact hm)
    rw [Array.getElem?_eq_getElem hm] at this
    injection this with this
    rw [this]; rfl
  · rw [Array.getElem?_eq_none (by rw [size_madeCells]; omega), Array.getElem?_eq_none (by simp [dcells_length]; omega)]
/-- make([]api.Digest, n) -/
theorem wpList_makeD {w : World} {ops : Array Oper} {rest : List Oper} {o : Oper} {a : Act} {Q : Exit → Act → World → Prop} (hgd : o.guard = none) (l c : Operand) (ho : o.op = Op.makeSlice 24 l c)
    (kl kc : IntKind) (n : Nat) (hl : a.eval l = .int kl (n : Int)) (hc : a.eval c = .int kc (n : Int)) (h63 : n ≤ 1000000000)
    (h : wpList Tryd.prog ops Q rest (a.put o.dst (.slice (some ⟨w.heap.size, 0, none⟩) n n)) (w.alloc (.cells (dcells (List.replicate n zeroD)).toArray 26))) : wpList Tryd.prog ops Q (o :: rest) a w := by
  obtain ⟨i0, hi, hz0, hz1, hz2⟩ := info_parts (by kernel_rfl : (Tryd.prog.info? 26).map (fun i => (i.zero, i.size, i.bytes)) = some (some (.agg (arr 32 fun _ => 0)), 32, 32))
  refine wpList_plain hgd fun K hK => ?_
  have hr := run_make (P := Tryd.prog) w 24 26 i0 (.agg (arr 32 fun _ => 0)) Tryd.underlying24 hi hz0 kl kc n n (by omega) (by omega) (by rw [hz2]; omega) (by omega)
  have hcells : (Value.agg (arr 32 fun _ => (0 : UInt8))).cells = arr 32 fun _ => 0 := rfl
  rw [Int.toNat_natCast, hz1, hcells, made_digs] at hr
  unfold Oper.wp
  simp [execOp, ho, hl, hc, hr, Result.andThen]
  exact hK _ _ h
/-- a copy of rows of some cells an element -/
theorem run_copy_rows {P : Program} (w : World) (dT sT ty elem : TypeId) (sz g o dLen dCap : Nat) (a : Addr) (sLen sCap : Nat) (cur : Array Value) (t : TypeId) (cs : List Value)
    (hu : P.underlying dT = some (.slice elem)) (hs : (P.info? elem).map (·.size) = some sz)
    (hg : w.heap[g]? = some (.cells cur t (0, 0))) (hn : cs.length = Nat.min sLen dLen * sz)
    (hsrc : ∀ j v, cs[j]? = some v → w.cell? (a.add j) = some v) (hfit : o + cs.length ≤ cur.size) (h1 : ∀ v ∈ cs, v.oneCell' = true) :
    (Builtin.copy_ #[dT, sT] ty #[.slice (some ⟨g, o, none⟩) dLen dCap, .slice (some a) sLen sCap]).run P w =
      .ok (goInt (Nat.min sLen dLen)) (w.setRow g (cur.toList.take o ++ cs ++ cur.toList.drop (o + cs.length)).toArray) := by
  have hl := run_loadCells_list (P := P) w a cs hsrc
  have hst := run_storeCells_at P g o t cs 0 cur w hg (by simpa using hfit) h1
  cases hq : P.info? elem with
  | none => simp [hq] at hs
  | some i =>
    have hi : i.size = sz := by simpa [hq] using hs
    simp [Builtin.copy_, run_underlying hu, Builtin.lenOf, Builtin.firstCells, sizeOf, typeInfo, hq, hi, ← hn, hl, hst]
theorem run_copy_zero {P : Program} (w : World) (dT sT ty elem : TypeId) (d a : Option Addr) (dLen dCap sLen sCap : Nat) (hu : P.underlying dT = some (.slice elem)) (sz : Nat) (hs : (P.info? elem).map (·.size) = some sz) (hn : Nat.min sLen dLen = 0) :
    (Builtin.copy_ #[dT, sT] ty #[.slice d dLen dCap, .slice a sLen sCap]).run P w = .ok (goInt 0) w := by
  cases hq : P.info? elem with
  | none => simp [hq] at hs
  | some i =>
    have hl : ∀ (x : Addr), (loadCells x 0).run P w = .ok #[] w := fun x => by simpa using run_loadCells_list (P := P) w x [] (by simp)
    cases d <;> cases a <;> simp [Builtin.copy_, run_underlying hu, Builtin.lenOf, Builtin.firstCells, sizeOf, typeInfo, hq, hn, storeCells, hl]
theorem dcells_append (a b : List (List UInt8)) : dcells (a ++ b) = dcells a ++ dcells b := by simp [dcells]
theorem dcells_one (l : List (List UInt8)) : ∀ v ∈ dcells l, v.oneCell' = true := by
  intro v hv
  unfold dcells at hv
  obtain ⟨cs, hcs, hv⟩ := List.mem_flatten.1 hv
  obtain ⟨d, _, rfl⟩ := List.mem_map.1 hcs
  exact arr_one _ _ v (by simpa [dat] using hv)
/-- a slice of digests reads, from its address on, all their cells -/
theorem DX.cells {w : World} {g o n cap : Nat} {ds : List (List UInt8)} (h : DX w (.slice (some ⟨g, o, none⟩) n cap) ds) (j : Nat) (v : Value) (hj : (dcells ds)[j]? = some v) : w.cell? ((⟨g, o, none⟩ : Addr).add j) = some v := by
  obtain ⟨A', cap', e, _, _, hh⟩ := h
  injection e with e1 e2 _
  subst e1
  have hjl : j < ds.length * 32 := by have := (List.getElem?_eq_some_iff.1 hj).1; rwa [dcells_length] at this
  obtain ⟨g2, o2, e3, _, hr⟩ := hh (j / 32) (by omega)
  injection e3 with e3
  injection e3 with e4 e5
  subst e4; subst e5
  have hd := dcells_at ds (j / 32) (by omega) (j % 32) (Nat.mod_lt _ (by decide))
  rw [show j / 32 * 32 + j % 32 = j by omega, hj] at hd
  have := hr (j % 32) v (by rw [Array.getElem?_toList]; exact hd.symm)
  have e : (⟨g, o, none⟩ : Addr).add j = ⟨g, o + j, none⟩ := by unfold Addr.add; split <;> simp_all
  rw [e, show o + j = o + j / 32 * 32 + j % 32 by omega]; exact this
theorem DX.addr {w : World} {A : Option Addr} {n cap : Nat} {ds : List (List UInt8)} (h : DX w (.slice A n cap) ds) (h0 : 0 < ds.length) : ∃ g o, A = some ⟨g, o, none⟩ := by
  obtain ⟨A', cap', e, _, _, hh⟩ := h
  injection e with e1 _ _
  subst e1
  obtain ⟨g, o, e, _⟩ := hh 0 h0
  exact ⟨g, o, e⟩
theorem wpList_copy_rows {P : Program} {w : World} {ops : Array Oper} {rest : List Oper} {o : Oper} {a : Act} {Q : Exit → Act → World → Prop} (hgd : o.guard = none) (d s : Operand) (dT sT : TypeId)
    (ho : o.op = .call { callee := .builtin .copy, args := #[d, s], argTypes := #[dT, sT] }) (elem : TypeId) (sz : Nat) (hu : P.underlying dT = some (.slice elem)) (hsz : (P.info? elem).map (·.size) = some sz)
    (g off dLen dCap : Nat) (ad : Addr) (sLen sCap : Nat) (hd : a.eval d = .slice (some ⟨g, off, none⟩) dLen dCap) (hs : a.eval s = .slice (some ad) sLen sCap)
    (cur : Array Value) (t : TypeId) (hg : w.heap[g]? = some (.cells cur t (0, 0))) (cs : List Value) (hn : cs.length = Nat.min sLen dLen * sz)
    (hsrc : ∀ j v, cs[j]? = some v → w.cell? (ad.add j) = some v) (hfit : off + cs.length ≤ cur.size) (h1 : ∀ v ∈ cs, v.oneCell' = true)
    (h : wpList P ops Q rest (a.put o.dst (goInt (Nat.min sLen dLen))) (w.setRow g (cur.toList.take off ++ cs ++ cur.toList.drop (off + cs.length)).toArray)) : wpList P ops Q (o :: rest) a w := by
  refine wpList_plain hgd fun K hK => ?_
  have hrun := run_copy_rows (P := P) w dT sT o.type elem sz g off dLen dCap ad sLen sCap cur t cs hu hsz hg hn hsrc hfit h1
  unfold Oper.wp
  simp only [execOp, ho, resolve, invoke, builtin, hd, hs, List.map_toArray, List.map_cons, List.map_nil, Sem.run_bind, Sem.run_pure, Result.andThen_ok, hrun]
  exact hK _ _ h
theorem wpList_copy_zero {P : Program} {w : World} {ops : Array Oper} {rest : List Oper} {o : Oper} {a : Act} {Q : Exit → Act → World → Prop} (hgd : o.guard = none) (d s : Operand) (dT sT : TypeId)
    (ho : o.op = .call { callee := .builtin .copy, args := #[d, s], argTypes := #[dT, sT] }) (elem : TypeId) (sz : Nat) (hu : P.underlying dT = some (.slice elem)) (hsz : (P.info? elem).map (·.size) = some sz)
    (dp sp : Option Addr) (dLen dCap sLen sCap : Nat) (hd : a.eval d = .slice dp dLen dCap) (hs : a.eval s = .slice sp sLen sCap) (hn : Nat.min sLen dLen = 0)
    (h : wpList P ops Q rest (a.put o.dst (goInt 0)) w) : wpList P ops Q (o :: rest) a w := by
  refine wpList_plain hgd fun K hK => ?_
  have hrun := run_copy_zero (P := P) w dT sT o.type elem dp sp dLen dCap sLen sCap hu sz hsz hn
  unfold Oper.wp
  simp only [execOp, ho, resolve, invoke, builtin, hd, hs, List.map_toArray, List.map_cons, List.map_nil, Sem.run_bind, Sem.run_pure, Result.andThen_ok, hrun]
  exact hK _ _ h
/-- copy of some digests into the head of a block of digests -/
theorem wpList_copyD {w : World} {ops : Array Oper} {rest : List Oper} {o : Oper} {a : Act} {Q : Exit → Act → World → Prop} (hgd : o.guard = none) (d s : Operand)
    (ho : o.op = .call { callee := .builtin .copy, args := #[d, s], argTypes := #[24, 24] })
    (g N n : Nat) (es : List (List UInt8)) (hN : es.length = N) (hd : a.eval d = .slice (some ⟨g, 0, none⟩) N n) (hg : Blk w g 26 (dcells es).toArray)
    (A : Option Addr) (cap : Nat) (ds : List (List UInt8)) (hs : a.eval s = .slice A ds.length cap) (hx : DX w (.slice A ds.length cap) ds) (hl : ds.length ≤ es.length)
    (h : ∀ w', Blk w' g 26 (dcells (ds ++ es.drop ds.length)).toArray → w.grownBy w' (some g) → wpList Tryd.prog ops Q rest (a.put o.dst (goInt ds.length)) w') : wpList Tryd.prog ops Q (o :: rest) a w := by
  subst hN
  have hmin : Nat.min ds.length es.length = ds.length := Nat.min_eq_left hl
  have hsz : (Tryd.prog.info? 26).map (·.size) = some 32 := by kernel_rfl
  by_cases h0 : ds.length = 0
  · refine wpList_copy_zero hgd d s _ _ ho 26 32 Tryd.underlying24 hsz _ A es.length n ds.length cap hd hs (by rw [hmin]; exact h0) ?_
    have hnil : ds = [] := List.length_eq_zero_iff.1 h0
    subst hnil
    exact h w (by simpa using hg) (World.grownBy.refl w _)
  · obtain ⟨gs, os, rfl⟩ := hx.addr (by omega)
    have hwhole : ((dcells es).toArray.toList.take 0 ++ dcells ds ++ (dcells es).toArray.toList.drop (0 + (dcells ds).length)).toArray = (dcells (ds ++ es.drop ds.length)).toArray := by
      have hl2 : List.drop (dcells ds).length (dcells es) = dcells (es.drop ds.length) := by
        obtain ⟨E1, E2, hE, hE1⟩ : ∃ E1 E2, es = E1 ++ E2 ∧ E1.length = ds.length := ⟨es.take ds.length, es.drop ds.length, (List.take_append_drop _ _).symm, by rw [List.length_take]; omega⟩
        have e2 : (dcells ds).length = (dcells E1).length := by rw [dcells_length, dcells_length, hE1]
        rw [e2, hE, ← hE1, List.drop_left, dcells_append, List.drop_left]
      rw [List.take_zero, List.nil_append, Nat.zero_add, dcells_append]
      show (dcells ds ++ List.drop (dcells ds).length (dcells es)).toArray = _
      rw [hl2]
    refine wpList_copy_rows hgd d s _ _ ho 26 32 Tryd.underlying24 hsz g 0 es.length n ⟨gs, os, none⟩ ds.length cap hd hs (dcells es).toArray 26 hg (dcells ds) (by rw [hmin, dcells_length]) (fun j v hj => hx.cells j v hj) (by rw [List.size_toArray, dcells_length, dcells_length]; omega) (dcells_one ds) ?_
    rw [hmin, hwhole]
    exact h (w.setRow g (dcells (ds ++ es.drop ds.length)).toArray) (setRow_heap w g _ _ _ _ hg) (only_setRow w g _)
theorem dcells_set (l : List (List UInt8)) (k : Nat) (hk : k < l.length) (m : List UInt8) : copied (dcells l).toArray (k * 32) (dat m).toList 32 = (dcells (l.set k m)).toArray := by
  obtain ⟨L1, x, L2, hl, hk1⟩ : ∃ L1 x L2, l = L1 ++ x :: L2 ∧ L1.length = k := ⟨l.take k, l[k], l.drop (k + 1), by rw [List.getElem_cons_drop, List.take_append_drop], by rw [List.length_take]; omega⟩
  subst hl
  subst hk1
  have hs : (L1 ++ x :: L2).set L1.length m = L1 ++ m :: L2 := by simp
  have hm : (dat m).toList.length = 32 := by rw [Array.length_toList, dat_size]
  have h4 : (dat x).toList.length = 32 := by rw [Array.length_toList, dat_size]
  have h2 : ∀ y, dcells (L1 ++ y :: L2) = dcells L1 ++ ((dat y).toList ++ dcells L2) := fun y => by simp [dcells]
  have h1 : (dcells L1).length = L1.length * 32 := dcells_length _
  rw [hs, h2, h2]
  unfold copied
  show (List.take (L1.length * 32) (dcells L1 ++ ((dat x).toList ++ dcells L2)) ++ (List.take 32 (dat m).toList ++ List.drop (L1.length * 32 + (List.take 32 (dat m).toList).length) (dcells L1 ++ ((dat x).toList ++ dcells L2)))).toArray = _
  rw [List.take_of_length_le (by omega : (dat m).toList.length ≤ 32), hm, ← h1, List.take_left]
  congr 3
  have h5 : (dcells L1).length + 32 = (dcells L1 ++ (dat x).toList).length := by rw [List.length_append, h4]
  rw [h5, ← List.append_assoc (dcells L1), List.drop_left]
/-- one digest of a block of digests is stored -/
theorem wpList_storeD {w : World} {ops : Array Oper} {rest : List Oper} {o : Oper} {a : Act} {Q : Exit → Act → World → Prop} (hgd : o.guard = none) (hdst : o.dst = none) (x y : Operand) (ho : o.op = .store 26 x y) (g k : Nat) (hx : a.eval x = .pointer (some ⟨g, k * 32, none⟩)) (m : List UInt8) (hy : a.eval y = .agg (dat m))
    (l : List (List UInt8)) (hk : k < l.length) (hg : Blk w g 26 (dcells l).toArray)
    (h : ∀ w', Blk w' g 26 (dcells (l.set k m)).toArray → w.grownBy w' (some g) → wpList Tryd.prog ops Q rest a w') : wpList Tryd.prog ops Q (o :: rest) a w :=
  wpList_storeB hgd hdst 26 x y ho g (k * 32) hx (dat m) hy 26 (dcells l).toArray hg (by rw [dat_size]; kernel_rfl) (by rw [dat_size, List.size_toArray, dcells_length]; omega) (arr_one _ _) fun w' h1 h2 => by
    rw [dat_size, dcells_set l k hk m] at h1
    exact h w' h1 h2
theorem DX.of_blk {w : World} {g : Nat} {ds : List (List UInt8)} (h : Blk w g 26 (dcells ds).toArray) (hl : ds.length ≤ 1000000000) : DX w (.slice (some ⟨g, 0, none⟩) ds.length ds.length) ds :=
  ⟨_, _, rfl, Nat.le_refl _, by omega, fun k hk => ⟨g, 0, rfl, h.lt, fun j v hj => by
    have hj32 : j < 32 := by
      have := (List.getElem?_eq_some_iff.1 hj).1
      rw [Array.length_toList, dat_size] at this; exact this
    rw [Nat.zero_add, h.cell, List.getElem?_toArray, dcells_at ds k hk j hj32, ← hj, Array.getElem?_toList]⟩⟩
set_option maxHeartbeats 400000 in
set_option maxRecDepth 100000 in
theorem sameX_any (u v : Value) (ds : List (List UInt8)) (hall : ∀ d ∈ ds, d.length = 32) (hn : ds.length ≤ 1000000000) (w : World) (hu : DX w u ds) (hv : DX w v ds) :
    Calls Tryd.prog 44 #[u, v] w fun e w' => e = .returned (.bool true) ∧ Below w.heap.size w w' := by
  have Hall := Lib.hid hall
  clear hall
  obtain ⟨A1, c1, rfl, x1, x2, h1⟩ := hu
  obtain ⟨A2, c2, rfl, y1, y2, h2⟩ := hv
  have H1 : Hid (DX w (.slice A1 ds.length c1) ds) := Lib.hid ⟨A1, c1, rfl, x1, x2, h1⟩
  have H2 : Hid (DX w (.slice A2 ds.length c2) ds) := Lib.hid ⟨A2, c2, rfl, y1, y2, h2⟩
  clear h1 h2 x1 x2 y1 y2
  have hne : ((ds.length : Int) != (ds.length : Int)) = false := by simp
  go_enter Tryd.func44, Tryd.ntmps44
  go_wp2_with fail
  go_loopw [5] (fun iv wr => ∃ k : Nat, k ≤ ds.length ∧ iv = .int .i64 k ∧ Below w.heap.size w wr) (fun iv _ => ds.length - (intOf iv).toNat)
  case atStart => exact ⟨0, by omega, rfl, Below.refl _ _⟩
  case round =>
    obtain ⟨k, hk, rfl, hbel⟩ := hrel
    by_cases hlt : k < ds.length
    case neg =>
      have hlt' : ¬ ((k : Int) < (ds.length : Int)) := by omega
      go_wp2_with fail
      go_ret
      exact ⟨rfl, hbel⟩
    have hlt' : (k : Int) < (ds.length : Int) := by omega
    obtain ⟨A1', c1', e1, _, _, hh1⟩ := H1.out.next hbel
    injection e1 with e1 _ e1c
    subst e1c
    obtain ⟨g1, o1, e3, hg1, hr1⟩ := hh1 k hlt
    rw [e3] at e1
    subst e1
    obtain ⟨A2', c2', e2, _, _, hh2⟩ := H2.out.next hbel
    injection e2 with e2 _ e2c
    subst e2c
    obtain ⟨g2, o2, e4, hg2, hr2⟩ := hh2 k hlt
    rw [e4] at e2
    subst e2
    clear hh1 hh2 e3 e4
    have hdl : (ds.getD k []).length = 32 := Hall.out _ (by rw [List.getD_eq_getElem?_getD, List.getElem?_eq_getElem hlt]; exact List.getElem_mem _)
    generalize ds.getD k [] = d at hr1 hr2 hdl
    have Hdl := Lib.hid hdl
    clear hdl
    go_wp2_with fail
    refine wp_region_mixP (.plain 0 <| .plain 1 <| .plain 2 <| .plain 3 <| .plain 4 <| .plain 5 <| .plain 6 <| .plain 7 <| .plain 8 <| .done) (by kernel_rfl) (by kernel_rfl) (fun W1 hb1 => ?_)
    replace hr1 := range_next hr1 hg1 hb1
    replace hr2 := range_next hr2 hg2 hb1
    replace hbel := hbel.trans (hb1.mono hbel.size)
    clear hb1
    iterate 9 (refine mix_plain rfl ?_; (first
      | (refine wpQuiet_loadMid rfl 26 (.tmp 19) rfl g1 (o1 + k * 32) rfl (dat d) _ (fun _ ⟨e, he⟩ => by rw [he]; exact range_plus hr1 e) Tryd.underlying26 rfl (by rw [dat_size]; kernel_rfl) ?_; simp only [Act.put, List.setIfInBounds_toArray, List.set_cons_zero, List.set_cons_succ])
      | (refine wpQuiet_loadMid rfl 26 (.tmp 23) rfl g2 (o2 + k * 32) rfl (dat d) _ (fun _ ⟨e, he⟩ => by rw [he]; exact range_plus hr2 e) Tryd.underlying26 rfl (by rw [dat_size]; kernel_rfl) ?_; simp only [Act.put, List.setIfInBounds_toArray, List.set_cons_zero, List.set_cons_succ])
      | (refine wpQuiet_neD rfl (.tmp 20) (.tmp 24) _ rfl d d rfl rfl Hdl.out Hdl.out true (decide_eq_true rfl) ?_; simp only [Act.put, List.setIfInBounds_toArray, List.set_cons_zero, List.set_cons_succ])
      | go_big_quiet_step (fail)); refine wpQuiet_nil ?_)
    refine mix_done ?_
    clear hr1 hr2
    go_wp2_with fail
    go_roundw
    case rel => exact ⟨k + 1, by omega, by go_num, hbel⟩
    case measure => simp [intOf]; omega
end Go.Proofs.YtppglfgggfkcmaaDoor

/- The walks of deponentbook's Roomy and Intact at digests. No condition. -/
namespace Go.Proofs.YtppglfgggfkcmaaDoor
open Go Go.RowKit
attribute [local irreducible] mixW
attribute [local go_sem] n8_lo n8_hi n64_lo n64_hi n32_lo n32_hi
def roomD (ds : List (List UInt8)) (m : List UInt8) (k N : Nat) : List (List UInt8) := ds ++ List.replicate (k - ds.length) m ++ List.replicate (N - k) zeroD
theorem roomD_length (ds : List (List UInt8)) (m : List UInt8) (k N : Nat) (h1 : ds.length ≤ k) (h2 : k ≤ N) : (roomD ds m k N).length = N := by
  unfold roomD; simp; omega
theorem roomD_start (ds : List (List UInt8)) (m : List UInt8) (N : Nat) : ds ++ (List.replicate N zeroD).drop ds.length = roomD ds m ds.length N := by
  unfold roomD; rw [Nat.sub_self, List.drop_replicate]; simp
theorem roomD_step (ds : List (List UInt8)) (m : List UInt8) (k N : Nat) (h1 : ds.length ≤ k) (h2 : k < N) : (roomD ds m k N).set k m = roomD ds m (k + 1) N := by
  unfold roomD
  have hl : (ds ++ List.replicate (k - ds.length) m).length = k := by simp; omega
  rw [show N - k = N - (k + 1) + 1 by omega, List.replicate_succ, show k + 1 - ds.length = k - ds.length + 1 by omega, List.replicate_succ', ← List.append_assoc ds]
  generalize ds ++ List.replicate (k - ds.length) m = L1 at hl ⊢
  subst hl
  simp
theorem roomD_end (ds : List (List UInt8)) (m : List UInt8) : roomD ds m (ds.length + 80) (ds.length + 80) = ds ++ List.replicate 80 m := by
  unfold roomD; simp
set_option maxHeartbeats 1000000 in
set_option maxRecDepth 100000 in
theorem roomyX_any (u : Value) (ds : List (List UInt8)) (m : List UInt8) (hn : ds.length ≤ 1000000) (w : World) (hu : DX w u ds) :
    Calls Tryd.prog 13 #[u, .agg (dat m)] w fun e w' => ∃ v, e = .returned v ∧ DX w' v (ds ++ List.replicate 80 m) ∧ Below w.heap.size w w' := by
  have hD := Blk.new w 26 (dat m)
  have hb0 := below_new1 w (Obj.cells (dat m) 26)
  obtain ⟨A1, c1, rfl, x1, x2, h1⟩ := hu
  have HU : Hid (DX w (.slice A1 ds.length c1) ds) := Lib.hid ⟨A1, c1, rfl, x1, x2, h1⟩
  clear h1 x1 x2
  obtain ⟨N, hN⟩ : ∃ N, N = ds.length + 80 := ⟨_, rfl⟩
  have eN : (ds.length : Int) + 80 = (N : Int) := by omega
  have HN := Lib.hid hN
  have hN1 : ds.length ≤ N := by omega
  have hN2 : N ≤ 1000080 := by omega
  clear hN
  go_enter Tryd.func13, Tryd.ntmps13
  go_upto_region 1 with fail
  refine wp_at (fun W => Blk W w.heap.size 26 (dat m) ∧ Below w.heap.size w W) ⟨hD, hb0⟩ ?_
  clear hD hb0
  rintro W ⟨hD, hbel⟩
  have hE0 := Blk.new W 26 (dcells (List.replicate N zeroD)).toArray
  have hbn := below_new1 W (Obj.cells (dcells (List.replicate N zeroD)).toArray 26)
  go_wp2_with (first
    | (refine wpList_makeD rfl (.tmp 9) (.tmp 9) rfl .i64 .i64 N rfl rfl (by omega) ?_; refine wpl_at (fun V => Blk V W.heap.size 26 (dcells (List.replicate N zeroD)).toArray ∧ Below W.heap.size W V) ⟨hE0, hbn⟩ ?_; clear hE0 hbn; rintro V ⟨hE, hbv⟩)
    | (refine wpList_copyD rfl (.tmp 11) (.tmp 12) rfl W.heap.size N N (List.replicate N zeroD) (List.length_replicate ..) rfl hE A1 c1 ds rfl ((HU.out.next hbel).next hbv) (by rw [List.length_replicate]; omega) ?_; intro V2 hE2 hon2; rw [roomD_start ds m N] at hE2; refine wpl_at (fun V => Blk V W.heap.size 26 (dcells (roomD ds m ds.length N)).toArray ∧ Below W.heap.size W V) ⟨hE2, below_only hbv hon2 (Nat.le_refl _) hbv.size⟩ ?_; clear hE2 hon2 hE hbv V2; rintro V2 ⟨hE, hbv⟩))
  have HW := Lib.hid (And.intro hD hbel)
  clear hD hbel
  obtain ⟨g, hg⟩ : ∃ g, g = W.heap.size := ⟨_, rfl⟩
  rw [← hg] at hE ⊢
  have Hg := Lib.hid (Nat.le_of_eq hg.symm)
  clear hg
  go_loopw [6] (fun iv wr => ∃ k : Nat, k ≤ N ∧ ds.length ≤ k ∧ iv = .int .i64 k ∧ Blk wr g 26 (dcells (roomD ds m k N)).toArray ∧ Below W.heap.size W wr) (fun iv _ => N - (intOf iv).toNat)
  case atStart => exact ⟨ds.length, hN1, Nat.le_refl _, rfl, hE, hbv⟩
  clear hE hbv
  case round =>
    obtain ⟨k, hk, hk0, rfl, hE, hbv⟩ := hrel
    have hD := HW.out.1.below hbv HW.out.1.lt
    by_cases hlt : k < N
    · have hlt' : (k : Int) < (N : Int) := by omega
      go_wp2_with (first
        | (refine wpList_loadW (by rfl) 26 (.tmp 3) rfl w.heap.size rfl _ _ _ hD Tryd.underlying26 rfl (by kernel_rfl) ?_)
        | (refine wpList_storeD rfl rfl (.tmp 25) (.tmp 24) rfl g k rfl m rfl (roomD ds m k N) (by rw [roomD_length ds m k N hk0 hk]; exact hlt) hE ?_; intro V3 hE3 hon3; rw [roomD_step ds m k N hk0 hlt] at hE3; have hb3 := below_only hbv hon3 Hg.out hbv.size))
      go_wp2_with fail
      go_roundw
      case rel => exact ⟨k + 1, by omega, by omega, by go_num, hE3, hb3⟩
      case measure => simp [intOf]; omega
    · obtain rfl : k = N := by omega
      have hlt' : ¬ (k : Int) < (k : Int) := by omega
      clear hD
      have HE := Lib.hid hE
      clear hE
      go_wp2_with fail
      go_ret
      refine ⟨_, rfl, ?_, HW.out.2.trans (hbv.mono HW.out.2.size)⟩
      have hE := HE.out
      have hl := roomD_length ds m k k hk0 (Nat.le_refl _)
      have hdx := DX.of_blk hE (by rw [hl]; omega)
      rw [hl] at hdx
      have e : roomD ds m k k = ds ++ List.replicate 80 m := by rw [HN.out]; exact roomD_end ds m
      rw [e] at hdx
      exact hdx
set_option maxHeartbeats 1000000 in
set_option maxRecDepth 100000 in
theorem intactX_any (u v : Value) (ds : List (List UInt8)) (m : List UInt8) (hall : ∀ d ∈ ds, d.length = 32) (hm : m.length = 32) (hn : ds.length ≤ 1000000) (w : World) (hu : DX w u (ds ++ List.replicate 80 m)) (hv : DX w v ds) :
    Calls Tryd.prog 18 #[u, v, .agg (dat m)] w fun e w' => e = .returned (.bool true) ∧ Below w.heap.size w w' := by
  have hD := Blk.new w 26 (dat m)
  have hb0 := below_new1 w (Obj.cells (dat m) 26)
  obtain ⟨A1, c1, rfl, x1, x2, h1⟩ := hu
  obtain ⟨A2, c2, rfl, y1, y2, h2⟩ := hv
  have hl : (ds ++ List.replicate 80 m).length = ds.length + 80 := by simp
  have hu : DX w (.slice A1 (ds ++ List.replicate 80 m).length c1) (ds ++ List.replicate 80 m) := ⟨A1, c1, rfl, x1, x2, h1⟩
  have hv : DX w (.slice A2 ds.length c2) ds := ⟨A2, c2, rfl, y1, y2, h2⟩
  rw [hl] at hu x1 ⊢
  have hh := hu.take ds.length (by omega)
  rw [List.take_left] at hh
  have hat : ∀ k, ds.length ≤ k → k < ds.length + 80 → (ds ++ List.replicate 80 m).getD k [] = m := fun k h1 h2 => by
    rw [List.getD_eq_getElem?_getD, List.getElem?_append_right h1, List.getElem?_replicate, if_pos (by omega)]; rfl
  have HU := Lib.hid hu
  have HV := Lib.hid (And.intro hh (And.intro hv (And.intro hall hm)))
  have HT := Lib.hid hat
  have HL := Lib.hid hl
  generalize ds ++ List.replicate 80 m = xs at HU HT HL
  clear h1 h2 hu hv hh hl hall hm hat y1 y2
  obtain ⟨N, hN⟩ : ∃ N, N = ds.length + 80 := ⟨_, rfl⟩
  have eN : (ds.length : Int) + 80 = (N : Int) := by omega
  have HN := Lib.hid hN
  have hN1 : ds.length ≤ N := by omega
  have hN2 : N ≤ 1000080 := by omega
  rw [← hN] at HU x1 ⊢
  have hc : (ds.length : Int) ≤ (c1 : Int) := by omega
  have hne : ((N : Int) != (N : Int)) = false := by simp
  clear hN
  go_enter Tryd.func18, Tryd.ntmps18
  go_upto_region 1 with fail
  refine wp_at (fun W => Blk W w.heap.size 26 (dat m) ∧ Below w.heap.size w W) ⟨hD, hb0⟩ ?_
  clear hD hb0
  rintro W ⟨hD, hbel⟩
  go_wp2_with fail
  refine (sameX_any _ _ ds HV.out.2.2.1 (by omega) W (HV.out.1.next hbel) (HV.out.2.1.next hbel)).mono ?_
  rintro e w1 ⟨rfl, hb1⟩
  replace hD := hD.below hb1 hD.lt
  replace hbel := hbel.trans (hb1.mono hbel.size)
  clear hb1
  have HD := Lib.hid (And.intro hD hbel)
  clear hD hbel
  go_wp2_with fail
  go_loopw [7] (fun iv wr => ∃ k : Nat, k ≤ N ∧ ds.length ≤ k ∧ iv = .int .i64 k ∧ Below w1.heap.size w1 wr) (fun iv _ => N - (intOf iv).toNat)
  case atStart => exact ⟨ds.length, hN1, Nat.le_refl _, rfl, Below.refl _ _⟩
  case round =>
    obtain ⟨k, hk, hk0, rfl, hb2⟩ := hrel
    by_cases hlt : k < N
    · have hlt' : (k : Int) < (N : Int) := by omega
      have hbel := HD.out.2.trans (hb2.mono HD.out.2.size)
      obtain ⟨A1', c1', e1, _, _, hh1⟩ := HU.out.next hbel
      injection e1 with e1 _ e1c
      subst e1c
      obtain ⟨g1, o1, e3, hg1, hr1⟩ := hh1 k (by rw [HL.out, ← HN.out]; exact hlt)
      rw [e3] at e1
      subst e1
      rw [HT.out k hk0 (by rw [← HN.out]; exact hlt)] at hr1
      clear hh1 e3
      have hD := HD.out.1.below hb2 HD.out.1.lt
      go_upto_region 6 with fail
      refine wp_region_mixP (.plain 0 <| .plain 1 <| .plain 2 <| .plain 3 <| .plain 4 <| .plain 5 <| .done) (by kernel_rfl) (by kernel_rfl) (fun W1 hb1 => ?_)
      replace hr1 := range_next hr1 hg1 hb1
      replace hD := hD.below hb1 hD.lt
      replace hb2 := hb2.trans (hb1.mono hb2.size)
      clear hb1
      iterate 6 (refine mix_plain rfl ?_; (first
        | (refine wpQuiet_loadMid rfl 26 (.tmp 33) rfl g1 (o1 + k * 32) rfl (dat m) _ (fun _ ⟨e, he⟩ => by rw [he]; exact range_plus hr1 e) Tryd.underlying26 rfl (by rw [dat_size]; kernel_rfl) ?_; simp only [Act.put, List.setIfInBounds_toArray, List.set_cons_zero, List.set_cons_succ])
        | (refine wpQuiet_load rfl _ (.tmp 5) rfl w.heap.size rfl _ _ _ _ (fun _ ⟨e, he⟩ => by rw [he]; exact hD.plus e) Tryd.underlying26 rfl (by kernel_rfl) ?_; simp only [Act.put, List.setIfInBounds_toArray, List.set_cons_zero, List.set_cons_succ])
        | (refine wpQuiet_neD rfl (.tmp 34) (.tmp 35) _ rfl m m rfl rfl HV.out.2.2.2 HV.out.2.2.2 true (decide_eq_true rfl) ?_; simp only [Act.put, List.setIfInBounds_toArray, List.set_cons_zero, List.set_cons_succ])
        | go_big_quiet_step (fail)); refine wpQuiet_nil ?_)
      refine mix_done ?_
      clear hr1 hD hbel
      go_wp2_with fail
      go_roundw
      case rel => exact ⟨k + 1, by omega, by omega, by go_num, hb2⟩
      case measure => simp [intOf]; omega
    · obtain rfl : k = N := by omega
      have hlt' : ¬ (k : Int) < (k : Int) := by omega
      go_wp2_with fail
      go_ret
      exact ⟨rfl, HD.out.2.trans (hb2.mono HD.out.2.size)⟩
end Go.Proofs.YtppglfgggfkcmaaDoor
