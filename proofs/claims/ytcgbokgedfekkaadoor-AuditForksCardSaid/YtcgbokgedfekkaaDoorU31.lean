/- Texts that stand behind one another: VerH. No condition. -/
import Derived.Test.YtcgbokgedfekkaaDoorU28
import Derived.Test.YtcgbokgedfekkaaDoorU30
/- The walk of the reference's Prefix. No condition. -/
namespace Go.Proofs.YtcgbokgedfekkaaDoor
open Go Go.RowKit
attribute [local irreducible] mixW
attribute [local go_sem] n8_lo n8_hi n64_lo n64_hi n32_lo n32_hi
set_option maxHeartbeats 6000000 in
set_option maxRecDepth 100000 in
theorem rprefix_any (h : Value) (n : Nat) (m s : Nat) (hm64 : m ≤ 18446744073709551615) (hs64 : s ≤ 18446744073709551615) (old root : List UInt8) (hold : old.length = 32) (hroot : root.length = 32) (pv : Value) (ps : List (List UInt8)) (hall : ∀ d ∈ ps, d.length = 32) (hps : ps.length ≤ 1000000) (w : World) (hh : Hsr w w.heap.size h n) (hp : DX w pv ps) :
    Calls Tryd.prog 24 #[h, .int .u64 m, .int .u64 s, .agg (dat old), .agg (dat root), pv] w fun e w' => e = .returned (.bool (prefS n m s old root ps)) ∧ Below w.heap.size w w' := by
  have hA := (Blk.new w 35 (dat old)).alloc (Obj.cells (dat root) 35)
  have hB := Blk.new2 w (Obj.cells (dat old) 35) 35 (dat root)
  have hb2 := (below_new1 w (Obj.cells (dat old) 35)).alloc (by simp) (Obj.cells (dat root) 35)
  obtain ⟨q, hq⟩ : ∃ q, prefS n m s old root ps = q := ⟨_, rfl⟩
  rw [hq]
  obtain ⟨g, t, rfl, hg, hBh, hT, hn1, hn2⟩ := hh
  have Hh : Hid (Hsr w w.heap.size (.pointer (some ⟨g, 0, none⟩)) n) := Lib.hid ⟨g, t, rfl, hg, hBh, hT, hn1, hn2⟩
  have hc1 : w.cell? ⟨g, 1, none⟩ = some (.int .i64 n) := by have := hBh.cell 1; simpa using this
  have Hg1 := Lib.hid (And.intro hc1 hg)
  clear hT hBh hc1
  have Hq := Lib.hid hq
  have Hall := Lib.hid hall
  have Hold := Lib.hid hold
  have Hroot := Lib.hid hroot
  clear hq hall hold hroot
  obtain ⟨pA, pc, rfl, hp1, hp2, hp3⟩ := hp
  have HP : Hid (DX w (.slice pA ps.length pc) ps) := Lib.hid ⟨pA, pc, rfl, hp1, hp2, hp3⟩
  clear hp3 hp1
  go_enter Tryd.func24, Tryd.ntmps24
  go_upto_region 1 with fail
  refine wp_at (fun W => Blk W w.heap.size 35 (dat old) ∧ Blk W (w.heap.size + 1) 35 (dat root) ∧ Below w.heap.size w W) ⟨hA, hB, hb2⟩ ?_
  clear hA hB hb2
  rintro W ⟨hA, hB, hbel⟩
  by_cases hm0 : m = 0
  · subst hm0
    have hf : q = false := by rw [← Hq.out]; exact if_pos (.inl rfl)
    subst hf
    go_wp2_with fail
    try rw [Exit.noGoto_ret]
    go_ret
    exact ⟨rfl, hbel⟩
  have em0 : ((m : Int) == 0) = false := by rw [beq_eq_false_iff_ne]; omega
  by_cases hsm : s < m
  · have hsm' : (s : Int) < (m : Int) := by omega
    have hf : q = false := by rw [← Hq.out]; exact if_pos (.inr hsm)
    subst hf
    go_wp2_with fail
    try rw [Exit.noGoto_ret]
    go_ret
    exact ⟨rfl, hbel⟩
  have hsm' : ¬ (s : Int) < (m : Int) := by omega
  have hol := cutL_length old (n : Int) Hold.out
  have hrl := cutL_length root (n : Int) Hroot.out
  obtain ⟨oc, hoc⟩ : ∃ oc, cutL old (n : Int) = oc := ⟨_, rfl⟩
  obtain ⟨rc, hrc⟩ : ∃ rc, cutL root (n : Int) = rc := ⟨_, rfl⟩
  rw [hoc] at hol
  rw [hrc] at hrl
  have HO := Lib.hid (And.intro hoc (And.intro hrc (And.intro hol hrl)))
  clear hoc hrc hol hrl
  go_upto_region 3 with fail
  refine wp_region_mixT 6 (.plain 0 <| .plain 1 <| .plain 2 <| .plain 3 <| .plain 4 <| .only 5 <| .done) (by kernel_rfl) (by kernel_rfl) (fun W1 hb1 => ?_)
  replace hA := hA.below hb1 hA.lt
  replace hB := hB.below hb1 hB.lt
  replace hbel := hbel.trans (hb1.mono hbel.size)
  clear hb1
  have hd1 : W1.cell? ⟨g, 1, none⟩ = some (.int .i64 n) := (hbel.cell (p := ⟨g, 1, none⟩) Hg1.out.2).trans Hg1.out.1
  have hgG1 : g < W1.heap.size := Nat.lt_of_lt_of_le Hg1.out.2 hbel.size
  iterate 5 (refine mix_plain rfl ?_; (first
    | (refine wpQuiet_load rfl _ (.tmp 9) rfl w.heap.size rfl _ _ _ _ (fun _ ⟨e, he⟩ => by rw [he]; exact hA.plus e) Tryd.underlying35 rfl (by kernel_rfl) ?_; simp only [Act.put, List.setIfInBounds_toArray, List.set_cons_zero, List.set_cons_succ])
    | (refine wpQuiet_nilCheck rfl (.tmp 28) rfl _ rfl ?_; simp only [Act.put, List.setIfInBounds_toArray, List.set_cons_zero, List.set_cons_succ])
    | (refine wpQuiet_load1 rfl _ (.tmp 30) rfl _ rfl _ Tryd.underlying3 rfl _ (fun _ ⟨e, he⟩ => by rw [he, plus_cell _ _ _ hgG1]; exact hd1) ?_; simp only [Act.put, List.setIfInBounds_toArray, List.set_cons_zero, List.set_cons_succ])
    | go_big_quiet_step (fail)); refine wpQuiet_nil ?_)
  clear hd1 hgG1
  refine mix_only rfl (fun K hK => ?_)
  go_wp2_with fail
  refine (rcut_any old Hold.out (n : Int) W1).mono ?_
  rintro e W2 ⟨rfl, hb1⟩
  rw [HO.out.1]
  go_wp2_with fail
  refine hK _ _ hb1 ?_
  clear hK K
  replace hA := hA.below hb1 hA.lt
  replace hB := hB.below hb1 hB.lt
  replace hbel := hbel.trans (hb1.mono hbel.size)
  clear hb1
  refine mix_done ?_
  simp only [List.drop_succ_cons, List.drop_zero]
  refine wpList_storeDat rfl rfl 35 (.tmp 9) (.tmp 32) rfl w.heap.size rfl oc _ rfl _ hA (by kernel_rfl) ?_
  intro W4 hN4 hon4
  have hO4 := hB.grown hon4 (by intro e; injection e with e; omega)
  have hb4 := below_only hbel hon4 (Nat.le_refl _) hbel.size
  clear hA hB hbel hon4
  refine wpl_at (fun W => Blk W w.heap.size 35 (dat oc) ∧ Blk W (w.heap.size + 1) 35 (dat root) ∧ Below w.heap.size w W) ⟨hN4, hO4, hb4⟩ ?_
  clear hN4 hO4 hb4 W4
  rintro WA ⟨hA, hB, hbel⟩
  go_upto_region 4 with fail
  refine wp_region_mixT 6 (.plain 0 <| .plain 1 <| .plain 2 <| .plain 3 <| .plain 4 <| .only 5 <| .done) (by kernel_rfl) (by kernel_rfl) (fun W1 hb1 => ?_)
  replace hA := hA.below hb1 hA.lt
  replace hB := hB.below hb1 hB.lt
  replace hbel := hbel.trans (hb1.mono hbel.size)
  clear hb1
  have hd1 : W1.cell? ⟨g, 1, none⟩ = some (.int .i64 n) := (hbel.cell (p := ⟨g, 1, none⟩) Hg1.out.2).trans Hg1.out.1
  have hgG1 : g < W1.heap.size := Nat.lt_of_lt_of_le Hg1.out.2 hbel.size
  iterate 5 (refine mix_plain rfl ?_; (first
    | (refine wpQuiet_load rfl _ (.tmp 10) rfl (w.heap.size + 1) rfl _ _ _ _ (fun _ ⟨e, he⟩ => by rw [he]; exact hB.plus e) Tryd.underlying35 rfl (by kernel_rfl) ?_; simp only [Act.put, List.setIfInBounds_toArray, List.set_cons_zero, List.set_cons_succ])
    | (refine wpQuiet_nilCheck rfl (.tmp 34) rfl _ rfl ?_; simp only [Act.put, List.setIfInBounds_toArray, List.set_cons_zero, List.set_cons_succ])
    | (refine wpQuiet_load1 rfl _ (.tmp 36) rfl _ rfl _ Tryd.underlying3 rfl _ (fun _ ⟨e, he⟩ => by rw [he, plus_cell _ _ _ hgG1]; exact hd1) ?_; simp only [Act.put, List.setIfInBounds_toArray, List.set_cons_zero, List.set_cons_succ])
    | go_big_quiet_step (fail)); refine wpQuiet_nil ?_)
  clear hd1 hgG1
  refine mix_only rfl (fun K hK => ?_)
  go_wp2_with fail
  refine (rcut_any root Hroot.out (n : Int) W1).mono ?_
  rintro e W2 ⟨rfl, hb1⟩
  rw [HO.out.2.1]
  go_wp2_with fail
  refine hK _ _ hb1 ?_
  clear hK K
  replace hA := hA.below hb1 hA.lt
  replace hB := hB.below hb1 hB.lt
  replace hbel := hbel.trans (hb1.mono hbel.size)
  clear hb1
  refine mix_done ?_
  simp only [List.drop_succ_cons, List.drop_zero]
  refine wpList_storeDat rfl rfl 35 (.tmp 10) (.tmp 38) rfl (w.heap.size + 1) rfl rc _ rfl _ hB (by kernel_rfl) ?_
  intro W4 hN4 hon4
  have hO4 := hA.grown hon4 (by intro e; injection e with e; omega)
  have hb4 := below_only hbel hon4 (by omega) hbel.size
  clear hA hB hbel hon4
  refine wpl_at (fun W => Blk W w.heap.size 35 (dat oc) ∧ Blk W (w.heap.size + 1) 35 (dat rc) ∧ Below w.heap.size w W) ⟨hO4, hN4, hb4⟩ ?_
  clear hN4 hO4 hb4 W4
  rintro WB ⟨hA, hB, hbel⟩
  have hAx := hA
  clear hAx
  obtain ⟨Wx, hWx⟩ : ∃ Wx, Wx = WB := ⟨_, rfl⟩
  subst hWx
  by_cases hms : m = s
  · subst hms
    have hq := Hq.out
    unfold prefS at hq
    rw [if_neg (by omega), if_pos rfl, HO.out.1, HO.out.2.1] at hq
    by_cases hnil : ps = []
    · subst hnil
      rw [decide_eq_true rfl, Bool.true_and] at hq
      have Hd := Lib.hid hq
      clear hq Hq
      go_wp2_with (first
        | (refine wpList_loadW (by rfl) 35 (.tmp 9) rfl w.heap.size rfl _ _ _ hA Tryd.underlying35 rfl (by kernel_rfl) ?_)
        | (refine wpList_loadW (by rfl) 35 (.tmp 10) rfl (w.heap.size + 1) rfl _ _ _ hB Tryd.underlying35 rfl (by kernel_rfl) ?_)
        | (refine wpList_unguard rfl ?_; refine wpList_eqD rfl (.tmp 46) (.tmp 47) _ rfl oc rc rfl rfl HO.out.2.2.1 HO.out.2.2.2 q Hd.out ?_))
      try rw [Exit.noGoto_ret]
      go_ret
      exact ⟨rfl, hbel⟩
    · have e0 : ((ps.length : Int) == 0) = false := by rw [beq_eq_false_iff_ne]; have := List.length_pos_iff.2 hnil; omega
      rw [decide_eq_false hnil, Bool.false_and] at hq
      subst hq
      go_wp2_with fail
      try rw [Exit.noGoto_ret]
      go_ret
      exact ⟨rfl, hbel⟩
  have ems : ((m : Int) == (s : Int)) = false := by rw [beq_eq_false_iff_ne]; omega
  by_cases hnil : ps = []
  · subst hnil
    have hf : q = false := by rw [← Hq.out]; unfold prefS; rw [if_neg (by omega), if_neg hms, if_pos rfl]
    subst hf
    go_wp2_with fail
    try rw [Exit.noGoto_ret]
    go_ret
    exact ⟨rfl, hbel⟩
  have e0 : ((ps.length : Int) == 0) = false := by rw [beq_eq_false_iff_ne]; have := List.length_pos_iff.2 hnil; omega
  have hps1 : 1 ≤ ps.length := List.length_pos_iff.2 hnil
  have hsize := prefC_size n m old ps
  have hclen := prefC_len n m old Hold.out ps Hall.out
  obtain ⟨c0, cs, hcs⟩ : ∃ c0 cs, prefC n m old ps = c0 :: cs := by
    cases hq : prefC n m old ps with
    | nil => rw [hq] at hsize; have := hsize.1; simp only [List.length_nil] at this; omega
    | cons c cs => exact ⟨_, _, rfl⟩
  have hmain := prefS_main n m s old root ps hm0 hsm hms hnil c0 cs hcs
  rw [Hq.out, HO.out.1, HO.out.2.1] at hmain
  rw [hcs] at hsize hclen
  have HM := Lib.hid (And.intro hmain (And.intro hclen (And.intro hsize hcs)))
  clear hmain hclen hsize hcs Hq hnil hms hsm
  obtain ⟨m1, hm1⟩ : ∃ m1, m - 1 = m1 := ⟨_, rfl⟩
  obtain ⟨s1, hs1⟩ : ∃ s1, s - 1 = s1 := ⟨_, rfl⟩
  have hsub1 : (m : Int) - 1 = (m1 : Int) := by omega
  have hsub2 : (s : Int) - 1 = (s1 : Int) := by omega
  have hm1b : m1 ≤ 18446744073709551615 := by omega
  have hs1b : s1 ≤ 18446744073709551615 := by omega
  rw [hm1, hs1] at HM
  have HPx := Lib.hid (HP.out.next hbel)
  have HA := Lib.hid hA
  have HB := Lib.hid hB
  have Hbel := Lib.hid hbel
  have Hhx := Lib.hid (Hh.out.nxt hbel)
  have Hgx : Hid (Wx.cell? ⟨g, 1, none⟩ = some (.int .i64 n) ∧ g < Wx.heap.size) := Lib.hid ⟨(hbel.cell (p := ⟨g, 1, none⟩) Hg1.out.2).trans Hg1.out.1, Nat.lt_of_lt_of_le Hg1.out.2 hbel.size⟩
  clear hA hB hbel
  have hpow : ((m &&& m1 : Nat) : Int) = ((m &&& m1 : Nat) : Int) := rfl
  have hand : bits BinOp.and IntKind.u64 (m : Int) (m1 : Int) = ((m &&& m1 : Nat) : Int) := bits_and_u64_nat m m1 (by omega) (by omega)
  have hz : isPow m = (((m &&& m1 : Nat) : Int) == 0) := by
    unfold isPow
    rw [hm1]
    by_cases hh : m &&& m1 = 0
    · rw [hh]; rfl
    · rw [beq_eq_false_iff_ne.2 hh]; symm; rw [beq_eq_false_iff_ne]; omega
  generalize ((m &&& m1 : Nat) : Int) = z at hand hz
  have Hz := Lib.hid hz
  clear hpow hz
  go_upto_if 57 with fail
  go_cut [13] (fun v wx => wx.ownsRow Wx.heap.size 35 32 v (if isPow m then [oc] else []).length (dcells (if isPow m then [oc] else [])) ∧ Below Wx.heap.size Wx wx)
  case first =>
    by_cases hpw : isPow m = true
    · have hz0 : (z == 0) = true := by rw [← Hz.out]; exact hpw
      have Hpw := Lib.hid hpw
      clear hpw
      have hnil := World.ownsRow_nil Wx Wx.heap.size 35 32
      go_wp2_with (first
        | (refine wpList_loadW (by rfl) 35 (.tmp 9) rfl w.heap.size rfl _ _ _ HA.out Tryd.underlying35 rfl (by kernel_rfl) ?_)
        | (refine wpList_buildD rfl (.tmp 59) rfl oc rfl ?_)
        | (refine wpList_appendDig rfl (.tmp 58) (.tmp 60) rfl Wx.heap.size _ [] rfl (World.ownsRow_nil _ _ _ _) Wx.heap.size oc rfl (Blk.new Wx _ _) (by decide) (below_new1 Wx _).size ?_; intro v6 W6 hown6 hg6; have hb6 := below_own (below_new1 Wx (Obj.cells (dat oc) 35)) (World.ownsRow_nil _ Wx.heap.size 35 32) hg6 (below_new1 Wx _).size))
      go_meet
      rw [if_pos Hpw.out]
      exact ⟨hown6, hb6⟩
    · have hz0 : (z == 0) = false := by rw [← Hz.out]; exact Bool.eq_false_iff.2 hpw
      have Hpw := Lib.hid hpw
      clear hpw
      go_wp2_with fail
      go_meet
      rw [if_neg Hpw.out]
      exact ⟨World.ownsRow_nil _ _ _ _, Below.refl _ _⟩
  case rest =>
  obtain ⟨hown, hbel⟩ := hcut
  have Hpl : Hid ((if isPow m then [oc] else []).length ≤ 1) := Lib.hid (by split; exact Nat.le_refl _; exact Nat.zero_le _)
  have Hcs : Hid ((if isPow m then [oc] else []) ++ ps.map (fun p => cutL p n) = c0 :: cs) := Lib.hid (by rw [← HO.out.1]; exact HM.out.2.2.2)
  generalize (if isPow m then [oc] else []) = pre at hown Hpl Hcs
  go_wp2_with fail
  go_loopw [13, 14] (fun v iv wr => ∃ k : Nat, k ≤ ps.length ∧ iv = .int .i64 k ∧ wr.ownsRow Wx.heap.size 35 32 v (pre ++ (ps.take k).map (fun p => cutL p n)).length (dcells (pre ++ (ps.take k).map (fun p => cutL p n))) ∧ Below Wx.heap.size Wx wr) (fun _ iv _ => ps.length - (intOf iv).toNat)
  case atStart => exact ⟨0, Nat.zero_le _, rfl, by rw [List.take_zero, List.map_nil, List.append_nil]; exact hown, hbel⟩
  clear hown hbel
  case round =>
    obtain ⟨k, hkl, rfl, hown, hbel⟩ := hrel
    by_cases hlt : k < ps.length
    · have hlt' : (k : Int) < (ps.length : Int) := by omega
      obtain ⟨A', c', e1, _, _, hh1⟩ := HPx.out
      injection e1 with e1 _ e1c
      subst e1c
      obtain ⟨gp, op, e3, hgp, hrp⟩ := hh1 k hlt
      rw [e3] at e1
      subst e1
      clear hh1 e3
      have hdl : (ps.getD k []).length = 32 := Hall.out _ (by rw [List.getD_eq_getElem?_getD, List.getElem?_eq_getElem hlt]; exact List.getElem_mem _)
      have htake : ps.take (k + 1) = ps.take k ++ [ps.getD k []] := by
        rw [List.take_succ_eq_append_getElem hlt, List.getD_eq_getElem?_getD, List.getElem?_eq_getElem hlt]; rfl
      generalize ps.getD k [] = d at hrp hdl htake
      have Hd := Lib.hid (And.intro hdl htake)
      have Hrp := Lib.hid (And.intro hrp hgp)
      clear hdl htake hrp hgp
      go_upto_region 15 with fail
      have HS := Lib.hid (And.intro hown hbel)
      refine wp_region_mixS 12 (.plain 0 <| .plain 1 <| .plain 2 <| .plain 3 <| .plain 4 <| .plain 5 <| .plain 6 <| .plain 7 <| .plain 8 <| .only 9 <| .only 10 <| .only 11 <| .done) (fun W => Below Wx.heap.size Wx W) (by kernel_rfl) (by kernel_rfl) (below_drewN HS.out.2 1) ?_
      have hown1 : (wr.drewN 1).ownsRow Wx.heap.size 35 32 _ (pre ++ (ps.take k).map (fun p => cutL p n)).length (dcells (pre ++ (ps.take k).map (fun p => cutL p n))) := own_below HS.out.1 (below_drewN (Below.refl _ wr) 1)
      have hbel1 := below_drewN HS.out.2 1
      clear hown hbel HS
      refine mix_atC (fun W => W.ownsRow Wx.heap.size 35 32 _ (pre ++ (ps.take k).map (fun p => cutL p n)).length (dcells (pre ++ (ps.take k).map (fun p => cutL p n))) ∧ Below Wx.heap.size Wx W) ⟨hown1, hbel1⟩ ?_
      clear hown1 hbel1
      rintro W1 ⟨hown, hbel⟩
      iterate 9 (refine mix_plain rfl ?_; (first
        | (refine wpQuiet_loadMid rfl 35 (.tmp 71) rfl gp (op + k * 32) rfl (dat d) _ (fun _ hW => range_next Hrp.out.1 Hrp.out.2 hW) Tryd.underlying35 rfl (by rw [dat_size]; kernel_rfl) ?_; simp only [Act.put, List.setIfInBounds_toArray, List.set_cons_zero, List.set_cons_succ])
        | (refine wpQuiet_nilCheck rfl (.tmp 73) rfl _ rfl ?_; simp only [Act.put, List.setIfInBounds_toArray, List.set_cons_zero, List.set_cons_succ])
        | (refine wpQuiet_load1 rfl _ (.tmp 75) rfl _ rfl _ Tryd.underlying3 rfl _ (fun _ hW => (hW.cell (p := ⟨g, 1, none⟩) Hgx.out.2).trans Hgx.out.1) ?_; simp only [Act.put, List.setIfInBounds_toArray, List.set_cons_zero, List.set_cons_succ])
        | go_big_quiet_step ((intro _; rfl))); refine wpQuiet_nil ?_)
      refine mix_only_in rfl (fun K hK => ?_)
      go_wp2_with fail
      refine (rcut_any d Hd.out.1 (n : Int) W1).mono ?_
      rintro e W2 ⟨rfl, hb1⟩
      go_wp2_with fail
      refine hK _ _ (hbel.trans (hb1.mono hbel.size)) ?_
      clear hK K
      replace hown := own_below hown hb1
      replace hbel := hbel.trans (hb1.mono hbel.size)
      clear hb1
      have HT := Lib.hid (And.intro hown hbel)
      clear hown hbel
      refine mix_only_in rfl (fun K hK => ?_)
      go_wp2_with (first
        | (refine wpList_buildD rfl (.tmp 77) rfl (cutL d (n : Int)) rfl ?_))
      refine hK _ _ (HT.out.2.trans ((below_new1 W2 _).mono HT.out.2.size)) ?_
      clear hK K
      refine mix_only_in rfl (fun K hK => ?_)
      refine wpList_appendDig rfl (.tmp 68) (.tmp 78) rfl Wx.heap.size _ (pre ++ (ps.take k).map (fun p => cutL p n)) rfl (own_below HT.out.1 (below_new1 W2 _)) W2.heap.size (cutL d (n : Int)) rfl (Blk.new W2 _ _) (by have := Hpl.out; rw [List.length_append, List.length_map, List.length_take]; omega) (Nat.le_trans HT.out.2.size (below_new1 W2 _).size) ?_
      intro v6 w6 hown6 hg6
      have hbel6 := below_own (HT.out.2.trans ((below_new1 W2 _).mono HT.out.2.size)) (own_below HT.out.1 (below_new1 W2 _)) hg6 (Nat.le_trans HT.out.2.size (below_new1 W2 _).size)
      go_wp2_with fail
      refine hK _ _ hbel6 ?_
      clear hK K
      rw [List.append_assoc, ← List.map_singleton (f := fun p => cutL p (n : Int)), ← List.map_append, ← Hd.out.2] at hown6
      clear hg6 HT
      refine mix_done ?_
      simp only [List.drop_succ_cons, List.drop_zero]
      go_wp2_with fail
      go_roundw
      case rel => exact ⟨k + 1, by omega, by go_num, hown6, hbel6⟩
      case measure => simp [intOf]; omega
    · obtain rfl : k = ps.length := by omega
      rw [List.take_length, Hcs.out] at hown
      have HLk := Lib.hid (And.intro HM.out.2.1 HM.out.2.2.1)
      have hdx := DX.of_own hown
      obtain ⟨lA, lc, hlv⟩ := own_slice hown
      subst hlv
      obtain ⟨A', c', e1, hlc1, hlc2, hh1⟩ := hdx
      injection e1 with e1 _ e1c
      subst e1c
      subst e1
      obtain ⟨gr, orr, eA, hgr, hr0⟩ := hh1 0 (by simp)
      subst eA
      have hrow : ∀ j, j < (c0 :: cs).length → wr.rangeAt gr (orr + j * 32) (dat ((c0 :: cs).getD j [])).toList := fun j hj => by
        obtain ⟨g2, o2, e2, _, h2⟩ := hh1 j hj
        injection e2 with e2
        injection e2 with e2 e3
        subst e2; subst e3; exact h2
      have hr0 : wr.rangeAt gr orr (dat c0).toList := by have := hrow 0 (by simp); simpa using this
      have HR := Lib.hid (And.intro hrow (And.intro hgr hbel))
      have hll : (c0 :: cs).length = cs.length + 1 := rfl
      rw [hll] at hlc1 ⊢
      have hcsl : cs.length ≤ 1000000 := by have := HLk.out.2.2; rw [hll] at this; omega
      have HLc := Lib.hid hlc1
      clear hown hrow hh1 hgr hbel hlc1 hll
      have hlt' : ¬ (ps.length : Int) < (ps.length : Int) := by omega
      have hl0 : (0 : Int) < (cs.length : Int) + 1 := by omega
      go_wp2_with fail
      obtain ⟨Wy, hWy⟩ : ∃ Wy, Wy = wr := ⟨_, rfl⟩
      subst hWy
      go_loopw [15, 16] (fun fv sv wr => ∃ a b : Nat, fv = .int .u64 a ∧ sv = .int .u64 b ∧ a ≤ m1 ∧ b ≤ s1 ∧ Aside (podd a b = podd m1 s1) ∧ wr = Wy) (fun fv _ _ => (intOf fv).toNat)
      case atStart => exact ⟨m1, s1, rfl, rfl, Nat.le_refl _, Nat.le_refl _, rfl, rfl⟩
      case round =>
        obtain ⟨a, b2, rfl, rfl, ha, hb2, hst, hwr⟩ := hrel
        replace hwr := hwr.symm
        subst hwr
        have HS2 := Lib.hid hst.out
        clear hst
        rcases Nat.mod_two_eq_zero_or_one a with hmm | hmm
        case inr =>
          have hand2 : (a : Int) % 2 = 1 := by omega
          have HN := Lib.hid ((podd_odd hmm).symm.trans HS2.out)
          go_wp2_with fail
          go_roundw
          case rel => exact ⟨a / 2, b2 / 2, by go_num, by go_num, by omega, by omega, HN.out, by first | trivial | rfl⟩
          case measure => simp [intOf]; omega
        case inl =>
          have hand2 : (a : Int) % 2 = 0 := by omega
          have HE := Lib.hid (HS2.out.symm.trans (podd_even hmm))
          clear HS2
          have hD := Blk.new Wy 35 (arr 32 fun _ => 0)
          have hn1 := below_new1 Wy (Obj.cells (arr 32 fun _ => 0) 35)
          have HgR := Lib.hid HR.out.2.1
          go_wp2_with (first
            | (refine wpList_loadMid rfl 35 (.tmp 92) rfl gr orr rfl (dat c0) _ hr0 Tryd.underlying35 rfl (by rw [dat_size]; kernel_rfl) ?_)
            | (refine wpList_storeDat rfl rfl 35 (.tmp 17) (.tmp 93) rfl Wy.heap.size rfl _ _ rfl _ hD (by kernel_rfl) ?_; intro w2 hD2 hon2; refine wpl_at (fun W => Blk W Wy.heap.size 35 (dat c0) ∧ Below Wy.heap.size Wy W) ⟨hD2, below_only hn1 hon2 (Nat.le_refl _) hn1.size⟩ ?_; clear hD2 hon2 w2 hD hn1; rintro w2 ⟨hGB, hbw2⟩; have hr2 := range_next hr0 HgR.out hbw2; clear hr0)
            | (refine wpList_loadMid rfl 35 (.tmp 95) rfl gr orr rfl (dat c0) _ hr2 Tryd.underlying35 rfl (by rw [dat_size]; kernel_rfl) ?_)
            | (refine wpList_storeDat rfl rfl 35 (.tmp 18) (.tmp 96) rfl w2.heap.size rfl _ _ rfl _ (Blk.new w2 35 (arr 32 fun _ => 0)) (by kernel_rfl) ?_; intro w3 hD3 hon3; have hn3 := below_new1 w2 (Obj.cells (arr 32 fun _ => 0) 35); refine wpl_at (fun W => Blk W w2.heap.size 35 (dat c0) ∧ Blk W Wy.heap.size 35 (dat c0) ∧ Wy.heap.size ≠ w2.heap.size ∧ Below Wy.heap.size Wy W) ⟨hD3, (hGB.below hn3 hGB.lt).grown hon3 (fun e => Nat.ne_of_lt hGB.lt (Option.some.inj e)), Nat.ne_of_lt hGB.lt, hbw2.trans ((below_only hn3 hon3 (Nat.le_refl _) hn3.size).mono hbw2.size)⟩ ?_; have hHy := hbw2.size; clear hD3 hon3 w3 hGB hn3 hbw2 hr2; rintro w3 ⟨hHB, hGB, hne, hbel⟩; obtain ⟨H, hH⟩ : ∃ H, w2.heap.size = H := ⟨_, rfl⟩; obtain ⟨G, hGd⟩ : ∃ G, G = Wy.heap.size := ⟨_, rfl⟩; rw [hH] at hHB hne hHy ⊢; rw [← hGd] at hGB hne ⊢; have hGy : Wy.heap.size ≤ G := Nat.le_of_eq hGd.symm; clear hGd hH))
          have HQ := Lib.hid (show q = match prefW n cs a b2 c0 c0 with
            | some (fr, sr) => decide (fr = oc) && decide (sr = rc)
            | none => false from by have := HM.out.1; rw [HE.out] at this; exact this)
          go_loopw [15, 16, 19] (fun fv sv iv wr => ∃ (k fn sn : Nat) (fr sr : List UInt8), k ≤ cs.length ∧ iv = .int .i64 ((k : Int) + 1) ∧ fv = .int .u64 fn ∧ sv = .int .u64 sn ∧ fn ≤ m1 ∧ sn ≤ s1 ∧ fr.length = 32 ∧ sr.length = 32 ∧ Blk wr G 35 (dat fr) ∧ Blk wr H 35 (dat sr) ∧ Aside (prefW n cs a b2 c0 c0 = prefW n (cs.drop k) fn sn fr sr) ∧ Below Wy.heap.size Wy wr) (fun _ _ iv _ => cs.length + 1 - (intOf iv).toNat)
          case atStart => exact ⟨0, a, b2, c0, c0, Nat.zero_le _, rfl, rfl, rfl, ha, hb2, HLk.out.1 c0 (by simp), HLk.out.1 c0 (by simp), hGB, hHB, rfl, hbel⟩
          clear hGB hHB hbel
          case round =>
            obtain ⟨k, fn, sn, fr, sr, hkl, rfl, rfl, rfl, hfn, hsn, hfl, hsl, hGB, hHB, hA, hbel⟩ := hrel
            have HL := Lib.hid (And.intro hfl hsl)
            clear hfl hsl
            by_cases hlt : k < cs.length
            case neg =>
              obtain rfl : k = cs.length := by omega
              have hq := HQ.out
              rw [hA.out, List.drop_of_length_le (Nat.le_refl _), prefW_nil] at hq
              have hq2 : q = (decide (fr = oc) && (decide (sr = rc) && decide (sn = 0))) := by
                rw [hq]
                by_cases h0 : sn = 0
                · rw [if_pos h0, decide_eq_true h0, Bool.and_true]
                · rw [if_neg h0, decide_eq_false h0, Bool.and_false, Bool.and_false]
              have hAw := (HA.out.below HR.out.2.2 HA.out.lt).below hbel (HA.out.below HR.out.2.2 HA.out.lt).lt
              have hBw := (HB.out.below HR.out.2.2 HB.out.lt).below hbel (HB.out.below HR.out.2.2 HB.out.lt).lt
              have hbelW := Hbel.out.trans ((HR.out.2.2.trans (hbel.mono HR.out.2.2.size)).mono Hbel.out.size)
              clear hq hA hbel
              have hlt'' : ¬ (cs.length : Int) + 1 < (cs.length : Int) + 1 := by omega
              obtain ⟨p1, hp1⟩ : ∃ p, decide (fr = oc) = p := ⟨_, rfl⟩
              obtain ⟨p2, hp2⟩ : ∃ p, decide (sr = rc) = p := ⟨_, rfl⟩
              obtain ⟨p3, hp3⟩ : ∃ p, ((sn : Int) == 0) = p := ⟨_, rfl⟩
              have hp3' : decide (sn = 0) = p3 := by
                rw [← hp3]
                by_cases h0 : sn = 0
                · rw [decide_eq_true h0, h0]; rfl
                · rw [decide_eq_false h0]; symm; rw [beq_eq_false_iff_ne]; omega
              rw [hp1, hp2, hp3'] at hq2
              have H1 := Lib.hid hp1
              have H2 := Lib.hid hp2
              have Hq2 := Lib.hid hq2
              clear hp1 hp2 hp3' hq2
              cases p1
              all_goals (try cases p2)
              all_goals
                go_wp2_with (first
                  | (refine wpList_loadW (by rfl) 35 (.tmp 17) rfl G rfl _ _ _ hGB Tryd.underlying35 rfl (by kernel_rfl) ?_)
                  | (refine wpList_loadW (by rfl) 35 (.tmp 18) rfl H rfl _ _ _ hHB Tryd.underlying35 rfl (by kernel_rfl) ?_)
                  | (refine wpList_loadW (by rfl) 35 (.tmp 9) rfl w.heap.size rfl _ _ _ hAw Tryd.underlying35 rfl (by kernel_rfl) ?_)
                  | (refine wpList_loadW (by rfl) 35 (.tmp 10) rfl (w.heap.size + 1) rfl _ _ _ hBw Tryd.underlying35 rfl (by kernel_rfl) ?_)
                  | (refine wpList_eqD rfl (.tmp 149) (.tmp 150) _ rfl fr oc rfl rfl HL.out.1 HO.out.2.2.1 _ H1.out ?_)
                  | (refine wpList_unguard rfl ?_; refine wpList_eqD rfl (.tmp 153) (.tmp 154) _ rfl sr rc rfl rfl HL.out.2 HO.out.2.2.2 _ H2.out ?_))
                try rw [Exit.noGoto_ret]
                go_ret
                exact ⟨by rw [Hq2.out]; rfl, hbelW⟩
            have hlt' : (k : Int) + 1 < (cs.length : Int) + 1 := by omega
            have hcl : (cs.getD k []).length = 32 := HLk.out.1 _ (by rw [List.getD_eq_getElem?_getD, List.getElem?_eq_getElem hlt]; exact List.mem_cons_of_mem _ (List.getElem_mem _))
            have hdrop : cs.drop k = cs.getD k [] :: cs.drop (k + 1) := by
              rw [List.drop_eq_getElem_cons hlt, List.getD_eq_getElem?_getD, List.getElem?_eq_getElem hlt]; rfl
            have hrp : Wy.rangeAt gr (orr + (k + 1) * 32) (dat (cs.getD k [])).toList := by
              have h1 := HR.out.1 (k + 1) (by simp; omega)
              have e : (c0 :: cs).getD (k + 1) [] = cs.getD k [] := by simp [List.getD_eq_getElem?_getD]
              rw [e] at h1
              exact h1
            generalize cs.getD k [] = c at hrp hcl hdrop
            have HC := Lib.hid (And.intro hcl (And.intro hA.out hdrop))
            have Hrp := Lib.hid (And.intro hrp HR.out.2.1)
            clear hcl hdrop hA hrp
            by_cases h0 : sn = 0
            · subst h0
              have hf : q = false := by rw [HQ.out, HC.out.2.1, HC.out.2.2, prefW_zero]
              have Hf := Lib.hid hf
              clear hf
              have hbelW := Hbel.out.trans ((HR.out.2.2.trans (hbel.mono HR.out.2.2.size)).mono Hbel.out.size)
              go_wp2_with fail
              try rw [Exit.noGoto_ret]
              go_ret
              exact ⟨by rw [Hf.out]; rfl, hbelW⟩
            have e00 : ((sn : Int) == 0) = false := by rw [beq_eq_false_iff_ne]; omega
            by_cases hc : fn % 2 = 0 ∧ fn ≠ sn
            case pos =>
              have hand3 : (fn : Int) % 2 = 0 := by omega
              have hneq : ((fn : Int) == (sn : Int)) = false := by rw [beq_eq_false_iff_ne]; omega
              have Hc := Lib.hid hc
              clear hc
              go_upto_region 34 with fail
              refine wp_region_mixT 7 (.plain 0 <| .plain 1 <| .plain 2 <| .plain 3 <| .plain 4 <| .plain 5 <| .only 6 <| .done) (by kernel_rfl) (by kernel_rfl) (fun W1 hb1 => ?_)
              have hG1 := hGB.below hb1 hGB.lt
              have hH1 := hHB.below hb1 hHB.lt
              have hbel1 := hbel.trans (hb1.mono hbel.size)
              clear hGB hHB hbel hb1
              have hr1 := range_next Hrp.out.1 Hrp.out.2 hbel1
              have hgr1 : gr < W1.heap.size := Nat.lt_of_lt_of_le Hrp.out.2 hbel1.size
              iterate 6 (refine mix_plain rfl ?_; (first
                | (refine wpQuiet_loadMid rfl 35 (.tmp 142) rfl gr (orr + (k + 1) * 32) rfl (dat c) _ (fun _ ⟨e, he⟩ => by rw [he]; exact range_plus hr1 e) Tryd.underlying35 rfl (by rw [dat_size]; kernel_rfl) ?_; simp only [Act.put, List.setIfInBounds_toArray, List.set_cons_zero, List.set_cons_succ])
                | (refine wpQuiet_load rfl _ (.tmp 17) rfl G rfl _ _ _ _ (fun _ ⟨e, he⟩ => by rw [he]; exact hG1.plus e) Tryd.underlying35 rfl (by kernel_rfl) ?_; simp only [Act.put, List.setIfInBounds_toArray, List.set_cons_zero, List.set_cons_succ])
                | (refine wpQuiet_load rfl _ (.tmp 18) rfl H rfl _ _ _ _ (fun _ ⟨e, he⟩ => by rw [he]; exact hH1.plus e) Tryd.underlying35 rfl (by kernel_rfl) ?_; simp only [Act.put, List.setIfInBounds_toArray, List.set_cons_zero, List.set_cons_succ])
                | go_big_quiet_step (fail)); refine wpQuiet_nil ?_)
              clear hr1 hgr1
              refine mix_only rfl (fun K hK => ?_)
              go_wp2_with fail
              refine (r8node_any _ n sr c HL.out.2 HC.out.1 W1 (Hhx.out.nxt (HR.out.2.2.trans (hbel1.mono HR.out.2.2.size)))).mono ?_
              rintro e W2 ⟨rfl, hb1⟩
              go_wp2_with fail
              refine hK _ _ hb1 ?_
              clear hK K
              replace hG1 := hG1.below hb1 hG1.lt
              replace hH1 := hH1.below hb1 hH1.lt
              replace hbel1 := hbel1.trans (hb1.mono hbel1.size)
              clear hb1
              refine mix_done ?_
              simp only [List.drop_succ_cons, List.drop_zero]
              refine wpList_storeDat rfl rfl 35 (.tmp 18) (.tmp 144) rfl H rfl (nodeM n sr c) _ rfl _ hH1 (by kernel_rfl) ?_
              intro w4 hN4 hon4
              refine wpl_at (fun W => Blk W G 35 (dat fr) ∧ Blk W H 35 (dat (nodeM n sr c)) ∧ Below Wy.heap.size Wy W) ⟨hG1.grown hon4 (fun e => hne (Option.some.inj e)), hN4, below_only hbel1 hon4 hHy hbel1.size⟩ ?_
              clear hG1 hH1 hbel1 hN4 hon4 w4
              rintro w4 ⟨hG4, hH4, hbel4⟩
              go_wp2_with fail
              go_roundw
              case rel =>
                refine ⟨k + 1, fn / 2, sn / 2, fr, nodeM n sr c, by omega, by go_num, by go_num, by go_num, by omega, by omega, HL.out.1, nodeM_length _ _ _, hG4, hH4, ?_, hbel4⟩
                show prefW _ _ _ _ _ _ = _
                rw [HC.out.2.1, HC.out.2.2, prefW_right _ _ _ _ _ _ _ h0 Hc.out.1 Hc.out.2]
              case measure => simp [intOf]; omega
            case neg =>
              have Hn3 := Lib.hid hc
              have hpick : ((fn : Int) % 2 = 1 ∧ True) ∨ ((fn : Int) % 2 = 0 ∧ ((fn : Int) == (sn : Int)) = true) := by
                rcases Nat.mod_two_eq_zero_or_one fn with h | h
                · right; exact ⟨by omega, by rw [beq_iff_eq]; omega⟩
                · left; exact ⟨by omega, trivial⟩
              clear hc
              rcases hpick with ⟨hand3, hneq⟩ | ⟨hand3, hneq⟩
              all_goals
                go_upto_region 29 with fail
                refine wp_region_mixT 7 (.plain 0 <| .plain 1 <| .plain 2 <| .plain 3 <| .plain 4 <| .plain 5 <| .only 6 <| .done) (by kernel_rfl) (by kernel_rfl) (fun W1 hb1 => ?_)
                have hG1 := hGB.below hb1 hGB.lt
                have hH1 := hHB.below hb1 hHB.lt
                have hbel1 := hbel.trans (hb1.mono hbel.size)
                clear hGB hHB hbel hb1
                have hr1 := range_next Hrp.out.1 Hrp.out.2 hbel1
                have hgr1 : gr < W1.heap.size := Nat.lt_of_lt_of_le Hrp.out.2 hbel1.size
                iterate 6 (refine mix_plain rfl ?_; (first
                  | (refine wpQuiet_loadMid rfl 35 (.tmp 116) rfl gr (orr + (k + 1) * 32) rfl (dat c) _ (fun _ ⟨e, he⟩ => by rw [he]; exact range_plus hr1 e) Tryd.underlying35 rfl (by rw [dat_size]; kernel_rfl) ?_; simp only [Act.put, List.setIfInBounds_toArray, List.set_cons_zero, List.set_cons_succ])
                  | (refine wpQuiet_load rfl _ (.tmp 17) rfl G rfl _ _ _ _ (fun _ ⟨e, he⟩ => by rw [he]; exact hG1.plus e) Tryd.underlying35 rfl (by kernel_rfl) ?_; simp only [Act.put, List.setIfInBounds_toArray, List.set_cons_zero, List.set_cons_succ])
                  | (refine wpQuiet_load rfl _ (.tmp 18) rfl H rfl _ _ _ _ (fun _ ⟨e, he⟩ => by rw [he]; exact hH1.plus e) Tryd.underlying35 rfl (by kernel_rfl) ?_; simp only [Act.put, List.setIfInBounds_toArray, List.set_cons_zero, List.set_cons_succ])
                  | go_big_quiet_step (fail)); refine wpQuiet_nil ?_)
                clear hr1 hgr1
                refine mix_only rfl (fun K hK => ?_)
                go_wp2_with fail
                refine (r8node_any _ n c fr HC.out.1 HL.out.1 W1 (Hhx.out.nxt (HR.out.2.2.trans (hbel1.mono HR.out.2.2.size)))).mono ?_
                rintro e W2 ⟨rfl, hb1⟩
                go_wp2_with fail
                refine hK _ _ hb1 ?_
                clear hK K
                replace hG1 := hG1.below hb1 hG1.lt
                replace hH1 := hH1.below hb1 hH1.lt
                replace hbel1 := hbel1.trans (hb1.mono hbel1.size)
                clear hb1
                refine mix_done ?_
                simp only [List.drop_succ_cons, List.drop_zero]
                refine wpList_storeDat rfl rfl 35 (.tmp 17) (.tmp 119) rfl G rfl (nodeM n c fr) _ rfl _ hG1 (by kernel_rfl) ?_
                intro w4 hN4 hon4
                refine wpl_at (fun W => Blk W G 35 (dat (nodeM n c fr)) ∧ Blk W H 35 (dat sr) ∧ Below Wy.heap.size Wy W) ⟨hN4, hH1.grown hon4 (fun e => hne (Option.some.inj e).symm), below_only hbel1 hon4 hGy hbel1.size⟩ ?_
                clear hG1 hH1 hbel1 hN4 hon4 w4
                rintro w4 ⟨hGB, hHB, hbel⟩
                go_upto_region 30 with fail
                refine wp_region_mixT 7 (.plain 0 <| .plain 1 <| .plain 2 <| .plain 3 <| .plain 4 <| .plain 5 <| .only 6 <| .done) (by kernel_rfl) (by kernel_rfl) (fun W1 hb1 => ?_)
                have hG1 := hGB.below hb1 hGB.lt
                have hH1 := hHB.below hb1 hHB.lt
                have hbel1 := hbel.trans (hb1.mono hbel.size)
                clear hGB hHB hbel hb1
                have hr1 := range_next Hrp.out.1 Hrp.out.2 hbel1
                have hgr1 : gr < W1.heap.size := Nat.lt_of_lt_of_le Hrp.out.2 hbel1.size
                iterate 6 (refine mix_plain rfl ?_; (first
                  | (refine wpQuiet_loadMid rfl 35 (.tmp 123) rfl gr (orr + (k + 1) * 32) rfl (dat c) _ (fun _ ⟨e, he⟩ => by rw [he]; exact range_plus hr1 e) Tryd.underlying35 rfl (by rw [dat_size]; kernel_rfl) ?_; simp only [Act.put, List.setIfInBounds_toArray, List.set_cons_zero, List.set_cons_succ])
                  | (refine wpQuiet_load rfl _ (.tmp 17) rfl G rfl _ _ _ _ (fun _ ⟨e, he⟩ => by rw [he]; exact hG1.plus e) Tryd.underlying35 rfl (by kernel_rfl) ?_; simp only [Act.put, List.setIfInBounds_toArray, List.set_cons_zero, List.set_cons_succ])
                  | (refine wpQuiet_load rfl _ (.tmp 18) rfl H rfl _ _ _ _ (fun _ ⟨e, he⟩ => by rw [he]; exact hH1.plus e) Tryd.underlying35 rfl (by kernel_rfl) ?_; simp only [Act.put, List.setIfInBounds_toArray, List.set_cons_zero, List.set_cons_succ])
                  | go_big_quiet_step (fail)); refine wpQuiet_nil ?_)
                clear hr1 hgr1
                refine mix_only rfl (fun K hK => ?_)
                go_wp2_with fail
                refine (r8node_any _ n c sr HC.out.1 HL.out.2 W1 (Hhx.out.nxt (HR.out.2.2.trans (hbel1.mono HR.out.2.2.size)))).mono ?_
                rintro e W2 ⟨rfl, hb1⟩
                go_wp2_with fail
                refine hK _ _ hb1 ?_
                clear hK K
                replace hG1 := hG1.below hb1 hG1.lt
                replace hH1 := hH1.below hb1 hH1.lt
                replace hbel1 := hbel1.trans (hb1.mono hbel1.size)
                clear hb1
                refine mix_done ?_
                simp only [List.drop_succ_cons, List.drop_zero]
                refine wpList_storeDat rfl rfl 35 (.tmp 18) (.tmp 126) rfl H rfl (nodeM n c sr) _ rfl _ hH1 (by kernel_rfl) ?_
                intro w4 hN4 hon4
                refine wpl_at (fun W => Blk W G 35 (dat (nodeM n c fr)) ∧ Blk W H 35 (dat (nodeM n c sr)) ∧ Below Wy.heap.size Wy W) ⟨hG1.grown hon4 (fun e => hne (Option.some.inj e)), hN4, below_only hbel1 hon4 hHy hbel1.size⟩ ?_
                clear hG1 hH1 hbel1 hN4 hon4 w4 hand3 hneq
                rintro w5 ⟨hG5, hH5, hbel5⟩
                have H5 := Lib.hid (And.intro hG5 (And.intro hH5 hbel5))
                clear hG5 hH5 hbel5
                go_wp2_with fail
                go_loopw [15, 16] (fun fv sv wr => ∃ a3 b3 : Nat, fv = .int .u64 a3 ∧ sv = .int .u64 b3 ∧ a3 ≤ m1 ∧ b3 ≤ s1 ∧ Aside (strip a3 b3 = strip fn sn) ∧ wr = w5) (fun fv _ _ => (intOf fv).toNat)
                case atStart => exact ⟨fn, sn, rfl, rfl, hfn, hsn, rfl, rfl⟩
                case round =>
                  obtain ⟨a3, b3, rfl, rfl, ha3, hb3, hst, hwr⟩ := hrel
                  replace hwr := hwr.symm
                  subst hwr
                  have HS2 := Lib.hid hst.out
                  clear hst
                  rcases Nat.mod_two_eq_zero_or_one a3 with hm | hm
                  · have hand4 : (a3 : Int) % 2 = 0 := by omega
                    by_cases ha0 : a3 = 0
                    · have h00 : ((a3 : Int) != 0) = false := by rw [bne_eq_false_iff_eq]; omega
                      have HE3 := Lib.hid (HS2.out.symm.trans (strip_done (by omega)))
                      go_wp2_with fail
                      go_roundw
                      case rel =>
                        refine ⟨k + 1, a3 / 2, b3 / 2, nodeM n c fr, nodeM n c sr, by omega, by go_num, by go_num, by go_num, by omega, by omega, nodeM_length _ _ _, nodeM_length _ _ _, H5.out.1, H5.out.2.1, ?_, H5.out.2.2⟩
                        show prefW _ _ _ _ _ _ = _
                        rw [HC.out.2.1, HC.out.2.2, prefW_left _ _ _ _ _ _ _ h0 Hn3.out, HE3.out]
                      case measure => simp [intOf]; omega
                    · have h00 : ((a3 : Int) != 0) = true := by rw [bne_iff_ne]; omega
                      have HN := Lib.hid ((strip_even hm ha0).symm.trans HS2.out)
                      go_wp2_with fail
                      go_roundw
                      case rel => exact ⟨a3 / 2, b3 / 2, by go_num, by go_num, by omega, by omega, HN.out, by first | trivial | rfl⟩
                      case measure => simp [intOf]; omega
                  · have hand4 : (a3 : Int) % 2 = 1 := by omega
                    have HE3 := Lib.hid (HS2.out.symm.trans (strip_done (by omega)))
                    go_wp2_with fail
                    go_roundw
                    case rel =>
                      refine ⟨k + 1, a3 / 2, b3 / 2, nodeM n c fr, nodeM n c sr, by omega, by go_num, by go_num, by go_num, by omega, by omega, nodeM_length _ _ _, nodeM_length _ _ _, H5.out.1, H5.out.2.1, ?_, H5.out.2.2⟩
                      show prefW _ _ _ _ _ _ = _
                      rw [HC.out.2.1, HC.out.2.2, prefW_left _ _ _ _ _ _ _ h0 Hn3.out, HE3.out]
                    case measure => simp [intOf]; omega
end Go.Proofs.YtcgbokgedfekkaaDoor
