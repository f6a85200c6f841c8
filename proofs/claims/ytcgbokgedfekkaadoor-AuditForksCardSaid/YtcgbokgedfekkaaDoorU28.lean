/- Texts that stand behind one another: VerG. No condition. -/
import Derived.Test.YtcgbokgedfekkaaDoorU27
/- The walk of verify's Prefix. No condition. -/
namespace Go.Proofs.YtcgbokgedfekkaaDoor
open Go Go.RowKit
attribute [local irreducible] mixW
attribute [local go_sem] n8_lo n8_hi n64_lo n64_hi n32_lo n32_hi
section
variable {P : Program} {t e : TypeId} {A : Option Addr} {len cap sz : Nat}
theorem run_cut_ls (ht : P.underlying t = some (.slice e)) (hs : (P.info? e).map (·.size) = some sz) (lo : Nat) (h1 : lo ≤ len) (w : World) :
    (Instr.sliceAt t (.slice A len cap) (some (.int .i64 lo)) none none).run P w = .ok (.slice (if cap = lo then A else A.map (·.add (lo * sz))) (len - lo) (cap - lo)) w := by
  obtain ⟨i, hi1, hi2⟩ : ∃ i, P.info? e = some i ∧ i.size = sz := by
    cases hq : P.info? e with
    | none => rw [hq] at hs; cases hs
    | some i => rw [hq] at hs; exact ⟨i, rfl, by simpa using hs⟩
  have a1 : (lo : Int) ≤ (len : Int) := by omega
  simp [Instr.sliceAt, Instr.slice, run_underlying ht, Instr.sliceBounds, run_sliceBound, hi1, hi2, sizeOf, typeInfo, a1]
theorem wpList_tailD {w : World} {ops : Array Oper} {a : Act} {o : Oper} {rest : List Oper} {Q : Exit → Act → World → Prop} (hg : o.guard = none) (t : TypeId) (x : Operand) (ho : o.op = .slice t x (some (.const (.int .i64 1))) none none) (e : TypeId) (ht : P.underlying t = some (.slice e)) (hs : (P.info? e).map (·.size) = some sz)
    (A : Option Addr) (len cap : Nat) (hx : a.eval x = .slice A len cap) (h1 : 1 ≤ len)
    (hk : ∀ A2, (cap ≠ 1 → A2 = A.map (·.add (1 * sz))) → wpList P ops Q rest (a.put o.dst (.slice A2 (len - 1) (cap - 1))) w) : wpList P ops Q (o :: rest) a w :=
  wpList_plain hg fun K hK => by
    have hc : a.eval (.const (.int .i64 1)) = .int .i64 ((1 : Nat) : Int) := rfl
    unfold Oper.wp execOp
    simp only [ho, Option.map_some, Option.map_none, hx, hc, Sem.run_bind, run_cut_ls ht hs 1 h1, Result.andThen_ok, Sem.run_pure]
    exact hK _ _ (hk _ (fun h => if_neg h))
end
/-- which hashes the way of two roots begins with -/
def prefC (n m : Nat) (old : List UInt8) (ps : List (List UInt8)) : List (List UInt8) := (if isPow m then [cutL old n] else []) ++ ps.map (fun p => cutL p n)
theorem prefS_main (n m s : Nat) (old root : List UInt8) (ps : List (List UInt8)) (h0 : m ≠ 0) (h1 : ¬ s < m) (h2 : m ≠ s) (h3 : ps ≠ []) (c : List UInt8) (cs : List (List UInt8)) (hc : prefC n m old ps = c :: cs) :
    prefS n m s old root ps = match prefW n cs (podd (m - 1) (s - 1)).1 (podd (m - 1) (s - 1)).2 c c with
      | some (fr, sr) => decide (fr = cutL old n) && decide (sr = cutL root n)
      | none => false := by
  unfold prefS
  rw [if_neg (by omega), if_neg h2, if_neg h3]
  unfold prefC at hc
  rw [hc]; rfl
theorem prefC_len (n m : Nat) (old : List UInt8) (ho : old.length = 32) (ps : List (List UInt8)) (hall : ∀ d ∈ ps, d.length = 32) : ∀ d ∈ prefC n m old ps, d.length = 32 := by
  intro d hd
  rcases List.mem_append.1 hd with h | h
  · split at h
    · rw [List.mem_singleton.1 h]; exact cutL_length _ _ ho
    · cases h
  · obtain ⟨p, hp, rfl⟩ := List.mem_map.1 h
    exact cutL_length _ _ (hall p hp)
theorem prefC_size (n m : Nat) (old : List UInt8) (ps : List (List UInt8)) : ps.length ≤ (prefC n m old ps).length ∧ (prefC n m old ps).length ≤ ps.length + 1 := by
  unfold prefC
  rw [List.length_append, List.length_map]
  split <;> simp <;> omega
set_option maxHeartbeats 6000000 in
set_option maxRecDepth 100000 in
theorem vprefix_any (x : Int) (m s : Nat) (hm64 : m ≤ 18446744073709551615) (hs64 : s ≤ 18446744073709551615) (old root : List UInt8) (hold : old.length = 32) (hroot : root.length = 32) (pv : Value) (ps : List (List UInt8)) (hall : ∀ d ∈ ps, d.length = 32) (hps : ps.length ≤ 1000000) (w : World) (hp : DX w pv ps) (hG : Glob w) :
    Calls Tryd.prog 23 #[.int .i64 x, .int .u64 m, .int .u64 s, .agg (dat old), .agg (dat root), pv] w fun e w' => e = .returned (.bool (prefS (cutW x) m s old root ps)) ∧ Below w.heap.size w w' := by
  have hA := (Blk.new w 35 (dat old)).alloc (Obj.cells (dat root) 35)
  have hB := Blk.new2 w (Obj.cells (dat old) 35) 35 (dat root)
  have hb2 := (below_new1 w (Obj.cells (dat old) 35)).alloc (by simp) (Obj.cells (dat root) 35)
  obtain ⟨q, hq⟩ : ∃ q, prefS (cutW x) m s old root ps = q := ⟨_, rfl⟩
  rw [hq]
  have Hn := Lib.hid (cutW_hi x)
  have Hq := Lib.hid hq
  have Hall := Lib.hid hall
  have Hold := Lib.hid hold
  have Hroot := Lib.hid hroot
  clear hq hall hold hroot
  obtain ⟨pA, pc, rfl, hp1, hp2, hp3⟩ := hp
  have HP : Hid (DX w (.slice pA ps.length pc) ps) := Lib.hid ⟨pA, pc, rfl, hp1, hp2, hp3⟩
  clear hp3 hp1
  go_enter Tryd.func23, Tryd.ntmps23
  go_upto_region 1 with fail
  refine wp_at (fun W => Blk W w.heap.size 35 (dat old) ∧ Blk W (w.heap.size + 1) 35 (dat root) ∧ Below w.heap.size w W) ⟨hA, hB, hb2⟩ ?_
  clear hA hB hb2
  rintro W ⟨hA, hB, hbel⟩
  go_step3
  go_wp2_with fail
  refine (vcut_any x W).mono ?_
  rintro e _ ⟨rfl, rfl⟩
  obtain ⟨n, hn⟩ : ∃ n, cutW x = n := ⟨_, rfl⟩
  rw [hn] at Hn Hq ⊢
  have Hx := Lib.hid hn
  clear hn
  go_wp2_with fail
  refine wp_region_mixT 6 (.plain 0 <| .plain 1 <| .plain 3 <| .plain 4 <| .only 2 <| .only 5 <| .done) (by kernel_rfl) (by kernel_rfl) (fun W1 hb1 => ?_)
  replace hA := hA.below hb1 hA.lt
  replace hB := hB.below hb1 hB.lt
  replace hbel := hbel.trans (hb1.mono hbel.size)
  clear hb1
  iterate 4 (refine mix_plain rfl ?_; (first
    | (refine wpQuiet_load rfl _ (.tmp 9) rfl w.heap.size rfl _ _ _ _ (fun _ ⟨e, he⟩ => by rw [he]; exact hA.plus e) Tryd.underlying35 rfl (by kernel_rfl) ?_; simp only [Act.put, List.setIfInBounds_toArray, List.set_cons_zero, List.set_cons_succ])
    | (refine wpQuiet_load rfl _ (.tmp 10) rfl (w.heap.size + 1) rfl _ _ _ _ (fun _ ⟨e, he⟩ => by rw [he]; exact hB.plus e) Tryd.underlying35 rfl (by kernel_rfl) ?_; simp only [Act.put, List.setIfInBounds_toArray, List.set_cons_zero, List.set_cons_succ])
    | go_big_quiet_step (fail)); refine wpQuiet_nil ?_)
  refine mix_only rfl (fun K hK => ?_)
  go_wp2_with fail
  refine (cut_any old Hold.out _ W1).mono ?_
  rintro e W2 ⟨rfl, hb1⟩
  go_wp2_with fail
  refine hK _ _ hb1 ?_
  clear hK K
  replace hA := hA.below hb1 hA.lt
  replace hB := hB.below hb1 hB.lt
  replace hbel := hbel.trans (hb1.mono hbel.size)
  clear hb1
  refine mix_only rfl (fun K hK => ?_)
  go_wp2_with fail
  refine (cut_any root Hroot.out _ W2).mono ?_
  rintro e W3 ⟨rfl, hb1⟩
  go_wp2_with fail
  refine hK _ _ hb1 ?_
  clear hK K
  replace hA := hA.below hb1 hA.lt
  replace hB := hB.below hb1 hB.lt
  replace hbel := hbel.trans (hb1.mono hbel.size)
  clear hb1
  refine mix_done ?_
  simp only [List.drop_succ_cons, List.drop_zero]
  have hol := cutL_length old (n : Int) Hold.out
  have hrl := cutL_length root (n : Int) Hroot.out
  obtain ⟨oc, hoc⟩ : ∃ oc, cutL old (n : Int) = oc := ⟨_, rfl⟩
  obtain ⟨rc, hrc⟩ : ∃ rc, cutL root (n : Int) = rc := ⟨_, rfl⟩
  rw [hoc] at hol ⊢
  rw [hrc] at hrl ⊢
  have HO := Lib.hid (And.intro hoc (And.intro hrc (And.intro hol hrl)))
  clear hoc hrc hol hrl
  refine wpList_storeDat rfl rfl 35 (.tmp 9) (.tmp 27) rfl w.heap.size rfl oc _ rfl _ hA (by kernel_rfl) ?_
  intro W4 hA4 hon4
  have hB4 := hB.grown hon4 (by intro e; injection e with e; omega)
  refine wpList_storeDat rfl rfl 35 (.tmp 10) (.tmp 30) rfl (w.heap.size + 1) rfl rc _ rfl _ hB4 (by kernel_rfl) ?_
  intro W5 hB5 hon5
  have hb4 := below_only hbel hon4 (Nat.le_refl _) hbel.size
  refine wpl_at (fun W => Blk W w.heap.size 35 (dat oc) ∧ Blk W (w.heap.size + 1) 35 (dat rc) ∧ Below w.heap.size w W) ⟨hA4.grown hon5 (by intro e; injection e with e; omega), hB5, below_only hb4 hon5 (by omega) hb4.size⟩ ?_
  clear hA4 hon4 hB4 hb4 hB5 hon5 W5 W4 hA hB hbel
  rintro Wx ⟨hA, hB, hbel⟩
  by_cases hm0 : m = 0
  · subst hm0
    have hf : q = false := by rw [← Hq.out]; exact if_pos (.inl rfl)
    subst hf
    go_wp2_with fail
    try rw [Exit.noGoto_ret]
    go_ret
    exact ⟨rfl, hbel⟩
  have em0 : ((m : Int) == 0) = false := by rw [beq_eq_false_iff_ne]; omega
  by_cases hsm : s < m
  · have hsm' : (s : Int) < (m : Int) := by omega
    have hf : q = false := by rw [← Hq.out]; exact if_pos (.inr hsm)
    subst hf
    go_wp2_with fail
    try rw [Exit.noGoto_ret]
    go_ret
    exact ⟨rfl, hbel⟩
  have hsm' : ¬ (s : Int) < (m : Int) := by omega
  by_cases hms : m = s
  · subst hms
    have hq := Hq.out
    unfold prefS at hq
    rw [if_neg (by omega), if_pos rfl, HO.out.1, HO.out.2.1] at hq
    by_cases hnil : ps = []
    · subst hnil
      rw [decide_eq_true rfl, Bool.true_and] at hq
      have Hd := Lib.hid hq
      clear hq Hq
      go_wp2_with (first
        | (refine wpList_loadW (by rfl) 35 (.tmp 9) rfl w.heap.size rfl _ _ _ hA Tryd.underlying35 rfl (by kernel_rfl) ?_)
        | (refine wpList_loadW (by rfl) 35 (.tmp 10) rfl (w.heap.size + 1) rfl _ _ _ hB Tryd.underlying35 rfl (by kernel_rfl) ?_)
        | (refine wpList_unguard rfl ?_; refine wpList_eqD rfl (.tmp 47) (.tmp 48) _ rfl oc rc rfl rfl HO.out.2.2.1 HO.out.2.2.2 q Hd.out ?_))
      try rw [Exit.noGoto_ret]
      go_ret
      exact ⟨rfl, hbel⟩
    · have e0 : ((ps.length : Int) == 0) = false := by rw [beq_eq_false_iff_ne]; have := List.length_pos_iff.2 hnil; omega
      rw [decide_eq_false hnil, Bool.false_and] at hq
      subst hq
      go_wp2_with fail
      try rw [Exit.noGoto_ret]
      go_ret
      exact ⟨rfl, hbel⟩
  have ems : ((m : Int) == (s : Int)) = false := by rw [beq_eq_false_iff_ne]; omega
  by_cases hnil : ps = []
  · subst hnil
    have hf : q = false := by rw [← Hq.out]; unfold prefS; rw [if_neg (by omega), if_neg hms, if_pos rfl]
    subst hf
    go_wp2_with fail
    try rw [Exit.noGoto_ret]
    go_ret
    exact ⟨rfl, hbel⟩
  have e0 : ((ps.length : Int) == 0) = false := by rw [beq_eq_false_iff_ne]; have := List.length_pos_iff.2 hnil; omega
  have hps1 : 1 ≤ ps.length := List.length_pos_iff.2 hnil
  have hsize := prefC_size n m old ps
  have hclen := prefC_len n m old Hold.out ps Hall.out
  obtain ⟨c0, cs, hcs⟩ : ∃ c0 cs, prefC n m old ps = c0 :: cs := by
    cases hq : prefC n m old ps with
    | nil => rw [hq] at hsize; have := hsize.1; simp only [List.length_nil] at this; omega
    | cons c cs => exact ⟨_, _, rfl⟩
  have hmain := prefS_main n m s old root ps hm0 hsm hms hnil c0 cs hcs
  rw [Hq.out, HO.out.1, HO.out.2.1] at hmain
  rw [hcs] at hsize hclen
  have HM := Lib.hid (And.intro hmain (And.intro hclen (And.intro hsize hcs)))
  clear hmain hclen hsize hcs Hq hnil hms hsm
  obtain ⟨m1, hm1⟩ : ∃ m1, m - 1 = m1 := ⟨_, rfl⟩
  obtain ⟨s1, hs1⟩ : ∃ s1, s - 1 = s1 := ⟨_, rfl⟩
  have hsub1 : (m : Int) - 1 = (m1 : Int) := by omega
  have hsub2 : (s : Int) - 1 = (s1 : Int) := by omega
  have hm1b : m1 ≤ 18446744073709551615 := by omega
  have hs1b : s1 ≤ 18446744073709551615 := by omega
  rw [hm1, hs1] at HM
  have HPx := Lib.hid (HP.out.next hbel)
  have HA := Lib.hid hA
  have HB := Lib.hid hB
  have Hbel := Lib.hid hbel
  have HGx := Lib.hid (hG.next hbel)
  clear hA hB hbel
  have hpow : ((m &&& m1 : Nat) : Int) = ((m &&& m1 : Nat) : Int) := rfl
  have hand : bits BinOp.and IntKind.u64 (m : Int) (m1 : Int) = ((m &&& m1 : Nat) : Int) := bits_and_u64_nat m m1 (by omega) (by omega)
  have hz : isPow m = (((m &&& m1 : Nat) : Int) == 0) := by
    unfold isPow
    rw [hm1]
    by_cases hh : m &&& m1 = 0
    · rw [hh]; rfl
    · rw [beq_eq_false_iff_ne.2 hh]; symm; rw [beq_eq_false_iff_ne]; omega
  generalize ((m &&& m1 : Nat) : Int) = z at hand hz
  have Hz := Lib.hid hz
  clear hpow hz
  go_upto_if 59 with fail
  go_cut [14] (fun v wx => wx.ownsRow Wx.heap.size 35 32 v (if isPow m then [oc] else []).length (dcells (if isPow m then [oc] else [])) ∧ Below Wx.heap.size Wx wx)
  case first =>
    by_cases hpw : isPow m = true
    · have hz0 : (z == 0) = true := by rw [← Hz.out]; exact hpw
      have Hpw := Lib.hid hpw
      clear hpw
      have hnil := World.ownsRow_nil Wx Wx.heap.size 35 32
      go_wp2_with (first
        | (refine wpList_loadW (by rfl) 35 (.tmp 9) rfl w.heap.size rfl _ _ _ HA.out Tryd.underlying35 rfl (by kernel_rfl) ?_)
        | (refine wpList_buildD rfl (.tmp 61) rfl oc rfl ?_)
        | (refine wpList_appendDig rfl (.tmp 60) (.tmp 62) rfl Wx.heap.size _ [] rfl (World.ownsRow_nil _ _ _ _) Wx.heap.size oc rfl (Blk.new Wx _ _) (by decide) (below_new1 Wx _).size ?_; intro v6 W6 hown6 hg6; have hb6 := below_own (below_new1 Wx (Obj.cells (dat oc) 35)) (World.ownsRow_nil _ Wx.heap.size 35 32) hg6 (below_new1 Wx _).size))
      go_meet
      rw [if_pos Hpw.out]
      exact ⟨hown6, hb6⟩
    · have hz0 : (z == 0) = false := by rw [← Hz.out]; exact Bool.eq_false_iff.2 hpw
      have Hpw := Lib.hid hpw
      clear hpw
      go_wp2_with fail
      go_meet
      rw [if_neg Hpw.out]
      exact ⟨World.ownsRow_nil _ _ _ _, Below.refl _ _⟩
  case rest =>
  obtain ⟨hown, hbel⟩ := hcut
  have Hpl : Hid ((if isPow m then [oc] else []).length ≤ 1) := Lib.hid (by split; exact Nat.le_refl _; exact Nat.zero_le _)
  have Hcs : Hid ((if isPow m then [oc] else []) ++ ps.map (fun p => cutL p n) = c0 :: cs) := Lib.hid (by rw [← HO.out.1]; exact HM.out.2.2.2)
  generalize (if isPow m then [oc] else []) = pre at hown Hpl Hcs
  go_wp2_with fail
  go_loopw [14, 66] (fun v iv wr => ∃ k : Nat, k ≤ ps.length ∧ iv = .int .i64 k ∧ wr.ownsRow Wx.heap.size 35 32 v (pre ++ (ps.take k).map (fun p => cutL p n)).length (dcells (pre ++ (ps.take k).map (fun p => cutL p n))) ∧ Below Wx.heap.size Wx wr) (fun _ iv _ => ps.length - (intOf iv).toNat)
  case atStart => exact ⟨0, Nat.zero_le _, rfl, by rw [List.take_zero, List.map_nil, List.append_nil]; exact hown, hbel⟩
  clear hown hbel
  case round =>
    obtain ⟨k, hkl, rfl, hown, hbel⟩ := hrel
    by_cases hlt : k < ps.length
    · have hlt' : (k : Int) < (ps.length : Int) := by omega
      obtain ⟨A', c', e1, _, _, hh1⟩ := HPx.out.next hbel
      injection e1 with e1 _ e1c
      subst e1c
      obtain ⟨gp, op, e3, hgp, hrp⟩ := hh1 k hlt
      rw [e3] at e1
      subst e1
      clear hh1 e3
      have hdl : (ps.getD k []).length = 32 := Hall.out _ (by rw [List.getD_eq_getElem?_getD, List.getElem?_eq_getElem hlt]; exact List.getElem_mem _)
      have htake : ps.take (k + 1) = ps.take k ++ [ps.getD k []] := by
        rw [List.take_succ_eq_append_getElem hlt, List.getD_eq_getElem?_getD, List.getElem?_eq_getElem hlt]; rfl
      generalize ps.getD k [] = d at hrp hdl htake
      have Hd := Lib.hid (And.intro hdl htake)
      have HS := Lib.hid (And.intro hown hbel)
      have hD := Blk.new wr 35 (arr 32 fun _ => 0)
      have hn1 := below_new1 wr (Obj.cells (arr 32 fun _ => 0) 35)
      clear hdl htake hown hbel
      go_wp2_with (first
        | (refine wpList_loadMid rfl 35 (.tmp 68) rfl gp (op + k * 32) rfl (dat d) _ hrp Tryd.underlying35 rfl (by rw [dat_size]; kernel_rfl) ?_)
        | (refine wpList_storeDat rfl rfl 35 (.tmp 16) (.tmp 69) rfl wr.heap.size rfl _ _ rfl _ hD (by kernel_rfl) ?_; intro w2 hD2 hon2; refine wpl_at (fun W => Blk W wr.heap.size 35 (dat d) ∧ Below wr.heap.size wr W) ⟨hD2, below_only hn1 hon2 (Nat.le_refl _) hn1.size⟩ ?_; clear hD2 hon2 w2 hD hn1 hrp; rintro w2 ⟨hD, hb2⟩)
        | (refine wpList_loadW (by rfl) 35 (.tmp 16) rfl wr.heap.size rfl _ _ _ hD Tryd.underlying35 rfl (by kernel_rfl) ?_))
      refine (cut_any d Hd.out.1 _ w2).mono ?_
      rintro e w3 ⟨rfl, hb3⟩
      have hown3 := own_below HS.out.1 (hb2.trans (hb3.mono hb2.size))
      have hbel3 := HS.out.2.trans ((hb2.trans (hb3.mono hb2.size)).mono HS.out.2.size)
      clear hb3 hb2 hD HS
      have HT := Lib.hid (And.intro hown3 hbel3)
      clear hown3 hbel3
      go_wp2_with (first
        | (refine wpList_buildD rfl (.tmp 73) rfl (cutL d (n : Int)) rfl ?_)
        | (refine wpList_appendDig rfl (.tmp 70) (.tmp 74) rfl Wx.heap.size _ (pre ++ (ps.take k).map (fun p => cutL p n)) rfl (own_below HT.out.1 (below_new1 w3 _)) w3.heap.size (cutL d (n : Int)) rfl (Blk.new w3 _ _) (by have := Hpl.out; rw [List.length_append, List.length_map, List.length_take]; omega) (Nat.le_trans HT.out.2.size (below_new1 w3 _).size) ?_; intro v6 w6 hown6 hg6; refine wpl_at (fun W => W.ownsRow Wx.heap.size 35 32 v6 (pre ++ (ps.take (k + 1)).map (fun p => cutL p n)).length (dcells (pre ++ (ps.take (k + 1)).map (fun p => cutL p n))) ∧ Below Wx.heap.size Wx W) ⟨by rw [Hd.out.2, List.map_append, ← List.append_assoc]; exact hown6, below_own (HT.out.2.trans ((below_new1 w3 _).mono HT.out.2.size)) (own_below HT.out.1 (below_new1 w3 _)) hg6 (Nat.le_trans HT.out.2.size (below_new1 w3 _).size)⟩ ?_; clear hown6 hg6 HT w6; rintro w6 ⟨hown6, hbel6⟩))
      go_wp2_with fail
      go_roundw
      case rel => exact ⟨k + 1, by omega, by go_num, hown6, hbel6⟩
      case measure => simp [intOf]; omega
    · obtain rfl : k = ps.length := by omega
      rw [List.take_length, Hcs.out] at hown
      have HLk := Lib.hid (And.intro HM.out.2.1 HM.out.2.2.1)
      have hdx := DX.of_own hown
      obtain ⟨lA, lc, hlv⟩ := own_slice hown
      subst hlv
      obtain ⟨A', c', e1, hlc1, hlc2, hh1⟩ := hdx
      injection e1 with e1 _ e1c
      subst e1c
      subst e1
      obtain ⟨gr, orr, eA, hgr, hr0⟩ := hh1 0 (by simp)
      subst eA
      have hrow : ∀ j, j < (c0 :: cs).length → wr.rangeAt gr (orr + j * 32) (dat ((c0 :: cs).getD j [])).toList := fun j hj => by
        obtain ⟨g2, o2, e2, _, h2⟩ := hh1 j hj
        injection e2 with e2
        injection e2 with e2 e3
        subst e2; subst e3; exact h2
      have hr0 : wr.rangeAt gr orr (dat c0).toList := by have := hrow 0 (by simp); simpa using this
      have HR := Lib.hid (And.intro hrow (And.intro hgr hbel))
      have hll : (c0 :: cs).length = cs.length + 1 := rfl
      rw [hll] at hlc1 ⊢
      have hcsl : cs.length ≤ 1000000 := by have := HLk.out.2.2; rw [hll] at this; omega
      have HLc := Lib.hid hlc1
      clear hown hrow hh1 hgr hbel hlc1 hll
      have hlt' : ¬ (ps.length : Int) < (ps.length : Int) := by omega
      have hl0 : (0 : Int) < (cs.length : Int) + 1 := by omega
      go_wp2_with fail
      obtain ⟨Wy, hWy⟩ : ∃ Wy, Wy = wr := ⟨_, rfl⟩
      subst hWy
      go_loopw [17, 18] (fun fv sv wr => ∃ a b : Nat, fv = .int .u64 a ∧ sv = .int .u64 b ∧ a ≤ m1 ∧ b ≤ s1 ∧ Aside (podd a b = podd m1 s1) ∧ wr = Wy) (fun fv _ _ => (intOf fv).toNat)
      case atStart => exact ⟨m1, s1, rfl, rfl, Nat.le_refl _, Nat.le_refl _, rfl, rfl⟩
      case round =>
        obtain ⟨a, b2, rfl, rfl, ha, hb2, hst, hwr⟩ := hrel
        replace hwr := hwr.symm
        subst hwr
        have HS2 := Lib.hid hst.out
        clear hst
        rcases Nat.mod_two_eq_zero_or_one a with hmm | hmm
        case inr =>
          have hand2 : bits BinOp.and IntKind.u64 (a : Int) 1 = 1 := by rw [and_one_u64 _ (by omega) (by omega)]; omega
          have HN := Lib.hid ((podd_odd hmm).symm.trans HS2.out)
          go_wp2_with fail
          go_roundw
          case rel => exact ⟨a / 2, b2 / 2, by go_num, by go_num, by omega, by omega, HN.out, by first | trivial | rfl⟩
          case measure => simp [intOf]; omega
        case inl =>
          have hand2 : bits BinOp.and IntKind.u64 (a : Int) 1 = 0 := by rw [and_one_u64 _ (by omega) (by omega)]; omega
          have HE := Lib.hid (HS2.out.symm.trans (podd_even hmm))
          clear HS2
          go_upto_region 20 with fail
          go_cut [19, 20] (fun p q wx => ∃ G H, p = .pointer (some ⟨G, 0, none⟩) ∧ q = .pointer (some ⟨H, 0, none⟩) ∧ G ≠ H ∧ Wy.heap.size ≤ G ∧ Wy.heap.size ≤ H ∧ Blk wx G 35 (dat c0) ∧ Blk wx H 35 (dat c0) ∧ Below Wy.heap.size Wy wx)
          case first =>
            have HgR := HR.out.2.1
            refine wp_region_mixP (.plain 0 <| .plain 1 <| .plain 2 <| .plain 3 <| .plain 4 <| .plain 5 <| .two 6 7 (.only 7 <| .only 8 <| .only 9 <| .done) (.only 6 <| .only 8 <| .only 9 <| .done)) (by kernel_rfl) (by kernel_rfl) (fun W1 hb1 => ?_)
            have hr1 := range_next hr0 HgR hb1
            clear hr0 HgR
            iterate 6 (refine mix_plain rfl ?_; (first
              | (refine wpQuiet_loadMid rfl 35 (.tmp 89) rfl gr orr rfl (dat c0) _ (fun _ ⟨e, he⟩ => by rw [he]; exact range_plus hr1 e) Tryd.underlying35 rfl (by rw [dat_size]; kernel_rfl) ?_; simp only [Act.put, List.setIfInBounds_toArray, List.set_cons_zero, List.set_cons_succ])
              | (refine wpQuiet_loadMid rfl 35 (.tmp 92) rfl gr orr rfl (dat c0) _ (fun _ ⟨e, he⟩ => by rw [he]; exact range_plus hr1 e) Tryd.underlying35 rfl (by rw [dat_size]; kernel_rfl) ?_; simp only [Act.put, List.setIfInBounds_toArray, List.set_cons_zero, List.set_cons_succ])
              | go_big_quiet_step (fail)); refine wpQuiet_nil ?_)
            refine mix_two_in rfl rfl (fun K hK => ?_) (fun K hK => ?_)
            · go_wp2_with fail
              refine hK _ _ (below_plus (below_new1 W1 _)) ?_
              clear hK K
              refine mix_atC (fun W => Blk W W1.heap.size 35 (arr 32 fun _ => 0) ∧ Below W1.heap.size W1 W) ⟨Blk.new W1 35 (arr 32 fun _ => 0), below_new1 W1 _⟩ ?_
              clear hr1
              obtain ⟨g1, hg1⟩ : ∃ g, g = W1.heap.size := ⟨_, rfl⟩
              rw [← hg1]
              rintro W2 ⟨hD1, hbw⟩
              rw [hg1] at hbw
              refine mix_only_in rfl (fun K hK => ?_)
              go_wp2_with fail
              have hbw3 := hbw.trans ((below_new1 W2 (Obj.cells (arr 32 fun _ => 0) 35)).mono hbw.size)
              refine hK _ _ (below_plus hbw3) ?_
              clear hK K
              refine mix_atC (fun W => Blk W W2.heap.size 35 (arr 32 fun _ => 0) ∧ Blk W g1 35 (arr 32 fun _ => 0) ∧ g1 ≠ W2.heap.size ∧ W1.heap.size ≤ W2.heap.size ∧ Below W1.heap.size W1 W) ⟨Blk.new W2 35 (arr 32 fun _ => 0), hD1.alloc _, Nat.ne_of_lt hD1.lt, hbw.size, hbw3⟩ ?_
              clear hbw hbw3 hD1
              generalize W2.heap.size = g2 at ⊢
              rintro W3 ⟨hD2, hD1, hne, hg2, hbw⟩
              have hg1 : W1.heap.size ≤ g1 := Nat.le_of_eq hg1.symm
              refine mix_only_in rfl (fun K hK => ?_)
              refine wpList_storeDat rfl rfl 35 (.tmp 19) (.tmp 90) rfl g1 rfl c0 _ rfl _ hD1 (by kernel_rfl) ?_
              intro W4 hE4 hon4
              have hF4 := hD2.grown hon4 (fun e => hne (Option.some.inj e).symm)
              have hbw4 := below_only hbw hon4 hg1 hbw.size
              go_wp2_with fail
              refine hK _ _ (below_plus hbw4) ?_
              clear hK K
              refine mix_only_in rfl (fun K hK => ?_)
              refine wpList_storeDat rfl rfl 35 (.tmp 20) (.tmp 93) rfl g2 rfl c0 _ rfl _ hF4 (by kernel_rfl) ?_
              intro W5 hF5 hon5
              have hE5 := hE4.grown hon5 (fun e => hne (Option.some.inj e))
              have hbw5 := below_only hbw4 hon5 hg2 hbw4.size
              go_wp2_with fail
              refine hK _ _ (below_plus hbw5) ?_
              clear hK K
              refine mix_done ?_
              go_wp2_with fail
              go_meet
              exact ⟨g1, g2, rfl, rfl, hne, Nat.le_trans hb1.size hg1, Nat.le_trans hb1.size hg2, hE5, hF5, hb1.trans (hbw5.mono hb1.size)⟩
            · go_wp2_with fail
              refine hK _ _ (below_plus (below_new1 W1 _)) ?_
              clear hK K
              refine mix_atC (fun W => Blk W W1.heap.size 35 (arr 32 fun _ => 0) ∧ Below W1.heap.size W1 W) ⟨Blk.new W1 35 (arr 32 fun _ => 0), below_new1 W1 _⟩ ?_
              clear hr1
              obtain ⟨g1, hg1⟩ : ∃ g, g = W1.heap.size := ⟨_, rfl⟩
              rw [← hg1]
              rintro W2 ⟨hD1, hbw⟩
              rw [hg1] at hbw
              refine mix_only_in rfl (fun K hK => ?_)
              go_wp2_with fail
              have hbw3 := hbw.trans ((below_new1 W2 (Obj.cells (arr 32 fun _ => 0) 35)).mono hbw.size)
              refine hK _ _ (below_plus hbw3) ?_
              clear hK K
              refine mix_atC (fun W => Blk W W2.heap.size 35 (arr 32 fun _ => 0) ∧ Blk W g1 35 (arr 32 fun _ => 0) ∧ g1 ≠ W2.heap.size ∧ W1.heap.size ≤ W2.heap.size ∧ Below W1.heap.size W1 W) ⟨Blk.new W2 35 (arr 32 fun _ => 0), hD1.alloc _, Nat.ne_of_lt hD1.lt, hbw.size, hbw3⟩ ?_
              clear hbw hbw3 hD1
              generalize W2.heap.size = g2 at ⊢
              rintro W3 ⟨hD2, hD1, hne, hg2, hbw⟩
              have hg1 : W1.heap.size ≤ g1 := Nat.le_of_eq hg1.symm
              refine mix_only_in rfl (fun K hK => ?_)
              refine wpList_storeDat rfl rfl 35 (.tmp 19) (.tmp 90) rfl g2 rfl c0 _ rfl _ hD2 (by kernel_rfl) ?_
              intro W4 hE4 hon4
              have hF4 := hD1.grown hon4 (fun e => hne (Option.some.inj e))
              have hbw4 := below_only hbw hon4 hg2 hbw.size
              go_wp2_with fail
              refine hK _ _ (below_plus hbw4) ?_
              clear hK K
              refine mix_only_in rfl (fun K hK => ?_)
              refine wpList_storeDat rfl rfl 35 (.tmp 20) (.tmp 93) rfl g1 rfl c0 _ rfl _ hF4 (by kernel_rfl) ?_
              intro W5 hF5 hon5
              have hE5 := hE4.grown hon5 (fun e => hne (Option.some.inj e).symm)
              have hbw5 := below_only hbw4 hon5 hg1 hbw4.size
              go_wp2_with fail
              refine hK _ _ (below_plus hbw5) ?_
              clear hK K
              refine mix_done ?_
              go_wp2_with fail
              go_meet
              exact ⟨g2, g1, rfl, rfl, hne.symm, Nat.le_trans hb1.size hg2, Nat.le_trans hb1.size hg1, hE5, hF5, hb1.trans (hbw5.mono hb1.size)⟩
          case rest =>
            obtain ⟨G, H, rfl, rfl, hne, hGy, hHy, hGB, hHB, hbel⟩ := hcut
            clear hr0
            go_wp2_with fail
            go_step3
            go_wp2_with (first
              | (refine wpList_tailD rfl 28 (.tmp 94) rfl 35 Tryd.underlying28 (by kernel_rfl : (Tryd.prog.info? 35).map (·.size) = some 32) (some ⟨gr, orr, none⟩) (cs.length + 1) lc rfl (by omega) ?_; intro A2 hA2; rw [Nat.add_sub_cancel]))
            have HA2 : Hid (0 < cs.length → A2 = some ⟨gr, orr + 32, none⟩) := Lib.hid (fun h => by
              rw [hA2 (by have := HLc.out; omega)]
              show some (Addr.add _ _) = _
              unfold Addr.add; split <;> simp_all)
            clear hA2
            have HQ := Lib.hid (show q = match prefW n cs a b2 c0 c0 with
              | some (fr, sr) => decide (fr = oc) && decide (sr = rc)
              | none => false from by have := HM.out.1; rw [HE.out] at this; exact this)
            go_loopw [17, 18, 97] (fun fv sv iv wr => ∃ (k fn sn : Nat) (fr sr : List UInt8), k ≤ cs.length ∧ iv = .int .i64 k ∧ fv = .int .u64 fn ∧ sv = .int .u64 sn ∧ fn ≤ m1 ∧ sn ≤ s1 ∧ fr.length = 32 ∧ sr.length = 32 ∧ Blk wr G 35 (dat fr) ∧ Blk wr H 35 (dat sr) ∧ Aside (prefW n cs a b2 c0 c0 = prefW n (cs.drop k) fn sn fr sr) ∧ Below Wy.heap.size Wy wr) (fun _ _ iv _ => cs.length - (intOf iv).toNat)
            case atStart => exact ⟨0, a, b2, c0, c0, Nat.zero_le _, rfl, rfl, rfl, ha, hb2, HLk.out.1 c0 (by simp), HLk.out.1 c0 (by simp), hGB, hHB, rfl, hbel⟩
            clear hGB hHB hbel
            case round =>
              obtain ⟨k, fn, sn, fr, sr, hkl, rfl, rfl, rfl, hfn, hsn, hfl, hsl, hGB, hHB, hA, hbel⟩ := hrel
              have HL := Lib.hid (And.intro hfl hsl)
              clear hfl hsl
              by_cases hlt : k < cs.length
              case neg =>
                obtain rfl : k = cs.length := by omega
                have hq := HQ.out
                rw [hA.out, List.drop_of_length_le (Nat.le_refl _), prefW_nil] at hq
                have hq2 : q = (decide (fr = oc) && (decide (sr = rc) && decide (sn = 0))) := by
                  rw [hq]
                  by_cases h0 : sn = 0
                  · rw [if_pos h0, decide_eq_true h0, Bool.and_true]
                  · rw [if_neg h0, decide_eq_false h0, Bool.and_false, Bool.and_false]
                have hAw := (HA.out.below HR.out.2.2 HA.out.lt).below hbel (HA.out.below HR.out.2.2 HA.out.lt).lt
                have hBw := (HB.out.below HR.out.2.2 HB.out.lt).below hbel (HB.out.below HR.out.2.2 HB.out.lt).lt
                have hbelW := Hbel.out.trans ((HR.out.2.2.trans (hbel.mono HR.out.2.2.size)).mono Hbel.out.size)
                clear hq hA hbel
                have hlt'' : ¬ (cs.length : Int) < (cs.length : Int) := by omega
                obtain ⟨p1, hp1⟩ : ∃ p, decide (fr = oc) = p := ⟨_, rfl⟩
                obtain ⟨p2, hp2⟩ : ∃ p, decide (sr = rc) = p := ⟨_, rfl⟩
                obtain ⟨p3, hp3⟩ : ∃ p, ((sn : Int) == 0) = p := ⟨_, rfl⟩
                have hp3' : decide (sn = 0) = p3 := by
                  rw [← hp3]
                  by_cases h0 : sn = 0
                  · rw [decide_eq_true h0, h0]; rfl
                  · rw [decide_eq_false h0]; symm; rw [beq_eq_false_iff_ne]; omega
                rw [hp1, hp2, hp3'] at hq2
                have H1 := Lib.hid hp1
                have H2 := Lib.hid hp2
                have Hq2 := Lib.hid hq2
                clear hp1 hp2 hp3' hq2
                cases p1
                all_goals (try cases p2)
                all_goals
                  go_wp2_with (first
                    | (refine wpList_loadW (by rfl) 35 (.tmp 19) rfl G rfl _ _ _ hGB Tryd.underlying35 rfl (by kernel_rfl) ?_)
                    | (refine wpList_loadW (by rfl) 35 (.tmp 20) rfl H rfl _ _ _ hHB Tryd.underlying35 rfl (by kernel_rfl) ?_)
                    | (refine wpList_loadW (by rfl) 35 (.tmp 9) rfl w.heap.size rfl _ _ _ hAw Tryd.underlying35 rfl (by kernel_rfl) ?_)
                    | (refine wpList_loadW (by rfl) 35 (.tmp 10) rfl (w.heap.size + 1) rfl _ _ _ hBw Tryd.underlying35 rfl (by kernel_rfl) ?_)
                    | (refine wpList_eqD rfl (.tmp 143) (.tmp 144) _ rfl fr oc rfl rfl HL.out.1 HO.out.2.2.1 _ H1.out ?_)
                    | (refine wpList_unguard rfl ?_; refine wpList_eqD rfl (.tmp 147) (.tmp 148) _ rfl sr rc rfl rfl HL.out.2 HO.out.2.2.2 _ H2.out ?_))
                  try rw [Exit.noGoto_ret]
                  go_ret
                  exact ⟨by rw [Hq2.out]; rfl, hbelW⟩
              have hlt' : (k : Int) < (cs.length : Int) := by omega
              have hAeq := HA2.out (by omega)
              subst hAeq
              have hcl : (cs.getD k []).length = 32 := HLk.out.1 _ (by rw [List.getD_eq_getElem?_getD, List.getElem?_eq_getElem hlt]; exact List.mem_cons_of_mem _ (List.getElem_mem _))
              have hdrop : cs.drop k = cs.getD k [] :: cs.drop (k + 1) := by
                rw [List.drop_eq_getElem_cons hlt, List.getD_eq_getElem?_getD, List.getElem?_eq_getElem hlt]; rfl
              have hrp : wr.rangeAt gr (orr + 32 + k * 32) (dat (cs.getD k [])).toList := by
                have h1 := HR.out.1 (k + 1) (by simp; omega)
                rw [show orr + (k + 1) * 32 = orr + 32 + k * 32 by omega] at h1
                have e : (c0 :: cs).getD (k + 1) [] = cs.getD k [] := by simp [List.getD_eq_getElem?_getD]
                rw [e] at h1
                exact range_next h1 HR.out.2.1 hbel
              generalize cs.getD k [] = c at hrp hcl hdrop
              have HC := Lib.hid (And.intro hcl (And.intro hA.out hdrop))
              have hD := Blk.new wr 35 (arr 32 fun _ => 0)
              have hn1 := below_new1 wr (Obj.cells (arr 32 fun _ => 0) 35)
              clear hcl hdrop hA
              by_cases h0 : sn = 0
              · subst h0
                have hf : q = false := by rw [HQ.out, HC.out.2.1, HC.out.2.2, prefW_zero]
                have Hf := Lib.hid hf
                clear hf
                have hbelW := Hbel.out.trans ((HR.out.2.2.trans (hbel.mono HR.out.2.2.size)).mono Hbel.out.size)
                go_wp2_with (first
                  | (refine wpList_loadMid rfl 35 (.tmp 99) rfl gr (orr + 32 + k * 32) rfl (dat c) _ hrp Tryd.underlying35 rfl (by rw [dat_size]; kernel_rfl) ?_)
                  | (refine wpList_storeDat rfl rfl 35 (.tmp 22) (.tmp 100) rfl wr.heap.size rfl _ _ rfl _ hD (by kernel_rfl) ?_; intro w2 hD2 hon2))
                have hb3 := below_only hn1 hon2 (Nat.le_refl _) hn1.size
                try rw [Exit.noGoto_ret]
                go_ret
                exact ⟨by rw [Hf.out]; rfl, hbelW.trans (hb3.mono hbelW.size)⟩
              have e00 : ((sn : Int) == 0) = false := by rw [beq_eq_false_iff_ne]; omega
              by_cases hc : fn % 2 = 0 ∧ fn ≠ sn
              case pos =>
                have hand3 : bits BinOp.and IntKind.u64 (fn : Int) 1 = 0 := by rw [and_one_u64 _ (by omega) (by omega)]; omega
                have hneq : ((fn : Int) != (sn : Int)) = true := by rw [bne_iff_ne]; omega
                have Hc := Lib.hid hc
                clear hc
                go_wp2_with (first
                  | (refine wpList_loadMid rfl 35 (.tmp 99) rfl gr (orr + 32 + k * 32) rfl (dat c) _ hrp Tryd.underlying35 rfl (by rw [dat_size]; kernel_rfl) ?_)
                  | (refine wpList_storeDat rfl rfl 35 (.tmp 22) (.tmp 100) rfl wr.heap.size rfl _ _ rfl _ hD (by kernel_rfl) ?_; intro w2 hD2 hon2; refine wpl_at (fun W => Blk W wr.heap.size 35 (dat c) ∧ Below wr.heap.size wr W) ⟨hD2, below_only hn1 hon2 (Nat.le_refl _) hn1.size⟩ ?_; clear hD2 hon2 w2 hD hn1 hrp; rintro w2 ⟨hD, hbw2⟩; have HS := Lib.hid (And.intro (hGB.below hbw2 hGB.lt) (And.intro (hHB.below hbw2 hHB.lt) (And.intro hD (hbel.trans (hbw2.mono hbel.size))))); clear hGB hHB hbel hbw2; obtain ⟨g22, hg22⟩ : ∃ g, wr.heap.size = g := ⟨_, rfl⟩; rw [hg22] at hD HS ⊢; clear hg22)
                  | (refine wpList_loadW (by rfl) 35 (.tmp 20) rfl H rfl _ _ _ HS.out.2.1 Tryd.underlying35 rfl (by kernel_rfl) ?_)
                  | (refine wpList_loadW (by rfl) 35 (.tmp 22) rfl g22 rfl _ _ _ hD Tryd.underlying35 rfl (by kernel_rfl) ?_))
                refine (mnode_any x sr c HL.out.2 HC.out.1 w2 ((HGx.out.next (HR.out.2.2.trans (HS.out.2.2.2.mono HR.out.2.2.size))))).mono ?_
                rintro e w3 ⟨rfl, hb3⟩
                rw [Hx.out]
                have hGB3 := HS.out.1.below hb3 HS.out.1.lt
                have hHB3 := HS.out.2.1.below hb3 HS.out.2.1.lt
                have hbel3 := HS.out.2.2.2.trans (hb3.mono HS.out.2.2.2.size)
                clear HS hD hb3
                go_wp2_with (first
                  | (refine wpList_storeDat rfl rfl 35 (.tmp 20) (.tmp 114) rfl H rfl _ _ rfl _ hHB3 (by kernel_rfl) ?_; intro w4 hH4 hon4; refine wpl_at (fun W => Blk W G 35 (dat fr) ∧ Blk W H 35 (dat (nodeM n sr c)) ∧ Below Wy.heap.size Wy W) ⟨hGB3.grown hon4 (fun e => hne (Option.some.inj e)), hH4, below_only hbel3 hon4 hHy hbel3.size⟩ ?_; clear hGB3 hHB3 hH4 hon4 hbel3 w4; rintro w4 ⟨hG4, hH4, hbel4⟩))
                go_wp2_with fail
                go_roundw
                case rel =>
                  refine ⟨k + 1, fn / 2, sn / 2, fr, nodeM n sr c, by omega, by go_num, by go_num, by go_num, by omega, by omega, HL.out.1, nodeM_length _ _ _, hG4, hH4, ?_, hbel4⟩
                  show prefW _ _ _ _ _ _ = _
                  rw [HC.out.2.1, HC.out.2.2, prefW_right _ _ _ _ _ _ _ h0 Hc.out.1 Hc.out.2]
                case measure => simp [intOf]; omega
              case neg =>
                have Hn3 := Lib.hid hc
                have hpick : (bits BinOp.and IntKind.u64 (fn : Int) 1 = 1 ∧ True) ∨ (bits BinOp.and IntKind.u64 (fn : Int) 1 = 0 ∧ ((fn : Int) != (sn : Int)) = false) := by
                  rcases Nat.mod_two_eq_zero_or_one fn with h | h
                  · right; exact ⟨by rw [and_one_u64 _ (by omega) (by omega)]; omega, by rw [bne_eq_false_iff_eq]; omega⟩
                  · left; exact ⟨by rw [and_one_u64 _ (by omega) (by omega)]; omega, trivial⟩
                clear hc
                rcases hpick with ⟨hand3, hneq⟩ | ⟨hand3, hneq⟩
                all_goals
                  go_upto_region 29 with (first
                    | (refine wpList_loadMid rfl 35 (.tmp 99) rfl gr (orr + 32 + k * 32) rfl (dat c) _ hrp Tryd.underlying35 rfl (by rw [dat_size]; kernel_rfl) ?_)
                    | (refine wpList_storeDat rfl rfl 35 (.tmp 22) (.tmp 100) rfl wr.heap.size rfl _ _ rfl _ hD (by kernel_rfl) ?_; intro w2 hD2 hon2; refine wpl_at (fun W => Blk W wr.heap.size 35 (dat c) ∧ Below wr.heap.size wr W) ⟨hD2, below_only hn1 hon2 (Nat.le_refl _) hn1.size⟩ ?_; clear hD2 hon2 w2 hD hn1 hrp; rintro w2 ⟨hD, hbw2⟩; have HS := Lib.hid (And.intro (hGB.below hbw2 hGB.lt) (And.intro (hHB.below hbw2 hHB.lt) (And.intro hD (hbel.trans (hbw2.mono hbel.size))))); clear hGB hHB hbel hbw2; obtain ⟨g22, hg22⟩ : ∃ g, wr.heap.size = g := ⟨_, rfl⟩; rw [hg22] at hD HS ⊢; clear hg22)
                    | (refine wpList_loadW (by rfl) 35 (.tmp 20) rfl H rfl _ _ _ HS.out.2.1 Tryd.underlying35 rfl (by kernel_rfl) ?_)
                    | (refine wpList_loadW (by rfl) 35 (.tmp 22) rfl g22 rfl _ _ _ hD Tryd.underlying35 rfl (by kernel_rfl) ?_))
                  refine wp_region_mixT 8 (.plain 0 <| .plain 1 <| .plain 2 <| .plain 4 <| .plain 5 <| .plain 6 <| .only 3 <| .only 7 <| .done) (by kernel_rfl) (by kernel_rfl) (fun W1 hb1 => ?_)
                  have hG1 := HS.out.1.below hb1 HS.out.1.lt
                  have hH1 := HS.out.2.1.below hb1 HS.out.2.1.lt
                  have hD1 := hD.below hb1 hD.lt
                  have hbel1 := HS.out.2.2.2.trans (hb1.mono HS.out.2.2.2.size)
                  clear HS hD hb1 hand3 hneq
                  iterate 6 (refine mix_plain rfl ?_; (first
                    | (refine wpQuiet_load rfl _ (.tmp 22) rfl g22 rfl _ _ _ _ (fun _ ⟨e, he⟩ => by rw [he]; exact hD1.plus e) Tryd.underlying35 rfl (by kernel_rfl) ?_; simp only [Act.put, List.setIfInBounds_toArray, List.set_cons_zero, List.set_cons_succ])
                    | (refine wpQuiet_load rfl _ (.tmp 19) rfl G rfl _ _ _ _ (fun _ ⟨e, he⟩ => by rw [he]; exact hG1.plus e) Tryd.underlying35 rfl (by kernel_rfl) ?_; simp only [Act.put, List.setIfInBounds_toArray, List.set_cons_zero, List.set_cons_succ])
                    | (refine wpQuiet_load rfl _ (.tmp 20) rfl H rfl _ _ _ _ (fun _ ⟨e, he⟩ => by rw [he]; exact hH1.plus e) Tryd.underlying35 rfl (by kernel_rfl) ?_; simp only [Act.put, List.setIfInBounds_toArray, List.set_cons_zero, List.set_cons_succ])
                    | go_big_quiet_step (fail)); refine wpQuiet_nil ?_)
                  refine mix_only rfl (fun K hK => ?_)
                  go_wp2_with fail
                  refine (mnode_any x c fr HC.out.1 HL.out.1 W1 (HGx.out.next (HR.out.2.2.trans (hbel1.mono HR.out.2.2.size)))).mono ?_
                  rintro e W2 ⟨rfl, hb1⟩
                  rw [Hx.out]
                  go_wp2_with fail
                  refine hK _ _ hb1 ?_
                  clear hK K
                  replace hG1 := hG1.below hb1 hG1.lt
                  replace hH1 := hH1.below hb1 hH1.lt
                  replace hbel1 := hbel1.trans (hb1.mono hbel1.size)
                  clear hb1 hD1
                  refine mix_only rfl (fun K hK => ?_)
                  go_wp2_with fail
                  refine (mnode_any x c sr HC.out.1 HL.out.2 W2 (HGx.out.next (HR.out.2.2.trans (hbel1.mono HR.out.2.2.size)))).mono ?_
                  rintro e W3 ⟨rfl, hb1⟩
                  rw [Hx.out]
                  go_wp2_with fail
                  refine hK _ _ hb1 ?_
                  clear hK K
                  replace hG1 := hG1.below hb1 hG1.lt
                  replace hH1 := hH1.below hb1 hH1.lt
                  replace hbel1 := hbel1.trans (hb1.mono hbel1.size)
                  clear hb1
                  refine mix_done ?_
                  simp only [List.drop_succ_cons, List.drop_zero]
                  refine wpList_storeDat rfl rfl 35 (.tmp 19) (.tmp 122) rfl G rfl _ _ rfl _ hG1 (by kernel_rfl) ?_
                  intro w4 hG4 hon4
                  have hH4 := hH1.grown hon4 (fun e => hne (Option.some.inj e).symm)
                  have hb4 := below_only hbel1 hon4 hGy hbel1.size
                  refine wpList_storeDat rfl rfl 35 (.tmp 20) (.tmp 126) rfl H rfl _ _ rfl _ hH4 (by kernel_rfl) ?_
                  intro w5 hH5 hon5
                  refine wpl_at (fun W => Blk W G 35 (dat (nodeM n c fr)) ∧ Blk W H 35 (dat (nodeM n c sr)) ∧ Below Wy.heap.size Wy W) ⟨hG4.grown hon5 (fun e => hne (Option.some.inj e)), hH5, below_only hb4 hon5 hHy hb4.size⟩ ?_
                  clear hG4 hH4 hb4 hon4 hon5 hH5 hbel1 hG1 hH1 w4 w5
                  rintro w5 ⟨hG5, hH5, hbel5⟩
                  have H5 := Lib.hid (And.intro hG5 (And.intro hH5 hbel5))
                  clear hG5 hH5 hbel5
                  go_wp2_with fail
                  go_loopw [17, 18] (fun fv sv wr => ∃ a3 b3 : Nat, fv = .int .u64 a3 ∧ sv = .int .u64 b3 ∧ a3 ≤ m1 ∧ b3 ≤ s1 ∧ Aside (strip a3 b3 = strip fn sn) ∧ wr = w5) (fun fv _ _ => (intOf fv).toNat)
                  case atStart => exact ⟨fn, sn, rfl, rfl, hfn, hsn, rfl, rfl⟩
                  case round =>
                    obtain ⟨a3, b3, rfl, rfl, ha3, hb3, hst, hwr⟩ := hrel
                    replace hwr := hwr.symm
                    subst hwr
                    have HS2 := Lib.hid hst.out
                    clear hst
                    rcases Nat.mod_two_eq_zero_or_one a3 with hm | hm
                    · have hand4 : bits BinOp.and IntKind.u64 (a3 : Int) 1 = 0 := by rw [and_one_u64 _ (by omega) (by omega)]; omega
                      by_cases ha0 : a3 = 0
                      · have h00 : ((a3 : Int) != 0) = false := by rw [bne_eq_false_iff_eq]; omega
                        have HE3 := Lib.hid (HS2.out.symm.trans (strip_done (by omega)))
                        go_wp2_with fail
                        go_roundw
                        case rel =>
                          refine ⟨k + 1, a3 / 2, b3 / 2, nodeM n c fr, nodeM n c sr, by omega, by go_num, by go_num, by go_num, by omega, by omega, nodeM_length _ _ _, nodeM_length _ _ _, H5.out.1, H5.out.2.1, ?_, H5.out.2.2⟩
                          show prefW _ _ _ _ _ _ = _
                          rw [HC.out.2.1, HC.out.2.2, prefW_left _ _ _ _ _ _ _ h0 Hn3.out, HE3.out]
                        case measure => simp [intOf]; omega
                      · have h00 : ((a3 : Int) != 0) = true := by rw [bne_iff_ne]; omega
                        have HN := Lib.hid ((strip_even hm ha0).symm.trans HS2.out)
                        go_wp2_with fail
                        go_roundw
                        case rel => exact ⟨a3 / 2, b3 / 2, by go_num, by go_num, by omega, by omega, HN.out, by first | trivial | rfl⟩
                        case measure => simp [intOf]; omega
                    · have hand4 : bits BinOp.and IntKind.u64 (a3 : Int) 1 = 1 := by rw [and_one_u64 _ (by omega) (by omega)]; omega
                      have HE3 := Lib.hid (HS2.out.symm.trans (strip_done (by omega)))
                      go_wp2_with fail
                      go_roundw
                      case rel =>
                        refine ⟨k + 1, a3 / 2, b3 / 2, nodeM n c fr, nodeM n c sr, by omega, by go_num, by go_num, by go_num, by omega, by omega, nodeM_length _ _ _, nodeM_length _ _ _, H5.out.1, H5.out.2.1, ?_, H5.out.2.2⟩
                        show prefW _ _ _ _ _ _ = _
                        rw [HC.out.2.1, HC.out.2.2, prefW_left _ _ _ _ _ _ _ h0 Hn3.out, HE3.out]
                      case measure => simp [intOf]; omega
end Go.Proofs.YtcgbokgedfekkaaDoor
