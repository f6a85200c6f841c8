/- Texts that stand behind one another: StPub. No condition. -/
import Derived.Test.YtcdkadidkkbhpaaDoorS15
import Derived.Test.YtcdkadidkkbhpaaDoorS14
import Derived.Test.YtcdkadidkkbhpaaDoorS13
import Derived.Test.YtcdkadidkkbhpaaDoorS2
import Derived.Test.YtcdkadidkkbhpaaDoorS17
import Derived.Test.YtcdkadidkkbhpaaDoorS16
/- The walk of state.Publish. No condition but the words of SHA-256. -/
namespace Go.Proofs.YtcdkadidkkbhpaaDoor
open Go Go.RowKit
attribute [local irreducible] mixW
attribute [local go_sem] n8_lo n8_hi n64_lo n64_hi n32_lo n32_hi
/-- a Config's cells -/
def cfgC (wd qu : Int) (st : UInt32) (sv : Value) : Array Value := #[.int .i64 wd, .int .i64 qu, .int .u32 (n32 st), sv]
/-- the head of a tree, and its tag -/
def pubH (wd : Int) (clock : UInt64) (k : Nat) (t : TreL) : HeadL := ⟨(k : Int), ((t.draws.length - 1 : Nat) : Int), UInt64.ofNat t.leaves.length, clock, rootM (cutW wd) t.leaves⟩
def pubT (wd : Int) (seed : List UInt8) (clock : UInt64) (k : Nat) (t : TreL) : List UInt8 := tagL (keyL' seed (k : Int) ((t.draws.length - 1 : Nat) : Int) (t.draws.getD (t.draws.length - 1) 0)) (pubH wd clock k t)
theorem zero_tree (w : World) : (zeroValue 49).run Tryd.prog w = .ok (.agg (treC ⟨0, 0, 0, 0, [], [], [], zeroHead, []⟩ (.slice none 0 0) (.slice none 0 0) (.slice none 0 0))) w := by kernel_rfl
theorem zero_headS (w : World) : (zeroValue 40).run Tryd.prog w = .ok (.agg (headC zeroHead)) w := by kernel_rfl
theorem built_pub (a b : Int) (s c : UInt64) (R : List UInt8) : Tryd.prog.built 40 [(0, .int .i64 a), (1, .int .i64 b), (2, .int .u64 (n64 s)), (3, .int .u64 (n64 c)), (4, .agg (dat R))] = some (headC ⟨a, b, s, c, R⟩) := by kernel_rfl
theorem treC_one (t : TreL) (d l q : Value) (hd : d.oneCell' = true) (hl : l.oneCell' = true) (hq : q.oneCell' = true) : ∀ v ∈ (treC t d l q).toList, v.oneCell' = true := by
  intro v hv
  unfold treC at hv
  rw [Array.toList_append] at hv
  rcases List.mem_append.1 hv with h | h
  · simp only [List.mem_cons, List.not_mem_nil, or_false] at h
    rcases h with rfl | rfl | rfl | rfl | rfl | rfl | rfl
    · rfl
    · rfl
    · rfl
    · rfl
    · exact hd
    · exact hl
    · exact hq
  · exact sigC_one _ _ v h
theorem wpQuiet_build5 {P : Program} {ops : Array Oper} {C : World → Prop} {K : Act → Prop} {a : Act} {o : Oper} {rest : List Oper} (hw : Region.wanted o (yielded ops a.tmps) = true) (t : TypeId) (x0 x1 x2 x3 x4 : Operand) (ho : o.op = .build t #[(0, x0), (1, x1), (2, x2), (3, x3), (4, x4)]) (v0 v1 v2 v3 v4 : Value) (h0 : a.eval x0 = v0) (h1 : a.eval x1 = v1) (h2 : a.eval x2 = v2) (h3 : a.eval x3 = v3) (h4 : a.eval x4 = v4) (cells : Array Value) (hb : P.built t [(0, v0), (1, v1), (2, v2), (3, v3), (4, v4)] = some cells)
    (hk : wpQuiet P ops C K rest (a.put o.dst (.agg cells))) : wpQuiet P ops C K (o :: rest) a :=
  wpQuiet_build hw t _ ho cells (by simpa [h0, h1, h2, h3, h4] using hb) hk
theorem treC_4 (t : TreL) (d l q : Value) : (treC t d l q)[4]? = some d := by unfold treC; rw [Array.getElem?_append_left (by simp)]; rfl
theorem treC_5 (t : TreL) (d l q : Value) : (treC t d l q)[5]? = some l := by unfold treC; rw [Array.getElem?_append_left (by simp)]; rfl
theorem treC_6 (t : TreL) (d l q : Value) : (treC t d l q)[6]? = some q := by unfold treC; rw [Array.getElem?_append_left (by simp)]; rfl
theorem n64_ofNat (n : Nat) (h : n < 18446744073709551616) : n64 (UInt64.ofNat n) = (n : Int) := by
  unfold n64; rw [UInt64.toNat_ofNat_of_lt' (by show n < 18446744073709551616; omega)]
set_option maxHeartbeats 4000000 in
set_option maxRecDepth 100000 in
theorem pub_ok (wd qu : Int) (st : UInt32) (sv v : Value) (seed : List UInt8) (s : StaL) (k : Nat) (hk : k < s.trees.length) (hok : (s.trees.getD k zeroTre).ok) (hn : s.trees.length ≤ 1000) (hdr : (s.trees.getD k zeroTre).draws ≠ []) (w : World) (hsv : BSl w w.heap.size sv seed) (hsl : seed.length ≤ 1000000) (hS : Sta w w.heap.size v s) (hG : Glob w) :
    Calls Tryd.prog 7 #[.agg (cfgC wd qu st sv), v, .int .i64 (k : Int)] w fun e w' => e = .returned (.tuple #[.agg (sigC (pubH wd s.clock k (s.trees.getD k zeroTre)) (pubT wd seed s.clock k (s.trees.getD k zeroTre))), .int .i64 0]) ∧ Below w.heap.size w w' := by
  obtain ⟨tv, rv, gv, rfl, -, hTr, -⟩ := hS
  obtain ⟨Ar, cr, rfl⟩ := hTr.shape
  obtain ⟨-, hcr, hcr2⟩ := hTr.len
  obtain ⟨g, o, d, l, q, rfl, hgB, hra, hd, hl, hq⟩ := hTr.at_ k hk
  generalize s.trees.getD k zeroTre = t at hok hdr hra hd hl hq ⊢
  obtain ⟨Ad, cd, hde⟩ := hd.shape
  subst hde
  obtain ⟨o1, o2, o3, o4, o5, o6, o7, o8, o9, o10, o11⟩ := hok
  have hd0 : 0 < t.draws.length := List.length_pos_iff.2 hdr
  obtain ⟨gd, od, rfl, hgd, hcd⟩ := hd.cellAt (t.draws.length - 1) (by omega)
  obtain ⟨Al, cl, hle⟩ : ∃ A c, l = .slice A t.leaves.length c := by obtain ⟨A, c, _, e, _⟩ := hl; exact ⟨A, c, e⟩
  subst hle
  have hlone : q.oneCell' = true := by obtain ⟨A, c, _, e, _⟩ := hq; rw [e]; rfl
  have cd0 : w.cell? ⟨g, o + k * 75 + 4, none⟩ = some (.slice (some ⟨gd, od, none⟩) t.draws.length cd) := hra 4 _ (by rw [Array.getElem?_toList, treC_4])
  have HF := Lib.hid (And.intro hra (And.intro hd (And.intro hl (And.intro hsv (And.intro hG (And.intro hTr (And.intro hgB (And.intro hgd hcd))))))))
  have HH := Lib.hid (And.intro o5 (And.intro o8 o10))
  have hk1 : ¬ ((k : Int) < 0) := by omega
  have hk2 : ¬ (s.trees.length ≤ k) := by omega
  have hkn : (k : Int) < (s.trees.length : Int) := by omega
  have hn0 : ((t.draws.length : Int) == 0) = false := by rw [beq_eq_false_iff_ne]; omega
  clear hgd hcd hra hd hl hsv hG hTr hq o1 o2 o3 o4 o5 o6 o9 o10 o11 hdr hcr hcr2 hk
  have hzs := zero_sig
  go_enter Tryd.func7, Tryd.ntmps7
  go_upto_region 1 with fail
  clear hzs
  refine wp_at (fun W => Blk W w.heap.size 25 (cfgC wd qu st sv) ∧ Blk W (w.heap.size + 1) 32 (staC s tv (.slice (some ⟨g, o, none⟩) s.trees.length cr) gv) ∧ Blk W (w.heap.size + 2) 42 (sigC zeroHead []) ∧ Below w.heap.size w W)
    ⟨((Blk.new w _ _).alloc _).alloc _, (Blk.new2 _ _ _ _).alloc _, Blk.new3 _ _ _ _ _, below_new3 _ _ _ _⟩ ?_
  rintro W1 ⟨hC1, hS1, hR1, hb1⟩
  have c4 : W1.cell? ⟨w.heap.size + 1, 4, none⟩ = some (.slice (some ⟨g, o, none⟩) s.trees.length cr) := hS1.cell 4
  have cd1 : W1.cell? ⟨g, o + k * 75 + 4, none⟩ = some (.slice (some ⟨gd, od, none⟩) t.draws.length cd) := (hb1.cell (p := ⟨g, o + k * 75 + 4, none⟩) hgB).trans cd0
  clear cd0
  go_upto_region 3 with fail
  clear c4 cd1 hn0
  have HR1 := Lib.hid (show W1.rangeAt g (o + k * 75) (treC t (.slice (some ⟨gd, od, none⟩) t.draws.length cd) (.slice Al t.leaves.length cl) q).toList from fun j u hj => (hb1.cell (p := ⟨g, o + k * 75 + j, none⟩) hgB).trans (HF.out.1 j u hj))
  have H1 := Lib.hid (And.intro hC1 (And.intro hS1 (And.intro hR1 hb1)))
  have c4 : W1.cell? ⟨w.heap.size + 1, 4, none⟩ = some (.slice (some ⟨g, o, none⟩) s.trees.length cr) := hS1.cell 4
  have hD := Blk.new W1 49 (treC ⟨0, 0, 0, 0, [], [], [], zeroHead, []⟩ (.slice none 0 0) (.slice none 0 0) (.slice none 0 0))
  have hn1 := below_new1 W1 (Obj.cells (treC ⟨0, 0, 0, 0, [], [], [], zeroHead, []⟩ (.slice none 0 0) (.slice none 0 0) (.slice none 0 0)) 49)
  have hW1 : w.heap.size + 2 < W1.heap.size := hR1.lt
  clear hC1 hS1 hR1 hb1
  have hzt := zero_tree
  go_upto_region 4 with (first
    | (refine wpList_loadR 49 (.tmp 34) rfl g (o + k * 75) rfl (treC t (.slice (some ⟨gd, od, none⟩) t.draws.length cd) (.slice Al t.leaves.length cl) q) _ HR1.out Tryd.underlying49 rfl (by rw [treC_size]; kernel_rfl) rfl ?_)
    | (refine wpList_storeB rfl rfl 49 (.tmp 8) (.tmp 35) rfl W1.heap.size 0 rfl (treC t (.slice (some ⟨gd, od, none⟩) t.draws.length cd) (.slice Al t.leaves.length cl) q) rfl _ _ hD (by rw [treC_size]; kernel_rfl) (by rw [treC_size, treC_size]; omega) (treC_one _ _ _ _ rfl rfl hlone) ?_; intro W2 hT2 hg2))
  rw [copied_all _ _ (by rw [treC_size, treC_size])] at hT2
  have hb12 := below_only hn1 hg2 (Nat.le_refl _) hn1.size
  have H2 := Lib.hid (show Blk W2 w.heap.size 25 (cfgC wd qu st sv) ∧ Blk W2 (w.heap.size + 1) 32 (staC s tv (.slice (some ⟨g, o, none⟩) s.trees.length cr) gv) ∧ Blk W2 (w.heap.size + 2) 42 (sigC zeroHead []) ∧ Blk W2 W1.heap.size 49 (treC t (.slice (some ⟨gd, od, none⟩) t.draws.length cd) (.slice Al t.leaves.length cl) q) ∧ Below w.heap.size w W2 from
    ⟨H1.out.1.below hb12 (by omega), H1.out.2.1.below hb12 (by omega), H1.out.2.2.1.below hb12 hW1, hT2, H1.out.2.2.2.trans (hb12.mono H1.out.2.2.2.size)⟩)
  clear H1 HR1 c4 hD hn1 hzt hT2 hg2 hb12
  generalize W1.heap.size = tb at H2 hW1 ⊢
  have c4 : W2.cell? ⟨tb, 4, none⟩ = some (.slice (some ⟨gd, od, none⟩) t.draws.length cd) := by rw [H2.out.2.2.2.1.cell, treC_4]
  go_upto_region 5 with fail
  clear c4
  have eep : (t.draws.length : Int) - 1 = ((t.draws.length - 1 : Nat) : Int) := by omega
  rw [eep]
  obtain ⟨ep, hep⟩ : ∃ ep, t.draws.length - 1 = ep := ⟨_, rfl⟩
  have hepl : ep < t.draws.length := by omega
  have hepi : (ep : Int) < (t.draws.length : Int) := by omega
  rw [hep]
  have HE := Lib.hid hep
  clear hep eep
  obtain ⟨R, hR⟩ : ∃ R, rootM (cutW wd) t.leaves = R := ⟨_, rfl⟩
  have HR := Lib.hid (And.intro hR (show R.length = 32 by rw [← hR]; exact rootM_length _ _))
  clear hR
  obtain ⟨hd, hhd⟩ : ∃ hd : HeadL, hd = ⟨(k : Int), (ep : Int), UInt64.ofNat t.leaves.length, s.clock, R⟩ := ⟨_, rfl⟩
  have HD := Lib.hid (show hd = ⟨(k : Int), (ep : Int), UInt64.ofNat t.leaves.length, s.clock, R⟩ ∧ hd.ok ∧ Tryd.prog.built 40 [(0, .int .i64 (k : Int)), (1, .int .i64 (ep : Int)), (2, .int .u64 (t.leaves.length : Int)), (3, .int .u64 (n64 s.clock)), (4, .agg (dat R))] = some (headC hd) from by
    refine ⟨hhd, ?_, ?_⟩
    · rw [hhd]; refine ⟨HR.out.2, ⟨?_, ?_⟩, ⟨?_, ?_⟩⟩ <;> (simp only []; omega)
    · rw [hhd, ← n64_ofNat t.leaves.length (by omega)]; exact built_pub _ _ _ _ _)
  clear hhd
  refine wp_region_mixP (.plain 0 <| .plain 1 <| .plain 2 <| .plain 3 <| .plain 4 <| .plain 5 <| .plain 6 <| .plain 7 <| .plain 8 <| .plain 9 <| .plain 10 <| .plain 11 <| .two 12 14 (.plain 13 <| .only 14 <| .only 15 <| .done) <| (.only 12 <| .plain 13 <| .only 15 <| .done)) (by kernel_rfl) (by kernel_rfl) (fun W3 hb3 => ?_)
  have H3 := Lib.hid (show Blk W3 w.heap.size 25 (cfgC wd qu st sv) ∧ Blk W3 (w.heap.size + 2) 42 (sigC zeroHead []) ∧ Blk W3 tb 49 (treC t (.slice (some ⟨gd, od, none⟩) t.draws.length cd) (.slice Al t.leaves.length cl) q) ∧ Below w.heap.size w W3 from
    ⟨H2.out.1.below hb3 H2.out.1.lt, H2.out.2.2.1.below hb3 H2.out.2.2.1.lt, H2.out.2.2.2.1.below hb3 H2.out.2.2.2.1.lt, H2.out.2.2.2.2.trans (hb3.mono H2.out.2.2.2.2.size)⟩)
  have hSt := H2.out.2.1.below hb3 H2.out.2.1.lt
  have d5 : ∀ z, (plus W3 z).cell? ⟨tb, 5, none⟩ = some (.slice Al t.leaves.length cl) := fun z => by rw [(H3.out.2.2.1.plus z).cell, treC_5]
  have dc : ∀ z, (plus W3 z).cell? ⟨w.heap.size + 1, 0, none⟩ = some (.int .u64 (n64 s.clock)) := fun z => (hSt.plus z).cell 0
  have dw : ∀ z, (plus W3 z).cell? ⟨w.heap.size, 0, none⟩ = some (.int .i64 wd) := fun z => (H3.out.1.plus z).cell 0
  have e64 : (t.leaves.length : Int) % 18446744073709551616 = (t.leaves.length : Int) := by omega
  clear H2 hb3 hSt
  iterate 12 (refine mix_plain rfl ?_; go_big_quiet_step (fail); refine wpQuiet_nil ?_)
  clear d5 dc dw e64
  have hG3 := HF.out.2.2.2.2.1.next H3.out.2.2.2
  have hl3 := HF.out.2.2.1.next H3.out.2.2.2
  have hlow : w.heap.size ≤ W3.heap.size := H3.out.2.2.2.size
  refine mix_two_in rfl rfl (fun K hK => ?_) (fun K hK => ?_)
  · skip
    go_wp2_with fail
    refine (mroot_any wd _ t.leaves W3 (hl3) (by have := HH.out.2.1; omega) (fun b hb => by have := HH.out.2.2 b hb; omega) (hG3)).mono ?_
    rintro e W4 ⟨rfl, hb4⟩
    rw [HR.out.1]
    go_wp2_with fail
    refine hK _ _ (below_plus (hb4)) ?_
    clear hK K
    refine mix_plain rfl ?_
    refine wpQuiet_build5 rfl 40 (.tmp 40) (.tmp 41) (.tmp 45) (.tmp 47) (.tmp 52) rfl _ _ _ _ _ rfl rfl rfl rfl rfl (headC hd) HD.out.2.2 ?_
    simp only [Act.put, List.setIfInBounds_toArray, List.set_cons_zero, List.set_cons_succ]
    refine wpQuiet_nil ?_
    refine mix_only_in rfl (fun K hK => ?_)
    have hzh := zero_headS
    go_wp2_with fail
    have hHd := Blk.new W4 40 (headC zeroHead)
    have hn4 := below_new1 W4 (Obj.cells (headC zeroHead) 40)
    have hb35 := hb4.trans (hn4.mono hb4.size)
    have hlo4 := hb4.size
    refine hK _ _ (below_plus hb35) ?_
    clear hK K hzh hn4
    refine mix_only_in rfl (fun K hK => ?_)
    refine wpList_storeB rfl rfl 40 (.tmp 10) (.tmp 53) rfl W4.heap.size 0 rfl (headC hd) rfl _ _ hHd (by rw [headC_size]; kernel_rfl) (by rw [headC_size, headC_size]; omega) (headC_one _) ?_
    intro W6 hH6 hg6
    rw [copied_all _ _ (by rw [headC_size, headC_size])] at hH6
    have hb36 := below_only hb35 hg6 hlo4 hb35.size
    refine hK _ _ (below_plus hb36) ?_
    clear hK K
    refine mix_done ?_
    have H6 := Lib.hid (show Blk W6 w.heap.size 25 (cfgC wd qu st sv) ∧ Blk W6 (w.heap.size + 2) 42 (sigC zeroHead []) ∧ Blk W6 tb 49 (treC t (.slice (some ⟨gd, od, none⟩) t.draws.length cd) (.slice Al t.leaves.length cl) q) ∧ Blk W6 W4.heap.size 40 (headC hd) ∧ Below w.heap.size w W6 from
      ⟨H3.out.1.below hb36 H3.out.1.lt, H3.out.2.1.below hb36 H3.out.2.1.lt, H3.out.2.2.1.below hb36 H3.out.2.2.1.lt, hH6, H3.out.2.2.2.trans (hb36.mono hlow)⟩)
    clear hb36 hg6 hH6 hb35 hHd H3 hl3 hG3
    generalize W4.heap.size = hbk at H6 ⊢
    obtain ⟨draw, hdrw⟩ : ∃ draw, t.draws.getD ep 0 = draw := ⟨_, rfl⟩
    go_upto_region 6 with fail
    refine wp_region_mixT 12 (.plain 0 <| .plain 1 <| .plain 2 <| .plain 3 <| .plain 4 <| .plain 5 <| .plain 6 <| .plain 7 <| .plain 8 <| .plain 10 <| .only 9 <| .only 11 <| .done) (by kernel_rfl) (by kernel_rfl) (fun W7 hb67 => ?_)
    have hC7 := H6.out.1.below hb67 H6.out.1.lt
    have hR7 := H6.out.2.1.below hb67 H6.out.2.1.lt
    have hT7 := H6.out.2.2.1.below hb67 H6.out.2.2.1.lt
    have hD7 := H6.out.2.2.2.1.below hb67 H6.out.2.2.2.1.lt
    have hb7 := H6.out.2.2.2.2.trans (hb67.mono H6.out.2.2.2.2.size)
    have cs3 : ∀ z, (plus W7 z).cell? ⟨w.heap.size, 3, none⟩ = some sv := fun z => (hC7.plus z).cell 3
    have c4 : ∀ z, (plus W7 z).cell? ⟨tb, 4, none⟩ = some (.slice (some ⟨gd, od, none⟩) t.draws.length cd) := fun z => by rw [(hT7.plus z).cell, treC_4]
    have cdr : ∀ z, (plus W7 z).cell? ⟨gd, od + ep, none⟩ = some (.int .u32 (n32 draw)) := fun z => by
      have h1 := HF.out.2.2.2.2.2.2.2.2
      rw [HE.out, hdrw] at h1
      exact ((hb7.trans ((plus_below W7 z).mono hb7.size)).cell (p := ⟨gd, od + ep, none⟩) HF.out.2.2.2.2.2.2.2.1).trans h1
    have HB7 := Lib.hid (And.intro hR7 hb7)
    have HDr := Lib.hid hdrw
    clear H6 hb67 hC7 hT7 hR7 hb7 hdrw
    iterate 10 (refine mix_plain rfl ?_; (first
      | (refine wpQuiet_load rfl 40 (.tmp 10) rfl hbk rfl _ _ _ _ (fun _ ⟨e, he⟩ => by rw [he]; exact hD7.plus e) Tryd.underlying40 rfl (by rw [headC_size]; kernel_rfl) ?_; simp only [Act.put, List.setIfInBounds_toArray, List.set_cons_zero, List.set_cons_succ])
      | go_big_quiet_step (fail)); refine wpQuiet_nil ?_)
    clear cs3 c4 cdr hD7
    obtain ⟨key, hkey⟩ : ∃ key, keyL' seed (k : Int) (ep : Int) draw = key := ⟨_, rfl⟩
    have mk := key_any sv seed (k : Int) (ep : Int) draw W7 (HF.out.2.2.2.1.next HB7.out.2) (by omega) (HF.out.2.2.2.2.1.next HB7.out.2) (by omega) (by omega)
    rw [hkey] at mk
    have HK := Lib.hid (show keyL' seed (k : Int) (ep : Int) draw = key ∧ key.length = 32 from ⟨hkey, by rw [← hkey]; exact mac_length _ _⟩)
    clear hkey
    refine mix_only_in rfl (fun K hK => ?_)
    go_wp2_with fail
    refine mk.mono ?_
    clear mk
    rintro e W8 ⟨rfl, hb8⟩
    go_wp2_with fail
    refine hK _ _ (below_plus hb8) ?_
    clear hK K
    obtain ⟨tg, htg⟩ : ∃ tg, tagL key hd = tg := ⟨_, rfl⟩
    have ms := sign_any key HK.out.2 hd HD.out.2.1 W8 (HF.out.2.2.2.2.1.next (HB7.out.2.trans (hb8.mono HB7.out.2.size)))
    rw [htg] at ms
    have HT := Lib.hid htg
    clear htg
    refine mix_only_in rfl (fun K hK => ?_)
    go_wp2_with fail
    refine ms.mono ?_
    clear ms
    rintro e W9 ⟨rfl, hb9⟩
    have hb79 := hb8.trans (hb9.mono hb8.size)
    go_wp2_with fail
    refine hK _ _ (below_plus hb79) ?_
    clear hK K
    have hR9 := HB7.out.1.below hb79 HB7.out.1.lt
    have hb9w := HB7.out.2.trans (hb79.mono HB7.out.2.size)
    clear hb8 hb9
    refine mix_done ?_
    simp only [List.drop_succ_cons, List.drop_zero]
    refine wpList_storeB rfl rfl 42 (.tmp 6) (.tmp 65) rfl (w.heap.size + 2) 0 rfl (sigC hd tg) rfl _ _ hR9 (by rw [sigC_size]; kernel_rfl) (by rw [sigC_size, sigC_size]; omega) (sigC_one _ _) ?_
    intro W10 hR10 hg10
    rw [copied_all _ _ (by rw [sigC_size, sigC_size])] at hR10
    have hb10 := below_only hb9w hg10 (by omega) hb9w.size
    go_wp2_with fail
    refine bodyPost_ret (results_cell_tmp (p := 6) (q := 7) (ty := 42) rfl _ _ (w.heap.size + 2) _ _ _ _ rfl hR10 Tryd.underlying42 rfl (by rw [sigC_size]; kernel_rfl)) rfl ⟨?_, hb10⟩
    have e1 : pubH wd s.clock k t = hd := by unfold pubH; rw [HE.out, HR.out.1, HD.out.1]
    have e2 : pubT wd seed s.clock k t = tg := by unfold pubT; rw [HE.out, HDr.out, HK.out.1, e1, HT.out]
    rw [e1, e2]
    rfl
  · skip
    have hzh := zero_headS
    go_wp2_with fail
    have hHd0 := Blk.new W3 40 (headC zeroHead)
    have hn3 := below_new1 W3 (Obj.cells (headC zeroHead) 40)
    refine hK _ _ (below_plus hn3) ?_
    clear hK K hzh
    refine mix_only_in rfl (fun K hK => ?_)
    go_wp2_with fail
    refine (mroot_any wd _ t.leaves _ (hl3.next hn3) (by have := HH.out.2.1; omega) (fun b hb => by have := HH.out.2.2 b hb; omega) (hG3.next hn3)).mono ?_
    rintro e W4 ⟨rfl, hb4⟩
    rw [HR.out.1]
    go_wp2_with fail
    refine hK _ _ (below_plus (hn3.trans (hb4.mono hn3.size))) ?_
    clear hK K
    refine mix_plain rfl ?_
    refine wpQuiet_build5 rfl 40 (.tmp 40) (.tmp 41) (.tmp 45) (.tmp 47) (.tmp 52) rfl _ _ _ _ _ rfl rfl rfl rfl rfl (headC hd) HD.out.2.2 ?_
    simp only [Act.put, List.setIfInBounds_toArray, List.set_cons_zero, List.set_cons_succ]
    refine wpQuiet_nil ?_
    have hHd := hHd0.below hb4 hHd0.lt
    have hb35 := hn3.trans (hb4.mono hn3.size)
    clear hHd0 hn3
    refine mix_only_in rfl (fun K hK => ?_)
    refine wpList_storeB rfl rfl 40 (.tmp 10) (.tmp 53) rfl W3.heap.size 0 rfl (headC hd) rfl _ _ hHd (by rw [headC_size]; kernel_rfl) (by rw [headC_size, headC_size]; omega) (headC_one _) ?_
    intro W6 hH6 hg6
    rw [copied_all _ _ (by rw [headC_size, headC_size])] at hH6
    have hb36 := below_only hb35 hg6 (Nat.le_refl _) hb35.size
    refine hK _ _ (below_plus hb36) ?_
    clear hK K
    refine mix_done ?_
    have H6 := Lib.hid (show Blk W6 w.heap.size 25 (cfgC wd qu st sv) ∧ Blk W6 (w.heap.size + 2) 42 (sigC zeroHead []) ∧ Blk W6 tb 49 (treC t (.slice (some ⟨gd, od, none⟩) t.draws.length cd) (.slice Al t.leaves.length cl) q) ∧ Blk W6 W3.heap.size 40 (headC hd) ∧ Below w.heap.size w W6 from
      ⟨H3.out.1.below hb36 H3.out.1.lt, H3.out.2.1.below hb36 H3.out.2.1.lt, H3.out.2.2.1.below hb36 H3.out.2.2.1.lt, hH6, H3.out.2.2.2.trans (hb36.mono hlow)⟩)
    clear hb36 hg6 hH6 hb35 hHd H3 hl3 hG3
    generalize W3.heap.size = hbk at H6 ⊢
    obtain ⟨draw, hdrw⟩ : ∃ draw, t.draws.getD ep 0 = draw := ⟨_, rfl⟩
    go_upto_region 6 with fail
    refine wp_region_mixT 12 (.plain 0 <| .plain 1 <| .plain 2 <| .plain 3 <| .plain 4 <| .plain 5 <| .plain 6 <| .plain 7 <| .plain 8 <| .plain 10 <| .only 9 <| .only 11 <| .done) (by kernel_rfl) (by kernel_rfl) (fun W7 hb67 => ?_)
    have hC7 := H6.out.1.below hb67 H6.out.1.lt
    have hR7 := H6.out.2.1.below hb67 H6.out.2.1.lt
    have hT7 := H6.out.2.2.1.below hb67 H6.out.2.2.1.lt
    have hD7 := H6.out.2.2.2.1.below hb67 H6.out.2.2.2.1.lt
    have hb7 := H6.out.2.2.2.2.trans (hb67.mono H6.out.2.2.2.2.size)
    have cs3 : ∀ z, (plus W7 z).cell? ⟨w.heap.size, 3, none⟩ = some sv := fun z => (hC7.plus z).cell 3
    have c4 : ∀ z, (plus W7 z).cell? ⟨tb, 4, none⟩ = some (.slice (some ⟨gd, od, none⟩) t.draws.length cd) := fun z => by rw [(hT7.plus z).cell, treC_4]
    have cdr : ∀ z, (plus W7 z).cell? ⟨gd, od + ep, none⟩ = some (.int .u32 (n32 draw)) := fun z => by
      have h1 := HF.out.2.2.2.2.2.2.2.2
      rw [HE.out, hdrw] at h1
      exact ((hb7.trans ((plus_below W7 z).mono hb7.size)).cell (p := ⟨gd, od + ep, none⟩) HF.out.2.2.2.2.2.2.2.1).trans h1
    have HB7 := Lib.hid (And.intro hR7 hb7)
    have HDr := Lib.hid hdrw
    clear H6 hb67 hC7 hT7 hR7 hb7 hdrw
    iterate 10 (refine mix_plain rfl ?_; (first
      | (refine wpQuiet_load rfl 40 (.tmp 10) rfl hbk rfl _ _ _ _ (fun _ ⟨e, he⟩ => by rw [he]; exact hD7.plus e) Tryd.underlying40 rfl (by rw [headC_size]; kernel_rfl) ?_; simp only [Act.put, List.setIfInBounds_toArray, List.set_cons_zero, List.set_cons_succ])
      | go_big_quiet_step (fail)); refine wpQuiet_nil ?_)
    clear cs3 c4 cdr hD7
    obtain ⟨key, hkey⟩ : ∃ key, keyL' seed (k : Int) (ep : Int) draw = key := ⟨_, rfl⟩
    have mk := key_any sv seed (k : Int) (ep : Int) draw W7 (HF.out.2.2.2.1.next HB7.out.2) (by omega) (HF.out.2.2.2.2.1.next HB7.out.2) (by omega) (by omega)
    rw [hkey] at mk
    have HK := Lib.hid (show keyL' seed (k : Int) (ep : Int) draw = key ∧ key.length = 32 from ⟨hkey, by rw [← hkey]; exact mac_length _ _⟩)
    clear hkey
    refine mix_only_in rfl (fun K hK => ?_)
    go_wp2_with fail
    refine mk.mono ?_
    clear mk
    rintro e W8 ⟨rfl, hb8⟩
    go_wp2_with fail
    refine hK _ _ (below_plus hb8) ?_
    clear hK K
    obtain ⟨tg, htg⟩ : ∃ tg, tagL key hd = tg := ⟨_, rfl⟩
    have ms := sign_any key HK.out.2 hd HD.out.2.1 W8 (HF.out.2.2.2.2.1.next (HB7.out.2.trans (hb8.mono HB7.out.2.size)))
    rw [htg] at ms
    have HT := Lib.hid htg
    clear htg
    refine mix_only_in rfl (fun K hK => ?_)
    go_wp2_with fail
    refine ms.mono ?_
    clear ms
    rintro e W9 ⟨rfl, hb9⟩
    have hb79 := hb8.trans (hb9.mono hb8.size)
    go_wp2_with fail
    refine hK _ _ (below_plus hb79) ?_
    clear hK K
    have hR9 := HB7.out.1.below hb79 HB7.out.1.lt
    have hb9w := HB7.out.2.trans (hb79.mono HB7.out.2.size)
    clear hb8 hb9
    refine mix_done ?_
    simp only [List.drop_succ_cons, List.drop_zero]
    refine wpList_storeB rfl rfl 42 (.tmp 6) (.tmp 65) rfl (w.heap.size + 2) 0 rfl (sigC hd tg) rfl _ _ hR9 (by rw [sigC_size]; kernel_rfl) (by rw [sigC_size, sigC_size]; omega) (sigC_one _ _) ?_
    intro W10 hR10 hg10
    rw [copied_all _ _ (by rw [sigC_size, sigC_size])] at hR10
    have hb10 := below_only hb9w hg10 (by omega) hb9w.size
    go_wp2_with fail
    refine bodyPost_ret (results_cell_tmp (p := 6) (q := 7) (ty := 42) rfl _ _ (w.heap.size + 2) _ _ _ _ rfl hR10 Tryd.underlying42 rfl (by rw [sigC_size]; kernel_rfl)) rfl ⟨?_, hb10⟩
    have e1 : pubH wd s.clock k t = hd := by unfold pubH; rw [HE.out, HR.out.1, HD.out.1]
    have e2 : pubT wd seed s.clock k t = tg := by unfold pubT; rw [HE.out, HDr.out, HK.out.1, e1, HT.out]
    rw [e1, e2]
    rfl
end Go.Proofs.YtcdkadidkkbhpaaDoor
