/- Texts that stand behind one another: StRn. No condition. -/
import Derived.Test.YtcdkadidkkbhpaaDoorS40
import Derived.Test.YtcdkadidkkbhpaaDoorS20
/- The walk of the reference deponentref19's New. No condition. -/
namespace Go.Proofs.YtcdkadidkkbhpaaDoor
open Go Go.RowKit
attribute [local irreducible] mixW mixWA
attribute [local go_sem] n8_lo n8_hi n64_lo n64_hi n32_lo n32_hi
theorem zero_rstate (w : World) : (zeroValue 62).run Tryd.prog w = .ok (.agg (staC nilS (.slice none 0 0) (.slice none 0 0) (.slice none 0 0))) w := by kernel_rfl
theorem info_rten : (Tryd.prog.info? 109).map (fun i => (i.zero, i.size, i.bytes)) = some (some (.agg (tenC zeroTen)), (tenC zeroTen).size, 24) := by kernel_rfl
theorem info_rtre : (Tryd.prog.info? 111).map (fun i => (i.zero, i.size, i.bytes)) = some (some (.agg zTreC), zTreC.size, 200) := by kernel_rfl
theorem built_rgra : Tryd.prog.built 114 [(1, .int .i64 4), (2, .int .u64 18446744073709551615)] = some (graC gra0) := by kernel_rfl
theorem built_rsta (At Ar : Option Addr) (nt ct nr cr : Nat) : Tryd.prog.built 62 [(3, .slice At nt ct), (4, .slice Ar nr cr)] = some (staC nilS (.slice At nt ct) (.slice Ar nr cr) (.slice none 0 0)) := by kernel_rfl
theorem built_rbuk : Tryd.prog.built 107 [(0, .int .u32 1048576), (1, .int .u32 1048576), (2, .int .u32 1048576)] = some #[.int .u32 1048576, .int .u32 1048576, .int .u32 1048576] := by kernel_rfl
theorem built_rten : Tryd.prog.built 109 [(0, .bool true), (1, .agg #[.int .u32 1048576, .int .u32 1048576, .int .u32 1048576]), (2, .int .u32 32768)] = some (tenC ten0) := by kernel_rfl
theorem built_rtre (g : Nat) : Tryd.prog.built 111 [(0, .int .i64 1), (2, .int .i64 1), (4, .slice (some ⟨g, 0, none⟩) 1 1)] = some (treC tre0 (.slice (some ⟨g, 0, none⟩) 1 1) (.slice none 0 0) (.slice none 0 0)) := by kernel_rfl
/-- what is there when the first rows are made -/
def NFr (W0 : World) (W : World) (oT oR oS : Option Nat) : Prop :=
  Below W0.heap.size W0 W ∧ (∀ g, oT = some g → W0.heap.size ≤ g ∧ Blk W g 109 (flat (List.replicate 16 (tenC zeroTen))).toArray) ∧
  (∀ g, oR = some g → W0.heap.size ≤ g ∧ Blk W g 111 (flat (List.replicate 16 zTreC)).toArray) ∧
  (∀ g, oS = some g → W0.heap.size ≤ g ∧ Blk W g 62 (staC nilS (.slice none 0 0) (.slice none 0 0) (.slice none 0 0)))
theorem NFr.start (W : World) : NFr W W none none none := ⟨Below.refl _ _, (fun _ h => by cases h), (fun _ h => by cases h), (fun _ h => by cases h)⟩
theorem NFr.keep {W0 W W' : World} {oT oR oS : Option Nat} (h : NFr W0 W oT oR oS) (hb : Below W.heap.size W W') : NFr W0 W' oT oR oS :=
  ⟨h.1.trans (hb.mono h.1.size), fun g e => ⟨(h.2.1 g e).1, (h.2.1 g e).2.below hb (h.2.1 g e).2.lt⟩, fun g e => ⟨(h.2.2.1 g e).1, (h.2.2.1 g e).2.below hb (h.2.2.1 g e).2.lt⟩, fun g e => ⟨(h.2.2.2 g e).1, (h.2.2.2 g e).2.below hb (h.2.2.2 g e).2.lt⟩⟩
theorem NFr.ten {W0 W : World} {oR oS : Option Nat} (h : NFr W0 W none oR oS) : NFr W0 (W.alloc (.cells (flat (List.replicate 16 (tenC zeroTen))).toArray 109)) (some W.heap.size) oR oS := by
  have h1 := h.keep (below_new1 W (.cells (flat (List.replicate 16 (tenC zeroTen))).toArray 109))
  exact ⟨h1.1, (fun g e => by injection e with e; subst e; exact ⟨h.1.size, Blk.new _ _ _⟩), h1.2.2.1, h1.2.2.2⟩
theorem NFr.tre {W0 W : World} {oT oS : Option Nat} (h : NFr W0 W oT none oS) : NFr W0 (W.alloc (.cells (flat (List.replicate 16 zTreC)).toArray 111)) oT (some W.heap.size) oS := by
  have h1 := h.keep (below_new1 W (.cells (flat (List.replicate 16 zTreC)).toArray 111))
  exact ⟨h1.1, h1.2.1, (fun g e => by injection e with e; subst e; exact ⟨h.1.size, Blk.new _ _ _⟩), h1.2.2.2⟩
theorem NFr.sta {W0 W : World} {oT oR : Option Nat} (h : NFr W0 W oT oR none) : NFr W0 (W.alloc (.cells (staC nilS (.slice none 0 0) (.slice none 0 0) (.slice none 0 0)) 62)) oT oR (some W.heap.size) := by
  have h1 := h.keep (below_new1 W (.cells (staC nilS (.slice none 0 0) (.slice none 0 0) (.slice none 0 0)) 62))
  exact ⟨h1.1, h1.2.1, h1.2.2.1, (fun g e => by injection e with e; subst e; exact ⟨h.1.size, Blk.new _ _ _⟩)⟩
/-- the same behind the store of the state -/
def NEr (W0 W : World) (gT gR gS : Nat) : Prop :=
  Below W0.heap.size W0 W ∧ (W0.heap.size ≤ gT ∧ W0.heap.size ≤ gR ∧ W0.heap.size ≤ gS) ∧
  Blk W gT 109 (flat (List.replicate 16 (tenC zeroTen))).toArray ∧ Blk W gR 111 (flat (List.replicate 16 zTreC)).toArray ∧ Blk W gS 62 (staC nilS (.slice (some ⟨gT, 0, none⟩) 16 16) (.slice (some ⟨gR, 0, none⟩) 16 16) (.slice none 0 0))
theorem NFr.fin {W1 W0 W W' : World} {gT gR gS : Nat} (h : NFr W0 W (some gT) (some gR) (some gS)) (hb : Below W1.heap.size W1 W0) (hg : W.grownBy W' (some gS)) (hS : Blk W' gS 62 (staC nilS (.slice (some ⟨gT, 0, none⟩) 16 16) (.slice (some ⟨gR, 0, none⟩) 16 16) (.slice none 0 0))) : NEr W1 W' gT gR gS := by
  obtain ⟨h0, hT, hR, hX⟩ := h
  obtain ⟨aT, bT⟩ := hT gT rfl
  obtain ⟨aR, bR⟩ := hR gR rfl
  obtain ⟨aS, bS⟩ := hX gS rfl
  have hs := hb.size
  exact ⟨hb.trans ((below_only h0 hg aS h0.size).mono hs), ⟨by omega, by omega, by omega⟩, bT.grown hg (fun e => blk_ne bT bS (by decide) (by injection e)), bR.grown hg (fun e => blk_ne bR bS (by decide) (by injection e)), hS⟩
theorem wpList_allocRsta {w : World} {ops : Array Oper} {rest : List Oper} {o : Oper} {a : Act} {Q : Exit → Act → World → Prop} (hgd : o.guard = none) (ho : o.op = .alloc 62)
    (hk : wpList Tryd.prog ops Q rest (a.put o.dst (.pointer (some ⟨w.heap.size, 0, none⟩))) (w.alloc (.cells (staC nilS (.slice none 0 0) (.slice none 0 0) (.slice none 0 0)) 62))) : wpList Tryd.prog ops Q (o :: rest) a w := by
  have hz := zero_rstate
  refine wpList_plain hgd fun K hK => ?_
  unfold Oper.wp execOp
  simp only [ho]
  go_simp
  exact hK _ _ hk
theorem build_rgraS (w : World) : (Instr.buildSlice 60 1 #[(0, .agg (graC gra0))]).run Tryd.prog w = .ok (.slice (some ⟨w.heap.size, 0, none⟩) 1 1) (w.alloc (.cells (graC gra0) 114)) := by kernel_rfl
theorem wpList_buildRgra {w : World} {ops : Array Oper} {rest : List Oper} {o : Oper} {a : Act} {Q : Exit → Act → World → Prop} (hgd : o.guard = none) (x : Operand) (ho : o.op = .buildSlice 60 1 #[(0, x)]) (hx : a.eval x = .agg (graC gra0))
    (hk : wpList Tryd.prog ops Q rest (a.put o.dst (.slice (some ⟨w.heap.size, 0, none⟩) 1 1)) (w.alloc (.cells (graC gra0) 114))) : wpList Tryd.prog ops Q (o :: rest) a w :=
  wpList_plain hgd fun K hK => by
    unfold Oper.wp execOp
    simp only [ho, List.map_toArray, List.map_cons, List.map_nil, hx, Sem.run_bind, build_rgraS, Result.andThen_ok, Sem.run_pure]
    exact hK _ _ hk
theorem wpQuiet_build34 {P : Program} {ops : Array Oper} {C : World → Prop} {K : Act → Prop} {a : Act} {o : Oper} {rest : List Oper} (hw : Region.wanted o (yielded ops a.tmps) = true) (t : TypeId) (x y : Operand) (ho : o.op = .build t #[(3, x), (4, y)]) (vx vy : Value) (hx : a.eval x = vx) (hy : a.eval y = vy) (cells : Array Value) (hb : P.built t [(3, vx), (4, vy)] = some cells)
    (hk : wpQuiet P ops C K rest (a.put o.dst (.agg cells))) : wpQuiet P ops C K (o :: rest) a :=
  wpQuiet_build hw t _ ho cells (by simpa [hx, hy] using hb) hk
theorem wpList_buildX {P : Program} {w : World} {ops : Array Oper} {rest : List Oper} {o : Oper} {a : Act} {Q : Exit → Act → World → Prop} (t : TypeId) (i j : Nat) (x y : Operand) (ho : o.op = .build t #[(i, x), (j, y)]) (vx vy : Value) (hx : a.eval x = vx) (hy : a.eval y = vy) (cells : Array Value) (hb : P.built t [(i, vx), (j, vy)] = some cells)
    (hw : Region.wanted o (yielded ops a.tmps) = true) (hk : wpList P ops Q rest (a.put o.dst (.agg cells)) w) : wpList P ops Q (o :: rest) a w :=
  wpList_unguard hw (wpList_plain rfl fun K hK => by
    have hb' : P.built t ((#[(i, x), (j, y)] : Array (Nat × Operand)).map fun (i, x) => (i, a.eval x)).toList = some cells := by simpa [hx, hy] using hb
    unfold Oper.wp execOp
    simp only [ho, Sem.run_bind, run_build w t _ cells hb', Result.andThen_ok, Sem.run_pure]
    exact hK _ _ hk)
/-- a block that reads as it did -/
def StK1 (gs : Nat) (cs : Array Value) (V : World) : Prop := V.rangeAt gs 0 cs.toList
/-- the state ahead of its grants -/
def staR : StaL := ⟨0, 0, 0, (List.replicate 16 zeroTen).set 0 ten0, (List.replicate 16 zeroTre).set 0 tre0, []⟩
theorem staC_5 (s : StaL) (t r g g' : Value) : (staC s t r g).setIfInBounds 5 g' = staC s t r g' := by kernel_rfl
set_option maxHeartbeats 4000000 in
set_option maxRecDepth 100000 in
theorem rnew_ok (vW : Value) (wd qu : Int) (st : UInt32) (seed : List UInt8) (w : World) (hW : Wld w w.heap.size vW wd qu st seed) (h6 : seed.length ≤ 64) :
    Calls Tryd.prog 16 #[vW] w fun e w' => ∃ v, e = .returned v ∧ StO 109 111 114 w' w.heap.size v (newS wd seed) ∧ Below w.heap.size w w' := by
  have HS := Lib.hid hW
  clear hW
  have hzs := zero_rstate
  go_enter Tryd.func16, Tryd.ntmps16
  go_upto_region 1 with fail
  clear hzs
  refine wp_at (fun W => Blk W w.heap.size 62 (staC nilS (.slice none 0 0) (.slice none 0 0) (.slice none 0 0)) ∧ Below w.heap.size w W) ⟨Blk.new w _ _, below_new1 _ _⟩ ?_
  rintro W1 ⟨hR1, hb1⟩
  have H1 := Lib.hid (And.intro hR1 hb1)
  clear hR1 hb1
  go_cut [3] (fun s wx => ∃ gs gT gR, s = .pointer (some ⟨gs, 0, none⟩) ∧ NEr W1 wx gT gR gs)
  case first =>
    refine wp_region_mixAP (.more 0 (.more 1 (.plain 2 (.only 3 (.only 4 .done))) (.only 3 (.only 1 (.plain 2 (.only 4 .done))))) (.more 1 (.more 0 (.plain 2 (.only 3 (.only 4 .done))) (.only 3 (.only 0 (.plain 2 (.only 4 .done))))) (.only 3 (.more 0 (.only 1 (.plain 2 (.only 4 .done))) (.only 1 (.only 0 (.plain 2 (.only 4 .done)))))))) (by kernel_rfl) (by kernel_rfl) (fun W2 hb2 => ?_)
    have H := NFr.start W2
    refine mixA_more rfl (fun K hK => ?_) ?_
    · skip
      refine wpList_makeR rfl 58 109 _ _ rfl Tryd.underlying58 (tenC zeroTen) 24 info_rten (by decide) .i64 .i64 16 rfl rfl (by decide) (by decide) ?_
      simp only [Act.put, List.setIfInBounds_toArray, List.set_cons_zero, List.set_cons_succ]
      refine hK _ _ (below_plus H.ten.1) ?_
      clear hK K
      refine mixA_at (fun V => NFr W2 V (some W2.heap.size) none none) H.ten ?_
      clear H
      intro V3 H
      refine mixA_more rfl (fun K hK => ?_) ?_
      · skip
        refine wpList_makeR rfl 59 111 _ _ rfl Tryd.underlying59 zTreC 200 info_rtre (by decide) .i64 .i64 16 rfl rfl (by decide) (by decide) ?_
        simp only [Act.put, List.setIfInBounds_toArray, List.set_cons_zero, List.set_cons_succ]
        refine hK _ _ (below_plus H.tre.1) ?_
        clear hK K
        refine mixA_at (fun V => NFr W2 V (some W2.heap.size) (some V3.heap.size) none) H.tre ?_
        clear H
        intro V4 H
        refine mixA_plain rfl ?_
        refine wpQuiet_build34 rfl 62 (.tmp 4) (.tmp 5) rfl _ _ rfl rfl _ (built_rsta (some ⟨W2.heap.size, 0, none⟩) (some ⟨V3.heap.size, 0, none⟩) 16 16 16 16) ?_
        simp only [Act.put, List.setIfInBounds_toArray, List.set_cons_zero, List.set_cons_succ]
        refine wpQuiet_nil ?_
        refine mixA_only rfl (fun K hK => ?_)
        refine wpList_allocRsta rfl rfl ?_
        simp only [Act.put, List.setIfInBounds_toArray, List.set_cons_zero, List.set_cons_succ]
        refine hK _ _ (below_plus H.sta.1) ?_
        clear hK K
        refine mixA_at (fun V => NFr W2 V (some W2.heap.size) (some V3.heap.size) (some V4.heap.size)) H.sta ?_
        clear H
        intro V5 H
        refine mixA_only rfl (fun K hK => ?_)
        refine wpList_storeB rfl rfl 62 (.tmp 3) (.tmp 6) rfl V4.heap.size 0 rfl (staC nilS (.slice (some ⟨W2.heap.size, 0, none⟩) 16 16) (.slice (some ⟨V3.heap.size, 0, none⟩) 16 16) (.slice none 0 0)) rfl _ _ (H.2.2.2 _ rfl).2 (by kernel_rfl) (by rw [staC_size, staC_size]; omega) (staC_one _ _ _ _ rfl rfl rfl) ?_
        intro W9 hS9 hg9
        refine hK _ _ (below_plus (below_only H.1 hg9 (H.2.2.2 _ rfl).1 H.1.size)) ?_
        clear hK K
        refine mixA_done ?_
        go_wp2_with fail
        go_meet
        exact ⟨V4.heap.size, W2.heap.size, V3.heap.size, rfl, H.fin hb2 hg9 hS9⟩
      · skip
        refine mixA_only rfl (fun K hK => ?_)
        refine wpList_allocRsta rfl rfl ?_
        simp only [Act.put, List.setIfInBounds_toArray, List.set_cons_zero, List.set_cons_succ]
        refine hK _ _ (below_plus H.sta.1) ?_
        clear hK K
        refine mixA_at (fun V => NFr W2 V (some W2.heap.size) none (some V3.heap.size)) H.sta ?_
        clear H
        intro V6 H
        refine mixA_only rfl (fun K hK => ?_)
        refine wpList_makeR rfl 59 111 _ _ rfl Tryd.underlying59 zTreC 200 info_rtre (by decide) .i64 .i64 16 rfl rfl (by decide) (by decide) ?_
        simp only [Act.put, List.setIfInBounds_toArray, List.set_cons_zero, List.set_cons_succ]
        refine hK _ _ (below_plus H.tre.1) ?_
        clear hK K
        refine mixA_at (fun V => NFr W2 V (some W2.heap.size) (some V6.heap.size) (some V3.heap.size)) H.tre ?_
        clear H
        intro V7 H
        refine mixA_plain rfl ?_
        refine wpQuiet_build34 rfl 62 (.tmp 4) (.tmp 5) rfl _ _ rfl rfl _ (built_rsta (some ⟨W2.heap.size, 0, none⟩) (some ⟨V6.heap.size, 0, none⟩) 16 16 16 16) ?_
        simp only [Act.put, List.setIfInBounds_toArray, List.set_cons_zero, List.set_cons_succ]
        refine wpQuiet_nil ?_
        refine mixA_only rfl (fun K hK => ?_)
        refine wpList_storeB rfl rfl 62 (.tmp 3) (.tmp 6) rfl V3.heap.size 0 rfl (staC nilS (.slice (some ⟨W2.heap.size, 0, none⟩) 16 16) (.slice (some ⟨V6.heap.size, 0, none⟩) 16 16) (.slice none 0 0)) rfl _ _ (H.2.2.2 _ rfl).2 (by kernel_rfl) (by rw [staC_size, staC_size]; omega) (staC_one _ _ _ _ rfl rfl rfl) ?_
        intro W9 hS9 hg9
        refine hK _ _ (below_plus (below_only H.1 hg9 (H.2.2.2 _ rfl).1 H.1.size)) ?_
        clear hK K
        refine mixA_done ?_
        go_wp2_with fail
        go_meet
        exact ⟨V3.heap.size, W2.heap.size, V6.heap.size, rfl, H.fin hb2 hg9 hS9⟩
    · skip
      refine mixA_more rfl (fun K hK => ?_) ?_
      · skip
        refine wpList_makeR rfl 59 111 _ _ rfl Tryd.underlying59 zTreC 200 info_rtre (by decide) .i64 .i64 16 rfl rfl (by decide) (by decide) ?_
        simp only [Act.put, List.setIfInBounds_toArray, List.set_cons_zero, List.set_cons_succ]
        refine hK _ _ (below_plus H.tre.1) ?_
        clear hK K
        refine mixA_at (fun V => NFr W2 V none (some W2.heap.size) none) H.tre ?_
        clear H
        intro V8 H
        refine mixA_more rfl (fun K hK => ?_) ?_
        · skip
          refine wpList_makeR rfl 58 109 _ _ rfl Tryd.underlying58 (tenC zeroTen) 24 info_rten (by decide) .i64 .i64 16 rfl rfl (by decide) (by decide) ?_
          simp only [Act.put, List.setIfInBounds_toArray, List.set_cons_zero, List.set_cons_succ]
          refine hK _ _ (below_plus H.ten.1) ?_
          clear hK K
          refine mixA_at (fun V => NFr W2 V (some V8.heap.size) (some W2.heap.size) none) H.ten ?_
          clear H
          intro V9 H
          refine mixA_plain rfl ?_
          refine wpQuiet_build34 rfl 62 (.tmp 4) (.tmp 5) rfl _ _ rfl rfl _ (built_rsta (some ⟨V8.heap.size, 0, none⟩) (some ⟨W2.heap.size, 0, none⟩) 16 16 16 16) ?_
          simp only [Act.put, List.setIfInBounds_toArray, List.set_cons_zero, List.set_cons_succ]
          refine wpQuiet_nil ?_
          refine mixA_only rfl (fun K hK => ?_)
          refine wpList_allocRsta rfl rfl ?_
          simp only [Act.put, List.setIfInBounds_toArray, List.set_cons_zero, List.set_cons_succ]
          refine hK _ _ (below_plus H.sta.1) ?_
          clear hK K
          refine mixA_at (fun V => NFr W2 V (some V8.heap.size) (some W2.heap.size) (some V9.heap.size)) H.sta ?_
          clear H
          intro V10 H
          refine mixA_only rfl (fun K hK => ?_)
          refine wpList_storeB rfl rfl 62 (.tmp 3) (.tmp 6) rfl V9.heap.size 0 rfl (staC nilS (.slice (some ⟨V8.heap.size, 0, none⟩) 16 16) (.slice (some ⟨W2.heap.size, 0, none⟩) 16 16) (.slice none 0 0)) rfl _ _ (H.2.2.2 _ rfl).2 (by kernel_rfl) (by rw [staC_size, staC_size]; omega) (staC_one _ _ _ _ rfl rfl rfl) ?_
          intro W9 hS9 hg9
          refine hK _ _ (below_plus (below_only H.1 hg9 (H.2.2.2 _ rfl).1 H.1.size)) ?_
          clear hK K
          refine mixA_done ?_
          go_wp2_with fail
          go_meet
          exact ⟨V9.heap.size, V8.heap.size, W2.heap.size, rfl, H.fin hb2 hg9 hS9⟩
        · skip
          refine mixA_only rfl (fun K hK => ?_)
          refine wpList_allocRsta rfl rfl ?_
          simp only [Act.put, List.setIfInBounds_toArray, List.set_cons_zero, List.set_cons_succ]
          refine hK _ _ (below_plus H.sta.1) ?_
          clear hK K
          refine mixA_at (fun V => NFr W2 V none (some W2.heap.size) (some V8.heap.size)) H.sta ?_
          clear H
          intro V11 H
          refine mixA_only rfl (fun K hK => ?_)
          refine wpList_makeR rfl 58 109 _ _ rfl Tryd.underlying58 (tenC zeroTen) 24 info_rten (by decide) .i64 .i64 16 rfl rfl (by decide) (by decide) ?_
          simp only [Act.put, List.setIfInBounds_toArray, List.set_cons_zero, List.set_cons_succ]
          refine hK _ _ (below_plus H.ten.1) ?_
          clear hK K
          refine mixA_at (fun V => NFr W2 V (some V11.heap.size) (some W2.heap.size) (some V8.heap.size)) H.ten ?_
          clear H
          intro V12 H
          refine mixA_plain rfl ?_
          refine wpQuiet_build34 rfl 62 (.tmp 4) (.tmp 5) rfl _ _ rfl rfl _ (built_rsta (some ⟨V11.heap.size, 0, none⟩) (some ⟨W2.heap.size, 0, none⟩) 16 16 16 16) ?_
          simp only [Act.put, List.setIfInBounds_toArray, List.set_cons_zero, List.set_cons_succ]
          refine wpQuiet_nil ?_
          refine mixA_only rfl (fun K hK => ?_)
          refine wpList_storeB rfl rfl 62 (.tmp 3) (.tmp 6) rfl V8.heap.size 0 rfl (staC nilS (.slice (some ⟨V11.heap.size, 0, none⟩) 16 16) (.slice (some ⟨W2.heap.size, 0, none⟩) 16 16) (.slice none 0 0)) rfl _ _ (H.2.2.2 _ rfl).2 (by kernel_rfl) (by rw [staC_size, staC_size]; omega) (staC_one _ _ _ _ rfl rfl rfl) ?_
          intro W9 hS9 hg9
          refine hK _ _ (below_plus (below_only H.1 hg9 (H.2.2.2 _ rfl).1 H.1.size)) ?_
          clear hK K
          refine mixA_done ?_
          go_wp2_with fail
          go_meet
          exact ⟨V8.heap.size, V11.heap.size, W2.heap.size, rfl, H.fin hb2 hg9 hS9⟩
      · skip
        refine mixA_only rfl (fun K hK => ?_)
        refine wpList_allocRsta rfl rfl ?_
        simp only [Act.put, List.setIfInBounds_toArray, List.set_cons_zero, List.set_cons_succ]
        refine hK _ _ (below_plus H.sta.1) ?_
        clear hK K
        refine mixA_at (fun V => NFr W2 V none none (some W2.heap.size)) H.sta ?_
        clear H
        intro V13 H
        refine mixA_more rfl (fun K hK => ?_) ?_
        · skip
          refine wpList_makeR rfl 58 109 _ _ rfl Tryd.underlying58 (tenC zeroTen) 24 info_rten (by decide) .i64 .i64 16 rfl rfl (by decide) (by decide) ?_
          simp only [Act.put, List.setIfInBounds_toArray, List.set_cons_zero, List.set_cons_succ]
          refine hK _ _ (below_plus H.ten.1) ?_
          clear hK K
          refine mixA_at (fun V => NFr W2 V (some V13.heap.size) none (some W2.heap.size)) H.ten ?_
          clear H
          intro V14 H
          refine mixA_only rfl (fun K hK => ?_)
          refine wpList_makeR rfl 59 111 _ _ rfl Tryd.underlying59 zTreC 200 info_rtre (by decide) .i64 .i64 16 rfl rfl (by decide) (by decide) ?_
          simp only [Act.put, List.setIfInBounds_toArray, List.set_cons_zero, List.set_cons_succ]
          refine hK _ _ (below_plus H.tre.1) ?_
          clear hK K
          refine mixA_at (fun V => NFr W2 V (some V13.heap.size) (some V14.heap.size) (some W2.heap.size)) H.tre ?_
          clear H
          intro V15 H
          refine mixA_plain rfl ?_
          refine wpQuiet_build34 rfl 62 (.tmp 4) (.tmp 5) rfl _ _ rfl rfl _ (built_rsta (some ⟨V13.heap.size, 0, none⟩) (some ⟨V14.heap.size, 0, none⟩) 16 16 16 16) ?_
          simp only [Act.put, List.setIfInBounds_toArray, List.set_cons_zero, List.set_cons_succ]
          refine wpQuiet_nil ?_
          refine mixA_only rfl (fun K hK => ?_)
          refine wpList_storeB rfl rfl 62 (.tmp 3) (.tmp 6) rfl W2.heap.size 0 rfl (staC nilS (.slice (some ⟨V13.heap.size, 0, none⟩) 16 16) (.slice (some ⟨V14.heap.size, 0, none⟩) 16 16) (.slice none 0 0)) rfl _ _ (H.2.2.2 _ rfl).2 (by kernel_rfl) (by rw [staC_size, staC_size]; omega) (staC_one _ _ _ _ rfl rfl rfl) ?_
          intro W9 hS9 hg9
          refine hK _ _ (below_plus (below_only H.1 hg9 (H.2.2.2 _ rfl).1 H.1.size)) ?_
          clear hK K
          refine mixA_done ?_
          go_wp2_with fail
          go_meet
          exact ⟨W2.heap.size, V13.heap.size, V14.heap.size, rfl, H.fin hb2 hg9 hS9⟩
        · skip
          refine mixA_only rfl (fun K hK => ?_)
          refine wpList_makeR rfl 59 111 _ _ rfl Tryd.underlying59 zTreC 200 info_rtre (by decide) .i64 .i64 16 rfl rfl (by decide) (by decide) ?_
          simp only [Act.put, List.setIfInBounds_toArray, List.set_cons_zero, List.set_cons_succ]
          refine hK _ _ (below_plus H.tre.1) ?_
          clear hK K
          refine mixA_at (fun V => NFr W2 V none (some V13.heap.size) (some W2.heap.size)) H.tre ?_
          clear H
          intro V16 H
          refine mixA_only rfl (fun K hK => ?_)
          refine wpList_makeR rfl 58 109 _ _ rfl Tryd.underlying58 (tenC zeroTen) 24 info_rten (by decide) .i64 .i64 16 rfl rfl (by decide) (by decide) ?_
          simp only [Act.put, List.setIfInBounds_toArray, List.set_cons_zero, List.set_cons_succ]
          refine hK _ _ (below_plus H.ten.1) ?_
          clear hK K
          refine mixA_at (fun V => NFr W2 V (some V16.heap.size) (some V13.heap.size) (some W2.heap.size)) H.ten ?_
          clear H
          intro V17 H
          refine mixA_plain rfl ?_
          refine wpQuiet_build34 rfl 62 (.tmp 4) (.tmp 5) rfl _ _ rfl rfl _ (built_rsta (some ⟨V16.heap.size, 0, none⟩) (some ⟨V13.heap.size, 0, none⟩) 16 16 16 16) ?_
          simp only [Act.put, List.setIfInBounds_toArray, List.set_cons_zero, List.set_cons_succ]
          refine wpQuiet_nil ?_
          refine mixA_only rfl (fun K hK => ?_)
          refine wpList_storeB rfl rfl 62 (.tmp 3) (.tmp 6) rfl W2.heap.size 0 rfl (staC nilS (.slice (some ⟨V16.heap.size, 0, none⟩) 16 16) (.slice (some ⟨V13.heap.size, 0, none⟩) 16 16) (.slice none 0 0)) rfl _ _ (H.2.2.2 _ rfl).2 (by kernel_rfl) (by rw [staC_size, staC_size]; omega) (staC_one _ _ _ _ rfl rfl rfl) ?_
          intro W9 hS9 hg9
          refine hK _ _ (below_plus (below_only H.1 hg9 (H.2.2.2 _ rfl).1 H.1.size)) ?_
          clear hK K
          refine mixA_done ?_
          go_wp2_with fail
          go_meet
          exact ⟨W2.heap.size, V16.heap.size, V13.heap.size, rfl, H.fin hb2 hg9 hS9⟩
  case rest =>
    obtain ⟨gs, gT, gR, rfl, hne⟩ := hcut
    obtain ⟨n0, ⟨n1, n2, n4⟩, nT, nR, nS⟩ := hne
    have hlow : w.heap.size < W1.heap.size := H1.out.1.lt
    have hR := H1.out.1.below n0 hlow
    have hbw := H1.out.2.trans (n0.mono H1.out.2.size)
    have oT := own_of_blk (base := w.heap.size) (sz := 6) nT (by omega) (fun c hc => by rw [List.eq_of_mem_replicate hc]; rfl) (by decide)
    have oR := own_of_blk (base := w.heap.size) (sz := 75) nR (by omega) (fun c hc => by rw [List.eq_of_mem_replicate hc]; exact zTreC_size) (by decide)
    have H5 := Lib.hid (And.intro hR (And.intro oT (And.intro oR (And.intro nS hbw))))
    have hgs : w.heap.size < gs := by omega
    clear hR oT oR nT nR nS n0 n1 n2 n4 H1 hbw hlow
    have c3 : wc.cell? ⟨gs, 3, none⟩ = some (.slice (some ⟨gT, 0, none⟩) 16 16) := H5.out.2.2.2.1.cell 3
    go_upto_region 3 with (first
      | (refine wpList_build3 107 0 1 2 (.const (.int .u32 1048576)) (.const (.int .u32 1048576)) (.const (.int .u32 1048576)) rfl _ _ _ rfl rfl rfl _ built_rbuk rfl ?_)
      | (refine wpList_build3 109 0 1 2 (.const (.bool true)) (.tmp 9) (.const (.int .u32 32768)) rfl _ _ _ rfl rfl rfl (tenC ten0) built_rten rfl ?_)
      | (refine wpList_storeRow rfl rfl 109 (.tmp 11) (.tmp 10) rfl w.heap.size 6 109 gT 16 16 (List.replicate 16 (tenC zeroTen)) H5.out.2.1 (fun c hc => by rw [List.eq_of_mem_replicate hc]; rfl) 0 0 (by decide) rfl (tenC ten0) rfl (by kernel_rfl) (by decide) (tenC_one _) ?_; intro W6 hT6 hg6))
    have p1 : patch ((List.replicate 16 (tenC zeroTen)).getD 0 #[]) 0 (tenC ten0).toList = tenC ten0 := patch_all _ _ rfl
    rw [p1] at hT6
    obtain ⟨cT, bT⟩ := own_blk H5.out.2.1 (by decide)
    have sT := H5.out.2.2.2.1
    have H6 := Lib.hid (show Blk W6 w.heap.size 62 (staC nilS (.slice none 0 0) (.slice none 0 0) (.slice none 0 0)) ∧ W6.ownsRow w.heap.size 109 6 (.slice (some ⟨gT, 0, none⟩) 16 16) ((List.replicate 16 (tenC zeroTen)).set 0 (tenC ten0)).length (flat ((List.replicate 16 (tenC zeroTen)).set 0 (tenC ten0))) ∧ W6.ownsRow w.heap.size 111 75 (.slice (some ⟨gR, 0, none⟩) 16 16) (List.replicate 16 zTreC).length (flat (List.replicate 16 zTreC)) ∧ Blk W6 gs 62 (staC nilS (.slice (some ⟨gT, 0, none⟩) 16 16) (.slice (some ⟨gR, 0, none⟩) 16 16) (.slice none 0 0)) ∧ Below w.heap.size w W6 from
      ⟨H5.out.1.grown hg6 (fun e => blk_ne H5.out.1 bT (by decide) (by injection e)), hT6, own_typed H5.out.2.2.1 hg6 bT (by decide), sT.grown hg6 (fun e => blk_ne sT bT (by decide) (by injection e)), below_own H5.out.2.2.2.2 H5.out.2.1 hg6 H5.out.2.2.2.2.size⟩)
    clear hT6 hg6 bT sT p1 H5 c3
    have c4 : W6.cell? ⟨gs, 4, none⟩ = some (.slice (some ⟨gR, 0, none⟩) 16 16) := H6.out.2.2.2.1.cell 4
    have hE := Blk.new W6 22 #[.int .u32 0]
    have hnE := below_new1 W6 (Obj.cells #[.int .u32 0] 22)
    have oR6 := own_below H6.out.2.2.1 hnE
    go_upto_region 4 with (first
      | (refine wpList_build3 111 0 2 4 (.const (.int .i64 1)) (.const (.int .i64 1)) (.tmp 14) rfl _ _ _ rfl rfl rfl (treC tre0 (.slice (some ⟨W6.heap.size, 0, none⟩) 1 1) (.slice none 0 0) (.slice none 0 0)) (built_rtre W6.heap.size) rfl ?_)
      | (refine wpList_storeRow rfl rfl 111 (.tmp 16) (.tmp 15) rfl w.heap.size 75 111 gR 16 16 (List.replicate 16 zTreC) oR6 (fun c hc => by rw [List.eq_of_mem_replicate hc]; exact zTreC_size) 0 0 (by decide) rfl (treC tre0 (.slice (some ⟨W6.heap.size, 0, none⟩) 1 1) (.slice none 0 0) (.slice none 0 0)) rfl (by rw [treC_size]; kernel_rfl) (by rw [treC_size]; decide) (treC_one _ _ _ _ rfl rfl rfl) ?_; intro W7 hR7 hg7))
    have p1 : patch ((List.replicate 16 zTreC).getD 0 #[]) 0 (treC tre0 (.slice (some ⟨W6.heap.size, 0, none⟩) 1 1) (.slice none 0 0) (.slice none 0 0)).toList = (treC tre0 (.slice (some ⟨W6.heap.size, 0, none⟩) 1 1) (.slice none 0 0) (.slice none 0 0)) := patch_all _ _ (by rw [treC_size]; exact zTreC_size.symm)
    rw [p1] at hR7
    obtain ⟨cR, bR⟩ := own_blk oR6 (by decide)
    have oD : (W6.alloc (Obj.cells #[.int .u32 0] 22)).ownsRow w.heap.size 22 1 (.slice (some ⟨W6.heap.size, 0, none⟩) 1 1) 1 [v32 0] := ⟨rfl, .inr ⟨W6.heap.size, 1, _, rfl, H6.out.2.2.2.2.size, hE, Nat.le_refl _, by decide, rfl, rfl⟩⟩
    have tR := H6.out.1.below hnE H6.out.1.lt
    have tS := H6.out.2.2.2.1.below hnE H6.out.2.2.2.1.lt
    have H7 := Lib.hid (show Blk W7 w.heap.size 62 (staC nilS (.slice none 0 0) (.slice none 0 0) (.slice none 0 0)) ∧ W7.ownsRow w.heap.size 109 6 (.slice (some ⟨gT, 0, none⟩) 16 16) ((List.replicate 16 (tenC zeroTen)).set 0 (tenC ten0)).length (flat ((List.replicate 16 (tenC zeroTen)).set 0 (tenC ten0))) ∧ W7.ownsRow w.heap.size 111 75 (.slice (some ⟨gR, 0, none⟩) 16 16) ((List.replicate 16 zTreC).set 0 (treC tre0 (.slice (some ⟨W6.heap.size, 0, none⟩) 1 1) (.slice none 0 0) (.slice none 0 0))).length (flat ((List.replicate 16 zTreC).set 0 (treC tre0 (.slice (some ⟨W6.heap.size, 0, none⟩) 1 1) (.slice none 0 0) (.slice none 0 0)))) ∧ Blk W7 gs 62 (staC nilS (.slice (some ⟨gT, 0, none⟩) 16 16) (.slice (some ⟨gR, 0, none⟩) 16 16) (.slice none 0 0)) ∧ Below w.heap.size w W7 ∧ W7.ownsRow w.heap.size 22 1 (.slice (some ⟨W6.heap.size, 0, none⟩) 1 1) 1 [v32 0] from
      ⟨tR.grown hg7 (fun e => blk_ne tR bR (by decide) (by injection e)), own_typed (own_below H6.out.2.1 hnE) hg7 bR (by decide), hR7, tS.grown hg7 (fun e => blk_ne tS bR (by decide) (by injection e)), below_own (H6.out.2.2.2.2.trans (hnE.mono H6.out.2.2.2.2.size)) oR6 hg7 (Nat.le_trans H6.out.2.2.2.2.size hnE.size), own_typed oD hg7 bR (by decide)⟩)
    clear hR7 hg7 bR oD tR tS p1 H6 c4 hE hnE oR6
    generalize W6.heap.size = gD at H7 ⊢
    have hIn : ∀ V, Blk V gs 62 (staC nilS (.slice (some ⟨gT, 0, none⟩) 16 16) (.slice (some ⟨gR, 0, none⟩) 16 16) (.slice none 0 0)) → StK1 gs (staC nilS (.slice (some ⟨gT, 0, none⟩) 16 16) (.slice (some ⟨gR, 0, none⟩) 16 16) (.slice none 0 0)) V := fun V q2 => range_blk24 q2
    refine wp_region_mix (.plain 0 <| .plain 1 <| .plain 2 <| .plain 3 <| .only 4 <| .plain 5 <| .plain 6 <| .only 7 <| .done) (StK1 gs (staC nilS (.slice (some ⟨gT, 0, none⟩) 16 16) (.slice (some ⟨gR, 0, none⟩) 16 16) (.slice none 0 0))) (by kernel_rfl) (by kernel_rfl) (hIn _ (H7.out.2.2.2.1.drewN 1)) ?_
    refine mix_atC (fun W8 => Below W7.heap.size W7 W8) (below_drewN (Below.refl _ _) 1) ?_
    rintro W8 hb8
    have H8 := Lib.hid (show Blk W8 w.heap.size 62 (staC nilS (.slice none 0 0) (.slice none 0 0) (.slice none 0 0)) ∧ W8.ownsRow w.heap.size 109 6 (.slice (some ⟨gT, 0, none⟩) 16 16) ((List.replicate 16 (tenC zeroTen)).set 0 (tenC ten0)).length (flat ((List.replicate 16 (tenC zeroTen)).set 0 (tenC ten0))) ∧ W8.ownsRow w.heap.size 111 75 (.slice (some ⟨gR, 0, none⟩) 16 16) ((List.replicate 16 zTreC).set 0 (treC tre0 (.slice (some ⟨gD, 0, none⟩) 1 1) (.slice none 0 0) (.slice none 0 0))).length (flat ((List.replicate 16 zTreC).set 0 (treC tre0 (.slice (some ⟨gD, 0, none⟩) 1 1) (.slice none 0 0) (.slice none 0 0)))) ∧ Blk W8 gs 62 (staC nilS (.slice (some ⟨gT, 0, none⟩) 16 16) (.slice (some ⟨gR, 0, none⟩) 16 16) (.slice none 0 0)) ∧ Below w.heap.size w W8 ∧ W8.ownsRow w.heap.size 22 1 (.slice (some ⟨gD, 0, none⟩) 1 1) 1 [v32 0] from
      ⟨H7.out.1.below hb8 H7.out.1.lt, own_below H7.out.2.1 hb8, own_below H7.out.2.2.1 hb8, H7.out.2.2.2.1.below hb8 H7.out.2.2.2.1.lt, H7.out.2.2.2.2.1.trans (hb8.mono H7.out.2.2.2.2.1.size), own_below H7.out.2.2.2.2.2 hb8⟩)
    clear H7 hb8
    iterate 4 (refine mix_plain rfl ?_; (first
      | (refine wpQuiet_load1 rfl _ (.tmp 17) rfl _ rfl _ Tryd.underlying59 rfl _ (fun V h => (show V.rangeAt gs 0 _ from h) 4 (.slice (some ⟨gR, 0, none⟩) 16 16) rfl) ?_; simp only [Act.put, List.setIfInBounds_toArray, List.set_cons_zero, List.set_cons_succ])
      | (refine wpQuiet_loadMid rfl 62 (.tmp 3) rfl gs 0 rfl (staC nilS (.slice (some ⟨gT, 0, none⟩) 16 16) (.slice (some ⟨gR, 0, none⟩) 16 16) (.slice none 0 0)) _ (fun _ h => h) Tryd.underlying62 rfl (by kernel_rfl) ?_; simp only [Act.put, List.setIfInBounds_toArray, List.set_cons_zero, List.set_cons_succ])
      | go_big_quiet_step ((intro _; rfl))
      | go_big_quiet_step (fail)); refine wpQuiet_nil ?_)
    have hO8 : StO 109 111 114 W8 w.heap.size (.agg (staC nilS (.slice (some ⟨gT, 0, none⟩) 16 16) (.slice (some ⟨gR, 0, none⟩) 16 16) (.slice none 0 0))) staR :=
      ⟨_, _, _, _, rfl, by show W8.ownsRow _ _ _ _ (List.map tenC ((List.replicate 16 zeroTen).set 0 ten0)).length (flat (List.map tenC ((List.replicate 16 zeroTen).set 0 ten0))); rw [tens_map']; exact H8.out.2.1, H8.out.2.2.1, by rw [List.length_set, List.length_replicate]; rfl, fun k hk => tres_set ⟨_, _, _, rfl, H8.out.2.2.2.2.2, ⟨_, Own2.nil_ _ _⟩, ⟨_, Own2.nil_ _ _⟩⟩ k (by simpa [staR] using hk), World.ownsRow_nil _ _ _ _⟩
    have mp := rpub_ok vW wd qu st _ seed staR 0 (by decide) tre0_ok (by decide) (by decide) W8 (HS.out.next H8.out.2.2.2.2.1) (by omega) hO8.sta
    obtain ⟨hd, hhd⟩ : ∃ hd, pubH wd staR.clock 0 (staR.trees.getD 0 zeroTre) = hd := ⟨_, rfl⟩
    obtain ⟨tg, htg⟩ : ∃ tg, pubT wd seed staR.clock 0 (staR.trees.getD 0 zeroTre) = tg := ⟨_, rfl⟩
    rw [hhd, htg] at mp
    have HP := Lib.hid (show pubH wd 0 0 tre0 = hd ∧ pubT wd seed 0 0 tre0 = tg from ⟨hhd, htg⟩)
    clear hhd htg hO8
    refine mix_only_in rfl (fun K hK => ?_)
    go_wp2_with fail
    refine mp.mono ?_
    clear mp
    rintro e W9 ⟨rfl, hb9⟩
    go_wp2_with fail
    refine hK _ _ (hIn _ (H8.out.2.2.2.1.below hb9 H8.out.2.2.2.1.lt)) ?_
    clear hK K
    have oR9 := own_below H8.out.2.2.1 hb9
    have oT9 := own_below H8.out.2.1 hb9
    have oD9 := own_below H8.out.2.2.2.2.2 hb9
    have hS9 := H8.out.2.2.2.1.below hb9 H8.out.2.2.2.1.lt
    have hR9 := H8.out.1.below hb9 H8.out.1.lt
    have hbw := H8.out.2.2.2.2.1.trans (hb9.mono H8.out.2.2.2.2.1.size)
    have HX := Lib.hid (And.intro oT9 (And.intro oD9 (And.intro hS9 (And.intro hR9 hbw))))
    clear hb9 H8 oT9 oD9 hS9 hR9 hbw
    iterate 2 (refine mix_plain rfl ?_; (first | go_big_quiet_step ((intro _; rfl)) | go_big_quiet_step (fail)); refine wpQuiet_nil ?_)
    refine mix_only_in rfl (fun K hK => ?_)
    refine wpList_storeRow rfl rfl 42 (.tmp 23) (.tmp 21) rfl w.heap.size 75 111 gR 16 16 ((List.replicate 16 zTreC).set 0 (treC tre0 (.slice (some ⟨gD, 0, none⟩) 1 1) (.slice none 0 0) (.slice none 0 0))) oR9 (fun c hc => by
      rcases List.mem_or_eq_of_mem_set hc with hc | hc
      · rw [List.eq_of_mem_replicate hc]; exact zTreC_size
      · rw [hc, treC_size]) 0 7 (by rw [List.length_set, List.length_replicate]; omega) rfl (sigC hd tg) rfl (by rw [sigC_size]; kernel_rfl) (by rw [sigC_size]; decide) (sigC_one _ _) ?_
    intro W10 hR10 hg10
    obtain ⟨cR, bR⟩ := own_blk oR9 (by rw [List.length_set, List.length_replicate]; omega)
    refine hK _ _ (hIn _ (HX.out.2.2.1.grown hg10 (fun e => blk_ne HX.out.2.2.1 bR (by decide) (by injection e)))) ?_
    clear hK K
    refine mix_done ?_
    have p1 : patch (((List.replicate 16 zTreC).set 0 (treC tre0 (.slice (some ⟨gD, 0, none⟩) 1 1) (.slice none 0 0) (.slice none 0 0))).getD 0 #[]) 7 (sigC hd tg).toList = treC (tre1 wd seed) (.slice (some ⟨gD, 0, none⟩) 1 1) (.slice none 0 0) (.slice none 0 0) := by
      show patch (treC tre0 (.slice (some ⟨gD, 0, none⟩) 1 1) (.slice none 0 0) (.slice none 0 0)) 7 (sigC hd tg).toList = _
      rw [treC_head]
      unfold tre1
      rw [HP.out.1, HP.out.2]
    rw [p1, List.set_set] at hR10
    have hS10 := HX.out.2.2.1.grown hg10 (fun e => blk_ne HX.out.2.2.1 bR (by decide) (by injection e))
    have hR10' := HX.out.2.2.2.1.grown hg10 (fun e => blk_ne HX.out.2.2.2.1 bR (by decide) (by injection e))
    have hbw := below_own HX.out.2.2.2.2 oR9 hg10 HX.out.2.2.2.2.size
    have HZ := Lib.hid (And.intro (own_typed HX.out.1 hg10 bR (by decide)) (And.intro hR10 (And.intro (own_typed HX.out.2.1 hg10 bR (by decide)) (And.intro hS10 (And.intro hR10' hbw)))))
    clear oR9 hR10 hg10 bR p1 HX hbw HP hS10 hR10'
    have hnG := below_new1 W10 (Obj.cells (graC gra0) 114)
    have bG := Blk.new W10 114 (graC gra0)
    have tS := HZ.out.2.2.2.1.below hnG HZ.out.2.2.2.1.lt
    have kG := built_rgra
    go_upto_region 6 with (first
      | (refine wpList_buildX 114 1 2 (.const (.int .i64 4)) (.const (.int .u64 18446744073709551615)) rfl _ _ rfl rfl (graC gra0) built_rgra rfl ?_)
      | (refine wpList_buildRgra rfl (.tmp 24) rfl rfl ?_)
      | (refine wpList_store1 rfl rfl _ (.tmp 26) (.tmp 25) rfl gs 5 rfl (.slice (some ⟨W10.heap.size, 0, none⟩) 1 1) rfl _ _ tS (by kernel_rfl) (by rw [staC_size]; omega) rfl rfl ?_; intro W11 hS11 hg11))
    rw [staC_5] at hS11
    have HZ1 := Lib.hid (show W11.ownsRow w.heap.size 109 6 (.slice (some ⟨gT, 0, none⟩) 16 16) ((List.replicate 16 (tenC zeroTen)).set 0 (tenC ten0)).length (flat ((List.replicate 16 (tenC zeroTen)).set 0 (tenC ten0))) ∧ W11.ownsRow w.heap.size 111 75 (.slice (some ⟨gR, 0, none⟩) 16 16) ((List.replicate 16 zTreC).set 0 (treC (tre1 wd seed) (.slice (some ⟨gD, 0, none⟩) 1 1) (.slice none 0 0) (.slice none 0 0))).length (flat ((List.replicate 16 zTreC).set 0 (treC (tre1 wd seed) (.slice (some ⟨gD, 0, none⟩) 1 1) (.slice none 0 0) (.slice none 0 0)))) ∧ W11.ownsRow w.heap.size 22 1 (.slice (some ⟨gD, 0, none⟩) 1 1) 1 [v32 0] ∧ Blk W11 W10.heap.size 114 (graC gra0) ∧ Blk W11 w.heap.size 62 (staC nilS (.slice none 0 0) (.slice none 0 0) (.slice none 0 0)) ∧ Below w.heap.size w W11 from
      ⟨own_typed (own_below HZ.out.1 hnG) hg11 tS (by decide), own_typed (own_below HZ.out.2.1 hnG) hg11 tS (by decide), own_typed (own_below HZ.out.2.2.1 hnG) hg11 tS (by decide), bG.grown hg11 (fun e => blk_ne bG tS (by decide) (by injection e)), (HZ.out.2.2.2.2.1.below hnG HZ.out.2.2.2.2.1.lt).grown hg11 (fun e => by injection e with e; omega), below_only (HZ.out.2.2.2.2.2.trans (hnG.mono HZ.out.2.2.2.2.2.size)) hg11 (by omega) (Nat.le_trans HZ.out.2.2.2.2.2.size hnG.size)⟩)
    have hGb : w.heap.size ≤ W10.heap.size := HZ.out.2.2.2.2.2.size
    have HS11 := Lib.hid (range_blk24 hS11)
    clear hnG bG tS kG hg11 hS11 HZ
    generalize W10.heap.size = gG at HZ1 hGb HS11 ⊢
    have hO11 : StO 109 111 114 W11 w.heap.size (.agg (staC nilS (.slice (some ⟨gT, 0, none⟩) 16 16) (.slice (some ⟨gR, 0, none⟩) 16 16) (.slice (some ⟨gG, 0, none⟩) 1 1))) (newS wd seed) :=
      ⟨_, _, _, _, rfl, by show W11.ownsRow _ _ _ _ (List.map tenC ((List.replicate 16 zeroTen).set 0 ten0)).length (flat (List.map tenC ((List.replicate 16 zeroTen).set 0 ten0))); rw [tens_map']; exact HZ1.out.1, HZ1.out.2.1, by rw [List.length_set, List.length_replicate]; rfl, fun k hk => tres_set ⟨_, _, _, rfl, HZ1.out.2.2.1, ⟨_, Own2.nil_ _ _⟩, ⟨_, Own2.nil_ _ _⟩⟩ k (by simpa [newS] using hk), own_of_blk (base := w.heap.size) (sz := 4) (cs := [graC gra0]) (by rw [show (flat [graC gra0]).toArray = graC gra0 by simp [flat]]; exact HZ1.out.2.2.2.1) hGb (fun c hc => by rw [List.mem_singleton.1 hc]; rfl) (by decide)⟩
    have hRb := HZ1.out.2.2.2.2.1
    have HZ2 := Lib.hid (And.intro hO11 HZ1.out.2.2.2.2.2)
    clear hO11 HZ1 hGb
    go_wp2_with (first
      | (refine wpList_loadR 62 (.tmp 3) rfl gs 0 rfl (staC nilS (.slice (some ⟨gT, 0, none⟩) 16 16) (.slice (some ⟨gR, 0, none⟩) 16 16) (.slice (some ⟨gG, 0, none⟩) 1 1)) _ HS11.out Tryd.underlying62 rfl (by kernel_rfl) rfl ?_)
      | (refine wpList_storeB rfl rfl 62 (.tmp 2) (.tmp 27) rfl w.heap.size 0 rfl (staC nilS (.slice (some ⟨gT, 0, none⟩) 16 16) (.slice (some ⟨gR, 0, none⟩) 16 16) (.slice (some ⟨gG, 0, none⟩) 1 1)) rfl _ _ hRb (by kernel_rfl) (by rw [staC_size, staC_size]; omega) (staC_one _ _ _ _ rfl rfl rfl) ?_; intro W12 hR12 hg12))
    rw [copied_all _ _ (by rw [staC_size, staC_size])] at hR12
    exact bodyPost_ret (results_cell_row (p := 2) (ty := 62) rfl _ _ w.heap.size _ _ _ _ rfl hR12 Tryd.underlying62 rfl (by kernel_rfl)) rfl ⟨_, rfl, HZ2.out.1.typed hg12 hRb (by decide) (by decide) (by decide) (by decide) (by decide) (by decide), below_only HZ2.out.2 hg12 (Nat.le_refl _) HZ2.out.2.size⟩
end Go.Proofs.YtcdkadidkkbhpaaDoor
