/- Texts that stand behind one another: SamB. No condition. -/
import Derived.Test.YtcdkadidkkbhpaaDoorS27
import Derived.Test.YtcdkadidkkbhpaaDoorS21
/- The walks of state.Same: two trees, two lists of trees, two states. No condition. -/
namespace Go.Proofs.YtcdkadidkkbhpaaDoor
open Go Go.RowKit
attribute [local irreducible] mixW
attribute [local go_sem] n8_lo n8_hi n64_lo n64_hi n32_lo n32_hi
theorem wpList_eqSG {w : World} {ops : Array Oper} {rest : List Oper} {o : Oper} {a : Act} {Q : Exit → Act → World → Prop} (x y : Operand) (yt : TypeId) (ho : o.op = .binOp .eql 42 x y yt) (h h' : HeadL) (t t' : List UInt8) (hx : a.eval x = .agg (sigC h t)) (hy : a.eval y = .agg (sigC h' t'))
    (hr : h.root.length = 32) (hr' : h'.root.length = 32) (ht : t.length = 32) (ht' : t'.length = 32) (b : Bool) (hb : (headEq h h' && decide (t = t')) = b) (hw : Region.wanted o (yielded ops a.tmps) = true)
    (hk : wpList Tryd.prog ops Q rest (a.put o.dst (.bool b)) w) : wpList Tryd.prog ops Q (o :: rest) a w :=
  wpList_unguard hw (wpList_plain (o := { o with guard := none }) rfl fun K hK => by
    unfold Oper.wp execOp
    simp only [ho, hx, hy, Sem.run_bind, run_eqGuard_agg (P := Tryd.prog) w .eql 42 x y _ _ (by kernel_rfl), eql_sig h h' hr hr' t t' ht ht', hb, Result.andThen_ok, Sem.run_pure]
    exact hK _ _ hk)
theorem tree_sig {W : World} {b : Nat} {ty : TypeId} {t : TreL} {d l q : Value} (h : Blk W b ty (treC t d l q)) : W.rangeAt b 7 (sigC t.head t.tag).toList := fun j v hj => by
  rw [h.cell, treC_sig, ← hj]
  simp
def eqHd (a b : TreL) : Bool := headEq a.head b.head && decide (a.tag = b.tag)
def eqTre (a b : TreL) : Bool := (a.state == b.state) && ((a.tenant == b.tenant) && ((a.weight == b.weight) && ((a.deficit == b.deficit) && (eqHd a b && (sameL eqW a.draws b.draws && (sameL eqTx a.leaves b.leaves && sameL eqTx a.queue b.queue))))))
theorem headEq_iff (h h' : HeadL) : headEq h h' = true ↔ h = h' := by
  constructor
  · intro e
    simp only [headEq, Bool.and_eq_true, beq_iff_eq, decide_eq_true_eq] at e
    obtain ⟨a1, a2, a3, a4, a5⟩ := h
    obtain ⟨b1, b2, b3, b4, b5⟩ := h'
    simp only at e
    obtain ⟨⟨⟨⟨e1, e2⟩, e3⟩, e4⟩, e5⟩ := e
    rw [e1, e2, n64_inj e3, n64_inj e4, e5]
  · rintro rfl; exact headEq_self h
theorem eqTre_iff (a b : TreL) : eqTre a b = true ↔ a = b := by
  constructor
  · intro e
    simp only [eqTre, eqHd, Bool.and_eq_true, beq_iff_eq, decide_eq_true_eq, headEq_iff, sameL_iff eqW eqW_iff, sameL_iff eqTx eqTx_iff] at e
    obtain ⟨a1, a2, a3, a4, a5, a6, a7, a8, a9⟩ := a
    obtain ⟨b1, b2, b3, b4, b5, b6, b7, b8, b9⟩ := b
    simp only at e
    obtain ⟨rfl, rfl, rfl, rfl, ⟨rfl, rfl⟩, rfl, rfl, rfl⟩ := e
    rfl
  · rintro rfl
    simp only [eqTre, eqHd, beq_self_eq_true, headEq_self, Bool.true_and, decide_true, (sameL_iff eqW eqW_iff _ _).2 rfl, (sameL_iff eqTx eqTx_iff _ _).2 rfl]
set_option maxHeartbeats 3000000 in
set_option maxRecDepth 100000 in
theorem sameTre_any (a b : TreL) (da la qa db lb qb : Value) (fb : Nat) (w : World) (hda : WSl w w.heap.size da a.draws) (hla : SSl w w.heap.size la a.leaves) (hqa : SSl w w.heap.size qa a.queue)
    (hdb : WSl w w.heap.size db b.draws) (hlb : SSl w w.heap.size lb b.leaves) (hqb : SSl w w.heap.size qb b.queue) (hF : Blk w fb 87 #[.func (Fn.func 30) #[] #[]]) (ha : a.ok) (hb : b.ok) :
    Calls Tryd.prog 33 #[.agg (treC a da la qa), .agg (treC b db lb qb), .pointer (some ⟨fb, 0, none⟩)] w fun e w' => e = .returned (.bool (eqTre a b)) ∧ Below w.heap.size w w' := by
  obtain ⟨Aa, ca, e1⟩ := hda.shape
  obtain ⟨Ab, cb, e2⟩ := hdb.shape
  obtain ⟨Al, cl, e3⟩ : ∃ A c, la = .slice A a.leaves.length c := by obtain ⟨A, c, _, e, _⟩ := hla; exact ⟨A, c, e⟩
  obtain ⟨Am, cm, e4⟩ : ∃ A c, lb = .slice A b.leaves.length c := by obtain ⟨A, c, _, e, _⟩ := hlb; exact ⟨A, c, e⟩
  obtain ⟨Aq, cq, e5⟩ : ∃ A c, qa = .slice A a.queue.length c := by obtain ⟨A, c, _, e, _⟩ := hqa; exact ⟨A, c, e⟩
  obtain ⟨Ar, cr, e6⟩ : ∃ A c, qb = .slice A b.queue.length c := by obtain ⟨A, c, _, e, _⟩ := hqb; exact ⟨A, c, e⟩
  subst e1; subst e2; subst e3; subst e4; subst e5; subst e6
  obtain ⟨-, -, -, -, ⟨ra, -, -⟩, ta, na1, na2, na3, -, -⟩ := ha
  obtain ⟨-, -, -, -, ⟨rb, -, -⟩, tb, nb1, nb2, nb3, -, -⟩ := hb
  have HS := Lib.hid (And.intro hda (And.intro hla (And.intro hqa (And.intro hdb (And.intro hlb hqb)))))
  have HR := Lib.hid (And.intro ra (And.intro rb (And.intro ta tb)))
  obtain ⟨r, hr⟩ : ∃ r, eqTre a b = r := ⟨_, rfl⟩
  rw [hr]
  have Hr := Lib.hid hr
  clear hda hla hqa hdb hlb hqb ra rb ta tb hr
  go_enter Tryd.func33, Tryd.ntmps33
  go_upto_region 1 with fail
  refine wp_at (fun W => Blk W w.heap.size 49 (treC a (.slice Aa a.draws.length ca) (.slice Al a.leaves.length cl) (.slice Aq a.queue.length cq)) ∧ Blk W (w.heap.size + 1) 49 (treC b (.slice Ab b.draws.length cb) (.slice Am b.leaves.length cm) (.slice Ar b.queue.length cr)) ∧ Below w.heap.size w W) ⟨(Blk.new w _ _).alloc _, Blk.new2 _ _ _ _, below_new2 _ _ _⟩ ?_
  rintro W1 ⟨hA, hB, hb1⟩
  have x0 : W1.cell? ⟨w.heap.size, 0, none⟩ = some (.int .i64 a.state) := by rw [hA.cell, treC_0]
  have x1 : W1.cell? ⟨w.heap.size, 1, none⟩ = some (.int .i64 a.tenant) := by rw [hA.cell, treC_1]
  have x2 : W1.cell? ⟨w.heap.size, 2, none⟩ = some (.int .i64 a.weight) := by rw [hA.cell, treC_2]
  have x3 : W1.cell? ⟨w.heap.size, 3, none⟩ = some (.int .i64 a.deficit) := by rw [hA.cell, treC_3]
  have y0 : W1.cell? ⟨w.heap.size + 1, 0, none⟩ = some (.int .i64 b.state) := by rw [hB.cell, treC_0]
  have y1 : W1.cell? ⟨w.heap.size + 1, 1, none⟩ = some (.int .i64 b.tenant) := by rw [hB.cell, treC_1]
  have y2 : W1.cell? ⟨w.heap.size + 1, 2, none⟩ = some (.int .i64 b.weight) := by rw [hB.cell, treC_2]
  have y3 : W1.cell? ⟨w.heap.size + 1, 3, none⟩ = some (.int .i64 b.deficit) := by rw [hB.cell, treC_3]
  have x4 : W1.cell? ⟨w.heap.size, 4, none⟩ = some (.slice Aa a.draws.length ca) := by rw [hA.cell, treC_4]
  have y4 : W1.cell? ⟨w.heap.size + 1, 4, none⟩ = some (.slice Ab b.draws.length cb) := by rw [hB.cell, treC_4]
  have HA := Lib.hid (And.intro hA (And.intro hB (And.intro (hF.below hb1 hF.lt) hb1)))
  clear hA hB hb1 hF
  cases h0 : (a.state == b.state)
  case false =>
    have HE := Lib.hid (show eqTre a b = false from by unfold eqTre; simp only [h0, Bool.true_and, Bool.false_and])
    have Hb1 := Lib.hid HA.out.2.2.2
    go_wp2_with fail
    go_ret
    rw [← Hr.out, HE.out]
    exact ⟨rfl, Hb1.out⟩
  rw [← (show a.state = b.state from eq_of_beq h0)] at y0
  cases h1 : (a.tenant == b.tenant)
  case false =>
    have HE := Lib.hid (show eqTre a b = false from by unfold eqTre; simp only [h0, h1, Bool.true_and, Bool.false_and])
    have Hb1 := Lib.hid HA.out.2.2.2
    go_wp2_with fail
    go_ret
    rw [← Hr.out, HE.out]
    exact ⟨rfl, Hb1.out⟩
  rw [← (show a.tenant = b.tenant from eq_of_beq h1)] at y1
  cases h2 : (a.weight == b.weight)
  case false =>
    have HE := Lib.hid (show eqTre a b = false from by unfold eqTre; simp only [h0, h1, h2, Bool.true_and, Bool.false_and])
    have Hb1 := Lib.hid HA.out.2.2.2
    go_wp2_with fail
    go_ret
    rw [← Hr.out, HE.out]
    exact ⟨rfl, Hb1.out⟩
  rw [← (show a.weight = b.weight from eq_of_beq h2)] at y2
  cases h3 : (a.deficit == b.deficit)
  case false =>
    have HE := Lib.hid (show eqTre a b = false from by unfold eqTre; simp only [h0, h1, h2, h3, Bool.true_and, Bool.false_and])
    have Hb1 := Lib.hid HA.out.2.2.2
    go_wp2_with fail
    go_ret
    rw [← Hr.out, HE.out]
    exact ⟨rfl, Hb1.out⟩
  rw [← (show a.deficit = b.deficit from eq_of_beq h3)] at y3
  have HH := Lib.hid (And.intro h0 (And.intro h1 (And.intro h2 h3)))
  clear h0 h1 h2 h3
  cases h4 : eqHd a b
  case false =>
    have HE := Lib.hid (show eqTre a b = false from by unfold eqTre; simp only [HH.out.1, HH.out.2.1, HH.out.2.2.1, HH.out.2.2.2, h4, Bool.true_and, Bool.false_and])
    have Hh := Lib.hid (show (headEq a.head b.head && decide (a.tag = b.tag)) = false from h4)
    clear h4
    go_wp2_with (first
    | (refine wpList_loadR 42 (.tmp 33) rfl w.heap.size 7 rfl (sigC a.head a.tag) _ (tree_sig HA.out.1) Tryd.underlying42 rfl (by rw [sigC_size]; kernel_rfl) (by kernel_rfl) ?_)
    | (refine wpList_loadR 42 (.tmp 35) rfl (w.heap.size + 1) 7 rfl (sigC b.head b.tag) _ (tree_sig HA.out.2.1) Tryd.underlying42 rfl (by rw [sigC_size]; kernel_rfl) (by kernel_rfl) ?_)
    | (refine wpList_eqSG (.tmp 34) (.tmp 36) _ rfl a.head b.head a.tag b.tag rfl rfl HR.out.1 HR.out.2.1 HR.out.2.2.1 HR.out.2.2.2 _ Hh.out (by kernel_rfl) ?_; refine Hid.out ?_))
    refine Lib.hid ?_
    go_wp2_with fail
    go_ret
    rw [← Hr.out, HE.out]
    exact ⟨rfl, HA.out.2.2.2⟩
  have Hh := Lib.hid (show (headEq a.head b.head && decide (a.tag = b.tag)) = true from h4)
  have H4 := Lib.hid h4
  have m1 := eqWs_any (.slice Aa a.draws.length ca) (.slice Ab b.draws.length cb) a.draws b.draws W1 (HS.out.1.next HA.out.2.2.2) (HS.out.2.2.2.1.next HA.out.2.2.2) na1 nb1
  cases h5 : sameL eqW a.draws b.draws
  case false =>
    have HE := Lib.hid (show eqTre a b = false from by unfold eqTre; simp only [HH.out.1, HH.out.2.1, HH.out.2.2.1, HH.out.2.2.2, h4, h5, Bool.true_and, Bool.false_and])
    rw [h5] at m1
    clear h4 h5
    go_wp2_with (first
    | (refine wpList_loadR 42 (.tmp 33) rfl w.heap.size 7 rfl (sigC a.head a.tag) _ (tree_sig HA.out.1) Tryd.underlying42 rfl (by rw [sigC_size]; kernel_rfl) (by kernel_rfl) ?_)
    | (refine wpList_loadR 42 (.tmp 35) rfl (w.heap.size + 1) 7 rfl (sigC b.head b.tag) _ (tree_sig HA.out.2.1) Tryd.underlying42 rfl (by rw [sigC_size]; kernel_rfl) (by kernel_rfl) ?_)
    | (refine wpList_eqSG (.tmp 34) (.tmp 36) _ rfl a.head b.head a.tag b.tag rfl rfl HR.out.1 HR.out.2.1 HR.out.2.2.1 HR.out.2.2.2 _ Hh.out (by kernel_rfl) ?_)
    | (go_at_call 34; refine m1.mono ?_; clear m1; rintro e W2 ⟨rfl, hb2⟩; have HBf := Lib.hid (HA.out.2.2.2.trans (hb2.mono HA.out.2.2.2.size)); clear hb2; refine Hid.out ?_))
    refine Lib.hid ?_
    go_wp2_with fail
    go_ret
    rw [← Hr.out, HE.out]
    exact ⟨rfl, HBf.out⟩
  rw [h5] at m1
  have H5 := Lib.hid h5
  cases h6 : sameL eqTx a.leaves b.leaves
  case false =>
    have HE := Lib.hid (show eqTre a b = false from by unfold eqTre; simp only [HH.out.1, HH.out.2.1, HH.out.2.2.1, HH.out.2.2.2, h4, h5, h6, Bool.true_and, Bool.false_and])
    have H6 := Lib.hid h6
    clear h4 h5 h6
    go_wp2_with (first
    | (refine wpList_loadR 42 (.tmp 33) rfl w.heap.size 7 rfl (sigC a.head a.tag) _ (tree_sig HA.out.1) Tryd.underlying42 rfl (by rw [sigC_size]; kernel_rfl) (by kernel_rfl) ?_)
    | (refine wpList_loadR 42 (.tmp 35) rfl (w.heap.size + 1) 7 rfl (sigC b.head b.tag) _ (tree_sig HA.out.2.1) Tryd.underlying42 rfl (by rw [sigC_size]; kernel_rfl) (by kernel_rfl) ?_)
    | (refine wpList_eqSG (.tmp 34) (.tmp 36) _ rfl a.head b.head a.tag b.tag rfl rfl HR.out.1 HR.out.2.1 HR.out.2.2.1 HR.out.2.2.2 _ Hh.out (by kernel_rfl) ?_)
    | (go_at_call 34; refine m1.mono ?_; clear m1; rintro e W2 ⟨rfl, hb2⟩; have hlA := HA.out.1.lt; have hlB := HA.out.2.1.lt; have hA2 := HA.out.1.below hb2 hlA; have hB2 := HA.out.2.1.below hb2 hlB; have hF2 := HA.out.2.2.1.below hb2 HA.out.2.2.1.lt; have x5 : W2.cell? ⟨w.heap.size, 5, none⟩ = some (.slice Al a.leaves.length cl) := (by rw [hA2.cell, treC_5]); have y5 : W2.cell? ⟨w.heap.size + 1, 5, none⟩ = some (.slice Am b.leaves.length cm) := (by rw [hB2.cell, treC_5]); have f5 : W2.cell? ⟨fb, 0, none⟩ = some (.func (Fn.func 30) #[] #[]) := hF2.cell 0; have H2 := Lib.hid (And.intro hA2 (And.intro hB2 (And.intro hF2 (HA.out.2.2.2.trans (hb2.mono HA.out.2.2.2.size))))); have m2 := same1_any (.slice Al a.leaves.length cl) (.slice Am b.leaves.length cm) a.leaves b.leaves W2 (HS.out.2.1.next H2.out.2.2.2) (HS.out.2.2.2.2.1.next H2.out.2.2.2) na2 nb2; rw [H6.out] at m2; clear hb2 hlA hlB hA2 hB2 hF2)
    | (go_at_call 30; refine m2.mono ?_; clear m2; rintro e W3 ⟨rfl, hb3⟩; have HBf := Lib.hid (H2.out.2.2.2.trans (hb3.mono H2.out.2.2.2.size)); clear hb3; refine Hid.out ?_))
    refine Lib.hid ?_
    go_wp2_with fail
    go_ret
    rw [← Hr.out, HE.out]
    exact ⟨rfl, HBf.out⟩
  have H6 := Lib.hid h6
  cases h7 : sameL eqTx a.queue b.queue
  case false =>
    have HE := Lib.hid (show eqTre a b = false from by unfold eqTre; simp only [HH.out.1, HH.out.2.1, HH.out.2.2.1, HH.out.2.2.2, h4, h5, h6, h7, Bool.true_and, Bool.false_and])
    have H7 := Lib.hid h7
    clear h4 h5 h6 h7
    go_wp2_with (first
    | (refine wpList_loadR 42 (.tmp 33) rfl w.heap.size 7 rfl (sigC a.head a.tag) _ (tree_sig HA.out.1) Tryd.underlying42 rfl (by rw [sigC_size]; kernel_rfl) (by kernel_rfl) ?_)
    | (refine wpList_loadR 42 (.tmp 35) rfl (w.heap.size + 1) 7 rfl (sigC b.head b.tag) _ (tree_sig HA.out.2.1) Tryd.underlying42 rfl (by rw [sigC_size]; kernel_rfl) (by kernel_rfl) ?_)
    | (refine wpList_eqSG (.tmp 34) (.tmp 36) _ rfl a.head b.head a.tag b.tag rfl rfl HR.out.1 HR.out.2.1 HR.out.2.2.1 HR.out.2.2.2 _ Hh.out (by kernel_rfl) ?_)
    | (go_at_call 34; refine m1.mono ?_; clear m1; rintro e W2 ⟨rfl, hb2⟩; have hlA := HA.out.1.lt; have hlB := HA.out.2.1.lt; have hA2 := HA.out.1.below hb2 hlA; have hB2 := HA.out.2.1.below hb2 hlB; have hF2 := HA.out.2.2.1.below hb2 HA.out.2.2.1.lt; have x5 : W2.cell? ⟨w.heap.size, 5, none⟩ = some (.slice Al a.leaves.length cl) := (by rw [hA2.cell, treC_5]); have y5 : W2.cell? ⟨w.heap.size + 1, 5, none⟩ = some (.slice Am b.leaves.length cm) := (by rw [hB2.cell, treC_5]); have f5 : W2.cell? ⟨fb, 0, none⟩ = some (.func (Fn.func 30) #[] #[]) := hF2.cell 0; have H2 := Lib.hid (And.intro hA2 (And.intro hB2 (And.intro hF2 (HA.out.2.2.2.trans (hb2.mono HA.out.2.2.2.size))))); have m2 := same1_any (.slice Al a.leaves.length cl) (.slice Am b.leaves.length cm) a.leaves b.leaves W2 (HS.out.2.1.next H2.out.2.2.2) (HS.out.2.2.2.2.1.next H2.out.2.2.2) na2 nb2; rw [H6.out] at m2; clear hb2 hlA hlB hA2 hB2 hF2)
    | (go_at_call 30; refine m2.mono ?_; clear m2; rintro e W3 ⟨rfl, hb3⟩; have hA3 := H2.out.1.below hb3 H2.out.1.lt; have hB3 := H2.out.2.1.below hb3 H2.out.2.1.lt; have hF3 := H2.out.2.2.1.below hb3 H2.out.2.2.1.lt; have x6 : W3.cell? ⟨w.heap.size, 6, none⟩ = some (.slice Aq a.queue.length cq) := (by rw [hA3.cell, treC_6]); have y6 : W3.cell? ⟨w.heap.size + 1, 6, none⟩ = some (.slice Ar b.queue.length cr) := (by rw [hB3.cell, treC_6]); have f6 : W3.cell? ⟨fb, 0, none⟩ = some (.func (Fn.func 30) #[] #[]) := hF3.cell 0; have H3 := Lib.hid (H2.out.2.2.2.trans (hb3.mono H2.out.2.2.2.size)); have m3 := same1_any (.slice Aq a.queue.length cq) (.slice Ar b.queue.length cr) a.queue b.queue W3 (HS.out.2.2.1.next H3.out) (HS.out.2.2.2.2.2.next H3.out) na3 nb3; rw [H7.out] at m3; clear hb3 hA3 hB3 hF3)
    | (go_at_call 30; refine m3.mono ?_; clear m3; rintro e W4 ⟨rfl, hb4⟩; have HBf := Lib.hid (H3.out.trans (hb4.mono H3.out.size)); clear hb4))
    go_ret
    rw [← Hr.out, HE.out]
    exact ⟨rfl, HBf.out⟩
  case true =>
    have HE := Lib.hid (show eqTre a b = true from by unfold eqTre; simp only [HH.out.1, HH.out.2.1, HH.out.2.2.1, HH.out.2.2.2, h4, h5, h6, h7, Bool.true_and, Bool.false_and])
    have H7 := Lib.hid h7
    clear h4 h5 h6 h7
    go_wp2_with (first
    | (refine wpList_loadR 42 (.tmp 33) rfl w.heap.size 7 rfl (sigC a.head a.tag) _ (tree_sig HA.out.1) Tryd.underlying42 rfl (by rw [sigC_size]; kernel_rfl) (by kernel_rfl) ?_)
    | (refine wpList_loadR 42 (.tmp 35) rfl (w.heap.size + 1) 7 rfl (sigC b.head b.tag) _ (tree_sig HA.out.2.1) Tryd.underlying42 rfl (by rw [sigC_size]; kernel_rfl) (by kernel_rfl) ?_)
    | (refine wpList_eqSG (.tmp 34) (.tmp 36) _ rfl a.head b.head a.tag b.tag rfl rfl HR.out.1 HR.out.2.1 HR.out.2.2.1 HR.out.2.2.2 _ Hh.out (by kernel_rfl) ?_)
    | (go_at_call 34; refine m1.mono ?_; clear m1; rintro e W2 ⟨rfl, hb2⟩; have hlA := HA.out.1.lt; have hlB := HA.out.2.1.lt; have hA2 := HA.out.1.below hb2 hlA; have hB2 := HA.out.2.1.below hb2 hlB; have hF2 := HA.out.2.2.1.below hb2 HA.out.2.2.1.lt; have x5 : W2.cell? ⟨w.heap.size, 5, none⟩ = some (.slice Al a.leaves.length cl) := (by rw [hA2.cell, treC_5]); have y5 : W2.cell? ⟨w.heap.size + 1, 5, none⟩ = some (.slice Am b.leaves.length cm) := (by rw [hB2.cell, treC_5]); have f5 : W2.cell? ⟨fb, 0, none⟩ = some (.func (Fn.func 30) #[] #[]) := hF2.cell 0; have H2 := Lib.hid (And.intro hA2 (And.intro hB2 (And.intro hF2 (HA.out.2.2.2.trans (hb2.mono HA.out.2.2.2.size))))); have m2 := same1_any (.slice Al a.leaves.length cl) (.slice Am b.leaves.length cm) a.leaves b.leaves W2 (HS.out.2.1.next H2.out.2.2.2) (HS.out.2.2.2.2.1.next H2.out.2.2.2) na2 nb2; rw [H6.out] at m2; clear hb2 hlA hlB hA2 hB2 hF2)
    | (go_at_call 30; refine m2.mono ?_; clear m2; rintro e W3 ⟨rfl, hb3⟩; have hA3 := H2.out.1.below hb3 H2.out.1.lt; have hB3 := H2.out.2.1.below hb3 H2.out.2.1.lt; have hF3 := H2.out.2.2.1.below hb3 H2.out.2.2.1.lt; have x6 : W3.cell? ⟨w.heap.size, 6, none⟩ = some (.slice Aq a.queue.length cq) := (by rw [hA3.cell, treC_6]); have y6 : W3.cell? ⟨w.heap.size + 1, 6, none⟩ = some (.slice Ar b.queue.length cr) := (by rw [hB3.cell, treC_6]); have f6 : W3.cell? ⟨fb, 0, none⟩ = some (.func (Fn.func 30) #[] #[]) := hF3.cell 0; have H3 := Lib.hid (H2.out.2.2.2.trans (hb3.mono H2.out.2.2.2.size)); have m3 := same1_any (.slice Aq a.queue.length cq) (.slice Ar b.queue.length cr) a.queue b.queue W3 (HS.out.2.2.1.next H3.out) (HS.out.2.2.2.2.2.next H3.out) na3 nb3; rw [H7.out] at m3; clear hb3 hA3 hB3 hF3)
    | (go_at_call 30; refine m3.mono ?_; clear m3; rintro e W4 ⟨rfl, hb4⟩; have HBf := Lib.hid (H3.out.trans (hb4.mono H3.out.size)); clear hb4))
    go_ret
    rw [← Hr.out, HE.out]
    exact ⟨rfl, HBf.out⟩
end Go.Proofs.YtcdkadidkkbhpaaDoor
