/- Texts that stand behind one another: AudH, AudI. No condition. -/
import Derived.Test.YtcgbokgedfekkaaDoorU21
/- The walk of audit's follows: a head of the same size with another root; a greater one, by what verify.Prefix says. No condition. -/
namespace Go.Proofs.YtcgbokgedfekkaaDoor
open Go Go.RowKit
attribute [local irreducible] mixW
attribute [local go_sem] n8_lo n8_hi n64_lo n64_hi n32_lo n32_hi
theorem wpList_loadR {P : Program} {w : World} {ops : Array Oper} {rest : List Oper} {o : Oper} {a : Act} {Q : Exit → Act → World → Prop} (ty : TypeId) (x : Operand) (ho : o.op = .load ty x) (b off : Nat) (hx : a.eval x = .pointer (some ⟨b, off, none⟩)) (cs : Array Value) (d : TypeDesc)
    (hS : w.rangeAt b off cs.toList) (hu : P.underlying ty = some d) (hd : d.isRow = true) (hi : (P.info? ty).map (·.size) = some cs.size) (hw : Region.wanted o (yielded ops a.tmps) = true)
    (h : wpList P ops Q rest (a.put o.dst (.agg cs)) w) : wpList P ops Q (o :: rest) a w := wpList_loadMid hw ty x ho b off hx cs d hS hu hd hi h
theorem wpList_neDG {w : World} {ops : Array Oper} {rest : List Oper} {o : Oper} {a : Act} {Q : Exit → Act → World → Prop} (x y : Operand) (yt : TypeId) (ho : o.op = .binOp .neq 35 x y yt) (X Y : List UInt8) (hx : a.eval x = .agg (dat X)) (hy : a.eval y = .agg (dat Y)) (hX : X.length = 32) (hY : Y.length = 32) (b : Bool) (hb : decide (X = Y) = b) (hw : Region.wanted o (yielded ops a.tmps) = true)
    (h : wpList Tryd.prog ops Q rest (a.put o.dst (.bool (!b))) w) : wpList Tryd.prog ops Q (o :: rest) a w :=
  wpList_unguard hw (wpList_neD (o := { o with guard := none }) rfl x y yt ho X Y hx hy hX hY b hb h)
theorem root_range {W : World} {b : Nat} {t : TypeId} {h : HeadL} (hb : Blk W b t (headC h)) : W.rangeAt b 4 (dat h.root).toList := fun j v hj => by
  rw [hb.cell, headC_root, ← hj]; simp
set_option maxHeartbeats 2000000 in
set_option maxRecDepth 100000 in
theorem follows_same (g : Nat) (a b : HeadL) (hs : a.size = b.size) (ha : a.root.length = 32) (hb : b.root.length = 32) (hne : a.root ≠ b.root) (path : Value) (w : World) :
    Calls Tryd.prog 105 #[.pointer (some ⟨g, 0, none⟩), .agg (headC a), .agg (headC b), path] w fun e w' => e = .returned (.int .i64 24) ∧ Below w.heap.size w w' := by
  go_enter Tryd.func105, Tryd.ntmps105
  go_upto_region 1 with fail
  refine wp_at (fun W => Blk W w.heap.size 64 (headC a) ∧ Blk W (w.heap.size + 1) 64 (headC b) ∧ Below w.heap.size w W)
    ⟨(Blk.new w _ _).alloc _, Blk.new2 _ _ _ _, ((Below.refl _ _).alloc (Nat.le_refl _) _).alloc (by simp) _⟩ ?_
  rintro W ⟨hA, hB, hbel⟩
  have c0 : W.cell? ⟨w.heap.size, 2, none⟩ = some (.int .u64 (n64 a.size)) := by rw [hA.cell, headC_2]
  have c1 : W.cell? ⟨w.heap.size + 1, 2, none⟩ = some (.int .u64 (n64 a.size)) := by rw [hB.cell, headC_2, hs]
  have H := Lib.hid (And.intro (root_range hA) (root_range hB))
  have Hbel := Lib.hid hbel
  clear hA hB hbel hs
  go_wp2_with (first
    | (refine wpList_loadR 35 (.tmp 22) rfl w.heap.size 4 rfl (dat a.root) _ H.out.1 Tryd.underlying35 rfl (by rw [dat_size]; kernel_rfl) rfl ?_)
    | (refine wpList_loadR 35 (.tmp 24) rfl (w.heap.size + 1) 4 rfl (dat b.root) _ H.out.2 Tryd.underlying35 rfl (by rw [dat_size]; kernel_rfl) rfl ?_)
    | (refine wpList_neDG (.tmp 23) (.tmp 25) _ rfl a.root b.root rfl rfl ha hb false (decide_eq_false hne) rfl ?_; simp only [Bool.not_false]))
  go_ret
  exact ⟨rfl, Hbel.out⟩
set_option maxHeartbeats 2000000 in
set_option maxRecDepth 100000 in
theorem follows_more (B g m : Nat) (o : Option (HeadL × List UInt8)) (a b : HeadL) (h0 : n64 a.size ≠ 0) (hs : n64 a.size < n64 b.size) (q : Bool) (path : Value) (w : World) (hW : Wch w B g m o)
    (hP : ∀ W, Below w.heap.size w W → Calls Tryd.prog 23 #[.int .i64 32, .int .u64 (n64 a.size), .int .u64 (n64 b.size), .agg (dat a.root), .agg (dat b.root), path] W fun e w' => e = .returned (.bool q) ∧ Below W.heap.size W w') :
    Calls Tryd.prog 105 #[.pointer (some ⟨g, 0, none⟩), .agg (headC a), .agg (headC b), path] w fun e w' => e = .returned (.int .i64 (if q then 0 else 12)) ∧ Below w.heap.size w w' := by
  have e1 : (n64 b.size == n64 a.size) = false := by rw [beq_eq_false_iff_ne]; omega
  have e2 : (n64 a.size == 0) = false := by rw [beq_eq_false_iff_ne]; exact h0
  have e3 : decide (n64 b.size < n64 a.size) = false := decide_eq_false (by omega)
  obtain ⟨As, cs, bd, od, cd, br, or_, cr, q1, -⟩ := hW.facts
  have HQ := Lib.hid q1
  have HP := Lib.hid hP
  clear q1 hP hW h0 hs
  go_enter Tryd.func105, Tryd.ntmps105
  go_upto_region 1 with fail
  refine wp_at (fun W => Blk W w.heap.size 64 (headC a) ∧ Blk W (w.heap.size + 1) 64 (headC b) ∧ Below w.heap.size w W)
    ⟨(Blk.new w _ _).alloc _, Blk.new2 _ _ _ _, ((Below.refl _ _).alloc (Nat.le_refl _) _).alloc (by simp) _⟩ ?_
  rintro W ⟨hA, hB, hbel⟩
  have c0 : W.cell? ⟨w.heap.size, 2, none⟩ = some (.int .u64 (n64 a.size)) := by rw [hA.cell, headC_2]
  have c1 : W.cell? ⟨w.heap.size + 1, 2, none⟩ = some (.int .u64 (n64 b.size)) := by rw [hB.cell, headC_2]
  have H := Lib.hid (And.intro hA (And.intro hB hbel))
  clear hA hB hbel
  go_upto_region 7 with fail
  clear c0 c1 e1 e2 e3
  refine wp_region_mixP (.plain 0 <| .plain 1 <| .plain 2 <| .plain 3 <| .plain 4 <| .plain 5 <| .plain 6 <| .plain 7 <| .plain 8 <| .plain 9 <| .plain 10 <| .plain 11 <| .plain 12 <| .only 13 <| .plain 14 <| .plain 15 <| .done) (by kernel_rfl) (by kernel_rfl) (fun W1 hb1 => ?_)
  have hbw := H.out.2.2.trans (hb1.mono H.out.2.2.size)
  have hA1 := H.out.1.below hb1 H.out.1.lt
  have hB1 := H.out.2.1.below hb1 H.out.2.1.lt
  have hg1 := HQ.out.below hbw HQ.out.lt
  have d0 : ∀ z, (plus W1 z).cell? ⟨g, 0, none⟩ = some (.int .i64 32) := fun z => (hg1.plus z).cell 0
  have d1 : ∀ z, (plus W1 z).cell? ⟨w.heap.size, 2, none⟩ = some (.int .u64 (n64 a.size)) := fun z => by rw [(hA1.plus z).cell, headC_2]
  have d2 : ∀ z, (plus W1 z).cell? ⟨w.heap.size + 1, 2, none⟩ = some (.int .u64 (n64 b.size)) := fun z => by rw [(hB1.plus z).cell, headC_2]
  have HA := Lib.hid (show ∀ z, (plus W1 z).rangeAt w.heap.size 4 (dat a.root).toList from fun z => root_range (hA1.plus z))
  have HB := Lib.hid (show ∀ z, (plus W1 z).rangeAt (w.heap.size + 1) 4 (dat b.root).toList from fun z => root_range (hB1.plus z))
  have hm := HP.out W1 hbw
  have Hbw := Lib.hid hbw
  clear hA1 hB1 hg1 hb1 hbw
  iterate 13 (refine mix_plain rfl ?_; (first
    | (refine wpQuiet_nilCheck rfl (.tmp 40) rfl _ rfl ?_; simp only [Act.put, List.setIfInBounds_toArray, List.set_cons_zero, List.set_cons_succ])
    | (refine wpQuiet_loadMid rfl 35 (.tmp 48) rfl w.heap.size 4 rfl (dat a.root) _ (fun _ ⟨e, he⟩ => by rw [he]; exact HA.out e) Tryd.underlying35 rfl (by rw [dat_size]; kernel_rfl) ?_; simp only [Act.put, List.setIfInBounds_toArray, List.set_cons_zero, List.set_cons_succ])
    | (refine wpQuiet_loadMid rfl 35 (.tmp 50) rfl (w.heap.size + 1) 4 rfl (dat b.root) _ (fun _ ⟨e, he⟩ => by rw [he]; exact HB.out e) Tryd.underlying35 rfl (by rw [dat_size]; kernel_rfl) ?_; simp only [Act.put, List.setIfInBounds_toArray, List.set_cons_zero, List.set_cons_succ])
    | go_big_quiet_step (fail)); refine wpQuiet_nil ?_)
  clear d0 d1 d2
  refine mix_only_in rfl (fun K hK => ?_)
  go_wp2_with fail
  refine hm.mono ?_
  rintro e W2 ⟨rfl, hb2⟩
  go_wp2_with fail
  refine hK _ _ (below_plus hb2) ?_
  clear hK K
  have hfin := Hbw.out.trans (hb2.mono Hbw.out.size)
  cases q with
  | true =>
    iterate 2 (refine mix_plain rfl ?_; go_big_quiet_step (fail); refine wpQuiet_nil ?_)
    refine mix_done ?_
    go_wp2_with fail
    go_ret
    exact ⟨rfl, hfin⟩
  | false =>
    iterate 2 (refine mix_plain rfl ?_; go_big_quiet_step (fail); refine wpQuiet_nil ?_)
    refine mix_done ?_
    go_wp2_with fail
    go_ret
    exact ⟨rfl, hfin⟩
end Go.Proofs.YtcgbokgedfekkaaDoor

/- The walk of audit's follows: a head of the same size with the same root. No condition. -/
namespace Go.Proofs.YtcgbokgedfekkaaDoor
open Go Go.RowKit
attribute [local irreducible] mixW
attribute [local go_sem] n8_lo n8_hi n64_lo n64_hi n32_lo n32_hi
set_option maxHeartbeats 2000000 in
set_option maxRecDepth 100000 in
theorem follows_eq (g : Nat) (a b : HeadL) (hs : a.size = b.size) (ha : a.root.length = 32) (hb : b.root.length = 32) (hne : a.root = b.root) (path : Value) (w : World) :
    Calls Tryd.prog 105 #[.pointer (some ⟨g, 0, none⟩), .agg (headC a), .agg (headC b), path] w fun e w' => e = .returned (.int .i64 0) ∧ Below w.heap.size w w' := by
  go_enter Tryd.func105, Tryd.ntmps105
  go_upto_region 1 with fail
  refine wp_at (fun W => Blk W w.heap.size 64 (headC a) ∧ Blk W (w.heap.size + 1) 64 (headC b) ∧ Below w.heap.size w W)
    ⟨(Blk.new w _ _).alloc _, Blk.new2 _ _ _ _, ((Below.refl _ _).alloc (Nat.le_refl _) _).alloc (by simp) _⟩ ?_
  rintro W ⟨hA, hB, hbel⟩
  have c0 : W.cell? ⟨w.heap.size, 2, none⟩ = some (.int .u64 (n64 a.size)) := by rw [hA.cell, headC_2]
  have c1 : W.cell? ⟨w.heap.size + 1, 2, none⟩ = some (.int .u64 (n64 a.size)) := by rw [hB.cell, headC_2, hs]
  have H := Lib.hid (And.intro (root_range hA) (root_range hB))
  have Hbel := Lib.hid hbel
  clear hA hB hbel hs
  have Hne := Lib.hid hne
  clear hne
  go_wp2_with (first
    | (refine wpList_loadR 35 (.tmp 22) rfl w.heap.size 4 rfl (dat a.root) _ H.out.1 Tryd.underlying35 rfl (by rw [dat_size]; kernel_rfl) rfl ?_)
    | (refine wpList_loadR 35 (.tmp 24) rfl (w.heap.size + 1) 4 rfl (dat b.root) _ H.out.2 Tryd.underlying35 rfl (by rw [dat_size]; kernel_rfl) rfl ?_)
    | (refine wpList_neDG (.tmp 23) (.tmp 25) _ rfl a.root b.root rfl rfl ha hb true (decide_eq_true Hne.out) rfl ?_; simp only [Bool.not_true]))
  go_ret
  exact ⟨rfl, Hbel.out⟩
end Go.Proofs.YtcgbokgedfekkaaDoor
