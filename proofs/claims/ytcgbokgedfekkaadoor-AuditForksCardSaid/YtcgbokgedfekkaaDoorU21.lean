/- Texts that stand behind one another: AudZ, AudF, AudK. No condition. -/
import Derived.Test.YtcgbokgedfekkaaDoorU19
import Derived.Test.YtcgbokgedfekkaaDoorU20
/- The walk of audit's Size. No condition. -/
namespace Go.Proofs.YtcgbokgedfekkaaDoor
open Go Go.RowKit
attribute [local irreducible] mixW
attribute [local go_sem] n8_lo n8_hi n64_lo n64_hi n32_lo n32_hi
theorem fld_head (h : HeadL) (tag : List UInt8) (w : World) : (Instr.field 66 (.agg (sigC h tag)) 0).run Tryd.prog w = .ok (.agg (headC h)) w := by kernel_rfl
theorem fld_size (h : HeadL) (w : World) : (Instr.field 64 (.agg (headC h)) 2).run Tryd.prog w = .ok (.int .u64 (n64 h.size)) w := by kernel_rfl
set_option maxHeartbeats 1000000 in
set_option maxRecDepth 100000 in
theorem size24_any (h : HeadL) (tag : List UInt8) (B g m : Nat) (w : World) (hW : Wch w B g m (some (h, tag))) :
    Calls Tryd.prog 49 #[.pointer (some ⟨g, 0, none⟩), .int .i64 0] w fun e w' => e = .returned (.int .u64 (n64 h.size)) ∧ w = w' := by
  obtain ⟨As, cs, bd, od, cd, br, or_, cr, q1, -⟩ := hW.facts
  have c3 : w.cell? ⟨g, 3, none⟩ = some (.map (some m)) := q1.cell 3
  have hv0 : sigV (hdsV (some (h, tag)) 0) = .agg (sigC h tag) := rfl
  have hM := hW.heads
  clear q1
  have f0 := fld_head h tag
  have f2 := fld_size h
  go_enter Tryd.func49, Tryd.ntmps49
  go_wp2_with (first
    | (refine wpList_lookupH (.tmp 8) (.tmp 9) false rfl m (some (h, tag)) 0 rfl rfl hM rfl ?_; rw [if_neg (by decide), hv0]))
  go_ret
  exact ⟨rfl, rfl⟩
end Go.Proofs.YtcgbokgedfekkaaDoor

/- The walk of law24's refused. Condition: the table of strconv. -/
namespace Go.Proofs.YtcgbokgedfekkaaDoor
open Go Go.RowKit
attribute [local irreducible] mixW
theorem audAs (p : Option Addr) (w : World) : (Instr.typeAssert (.iface 181 (.pointer p)) 96 181 true).run Tryd.prog w = .ok (.tuple #[.pointer p, .bool true]) w := by
  simp [Instr.typeAssert, run_underlying Tryd.underlying181]
theorem wpList_neStrG {w : World} {ops : Array Oper} {rest : List Oper} {o : Oper} {a : Act} {Q : Exit → Act → World → Prop} (x y : Operand) (yt : TypeId) (ho : o.op = .binOp .neq 9 x y yt) (X Y : List UInt8) (hx : a.eval x = strV X) (hy : a.eval y = strV Y) (b : Bool) (hb : decide (X = Y) = b) (hw : Region.wanted o (yielded ops a.tmps) = true)
    (h : wpList Tryd.prog ops Q rest (a.put o.dst (.bool (!b))) w) : wpList Tryd.prog ops Q (o :: rest) a w :=
  wpList_unguard hw (wpList_neStr (o := { o with guard := none }) rfl x y yt ho X Y hx hy b hb h)
set_option maxRecDepth 100000 in
set_option maxHeartbeats 4000000 in
theorem audRefused_any (g tree k : Nat) (hp : tree ≤ 9223372036854775807) (hk : k ≤ 30) (hk0 : k ≠ 0) (w : World) (hz : Pz w) (hb : Blk w g 183 #[.int .i64 (tree : Int), .int .i64 (k : Int)]) :
    Calls Tryd.prog 48 #[.iface 181 (.pointer (some ⟨g, 0, none⟩)), .int .i64 (tree : Int), .int .i64 (k : Int)] w fun e w' => e = .returned (.bool true) ∧ Below w.heap.size w w' := by
  have e0 : ((k : Int) == 0) = false := by rw [beq_eq_false_iff_ne]; omega
  have c0 : w.cell? ⟨g, 0, none⟩ = some (.int .i64 (tree : Int)) := hb.cell 0
  have c1 : w.cell? ⟨g, 1, none⟩ = some (.int .i64 (k : Int)) := hb.cell 1
  have hm := audErr_any g tree k hp hk w hz hb
  have hm2 := fun w2 (hb2 : Blk w2 g 183 #[.int .i64 (tree : Int), .int .i64 (k : Int)]) => audIs_any g tree k w2 hb2
  go_enter Tryd.func48, Tryd.ntmps48
  have tA := audAs (some ⟨g, 0, none⟩) w
  go_wp2_with (first
    | (refine hm.mono ?_; rintro e w2 ⟨l, rfl, hl, hb2⟩; have hne : decide (l = []) = false := (by rw [decide_eq_false_iff_not]; intro h; rw [h] at hl; exact absurd hl (by decide)); have hm3 := hm2 w2 (hb.below hb2 hb.lt))
    | (refine wpList_neStrG (.tmp 41) (.const (.string _)) _ rfl l [] rfl rfl _ hne rfl ?_; simp only [Bool.not_false])
    | (refine hm3.mono ?_; rintro e _ ⟨rfl, rfl⟩))
  go_ret
  exact ⟨rfl, hb2⟩
end Go.Proofs.YtcgbokgedfekkaaDoor

/- The walk of law24's known. Conditions: the words of SHA-256; the table of strconv. -/
namespace Go.Proofs.YtcgbokgedfekkaaDoor
open Go Go.RowKit
attribute [local irreducible] mixW
attribute [local go_sem] n8_lo n8_hi n64_lo n64_hi n32_lo n32_hi
def headW : HeadL := ⟨0, 0, 3, 0, List.replicate 32 0⟩
def headT : HeadL := ⟨3, 0, 0, 0, List.replicate 32 0⟩
theorem headW_ok : headW.ok := ⟨by decide, by decide, by decide⟩
theorem built_HW (w : World) : (Instr.build 64 #[(2, .int .u64 3)]).run Tryd.prog w = .ok (.agg (headC headW)) w := by kernel_rfl
theorem built_HT (w : World) : (Instr.build 64 #[(0, .int .i64 3)]).run Tryd.prog w = .ok (.agg (headC headT)) w := by kernel_rfl
theorem built_ST (w : World) : (Instr.build 66 #[(0, .agg (headC headT))]).run Tryd.prog w = .ok (.agg (sigC headT (List.replicate 32 0))) w := by kernel_rfl
theorem xor1_24 (x : UInt8) : bits .xor .u8 (n8 x) 1 = n8 (x ^^^ 1) := bits_xor8 x 1
attribute [local go_sem] xor1_24
theorem xor_turned (x : UInt8) : x ≠ x ^^^ 1 := by
  intro h
  have h1 : x ^^^ (x ^^^ 1) = x ^^^ x := by rw [← h]
  rw [← UInt8.xor_assoc, UInt8.xor_self, UInt8.zero_xor] at h1
  exact absurd h1 (by decide)
theorem tag_turned (T : List UInt8) (hl : T.length = 32) : T ≠ T.set 0 (T.getD 0 0 ^^^ 1) := by
  match T, hl with
  | x :: r, _ =>
    intro e
    simp only [List.set_cons_zero, List.getD_cons_zero, List.cons.injEq, and_true] at e
    exact xor_turned x e
theorem sigC_at24 (h : HeadL) (tag : List UInt8) (ht : tag.length = 32) : (sigC h tag)[36]? = some (v8 (tag.getD 0 0)) := by
  unfold sigC
  rw [dat_eq tag ht, Array.getElem?_append_right (by rw [headC_size]; omega), headC_size]
  simp [List.getD_eq_getElem?_getD, List.getElem?_eq_getElem (show 0 < tag.length by omega)]
theorem sigC_set24 (h : HeadL) (tag : List UInt8) (ht : tag.length = 32) (b : UInt8) : (sigC h tag).setIfInBounds 36 (v8 b) = sigC h (tag.set 0 b) := by
  unfold sigC
  rw [dat_eq tag ht, dat_eq (tag.set 0 b) (by rw [List.length_set]; exact ht)]
  apply Array.toList_inj.1
  rw [Array.toList_setIfInBounds, Array.toList_append, Array.toList_append, List.set_append_right _ _ (by rw [Array.length_toList, headC_size]; omega), Array.length_toList, headC_size]
  simp [List.map_set]
theorem Wch.away {w w' : World} {B g m k : Nat} {t : TypeId} {cs : Array Value} {o : Option (HeadL × List UInt8)} (h : Wch w B g m o) (hg : w.grownBy w' (some k)) (hk : Blk w k t cs) (h1 : t ≠ 180) (h2 : t ≠ 5) (h3 : t ≠ 70) (h4 : t ≠ 51) : Wch w' B g m o := by
  obtain ⟨sv, dv, rv, q1, q2, q3, q4, q5, q6, q7⟩ := h
  refine ⟨sv, dv, rv, q1, q2.grown hg (fun e => ?_), own_typed q3 hg hk h2, own_typed q4 hg hk h3, own_typed q5 hg hk h4, q6, (hg.block m q7.lt (fun e => ?_)).trans q7⟩
  · injection e with e
    subst e
    have : some (Obj.cells _ _ _) = some (Obj.cells _ _ _) := hk.symm.trans q2
    injection this with this
    injection this with _ h3 _
    exact h1 h3
  · injection e with e
    subst e
    have : some (Obj.cells _ _ _) = some (hdsO o) := hk.symm.trans q7
    cases o <;> (unfold hdsO at this; cases this)
theorem wpList_loadQ {P : Program} {w : World} {ops : Array Oper} {rest : List Oper} {o : Oper} {a : Act} {Q : Exit → Act → World → Prop} (ty : TypeId) (x : Operand) (ho : o.op = .load ty x) (g : Nat) (hx : a.eval x = .pointer (some ⟨g, 0, none⟩)) (t : TypeId) (cs : Array Value) (d : TypeDesc)
    (hg : Blk w g t cs) (hu : P.underlying ty = some d) (hd : (match d with | .struct _ | .array _ _ => true | _ => false) = true) (hi : (P.info? ty).map (·.size) = some cs.size) (hw : Region.wanted o (yielded ops a.tmps) = true)
    (h : wpList P ops Q rest (a.put o.dst (.agg cs)) w) : wpList P ops Q (o :: rest) a w := wpList_loadW hw ty x ho g hx t cs d hg hu hd hi h
set_option maxHeartbeats 1000000 in
set_option maxRecDepth 100000 in
theorem known24_any (w : World) (hG : Glob w) (hz : Pz w) : Calls Tryd.prog 47 #[] w fun e w' => e = .returned (.bool true) ∧ Below w.heap.size w w' := by
  have hm1 := seed24_any w
  go_enter Tryd.func47, Tryd.ntmps47
  go_wp2_with (first
    | (go_at_call 44; refine hm1.mono ?_; rintro e w1 ⟨u, rfl, hu, hb1⟩))
  have hE := Blk.new w1 51 #[.int .u32 5]
  have hn1 := below_new1 w1 (Obj.cells #[.int .u32 5] 51)
  have hD := Blk.new (w1.alloc (Obj.cells #[.int .u32 5] 51)) 70 #[.slice (some ⟨w1.heap.size, 0, none⟩) 1 1]
  have hn2 := below_new1 (w1.alloc (Obj.cells #[.int .u32 5] 51)) (Obj.cells #[.slice (some ⟨w1.heap.size, 0, none⟩) 1 1] 70)
  have esz : (w1.alloc (Obj.cells #[.int .u32 5] 51)).heap.size = w1.heap.size + 1 := by simp
  rw [esz] at hD
  refine calls_at (fun W => BSl W W.heap.size u seed24 ∧ Blk W (w1.heap.size + 1) 70 #[.slice (some ⟨w1.heap.size, 0, none⟩) 1 1] ∧ Blk W w1.heap.size 51 #[.int .u32 5] ∧ Below w.heap.size w W) ⟨hu.next (hn1.trans (hn2.mono hn1.size)), hD, hE.below hn2 hE.lt, hb1.trans ((hn1.trans (hn2.mono hn1.size)).mono hb1.size)⟩ ?_
  clear hE hn1 hD hn2 esz hu hm1
  rintro W2 ⟨hu2, hD2, hE2, hb2⟩
  have hlo := hb2.size
  refine (audNew_any u (w1.heap.size + 1) w1.heap.size W2 hu2 hD2 hE2).mono ?_
  rintro e W3 ⟨g, m, rfl, hW3, hb3⟩
  have H3 := Lib.hid (And.intro hW3 (And.intro (hb2.trans (hb3.mono hlo)) hb3.size))
  have HL := Lib.hid hlo
  clear hu2 hD2 hE2 hb1 hb2 hb3 hW3 hlo
  have kH := built_HW
  have hm3 := signed24_any headW headW_ok 5 W3
  obtain ⟨T, hT⟩ : ∃ T, tag24 headW 5 = T := ⟨_, rfl⟩
  rw [hT] at hm3
  have HT := Lib.hid (And.intro hT (show T.length = 32 by rw [← hT]; exact tagL_length _ _))
  have hzv := zero_sig
  clear hT
  go_upto_region 5 with (first
    | (go_at_call 46; refine hm3.mono ?_; rintro e W4 ⟨rfl, hb4⟩; have hD4 := Blk.new W4 66 (sigC zeroHead []); have hn4 := below_new1 W4 (Obj.cells (sigC zeroHead []) 66))
    | (refine wpList_storeB rfl rfl 66 (.tmp 2) (.tmp 11) rfl W4.heap.size 0 rfl (sigC headW T) rfl _ _ hD4 (by rw [sigC_size]; kernel_rfl) (by rw [sigC_size, sigC_size]; omega) (sigC_one _ _) ?_; intro W5 hS5 hg5))
  rw [copied_all _ _ (by rw [sigC_size, sigC_size])] at hS5
  have hb5 := hb4.trans ((below_only hn4 hg5 (Nat.le_refl _) hn4.size).mono hb4.size)
  have hX5 := Blk.new W5 66 (sigC zeroHead [])
  have hn5 := below_new1 W5 (Obj.cells (sigC zeroHead []) 66)
  have H5 := Lib.hid (And.intro (H3.out.1.below hb5) (And.intro hS5 (H3.out.2.1.trans (hb5.mono H3.out.2.1.size))))
  have hls : W4.heap.size < W5.heap.size := hS5.lt
  clear hD4 hn4 hS5 hg5 hb5 hb4 hm3
  generalize W4.heap.size = sb at H5 hls ⊢
  go_upto_region 6 with (first
    | (refine wpList_loadQ 66 (.tmp 2) rfl sb rfl 66 _ _ H5.out.2.1 Tryd.underlying66 rfl (by rw [sigC_size]; kernel_rfl) rfl ?_)
    | (refine wpList_storeB rfl rfl 66 (.tmp 3) (.tmp 12) rfl W5.heap.size 0 rfl (sigC headW T) rfl _ _ hX5 (by rw [sigC_size]; kernel_rfl) (by rw [sigC_size, sigC_size]; omega) (sigC_one _ _) ?_; intro W6 hS6 hg6))
  rw [copied_all _ _ (by rw [sigC_size, sigC_size])] at hS6
  have hb6 := below_only hn5 hg6 (Nat.le_refl _) hn5.size
  have H6 := Lib.hid (And.intro (H5.out.1.below hb6) (And.intro (H5.out.2.1.below hb6 H5.out.2.1.lt) (And.intro hS6 (H5.out.2.2.trans (hb6.mono H5.out.2.2.size)))))
  have htb : w.heap.size ≤ W5.heap.size := H5.out.2.2.size
  clear hX5 hn5 hS6 hg6 hb6 H5 H3
  generalize W5.heap.size = tb at H6 hls htb ⊢
  have c36 : W6.cell? ⟨tb, 36, none⟩ = some (.int .u8 (n8 (T.getD 0 0))) := by rw [H6.out.2.2.1.cell, sigC_at24 headW T HT.out.2]; rfl
  clear hzv kH
  go_upto_region 7 with (first
    | (refine wpList_store1 rfl rfl _ (.tmp 18) (.tmp 16) rfl tb 36 rfl (v8 (T.getD 0 0 ^^^ 1)) rfl _ _ H6.out.2.2.1 (by kernel_rfl) (by rw [sigC_size]; omega) rfl rfl ?_; intro W7 hS7 hg7))
  rw [sigC_set24 headW T HT.out.2] at hS7
  have hS2 : Blk W7 sb 66 (sigC headW T) := H6.out.2.1.grown hg7 (fun e => by injection e with e; omega)
  have hbw := below_only H6.out.2.2.2 hg7 htb H6.out.2.2.2.size
  have H7 := Lib.hid (And.intro (H6.out.1.away hg7 H6.out.2.2.1 (by decide) (by decide) (by decide) (by decide)) (And.intro hS2 (And.intro hS7 hbw)))
  clear c36 hS2 hS7 hg7 hbw H6 hls htb
  have kT := built_HT
  have kS := built_ST
  have m1 := see_arg headT 3 (by decide) (by decide) rfl 0 rfl (List.replicate 32 0) (.slice none 0 0) W2.heap.size g m none W7 H7.out.1
  have hTe : tagL (keyL' seed24 0 0 5) headW = T := HT.out.1
  go_wp2_with (first
    | (go_at_call 45; refine m1.mono ?_; clear m1; rintro e W8 ⟨r1, rfl, hr1, hW8, hb8⟩; have H8 := Lib.hid (And.intro hW8 (And.intro (H7.out.2.1.below hb8 H7.out.2.1.lt) (And.intro (H7.out.2.2.1.below hb8 H7.out.2.2.1.lt) (H7.out.2.2.2.trans (hb8.mono H7.out.2.2.2.size))))); have m2 := audRefused_any r1 3 1 (by decide) (by decide) (by decide) W8 (hz.below H8.out.2.2.2) hr1; clear hr1 hW8 hb8)
    | (go_at_call 48; refine m2.mono ?_; clear m2; rintro e W9 ⟨rfl, hb9⟩; have H9 := Lib.hid (And.intro (H8.out.1.below hb9) (And.intro (H8.out.2.1.below hb9 H8.out.2.1.lt) (And.intro (H8.out.2.2.1.below hb9 H8.out.2.2.1.lt) (H8.out.2.2.2.trans (hb9.mono H8.out.2.2.2.size))))); have m3 := see_token headW headW_ok rfl rfl (T.set 0 (T.getD 0 0 ^^^ 1)) (by rw [List.length_set]; exact HT.out.2) (fun e => tag_turned T HT.out.2 (hTe.symm.trans e)) (.slice none 0 0) W2.heap.size g m none W9 (hG.next H9.out.2.2.2) H9.out.1; clear hb9)
    | (refine wpList_loadQ 66 (.tmp 3) rfl tb rfl 66 _ _ H9.out.2.2.1 Tryd.underlying66 rfl (by rw [sigC_size]; kernel_rfl) rfl ?_)
    | (go_at_call 45; refine m3.mono ?_; clear m3; rintro e W10 ⟨r2, rfl, hr2, hW10, hb10⟩; have H10 := Lib.hid (And.intro hW10 (And.intro (H9.out.2.1.below hb10 H9.out.2.1.lt) (H9.out.2.2.2.trans (hb10.mono H9.out.2.2.2.size)))); have m4 := audRefused_any r2 0 20 (by decide) (by decide) (by decide) W10 (hz.below H10.out.2.2) hr2; clear hr2 hW10 hb10)
    | (go_at_call 48; refine m4.mono ?_; clear m4; rintro e W11 ⟨rfl, hb11⟩; have H11 := Lib.hid (And.intro (H10.out.1.below hb11) (And.intro (H10.out.2.1.below hb11 H10.out.2.1.lt) (H10.out.2.2.trans (hb11.mono H10.out.2.2.size)))); have m5 := see_first headW headW_ok rfl rfl T HT.out.2 hTe (.slice none 0 0) W2.heap.size g m W11 (hG.next H11.out.2.2) (by have := H11.out.1.low; have := H11.out.1.heads.lt; omega) H11.out.1; clear hb11)
    | (refine wpList_loadQ 66 (.tmp 2) rfl sb rfl 66 _ _ H11.out.2.1 Tryd.underlying66 rfl (by rw [sigC_size]; kernel_rfl) rfl ?_)
    | (go_at_call 45; refine m5.mono ?_; clear m5; rintro e W12 ⟨rfl, hW12, hb12⟩; have hbw := H11.out.2.2.trans (hb12.mono HL.out); have m6 := size24_any headW T W2.heap.size g m W12 hW12; clear hb12)
    | (go_at_call 49; refine m6.mono ?_; rintro e _ ⟨rfl, rfl⟩))
  go_ret
  exact ⟨rfl, hbw⟩
end Go.Proofs.YtcgbokgedfekkaaDoor
