/- Texts that stand behind one another: VerK. No condition. -/
import Derived.Test.YteonmcconpfkjaaDoorP13
import Derived.Test.YteonmcconpfkjaaDoorP14
import Derived.Test.YteonmcconpfkjaaDoorP10
/- The walk of deponentlaw9's known. No condition. -/
namespace Go.Proofs.YteonmcconpfkjaaDoor
open Go Go.RowKit
attribute [local irreducible] mixW
attribute [local go_sem] n8_lo n8_hi n64_lo n64_hi n32_lo n32_hi
/-- a literal of bytes, converted to its own type -/
theorem wpList_convLit {w : World} {ops : Array Oper} {rest : List Oper} {o : Oper} {a : Act} {Q : Exit → Act → World → Prop} (hgd : o.guard = none) (x : Operand) (ho : o.op = .convert 22 22 x)
    (w0 : World) (n : Nat) (bs : List UInt8) (hn : bs.length = n) (hn1 : n ≤ 1000) (hx : a.eval x = .slice (some ⟨w0.heap.size, 0, none⟩) n n) (hw : w = w0.alloc (.cells (bs.map v8).toArray 5))
    (h : ∀ W, BSl W W.heap.size (.slice (some ⟨w0.heap.size, 0, none⟩) n n) bs → Below w0.heap.size w0 W → wpList Tryd.prog ops Q rest (a.put o.dst (.slice (some ⟨w0.heap.size, 0, none⟩) n n)) W) : wpList Tryd.prog ops Q (o :: rest) a w := by
  subst hw
  refine wpList_convSelf hgd _ 5 x ho Tryd.underlying22 Tryd.underlying5 w0.heap.size n n hx bs (Lit.new w0 bs 5) ?_
  intro k
  exact h _ (((Lit.new w0 bs 5).freeze ⟨w0.heap.size, k, none⟩ 1).bsl n hn (by omega)) (below_freeze (below_new1 w0 _) ⟨w0.heap.size, k, none⟩ (Nat.le_refl _) 1)
theorem leafM_cut (n : Nat) (b : List UInt8) : cutL (leafM n b) n = leafM n b := cutL_sum n (0 :: b)
theorem leafS_self (n : Nat) (b : List UInt8) : leafS n b 0 1 [] (leafM n b) = true := by
  unfold leafS
  rw [if_neg (by decide), wayS_nil, if_pos rfl]
  show decide (sumM n (0 :: b) = cutL (leafM n b) n) = true
  rw [leafM_cut]; exact decide_eq_true rfl
theorem leafS_more (n : Nat) (b d r : List UInt8) : leafS n b 0 1 [d] r = false := by
  unfold leafS
  rw [if_neg (by decide), wayS_end, if_neg (by simp)]
theorem prefS_self (n : Nat) (r : List UInt8) : prefS n 1 1 r r [] = true := by
  unfold prefS
  rw [if_neg (by decide), if_pos rfl]; simp
theorem prefS_none (n s : Nat) (o r : List UInt8) (p : List (List UInt8)) : prefS n 0 s o r p = false := if_pos (.inl rfl)
theorem kw32b : cutW 32 = 32 := by decide
set_option maxHeartbeats 1000000 in
set_option maxRecDepth 100000 in
theorem known9_any (w : World) (hG : Glob w) : Calls Tryd.prog 49 #[] w fun e w' => e = .returned (.bool true) ∧ Below w.heap.size w w' := by
  obtain ⟨La, hLa⟩ : ∃ L, leafM 32 [97] = L := ⟨_, rfl⟩
  have HL : Hid (leafM 32 [97] = La ∧ La.length = 32 ∧ leafS 32 [97] 0 1 [] La = true) := Lib.hid ⟨hLa, by rw [← hLa]; exact sumM_length _ _, by rw [← hLa]; exact leafS_self _ _⟩
  clear hLa
  go_enter Tryd.func49, Tryd.ntmps49
  go_wp2_with (first
    | (refine wpList_convLit rfl (.tmp 2) rfl w 1 [97] rfl (by decide) rfl rfl ?_; intro W1 hL1 hb1))
  refine (mleaf_any 32 _ [97] W1 hL1 (by simp) (hG.next hb1)).mono ?_
  rintro e w1 ⟨rfl, hb2⟩
  rw [kw32b, HL.out.1]
  have hbel := hb1.trans (hb2.mono hb1.size)
  clear hb1 hb2 hL1
  have hD := Blk.new w1 43 (arr 32 fun _ => 0)
  have hbn := below_new1 w1 (Obj.cells (arr 32 fun _ => 0) 43)
  go_upto_region 2 with (first
    | (refine wpList_storeDat rfl rfl 43 (.tmp 1) (.tmp 4) rfl w1.heap.size rfl _ _ rfl _ hD (by kernel_rfl) ?_; intro w2 hA2 hon2))
  refine wp_at (fun W => Blk W w1.heap.size 43 (dat La) ∧ Below w.heap.size w W) ⟨hA2, hbel.trans ((below_only hbn hon2 (Nat.le_refl _) hbn.size).mono hbel.size)⟩ ?_
  obtain ⟨g1, hg1⟩ : ∃ g, w1.heap.size = g := ⟨_, rfl⟩
  rw [hg1]
  clear hA2 hon2 hbn hD hbel hg1 w2
  rintro w2 ⟨hA, hbel⟩
  go_wp2_with (first
    | (refine wpList_convLit rfl (.tmp 5) rfl w2 1 [97] rfl (by decide) rfl rfl ?_; intro W3 hL3 hb3; replace hA := hA.below hb3 hA.lt; replace hbel := hbel.trans (hb3.mono hbel.size); clear hb3)
    | (refine wpList_loadW (by rfl) 43 (.tmp 1) rfl g1 rfl _ _ _ hA Tryd.underlying43 rfl (by kernel_rfl) ?_))
  refine (vLeaf_any 32 _ [97] 0 1 (by decide) (by decide) _ [] (fun d hd => by cases hd) (by decide) La HL.out.2.1 W3 hL3 (by simp) (DX.nil_ W3) (hG.next hbel)).mono ?_
  rintro e w4 ⟨rfl, hb⟩
  rw [kw32b, HL.out.2.2]
  replace hA := hA.below hb hA.lt
  replace hbel := hbel.trans (hb.mono hbel.size)
  clear hb hL3
  go_wp2_with (first
    | (refine wpList_unguard rfl ?_; refine wpList_convLit rfl (.tmp 10) rfl w4 1 [97] rfl (by decide) rfl rfl ?_; intro W5 hL5 hb5; replace hA := hA.below hb5 hA.lt; replace hbel := hbel.trans (hb5.mono hbel.size); clear hb5)
    | (refine wpList_loadW (by rfl) 43 (.tmp 1) rfl g1 rfl _ _ _ hA Tryd.underlying43 rfl (by kernel_rfl) ?_)
    | (refine wpList_unguard rfl ?_; refine wpList_buildD rfl (.tmp 12) rfl La rfl ?_; have hX := DX.of_own (own_oneD W5 0 (Nat.zero_le _) La); have hb6 := below_new1 W5 (Obj.cells (dat La) 43); replace hL5 := hL5.next hb6; replace hA := hA.below hb6 hA.lt; replace hbel := hbel.trans (hb6.mono hbel.size); refine wpl_at (fun W => DX W (.slice (some ⟨W5.heap.size, 0, none⟩) 1 1) [La] ∧ BSl W W.heap.size (.slice (some ⟨w4.heap.size, 0, none⟩) 1 1) [97] ∧ Blk W g1 43 (dat La) ∧ Below w.heap.size w W) ⟨hX, hL5, hA, hbel⟩ ?_; clear hX hL5 hA hbel hb6; rintro W6 ⟨hX, hL5, hA, hbel⟩))
  refine (vLeaf_any 32 _ [97] 0 1 (by decide) (by decide) _ [La] (fun d hd => by rw [List.mem_singleton.1 hd]; exact HL.out.2.1) (by simp) La HL.out.2.1 W6 hL5 (by simp) hX (hG.next hbel)).mono ?_
  rintro e w7 ⟨rfl, hb⟩
  rw [leafS_more]
  replace hA := hA.below hb hA.lt
  replace hbel := hbel.trans (hb.mono hbel.size)
  clear hb hL5 hX
  go_wp2_with (first
    | (refine wpList_loadW (by rfl) 43 (.tmp 1) rfl g1 rfl _ _ _ hA Tryd.underlying43 rfl (by kernel_rfl) ?_))
  refine (vprefix_any 32 1 1 (by decide) (by decide) La La HL.out.2.1 HL.out.2.1 _ [] (fun d hd => by cases hd) (by decide) w7 (DX.nil_ w7) (hG.next hbel)).mono ?_
  rintro e w8 ⟨rfl, hb⟩
  rw [prefS_self]
  replace hA := hA.below hb hA.lt
  replace hbel := hbel.trans (hb.mono hbel.size)
  clear hb
  go_wp2_with (first
    | (refine wpList_loadW (by rfl) 43 (.tmp 1) rfl g1 rfl _ _ _ hA Tryd.underlying43 rfl (by kernel_rfl) ?_))
  refine (vprefix_any 32 0 1 (by decide) (by decide) La La HL.out.2.1 HL.out.2.1 _ [] (fun d hd => by cases hd) (by decide) w8 (DX.nil_ w8) (hG.next hbel)).mono ?_
  rintro e w9 ⟨rfl, hb⟩
  rw [prefS_none]
  replace hbel := hbel.trans (hb.mono hbel.size)
  clear hb hA
  go_wp2_with fail
  go_ret
  exact ⟨rfl, hbel⟩
end Go.Proofs.YteonmcconpfkjaaDoor
