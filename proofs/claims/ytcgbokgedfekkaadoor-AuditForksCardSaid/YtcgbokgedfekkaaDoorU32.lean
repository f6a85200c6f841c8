/- Texts that stand behind one another: VerK, MerkQ, RefO. No condition. -/
import Derived.Test.YtcgbokgedfekkaaDoorU27
import Derived.Test.YtcgbokgedfekkaaDoorU28
import Derived.Test.YtcgbokgedfekkaaDoorU14
import Derived.Test.YtcgbokgedfekkaaDoorU24
import Derived.Test.YtcgbokgedfekkaaDoorU15
import Derived.Test.YtcgbokgedfekkaaDoorU25
import Derived.Test.YtcgbokgedfekkaaDoorU4
import Derived.Test.YtcgbokgedfekkaaDoorU29
/- The walk of deponentlaw9's known. No condition. -/
namespace Go.Proofs.YtcgbokgedfekkaaDoor
open Go Go.RowKit
attribute [local irreducible] mixW
attribute [local go_sem] n8_lo n8_hi n64_lo n64_hi n32_lo n32_hi
/-- a literal of bytes, converted to its own type -/
theorem wpList_convLit {w : World} {ops : Array Oper} {rest : List Oper} {o : Oper} {a : Act} {Q : Exit → Act → World → Prop} (hgd : o.guard = none) (x : Operand) (ho : o.op = .convert 46 46 x)
    (w0 : World) (n : Nat) (bs : List UInt8) (hn : bs.length = n) (hn1 : n ≤ 1000) (hx : a.eval x = .slice (some ⟨w0.heap.size, 0, none⟩) n n) (hw : w = w0.alloc (.cells (bs.map v8).toArray 5))
    (h : ∀ W, BSl W W.heap.size (.slice (some ⟨w0.heap.size, 0, none⟩) n n) bs → Below w0.heap.size w0 W → wpList Tryd.prog ops Q rest (a.put o.dst (.slice (some ⟨w0.heap.size, 0, none⟩) n n)) W) : wpList Tryd.prog ops Q (o :: rest) a w := by
  subst hw
  refine wpList_convSelf hgd _ 5 x ho Tryd.underlying46 Tryd.underlying5 w0.heap.size n n hx bs (Lit.new w0 bs 5) ?_
  intro k
  exact h _ (((Lit.new w0 bs 5).freeze ⟨w0.heap.size, k, none⟩ 1).bsl n hn (by omega)) (below_freeze (below_new1 w0 _) ⟨w0.heap.size, k, none⟩ (Nat.le_refl _) 1)
theorem leafM_cut (n : Nat) (b : List UInt8) : cutL (leafM n b) n = leafM n b := cutL_sum n (0 :: b)
theorem leafS_self (n : Nat) (b : List UInt8) : leafS n b 0 1 [] (leafM n b) = true := by
  unfold leafS
  rw [if_neg (by decide), wayS_nil, if_pos rfl]
  show decide (sumM n (0 :: b) = cutL (leafM n b) n) = true
  rw [leafM_cut]; exact decide_eq_true rfl
theorem leafS_more (n : Nat) (b d r : List UInt8) : leafS n b 0 1 [d] r = false := by
  unfold leafS
  rw [if_neg (by decide), wayS_end, if_neg (by simp)]
theorem prefS_self (n : Nat) (r : List UInt8) : prefS n 1 1 r r [] = true := by
  unfold prefS
  rw [if_neg (by decide), if_pos rfl]; simp
theorem prefS_none (n s : Nat) (o r : List UInt8) (p : List (List UInt8)) : prefS n 0 s o r p = false := if_pos (.inl rfl)
theorem kw32b : cutW 32 = 32 := by decide
set_option maxHeartbeats 1000000 in
set_option maxRecDepth 100000 in
theorem known9_any (w : World) (hG : Glob w) : Calls Tryd.prog 25 #[] w fun e w' => e = .returned (.bool true) ∧ Below w.heap.size w w' := by
  obtain ⟨La, hLa⟩ : ∃ L, leafM 32 [97] = L := ⟨_, rfl⟩
  have HL : Hid (leafM 32 [97] = La ∧ La.length = 32 ∧ leafS 32 [97] 0 1 [] La = true) := Lib.hid ⟨hLa, by rw [← hLa]; exact sumM_length _ _, by rw [← hLa]; exact leafS_self _ _⟩
  clear hLa
  go_enter Tryd.func25, Tryd.ntmps25
  go_wp2_with (first
    | (refine wpList_convLit rfl (.tmp 2) rfl w 1 [97] rfl (by decide) rfl rfl ?_; intro W1 hL1 hb1))
  refine (mleaf_any 32 _ [97] W1 hL1 (by simp) (hG.next hb1)).mono ?_
  rintro e w1 ⟨rfl, hb2⟩
  rw [kw32b, HL.out.1]
  have hbel := hb1.trans (hb2.mono hb1.size)
  clear hb1 hb2 hL1
  have hD := Blk.new w1 35 (arr 32 fun _ => 0)
  have hbn := below_new1 w1 (Obj.cells (arr 32 fun _ => 0) 35)
  go_upto_region 2 with (first
    | (refine wpList_storeDat rfl rfl 35 (.tmp 1) (.tmp 4) rfl w1.heap.size rfl _ _ rfl _ hD (by kernel_rfl) ?_; intro w2 hA2 hon2))
  refine wp_at (fun W => Blk W w1.heap.size 35 (dat La) ∧ Below w.heap.size w W) ⟨hA2, hbel.trans ((below_only hbn hon2 (Nat.le_refl _) hbn.size).mono hbel.size)⟩ ?_
  obtain ⟨g1, hg1⟩ : ∃ g, w1.heap.size = g := ⟨_, rfl⟩
  rw [hg1]
  clear hA2 hon2 hbn hD hbel hg1 w2
  rintro w2 ⟨hA, hbel⟩
  go_wp2_with (first
    | (refine wpList_convLit rfl (.tmp 5) rfl w2 1 [97] rfl (by decide) rfl rfl ?_; intro W3 hL3 hb3; replace hA := hA.below hb3 hA.lt; replace hbel := hbel.trans (hb3.mono hbel.size); clear hb3)
    | (refine wpList_loadW (by rfl) 35 (.tmp 1) rfl g1 rfl _ _ _ hA Tryd.underlying35 rfl (by kernel_rfl) ?_))
  refine (vLeaf_any 32 _ [97] 0 1 (by decide) (by decide) _ [] (fun d hd => by cases hd) (by decide) La HL.out.2.1 W3 hL3 (by simp) (DX.nil_ W3) (hG.next hbel)).mono ?_
  rintro e w4 ⟨rfl, hb⟩
  rw [kw32b, HL.out.2.2]
  replace hA := hA.below hb hA.lt
  replace hbel := hbel.trans (hb.mono hbel.size)
  clear hb hL3
  go_wp2_with (first
    | (refine wpList_unguard rfl ?_; refine wpList_convLit rfl (.tmp 10) rfl w4 1 [97] rfl (by decide) rfl rfl ?_; intro W5 hL5 hb5; replace hA := hA.below hb5 hA.lt; replace hbel := hbel.trans (hb5.mono hbel.size); clear hb5)
    | (refine wpList_loadW (by rfl) 35 (.tmp 1) rfl g1 rfl _ _ _ hA Tryd.underlying35 rfl (by kernel_rfl) ?_)
    | (refine wpList_unguard rfl ?_; refine wpList_buildD rfl (.tmp 12) rfl La rfl ?_; have hX := DX.of_own (own_oneD W5 0 (Nat.zero_le _) La); have hb6 := below_new1 W5 (Obj.cells (dat La) 35); replace hL5 := hL5.next hb6; replace hA := hA.below hb6 hA.lt; replace hbel := hbel.trans (hb6.mono hbel.size); refine wpl_at (fun W => DX W (.slice (some ⟨W5.heap.size, 0, none⟩) 1 1) [La] ∧ BSl W W.heap.size (.slice (some ⟨w4.heap.size, 0, none⟩) 1 1) [97] ∧ Blk W g1 35 (dat La) ∧ Below w.heap.size w W) ⟨hX, hL5, hA, hbel⟩ ?_; clear hX hL5 hA hbel hb6; rintro W6 ⟨hX, hL5, hA, hbel⟩))
  refine (vLeaf_any 32 _ [97] 0 1 (by decide) (by decide) _ [La] (fun d hd => by rw [List.mem_singleton.1 hd]; exact HL.out.2.1) (by simp) La HL.out.2.1 W6 hL5 (by simp) hX (hG.next hbel)).mono ?_
  rintro e w7 ⟨rfl, hb⟩
  rw [leafS_more]
  replace hA := hA.below hb hA.lt
  replace hbel := hbel.trans (hb.mono hbel.size)
  clear hb hL5 hX
  go_wp2_with (first
    | (refine wpList_loadW (by rfl) 35 (.tmp 1) rfl g1 rfl _ _ _ hA Tryd.underlying35 rfl (by kernel_rfl) ?_))
  refine (vprefix_any 32 1 1 (by decide) (by decide) La La HL.out.2.1 HL.out.2.1 _ [] (fun d hd => by cases hd) (by decide) w7 (DX.nil_ w7) (hG.next hbel)).mono ?_
  rintro e w8 ⟨rfl, hb⟩
  rw [prefS_self]
  replace hA := hA.below hb hA.lt
  replace hbel := hbel.trans (hb.mono hbel.size)
  clear hb
  go_wp2_with (first
    | (refine wpList_loadW (by rfl) 35 (.tmp 1) rfl g1 rfl _ _ _ hA Tryd.underlying35 rfl (by kernel_rfl) ?_))
  refine (vprefix_any 32 0 1 (by decide) (by decide) La La HL.out.2.1 HL.out.2.1 _ [] (fun d hd => by cases hd) (by decide) w8 (DX.nil_ w8) (hG.next hbel)).mono ?_
  rintro e w9 ⟨rfl, hb⟩
  rw [prefS_none]
  replace hbel := hbel.trans (hb.mono hbel.size)
  clear hb hA
  go_wp2_with fail
  go_ret
  exact ⟨rfl, hbel⟩
end Go.Proofs.YtcgbokgedfekkaaDoor

/- The walks of merkle's Prove and its inner function. No condition. -/
namespace Go.Proofs.YtcgbokgedfekkaaDoor
open Go Go.RowKit
attribute [local irreducible] mixW
attribute [local go_sem] n8_lo n8_hi n64_lo n64_hi n32_lo n32_hi
set_option maxHeartbeats 1000000 in
set_option maxRecDepth 100000 in
theorem path1_any (x : Int) (wb fb : Nat) (ft : TypeId) : ∀ (N : Nat) (ls : List (List UInt8)) (i : Nat), ls.length ≤ N → 1 ≤ ls.length → ls.length ≤ 4611686018427387904 → i ≤ 4611686018427387904 → (∀ b ∈ ls, b.length ≤ 140737488355200) → ∀ (v : Value) (w : World), SSl w w.heap.size v ls → Glob w →
    Blk w wb 3 #[.int .i64 x] → Blk w fb ft #[.func (.func 50) #[] #[.pointer (some ⟨fb, 0, none⟩), .pointer (some ⟨wb, 0, none⟩)]] →
    Calls Tryd.prog 50 #[v, .int .i64 i, .pointer (some ⟨fb, 0, none⟩), .pointer (some ⟨wb, 0, none⟩)] w fun e w' => ∃ u, e = .returned u ∧ w'.ownsRow w.heap.size 35 32 u (pathM (cutW x) ls i).length (dcells (pathM (cutW x) ls i)) ∧ Below w.heap.size w w' := by
  intro N
  induction N with
  | zero => intro ls i h1 h2; omega
  | succ N ih =>
    intro ls i hN h1 h62 hi62 hall v w hv hG hW hF
    have IH := Lib.hid ih
    have Hall := Lib.hid hall
    clear ih hall
    obtain ⟨A, cap, vs, rfl, h2, h3, h4, h5, h6⟩ := hv
    have hv : SSl w w.heap.size (.slice A ls.length cap) ls := ⟨A, cap, vs, rfl, h2, h3, h4, h5, h6⟩
    clear h4 h5 h6 vs
    go_enter Tryd.func50, Tryd.ntmps50
    by_cases hone : ls.length = 1
    · have e1 : ((ls.length : Int) == 1) = true := by rw [beq_iff_eq]; omega
      have Hp1 := Lib.hid (pathM_one (cutW x) ls i (by omega))
      clear hone
      go_wp2_with fail
      go_ret
      rw [Hp1.out]
      exact ⟨_, rfl, World.ownsRow_nil _ _ _ _, Below.refl _ _⟩
    have e1 : ((ls.length : Int) == 1) = false := by rw [beq_eq_false_iff_ne]; omega
    go_wp2_with fail
    have h2l : 2 ≤ ls.length := by omega
    refine (half_any ls.length h2l h62 w).mono ?_
    rintro e _ ⟨rfl, rfl⟩
    have Hp := Lib.hid (half_parts ls h2l)
    have Hn := Lib.hid (pathM_node (cutW x) ls i h2l)
    clear e1 hone h2l
    obtain ⟨k, hk⟩ : ∃ k, halfN ls.length = k := ⟨_, rfl⟩
    rw [hk] at Hp Hn ⊢
    clear hk
    have hkl : (k : Int) ≤ (ls.length : Int) := by have := Hp.out; omega
    have hk0 : (0 : Int) ≤ (k : Int) := by omega
    have hkc : (k : Int) ≤ (cap : Int) := by omega
    have hbel := Below.refl w.heap.size w
    by_cases hik : i < k
    · have hik' : (i : Int) < (k : Int) := by omega
      go_wp2_with fail
      refine wp_region_mixP (.plain 0 <| .plain 1 <| .plain 2 <| .plain 3 <| .plain 4 <| .plain 6 <| .plain 7 <| .plain 8 <| .plain 9 <| .only 5 <| .only 10 <| .only 11 <| .only 12 <| .plain 13 <| .done) (by kernel_rfl) (by kernel_rfl) (fun W1 hb1 => ?_)
      replace hbel := hbel.trans (hb1.mono hbel.size)
      clear hb1
      have cW : W1.cell? ⟨wb, 0, none⟩ = some (.int .i64 x) := by
        have := (hW.below hbel hW.lt).cell 0
        simpa using this
      have cF : W1.cell? ⟨fb, 0, none⟩ = some (.func (.func 50) #[] #[.pointer (some ⟨fb, 0, none⟩), .pointer (some ⟨wb, 0, none⟩)]) := by
        have := (hF.below hbel hF.lt).cell 0
        simpa using this
      have hwl : wb < W1.heap.size := (hW.below hbel hW.lt).lt
      have hfl : fb < W1.heap.size := (hF.below hbel hF.lt).lt
      have hW1 := hW.below hbel hW.lt
      have hF1 := hF.below hbel hF.lt
      have hv1 := hv.next hbel
      have hT := hv1.take k (by omega)
      have hR := hv1.drop k (by omega)
      clear hv hv1 hW hF
      iterate 9 (refine mix_plain rfl ?_; (first
        | (refine wpQuiet_load1 rfl _ (.tmp 3) rfl _ rfl _ Tryd.underlying3 rfl _ (fun _ ⟨e, he⟩ => by rw [he, plus_cell _ _ _ hwl]; exact cW) ?_; simp only [Act.put, List.setIfInBounds_toArray, List.set_cons_zero, List.set_cons_succ])
        | (refine wpQuiet_load1 rfl _ (.tmp 2) rfl _ rfl _ Tryd.underlying103 rfl _ (fun _ ⟨e, he⟩ => by rw [he, plus_cell _ _ _ hfl]; exact cF) ?_; simp only [Act.put, List.setIfInBounds_toArray, List.set_cons_zero, List.set_cons_succ])
        | (refine wpQuiet_cutL rfl _ (.tmp 24) (.tmp 25) rfl 46 Tryd.underlying22 (by kernel_rfl) A ls.length cap k rfl rfl (by omega) ?_; simp only [Act.put, List.setIfInBounds_toArray, List.set_cons_zero, List.set_cons_succ])
        | go_big_quiet_step (fail)); refine wpQuiet_nil ?_)
      clear cW cF hwl hfl
      obtain ⟨B0, hB0⟩ : ∃ B0, B0 = W1.heap.size := ⟨_, rfl⟩
      have HB0 := Lib.hid hB0
      have hb : Below B0 W1 W1 := by rw [hB0]; exact Below.refl _ _
      clear hB0
      refine mix_only_in rfl (fun K hK => ?_)
      go_wp2_with fail
      refine (IH.out (ls.take k) i (by have := Hp.out; omega) (by have := Hp.out; omega) (by have := Hp.out; omega) (by have := Hp.out; omega) (fun b hb => Hall.out b (List.mem_of_mem_take hb)) _ W1 hT (hG.next hbel) hW1 hF1).mono ?_
      rintro e W2 ⟨u2, rfl, hown, hb1⟩
      rw [← HB0.out] at hown hb1
      replace hb := hb1
      go_wp2_with fail
      refine hK _ _ (below_plusN HB0 hb) ?_
      clear hK K hb1
      have hR := hR.next (show Below W1.heap.size W1 W2 by rw [← HB0.out]; exact hb)
      refine mix_only_in rfl (fun K hK => ?_)
      go_wp2_with fail
      refine (mroot_any x _ (ls.drop k) W2 hR (by have := Hp.out; omega) (fun b hb => Hall.out b (List.mem_of_mem_drop hb)) (hG.next (hbel.trans ((show Below W1.heap.size W1 W2 by rw [← HB0.out]; exact hb).mono hbel.size)))).mono ?_
      rintro e W3 ⟨rfl, hb1⟩
      replace hown := own_below hown hb1
      replace hb := hb.trans (hb1.mono (below_sizeN HB0 hb))
      go_wp2_with fail
      refine hK _ _ (below_plusN HB0 hb) ?_
      clear hK K hb1 hR
      obtain ⟨d, hd⟩ : ∃ d, rootM (cutW x) (ls.drop k) = d := ⟨_, rfl⟩
      have Hd := Lib.hid hd
      rw [hd]
      clear hd
      refine mix_only_in rfl (fun K hK => ?_)
      refine wpList_buildD rfl (.tmp 27) rfl d rfl ?_
      simp only [Act.put, List.setIfInBounds_toArray, List.set_cons_zero, List.set_cons_succ]
      have hX := Blk.new W3 35 (dat d)
      have hn1 := below_new1 W3 (Obj.cells (dat d) 35)
      replace hown := own_below hown hn1
      replace hb := hb.trans (hn1.mono (below_sizeN HB0 hb))
      refine hK _ _ (below_plusN HB0 hb) ?_
      clear hK K hn1
      refine mix_atC (fun V => Below B0 W1 V ∧ Blk V W3.heap.size 35 (dat d) ∧ V.ownsRow B0 35 32 u2 (pathM (cutW x) (ls.take k) i).length (dcells (pathM (cutW x) (ls.take k) i))) ⟨hb, hX, hown⟩ ?_
      clear hb hX hown
      rintro V ⟨hb, hX, hown⟩
      refine mix_only_in rfl (fun K hK => ?_)
      refine wpList_appendDig rfl (.tmp 22) (.tmp 28) rfl B0 u2 (pathM (cutW x) (ls.take k) i) rfl hown W3.heap.size d rfl hX (by have h62' := pathM_depth (cutW x) 62 (ls.take k) i (by have := Hp.out; omega); omega) (below_sizeN HB0 hb) ?_
      intro u5 W5 hown5 hg5
      simp only [Act.put, List.setIfInBounds_toArray, List.set_cons_zero, List.set_cons_succ]
      have hb5 := below_own hb hown hg5 (below_sizeN HB0 hb)
      refine hK _ _ (below_plusN HB0 hb5) ?_
      clear hK K hb hX hown hg5
      iterate 1 (refine mix_plain rfl ?_; go_big_quiet_step (fail); refine wpQuiet_nil ?_)
      refine mix_done ?_
      have hbf := hbel.trans ((show Below W1.heap.size W1 W5 by rw [← HB0.out]; exact hb5).mono hbel.size)
      have hownf := own_base hown5 (show w.heap.size ≤ B0 by rw [HB0.out]; exact hbel.size)
      have hpn := Hn.out
      rw [if_pos hik, Hd.out] at hpn
      rw [← hpn] at hownf
      have Hf := Lib.hid (And.intro hownf hbf)
      clear hownf hbf hpn hown5 hb5
      go_wp2_with fail
      go_ret
      exact ⟨_, rfl, Hf.out.1, Hf.out.2⟩
    · have hik' : ¬ ((i : Int) < (k : Int)) := by omega
      have hsub : (i : Int) - (k : Int) = ((i - k : Nat) : Int) := by omega
      go_wp2_with fail
      refine wp_region_mixP (.plain 0 <| .plain 1 <| .plain 2 <| .plain 3 <| .plain 4 <| .plain 5 <| .plain 6 <| .plain 8 <| .plain 9 <| .plain 10 <| .plain 11 <| .only 7 <| .only 12 <| .only 13 <| .only 14 <| .plain 15 <| .done) (by kernel_rfl) (by kernel_rfl) (fun W1 hb1 => ?_)
      replace hbel := hbel.trans (hb1.mono hbel.size)
      clear hb1
      have cW : W1.cell? ⟨wb, 0, none⟩ = some (.int .i64 x) := by
        have := (hW.below hbel hW.lt).cell 0
        simpa using this
      have cF : W1.cell? ⟨fb, 0, none⟩ = some (.func (.func 50) #[] #[.pointer (some ⟨fb, 0, none⟩), .pointer (some ⟨wb, 0, none⟩)]) := by
        have := (hF.below hbel hF.lt).cell 0
        simpa using this
      have hwl : wb < W1.heap.size := (hW.below hbel hW.lt).lt
      have hfl : fb < W1.heap.size := (hF.below hbel hF.lt).lt
      have hW1 := hW.below hbel hW.lt
      have hF1 := hF.below hbel hF.lt
      have hv1 := hv.next hbel
      have hT := hv1.take k (by omega)
      have hR := hv1.drop k (by omega)
      clear hv hv1 hW hF
      iterate 11 (refine mix_plain rfl ?_; (first
        | (refine wpQuiet_load1 rfl _ (.tmp 3) rfl _ rfl _ Tryd.underlying3 rfl _ (fun _ ⟨e, he⟩ => by rw [he, plus_cell _ _ _ hwl]; exact cW) ?_; simp only [Act.put, List.setIfInBounds_toArray, List.set_cons_zero, List.set_cons_succ])
        | (refine wpQuiet_load1 rfl _ (.tmp 2) rfl _ rfl _ Tryd.underlying103 rfl _ (fun _ ⟨e, he⟩ => by rw [he, plus_cell _ _ _ hfl]; exact cF) ?_; simp only [Act.put, List.setIfInBounds_toArray, List.set_cons_zero, List.set_cons_succ])
        | (refine wpQuiet_cutL rfl _ (.tmp 31) (.tmp 32) rfl 46 Tryd.underlying22 (by kernel_rfl) A ls.length cap k rfl rfl (by omega) ?_; simp only [Act.put, List.setIfInBounds_toArray, List.set_cons_zero, List.set_cons_succ])
        | go_big_quiet_step (fail)); refine wpQuiet_nil ?_)
      clear cW cF hwl hfl
      obtain ⟨B0, hB0⟩ : ∃ B0, B0 = W1.heap.size := ⟨_, rfl⟩
      have HB0 := Lib.hid hB0
      have hb : Below B0 W1 W1 := by rw [hB0]; exact Below.refl _ _
      clear hB0
      refine mix_only_in rfl (fun K hK => ?_)
      go_wp2_with fail
      refine (IH.out (ls.drop k) (i - k) (by have := Hp.out; omega) (by have := Hp.out; omega) (by have := Hp.out; omega) (by have := Hp.out; omega) (fun b hb => Hall.out b (List.mem_of_mem_drop hb)) _ W1 hR (hG.next hbel) hW1 hF1).mono ?_
      rintro e W2 ⟨u2, rfl, hown, hb1⟩
      rw [← HB0.out] at hown hb1
      replace hb := hb1
      go_wp2_with fail
      refine hK _ _ (below_plusN HB0 hb) ?_
      clear hK K hb1
      have hT := hT.next (show Below W1.heap.size W1 W2 by rw [← HB0.out]; exact hb)
      refine mix_only_in rfl (fun K hK => ?_)
      go_wp2_with fail
      refine (mroot_any x _ (ls.take k) W2 hT (by have := Hp.out; omega) (fun b hb => Hall.out b (List.mem_of_mem_take hb)) (hG.next (hbel.trans ((show Below W1.heap.size W1 W2 by rw [← HB0.out]; exact hb).mono hbel.size)))).mono ?_
      rintro e W3 ⟨rfl, hb1⟩
      replace hown := own_below hown hb1
      replace hb := hb.trans (hb1.mono (below_sizeN HB0 hb))
      go_wp2_with fail
      refine hK _ _ (below_plusN HB0 hb) ?_
      clear hK K hb1 hT
      obtain ⟨d, hd⟩ : ∃ d, rootM (cutW x) (ls.take k) = d := ⟨_, rfl⟩
      have Hd := Lib.hid hd
      rw [hd]
      clear hd
      refine mix_only_in rfl (fun K hK => ?_)
      refine wpList_buildD rfl (.tmp 42) rfl d rfl ?_
      simp only [Act.put, List.setIfInBounds_toArray, List.set_cons_zero, List.set_cons_succ]
      have hX := Blk.new W3 35 (dat d)
      have hn1 := below_new1 W3 (Obj.cells (dat d) 35)
      replace hown := own_below hown hn1
      replace hb := hb.trans (hn1.mono (below_sizeN HB0 hb))
      refine hK _ _ (below_plusN HB0 hb) ?_
      clear hK K hn1
      refine mix_atC (fun V => Below B0 W1 V ∧ Blk V W3.heap.size 35 (dat d) ∧ V.ownsRow B0 35 32 u2 (pathM (cutW x) (ls.drop k) (i - k)).length (dcells (pathM (cutW x) (ls.drop k) (i - k)))) ⟨hb, hX, hown⟩ ?_
      clear hb hX hown
      rintro V ⟨hb, hX, hown⟩
      refine mix_only_in rfl (fun K hK => ?_)
      refine wpList_appendDig rfl (.tmp 37) (.tmp 43) rfl B0 u2 (pathM (cutW x) (ls.drop k) (i - k)) rfl hown W3.heap.size d rfl hX (by have h62' := pathM_depth (cutW x) 62 (ls.drop k) (i - k) (by have := Hp.out; omega); omega) (below_sizeN HB0 hb) ?_
      intro u5 W5 hown5 hg5
      simp only [Act.put, List.setIfInBounds_toArray, List.set_cons_zero, List.set_cons_succ]
      have hb5 := below_own hb hown hg5 (below_sizeN HB0 hb)
      refine hK _ _ (below_plusN HB0 hb5) ?_
      clear hK K hb hX hown hg5
      iterate 1 (refine mix_plain rfl ?_; go_big_quiet_step (fail); refine wpQuiet_nil ?_)
      refine mix_done ?_
      have hbf := hbel.trans ((show Below W1.heap.size W1 W5 by rw [← HB0.out]; exact hb5).mono hbel.size)
      have hownf := own_base hown5 (show w.heap.size ≤ B0 by rw [HB0.out]; exact hbel.size)
      have hpn := Hn.out
      rw [if_neg hik, Hd.out] at hpn
      rw [← hpn] at hownf
      have Hf := Lib.hid (And.intro hownf hbf)
      clear hownf hbf hpn hown5 hb5
      go_wp2_with fail
      go_ret
      exact ⟨_, rfl, Hf.out.1, Hf.out.2⟩
set_option maxRecDepth 100000 in
theorem prove_out (x0 : Int) (v : Value) (ls : List (List UInt8)) (i : Nat) (hi64 : i ≤ 18446744073709551615) (w : World) (hv : SSl w w.heap.size v ls) (h62 : ls.length ≤ 4611686018427387904) (hi : ls.length ≤ i) :
    Calls Tryd.prog 10 #[.int .i64 x0, v, .int .u64 i] w fun e w' => e = .returned (.tuple #[.slice none 0 0, .int .i64 25]) ∧ Below w.heap.size w w' := by
  obtain ⟨A, cap, vs, rfl, h2, h3, h4, h5, h6⟩ := hv
  clear h4 h5 h6 vs
  have hle : (ls.length : Int) ≤ (i : Int) := by omega
  have hb := below_new1 w (Obj.cells #[.int .i64 x0] 3)
  go_enter Tryd.func10, Tryd.ntmps10
  go_wp2_with fail
  go_ret2
  exact ⟨rfl, hb⟩
set_option maxHeartbeats 400000 in
set_option maxRecDepth 100000 in
theorem prove_any (x : Int) (v : Value) (ls : List (List UInt8)) (i : Nat) (w : World) (hv : SSl w w.heap.size v ls) (h62 : ls.length ≤ 4611686018427387904) (hall : ∀ b ∈ ls, b.length ≤ 140737488355200) (hi : i < ls.length) (hG : Glob w) :
    Calls Tryd.prog 10 #[.int .i64 x, v, .int .u64 i] w fun e w' => ∃ u, e = .returned (.tuple #[u, .int .i64 0]) ∧ w'.ownsRow w.heap.size 35 32 u (pathM (cutW x) ls i).length (dcells (pathM (cutW x) ls i)) ∧ Below w.heap.size w w' := by
  have Hall := Lib.hid hall
  clear hall
  obtain ⟨A, cap, vs, rfl, h2, h3, h4, h5, h6⟩ := hv
  have hv : SSl w w.heap.size (.slice A ls.length cap) ls := ⟨A, cap, vs, rfl, h2, h3, h4, h5, h6⟩
  clear h4 h5 h6 vs
  have hX := (Blk.new w 3 #[.int .i64 x]).alloc (Obj.cells #[.nilFunc] 103)
  have hF := Blk.new2 w (Obj.cells #[.int .i64 x] 3) 103 #[.nilFunc]
  have hb2 := (below_new1 w (Obj.cells #[.int .i64 x] 3)).alloc (by simp) (Obj.cells #[.nilFunc] 103)
  have hlt : (i : Int) < (ls.length : Int) := by omega
  have hmf : ∀ (fn : Fn) (first cap : Array Value) (w : World), (Instr.makeFunc fn first cap).run Tryd.prog w = .ok (.func fn first cap) w := fun _ _ _ _ => rfl
  go_enter Tryd.func10, Tryd.ntmps10
  go_upto_region 5 with (first
    | (refine wpList_store1 rfl rfl _ (.tmp 8) (.tmp 14) rfl (w.heap.size + 1) 0 rfl (.func (.func 50) #[] #[.pointer (some ⟨w.heap.size + 1, 0, none⟩), .pointer (some ⟨w.heap.size, 0, none⟩)]) rfl _ _ hF (by kernel_rfl) (by simp) rfl rfl ?_; intro w4 hF4 hon4))
  have hb4 := below_only hb2 hon4 (by omega) hb2.size
  have hX4 := hX.grown hon4 (by simp)
  clear hF hX hb2 hon4 hmf
  have cF := hF4.cell 0
  have hf0 : (#[Value.nilFunc].setIfInBounds 0 (.func (.func 50) #[] #[.pointer (some ⟨w.heap.size + 1, 0, none⟩), .pointer (some ⟨w.heap.size, 0, none⟩)])) = #[Value.func (.func 50) #[] #[.pointer (some ⟨w.heap.size + 1, 0, none⟩), .pointer (some ⟨w.heap.size, 0, none⟩)]] := rfl
  rw [hf0] at hF4 cF
  have cF : w4.cell? ⟨w.heap.size + 1, 0, none⟩ = some (.func (.func 50) #[] #[.pointer (some ⟨w.heap.size + 1, 0, none⟩), .pointer (some ⟨w.heap.size, 0, none⟩)]) := by simpa using cF
  clear hf0
  go_wp2_with fail
  refine (path1_any x w.heap.size (w.heap.size + 1) 103 ls.length ls i (Nat.le_refl _) (by omega) h62 (by omega) Hall.out _ w4 (hv.next hb4) (hG.next hb4) hX4 hF4).mono ?_
  rintro e w5 ⟨u, rfl, hown, hb1⟩
  have hbel := hb4.trans (hb1.mono hb4.size)
  have hown := own_base hown hb4.size
  have Hf := Lib.hid (And.intro hown hbel)
  clear hb1 hF4 hX4 cF hb4 hown hbel
  go_wp2_with fail
  go_ret2
  exact ⟨_, rfl, Hf.out.1, Hf.out.2⟩
end Go.Proofs.YtcgbokgedfekkaaDoor

/- The walk of the reference deponentref8's part. No condition. -/
namespace Go.Proofs.YtcgbokgedfekkaaDoor
open Go Go.RowKit
attribute [local irreducible] mixW
attribute [local go_sem] n8_lo n8_hi n64_lo n64_hi n32_lo n32_hi
set_option maxHeartbeats 1000000 in
set_option maxRecDepth 100000 in
theorem r8part_any (h : Value) (n : Nat) : ∀ (N : Nat) (ls : List (List UInt8)) (i : Nat) (bb : Bool), ls.length ≤ N → 1 ≤ i → i ≤ ls.length → ls.length ≤ 4611686018427387904 → (∀ b ∈ ls, b.length ≤ 140737488351232) → ∀ (v : Value) (w : World), SSl w w.heap.size v ls → Hsr w w.heap.size h n →
    Calls Tryd.prog 58 #[h, .int .i64 i, v, .bool bb] w fun e w' => ∃ u, e = .returned u ∧ w'.ownsRow w.heap.size 35 32 u (subM n ls i bb).length (dcells (subM n ls i bb)) ∧ Below w.heap.size w w' := by
  intro N
  induction N with
  | zero => intro ls i bb h1 h2; omega
  | succ N ih =>
    intro ls i bb hN h1 hil h62 hall v w hv hh
    have IH := Lib.hid ih
    have Hall := Lib.hid hall
    clear ih hall
    have Hh := Lib.hid hh
    clear hh
    obtain ⟨A, cap, vs, rfl, h2, h3, h4, h5, h6⟩ := hv
    have hv : SSl w w.heap.size (.slice A ls.length cap) ls := ⟨A, cap, vs, rfl, h2, h3, h4, h5, h6⟩
    clear h4 h5 h6 vs
    go_enter Tryd.func58, Tryd.ntmps58
    by_cases hall' : i = ls.length
    · have Hp1 := Lib.hid (subM_all n ls i bb hall')
      subst hall'
      cases bb with
      | true =>
        go_wp2_with fail
        go_ret
        rw [Hp1.out]
        exact ⟨_, rfl, World.ownsRow_nil _ _ _ _, Below.refl _ _⟩
      | false =>
        go_wp2_with fail
        refine (r8root_any _ n ls.length ls (Nat.le_refl _) h62 (fun b hb => by have := Hall.out b hb; omega) _ w hv Hh.out).mono ?_
        rintro e W3 ⟨rfl, hb1⟩
        obtain ⟨d, hd⟩ : ∃ d, rootM n ls = d := ⟨_, rfl⟩
        have Hd := Lib.hid hd
        rw [hd]
        clear hd
        have hone := own_oneD W3 w.heap.size hb1.size d
        have hn1 := below_new1 W3 (Obj.cells (dat d) 35)
        have Hf := Lib.hid (And.intro hone (hb1.trans (hn1.mono hb1.size)))
        clear hone hn1 hb1
        go_wp2_with (first
          | (refine wpList_buildD rfl (.tmp 17) rfl d rfl ?_; refine wpl_at (fun V => V = W3.alloc (Obj.cells (dat d) 35)) rfl ?_; rintro V hV; have HV := Lib.hid hV; clear hV))
        go_ret
        rw [Hp1.out, if_neg (by decide), Hd.out, HV.out]
        exact ⟨_, rfl, Hf.out.1, Hf.out.2⟩
    have e1 : ((i : Int) == (ls.length : Int)) = false := by rw [beq_eq_false_iff_ne]; omega
    go_wp2_with fail
    have h2l : 2 ≤ ls.length := by omega
    refine (r8half_any ls.length h2l h62 w).mono ?_
    rintro e _ ⟨rfl, rfl⟩
    have Hp := Lib.hid (half_parts ls h2l)
    have Hn := Lib.hid (subM_node n ls i bb hall' h2l)
    clear e1 hall' h2l
    obtain ⟨k, hk⟩ : ∃ k, halfN ls.length = k := ⟨_, rfl⟩
    rw [hk] at Hp Hn ⊢
    clear hk
    have hkl : (k : Int) ≤ (ls.length : Int) := by have := Hp.out; omega
    have hk0 : (0 : Int) ≤ (k : Int) := by omega
    have hkc : (k : Int) ≤ (cap : Int) := by omega
    have hbel := Below.refl w.heap.size w
    by_cases hik : i ≤ k
    · have hik' : (i : Int) ≤ (k : Int) := by omega
      go_wp2_with fail
      refine wp_region_mixP (.plain 0 <| .plain 1 <| .plain 2 <| .plain 3 <| .plain 4 <| .plain 5 <| .plain 7 <| .plain 8 <| .plain 9 <| .plain 10 <| .only 6 <| .only 11 <| .only 12 <| .only 13 <| .plain 14 <| .done) (by kernel_rfl) (by kernel_rfl) (fun W1 hb1 => ?_)
      replace hbel := hbel.trans (hb1.mono hbel.size)
      clear hb1
      have hv1 := hv.next hbel
      have hT := hv1.take k (by omega)
      have hR := hv1.drop k (by omega)
      clear hv hv1
      iterate 10 (refine mix_plain rfl ?_; (first
        | (refine wpQuiet_cutL rfl _ (.tmp 33) (.tmp 34) rfl 46 Tryd.underlying22 (by kernel_rfl) A ls.length cap k rfl rfl (by omega) ?_; simp only [Act.put, List.setIfInBounds_toArray, List.set_cons_zero, List.set_cons_succ])
        | go_big_quiet_step (fail)); refine wpQuiet_nil ?_)
      obtain ⟨B0, hB0⟩ : ∃ B0, B0 = W1.heap.size := ⟨_, rfl⟩
      have HB0 := Lib.hid hB0
      have hb : Below B0 W1 W1 := by rw [hB0]; exact Below.refl _ _
      clear hB0
      refine mix_only_in rfl (fun K hK => ?_)
      go_wp2_with fail
      refine (IH.out (ls.take k) i bb (by have := Hp.out; omega) (by have := Hp.out; omega) (by have := Hp.out; omega) (by have := Hp.out; omega) (fun b hb => Hall.out b (List.mem_of_mem_take hb)) _ W1 hT (Hh.out.nxt hbel)).mono ?_
      rintro e W2 ⟨u2, rfl, hown, hb1⟩
      rw [← HB0.out] at hown hb1
      replace hb := hb1
      go_wp2_with fail
      refine hK _ _ (below_plusN HB0 hb) ?_
      clear hK K hb1
      have hR := hR.next (show Below W1.heap.size W1 W2 by rw [← HB0.out]; exact hb)
      refine mix_only_in rfl (fun K hK => ?_)
      go_wp2_with fail
      refine (r8root_any _ n (ls.drop k).length (ls.drop k) (Nat.le_refl _) (by have := Hp.out; omega) (fun b hb => by have := Hall.out b (List.mem_of_mem_drop hb); omega) _ W2 hR (Hh.out.nxt (hbel.trans ((show Below W1.heap.size W1 W2 by rw [← HB0.out]; exact hb).mono hbel.size)))).mono ?_
      rintro e W3 ⟨rfl, hb1⟩
      replace hown := own_below hown hb1
      replace hb := hb.trans (hb1.mono (below_sizeN HB0 hb))
      go_wp2_with fail
      refine hK _ _ (below_plusN HB0 hb) ?_
      clear hK K hb1 hR
      obtain ⟨d, hd⟩ : ∃ d, rootM n (ls.drop k) = d := ⟨_, rfl⟩
      have Hd := Lib.hid hd
      rw [hd]
      clear hd
      refine mix_only_in rfl (fun K hK => ?_)
      refine wpList_buildD rfl (.tmp 36) rfl d rfl ?_
      simp only [Act.put, List.setIfInBounds_toArray, List.set_cons_zero, List.set_cons_succ]
      have hX := Blk.new W3 35 (dat d)
      have hn1 := below_new1 W3 (Obj.cells (dat d) 35)
      replace hown := own_below hown hn1
      replace hb := hb.trans (hn1.mono (below_sizeN HB0 hb))
      refine hK _ _ (below_plusN HB0 hb) ?_
      clear hK K hn1
      refine mix_atC (fun V => Below B0 W1 V ∧ Blk V W3.heap.size 35 (dat d) ∧ V.ownsRow B0 35 32 u2 (subM n (ls.take k) i bb).length (dcells (subM n (ls.take k) i bb))) ⟨hb, hX, hown⟩ ?_
      clear hb hX hown
      rintro V ⟨hb, hX, hown⟩
      refine mix_only_in rfl (fun K hK => ?_)
      refine wpList_appendDig rfl (.tmp 31) (.tmp 37) rfl B0 u2 (subM n (ls.take k) i bb) rfl hown W3.heap.size d rfl hX (by have h62' := subM_depth n 62 (ls.take k) i bb (by have := Hp.out; omega) (by have := Hp.out; omega) (by have := Hp.out; omega); omega) (below_sizeN HB0 hb) ?_
      intro u5 W5 hown5 hg5
      simp only [Act.put, List.setIfInBounds_toArray, List.set_cons_zero, List.set_cons_succ]
      have hb5 := below_own hb hown hg5 (below_sizeN HB0 hb)
      refine hK _ _ (below_plusN HB0 hb5) ?_
      clear hK K hb hX hown hg5
      iterate 1 (refine mix_plain rfl ?_; go_big_quiet_step (fail); refine wpQuiet_nil ?_)
      refine mix_done ?_
      have hbf := hbel.trans ((show Below W1.heap.size W1 W5 by rw [← HB0.out]; exact hb5).mono hbel.size)
      have hownf := own_base hown5 (show w.heap.size ≤ B0 by rw [HB0.out]; exact hbel.size)
      have hpn := Hn.out
      rw [if_pos hik, Hd.out] at hpn
      rw [← hpn] at hownf
      have Hf := Lib.hid (And.intro hownf hbf)
      clear hownf hbf hpn hown5 hb5
      go_wp2_with fail
      go_ret
      exact ⟨_, rfl, Hf.out.1, Hf.out.2⟩
    · have hik' : ¬ ((i : Int) ≤ (k : Int)) := by omega
      have hsub : (i : Int) - (k : Int) = ((i - k : Nat) : Int) := by omega
      go_wp2_with fail
      refine wp_region_mixP (.plain 0 <| .plain 1 <| .plain 2 <| .plain 3 <| .plain 4 <| .plain 5 <| .plain 6 <| .plain 8 <| .plain 9 <| .plain 10 <| .plain 11 <| .only 7 <| .only 12 <| .only 13 <| .only 14 <| .plain 15 <| .done) (by kernel_rfl) (by kernel_rfl) (fun W1 hb1 => ?_)
      replace hbel := hbel.trans (hb1.mono hbel.size)
      clear hb1
      have hv1 := hv.next hbel
      have hT := hv1.take k (by omega)
      have hR := hv1.drop k (by omega)
      clear hv hv1
      iterate 11 (refine mix_plain rfl ?_; (first
        | (refine wpQuiet_cutL rfl _ (.tmp 43) (.tmp 44) rfl 46 Tryd.underlying22 (by kernel_rfl) A ls.length cap k rfl rfl (by omega) ?_; simp only [Act.put, List.setIfInBounds_toArray, List.set_cons_zero, List.set_cons_succ])
        | go_big_quiet_step (fail)); refine wpQuiet_nil ?_)
      obtain ⟨B0, hB0⟩ : ∃ B0, B0 = W1.heap.size := ⟨_, rfl⟩
      have HB0 := Lib.hid hB0
      have hb : Below B0 W1 W1 := by rw [hB0]; exact Below.refl _ _
      clear hB0
      refine mix_only_in rfl (fun K hK => ?_)
      go_wp2_with fail
      refine (IH.out (ls.drop k) (i - k) false (by have := Hp.out; omega) (by have := Hp.out; omega) (by have := Hp.out; omega) (by have := Hp.out; omega) (fun b hb => Hall.out b (List.mem_of_mem_drop hb)) _ W1 hR (Hh.out.nxt hbel)).mono ?_
      rintro e W2 ⟨u2, rfl, hown, hb1⟩
      rw [← HB0.out] at hown hb1
      replace hb := hb1
      go_wp2_with fail
      refine hK _ _ (below_plusN HB0 hb) ?_
      clear hK K hb1
      have hT := hT.next (show Below W1.heap.size W1 W2 by rw [← HB0.out]; exact hb)
      refine mix_only_in rfl (fun K hK => ?_)
      go_wp2_with fail
      refine (r8root_any _ n (ls.take k).length (ls.take k) (Nat.le_refl _) (by have := Hp.out; omega) (fun b hb => by have := Hall.out b (List.mem_of_mem_take hb); omega) _ W2 hT (Hh.out.nxt (hbel.trans ((show Below W1.heap.size W1 W2 by rw [← HB0.out]; exact hb).mono hbel.size)))).mono ?_
      rintro e W3 ⟨rfl, hb1⟩
      replace hown := own_below hown hb1
      replace hb := hb.trans (hb1.mono (below_sizeN HB0 hb))
      go_wp2_with fail
      refine hK _ _ (below_plusN HB0 hb) ?_
      clear hK K hb1 hT
      obtain ⟨d, hd⟩ : ∃ d, rootM n (ls.take k) = d := ⟨_, rfl⟩
      have Hd := Lib.hid hd
      rw [hd]
      clear hd
      refine mix_only_in rfl (fun K hK => ?_)
      refine wpList_buildD rfl (.tmp 51) rfl d rfl ?_
      simp only [Act.put, List.setIfInBounds_toArray, List.set_cons_zero, List.set_cons_succ]
      have hX := Blk.new W3 35 (dat d)
      have hn1 := below_new1 W3 (Obj.cells (dat d) 35)
      replace hown := own_below hown hn1
      replace hb := hb.trans (hn1.mono (below_sizeN HB0 hb))
      refine hK _ _ (below_plusN HB0 hb) ?_
      clear hK K hn1
      refine mix_atC (fun V => Below B0 W1 V ∧ Blk V W3.heap.size 35 (dat d) ∧ V.ownsRow B0 35 32 u2 (subM n (ls.drop k) (i - k) false).length (dcells (subM n (ls.drop k) (i - k) false))) ⟨hb, hX, hown⟩ ?_
      clear hb hX hown
      rintro V ⟨hb, hX, hown⟩
      refine mix_only_in rfl (fun K hK => ?_)
      refine wpList_appendDig rfl (.tmp 46) (.tmp 52) rfl B0 u2 (subM n (ls.drop k) (i - k) false) rfl hown W3.heap.size d rfl hX (by have h62' := subM_depth n 62 (ls.drop k) (i - k) false (by have := Hp.out; omega) (by have := Hp.out; omega) (by have := Hp.out; omega); omega) (below_sizeN HB0 hb) ?_
      intro u5 W5 hown5 hg5
      simp only [Act.put, List.setIfInBounds_toArray, List.set_cons_zero, List.set_cons_succ]
      have hb5 := below_own hb hown hg5 (below_sizeN HB0 hb)
      refine hK _ _ (below_plusN HB0 hb5) ?_
      clear hK K hb hX hown hg5
      iterate 1 (refine mix_plain rfl ?_; go_big_quiet_step (fail); refine wpQuiet_nil ?_)
      refine mix_done ?_
      have hbf := hbel.trans ((show Below W1.heap.size W1 W5 by rw [← HB0.out]; exact hb5).mono hbel.size)
      have hownf := own_base hown5 (show w.heap.size ≤ B0 by rw [HB0.out]; exact hbel.size)
      have hpn := Hn.out
      rw [if_neg hik, Hd.out] at hpn
      rw [← hpn] at hownf
      have Hf := Lib.hid (And.intro hownf hbf)
      clear hownf hbf hpn hown5 hb5
      go_wp2_with fail
      go_ret
      exact ⟨_, rfl, Hf.out.1, Hf.out.2⟩
set_option maxRecDepth 100000 in
theorem r8compare_out (h v : Value) (ls : List (List UInt8)) (i : Nat) (hi64 : i ≤ 18446744073709551615) (w : World) (hv : SSl w w.heap.size v ls) (h62 : ls.length ≤ 4611686018427387904) (hi : i = 0 ∨ ls.length < i) :
    Calls Tryd.prog 19 #[h, v, .int .u64 i] w fun e w' => e = .returned (.tuple #[.slice none 0 0, .int .i64 25]) ∧ Below w.heap.size w w' := by
  obtain ⟨A, cap, vs, rfl, h2, h3, h4, h5, h6⟩ := hv
  clear h4 h5 h6 vs
  have hb := Below.refl w.heap.size w
  by_cases h0 : i = 0
  · subst h0
    clear hi
    go_enter Tryd.func19, Tryd.ntmps19
    go_wp2_with fail
    go_ret2
    exact ⟨rfl, hb⟩
  · have e1 : ((i : Int) == 0) = false := by rw [beq_eq_false_iff_ne]; omega
    have hle : (ls.length : Int) < (i : Int) := by omega
    clear hi
    go_enter Tryd.func19, Tryd.ntmps19
    go_wp2_with fail
    go_ret2
    exact ⟨rfl, hb⟩
set_option maxRecDepth 100000 in
theorem r8compare_any (h v : Value) (n : Nat) (ls : List (List UInt8)) (i : Nat) (w : World) (hv : SSl w w.heap.size v ls) (h62 : ls.length ≤ 4611686018427387904) (hall : ∀ b ∈ ls, b.length ≤ 140737488351232) (h1i : 1 ≤ i) (hi : i ≤ ls.length) (hh : Hsr w w.heap.size h n) :
    Calls Tryd.prog 19 #[h, v, .int .u64 i] w fun e w' => ∃ u, e = .returned (.tuple #[u, .int .i64 0]) ∧ w'.ownsRow w.heap.size 35 32 u (subM n ls i true).length (dcells (subM n ls i true)) ∧ Below w.heap.size w w' := by
  have Hall := Lib.hid hall
  have Hh := Lib.hid hh
  clear hall hh
  obtain ⟨A, cap, vs, rfl, h2, h3, h4, h5, h6⟩ := hv
  have hv : SSl w w.heap.size (.slice A ls.length cap) ls := ⟨A, cap, vs, rfl, h2, h3, h4, h5, h6⟩
  clear h4 h5 h6 vs
  have hlt : ¬ ((ls.length : Int) < (i : Int)) := by omega
  have e1 : ((i : Int) == 0) = false := by rw [beq_eq_false_iff_ne]; omega
  go_enter Tryd.func19, Tryd.ntmps19
  go_wp2_with fail
  refine (r8part_any _ n ls.length ls i true (Nat.le_refl _) h1i hi h62 Hall.out _ w hv Hh.out).mono ?_
  rintro e w5 ⟨u, rfl, hown, hb1⟩
  have Hf := Lib.hid (And.intro hown hb1)
  clear hb1 hown
  go_wp2_with fail
  go_ret2
  exact ⟨_, rfl, Hf.out.1, Hf.out.2⟩
end Go.Proofs.YtcgbokgedfekkaaDoor
