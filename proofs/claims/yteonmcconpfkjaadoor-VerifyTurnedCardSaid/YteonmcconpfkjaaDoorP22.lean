/- Texts that stand behind one another: MerkQ, RefO, RefQ, List9, Hash9. No condition. -/
import Derived.Test.YteonmcconpfkjaaDoorP6
import Derived.Test.YteonmcconpfkjaaDoorP5
import Derived.Test.YteonmcconpfkjaaDoorP10
import Derived.Test.YteonmcconpfkjaaDoorP9
import Derived.Test.YteonmcconpfkjaaDoorP16
import Derived.Test.YteonmcconpfkjaaDoorP7
/- The walks of merkle's Prove and its inner function. No condition. -/
namespace Go.Proofs.YteonmcconpfkjaaDoor
open Go Go.RowKit
attribute [local irreducible] mixW
attribute [local go_sem] n8_lo n8_hi n64_lo n64_hi n32_lo n32_hi
set_option maxHeartbeats 1000000 in
set_option maxRecDepth 100000 in
theorem path1_any (x : Int) (wb fb : Nat) (ft : TypeId) : ∀ (N : Nat) (ls : List (List UInt8)) (i : Nat), ls.length ≤ N → 1 ≤ ls.length → ls.length ≤ 4611686018427387904 → i ≤ 4611686018427387904 → (∀ b ∈ ls, b.length ≤ 140737488355200) → ∀ (v : Value) (w : World), SSl w w.heap.size v ls → Glob w →
    Blk w wb 3 #[.int .i64 x] → Blk w fb ft #[.func (.func 101) #[] #[.pointer (some ⟨fb, 0, none⟩), .pointer (some ⟨wb, 0, none⟩)]] →
    Calls Tryd.prog 101 #[v, .int .i64 i, .pointer (some ⟨fb, 0, none⟩), .pointer (some ⟨wb, 0, none⟩)] w fun e w' => ∃ u, e = .returned u ∧ w'.ownsRow w.heap.size 43 32 u (pathM (cutW x) ls i).length (dcells (pathM (cutW x) ls i)) ∧ Below w.heap.size w w' := by
  intro N
  induction N with
  | zero => intro ls i h1 h2; omega
  | succ N ih =>
    intro ls i hN h1 h62 hi62 hall v w hv hG hW hF
    have IH := Lib.hid ih
    have Hall := Lib.hid hall
    clear ih hall
    obtain ⟨A, cap, vs, rfl, h2, h3, h4, h5, h6⟩ := hv
    have hv : SSl w w.heap.size (.slice A ls.length cap) ls := ⟨A, cap, vs, rfl, h2, h3, h4, h5, h6⟩
    clear h4 h5 h6 vs
    go_enter Tryd.func101, Tryd.ntmps101
    by_cases hone : ls.length = 1
    · have e1 : ((ls.length : Int) == 1) = true := by rw [beq_iff_eq]; omega
      have Hp1 := Lib.hid (pathM_one (cutW x) ls i (by omega))
      clear hone
      go_wp2_with fail
      go_ret
      rw [Hp1.out]
      exact ⟨_, rfl, World.ownsRow_nil _ _ _ _, Below.refl _ _⟩
    have e1 : ((ls.length : Int) == 1) = false := by rw [beq_eq_false_iff_ne]; omega
    go_wp2_with fail
    have h2l : 2 ≤ ls.length := by omega
    refine (half_any ls.length h2l h62 w).mono ?_
    rintro e _ ⟨rfl, rfl⟩
    have Hp := Lib.hid (half_parts ls h2l)
    have Hn := Lib.hid (pathM_node (cutW x) ls i h2l)
    clear e1 hone h2l
    obtain ⟨k, hk⟩ : ∃ k, halfN ls.length = k := ⟨_, rfl⟩
    rw [hk] at Hp Hn ⊢
    clear hk
    have hkl : (k : Int) ≤ (ls.length : Int) := by have := Hp.out; omega
    have hk0 : (0 : Int) ≤ (k : Int) := by omega
    have hkc : (k : Int) ≤ (cap : Int) := by omega
    have hbel := Below.refl w.heap.size w
    by_cases hik : i < k
    · have hik' : (i : Int) < (k : Int) := by omega
      go_wp2_with fail
      refine wp_region_mixP (.plain 0 <| .plain 1 <| .plain 2 <| .plain 3 <| .plain 4 <| .plain 6 <| .plain 7 <| .plain 8 <| .plain 9 <| .only 5 <| .only 10 <| .only 11 <| .only 12 <| .plain 13 <| .done) (by kernel_rfl) (by kernel_rfl) (fun W1 hb1 => ?_)
      replace hbel := hbel.trans (hb1.mono hbel.size)
      clear hb1
      have cW : W1.cell? ⟨wb, 0, none⟩ = some (.int .i64 x) := by
        have := (hW.below hbel hW.lt).cell 0
        simpa using this
      have cF : W1.cell? ⟨fb, 0, none⟩ = some (.func (.func 101) #[] #[.pointer (some ⟨fb, 0, none⟩), .pointer (some ⟨wb, 0, none⟩)]) := by
        have := (hF.below hbel hF.lt).cell 0
        simpa using this
      have hwl : wb < W1.heap.size := (hW.below hbel hW.lt).lt
      have hfl : fb < W1.heap.size := (hF.below hbel hF.lt).lt
      have hW1 := hW.below hbel hW.lt
      have hF1 := hF.below hbel hF.lt
      have hv1 := hv.next hbel
      have hT := hv1.take k (by omega)
      have hR := hv1.drop k (by omega)
      clear hv hv1 hW hF
      iterate 9 (refine mix_plain rfl ?_; (first
        | (refine wpQuiet_load1 rfl _ (.tmp 3) rfl _ rfl _ Tryd.underlying3 rfl _ (fun _ ⟨e, he⟩ => by rw [he, plus_cell _ _ _ hwl]; exact cW) ?_; simp only [Act.put, List.setIfInBounds_toArray, List.set_cons_zero, List.set_cons_succ])
        | (refine wpQuiet_load1 rfl _ (.tmp 2) rfl _ rfl _ Tryd.underlying172 rfl _ (fun _ ⟨e, he⟩ => by rw [he, plus_cell _ _ _ hfl]; exact cF) ?_; simp only [Act.put, List.setIfInBounds_toArray, List.set_cons_zero, List.set_cons_succ])
        | (refine wpQuiet_cutL rfl _ (.tmp 24) (.tmp 25) rfl 22 Tryd.underlying23 (by kernel_rfl) A ls.length cap k rfl rfl (by omega) ?_; simp only [Act.put, List.setIfInBounds_toArray, List.set_cons_zero, List.set_cons_succ])
        | go_big_quiet_step (fail)); refine wpQuiet_nil ?_)
      clear cW cF hwl hfl
      obtain ⟨B0, hB0⟩ : ∃ B0, B0 = W1.heap.size := ⟨_, rfl⟩
      have HB0 := Lib.hid hB0
      have hb : Below B0 W1 W1 := by rw [hB0]; exact Below.refl _ _
      clear hB0
      refine mix_only_in rfl (fun K hK => ?_)
      go_wp2_with fail
      refine (IH.out (ls.take k) i (by have := Hp.out; omega) (by have := Hp.out; omega) (by have := Hp.out; omega) (by have := Hp.out; omega) (fun b hb => Hall.out b (List.mem_of_mem_take hb)) _ W1 hT (hG.next hbel) hW1 hF1).mono ?_
      rintro e W2 ⟨u2, rfl, hown, hb1⟩
      rw [← HB0.out] at hown hb1
      replace hb := hb1
      go_wp2_with fail
      refine hK _ _ (below_plusN HB0 hb) ?_
      clear hK K hb1
      have hR := hR.next (show Below W1.heap.size W1 W2 by rw [← HB0.out]; exact hb)
      refine mix_only_in rfl (fun K hK => ?_)
      go_wp2_with fail
      refine (mroot_any x _ (ls.drop k) W2 hR (by have := Hp.out; omega) (fun b hb => Hall.out b (List.mem_of_mem_drop hb)) (hG.next (hbel.trans ((show Below W1.heap.size W1 W2 by rw [← HB0.out]; exact hb).mono hbel.size)))).mono ?_
      rintro e W3 ⟨rfl, hb1⟩
      replace hown := own_below hown hb1
      replace hb := hb.trans (hb1.mono (below_sizeN HB0 hb))
      go_wp2_with fail
      refine hK _ _ (below_plusN HB0 hb) ?_
      clear hK K hb1 hR
      obtain ⟨d, hd⟩ : ∃ d, rootM (cutW x) (ls.drop k) = d := ⟨_, rfl⟩
      have Hd := Lib.hid hd
      rw [hd]
      clear hd
      refine mix_only_in rfl (fun K hK => ?_)
      refine wpList_buildD rfl (.tmp 27) rfl d rfl ?_
      simp only [Act.put, List.setIfInBounds_toArray, List.set_cons_zero, List.set_cons_succ]
      have hX := Blk.new W3 43 (dat d)
      have hn1 := below_new1 W3 (Obj.cells (dat d) 43)
      replace hown := own_below hown hn1
      replace hb := hb.trans (hn1.mono (below_sizeN HB0 hb))
      refine hK _ _ (below_plusN HB0 hb) ?_
      clear hK K hn1
      refine mix_atC (fun V => Below B0 W1 V ∧ Blk V W3.heap.size 43 (dat d) ∧ V.ownsRow B0 43 32 u2 (pathM (cutW x) (ls.take k) i).length (dcells (pathM (cutW x) (ls.take k) i))) ⟨hb, hX, hown⟩ ?_
      clear hb hX hown
      rintro V ⟨hb, hX, hown⟩
      refine mix_only_in rfl (fun K hK => ?_)
      refine wpList_appendDig rfl (.tmp 22) (.tmp 28) rfl B0 u2 (pathM (cutW x) (ls.take k) i) rfl hown W3.heap.size d rfl hX (by have h62' := pathM_depth (cutW x) 62 (ls.take k) i (by have := Hp.out; omega); omega) (below_sizeN HB0 hb) ?_
      intro u5 W5 hown5 hg5
      simp only [Act.put, List.setIfInBounds_toArray, List.set_cons_zero, List.set_cons_succ]
      have hb5 := below_own hb hown hg5 (below_sizeN HB0 hb)
      refine hK _ _ (below_plusN HB0 hb5) ?_
      clear hK K hb hX hown hg5
      iterate 1 (refine mix_plain rfl ?_; go_big_quiet_step (fail); refine wpQuiet_nil ?_)
      refine mix_done ?_
      have hbf := hbel.trans ((show Below W1.heap.size W1 W5 by rw [← HB0.out]; exact hb5).mono hbel.size)
      have hownf := own_base hown5 (show w.heap.size ≤ B0 by rw [HB0.out]; exact hbel.size)
      have hpn := Hn.out
      rw [if_pos hik, Hd.out] at hpn
      rw [← hpn] at hownf
      have Hf := Lib.hid (And.intro hownf hbf)
      clear hownf hbf hpn hown5 hb5
      go_wp2_with fail
      go_ret
      exact ⟨_, rfl, Hf.out.1, Hf.out.2⟩
    · have hik' : ¬ ((i : Int) < (k : Int)) := by omega
      have hsub : (i : Int) - (k : Int) = ((i - k : Nat) : Int) := by omega
      go_wp2_with fail
      refine wp_region_mixP (.plain 0 <| .plain 1 <| .plain 2 <| .plain 3 <| .plain 4 <| .plain 5 <| .plain 6 <| .plain 8 <| .plain 9 <| .plain 10 <| .plain 11 <| .only 7 <| .only 12 <| .only 13 <| .only 14 <| .plain 15 <| .done) (by kernel_rfl) (by kernel_rfl) (fun W1 hb1 => ?_)
      replace hbel := hbel.trans (hb1.mono hbel.size)
      clear hb1
      have cW : W1.cell? ⟨wb, 0, none⟩ = some (.int .i64 x) := by
        have := (hW.below hbel hW.lt).cell 0
        simpa using this
      have cF : W1.cell? ⟨fb, 0, none⟩ = some (.func (.func 101) #[] #[.pointer (some ⟨fb, 0, none⟩), .pointer (some ⟨wb, 0, none⟩)]) := by
        have := (hF.below hbel hF.lt).cell 0
        simpa using this
      have hwl : wb < W1.heap.size := (hW.below hbel hW.lt).lt
      have hfl : fb < W1.heap.size := (hF.below hbel hF.lt).lt
      have hW1 := hW.below hbel hW.lt
      have hF1 := hF.below hbel hF.lt
      have hv1 := hv.next hbel
      have hT := hv1.take k (by omega)
      have hR := hv1.drop k (by omega)
      clear hv hv1 hW hF
      iterate 11 (refine mix_plain rfl ?_; (first
        | (refine wpQuiet_load1 rfl _ (.tmp 3) rfl _ rfl _ Tryd.underlying3 rfl _ (fun _ ⟨e, he⟩ => by rw [he, plus_cell _ _ _ hwl]; exact cW) ?_; simp only [Act.put, List.setIfInBounds_toArray, List.set_cons_zero, List.set_cons_succ])
        | (refine wpQuiet_load1 rfl _ (.tmp 2) rfl _ rfl _ Tryd.underlying172 rfl _ (fun _ ⟨e, he⟩ => by rw [he, plus_cell _ _ _ hfl]; exact cF) ?_; simp only [Act.put, List.setIfInBounds_toArray, List.set_cons_zero, List.set_cons_succ])
        | (refine wpQuiet_cutL rfl _ (.tmp 31) (.tmp 32) rfl 22 Tryd.underlying23 (by kernel_rfl) A ls.length cap k rfl rfl (by omega) ?_; simp only [Act.put, List.setIfInBounds_toArray, List.set_cons_zero, List.set_cons_succ])
        | go_big_quiet_step (fail)); refine wpQuiet_nil ?_)
      clear cW cF hwl hfl
      obtain ⟨B0, hB0⟩ : ∃ B0, B0 = W1.heap.size := ⟨_, rfl⟩
      have HB0 := Lib.hid hB0
      have hb : Below B0 W1 W1 := by rw [hB0]; exact Below.refl _ _
      clear hB0
      refine mix_only_in rfl (fun K hK => ?_)
      go_wp2_with fail
      refine (IH.out (ls.drop k) (i - k) (by have := Hp.out; omega) (by have := Hp.out; omega) (by have := Hp.out; omega) (by have := Hp.out; omega) (fun b hb => Hall.out b (List.mem_of_mem_drop hb)) _ W1 hR (hG.next hbel) hW1 hF1).mono ?_
      rintro e W2 ⟨u2, rfl, hown, hb1⟩
      rw [← HB0.out] at hown hb1
      replace hb := hb1
      go_wp2_with fail
      refine hK _ _ (below_plusN HB0 hb) ?_
      clear hK K hb1
      have hT := hT.next (show Below W1.heap.size W1 W2 by rw [← HB0.out]; exact hb)
      refine mix_only_in rfl (fun K hK => ?_)
      go_wp2_with fail
      refine (mroot_any x _ (ls.take k) W2 hT (by have := Hp.out; omega) (fun b hb => Hall.out b (List.mem_of_mem_take hb)) (hG.next (hbel.trans ((show Below W1.heap.size W1 W2 by rw [← HB0.out]; exact hb).mono hbel.size)))).mono ?_
      rintro e W3 ⟨rfl, hb1⟩
      replace hown := own_below hown hb1
      replace hb := hb.trans (hb1.mono (below_sizeN HB0 hb))
      go_wp2_with fail
      refine hK _ _ (below_plusN HB0 hb) ?_
      clear hK K hb1 hT
      obtain ⟨d, hd⟩ : ∃ d, rootM (cutW x) (ls.take k) = d := ⟨_, rfl⟩
      have Hd := Lib.hid hd
      rw [hd]
      clear hd
      refine mix_only_in rfl (fun K hK => ?_)
      refine wpList_buildD rfl (.tmp 42) rfl d rfl ?_
      simp only [Act.put, List.setIfInBounds_toArray, List.set_cons_zero, List.set_cons_succ]
      have hX := Blk.new W3 43 (dat d)
      have hn1 := below_new1 W3 (Obj.cells (dat d) 43)
      replace hown := own_below hown hn1
      replace hb := hb.trans (hn1.mono (below_sizeN HB0 hb))
      refine hK _ _ (below_plusN HB0 hb) ?_
      clear hK K hn1
      refine mix_atC (fun V => Below B0 W1 V ∧ Blk V W3.heap.size 43 (dat d) ∧ V.ownsRow B0 43 32 u2 (pathM (cutW x) (ls.drop k) (i - k)).length (dcells (pathM (cutW x) (ls.drop k) (i - k)))) ⟨hb, hX, hown⟩ ?_
      clear hb hX hown
      rintro V ⟨hb, hX, hown⟩
      refine mix_only_in rfl (fun K hK => ?_)
      refine wpList_appendDig rfl (.tmp 37) (.tmp 43) rfl B0 u2 (pathM (cutW x) (ls.drop k) (i - k)) rfl hown W3.heap.size d rfl hX (by have h62' := pathM_depth (cutW x) 62 (ls.drop k) (i - k) (by have := Hp.out; omega); omega) (below_sizeN HB0 hb) ?_
      intro u5 W5 hown5 hg5
      simp only [Act.put, List.setIfInBounds_toArray, List.set_cons_zero, List.set_cons_succ]
      have hb5 := below_own hb hown hg5 (below_sizeN HB0 hb)
      refine hK _ _ (below_plusN HB0 hb5) ?_
      clear hK K hb hX hown hg5
      iterate 1 (refine mix_plain rfl ?_; go_big_quiet_step (fail); refine wpQuiet_nil ?_)
      refine mix_done ?_
      have hbf := hbel.trans ((show Below W1.heap.size W1 W5 by rw [← HB0.out]; exact hb5).mono hbel.size)
      have hownf := own_base hown5 (show w.heap.size ≤ B0 by rw [HB0.out]; exact hbel.size)
      have hpn := Hn.out
      rw [if_neg hik, Hd.out] at hpn
      rw [← hpn] at hownf
      have Hf := Lib.hid (And.intro hownf hbf)
      clear hownf hbf hpn hown5 hb5
      go_wp2_with fail
      go_ret
      exact ⟨_, rfl, Hf.out.1, Hf.out.2⟩
set_option maxRecDepth 100000 in
theorem prove_out (x0 : Int) (v : Value) (ls : List (List UInt8)) (i : Nat) (hi64 : i ≤ 18446744073709551615) (w : World) (hv : SSl w w.heap.size v ls) (h62 : ls.length ≤ 4611686018427387904) (hi : ls.length ≤ i) :
    Calls Tryd.prog 34 #[.int .i64 x0, v, .int .u64 i] w fun e w' => e = .returned (.tuple #[.slice none 0 0, .int .i64 25]) ∧ Below w.heap.size w w' := by
  obtain ⟨A, cap, vs, rfl, h2, h3, h4, h5, h6⟩ := hv
  clear h4 h5 h6 vs
  have hle : (ls.length : Int) ≤ (i : Int) := by omega
  have hb := below_new1 w (Obj.cells #[.int .i64 x0] 3)
  go_enter Tryd.func34, Tryd.ntmps34
  go_wp2_with fail
  go_ret2
  exact ⟨rfl, hb⟩
set_option maxHeartbeats 400000 in
set_option maxRecDepth 100000 in
theorem prove_any (x : Int) (v : Value) (ls : List (List UInt8)) (i : Nat) (w : World) (hv : SSl w w.heap.size v ls) (h62 : ls.length ≤ 4611686018427387904) (hall : ∀ b ∈ ls, b.length ≤ 140737488355200) (hi : i < ls.length) (hG : Glob w) :
    Calls Tryd.prog 34 #[.int .i64 x, v, .int .u64 i] w fun e w' => ∃ u, e = .returned (.tuple #[u, .int .i64 0]) ∧ w'.ownsRow w.heap.size 43 32 u (pathM (cutW x) ls i).length (dcells (pathM (cutW x) ls i)) ∧ Below w.heap.size w w' := by
  have Hall := Lib.hid hall
  clear hall
  obtain ⟨A, cap, vs, rfl, h2, h3, h4, h5, h6⟩ := hv
  have hv : SSl w w.heap.size (.slice A ls.length cap) ls := ⟨A, cap, vs, rfl, h2, h3, h4, h5, h6⟩
  clear h4 h5 h6 vs
  have hX := (Blk.new w 3 #[.int .i64 x]).alloc (Obj.cells #[.nilFunc] 172)
  have hF := Blk.new2 w (Obj.cells #[.int .i64 x] 3) 172 #[.nilFunc]
  have hb2 := (below_new1 w (Obj.cells #[.int .i64 x] 3)).alloc (by simp) (Obj.cells #[.nilFunc] 172)
  have hlt : (i : Int) < (ls.length : Int) := by omega
  have hmf : ∀ (fn : Fn) (first cap : Array Value) (w : World), (Instr.makeFunc fn first cap).run Tryd.prog w = .ok (.func fn first cap) w := fun _ _ _ _ => rfl
  go_enter Tryd.func34, Tryd.ntmps34
  go_upto_region 5 with (first
    | (refine wpList_store1 rfl rfl _ (.tmp 8) (.tmp 14) rfl (w.heap.size + 1) 0 rfl (.func (.func 101) #[] #[.pointer (some ⟨w.heap.size + 1, 0, none⟩), .pointer (some ⟨w.heap.size, 0, none⟩)]) rfl _ _ hF (by kernel_rfl) (by simp) rfl rfl ?_; intro w4 hF4 hon4))
  have hb4 := below_only hb2 hon4 (by omega) hb2.size
  have hX4 := hX.grown hon4 (by simp)
  clear hF hX hb2 hon4 hmf
  have cF := hF4.cell 0
  have hf0 : (#[Value.nilFunc].setIfInBounds 0 (.func (.func 101) #[] #[.pointer (some ⟨w.heap.size + 1, 0, none⟩), .pointer (some ⟨w.heap.size, 0, none⟩)])) = #[Value.func (.func 101) #[] #[.pointer (some ⟨w.heap.size + 1, 0, none⟩), .pointer (some ⟨w.heap.size, 0, none⟩)]] := rfl
  rw [hf0] at hF4 cF
  have cF : w4.cell? ⟨w.heap.size + 1, 0, none⟩ = some (.func (.func 101) #[] #[.pointer (some ⟨w.heap.size + 1, 0, none⟩), .pointer (some ⟨w.heap.size, 0, none⟩)]) := by simpa using cF
  clear hf0
  go_wp2_with fail
  refine (path1_any x w.heap.size (w.heap.size + 1) 172 ls.length ls i (Nat.le_refl _) (by omega) h62 (by omega) Hall.out _ w4 (hv.next hb4) (hG.next hb4) hX4 hF4).mono ?_
  rintro e w5 ⟨u, rfl, hown, hb1⟩
  have hbel := hb4.trans (hb1.mono hb4.size)
  have hown := own_base hown hb4.size
  have Hf := Lib.hid (And.intro hown hbel)
  clear hb1 hF4 hX4 cF hb4 hown hbel
  go_wp2_with fail
  go_ret2
  exact ⟨_, rfl, Hf.out.1, Hf.out.2⟩
end Go.Proofs.YteonmcconpfkjaaDoor

/- The walk of the reference deponentref8's part. No condition. -/
namespace Go.Proofs.YteonmcconpfkjaaDoor
open Go Go.RowKit
attribute [local irreducible] mixW
attribute [local go_sem] n8_lo n8_hi n64_lo n64_hi n32_lo n32_hi
set_option maxHeartbeats 1000000 in
set_option maxRecDepth 100000 in
theorem r8part_any (h : Value) (n : Nat) : ∀ (N : Nat) (ls : List (List UInt8)) (i : Nat) (bb : Bool), ls.length ≤ N → 1 ≤ i → i ≤ ls.length → ls.length ≤ 4611686018427387904 → (∀ b ∈ ls, b.length ≤ 140737488351232) → ∀ (v : Value) (w : World), SSl w w.heap.size v ls → Hsr w w.heap.size h n →
    Calls Tryd.prog 110 #[h, .int .i64 i, v, .bool bb] w fun e w' => ∃ u, e = .returned u ∧ w'.ownsRow w.heap.size 43 32 u (subM n ls i bb).length (dcells (subM n ls i bb)) ∧ Below w.heap.size w w' := by
  intro N
  induction N with
  | zero => intro ls i bb h1 h2; omega
  | succ N ih =>
    intro ls i bb hN h1 hil h62 hall v w hv hh
    have IH := Lib.hid ih
    have Hall := Lib.hid hall
    clear ih hall
    have Hh := Lib.hid hh
    clear hh
    obtain ⟨A, cap, vs, rfl, h2, h3, h4, h5, h6⟩ := hv
    have hv : SSl w w.heap.size (.slice A ls.length cap) ls := ⟨A, cap, vs, rfl, h2, h3, h4, h5, h6⟩
    clear h4 h5 h6 vs
    go_enter Tryd.func110, Tryd.ntmps110
    by_cases hall' : i = ls.length
    · have Hp1 := Lib.hid (subM_all n ls i bb hall')
      subst hall'
      cases bb with
      | true =>
        go_wp2_with fail
        go_ret
        rw [Hp1.out]
        exact ⟨_, rfl, World.ownsRow_nil _ _ _ _, Below.refl _ _⟩
      | false =>
        go_wp2_with fail
        refine (r8root_any _ n ls.length ls (Nat.le_refl _) h62 (fun b hb => by have := Hall.out b hb; omega) _ w hv Hh.out).mono ?_
        rintro e W3 ⟨rfl, hb1⟩
        obtain ⟨d, hd⟩ : ∃ d, rootM n ls = d := ⟨_, rfl⟩
        have Hd := Lib.hid hd
        rw [hd]
        clear hd
        have hone := own_oneD W3 w.heap.size hb1.size d
        have hn1 := below_new1 W3 (Obj.cells (dat d) 43)
        have Hf := Lib.hid (And.intro hone (hb1.trans (hn1.mono hb1.size)))
        clear hone hn1 hb1
        go_wp2_with (first
          | (refine wpList_buildD rfl (.tmp 17) rfl d rfl ?_; refine wpl_at (fun V => V = W3.alloc (Obj.cells (dat d) 43)) rfl ?_; rintro V hV; have HV := Lib.hid hV; clear hV))
        go_ret
        rw [Hp1.out, if_neg (by decide), Hd.out, HV.out]
        exact ⟨_, rfl, Hf.out.1, Hf.out.2⟩
    have e1 : ((i : Int) == (ls.length : Int)) = false := by rw [beq_eq_false_iff_ne]; omega
    go_wp2_with fail
    have h2l : 2 ≤ ls.length := by omega
    refine (r8half_any ls.length h2l h62 w).mono ?_
    rintro e _ ⟨rfl, rfl⟩
    have Hp := Lib.hid (half_parts ls h2l)
    have Hn := Lib.hid (subM_node n ls i bb hall' h2l)
    clear e1 hall' h2l
    obtain ⟨k, hk⟩ : ∃ k, halfN ls.length = k := ⟨_, rfl⟩
    rw [hk] at Hp Hn ⊢
    clear hk
    have hkl : (k : Int) ≤ (ls.length : Int) := by have := Hp.out; omega
    have hk0 : (0 : Int) ≤ (k : Int) := by omega
    have hkc : (k : Int) ≤ (cap : Int) := by omega
    have hbel := Below.refl w.heap.size w
    by_cases hik : i ≤ k
    · have hik' : (i : Int) ≤ (k : Int) := by omega
      go_wp2_with fail
      refine wp_region_mixP (.plain 0 <| .plain 1 <| .plain 2 <| .plain 3 <| .plain 4 <| .plain 5 <| .plain 7 <| .plain 8 <| .plain 9 <| .plain 10 <| .only 6 <| .only 11 <| .only 12 <| .only 13 <| .plain 14 <| .done) (by kernel_rfl) (by kernel_rfl) (fun W1 hb1 => ?_)
      replace hbel := hbel.trans (hb1.mono hbel.size)
      clear hb1
      have hv1 := hv.next hbel
      have hT := hv1.take k (by omega)
      have hR := hv1.drop k (by omega)
      clear hv hv1
      iterate 10 (refine mix_plain rfl ?_; (first
        | (refine wpQuiet_cutL rfl _ (.tmp 33) (.tmp 34) rfl 22 Tryd.underlying23 (by kernel_rfl) A ls.length cap k rfl rfl (by omega) ?_; simp only [Act.put, List.setIfInBounds_toArray, List.set_cons_zero, List.set_cons_succ])
        | go_big_quiet_step (fail)); refine wpQuiet_nil ?_)
      obtain ⟨B0, hB0⟩ : ∃ B0, B0 = W1.heap.size := ⟨_, rfl⟩
      have HB0 := Lib.hid hB0
      have hb : Below B0 W1 W1 := by rw [hB0]; exact Below.refl _ _
      clear hB0
      refine mix_only_in rfl (fun K hK => ?_)
      go_wp2_with fail
      refine (IH.out (ls.take k) i bb (by have := Hp.out; omega) (by have := Hp.out; omega) (by have := Hp.out; omega) (by have := Hp.out; omega) (fun b hb => Hall.out b (List.mem_of_mem_take hb)) _ W1 hT (Hh.out.nxt hbel)).mono ?_
      rintro e W2 ⟨u2, rfl, hown, hb1⟩
      rw [← HB0.out] at hown hb1
      replace hb := hb1
      go_wp2_with fail
      refine hK _ _ (below_plusN HB0 hb) ?_
      clear hK K hb1
      have hR := hR.next (show Below W1.heap.size W1 W2 by rw [← HB0.out]; exact hb)
      refine mix_only_in rfl (fun K hK => ?_)
      go_wp2_with fail
      refine (r8root_any _ n (ls.drop k).length (ls.drop k) (Nat.le_refl _) (by have := Hp.out; omega) (fun b hb => by have := Hall.out b (List.mem_of_mem_drop hb); omega) _ W2 hR (Hh.out.nxt (hbel.trans ((show Below W1.heap.size W1 W2 by rw [← HB0.out]; exact hb).mono hbel.size)))).mono ?_
      rintro e W3 ⟨rfl, hb1⟩
      replace hown := own_below hown hb1
      replace hb := hb.trans (hb1.mono (below_sizeN HB0 hb))
      go_wp2_with fail
      refine hK _ _ (below_plusN HB0 hb) ?_
      clear hK K hb1 hR
      obtain ⟨d, hd⟩ : ∃ d, rootM n (ls.drop k) = d := ⟨_, rfl⟩
      have Hd := Lib.hid hd
      rw [hd]
      clear hd
      refine mix_only_in rfl (fun K hK => ?_)
      refine wpList_buildD rfl (.tmp 36) rfl d rfl ?_
      simp only [Act.put, List.setIfInBounds_toArray, List.set_cons_zero, List.set_cons_succ]
      have hX := Blk.new W3 43 (dat d)
      have hn1 := below_new1 W3 (Obj.cells (dat d) 43)
      replace hown := own_below hown hn1
      replace hb := hb.trans (hn1.mono (below_sizeN HB0 hb))
      refine hK _ _ (below_plusN HB0 hb) ?_
      clear hK K hn1
      refine mix_atC (fun V => Below B0 W1 V ∧ Blk V W3.heap.size 43 (dat d) ∧ V.ownsRow B0 43 32 u2 (subM n (ls.take k) i bb).length (dcells (subM n (ls.take k) i bb))) ⟨hb, hX, hown⟩ ?_
      clear hb hX hown
      rintro V ⟨hb, hX, hown⟩
      refine mix_only_in rfl (fun K hK => ?_)
      refine wpList_appendDig rfl (.tmp 31) (.tmp 37) rfl B0 u2 (subM n (ls.take k) i bb) rfl hown W3.heap.size d rfl hX (by have h62' := subM_depth n 62 (ls.take k) i bb (by have := Hp.out; omega) (by have := Hp.out; omega) (by have := Hp.out; omega); omega) (below_sizeN HB0 hb) ?_
      intro u5 W5 hown5 hg5
      simp only [Act.put, List.setIfInBounds_toArray, List.set_cons_zero, List.set_cons_succ]
      have hb5 := below_own hb hown hg5 (below_sizeN HB0 hb)
      refine hK _ _ (below_plusN HB0 hb5) ?_
      clear hK K hb hX hown hg5
      iterate 1 (refine mix_plain rfl ?_; go_big_quiet_step (fail); refine wpQuiet_nil ?_)
      refine mix_done ?_
      have hbf := hbel.trans ((show Below W1.heap.size W1 W5 by rw [← HB0.out]; exact hb5).mono hbel.size)
      have hownf := own_base hown5 (show w.heap.size ≤ B0 by rw [HB0.out]; exact hbel.size)
      have hpn := Hn.out
      rw [if_pos hik, Hd.out] at hpn
      rw [← hpn] at hownf
      have Hf := Lib.hid (And.intro hownf hbf)
      clear hownf hbf hpn hown5 hb5
      go_wp2_with fail
      go_ret
      exact ⟨_, rfl, Hf.out.1, Hf.out.2⟩
    · have hik' : ¬ ((i : Int) ≤ (k : Int)) := by omega
      have hsub : (i : Int) - (k : Int) = ((i - k : Nat) : Int) := by omega
      go_wp2_with fail
      refine wp_region_mixP (.plain 0 <| .plain 1 <| .plain 2 <| .plain 3 <| .plain 4 <| .plain 5 <| .plain 6 <| .plain 8 <| .plain 9 <| .plain 10 <| .plain 11 <| .only 7 <| .only 12 <| .only 13 <| .only 14 <| .plain 15 <| .done) (by kernel_rfl) (by kernel_rfl) (fun W1 hb1 => ?_)
      replace hbel := hbel.trans (hb1.mono hbel.size)
      clear hb1
      have hv1 := hv.next hbel
      have hT := hv1.take k (by omega)
      have hR := hv1.drop k (by omega)
      clear hv hv1
      iterate 11 (refine mix_plain rfl ?_; (first
        | (refine wpQuiet_cutL rfl _ (.tmp 43) (.tmp 44) rfl 22 Tryd.underlying23 (by kernel_rfl) A ls.length cap k rfl rfl (by omega) ?_; simp only [Act.put, List.setIfInBounds_toArray, List.set_cons_zero, List.set_cons_succ])
        | go_big_quiet_step (fail)); refine wpQuiet_nil ?_)
      obtain ⟨B0, hB0⟩ : ∃ B0, B0 = W1.heap.size := ⟨_, rfl⟩
      have HB0 := Lib.hid hB0
      have hb : Below B0 W1 W1 := by rw [hB0]; exact Below.refl _ _
      clear hB0
      refine mix_only_in rfl (fun K hK => ?_)
      go_wp2_with fail
      refine (IH.out (ls.drop k) (i - k) false (by have := Hp.out; omega) (by have := Hp.out; omega) (by have := Hp.out; omega) (by have := Hp.out; omega) (fun b hb => Hall.out b (List.mem_of_mem_drop hb)) _ W1 hR (Hh.out.nxt hbel)).mono ?_
      rintro e W2 ⟨u2, rfl, hown, hb1⟩
      rw [← HB0.out] at hown hb1
      replace hb := hb1
      go_wp2_with fail
      refine hK _ _ (below_plusN HB0 hb) ?_
      clear hK K hb1
      have hT := hT.next (show Below W1.heap.size W1 W2 by rw [← HB0.out]; exact hb)
      refine mix_only_in rfl (fun K hK => ?_)
      go_wp2_with fail
      refine (r8root_any _ n (ls.take k).length (ls.take k) (Nat.le_refl _) (by have := Hp.out; omega) (fun b hb => by have := Hall.out b (List.mem_of_mem_take hb); omega) _ W2 hT (Hh.out.nxt (hbel.trans ((show Below W1.heap.size W1 W2 by rw [← HB0.out]; exact hb).mono hbel.size)))).mono ?_
      rintro e W3 ⟨rfl, hb1⟩
      replace hown := own_below hown hb1
      replace hb := hb.trans (hb1.mono (below_sizeN HB0 hb))
      go_wp2_with fail
      refine hK _ _ (below_plusN HB0 hb) ?_
      clear hK K hb1 hT
      obtain ⟨d, hd⟩ : ∃ d, rootM n (ls.take k) = d := ⟨_, rfl⟩
      have Hd := Lib.hid hd
      rw [hd]
      clear hd
      refine mix_only_in rfl (fun K hK => ?_)
      refine wpList_buildD rfl (.tmp 51) rfl d rfl ?_
      simp only [Act.put, List.setIfInBounds_toArray, List.set_cons_zero, List.set_cons_succ]
      have hX := Blk.new W3 43 (dat d)
      have hn1 := below_new1 W3 (Obj.cells (dat d) 43)
      replace hown := own_below hown hn1
      replace hb := hb.trans (hn1.mono (below_sizeN HB0 hb))
      refine hK _ _ (below_plusN HB0 hb) ?_
      clear hK K hn1
      refine mix_atC (fun V => Below B0 W1 V ∧ Blk V W3.heap.size 43 (dat d) ∧ V.ownsRow B0 43 32 u2 (subM n (ls.drop k) (i - k) false).length (dcells (subM n (ls.drop k) (i - k) false))) ⟨hb, hX, hown⟩ ?_
      clear hb hX hown
      rintro V ⟨hb, hX, hown⟩
      refine mix_only_in rfl (fun K hK => ?_)
      refine wpList_appendDig rfl (.tmp 46) (.tmp 52) rfl B0 u2 (subM n (ls.drop k) (i - k) false) rfl hown W3.heap.size d rfl hX (by have h62' := subM_depth n 62 (ls.drop k) (i - k) false (by have := Hp.out; omega) (by have := Hp.out; omega) (by have := Hp.out; omega); omega) (below_sizeN HB0 hb) ?_
      intro u5 W5 hown5 hg5
      simp only [Act.put, List.setIfInBounds_toArray, List.set_cons_zero, List.set_cons_succ]
      have hb5 := below_own hb hown hg5 (below_sizeN HB0 hb)
      refine hK _ _ (below_plusN HB0 hb5) ?_
      clear hK K hb hX hown hg5
      iterate 1 (refine mix_plain rfl ?_; go_big_quiet_step (fail); refine wpQuiet_nil ?_)
      refine mix_done ?_
      have hbf := hbel.trans ((show Below W1.heap.size W1 W5 by rw [← HB0.out]; exact hb5).mono hbel.size)
      have hownf := own_base hown5 (show w.heap.size ≤ B0 by rw [HB0.out]; exact hbel.size)
      have hpn := Hn.out
      rw [if_neg hik, Hd.out] at hpn
      rw [← hpn] at hownf
      have Hf := Lib.hid (And.intro hownf hbf)
      clear hownf hbf hpn hown5 hb5
      go_wp2_with fail
      go_ret
      exact ⟨_, rfl, Hf.out.1, Hf.out.2⟩
set_option maxRecDepth 100000 in
theorem r8compare_out (h v : Value) (ls : List (List UInt8)) (i : Nat) (hi64 : i ≤ 18446744073709551615) (w : World) (hv : SSl w w.heap.size v ls) (h62 : ls.length ≤ 4611686018427387904) (hi : i = 0 ∨ ls.length < i) :
    Calls Tryd.prog 43 #[h, v, .int .u64 i] w fun e w' => e = .returned (.tuple #[.slice none 0 0, .int .i64 25]) ∧ Below w.heap.size w w' := by
  obtain ⟨A, cap, vs, rfl, h2, h3, h4, h5, h6⟩ := hv
  clear h4 h5 h6 vs
  have hb := Below.refl w.heap.size w
  by_cases h0 : i = 0
  · subst h0
    clear hi
    go_enter Tryd.func43, Tryd.ntmps43
    go_wp2_with fail
    go_ret2
    exact ⟨rfl, hb⟩
  · have e1 : ((i : Int) == 0) = false := by rw [beq_eq_false_iff_ne]; omega
    have hle : (ls.length : Int) < (i : Int) := by omega
    clear hi
    go_enter Tryd.func43, Tryd.ntmps43
    go_wp2_with fail
    go_ret2
    exact ⟨rfl, hb⟩
set_option maxRecDepth 100000 in
theorem r8compare_any (h v : Value) (n : Nat) (ls : List (List UInt8)) (i : Nat) (w : World) (hv : SSl w w.heap.size v ls) (h62 : ls.length ≤ 4611686018427387904) (hall : ∀ b ∈ ls, b.length ≤ 140737488351232) (h1i : 1 ≤ i) (hi : i ≤ ls.length) (hh : Hsr w w.heap.size h n) :
    Calls Tryd.prog 43 #[h, v, .int .u64 i] w fun e w' => ∃ u, e = .returned (.tuple #[u, .int .i64 0]) ∧ w'.ownsRow w.heap.size 43 32 u (subM n ls i true).length (dcells (subM n ls i true)) ∧ Below w.heap.size w w' := by
  have Hall := Lib.hid hall
  have Hh := Lib.hid hh
  clear hall hh
  obtain ⟨A, cap, vs, rfl, h2, h3, h4, h5, h6⟩ := hv
  have hv : SSl w w.heap.size (.slice A ls.length cap) ls := ⟨A, cap, vs, rfl, h2, h3, h4, h5, h6⟩
  clear h4 h5 h6 vs
  have hlt : ¬ ((ls.length : Int) < (i : Int)) := by omega
  have e1 : ((i : Int) == 0) = false := by rw [beq_eq_false_iff_ne]; omega
  go_enter Tryd.func43, Tryd.ntmps43
  go_wp2_with fail
  refine (r8part_any _ n ls.length ls i true (Nat.le_refl _) h1i hi h62 Hall.out _ w hv Hh.out).mono ?_
  rintro e w5 ⟨u, rfl, hown, hb1⟩
  have Hf := Lib.hid (And.intro hown hb1)
  clear hb1 hown
  go_wp2_with fail
  go_ret2
  exact ⟨_, rfl, Hf.out.1, Hf.out.2⟩
end Go.Proofs.YteonmcconpfkjaaDoor

/- The walk of the reference deponentref8's Prove. No condition. -/
namespace Go.Proofs.YteonmcconpfkjaaDoor
open Go Go.RowKit
attribute [local irreducible] mixW
attribute [local go_sem] n8_lo n8_hi n64_lo n64_hi n32_lo n32_hi
set_option maxRecDepth 100000 in
theorem r8prove_out (h v : Value) (ls : List (List UInt8)) (i : Nat) (hi64 : i ≤ 18446744073709551615) (w : World) (hv : SSl w w.heap.size v ls) (h62 : ls.length ≤ 4611686018427387904) (hi : ls.length ≤ i) :
    Calls Tryd.prog 42 #[h, v, .int .u64 i] w fun e w' => e = .returned (.tuple #[.slice none 0 0, .int .i64 25]) ∧ Below w.heap.size w w' := by
  obtain ⟨A, cap, vs, rfl, h2, h3, h4, h5, h6⟩ := hv
  clear h4 h5 h6 vs
  have hle : (ls.length : Int) ≤ (i : Int) := by omega
  have hb := Below.refl w.heap.size w
  go_enter Tryd.func42, Tryd.ntmps42
  go_wp2_with fail
  go_ret2
  exact ⟨rfl, hb⟩
set_option maxHeartbeats 1000000 in
set_option maxRecDepth 100000 in
theorem r8prove_any (h : Value) (n : Nat) : ∀ (N : Nat) (ls : List (List UInt8)) (i : Nat), ls.length ≤ N → i < ls.length → ls.length ≤ 4611686018427387904 → (∀ b ∈ ls, b.length ≤ 140737488351232) → ∀ (v : Value) (w : World), SSl w w.heap.size v ls → Hsr w w.heap.size h n →
    Calls Tryd.prog 42 #[h, v, .int .u64 i] w fun e w' => ∃ u, e = .returned (.tuple #[u, .int .i64 0]) ∧ w'.ownsRow w.heap.size 43 32 u (pathM n ls i).length (dcells (pathM n ls i)) ∧ Below w.heap.size w w' := by
  intro N
  induction N with
  | zero => intro ls i h1 h2; omega
  | succ N ih =>
    intro ls i hN hil h62 hall v w hv hh
    have IH := Lib.hid ih
    have Hall := Lib.hid hall
    have Hh := Lib.hid hh
    clear ih hall hh
    obtain ⟨A, cap, vs, rfl, h2, h3, h4, h5, h6⟩ := hv
    have hv : SSl w w.heap.size (.slice A ls.length cap) ls := ⟨A, cap, vs, rfl, h2, h3, h4, h5, h6⟩
    clear h4 h5 h6 vs
    have hlt : ¬ ((ls.length : Int) ≤ (i : Int)) := by omega
    go_enter Tryd.func42, Tryd.ntmps42
    by_cases hone : ls.length = 1
    · have e1 : ((ls.length : Int) == 1) = true := by rw [beq_iff_eq]; omega
      have Hp1 := Lib.hid (pathM_one n ls i (by omega))
      clear hone
      go_wp2_with fail
      go_ret2
      rw [Hp1.out]
      exact ⟨_, rfl, World.ownsRow_nil _ _ _ _, Below.refl _ _⟩
    have e1 : ((ls.length : Int) == 1) = false := by rw [beq_eq_false_iff_ne]; omega
    go_wp2_with fail
    have h2l : 2 ≤ ls.length := by omega
    refine (r8half_any ls.length h2l h62 w).mono ?_
    rintro e _ ⟨rfl, rfl⟩
    have Hp := Lib.hid (half_parts ls h2l)
    have Hn := Lib.hid (pathM_node n ls i h2l)
    clear e1 hone h2l
    obtain ⟨k, hk⟩ : ∃ k, halfN ls.length = k := ⟨_, rfl⟩
    rw [hk] at Hp Hn ⊢
    clear hk
    have hkl : (k : Int) ≤ (ls.length : Int) := by have := Hp.out; omega
    have hk0 : (0 : Int) ≤ (k : Int) := by omega
    have hkc : (k : Int) ≤ (cap : Int) := by omega
    have hT := hv.take k (by omega)
    have hR := hv.drop k (by omega)
    by_cases hik : i < k
    · have hik' : (i : Int) < (k : Int) := by omega
      go_wp2_with (first
        | (refine wpList_cutL rfl _ (.tmp 47) (.tmp 48) rfl 22 Tryd.underlying23 (by kernel_rfl) A ls.length cap k rfl rfl (by omega) ?_))
      refine (IH.out (ls.take k) i (by have := Hp.out; omega) (by have := Hp.out; omega) (by have := Hp.out; omega) (fun b hb => Hall.out b (List.mem_of_mem_take hb)) _ w hT Hh.out).mono ?_
      rintro e w2 ⟨u2, rfl, hown, hb1⟩
      have hO2 := hR.next hb1
      have Hh2 := Lib.hid (Hh.out.nxt hb1)
      obtain ⟨A2, c2, hu2⟩ := own_slice hown
      subst hu2
      have HW := Lib.hid (And.intro hown hb1)
      clear hown hb1 hv hT hR
      go_wp2_with (first
        | (refine wpList_cutL rfl _ (.tmp 39) (.tmp 40) rfl 22 Tryd.underlying23 (by kernel_rfl) A ls.length cap k rfl rfl (by omega) ?_))
      refine (r8root_any _ n (ls.drop k).length (ls.drop k) (Nat.le_refl _) (by have := Hp.out; omega) (fun b hb => Hall.out b (List.mem_of_mem_drop hb)) _ w2 hO2 Hh2.out).mono ?_
      rintro e w3 ⟨rfl, hb1⟩
      obtain ⟨d, hd⟩ : ∃ d, rootM n (ls.drop k) = d := ⟨_, rfl⟩
      have Hd := Lib.hid hd
      rw [hd]
      clear hd hO2
      have hn1 := below_new1 w3 (Obj.cells (dat d) 43)
      have hown := own_below (own_below HW.out.1 hb1) hn1
      have hbel := (HW.out.2.trans (hb1.mono HW.out.2.size)).trans (hn1.mono (Nat.le_trans HW.out.2.size hb1.size))
      have hX := Blk.new w3 43 (dat d)
      clear hb1 hn1
      go_wp2_with (first
        | (refine wpList_buildD rfl (.tmp 42) rfl d rfl ?_; refine wpl_at (fun V => V.ownsRow w.heap.size 43 32 (.slice A2 (pathM n (ls.take k) i).length c2) (pathM n (ls.take k) i).length (dcells (pathM n (ls.take k) i)) ∧ Below w.heap.size w V ∧ Blk V w3.heap.size 43 (dat d)) ⟨hown, hbel, hX⟩ ?_; clear hown hbel hX; rintro V ⟨hown, hbel, hX⟩)
        | (at_builtin; refine wpList_appendDig rfl (.tmp 37) (.tmp 43) rfl w.heap.size _ (pathM n (ls.take k) i) rfl hown w3.heap.size d rfl hX (by have h62' := pathM_depth n 62 (ls.take k) i (by have := Hp.out; omega); omega) hbel.size ?_; intro u5 w5 hown5 hg5; have hb5 := below_own hbel hown hg5 hbel.size; clear hown hbel hX hg5))
      have hpn := Hn.out
      rw [if_pos hik, Hd.out] at hpn
      rw [← hpn] at hown5
      go_ret2
      exact ⟨_, rfl, hown5, hb5⟩
    · have hik' : ¬ ((i : Int) < (k : Int)) := by omega
      have hsub : (i : Int) - (k : Int) = ((i - k : Nat) : Int) := by omega
      go_wp2_with (first
        | (refine wpList_cutL rfl _ (.tmp 47) (.tmp 48) rfl 22 Tryd.underlying23 (by kernel_rfl) A ls.length cap k rfl rfl (by omega) ?_))
      refine (IH.out (ls.drop k) (i - k) (by have := Hp.out; omega) (by have := Hp.out; omega) (by have := Hp.out; omega) (fun b hb => Hall.out b (List.mem_of_mem_drop hb)) _ w hR Hh.out).mono ?_
      rintro e w2 ⟨u2, rfl, hown, hb1⟩
      have hO2 := hT.next hb1
      have Hh2 := Lib.hid (Hh.out.nxt hb1)
      obtain ⟨A2, c2, hu2⟩ := own_slice hown
      subst hu2
      have HW := Lib.hid (And.intro hown hb1)
      clear hown hb1 hv hT hR
      go_wp2_with (first
        | (refine wpList_cutL rfl _ (.tmp 39) (.tmp 40) rfl 22 Tryd.underlying23 (by kernel_rfl) A ls.length cap k rfl rfl (by omega) ?_))
      refine (r8root_any _ n (ls.take k).length (ls.take k) (Nat.le_refl _) (by have := Hp.out; omega) (fun b hb => Hall.out b (List.mem_of_mem_take hb)) _ w2 hO2 Hh2.out).mono ?_
      rintro e w3 ⟨rfl, hb1⟩
      obtain ⟨d, hd⟩ : ∃ d, rootM n (ls.take k) = d := ⟨_, rfl⟩
      have Hd := Lib.hid hd
      rw [hd]
      clear hd hO2
      have hn1 := below_new1 w3 (Obj.cells (dat d) 43)
      have hown := own_below (own_below HW.out.1 hb1) hn1
      have hbel := (HW.out.2.trans (hb1.mono HW.out.2.size)).trans (hn1.mono (Nat.le_trans HW.out.2.size hb1.size))
      have hX := Blk.new w3 43 (dat d)
      clear hb1 hn1
      go_wp2_with (first
        | (refine wpList_buildD rfl (.tmp 62) rfl d rfl ?_; refine wpl_at (fun V => V.ownsRow w.heap.size 43 32 (.slice A2 (pathM n (ls.drop k) (i - k)).length c2) (pathM n (ls.drop k) (i - k)).length (dcells (pathM n (ls.drop k) (i - k))) ∧ Below w.heap.size w V ∧ Blk V w3.heap.size 43 (dat d)) ⟨hown, hbel, hX⟩ ?_; clear hown hbel hX; rintro V ⟨hown, hbel, hX⟩)
        | (at_builtin; refine wpList_appendDig rfl (.tmp 57) (.tmp 63) rfl w.heap.size _ (pathM n (ls.drop k) (i - k)) rfl hown w3.heap.size d rfl hX (by have h62' := pathM_depth n 62 (ls.drop k) (i - k) (by have := Hp.out; omega); omega) hbel.size ?_; intro u5 w5 hown5 hg5; have hb5 := below_own hbel hown hg5 hbel.size; clear hown hbel hX hg5))
      have hpn := Hn.out
      rw [if_neg hik, Hd.out] at hpn
      rw [← hpn] at hown5
      go_ret2
      exact ⟨_, rfl, hown5, hb5⟩
end Go.Proofs.YteonmcconpfkjaaDoor

/- The walk of deponentlaw9's list. No condition. -/
namespace Go.Proofs.YteonmcconpfkjaaDoor
open Go Go.RowKit
attribute [local go_sem] n8_lo n8_hi n64_lo n64_hi n32_lo n32_hi
set_option maxHeartbeats 400000 in
set_option maxRecDepth 100000 in
theorem list9_any (n : Int) (c : UInt8) (hn : n ≤ 1000000) (hn2 : -9223372036854775808 ≤ n) (w : World) :
    Calls Tryd.prog 40 #[.int .i64 n, .int .u8 (n8 c)] w fun e w' => ∃ v, e = .returned v ∧ SSl w' w'.heap.size v (listL n.toNat c) ∧ Below w.heap.size w w' := by
  obtain ⟨i0, hi, hz0, hz1, hz2⟩ := info_parts (by kernel_rfl : (Tryd.prog.info? 22).map (fun i => (i.zero, i.size, i.bytes)) = some (some (.slice none 0 0), 1, 24))
  go_enter Tryd.func40, Tryd.ntmps40
  go_wp2_with fail
  go_loopw [5, 6] (fun v iv wr => ∃ (k : Nat) (vs : List Value), k ≤ n.toNat ∧ iv = .int .i64 k ∧ vs.length = k ∧ wr.ownsRow w.heap.size 22 1 v vs.length vs ∧ (∀ i, i < k → Whole wr (vs.getD i undef) (elemL c i)) ∧ Below w.heap.size w wr) (fun _ iv _ => n.toNat - (intOf iv).toNat)
  case atStart => exact ⟨0, [], by omega, rfl, rfl, World.ownsRow_nil _ _ _ _, fun i hi => by omega, Below.refl _ _⟩
  case round =>
    obtain ⟨k, vs, hk, rfl, hvl, hown, hall, hbel⟩ := hrel
    by_cases hlt : (k : Int) < n
    · have b1 := byte_nat k
      have b2 := byte_nat (k / 256)
      have b3 : ((k / 256 : Nat) : Int) = (k : Int) / 256 := by omega
      rw [b3] at b2
      have hk1 : k ≤ 1000000 := by omega
      have hA := Blk.new w 5 #[]
      clear hA
      have hb1w := below_new1 wr (Obj.cells #[.int .u8 (n8 c), .int .u8 (n8 (UInt8.ofNat k)), .int .u8 (n8 (UInt8.ofNat (k / 256)))] 5)
      have hbw := hb1w.alloc hb1w.size (Obj.cells #[.slice (some ⟨wr.heap.size, 0, none⟩) 3 3] 22)
      have hE := (Blk.new wr 5 #[.int .u8 (n8 c), .int .u8 (n8 (UInt8.ofNat k)), .int .u8 (n8 (UInt8.ofNat (k / 256)))]).alloc (Obj.cells #[.slice (some ⟨wr.heap.size, 0, none⟩) 3 3] 22)
      have hS := Blk.new2 wr (Obj.cells #[.int .u8 (n8 c), .int .u8 (n8 (UInt8.ofNat k)), .int .u8 (n8 (UInt8.ofNat (k / 256)))] 5) 22 #[.slice (some ⟨wr.heap.size, 0, none⟩) 3 3]
      have hW : Whole ((wr.alloc (Obj.cells #[.int .u8 (n8 c), .int .u8 (n8 (UInt8.ofNat k)), .int .u8 (n8 (UInt8.ofNat (k / 256)))] 5)).alloc (Obj.cells #[.slice (some ⟨wr.heap.size, 0, none⟩) 3 3] 22)) (.slice (some ⟨wr.heap.size, 0, none⟩) 3 3) (elemL c k) := ⟨wr.heap.size, rfl, hE⟩
      have hown2 := own_below hown hbw
      have HWs := Lib.hid (And.intro hW (fun i (hi : i < k) => (hall i hi).below hbw))
      have hbase := Nat.le_trans hbel.size hbw.size
      clear hb1w hE hW hall hown
      go_wp2_with (first
        | (at_builtin; refine wpList_appendR rfl (.tmp 12) (.tmp 20) _ rfl w.heap.size 22 i0 _ 24 Tryd.underlying23 hi hz0 hz1 hz2 rfl _ vs rfl hown2 _ (some ⟨wr.heap.size + 1, 0, none⟩) 1 1 [.slice (some ⟨wr.heap.size, 0, none⟩) 3 3] rfl (Reads.of_blk hS hS.lt 0) rfl (fun u hu => by rw [List.mem_singleton] at hu; subst hu; rfl) (by unfold maxLen; omega) (by omega) hbase ?_; intro u1 w1 hown1 hg1 hat1))
      have hbel1 := below_own (hbel.trans (hbw.mono hbel.size)) hown2 hg1 hbase
      have hE1 := HWs.out.1.grown hown2 hg1
      have hall1 : ∀ i, i < k → Whole w1 (vs.getD i undef) (elemL c i) := fun i hi => (HWs.out.2 i hi).grown hown2 hg1
      have HF := Lib.hid (And.intro hbel1 (And.intro hE1 (And.intro hall1 hown1)))
      clear hbel1 hE1 hall1 hown1 HWs hown2 hg1 hat1 hS hbw hbase
      go_wp2_with fail
      go_roundw
      case rel =>
        refine ⟨k + 1, vs ++ [.slice (some ⟨wr.heap.size, 0, none⟩) 3 3], by omega, by go_num, by rw [List.length_append, hvl]; rfl, HF.out.2.2.2, fun i hi => ?_, HF.out.1⟩
        rw [List.getD_eq_getElem?_getD]
        by_cases hik : i < k
        · rw [List.getElem?_append_left (by omega), ← List.getD_eq_getElem?_getD]
          exact HF.out.2.2.1 i hik
        · obtain rfl : i = k := by omega
          rw [List.getElem?_append_right (by omega), show i - vs.length = 0 by omega]
          exact HF.out.2.1
      case measure => simp [intOf]; omega
    · have ek : k = n.toNat := by omega
      have HF := Lib.hid (And.intro hown hall)
      clear hown hall
      go_wp2_with fail
      go_ret
      refine ⟨_, rfl, ?_, hbel⟩
      rw [← ek]
      refine SSl.of_own HF.out.1 (by rw [hvl, listL_length]) (fun i hi => ?_)
      rw [listL_length] at hi
      rw [listL_at k c i hi]
      exact (HF.out.2 i hi).bsl (by show (3 : Nat) ≤ _; decide)
end Go.Proofs.YteonmcconpfkjaaDoor

/- The walk of deponentlaw9's hasher. No condition. -/
namespace Go.Proofs.YteonmcconpfkjaaDoor
open Go.RowKit
attribute [local go_sem] n8_lo n8_hi n64_lo n64_hi n32_lo n32_hi
set_option maxRecDepth 100000 in
theorem hasher9_any (x : Int) (w : World) :
    Calls Tryd.prog 41 #[.int .i64 x] w fun e w' => ∃ v, e = .returned v ∧ Hsr w' w'.heap.size v (cutW x) ∧ Below w.heap.size w w' := by
  go_enter Tryd.func41, Tryd.ntmps41
  go_wp2_with fail
  refine (new_any w).mono ?_
  rintro e w1 ⟨t, rfl, hT, hb⟩
  go_wp2_with fail
  refine (new8_any t x w1 hT).mono ?_
  rintro e w2 ⟨v, rfl, hv, hb2⟩
  go_wp2_with fail
  go_ret
  exact ⟨_, rfl, hv, hb.trans (hb2.mono hb.size)⟩
end Go.Proofs.YteonmcconpfkjaaDoor
