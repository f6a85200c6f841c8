/- The walks of merkle's Prove and its inner function. No condition. -/
import Derived.Test.YtbhmmoecoijojaaDoorMerkR
import Derived.Test.YtbhmmoecoijojaaDoorDig
import Derived.Test.YtbhmmoecoijojaaDoorConst
import Derived.Test.YtbhmmoecoijojaaDoorFew
import Derived.Test.YtbhmmoecoijojaaDoorMake
namespace Go.Proofs.YtbhmmoecoijojaaDoor
open Go Go.RowKit
attribute [local irreducible] mixW
attribute [local go_sem] n8_lo n8_hi n64_lo n64_hi n32_lo n32_hi
set_option maxHeartbeats 1000000 in
set_option maxRecDepth 100000 in
theorem path1_any (x : Int) (wb fb : Nat) (ft : TypeId) : ∀ (N : Nat) (ls : List (List UInt8)) (i : Nat), ls.length ≤ N → 1 ≤ ls.length → ls.length ≤ 4611686018427387904 → i ≤ 4611686018427387904 → (∀ b ∈ ls, b.length ≤ 140737488355200) → ∀ (v : Value) (w : World), SSl w w.heap.size v ls → Glob w →
    Blk w wb 3 #[.int .i64 x] → Blk w fb ft #[.func (.func 62) #[] #[.pointer (some ⟨fb, 0, none⟩), .pointer (some ⟨wb, 0, none⟩)]] →
    Calls Tryd.prog 62 #[v, .int .i64 i, .pointer (some ⟨fb, 0, none⟩), .pointer (some ⟨wb, 0, none⟩)] w fun e w' => ∃ u, e = .returned u ∧ w'.ownsRow w.heap.size 27 32 u (pathM (cutW x) ls i).length (dcells (pathM (cutW x) ls i)) ∧ Below w.heap.size w w' := by
  intro N
  induction N with
  | zero => intro ls i h1 h2; omega
  | succ N ih =>
    intro ls i hN h1 h62 hi62 hall v w hv hG hW hF
    have IH := Lib.hid ih
    have Hall := Lib.hid hall
    clear ih hall
    obtain ⟨A, cap, vs, rfl, h2, h3, h4, h5, h6⟩ := hv
    have hv : SSl w w.heap.size (.slice A ls.length cap) ls := ⟨A, cap, vs, rfl, h2, h3, h4, h5, h6⟩
    clear h4 h5 h6 vs
    go_enter Tryd.func62, Tryd.ntmps62
    by_cases hone : ls.length = 1
    · have e1 : ((ls.length : Int) == 1) = true := by rw [beq_iff_eq]; omega
      have Hp1 := Lib.hid (pathM_one (cutW x) ls i (by omega))
      clear hone
      go_wp2_with fail
      go_ret
      rw [Hp1.out]
      exact ⟨_, rfl, World.ownsRow_nil _ _ _ _, Below.refl _ _⟩
    have e1 : ((ls.length : Int) == 1) = false := by rw [beq_eq_false_iff_ne]; omega
    go_wp2_with fail
    have h2l : 2 ≤ ls.length := by omega
    refine (half_any ls.length h2l h62 w).mono ?_
    rintro e _ ⟨rfl, rfl⟩
    have Hp := Lib.hid (half_parts ls h2l)
    have Hn := Lib.hid (pathM_node (cutW x) ls i h2l)
    clear e1 hone h2l
    obtain ⟨k, hk⟩ : ∃ k, halfN ls.length = k := ⟨_, rfl⟩
    rw [hk] at Hp Hn ⊢
    clear hk
    have hkl : (k : Int) ≤ (ls.length : Int) := by have := Hp.out; omega
    have hk0 : (0 : Int) ≤ (k : Int) := by omega
    have hkc : (k : Int) ≤ (cap : Int) := by omega
    have hbel := Below.refl w.heap.size w
    by_cases hik : i < k
    · have hik' : (i : Int) < (k : Int) := by omega
      go_wp2_with fail
      refine wp_region_mixP (.plain 0 <| .plain 1 <| .plain 2 <| .plain 3 <| .plain 4 <| .plain 6 <| .plain 7 <| .plain 8 <| .plain 9 <| .only 5 <| .only 10 <| .only 11 <| .only 12 <| .plain 13 <| .done) (by kernel_rfl) (by kernel_rfl) (fun W1 hb1 => ?_)
      replace hbel := hbel.trans (hb1.mono hbel.size)
      clear hb1
      have cW : W1.cell? ⟨wb, 0, none⟩ = some (.int .i64 x) := by
        have := (hW.below hbel hW.lt).cell 0
        simpa using this
      have cF : W1.cell? ⟨fb, 0, none⟩ = some (.func (.func 62) #[] #[.pointer (some ⟨fb, 0, none⟩), .pointer (some ⟨wb, 0, none⟩)]) := by
        have := (hF.below hbel hF.lt).cell 0
        simpa using this
      have hwl : wb < W1.heap.size := (hW.below hbel hW.lt).lt
      have hfl : fb < W1.heap.size := (hF.below hbel hF.lt).lt
      have hW1 := hW.below hbel hW.lt
      have hF1 := hF.below hbel hF.lt
      have hv1 := hv.next hbel
      have hT := hv1.take k (by omega)
      have hR := hv1.drop k (by omega)
      clear hv hv1 hW hF
      iterate 9 (refine mix_plain rfl ?_; (first
        | (refine wpQuiet_load1 rfl _ (.tmp 3) rfl _ rfl _ Tryd.underlying3 rfl _ (fun _ ⟨e, he⟩ => by rw [he, plus_cell _ _ _ hwl]; exact cW) ?_; simp only [Act.put, List.setIfInBounds_toArray, List.set_cons_zero, List.set_cons_succ])
        | (refine wpQuiet_load1 rfl _ (.tmp 2) rfl _ rfl _ Tryd.underlying101 rfl _ (fun _ ⟨e, he⟩ => by rw [he, plus_cell _ _ _ hfl]; exact cF) ?_; simp only [Act.put, List.setIfInBounds_toArray, List.set_cons_zero, List.set_cons_succ])
        | (refine wpQuiet_cutL rfl _ (.tmp 24) (.tmp 25) rfl 32 Tryd.underlying24 (by kernel_rfl) A ls.length cap k rfl rfl (by omega) ?_; simp only [Act.put, List.setIfInBounds_toArray, List.set_cons_zero, List.set_cons_succ])
        | go_big_quiet_step (fail)); refine wpQuiet_nil ?_)
      clear cW cF hwl hfl
      obtain ⟨B0, hB0⟩ : ∃ B0, B0 = W1.heap.size := ⟨_, rfl⟩
      have HB0 := Lib.hid hB0
      have hb : Below B0 W1 W1 := by rw [hB0]; exact Below.refl _ _
      clear hB0
      refine mix_only_in rfl (fun K hK => ?_)
      go_wp2_with fail
      refine (IH.out (ls.take k) i (by have := Hp.out; omega) (by have := Hp.out; omega) (by have := Hp.out; omega) (by have := Hp.out; omega) (fun b hb => Hall.out b (List.mem_of_mem_take hb)) _ W1 hT (hG.next hbel) hW1 hF1).mono ?_
      rintro e W2 ⟨u2, rfl, hown, hb1⟩
      rw [← HB0.out] at hown hb1
      replace hb := hb1
      go_wp2_with fail
      refine hK _ _ (below_plusN HB0 hb) ?_
      clear hK K hb1
      have hR := hR.next (show Below W1.heap.size W1 W2 by rw [← HB0.out]; exact hb)
      refine mix_only_in rfl (fun K hK => ?_)
      go_wp2_with fail
      refine (mroot_any x _ (ls.drop k) W2 hR (by have := Hp.out; omega) (fun b hb => Hall.out b (List.mem_of_mem_drop hb)) (hG.next (hbel.trans ((show Below W1.heap.size W1 W2 by rw [← HB0.out]; exact hb).mono hbel.size)))).mono ?_
      rintro e W3 ⟨rfl, hb1⟩
      replace hown := own_below hown hb1
      replace hb := hb.trans (hb1.mono (below_sizeN HB0 hb))
      go_wp2_with fail
      refine hK _ _ (below_plusN HB0 hb) ?_
      clear hK K hb1 hR
      obtain ⟨d, hd⟩ : ∃ d, rootM (cutW x) (ls.drop k) = d := ⟨_, rfl⟩
      have Hd := Lib.hid hd
      rw [hd]
      clear hd
      refine mix_only_in rfl (fun K hK => ?_)
      refine wpList_buildD rfl (.tmp 27) rfl d rfl ?_
      simp only [Act.put, List.setIfInBounds_toArray, List.set_cons_zero, List.set_cons_succ]
      have hX := Blk.new W3 27 (dat d)
      have hn1 := below_new1 W3 (Obj.cells (dat d) 27)
      replace hown := own_below hown hn1
      replace hb := hb.trans (hn1.mono (below_sizeN HB0 hb))
      refine hK _ _ (below_plusN HB0 hb) ?_
      clear hK K hn1
      refine mix_atC (fun V => Below B0 W1 V ∧ Blk V W3.heap.size 27 (dat d) ∧ V.ownsRow B0 27 32 u2 (pathM (cutW x) (ls.take k) i).length (dcells (pathM (cutW x) (ls.take k) i))) ⟨hb, hX, hown⟩ ?_
      clear hb hX hown
      rintro V ⟨hb, hX, hown⟩
      refine mix_only_in rfl (fun K hK => ?_)
      refine wpList_appendDig rfl (.tmp 22) (.tmp 28) rfl B0 u2 (pathM (cutW x) (ls.take k) i) rfl hown W3.heap.size d rfl hX (by have h62' := pathM_depth (cutW x) 62 (ls.take k) i (by have := Hp.out; omega); omega) (below_sizeN HB0 hb) ?_
      intro u5 W5 hown5 hg5
      simp only [Act.put, List.setIfInBounds_toArray, List.set_cons_zero, List.set_cons_succ]
      have hb5 := below_own hb hown hg5 (below_sizeN HB0 hb)
      refine hK _ _ (below_plusN HB0 hb5) ?_
      clear hK K hb hX hown hg5
      iterate 1 (refine mix_plain rfl ?_; go_big_quiet_step (fail); refine wpQuiet_nil ?_)
      refine mix_done ?_
      have hbf := hbel.trans ((show Below W1.heap.size W1 W5 by rw [← HB0.out]; exact hb5).mono hbel.size)
      have hownf := own_base hown5 (show w.heap.size ≤ B0 by rw [HB0.out]; exact hbel.size)
      have hpn := Hn.out
      rw [if_pos hik, Hd.out] at hpn
      rw [← hpn] at hownf
      have Hf := Lib.hid (And.intro hownf hbf)
      clear hownf hbf hpn hown5 hb5
      go_wp2_with fail
      go_ret
      exact ⟨_, rfl, Hf.out.1, Hf.out.2⟩
    · have hik' : ¬ ((i : Int) < (k : Int)) := by omega
      have hsub : (i : Int) - (k : Int) = ((i - k : Nat) : Int) := by omega
      go_wp2_with fail
      refine wp_region_mixP (.plain 0 <| .plain 1 <| .plain 2 <| .plain 3 <| .plain 4 <| .plain 5 <| .plain 6 <| .plain 8 <| .plain 9 <| .plain 10 <| .plain 11 <| .only 7 <| .only 12 <| .only 13 <| .only 14 <| .plain 15 <| .done) (by kernel_rfl) (by kernel_rfl) (fun W1 hb1 => ?_)
      replace hbel := hbel.trans (hb1.mono hbel.size)
      clear hb1
      have cW : W1.cell? ⟨wb, 0, none⟩ = some (.int .i64 x) := by
        have := (hW.below hbel hW.lt).cell 0
        simpa using this
      have cF : W1.cell? ⟨fb, 0, none⟩ = some (.func (.func 62) #[] #[.pointer (some ⟨fb, 0, none⟩), .pointer (some ⟨wb, 0, none⟩)]) := by
        have := (hF.below hbel hF.lt).cell 0
        simpa using this
      have hwl : wb < W1.heap.size := (hW.below hbel hW.lt).lt
      have hfl : fb < W1.heap.size := (hF.below hbel hF.lt).lt
      have hW1 := hW.below hbel hW.lt
      have hF1 := hF.below hbel hF.lt
      have hv1 := hv.next hbel
      have hT := hv1.take k (by omega)
      have hR := hv1.drop k (by omega)
      clear hv hv1 hW hF
      iterate 11 (refine mix_plain rfl ?_; (first
        | (refine wpQuiet_load1 rfl _ (.tmp 3) rfl _ rfl _ Tryd.underlying3 rfl _ (fun _ ⟨e, he⟩ => by rw [he, plus_cell _ _ _ hwl]; exact cW) ?_; simp only [Act.put, List.setIfInBounds_toArray, List.set_cons_zero, List.set_cons_succ])
        | (refine wpQuiet_load1 rfl _ (.tmp 2) rfl _ rfl _ Tryd.underlying101 rfl _ (fun _ ⟨e, he⟩ => by rw [he, plus_cell _ _ _ hfl]; exact cF) ?_; simp only [Act.put, List.setIfInBounds_toArray, List.set_cons_zero, List.set_cons_succ])
        | (refine wpQuiet_cutL rfl _ (.tmp 31) (.tmp 32) rfl 32 Tryd.underlying24 (by kernel_rfl) A ls.length cap k rfl rfl (by omega) ?_; simp only [Act.put, List.setIfInBounds_toArray, List.set_cons_zero, List.set_cons_succ])
        | go_big_quiet_step (fail)); refine wpQuiet_nil ?_)
      clear cW cF hwl hfl
      obtain ⟨B0, hB0⟩ : ∃ B0, B0 = W1.heap.size := ⟨_, rfl⟩
      have HB0 := Lib.hid hB0
      have hb : Below B0 W1 W1 := by rw [hB0]; exact Below.refl _ _
      clear hB0
      refine mix_only_in rfl (fun K hK => ?_)
      go_wp2_with fail
      refine (IH.out (ls.drop k) (i - k) (by have := Hp.out; omega) (by have := Hp.out; omega) (by have := Hp.out; omega) (by have := Hp.out; omega) (fun b hb => Hall.out b (List.mem_of_mem_drop hb)) _ W1 hR (hG.next hbel) hW1 hF1).mono ?_
      rintro e W2 ⟨u2, rfl, hown, hb1⟩
      rw [← HB0.out] at hown hb1
      replace hb := hb1
      go_wp2_with fail
      refine hK _ _ (below_plusN HB0 hb) ?_
      clear hK K hb1
      have hT := hT.next (show Below W1.heap.size W1 W2 by rw [← HB0.out]; exact hb)
      refine mix_only_in rfl (fun K hK => ?_)
      go_wp2_with fail
      refine (mroot_any x _ (ls.take k) W2 hT (by have := Hp.out; omega) (fun b hb => Hall.out b (List.mem_of_mem_take hb)) (hG.next (hbel.trans ((show Below W1.heap.size W1 W2 by rw [← HB0.out]; exact hb).mono hbel.size)))).mono ?_
      rintro e W3 ⟨rfl, hb1⟩
      replace hown := own_below hown hb1
      replace hb := hb.trans (hb1.mono (below_sizeN HB0 hb))
      go_wp2_with fail
      refine hK _ _ (below_plusN HB0 hb) ?_
      clear hK K hb1 hT
      obtain ⟨d, hd⟩ : ∃ d, rootM (cutW x) (ls.take k) = d := ⟨_, rfl⟩
      have Hd := Lib.hid hd
      rw [hd]
      clear hd
      refine mix_only_in rfl (fun K hK => ?_)
      refine wpList_buildD rfl (.tmp 42) rfl d rfl ?_
      simp only [Act.put, List.setIfInBounds_toArray, List.set_cons_zero, List.set_cons_succ]
      have hX := Blk.new W3 27 (dat d)
      have hn1 := below_new1 W3 (Obj.cells (dat d) 27)
      replace hown := own_below hown hn1
      replace hb := hb.trans (hn1.mono (below_sizeN HB0 hb))
      refine hK _ _ (below_plusN HB0 hb) ?_
      clear hK K hn1
      refine mix_atC (fun V => Below B0 W1 V ∧ Blk V W3.heap.size 27 (dat d) ∧ V.ownsRow B0 27 32 u2 (pathM (cutW x) (ls.drop k) (i - k)).length (dcells (pathM (cutW x) (ls.drop k) (i - k)))) ⟨hb, hX, hown⟩ ?_
      clear hb hX hown
      rintro V ⟨hb, hX, hown⟩
      refine mix_only_in rfl (fun K hK => ?_)
      refine wpList_appendDig rfl (.tmp 37) (.tmp 43) rfl B0 u2 (pathM (cutW x) (ls.drop k) (i - k)) rfl hown W3.heap.size d rfl hX (by have h62' := pathM_depth (cutW x) 62 (ls.drop k) (i - k) (by have := Hp.out; omega); omega) (below_sizeN HB0 hb) ?_
      intro u5 W5 hown5 hg5
      simp only [Act.put, List.setIfInBounds_toArray, List.set_cons_zero, List.set_cons_succ]
      have hb5 := below_own hb hown hg5 (below_sizeN HB0 hb)
      refine hK _ _ (below_plusN HB0 hb5) ?_
      clear hK K hb hX hown hg5
      iterate 1 (refine mix_plain rfl ?_; go_big_quiet_step (fail); refine wpQuiet_nil ?_)
      refine mix_done ?_
      have hbf := hbel.trans ((show Below W1.heap.size W1 W5 by rw [← HB0.out]; exact hb5).mono hbel.size)
      have hownf := own_base hown5 (show w.heap.size ≤ B0 by rw [HB0.out]; exact hbel.size)
      have hpn := Hn.out
      rw [if_neg hik, Hd.out] at hpn
      rw [← hpn] at hownf
      have Hf := Lib.hid (And.intro hownf hbf)
      clear hownf hbf hpn hown5 hb5
      go_wp2_with fail
      go_ret
      exact ⟨_, rfl, Hf.out.1, Hf.out.2⟩
set_option maxRecDepth 100000 in
theorem prove_out (x0 : Int) (v : Value) (ls : List (List UInt8)) (i : Nat) (hi64 : i ≤ 18446744073709551615) (w : World) (hv : SSl w w.heap.size v ls) (h62 : ls.length ≤ 4611686018427387904) (hi : ls.length ≤ i) :
    Calls Tryd.prog 22 #[.int .i64 x0, v, .int .u64 i] w fun e w' => e = .returned (.tuple #[.slice none 0 0, .int .i64 25]) ∧ Below w.heap.size w w' := by
  obtain ⟨A, cap, vs, rfl, h2, h3, h4, h5, h6⟩ := hv
  clear h4 h5 h6 vs
  have hle : (ls.length : Int) ≤ (i : Int) := by omega
  have hb := below_new1 w (Obj.cells #[.int .i64 x0] 3)
  go_enter Tryd.func22, Tryd.ntmps22
  go_wp2_with fail
  go_ret2
  exact ⟨rfl, hb⟩
set_option maxHeartbeats 400000 in
set_option maxRecDepth 100000 in
theorem prove_any (x : Int) (v : Value) (ls : List (List UInt8)) (i : Nat) (w : World) (hv : SSl w w.heap.size v ls) (h62 : ls.length ≤ 4611686018427387904) (hall : ∀ b ∈ ls, b.length ≤ 140737488355200) (hi : i < ls.length) (hG : Glob w) :
    Calls Tryd.prog 22 #[.int .i64 x, v, .int .u64 i] w fun e w' => ∃ u, e = .returned (.tuple #[u, .int .i64 0]) ∧ w'.ownsRow w.heap.size 27 32 u (pathM (cutW x) ls i).length (dcells (pathM (cutW x) ls i)) ∧ Below w.heap.size w w' := by
  have Hall := Lib.hid hall
  clear hall
  obtain ⟨A, cap, vs, rfl, h2, h3, h4, h5, h6⟩ := hv
  have hv : SSl w w.heap.size (.slice A ls.length cap) ls := ⟨A, cap, vs, rfl, h2, h3, h4, h5, h6⟩
  clear h4 h5 h6 vs
  have hX := (Blk.new w 3 #[.int .i64 x]).alloc (Obj.cells #[.nilFunc] 101)
  have hF := Blk.new2 w (Obj.cells #[.int .i64 x] 3) 101 #[.nilFunc]
  have hb2 := (below_new1 w (Obj.cells #[.int .i64 x] 3)).alloc (by simp) (Obj.cells #[.nilFunc] 101)
  have hlt : (i : Int) < (ls.length : Int) := by omega
  have hmf : ∀ (fn : Fn) (first cap : Array Value) (w : World), (Instr.makeFunc fn first cap).run Tryd.prog w = .ok (.func fn first cap) w := fun _ _ _ _ => rfl
  go_enter Tryd.func22, Tryd.ntmps22
  go_upto_region 5 with (first
    | (refine wpList_store1 rfl rfl _ (.tmp 8) (.tmp 14) rfl (w.heap.size + 1) 0 rfl (.func (.func 62) #[] #[.pointer (some ⟨w.heap.size + 1, 0, none⟩), .pointer (some ⟨w.heap.size, 0, none⟩)]) rfl _ _ hF (by kernel_rfl) (by simp) rfl rfl ?_; intro w4 hF4 hon4))
  have hb4 := below_only hb2 hon4 (by omega) hb2.size
  have hX4 := hX.grown hon4 (by simp)
  clear hF hX hb2 hon4 hmf
  have cF := hF4.cell 0
  have hf0 : (#[Value.nilFunc].setIfInBounds 0 (.func (.func 62) #[] #[.pointer (some ⟨w.heap.size + 1, 0, none⟩), .pointer (some ⟨w.heap.size, 0, none⟩)])) = #[Value.func (.func 62) #[] #[.pointer (some ⟨w.heap.size + 1, 0, none⟩), .pointer (some ⟨w.heap.size, 0, none⟩)]] := rfl
  rw [hf0] at hF4 cF
  have cF : w4.cell? ⟨w.heap.size + 1, 0, none⟩ = some (.func (.func 62) #[] #[.pointer (some ⟨w.heap.size + 1, 0, none⟩), .pointer (some ⟨w.heap.size, 0, none⟩)]) := by simpa using cF
  clear hf0
  go_wp2_with fail
  refine (path1_any x w.heap.size (w.heap.size + 1) 101 ls.length ls i (Nat.le_refl _) (by omega) h62 (by omega) Hall.out _ w4 (hv.next hb4) (hG.next hb4) hX4 hF4).mono ?_
  rintro e w5 ⟨u, rfl, hown, hb1⟩
  have hbel := hb4.trans (hb1.mono hb4.size)
  have hown := own_base hown hb4.size
  have Hf := Lib.hid (And.intro hown hbel)
  clear hb1 hF4 hX4 cF hb4 hown hbel
  go_wp2_with fail
  go_ret2
  exact ⟨_, rfl, Hf.out.1, Hf.out.2⟩
end Go.Proofs.YtbhmmoecoijojaaDoor
