/- The walks of merkle's Root and its inner function. No condition. -/
import Derived.Test.YtbhmmoecoijojaaDoorMerkP
import Derived.Test.YtbhmmoecoijojaaDoorMake
namespace Go.Proofs.YtbhmmoecoijojaaDoor
open Go.RowKit
attribute [local irreducible] mixW
attribute [local go_sem] n8_lo n8_hi n64_lo n64_hi n32_lo n32_hi
section
variable {w : World} {B : Nat} {A : Option Addr} {n cap : Nat} {ls : List (List UInt8)}
theorem SSl.lens (h : SSl w B (.slice A n cap) ls) : n = ls.length ∧ ls.length ≤ cap := by
  obtain ⟨A', cap', vs, e1, h1, h2, _⟩ := h
  injection e1 with _ e1 e2
  exact ⟨e1, by omega⟩
theorem SSl.take (h : SSl w B (.slice A n cap) ls) (k : Nat) (hk : k ≤ n) : SSl w B (.slice A k cap) (ls.take k) := by
  obtain ⟨A', cap', vs, e1, h1, h2, h3, h4, h5⟩ := h
  injection e1 with e1 e2 e3
  subst e1; subst e3; subst e2
  have hl : (ls.take k).length = k := by rw [List.length_take]; omega
  refine ⟨A, cap, vs.take k, by rw [hl], by omega, h2, h3.take k, by rw [List.length_take, hl]; omega, fun i hi => ?_⟩
  rw [hl] at hi
  have := h5 i (by omega)
  rw [List.getD_eq_getElem?_getD, List.getD_eq_getElem?_getD] at this ⊢
  rw [List.getElem?_take, if_pos hi, List.getElem?_take, if_pos hi]
  exact this
theorem SSl.drop (h : SSl w B (.slice A n cap) ls) (k : Nat) (hk : k ≤ n) : SSl w B (cutV A cap k n) (ls.drop k) := by
  obtain ⟨A', cap', vs, e1, h1, h2, h3, h4, h5⟩ := h
  injection e1 with e1 e2 e3
  subst e1; subst e3; subst e2
  have hl : (ls.drop k).length = ls.length - k := by rw [List.length_drop]
  refine ⟨_, cap - k, vs.drop k, by unfold cutV; rw [hl], by omega, by omega, h3.cut (k := k) (cap := cap) (by omega) (by omega), by rw [List.length_drop, hl]; omega, fun i hi => ?_⟩
  rw [hl] at hi
  have := h5 (k + i) (by omega)
  rw [List.getD_eq_getElem?_getD, List.getD_eq_getElem?_getD] at this ⊢
  rw [List.getElem?_drop, List.getElem?_drop]
  exact this
/-- an element of a slice of slices -/
theorem SSl.cellAt (h : SSl w B (.slice A n cap) ls) (k : Nat) (hk : k < ls.length) : ∃ b off u, A = some ⟨b, off, none⟩ ∧ b < B ∧ w.cell? ⟨b, off + k, none⟩ = some u ∧ BSl w B u (ls.getD k []) := by
  obtain ⟨A', cap', vs, e1, h1, h2, h3, h4, h5⟩ := h
  injection e1 with e1 e2 e3
  subst e1
  obtain ⟨b, off, e, hb, hc⟩ := h3 (by omega)
  refine ⟨b, off, vs.getD k undef, e, hb, hc k _ ?_, h5 k hk⟩
  rw [List.getD_eq_getElem?_getD, List.getElem?_eq_getElem (show k < vs.length by omega)]; rfl
end
set_option maxHeartbeats 1000000 in
set_option maxRecDepth 100000 in
theorem mroot1_any (x : Int) (wb fb : Nat) (ft : TypeId) : ∀ (N : Nat) (ls : List (List UInt8)), ls.length ≤ N → 1 ≤ ls.length → ls.length ≤ 4611686018427387904 → (∀ b ∈ ls, b.length ≤ 140737488355200) → ∀ (v : Value) (w : World), SSl w w.heap.size v ls → Glob w →
    Blk w wb 3 #[.int .i64 x] → Blk w fb ft #[.func (.func 54) #[] #[.pointer (some ⟨wb, 0, none⟩), .pointer (some ⟨fb, 0, none⟩)]] →
    Calls Tryd.prog 54 #[v, .pointer (some ⟨wb, 0, none⟩), .pointer (some ⟨fb, 0, none⟩)] w fun e w' => e = .returned (.agg (dat (rootM (cutW x) ls))) ∧ Below w.heap.size w w' := by
  intro N
  induction N with
  | zero => intro ls h1 h2; omega
  | succ N ih =>
    intro ls hN h1 h62 hall v w hv hG hW hF
    have IH := Lib.hid ih
    have Hall := Lib.hid hall
    clear ih hall
    have hD := Blk.new w 27 (arr 32 fun _ => 0)
    have hb0 := below_new1 w (Obj.cells (arr 32 fun _ => 0) 27)
    obtain ⟨A, cap, vs, rfl, h2, h3, h4, h5, h6⟩ := hv
    have hv : SSl w w.heap.size (.slice A ls.length cap) ls := ⟨A, cap, vs, rfl, h2, h3, h4, h5, h6⟩
    clear h4 h5 h6 vs
    go_enter Tryd.func54, Tryd.ntmps54
    by_cases hone : ls.length = 1
    · have e1 : ((ls.length : Int) == 1) = true := by rw [beq_iff_eq]; omega
      go_upto_region 2 with fail
      refine wp_at (fun W => Blk W w.heap.size 27 (arr 32 fun _ => 0) ∧ Below w.heap.size w W) ⟨hD, hb0⟩ ?_
      clear hD hb0
      rintro W ⟨hD, hbel⟩
      have Hr := Lib.hid (rootM_single (cutW x) ls hone)
      have hlt : (0 : Int) < (ls.length : Int) := by omega
      refine wp_region_mixT 5 (.plain 0 <| .plain 1 <| .plain 2 <| .plain 3 <| .only 4 <| .done) (by kernel_rfl) (by kernel_rfl) (fun W1 hb1 => ?_)
      replace hD := hD.below hb1 hD.lt
      replace hbel := hbel.trans (hb1.mono hbel.size)
      clear hb1
      obtain ⟨b0, off, u, rfl, hb0, hcu, hu⟩ := (hv.next hbel).cellAt 0 (by omega)
      have Hlb : Hid ((ls.getD 0 []).length ≤ 140737488355200) := Lib.hid (Hall.out _ (by rw [List.getD_eq_getElem?_getD, List.getElem?_eq_getElem (show 0 < ls.length by omega)]; exact List.getElem_mem _))
      have cW : W1.cell? ⟨wb, 0, none⟩ = some (.int .i64 x) := by
        have := (hW.below hbel hW.lt).cell 0
        simpa using this
      have hwl : wb < W1.heap.size := (hW.below hbel hW.lt).lt
      rw [Nat.add_zero] at hcu
      clear hone e1 hv hN h1 h62 h2 h3
      iterate 4 (refine mix_plain rfl ?_; (first
        | (refine wpQuiet_load1 rfl _ (.tmp 1) rfl _ rfl _ Tryd.underlying3 rfl _ (fun _ ⟨e, he⟩ => by rw [he, plus_cell _ _ _ hwl]; exact cW) ?_; simp only [Act.put, List.setIfInBounds_toArray, List.set_cons_zero, List.set_cons_succ])
        | (refine wpQuiet_load1 rfl _ (.tmp 11) rfl _ rfl _ Tryd.underlying32 rfl _ (fun _ ⟨e, he⟩ => by rw [he, plus_cell _ _ _ hb0]; exact hcu) ?_; simp only [Act.put, List.setIfInBounds_toArray, List.set_cons_zero, List.set_cons_succ])
        | go_big_quiet_step (fail)); refine wpQuiet_nil ?_)
      refine mix_only rfl (fun K hK => ?_)
      go_wp2_with fail
      refine (mleaf_any x u (ls.getD 0 []) W1 hu Hlb.out (hG.next hbel)).mono ?_
      rintro e W2 ⟨rfl, hb1⟩
      go_wp2_with fail
      refine hK _ _ hb1 ?_
      clear hK K hcu cW hu
      replace hD := hD.below hb1 hD.lt
      replace hbel := hbel.trans (hb1.mono hbel.size)
      clear hb1
      refine mix_done ?_
      simp only [List.drop_succ_cons, List.drop_zero]
      refine wpList_storeDat rfl rfl 27 (.tmp 4) (.tmp 13) rfl w.heap.size rfl _ _ rfl _ hD (by kernel_rfl) ?_
      intro w10 hD10 hon10
      have hb10 := below_only hbel hon10 (Nat.le_refl _) hbel.size
      go_wp2
      refine bodyPost_ret (results_cell_row (p := 4) (ty := 27) rfl _ _ w.heap.size _ _ _ _ rfl hD10 Tryd.underlying27 rfl (by rw [dat_size]; kernel_rfl)) rfl ⟨?_, hb10⟩
      rw [Hr.out]; rfl
    · have e1 : ((ls.length : Int) == 1) = false := by rw [beq_eq_false_iff_ne]; omega
      go_wp2_with fail
      refine calls_at (fun W => Blk W w.heap.size 27 (arr 32 fun _ => 0) ∧ Below w.heap.size w W) ⟨hD, hb0⟩ ?_
      clear hD hb0
      rintro W ⟨hD, hbel⟩
      have h2l : 2 ≤ ls.length := by omega
      refine (half_any ls.length h2l h62 W).mono ?_
      rintro e _ ⟨rfl, rfl⟩
      have Hp := Lib.hid (half_parts ls h2l)
      have Hr := Lib.hid (rootM_node (cutW x) ls h2l)
      obtain ⟨p, hp⟩ : ∃ p, rootM (cutW x) (ls.take (halfN ls.length)) = p := ⟨_, rfl⟩
      obtain ⟨q, hq⟩ : ∃ q, rootM (cutW x) (ls.drop (halfN ls.length)) = q := ⟨_, rfl⟩
      have Hpq : Hid (p.length = 32 ∧ q.length = 32 ∧ rootM (cutW x) ls = nodeM (cutW x) p q) := Lib.hid ⟨by rw [← hp]; exact rootM_length _ _, by rw [← hq]; exact rootM_length _ _, by rw [Hr.out, hp, hq]⟩
      have Hp0 := Lib.hid hp
      have Hq0 := Lib.hid hq
      clear hp hq Hr e1 hone h2l
      obtain ⟨k, hk⟩ : ∃ k, halfN ls.length = k := ⟨_, rfl⟩
      rw [hk] at Hp Hp0 Hq0 ⊢
      clear hk
      have hkl : (k : Int) ≤ (ls.length : Int) := by have := Hp.out; omega
      have hk0 : (0 : Int) ≤ (k : Int) := by omega
      have hkc : (k : Int) ≤ (cap : Int) := by omega
      go_wp2_with fail
      refine wp_region_mixT 12 (.plain 0 <| .plain 1 <| .plain 2 <| .plain 3 <| .plain 4 <| .plain 6 <| .plain 7 <| .plain 8 <| .plain 9 <| .only 5 <| .only 10 <| .only 11 <| .done) (by kernel_rfl) (by kernel_rfl) (fun W1 hb1 => ?_)
      replace hD := hD.below hb1 hD.lt
      replace hbel := hbel.trans (hb1.mono hbel.size)
      clear hb1
      have cW : W1.cell? ⟨wb, 0, none⟩ = some (.int .i64 x) := by
        have := (hW.below hbel hW.lt).cell 0
        simpa using this
      have cF : W1.cell? ⟨fb, 0, none⟩ = some (.func (.func 54) #[] #[.pointer (some ⟨wb, 0, none⟩), .pointer (some ⟨fb, 0, none⟩)]) := by
        have := (hF.below hbel hF.lt).cell 0
        simpa using this
      have hwl : wb < W1.heap.size := (hW.below hbel hW.lt).lt
      have hfl : fb < W1.heap.size := (hF.below hbel hF.lt).lt
      have hv1 := hv.next hbel
      have hT := hv1.take k (by omega)
      have hR := hv1.drop k (by omega)
      clear hv hv1
      iterate 9 (refine mix_plain rfl ?_; (first
        | (refine wpQuiet_load1 rfl _ (.tmp 1) rfl _ rfl _ Tryd.underlying3 rfl _ (fun _ ⟨e, he⟩ => by rw [he, plus_cell _ _ _ hwl]; exact cW) ?_; simp only [Act.put, List.setIfInBounds_toArray, List.set_cons_zero, List.set_cons_succ])
        | (refine wpQuiet_load1 rfl _ (.tmp 2) rfl _ rfl _ Tryd.underlying36 rfl _ (fun _ ⟨e, he⟩ => by rw [he, plus_cell _ _ _ hfl]; exact cF) ?_; simp only [Act.put, List.setIfInBounds_toArray, List.set_cons_zero, List.set_cons_succ])
        | (refine wpQuiet_cutL rfl _ (.tmp 24) (.tmp 25) rfl 32 Tryd.underlying24 (by kernel_rfl) A ls.length cap k rfl rfl (by omega) ?_; simp only [Act.put, List.setIfInBounds_toArray, List.set_cons_zero, List.set_cons_succ])
        | go_big_quiet_step (fail)); refine wpQuiet_nil ?_)
      have hW1 := hW.below hbel hW.lt
      have hF1 := hF.below hbel hF.lt
      clear cW cF hwl hfl hW hF
      refine mix_only rfl (fun K hK => ?_)
      go_wp2_with fail
      refine (IH.out (ls.take k) (by have := Hp.out; omega) (by have := Hp.out; omega) (by have := Hp.out; omega) (fun b hb => Hall.out b (List.mem_of_mem_take hb)) _ W1 hT (hG.next hbel) hW1 hF1).mono ?_
      rintro e W2 ⟨rfl, hb1⟩
      rw [Hp0.out]
      go_wp2_with fail
      refine hK _ _ hb1 ?_
      clear hK K hT
      replace hD := hD.below hb1 hD.lt
      replace hR := hR.next hb1
      replace hW1 := hW1.below hb1 hW1.lt
      replace hF1 := hF1.below hb1 hF1.lt
      replace hbel := hbel.trans (hb1.mono hbel.size)
      clear hb1
      refine mix_only rfl (fun K hK => ?_)
      go_wp2_with fail
      refine (IH.out (ls.drop k) (by have := Hp.out; omega) (by have := Hp.out; omega) (by have := Hp.out; omega) (fun b hb => Hall.out b (List.mem_of_mem_drop hb)) _ W2 hR (hG.next hbel) hW1 hF1).mono ?_
      rintro e W3 ⟨rfl, hb1⟩
      rw [Hq0.out]
      go_wp2_with fail
      refine hK _ _ hb1 ?_
      clear hK K hR hW1 hF1
      replace hD := hD.below hb1 hD.lt
      replace hbel := hbel.trans (hb1.mono hbel.size)
      clear hb1
      refine mix_only rfl (fun K hK => ?_)
      go_wp2_with fail
      refine (mnode_any x p q Hpq.out.1 Hpq.out.2.1 W3 (hG.next hbel)).mono ?_
      rintro e W4 ⟨rfl, hb1⟩
      go_wp2_with fail
      refine hK _ _ hb1 ?_
      clear hK K
      replace hD := hD.below hb1 hD.lt
      replace hbel := hbel.trans (hb1.mono hbel.size)
      clear hb1
      refine mix_done ?_
      simp only [List.drop_succ_cons, List.drop_zero]
      refine wpList_storeDat rfl rfl 27 (.tmp 4) (.tmp 28) rfl w.heap.size rfl _ _ rfl _ hD (by kernel_rfl) ?_
      intro w10 hD10 hon10
      have hb10 := below_only hbel hon10 (Nat.le_refl _) hbel.size
      go_wp2
      refine bodyPost_ret (results_cell_row (p := 4) (ty := 27) rfl _ _ w.heap.size _ _ _ _ rfl hD10 Tryd.underlying27 rfl (by rw [dat_size]; kernel_rfl)) rfl ⟨?_, hb10⟩
      rw [Hpq.out.2.2]
set_option maxHeartbeats 400000 in
set_option maxRecDepth 100000 in
theorem mroot_any (x : Int) (v : Value) (ls : List (List UInt8)) (w : World) (hv : SSl w w.heap.size v ls) (h62 : ls.length ≤ 4611686018427387904) (hall : ∀ b ∈ ls, b.length ≤ 140737488355200) (hG : Glob w) :
    Calls Tryd.prog 16 #[.int .i64 x, v] w fun e w' => e = .returned (.agg (dat (rootM (cutW x) ls))) ∧ Below w.heap.size w w' := by
  have Hall := Lib.hid hall
  clear hall
  obtain ⟨A, cap, vs, rfl, h2, h3, h4, h5, h6⟩ := hv
  have hv : SSl w w.heap.size (.slice A ls.length cap) ls := ⟨A, cap, vs, rfl, h2, h3, h4, h5, h6⟩
  clear h4 h5 h6 vs
  have hX := (Blk.new w 3 #[.int .i64 x]).alloc (Obj.cells (arr 32 fun _ => 0) 27)
  have hD := Blk.new2 w (Obj.cells #[.int .i64 x] 3) 27 (arr 32 fun _ => 0)
  have hb2 := (below_new1 w (Obj.cells #[.int .i64 x] 3)).alloc (by simp) (Obj.cells (arr 32 fun _ => 0) 27)
  go_enter Tryd.func16, Tryd.ntmps16
  by_cases h0 : ls.length = 0
  · have hnil : ls = [] := List.eq_nil_of_length_eq_zero h0
    subst hnil
    go_wp2_with fail
    refine calls_at (fun W => Blk W (w.heap.size + 1) 27 (arr 32 fun _ => 0) ∧ Below w.heap.size w W) ⟨hD, hb2⟩ ?_
    clear hX hD hb2
    rintro W ⟨hD, hbel⟩
    refine (msum_any x _ [] W BSl.nil_ (by simp) (hG.next hbel)).mono ?_
    rintro e w1 ⟨rfl, hb1⟩
    replace hD := hD.below hb1 hD.lt
    replace hbel := hbel.trans (hb1.mono hbel.size)
    clear hb1
    go_wp2_with (first
      | (refine wpList_storeDat rfl rfl 27 (.tmp 4) (.tmp 10) rfl (w.heap.size + 1) rfl _ _ rfl _ hD (by kernel_rfl) ?_; intro w10 hD10 hon10))
    have hb10 := below_only hbel hon10 (by omega) hbel.size
    exact bodyPost_ret (results_cell_row (p := 4) (ty := 27) rfl _ _ (w.heap.size + 1) _ _ _ _ rfl hD10 Tryd.underlying27 rfl (by rw [dat_size]; kernel_rfl)) rfl ⟨rfl, hb10⟩
  · have e1 : ((ls.length : Int) == 0) = false := by rw [beq_eq_false_iff_ne]; omega
    have hmf : ∀ (fn : Fn) (first cap : Array Value) (w : World), (Instr.makeFunc fn first cap).run Tryd.prog w = .ok (.func fn first cap) w := fun _ _ _ _ => rfl
    have hF := Blk.new3 w (Obj.cells #[.int .i64 x] 3) (Obj.cells (arr 32 fun _ => 0) 27) 36 #[.nilFunc]
    have hX3 := hX.alloc (Obj.cells #[.nilFunc] 36)
    have hD3 := hD.alloc (Obj.cells #[.nilFunc] 36)
    have hb3 := hb2.alloc hb2.size (Obj.cells #[.nilFunc] 36)
    clear hX hD hb2
    go_upto_region 5 with (first
      | (refine wpList_store1 rfl rfl _ (.tmp 5) (.tmp 11) rfl (w.heap.size + 2) 0 rfl (.func (.func 54) #[] #[.pointer (some ⟨w.heap.size, 0, none⟩), .pointer (some ⟨w.heap.size + 2, 0, none⟩)]) rfl _ _ hF (by kernel_rfl) (by simp) rfl rfl ?_; intro w4 hF4 hon4))
    have hb4 := below_only hb3 hon4 (by omega) hb3.size
    have hX4 := hX3.grown hon4 (by simp)
    have hD4 := hD3.grown hon4 (by simp)
    clear hF hX3 hD3 hb3 hon4 hmf e1
    have cF := hF4.cell 0
    have hf0 : (#[Value.nilFunc].setIfInBounds 0 (.func (.func 54) #[] #[.pointer (some ⟨w.heap.size, 0, none⟩), .pointer (some ⟨w.heap.size + 2, 0, none⟩)])) = #[Value.func (.func 54) #[] #[.pointer (some ⟨w.heap.size, 0, none⟩), .pointer (some ⟨w.heap.size + 2, 0, none⟩)]] := rfl
    rw [hf0] at hF4 cF
    have cF : w4.cell? ⟨w.heap.size + 2, 0, none⟩ = some (.func (.func 54) #[] #[.pointer (some ⟨w.heap.size, 0, none⟩), .pointer (some ⟨w.heap.size + 2, 0, none⟩)]) := by simpa using cF
    clear hf0
    go_wp2_with fail
    refine (mroot1_any x w.heap.size (w.heap.size + 2) 36 ls.length ls (Nat.le_refl _) (by omega) h62 Hall.out _ w4 (hv.next hb4) (hG.next hb4) hX4 hF4).mono ?_
    rintro e w5 ⟨rfl, hb1⟩
    replace hD4 := hD4.below hb1 hD4.lt
    have hbel := hb4.trans (hb1.mono hb4.size)
    clear hb1 hF4 hX4 cF hb4
    go_wp2_with (first
      | (refine wpList_storeDat rfl rfl 27 (.tmp 4) (.tmp 14) rfl (w.heap.size + 1) rfl _ _ rfl _ hD4 (by kernel_rfl) ?_; intro w10 hD10 hon10))
    have hb10 := below_only hbel hon10 (by omega) hbel.size
    exact bodyPost_ret (results_cell_row (p := 4) (ty := 27) rfl _ _ (w.heap.size + 1) _ _ _ _ rfl hD10 Tryd.underlying27 rfl (by rw [dat_size]; kernel_rfl)) rfl ⟨rfl, hb10⟩
end Go.Proofs.YtbhmmoecoijojaaDoor
