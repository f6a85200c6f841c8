/- Texts that stand behind one another: MerkQ, Same8, DX. No condition. -/
import Derived.Test.YtppglfgggfkcmaaDoorP6
import Derived.Test.YtppglfgggfkcmaaDoorP5
import Derived.Test.YtppglfgggfkcmaaDoorP10
import Derived.Test.YtppglfgggfkcmaaDoorP9
/- The walks of merkle's Prove and its inner function. No condition. -/
namespace Go.Proofs.YtppglfgggfkcmaaDoor
open Go Go.RowKit
attribute [local irreducible] mixW
attribute [local go_sem] n8_lo n8_hi n64_lo n64_hi n32_lo n32_hi
set_option maxHeartbeats 1000000 in
set_option maxRecDepth 100000 in
theorem path1_any (x : Int) (wb fb : Nat) (ft : TypeId) : ∀ (N : Nat) (ls : List (List UInt8)) (i : Nat), ls.length ≤ N → 1 ≤ ls.length → ls.length ≤ 4611686018427387904 → i ≤ 4611686018427387904 → (∀ b ∈ ls, b.length ≤ 140737488355200) → ∀ (v : Value) (w : World), SSl w w.heap.size v ls → Glob w →
    Blk w wb 3 #[.int .i64 x] → Blk w fb ft #[.func (.func 56) #[] #[.pointer (some ⟨fb, 0, none⟩), .pointer (some ⟨wb, 0, none⟩)]] →
    Calls Tryd.prog 56 #[v, .int .i64 i, .pointer (some ⟨fb, 0, none⟩), .pointer (some ⟨wb, 0, none⟩)] w fun e w' => ∃ u, e = .returned u ∧ w'.ownsRow w.heap.size 26 32 u (pathM (cutW x) ls i).length (dcells (pathM (cutW x) ls i)) ∧ Below w.heap.size w w' := by
  intro N
  induction N with
  | zero => intro ls i h1 h2; omega
  | succ N ih =>
    intro ls i hN h1 h62 hi62 hall v w hv hG hW hF
    have IH := Lib.hid ih
    have Hall := Lib.hid hall
    clear ih hall
    obtain ⟨A, cap, vs, rfl, h2, h3, h4, h5, h6⟩ := hv
    have hv : SSl w w.heap.size (.slice A ls.length cap) ls := ⟨A, cap, vs, rfl, h2, h3, h4, h5, h6⟩
    clear h4 h5 h6 vs
    go_enter Tryd.func56, Tryd.ntmps56
    by_cases hone : ls.length = 1
    · have e1 : ((ls.length : Int) == 1) = true := by rw [beq_iff_eq]; omega
      have Hp1 := Lib.hid (pathM_one (cutW x) ls i (by omega))
      clear hone
      go_wp2_with fail
      go_ret
      rw [Hp1.out]
      exact ⟨_, rfl, World.ownsRow_nil _ _ _ _, Below.refl _ _⟩
    have e1 : ((ls.length : Int) == 1) = false := by rw [beq_eq_false_iff_ne]; omega
    go_wp2_with fail
    have h2l : 2 ≤ ls.length := by omega
    refine (half_any ls.length h2l h62 w).mono ?_
    rintro e _ ⟨rfl, rfl⟩
    have Hp := Lib.hid (half_parts ls h2l)
    have Hn := Lib.hid (pathM_node (cutW x) ls i h2l)
    clear e1 hone h2l
    obtain ⟨k, hk⟩ : ∃ k, halfN ls.length = k := ⟨_, rfl⟩
    rw [hk] at Hp Hn ⊢
    clear hk
    have hkl : (k : Int) ≤ (ls.length : Int) := by have := Hp.out; omega
    have hk0 : (0 : Int) ≤ (k : Int) := by omega
    have hkc : (k : Int) ≤ (cap : Int) := by omega
    have hbel := Below.refl w.heap.size w
    by_cases hik : i < k
    · have hik' : (i : Int) < (k : Int) := by omega
      go_wp2_with fail
      refine wp_region_mixP (.plain 0 <| .plain 1 <| .plain 2 <| .plain 3 <| .plain 4 <| .plain 6 <| .plain 7 <| .plain 8 <| .plain 9 <| .only 5 <| .only 10 <| .only 11 <| .only 12 <| .plain 13 <| .done) (by kernel_rfl) (by kernel_rfl) (fun W1 hb1 => ?_)
      replace hbel := hbel.trans (hb1.mono hbel.size)
      clear hb1
      have cW : W1.cell? ⟨wb, 0, none⟩ = some (.int .i64 x) := by
        have := (hW.below hbel hW.lt).cell 0
        simpa using this
      have cF : W1.cell? ⟨fb, 0, none⟩ = some (.func (.func 56) #[] #[.pointer (some ⟨fb, 0, none⟩), .pointer (some ⟨wb, 0, none⟩)]) := by
        have := (hF.below hbel hF.lt).cell 0
        simpa using this
      have hwl : wb < W1.heap.size := (hW.below hbel hW.lt).lt
      have hfl : fb < W1.heap.size := (hF.below hbel hF.lt).lt
      have hW1 := hW.below hbel hW.lt
      have hF1 := hF.below hbel hF.lt
      have hv1 := hv.next hbel
      have hT := hv1.take k (by omega)
      have hR := hv1.drop k (by omega)
      clear hv hv1 hW hF
      iterate 9 (refine mix_plain rfl ?_; (first
        | (refine wpQuiet_load1 rfl _ (.tmp 3) rfl _ rfl _ Tryd.underlying3 rfl _ (fun _ ⟨e, he⟩ => by rw [he, plus_cell _ _ _ hwl]; exact cW) ?_; simp only [Act.put, List.setIfInBounds_toArray, List.set_cons_zero, List.set_cons_succ])
        | (refine wpQuiet_load1 rfl _ (.tmp 2) rfl _ rfl _ Tryd.underlying95 rfl _ (fun _ ⟨e, he⟩ => by rw [he, plus_cell _ _ _ hfl]; exact cF) ?_; simp only [Act.put, List.setIfInBounds_toArray, List.set_cons_zero, List.set_cons_succ])
        | (refine wpQuiet_cutL rfl _ (.tmp 24) (.tmp 25) rfl 22 Tryd.underlying38 (by kernel_rfl) A ls.length cap k rfl rfl (by omega) ?_; simp only [Act.put, List.setIfInBounds_toArray, List.set_cons_zero, List.set_cons_succ])
        | go_big_quiet_step (fail)); refine wpQuiet_nil ?_)
      clear cW cF hwl hfl
      obtain ⟨B0, hB0⟩ : ∃ B0, B0 = W1.heap.size := ⟨_, rfl⟩
      have HB0 := Lib.hid hB0
      have hb : Below B0 W1 W1 := by rw [hB0]; exact Below.refl _ _
      clear hB0
      refine mix_only_in rfl (fun K hK => ?_)
      go_wp2_with fail
      refine (IH.out (ls.take k) i (by have := Hp.out; omega) (by have := Hp.out; omega) (by have := Hp.out; omega) (by have := Hp.out; omega) (fun b hb => Hall.out b (List.mem_of_mem_take hb)) _ W1 hT (hG.next hbel) hW1 hF1).mono ?_
      rintro e W2 ⟨u2, rfl, hown, hb1⟩
      rw [← HB0.out] at hown hb1
      replace hb := hb1
      go_wp2_with fail
      refine hK _ _ (below_plusN HB0 hb) ?_
      clear hK K hb1
      have hR := hR.next (show Below W1.heap.size W1 W2 by rw [← HB0.out]; exact hb)
      refine mix_only_in rfl (fun K hK => ?_)
      go_wp2_with fail
      refine (mroot_any x _ (ls.drop k) W2 hR (by have := Hp.out; omega) (fun b hb => Hall.out b (List.mem_of_mem_drop hb)) (hG.next (hbel.trans ((show Below W1.heap.size W1 W2 by rw [← HB0.out]; exact hb).mono hbel.size)))).mono ?_
      rintro e W3 ⟨rfl, hb1⟩
      replace hown := own_below hown hb1
      replace hb := hb.trans (hb1.mono (below_sizeN HB0 hb))
      go_wp2_with fail
      refine hK _ _ (below_plusN HB0 hb) ?_
      clear hK K hb1 hR
      obtain ⟨d, hd⟩ : ∃ d, rootM (cutW x) (ls.drop k) = d := ⟨_, rfl⟩
      have Hd := Lib.hid hd
      rw [hd]
      clear hd
      refine mix_only_in rfl (fun K hK => ?_)
      refine wpList_buildD rfl (.tmp 27) rfl d rfl ?_
      simp only [Act.put, List.setIfInBounds_toArray, List.set_cons_zero, List.set_cons_succ]
      have hX := Blk.new W3 26 (dat d)
      have hn1 := below_new1 W3 (Obj.cells (dat d) 26)
      replace hown := own_below hown hn1
      replace hb := hb.trans (hn1.mono (below_sizeN HB0 hb))
      refine hK _ _ (below_plusN HB0 hb) ?_
      clear hK K hn1
      refine mix_atC (fun V => Below B0 W1 V ∧ Blk V W3.heap.size 26 (dat d) ∧ V.ownsRow B0 26 32 u2 (pathM (cutW x) (ls.take k) i).length (dcells (pathM (cutW x) (ls.take k) i))) ⟨hb, hX, hown⟩ ?_
      clear hb hX hown
      rintro V ⟨hb, hX, hown⟩
      refine mix_only_in rfl (fun K hK => ?_)
      refine wpList_appendDig rfl (.tmp 22) (.tmp 28) rfl B0 u2 (pathM (cutW x) (ls.take k) i) rfl hown W3.heap.size d rfl hX (by have h62' := pathM_depth (cutW x) 62 (ls.take k) i (by have := Hp.out; omega); omega) (below_sizeN HB0 hb) ?_
      intro u5 W5 hown5 hg5
      simp only [Act.put, List.setIfInBounds_toArray, List.set_cons_zero, List.set_cons_succ]
      have hb5 := below_own hb hown hg5 (below_sizeN HB0 hb)
      refine hK _ _ (below_plusN HB0 hb5) ?_
      clear hK K hb hX hown hg5
      iterate 1 (refine mix_plain rfl ?_; go_big_quiet_step (fail); refine wpQuiet_nil ?_)
      refine mix_done ?_
      have hbf := hbel.trans ((show Below W1.heap.size W1 W5 by rw [← HB0.out]; exact hb5).mono hbel.size)
      have hownf := own_base hown5 (show w.heap.size ≤ B0 by rw [HB0.out]; exact hbel.size)
      have hpn := Hn.out
      rw [if_pos hik, Hd.out] at hpn
      rw [← hpn] at hownf
      have Hf := Lib.hid (And.intro hownf hbf)
      clear hownf hbf hpn hown5 hb5
      go_wp2_with fail
      go_ret
      exact ⟨_, rfl, Hf.out.1, Hf.out.2⟩
    · have hik' : ¬ ((i : Int) < (k : Int)) := by omega
      have hsub : (i : Int) - (k : Int) = ((i - k : Nat) : Int) := by omega
      go_wp2_with fail
      refine wp_region_mixP (.plain 0 <| .plain 1 <| .plain 2 <| .plain 3 <| .plain 4 <| .plain 5 <| .plain 6 <| .plain 8 <| .plain 9 <| .plain 10 <| .plain 11 <| .only 7 <| .only 12 <| .only 13 <| .only 14 <| .plain 15 <| .done) (by kernel_rfl) (by kernel_rfl) (fun W1 hb1 => ?_)
      replace hbel := hbel.trans (hb1.mono hbel.size)
      clear hb1
      have cW : W1.cell? ⟨wb, 0, none⟩ = some (.int .i64 x) := by
        have := (hW.below hbel hW.lt).cell 0
        simpa using this
      have cF : W1.cell? ⟨fb, 0, none⟩ = some (.func (.func 56) #[] #[.pointer (some ⟨fb, 0, none⟩), .pointer (some ⟨wb, 0, none⟩)]) := by
        have := (hF.below hbel hF.lt).cell 0
        simpa using this
      have hwl : wb < W1.heap.size := (hW.below hbel hW.lt).lt
      have hfl : fb < W1.heap.size := (hF.below hbel hF.lt).lt
      have hW1 := hW.below hbel hW.lt
      have hF1 := hF.below hbel hF.lt
      have hv1 := hv.next hbel
      have hT := hv1.take k (by omega)
      have hR := hv1.drop k (by omega)
      clear hv hv1 hW hF
      iterate 11 (refine mix_plain rfl ?_; (first
        | (refine wpQuiet_load1 rfl _ (.tmp 3) rfl _ rfl _ Tryd.underlying3 rfl _ (fun _ ⟨e, he⟩ => by rw [he, plus_cell _ _ _ hwl]; exact cW) ?_; simp only [Act.put, List.setIfInBounds_toArray, List.set_cons_zero, List.set_cons_succ])
        | (refine wpQuiet_load1 rfl _ (.tmp 2) rfl _ rfl _ Tryd.underlying95 rfl _ (fun _ ⟨e, he⟩ => by rw [he, plus_cell _ _ _ hfl]; exact cF) ?_; simp only [Act.put, List.setIfInBounds_toArray, List.set_cons_zero, List.set_cons_succ])
        | (refine wpQuiet_cutL rfl _ (.tmp 31) (.tmp 32) rfl 22 Tryd.underlying38 (by kernel_rfl) A ls.length cap k rfl rfl (by omega) ?_; simp only [Act.put, List.setIfInBounds_toArray, List.set_cons_zero, List.set_cons_succ])
        | go_big_quiet_step (fail)); refine wpQuiet_nil ?_)
      clear cW cF hwl hfl
      obtain ⟨B0, hB0⟩ : ∃ B0, B0 = W1.heap.size := ⟨_, rfl⟩
      have HB0 := Lib.hid hB0
      have hb : Below B0 W1 W1 := by rw [hB0]; exact Below.refl _ _
      clear hB0
      refine mix_only_in rfl (fun K hK => ?_)
      go_wp2_with fail
      refine (IH.out (ls.drop k) (i - k) (by have := Hp.out; omega) (by have := Hp.out; omega) (by have := Hp.out; omega) (by have := Hp.out; omega) (fun b hb => Hall.out b (List.mem_of_mem_drop hb)) _ W1 hR (hG.next hbel) hW1 hF1).mono ?_
      rintro e W2 ⟨u2, rfl, hown, hb1⟩
      rw [← HB0.out] at hown hb1
      replace hb := hb1
      go_wp2_with fail
      refine hK _ _ (below_plusN HB0 hb) ?_
      clear hK K hb1
      have hT := hT.next (show Below W1.heap.size W1 W2 by rw [← HB0.out]; exact hb)
      refine mix_only_in rfl (fun K hK => ?_)
      go_wp2_with fail
      refine (mroot_any x _ (ls.take k) W2 hT (by have := Hp.out; omega) (fun b hb => Hall.out b (List.mem_of_mem_take hb)) (hG.next (hbel.trans ((show Below W1.heap.size W1 W2 by rw [← HB0.out]; exact hb).mono hbel.size)))).mono ?_
      rintro e W3 ⟨rfl, hb1⟩
      replace hown := own_below hown hb1
      replace hb := hb.trans (hb1.mono (below_sizeN HB0 hb))
      go_wp2_with fail
      refine hK _ _ (below_plusN HB0 hb) ?_
      clear hK K hb1 hT
      obtain ⟨d, hd⟩ : ∃ d, rootM (cutW x) (ls.take k) = d := ⟨_, rfl⟩
      have Hd := Lib.hid hd
      rw [hd]
      clear hd
      refine mix_only_in rfl (fun K hK => ?_)
      refine wpList_buildD rfl (.tmp 42) rfl d rfl ?_
      simp only [Act.put, List.setIfInBounds_toArray, List.set_cons_zero, List.set_cons_succ]
      have hX := Blk.new W3 26 (dat d)
      have hn1 := below_new1 W3 (Obj.cells (dat d) 26)
      replace hown := own_below hown hn1
      replace hb := hb.trans (hn1.mono (below_sizeN HB0 hb))
      refine hK _ _ (below_plusN HB0 hb) ?_
      clear hK K hn1
      refine mix_atC (fun V => Below B0 W1 V ∧ Blk V W3.heap.size 26 (dat d) ∧ V.ownsRow B0 26 32 u2 (pathM (cutW x) (ls.drop k) (i - k)).length (dcells (pathM (cutW x) (ls.drop k) (i - k)))) ⟨hb, hX, hown⟩ ?_
      clear hb hX hown
      rintro V ⟨hb, hX, hown⟩
      refine mix_only_in rfl (fun K hK => ?_)
      refine wpList_appendDig rfl (.tmp 37) (.tmp 43) rfl B0 u2 (pathM (cutW x) (ls.drop k) (i - k)) rfl hown W3.heap.size d rfl hX (by have h62' := pathM_depth (cutW x) 62 (ls.drop k) (i - k) (by have := Hp.out; omega); omega) (below_sizeN HB0 hb) ?_
      intro u5 W5 hown5 hg5
      simp only [Act.put, List.setIfInBounds_toArray, List.set_cons_zero, List.set_cons_succ]
      have hb5 := below_own hb hown hg5 (below_sizeN HB0 hb)
      refine hK _ _ (below_plusN HB0 hb5) ?_
      clear hK K hb hX hown hg5
      iterate 1 (refine mix_plain rfl ?_; go_big_quiet_step (fail); refine wpQuiet_nil ?_)
      refine mix_done ?_
      have hbf := hbel.trans ((show Below W1.heap.size W1 W5 by rw [← HB0.out]; exact hb5).mono hbel.size)
      have hownf := own_base hown5 (show w.heap.size ≤ B0 by rw [HB0.out]; exact hbel.size)
      have hpn := Hn.out
      rw [if_neg hik, Hd.out] at hpn
      rw [← hpn] at hownf
      have Hf := Lib.hid (And.intro hownf hbf)
      clear hownf hbf hpn hown5 hb5
      go_wp2_with fail
      go_ret
      exact ⟨_, rfl, Hf.out.1, Hf.out.2⟩
set_option maxRecDepth 100000 in
theorem prove_out (x0 : Int) (v : Value) (ls : List (List UInt8)) (i : Nat) (hi64 : i ≤ 18446744073709551615) (w : World) (hv : SSl w w.heap.size v ls) (h62 : ls.length ≤ 4611686018427387904) (hi : ls.length ≤ i) :
    Calls Tryd.prog 33 #[.int .i64 x0, v, .int .u64 i] w fun e w' => e = .returned (.tuple #[.slice none 0 0, .int .i64 25]) ∧ Below w.heap.size w w' := by
  obtain ⟨A, cap, vs, rfl, h2, h3, h4, h5, h6⟩ := hv
  clear h4 h5 h6 vs
  have hle : (ls.length : Int) ≤ (i : Int) := by omega
  have hb := below_new1 w (Obj.cells #[.int .i64 x0] 3)
  go_enter Tryd.func33, Tryd.ntmps33
  go_wp2_with fail
  go_ret2
  exact ⟨rfl, hb⟩
set_option maxHeartbeats 400000 in
set_option maxRecDepth 100000 in
theorem prove_any (x : Int) (v : Value) (ls : List (List UInt8)) (i : Nat) (w : World) (hv : SSl w w.heap.size v ls) (h62 : ls.length ≤ 4611686018427387904) (hall : ∀ b ∈ ls, b.length ≤ 140737488355200) (hi : i < ls.length) (hG : Glob w) :
    Calls Tryd.prog 33 #[.int .i64 x, v, .int .u64 i] w fun e w' => ∃ u, e = .returned (.tuple #[u, .int .i64 0]) ∧ w'.ownsRow w.heap.size 26 32 u (pathM (cutW x) ls i).length (dcells (pathM (cutW x) ls i)) ∧ Below w.heap.size w w' := by
  have Hall := Lib.hid hall
  clear hall
  obtain ⟨A, cap, vs, rfl, h2, h3, h4, h5, h6⟩ := hv
  have hv : SSl w w.heap.size (.slice A ls.length cap) ls := ⟨A, cap, vs, rfl, h2, h3, h4, h5, h6⟩
  clear h4 h5 h6 vs
  have hX := (Blk.new w 3 #[.int .i64 x]).alloc (Obj.cells #[.nilFunc] 95)
  have hF := Blk.new2 w (Obj.cells #[.int .i64 x] 3) 95 #[.nilFunc]
  have hb2 := (below_new1 w (Obj.cells #[.int .i64 x] 3)).alloc (by simp) (Obj.cells #[.nilFunc] 95)
  have hlt : (i : Int) < (ls.length : Int) := by omega
  have hmf : ∀ (fn : Fn) (first cap : Array Value) (w : World), (Instr.makeFunc fn first cap).run Tryd.prog w = .ok (.func fn first cap) w := fun _ _ _ _ => rfl
  go_enter Tryd.func33, Tryd.ntmps33
  go_upto_region 5 with (first
    | (refine wpList_store1 rfl rfl _ (.tmp 8) (.tmp 14) rfl (w.heap.size + 1) 0 rfl (.func (.func 56) #[] #[.pointer (some ⟨w.heap.size + 1, 0, none⟩), .pointer (some ⟨w.heap.size, 0, none⟩)]) rfl _ _ hF (by kernel_rfl) (by simp) rfl rfl ?_; intro w4 hF4 hon4))
  have hb4 := below_only hb2 hon4 (by omega) hb2.size
  have hX4 := hX.grown hon4 (by simp)
  clear hF hX hb2 hon4 hmf
  have cF := hF4.cell 0
  have hf0 : (#[Value.nilFunc].setIfInBounds 0 (.func (.func 56) #[] #[.pointer (some ⟨w.heap.size + 1, 0, none⟩), .pointer (some ⟨w.heap.size, 0, none⟩)])) = #[Value.func (.func 56) #[] #[.pointer (some ⟨w.heap.size + 1, 0, none⟩), .pointer (some ⟨w.heap.size, 0, none⟩)]] := rfl
  rw [hf0] at hF4 cF
  have cF : w4.cell? ⟨w.heap.size + 1, 0, none⟩ = some (.func (.func 56) #[] #[.pointer (some ⟨w.heap.size + 1, 0, none⟩), .pointer (some ⟨w.heap.size, 0, none⟩)]) := by simpa using cF
  clear hf0
  go_wp2_with fail
  refine (path1_any x w.heap.size (w.heap.size + 1) 95 ls.length ls i (Nat.le_refl _) (by omega) h62 (by omega) Hall.out _ w4 (hv.next hb4) (hG.next hb4) hX4 hF4).mono ?_
  rintro e w5 ⟨u, rfl, hown, hb1⟩
  have hbel := hb4.trans (hb1.mono hb4.size)
  have hown := own_base hown hb4.size
  have Hf := Lib.hid (And.intro hown hbel)
  clear hb1 hF4 hX4 cF hb4 hown hbel
  go_wp2_with fail
  go_ret2
  exact ⟨_, rfl, Hf.out.1, Hf.out.2⟩
end Go.Proofs.YtppglfgggfkcmaaDoor

/- The walks of deponentbook's Same at digests and of deponentkeep's Sames, on lists that are alike. No condition. -/
namespace Go.Proofs.YtppglfgggfkcmaaDoor
open Go Go.RowKit
attribute [local irreducible] mixW
attribute [local go_sem] n8_lo n8_hi n64_lo n64_hi n32_lo n32_hi
/-- v is a slice of digests that reads ds -/
def DSl (w : World) (v : Value) (ds : List (List UInt8)) : Prop := ∃ A cap, v = .slice A ds.length cap ∧ ∀ k, k < ds.length → ∃ g, A = some ⟨g, 0, none⟩ ∧ g < w.heap.size ∧ w.rangeAt g (k * 32) (dat (ds.getD k [])).toList
theorem range_next {w w' : World} {g off : Nat} {cs : List Value} (h : w.rangeAt g off cs) (hg : g < w.heap.size) (hb : Below w.heap.size w w') : w'.rangeAt g off cs := fun j v hj => by
  have h1 := h j v hj
  rw [hb.cell (p := ⟨g, off + j, none⟩) hg]; exact h1
theorem DSl.next {w w' : World} {v : Value} {ds : List (List UInt8)} (h : DSl w v ds) (hb : Below w.heap.size w w') : DSl w' v ds := by
  obtain ⟨A, cap, e, h⟩ := h
  refine ⟨A, cap, e, fun k hk => ?_⟩
  obtain ⟨g, e2, hg, hr⟩ := h k hk
  exact ⟨g, e2, Nat.lt_of_lt_of_le hg hb.size, range_next hr hg hb⟩
theorem DSl.of_own {w : World} {base : Nat} {v : Value} {ds : List (List UInt8)} (h : w.ownsRow base 26 32 v ds.length (dcells ds)) : DSl w v ds := by
  have hlt := own_lt h
  rcases h.2 with ⟨e, h0⟩ | ⟨b, cap, cur, e, _, hb, hc1, _, hsz, hcur⟩
  · exact ⟨none, 0, by rw [e, h0], fun k hk => by omega⟩
  · refine ⟨_, cap, e, fun k hk => ⟨b, rfl, hlt b (by rw [e]; rfl), fun j v hj => ?_⟩⟩
    have hj32 : j < 32 := by
      have := (List.getElem?_eq_some_iff.1 hj).1
      rw [Array.length_toList, dat_size] at this; exact this
    rw [cell_of_row w b (k * 32 + j) cur _ (0, 0) hb]
    have h1 := dcells_at ds k hk j hj32
    rw [← hcur, List.getElem?_take, if_pos (by omega)] at h1
    rw [← hj]
    simpa using h1
set_option maxHeartbeats 400000 in
set_option maxRecDepth 100000 in
theorem same8_any (u v : Value) (ds : List (List UInt8)) (hall : ∀ d ∈ ds, d.length = 32) (hn : ds.length ≤ 1000000000) (w : World) (hu : DSl w u ds) (hv : DSl w v ds) :
    Calls Tryd.prog 44 #[u, v] w fun e w' => e = .returned (.bool true) ∧ Below w.heap.size w w' := by
  have Hall := Lib.hid hall
  clear hall
  obtain ⟨A1, c1, rfl, h1⟩ := hu
  obtain ⟨A2, c2, rfl, h2⟩ := hv
  have H1 : Hid (DSl w (.slice A1 ds.length c1) ds) := Lib.hid ⟨A1, c1, rfl, h1⟩
  have H2 : Hid (DSl w (.slice A2 ds.length c2) ds) := Lib.hid ⟨A2, c2, rfl, h2⟩
  clear h1 h2
  have hne : ((ds.length : Int) != (ds.length : Int)) = false := by simp
  go_enter Tryd.func44, Tryd.ntmps44
  go_wp2_with fail
  go_loopw [5] (fun iv wr => ∃ k : Nat, k ≤ ds.length ∧ iv = .int .i64 k ∧ Below w.heap.size w wr) (fun iv _ => ds.length - (intOf iv).toNat)
  case atStart => exact ⟨0, by omega, rfl, Below.refl _ _⟩
  case round =>
    obtain ⟨k, hk, rfl, hbel⟩ := hrel
    by_cases hlt : k < ds.length
    case neg =>
      have hlt' : ¬ ((k : Int) < (ds.length : Int)) := by omega
      go_wp2_with fail
      go_ret
      exact ⟨rfl, hbel⟩
    have hlt' : (k : Int) < (ds.length : Int) := by omega
    obtain ⟨A1', c1', e1, hh1⟩ := H1.out.next hbel
    injection e1 with e1 _ e1c
    subst e1c
    obtain ⟨g1, e3, hg1, hr1⟩ := hh1 k hlt
    rw [e3] at e1
    subst e1
    obtain ⟨A2', c2', e2, hh2⟩ := H2.out.next hbel
    injection e2 with e2 _ e2c
    subst e2c
    obtain ⟨g2, e4, hg2, hr2⟩ := hh2 k hlt
    rw [e4] at e2
    subst e2
    clear hh1 hh2 e3 e4
    have hdl : (ds.getD k []).length = 32 := Hall.out _ (by rw [List.getD_eq_getElem?_getD, List.getElem?_eq_getElem hlt]; exact List.getElem_mem _)
    generalize ds.getD k [] = d at hr1 hr2 hdl
    have Hdl := Lib.hid hdl
    clear hdl
    go_wp2_with fail
    refine wp_region_mixP (.plain 0 <| .plain 1 <| .plain 2 <| .plain 3 <| .plain 4 <| .plain 5 <| .plain 6 <| .plain 7 <| .plain 8 <| .done) (by kernel_rfl) (by kernel_rfl) (fun W1 hb1 => ?_)
    replace hr1 := range_next hr1 hg1 hb1
    replace hr2 := range_next hr2 hg2 hb1
    replace hbel := hbel.trans (hb1.mono hbel.size)
    clear hb1
    iterate 9 (refine mix_plain rfl ?_; (first
      | (refine wpQuiet_loadMid rfl 26 (.tmp 19) rfl g1 (k * 32) rfl (dat d) _ (fun _ ⟨e, he⟩ => by rw [he]; exact range_plus hr1 e) Tryd.underlying26 rfl (by rw [dat_size]; kernel_rfl) ?_; simp only [Act.put, List.setIfInBounds_toArray, List.set_cons_zero, List.set_cons_succ])
      | (refine wpQuiet_loadMid rfl 26 (.tmp 23) rfl g2 (k * 32) rfl (dat d) _ (fun _ ⟨e, he⟩ => by rw [he]; exact range_plus hr2 e) Tryd.underlying26 rfl (by rw [dat_size]; kernel_rfl) ?_; simp only [Act.put, List.setIfInBounds_toArray, List.set_cons_zero, List.set_cons_succ])
      | (refine wpQuiet_neD rfl (.tmp 20) (.tmp 24) _ rfl d d rfl rfl Hdl.out Hdl.out true (decide_eq_true rfl) ?_; simp only [Act.put, List.setIfInBounds_toArray, List.set_cons_zero, List.set_cons_succ])
      | go_big_quiet_step (fail)); refine wpQuiet_nil ?_)
    refine mix_done ?_
    clear hr1 hr2
    go_wp2_with fail
    go_roundw
    case rel => exact ⟨k + 1, by omega, by go_num, hbel⟩
    case measure => simp [intOf]; omega
end Go.Proofs.YtppglfgggfkcmaaDoor

/- Slices of digests, wherever they begin. No condition. -/
namespace Go.Proofs.YtppglfgggfkcmaaDoor
open Go Go.RowKit
/-- v is a slice of digests that reads ds -/
def DX (w : World) (v : Value) (ds : List (List UInt8)) : Prop := ∃ A cap, v = .slice A ds.length cap ∧ ds.length ≤ cap ∧ cap ≤ 9223372036854775807 ∧ ∀ k, k < ds.length → ∃ g o, A = some ⟨g, o, none⟩ ∧ g < w.heap.size ∧ w.rangeAt g (o + k * 32) (dat (ds.getD k [])).toList
theorem DX.next {w w' : World} {v : Value} {ds : List (List UInt8)} (h : DX w v ds) (hb : Below w.heap.size w w') : DX w' v ds := by
  obtain ⟨A, cap, e, h1, h2, h⟩ := h
  refine ⟨A, cap, e, h1, h2, fun k hk => ?_⟩
  obtain ⟨g, o, e2, hg, hr⟩ := h k hk
  exact ⟨g, o, e2, Nat.lt_of_lt_of_le hg hb.size, range_next hr hg hb⟩
theorem DX.of_own {w : World} {base : Nat} {v : Value} {ds : List (List UInt8)} (h : w.ownsRow base 26 32 v ds.length (dcells ds)) : DX w v ds := by
  obtain ⟨A, cap, e, h1⟩ := DSl.of_own h
  have hc : ds.length ≤ cap ∧ cap ≤ 9223372036854775807 := by
    rcases h.2 with ⟨e2, h0⟩ | ⟨b, cap2, cur, e2, _, _, hc1, hc2, _⟩
    · rw [e] at e2; injection e2 with _ _ e3; subst e3; omega
    · rw [e] at e2; injection e2 with _ _ e3; subst e3; exact ⟨hc1, hc2⟩
  refine ⟨A, cap, e, hc.1, hc.2, fun k hk => ?_⟩
  obtain ⟨g, e2, hg, hr⟩ := h1 k hk
  exact ⟨g, 0, e2, hg, by rw [Nat.zero_add]; exact hr⟩
theorem DX.nil_ (w : World) : DX w (.slice none 0 0) [] := ⟨none, 0, rfl, Nat.le_refl _, by decide, fun k hk => by simp at hk⟩
theorem DX.take {w : World} {A : Option Addr} {n cap : Nat} {ds : List (List UInt8)} (h : DX w (.slice A n cap) ds) (m : Nat) (hm : m ≤ n) : DX w (.slice A m cap) (ds.take m) := by
  obtain ⟨A', cap', e, h1, h2, h⟩ := h
  injection e with e1 e2 e3
  subst e1; subst e2; subst e3
  have hl : (ds.take m).length = m := by rw [List.length_take]; omega
  refine ⟨A, cap, by rw [hl], by omega, h2, fun k hk => ?_⟩
  obtain ⟨g, o, e2, hg, hr⟩ := h k (by omega)
  refine ⟨g, o, e2, hg, ?_⟩
  rw [List.getD_eq_getElem?_getD, List.getElem?_take_of_lt (by omega), ← List.getD_eq_getElem?_getD]
  exact hr
end Go.Proofs.YtppglfgggfkcmaaDoor
