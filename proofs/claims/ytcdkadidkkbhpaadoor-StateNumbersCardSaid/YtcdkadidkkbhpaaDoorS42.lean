/- Texts that stand behind one another: StNo. No condition. -/
import Derived.Test.YtcdkadidkkbhpaaDoorS20
import Derived.Test.YtcdkadidkkbhpaaDoorS34
/- state.New of a wrong Config: the zero State and ErrArg. -/
namespace Go.Proofs.YtcdkadidkkbhpaaDoor
open Go Go.RowKit
attribute [local go_sem] n32_lo n32_hi
theorem built_sta0 : Tryd.prog.built 32 [] = some (staC nilS (.slice none 0 0) (.slice none 0 0) (.slice none 0 0)) := by kernel_rfl
set_option maxRecDepth 100000 in
theorem wpList_buildSta0 {w : World} {ops : Array Oper} {rest : List Oper} {o : Oper} {a : Act} {Q : Exit → Act → World → Prop} (hgd : o.guard = none) (ho : o.op = .build 32 #[])
    (h : wpList Tryd.prog ops Q rest (a.put o.dst (.agg (staC nilS (.slice none 0 0) (.slice none 0 0) (.slice none 0 0)))) w) : wpList Tryd.prog ops Q (o :: rest) a w :=
  wpList_plain hgd fun K hK => by
    unfold Oper.wp execOp
    simp only [ho, List.map_toArray, List.map_nil, Sem.run_bind, run_build w _ #[] _ built_sta0, Result.andThen_ok, Sem.run_pure]
    exact hK _ _ h
set_option maxHeartbeats 1000000 in
set_option maxRecDepth 100000 in
theorem new_no (wd qu : Int) (st : UInt32) (A : Option Addr) (n c : Nat) (w : World) (hno : rightC wd qu st n = false) :
    Calls Tryd.prog 5 #[.agg (cfgC wd qu st (.slice A n c))] w fun e w' => e = .returned (.tuple #[.agg (staC nilS (.slice none 0 0) (.slice none 0 0) (.slice none 0 0)), .int .i64 1]) ∧ Below w.heap.size w w' := by
  have Hno := Lib.hid hno
  clear hno
  have hzs := zero_state
  go_enter Tryd.func5, Tryd.ntmps5
  go_upto_region 1 with fail
  clear hzs
  refine wp_at (fun W => Blk W w.heap.size 25 (cfgC wd qu st (.slice A n c)) ∧ Blk W (w.heap.size + 1) 32 (staC nilS (.slice none 0 0) (.slice none 0 0) (.slice none 0 0)) ∧ Below w.heap.size w W)
    ⟨(Blk.new w _ _).alloc _, Blk.new2 _ _ _ _, below_new2 _ _ _⟩ ?_
  rintro W1 ⟨hC1, hR1, hb1⟩
  have c0 : W1.cell? ⟨w.heap.size, 0, none⟩ = some (.int .i64 wd) := hC1.cell 0
  have c1 : W1.cell? ⟨w.heap.size, 1, none⟩ = some (.int .i64 qu) := hC1.cell 1
  have c2 : W1.cell? ⟨w.heap.size, 2, none⟩ = some (.int .u32 (n32 st)) := hC1.cell 2
  have c3 : W1.cell? ⟨w.heap.size, 3, none⟩ = some (.slice A n c) := hC1.cell 3
  have H1 := Lib.hid (And.intro hR1 hb1)
  clear hC1 hR1 hb1
  by_cases k1 : wd < 1
  case pos =>
    go_upto_region 2 with fail
    have hR1 := H1.out.1
    go_wp2_with (first
      | (refine wpList_buildSta0 rfl rfl ?_)
      | (refine wpList_storeB rfl rfl 32 (.tmp 2) (.tmp 36) rfl (w.heap.size + 1) 0 rfl (staC nilS (.slice none 0 0) (.slice none 0 0) (.slice none 0 0)) rfl _ _ hR1 (by kernel_rfl) (by rw [staC_size]; omega) (staC_one _ _ _ _ rfl rfl rfl) ?_; intro W9 hS9 hg9))
    exact bodyPost_ret (results_cell_tmp (p := 2) (q := 3) (ty := 32) rfl _ _ (w.heap.size + 1) _ _ _ _ rfl hS9 Tryd.underlying32 rfl (by kernel_rfl)) rfl ⟨rfl, below_only H1.out.2 hg9 (by omega) H1.out.2.size⟩
  by_cases k2 : 32 < wd
  case pos =>
    go_upto_region 2 with fail
    have hR1 := H1.out.1
    go_wp2_with (first
      | (refine wpList_buildSta0 rfl rfl ?_)
      | (refine wpList_storeB rfl rfl 32 (.tmp 2) (.tmp 36) rfl (w.heap.size + 1) 0 rfl (staC nilS (.slice none 0 0) (.slice none 0 0) (.slice none 0 0)) rfl _ _ hR1 (by kernel_rfl) (by rw [staC_size]; omega) (staC_one _ _ _ _ rfl rfl rfl) ?_; intro W9 hS9 hg9))
    exact bodyPost_ret (results_cell_tmp (p := 2) (q := 3) (ty := 32) rfl _ _ (w.heap.size + 1) _ _ _ _ rfl hS9 Tryd.underlying32 rfl (by kernel_rfl)) rfl ⟨rfl, below_only H1.out.2 hg9 (by omega) H1.out.2.size⟩
  by_cases k3 : qu < 1
  case pos =>
    go_upto_region 2 with fail
    have hR1 := H1.out.1
    go_wp2_with (first
      | (refine wpList_buildSta0 rfl rfl ?_)
      | (refine wpList_storeB rfl rfl 32 (.tmp 2) (.tmp 36) rfl (w.heap.size + 1) 0 rfl (staC nilS (.slice none 0 0) (.slice none 0 0) (.slice none 0 0)) rfl _ _ hR1 (by kernel_rfl) (by rw [staC_size]; omega) (staC_one _ _ _ _ rfl rfl rfl) ?_; intro W9 hS9 hg9))
    exact bodyPost_ret (results_cell_tmp (p := 2) (q := 3) (ty := 32) rfl _ _ (w.heap.size + 1) _ _ _ _ rfl hS9 Tryd.underlying32 rfl (by kernel_rfl)) rfl ⟨rfl, below_only H1.out.2 hg9 (by omega) H1.out.2.size⟩
  by_cases k4 : 2 < qu
  case pos =>
    go_upto_region 2 with fail
    have hR1 := H1.out.1
    go_wp2_with (first
      | (refine wpList_buildSta0 rfl rfl ?_)
      | (refine wpList_storeB rfl rfl 32 (.tmp 2) (.tmp 36) rfl (w.heap.size + 1) 0 rfl (staC nilS (.slice none 0 0) (.slice none 0 0) (.slice none 0 0)) rfl _ _ hR1 (by kernel_rfl) (by rw [staC_size]; omega) (staC_one _ _ _ _ rfl rfl rfl) ?_; intro W9 hS9 hg9))
    exact bodyPost_ret (results_cell_tmp (p := 2) (q := 3) (ty := 32) rfl _ _ (w.heap.size + 1) _ _ _ _ rfl hS9 Tryd.underlying32 rfl (by kernel_rfl)) rfl ⟨rfl, below_only H1.out.2 hg9 (by omega) H1.out.2.size⟩
  by_cases k5 : 32768 < n32 st
  case pos =>
    go_upto_region 2 with fail
    have hR1 := H1.out.1
    go_wp2_with (first
      | (refine wpList_buildSta0 rfl rfl ?_)
      | (refine wpList_storeB rfl rfl 32 (.tmp 2) (.tmp 36) rfl (w.heap.size + 1) 0 rfl (staC nilS (.slice none 0 0) (.slice none 0 0) (.slice none 0 0)) rfl _ _ hR1 (by kernel_rfl) (by rw [staC_size]; omega) (staC_one _ _ _ _ rfl rfl rfl) ?_; intro W9 hS9 hg9))
    exact bodyPost_ret (results_cell_tmp (p := 2) (q := 3) (ty := 32) rfl _ _ (w.heap.size + 1) _ _ _ _ rfl hS9 Tryd.underlying32 rfl (by kernel_rfl)) rfl ⟨rfl, below_only H1.out.2 hg9 (by omega) H1.out.2.size⟩
  have k6 : 64 < n := by
    refine Nat.lt_of_not_le fun hle => ?_
    have h := Hno.out
    have k5x : st.toNat ≤ 32768 := by unfold n32 at k5; omega
    unfold rightC at h
    simp [show 1 ≤ wd by omega, show wd ≤ 32 by omega, show 1 ≤ qu by omega, show qu ≤ 2 by omega, k5x, hle] at h
  have k6' : (64 : Int) < (n : Int) := by omega
  go_upto_region 2 with fail
  have hR1 := H1.out.1
  go_wp2_with (first
    | (refine wpList_buildSta0 rfl rfl ?_)
    | (refine wpList_storeB rfl rfl 32 (.tmp 2) (.tmp 36) rfl (w.heap.size + 1) 0 rfl (staC nilS (.slice none 0 0) (.slice none 0 0) (.slice none 0 0)) rfl _ _ hR1 (by kernel_rfl) (by rw [staC_size]; omega) (staC_one _ _ _ _ rfl rfl rfl) ?_; intro W9 hS9 hg9))
  exact bodyPost_ret (results_cell_tmp (p := 2) (q := 3) (ty := 32) rfl _ _ (w.heap.size + 1) _ _ _ _ rfl hS9 Tryd.underlying32 rfl (by kernel_rfl)) rfl ⟨rfl, below_only H1.out.2 hg9 (by omega) H1.out.2.size⟩
end Go.Proofs.YtcdkadidkkbhpaaDoor
