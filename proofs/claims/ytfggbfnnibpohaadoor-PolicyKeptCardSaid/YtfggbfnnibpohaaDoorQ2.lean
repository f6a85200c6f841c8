/- Texts that stand behind one another: PolA. No condition. -/
import Derived.Test.YtfggbfnnibpohaaDoorChecked
import Derived.Test.YtfggbfnnibpohaaDoorQ1
/- The walks of policy: May, the reference's May and Decide. No condition. -/
namespace Go.Proofs.YtfggbfnnibpohaaDoor
open Go Go.RowKit
set_option maxHeartbeats 4000000 in
set_option maxRecDepth 100000 in
theorem may_any (role op : Int) (w : World) : Calls Tryd.prog 38 #[.int .i64 role, .int .i64 op] w fun e w' => e = .returned (.bool (mayP role op)) ∧ w = w' := by
  rcases role_cases role with hr | hr
  · rcases op_cases op with ho | ho
    · rcases hr with rfl | rfl | rfl | rfl <;> rcases ho with rfl | rfl | rfl | rfl | rfl | rfl | rfl | rfl | rfl | rfl | rfl | rfl <;>
        (go_enter Tryd.func38, Tryd.ntmps38; go_wp2; go_ret; exact ⟨rfl, rfl⟩)
    · have Hm := Lib.hid (mayP_op role ho)
      have e1 : (op == 1) = false := by rw [beq_eq_false_iff_ne]; omega
      have e2 : (op == 2) = false := by rw [beq_eq_false_iff_ne]; omega
      have e3 : (op == 3) = false := by rw [beq_eq_false_iff_ne]; omega
      have e4 : (op == 4) = false := by rw [beq_eq_false_iff_ne]; omega
      have e5 : (op == 5) = false := by rw [beq_eq_false_iff_ne]; omega
      have e6 : (op == 6) = false := by rw [beq_eq_false_iff_ne]; omega
      have e7 : (op == 7) = false := by rw [beq_eq_false_iff_ne]; omega
      have e8 : (op == 8) = false := by rw [beq_eq_false_iff_ne]; omega
      have e9 : (op == 9) = false := by rw [beq_eq_false_iff_ne]; omega
      have e10 : (op == 10) = false := by rw [beq_eq_false_iff_ne]; omega
      have e11 : (op == 11) = false := by rw [beq_eq_false_iff_ne]; omega
      have e12 : (op == 12) = false := by rw [beq_eq_false_iff_ne]; omega
      clear ho
      rw [Hm.out]
      rcases hr with rfl | rfl | rfl | rfl <;>
        (go_enter Tryd.func38, Tryd.ntmps38; go_wp2; go_ret; exact ⟨rfl, rfl⟩)
  · have Hm := Lib.hid (mayP_role op hr)
    have e1 : (role == 1) = false := by rw [beq_eq_false_iff_ne]; omega
    have e2 : (role == 2) = false := by rw [beq_eq_false_iff_ne]; omega
    have e3 : (role == 3) = false := by rw [beq_eq_false_iff_ne]; omega
    have e4 : (role == 4) = false := by rw [beq_eq_false_iff_ne]; omega
    clear hr
    rw [Hm.out]
    go_enter Tryd.func38, Tryd.ntmps38
    go_wp2
    go_ret
    exact ⟨rfl, rfl⟩
theorem mayP_least {op : Int} (role : Int) (n : Int) (h : leastP op = n) : mayP role op = decide (0 < n ∧ n ≤ role ∧ role ≤ 4) := by unfold mayP; rw [h]
set_option maxHeartbeats 4000000 in
set_option maxRecDepth 100000 in
theorem rmay_any (role op : Int) (w : World) : Calls Tryd.prog 39 #[.int .i64 role, .int .i64 op] w fun e w' => e = .returned (.bool (mayP role op)) ∧ w = w' := by
  have hfin : ∀ n : Int, leastP op = n → (decide (0 < n) && (decide (n ≤ role) && decide (role ≤ 4))) = mayP role op := by
    intro n h
    rw [mayP_least role n h]
    by_cases h1 : 0 < n <;> by_cases h2 : n ≤ role <;> by_cases h3 : role ≤ 4 <;> simp [h1, h2, h3]
  rcases op_cases op with ho | ho
  · rcases ho with rfl | rfl | rfl | rfl | rfl | rfl | rfl | rfl | rfl | rfl | rfl | rfl
    all_goals
      by_cases h2 : role < 1
      · rw [mayP_role _ (by omega)]
        go_enter Tryd.func39, Tryd.ntmps39
        go_wp2
        go_ret
        exact ⟨rfl, rfl⟩
      by_cases h5 : 4 < role
      · rw [mayP_role _ (by omega)]
        go_enter Tryd.func39, Tryd.ntmps39
        go_wp2
        go_ret
        have h4 : decide (role ≤ 4) = false := decide_eq_false (by omega)
        refine ⟨?_, rfl⟩
        show Ending.returned (Value.bool (decide (role ≤ 4))) = _
        rw [h4]
      have hr : role = 1 ∨ role = 2 ∨ role = 3 ∨ role = 4 := by omega
      clear h2 h5 hfin
      rcases hr with rfl | rfl | rfl | rfl <;>
        (go_enter Tryd.func39, Tryd.ntmps39; go_wp2; go_ret; exact ⟨rfl, rfl⟩)
  · have Hm := Lib.hid (mayP_op role ho)
    have e1 : (op == 1) = false := by rw [beq_eq_false_iff_ne]; omega
    have e2 : (op == 2) = false := by rw [beq_eq_false_iff_ne]; omega
    have e3 : (op == 3) = false := by rw [beq_eq_false_iff_ne]; omega
    have e4 : (op == 4) = false := by rw [beq_eq_false_iff_ne]; omega
    have e5 : (op == 5) = false := by rw [beq_eq_false_iff_ne]; omega
    have e6 : (op == 6) = false := by rw [beq_eq_false_iff_ne]; omega
    have e7 : (op == 7) = false := by rw [beq_eq_false_iff_ne]; omega
    have e8 : (op == 8) = false := by rw [beq_eq_false_iff_ne]; omega
    have e9 : (op == 9) = false := by rw [beq_eq_false_iff_ne]; omega
    have e10 : (op == 10) = false := by rw [beq_eq_false_iff_ne]; omega
    have e11 : (op == 11) = false := by rw [beq_eq_false_iff_ne]; omega
    have e12 : (op == 12) = false := by rw [beq_eq_false_iff_ne]; omega
    clear ho hfin
    rw [Hm.out]
    go_enter Tryd.func39, Tryd.ntmps39
    go_wp2
    go_ret
    exact ⟨rfl, rfl⟩
end Go.Proofs.YtfggbfnnibpohaaDoor
