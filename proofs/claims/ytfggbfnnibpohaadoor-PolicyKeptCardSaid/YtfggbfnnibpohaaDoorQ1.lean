/- Texts that stand behind one another: PolP. No condition. -/
import Derived.WalkKit
import Derived.Lib.Hide
import Derived.IntWalk
/- Who may, in plain Lean. No condition. -/
namespace Go.Proofs.YtfggbfnnibpohaaDoor
/-- the least role of an operation; 0: none -/
def leastP (op : Int) : Int := if op = 2 ∨ op = 3 ∨ op = 4 ∨ op = 5 then 1 else if op = 1 then 2 else if op = 7 ∨ op = 8 ∨ op = 9 then 3 else if op = 6 ∨ op = 10 ∨ op = 11 ∨ op = 12 then 4 else 0
def mayP (role op : Int) : Bool := decide (0 < leastP op ∧ leastP op ≤ role ∧ role ≤ 4)
/-- what is decided -/
def decP (role op owner tenant : Int) : Bool := mayP role op && (owner == tenant || role == 4)
theorem mayP_op {op : Int} (role : Int) (h : ¬ (1 ≤ op ∧ op ≤ 12)) : mayP role op = false := by
  unfold mayP leastP
  rw [if_neg (by omega), if_neg (by omega), if_neg (by omega), if_neg (by omega)]
  simp
theorem mayP_role {role : Int} (op : Int) (h : ¬ (1 ≤ role ∧ role ≤ 4)) : mayP role op = false := by
  unfold mayP
  rw [decide_eq_false_iff_not]
  unfold leastP
  split
  · omega
  · split
    · omega
    · split
      · omega
      · split <;> omega
theorem op_cases (op : Int) : (op = 1 ∨ op = 2 ∨ op = 3 ∨ op = 4 ∨ op = 5 ∨ op = 6 ∨ op = 7 ∨ op = 8 ∨ op = 9 ∨ op = 10 ∨ op = 11 ∨ op = 12) ∨ ¬ (1 ≤ op ∧ op ≤ 12) := by omega
theorem role_cases (role : Int) : (role = 1 ∨ role = 2 ∨ role = 3 ∨ role = 4) ∨ ¬ (1 ≤ role ∧ role ≤ 4) := by omega
/-- what a role may, the roles above it may -/
theorem mayP_up {role op : Int} (h : mayP role op = true) (h4 : role < 4) : mayP (role + 1) op = true := by
  unfold mayP at h ⊢
  rw [decide_eq_true_iff] at h ⊢
  omega
/-- the operations of a role among the first n -/
def opsP (role : Int) (n : Nat) : List Int := ((List.range n).map fun i : Nat => ((i : Int) + 1)).filter (mayP role)
theorem opsP_succ (role : Int) (n : Nat) : opsP role (n + 1) = opsP role n ++ (if mayP role ((n : Int) + 1) then [(n : Int) + 1] else []) := by
  unfold opsP
  rw [List.range_succ, List.map_append, List.filter_append]
  congr 1
  simp only [List.map_cons, List.map_nil, List.filter_cons, List.filter_nil]
theorem opsP_len (role : Int) (n : Nat) : (opsP role n).length ≤ n := by
  unfold opsP
  exact Nat.le_trans (List.length_filter_le _ _) (by simp)
end Go.Proofs.YtfggbfnnibpohaaDoor
