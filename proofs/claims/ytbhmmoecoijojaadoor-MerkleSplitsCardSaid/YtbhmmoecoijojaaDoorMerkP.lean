/- Plain Lean: the root of a list of texts. No condition. -/
import Derived.Test.YtbhmmoecoijojaaDoorMerkle
import Derived.Test.YtbhmmoecoijojaaDoorBits
namespace Go.Proofs.YtbhmmoecoijojaaDoor
def rootF (n : Nat) : Nat → List (List UInt8) → List UInt8
  | 0, _ => []
  | f + 1, l => if l.length ≤ 1 then leafM n (l.headD []) else nodeM n (rootF n f (l.take (halfN l.length))) (rootF n f (l.drop (halfN l.length)))
def rootM (n : Nat) (l : List (List UInt8)) : List UInt8 := if l.length = 0 then sumM n [] else rootF n l.length l
theorem half_parts (l : List (List UInt8)) (h : 2 ≤ l.length) : (l.take (halfN l.length)).length = halfN l.length ∧ (l.drop (halfN l.length)).length = l.length - halfN l.length ∧ 1 ≤ halfN l.length ∧ halfN l.length < l.length := by
  have h1 := halfN_le l.length h
  have h2 := halfN_pos l.length
  refine ⟨by rw [List.length_take]; omega, List.length_drop, h2, by omega⟩
theorem rootF_fuel (n : Nat) : ∀ (f : Nat) (l : List (List UInt8)), 1 ≤ l.length → l.length ≤ f → ∀ g, l.length ≤ g → rootF n f l = rootF n g l := by
  intro f
  induction f with
  | zero => intro l h1 h2; omega
  | succ f ih =>
    intro l h1 h2 g hg
    cases g with
    | zero => omega
    | succ g =>
      unfold rootF
      by_cases h : l.length ≤ 1
      · rw [if_pos h, if_pos h]
      · rw [if_neg h, if_neg h]
        obtain ⟨e1, e2, e3, e4⟩ := half_parts l (by omega)
        rw [ih (l.take (halfN l.length)) (by omega) (by omega) g (by omega), ih (l.drop (halfN l.length)) (by omega) (by omega) g (by omega)]
theorem rootM_one (n : Nat) (b : List UInt8) : rootM n [b] = leafM n b := rfl
theorem rootM_single (n : Nat) (l : List (List UInt8)) (h : l.length = 1) : rootM n l = leafM n (l.getD 0 []) := by
  match l, h with
  | [b], _ => rfl
theorem rootM_nil (n : Nat) : rootM n [] = sumM n [] := rfl
theorem rootM_node (n : Nat) (l : List (List UInt8)) (h : 2 ≤ l.length) : rootM n l = nodeM n (rootM n (l.take (halfN l.length))) (rootM n (l.drop (halfN l.length))) := by
  obtain ⟨e1, e2, e3, e4⟩ := half_parts l h
  have hl : rootM n l = rootF n ((l.length - 1) + 1) l := by unfold rootM; rw [if_neg (by omega), show l.length - 1 + 1 = l.length by omega]
  rw [hl]
  unfold rootF
  rw [if_neg (by omega)]
  unfold rootM
  rw [if_neg (by omega), if_neg (by omega)]
  rw [rootF_fuel n (l.length - 1) (l.take (halfN l.length)) (by omega) (by omega) _ (Nat.le_refl _), rootF_fuel n (l.length - 1) (l.drop (halfN l.length)) (by omega) (by omega) _ (Nat.le_refl _)]
theorem leafM_length (n : Nat) (b : List UInt8) : (leafM n b).length = 32 := sumM_length _ _
theorem nodeM_length (n : Nat) (x y : List UInt8) : (nodeM n x y).length = 32 := sumM_length _ _
theorem rootM_length (n : Nat) (l : List (List UInt8)) : (rootM n l).length = 32 := by
  by_cases h : 2 ≤ l.length
  · rw [rootM_node n l h]; exact nodeM_length _ _ _
  · match l, h with
    | [], _ => exact sumM_length _ _
    | [b], _ => exact leafM_length _ _
    | _ :: _ :: _, h => simp at h
end Go.Proofs.YtbhmmoecoijojaaDoor
