/- Plain Lean: the root of a list of texts. No condition. -/
import Derived.Test.YtbhmmoecoijojaaDoorMerkle
import Derived.Test.YtbhmmoecoijojaaDoorBits
namespace Go.Proofs.YtbhmmoecoijojaaDoor
def rootF (n : Nat) : Nat → List (List UInt8) → List UInt8
  | 0, _ => []
  | f + 1, l => if l.length ≤ 1 then leafM n (l.headD []) else nodeM n (rootF n f (l.take (halfN l.length))) (rootF n f (l.drop (halfN l.length)))
def rootM (n : Nat) (l : List (List UInt8)) : List UInt8 := if l.length = 0 then sumM n [] else rootF n l.length l
theorem half_parts (l : List (List UInt8)) (h : 2 ≤ l.length) : (l.take (halfN l.length)).length = halfN l.length ∧ (l.drop (halfN l.length)).length = l.length - halfN l.length ∧ 1 ≤ halfN l.length ∧ halfN l.length < l.length := by
  have h1 := halfN_le l.length h
  have h2 := halfN_pos l.length
  refine ⟨by rw [List.length_take]; omega, List.length_drop, h2, by omega⟩
theorem rootF_fuel (n : Nat) : ∀ (f : Nat) (l : List (List UInt8)), 1 ≤ l.length → l.length ≤ f → ∀ g, l.length ≤ g → rootF n f l = rootF n g l := by
  intro f
  induction f with
  | zero => intro l h1 h2; omega
  | succ f ih =>
    intro l h1 h2 g hg
    cases g with
    | zero => omega
    | succ g =>
      unfold rootF
      by_cases h : l.length ≤ 1
      · rw [if_pos h, if_pos h]
      · rw [if_neg h, if_neg h]
        obtain ⟨e1, e2, e3, e4⟩ := half_parts l (by omega)
        rw [ih (l.take (halfN l.length)) (by omega) (by omega) g (by omega), ih (l.drop (halfN l.length)) (by omega) (by omega) g (by omega)]
theorem rootM_one (n : Nat) (b : List UInt8) : rootM n [b] = leafM n b := rfl
theorem rootM_single (n : Nat) (l : List (List UInt8)) (h : l.length = 1) : rootM n l = leafM n (l.getD 0 []) := by
  match l, h with
  | [b], _ => rfl
theorem rootM_nil (n : Nat) : rootM n [] = sumM n [] := rfl
theorem rootM_node (n : Nat) (l : List (List UInt8)) (h : 2 ≤ l.length) : rootM n l = nodeM n (rootM n (l.take (halfN l.length))) (rootM n (l.drop (halfN l.length))) := by
  obtain ⟨e1, e2, e3, e4⟩ := half_parts l h
  have hl : rootM n l = rootF n ((l.length - 1) + 1) l := by unfold rootM; rw [if_neg (by omega), show l.length - 1 + 1 = l.length by omega]
  rw [hl]
  unfold rootF
  rw [if_neg (by omega)]
  unfold rootM
  rw [if_neg (by omega), if_neg (by omega)]
  rw [rootF_fuel n (l.length - 1) (l.take (halfN l.length)) (by omega) (by omega) _ (Nat.le_refl _), rootF_fuel n (l.length - 1) (l.drop (halfN l.length)) (by omega) (by omega) _ (Nat.le_refl _)]
/-- a leaf's path -/
def pathF (n : Nat) : Nat → List (List UInt8) → Nat → List (List UInt8)
  | 0, _, _ => []
  | f + 1, l, i => if l.length ≤ 1 then [] else if i < halfN l.length then pathF n f (l.take (halfN l.length)) i ++ [rootM n (l.drop (halfN l.length))] else pathF n f (l.drop (halfN l.length)) (i - halfN l.length) ++ [rootM n (l.take (halfN l.length))]
def pathM (n : Nat) (l : List (List UInt8)) (i : Nat) : List (List UInt8) := pathF n l.length l i
theorem pathF_fuel (n : Nat) : ∀ (f : Nat) (l : List (List UInt8)) (i : Nat), l.length ≤ f → ∀ g, l.length ≤ g → pathF n f l i = pathF n g l i := by
  intro f
  induction f with
  | zero =>
    intro l i h g hg
    cases g with
    | zero => rfl
    | succ g => unfold pathF; rw [if_pos (by omega)]
  | succ f ih =>
    intro l i h g hg
    cases g with
    | zero => unfold pathF; rw [if_pos (by omega)]
    | succ g =>
      unfold pathF
      by_cases h1 : l.length ≤ 1
      · rw [if_pos h1, if_pos h1]
      · rw [if_neg h1, if_neg h1]
        obtain ⟨e1, e2, e3, e4⟩ := half_parts l (by omega)
        rw [ih (l.take (halfN l.length)) i (by omega) g (by omega), ih (l.drop (halfN l.length)) (i - halfN l.length) (by omega) g (by omega)]
theorem pathM_one (n : Nat) (l : List (List UInt8)) (i : Nat) (h : l.length ≤ 1) : pathM n l i = [] := by
  unfold pathM
  match l, h with
  | [], _ => rfl
  | [b], _ => rfl
  | _ :: _ :: _, h => simp at h
theorem pathM_node (n : Nat) (l : List (List UInt8)) (i : Nat) (h : 2 ≤ l.length) : pathM n l i = if i < halfN l.length then pathM n (l.take (halfN l.length)) i ++ [rootM n (l.drop (halfN l.length))] else pathM n (l.drop (halfN l.length)) (i - halfN l.length) ++ [rootM n (l.take (halfN l.length))] := by
  obtain ⟨e1, e2, e3, e4⟩ := half_parts l h
  have hl : pathM n l i = pathF n ((l.length - 1) + 1) l i := by unfold pathM; rw [show l.length - 1 + 1 = l.length by omega]
  rw [hl]
  unfold pathF
  rw [if_neg (by omega)]
  unfold pathM
  rw [pathF_fuel n (l.length - 1) (l.take (halfN l.length)) i (by omega) _ (Nat.le_refl _), pathF_fuel n (l.length - 1) (l.drop (halfN l.length)) (i - halfN l.length) (by omega) _ (Nat.le_refl _)]
theorem leafM_length (n : Nat) (b : List UInt8) : (leafM n b).length = 32 := sumM_length _ _
theorem nodeM_length (n : Nat) (x y : List UInt8) : (nodeM n x y).length = 32 := sumM_length _ _
theorem rootM_length (n : Nat) (l : List (List UInt8)) : (rootM n l).length = 32 := by
  by_cases h : 2 ≤ l.length
  · rw [rootM_node n l h]; exact nodeM_length _ _ _
  · match l, h with
    | [], _ => exact sumM_length _ _
    | [b], _ => exact leafM_length _ _
    | _ :: _ :: _, h => simp at h
theorem pathM_mem (n : Nat) : ∀ (N : Nat) (l : List (List UInt8)) (i : Nat), l.length ≤ N → ∀ d ∈ pathM n l i, d.length = 32 := by
  intro N
  induction N with
  | zero => intro l i h d hd; rw [pathM_one n l i (by omega)] at hd; cases hd
  | succ N ih =>
    intro l i h d hd
    by_cases h1 : l.length ≤ 1
    · rw [pathM_one n l i h1] at hd; cases hd
    · obtain ⟨e1, e2, e3, e4⟩ := half_parts l (by omega)
      rw [pathM_node n l i (by omega)] at hd
      split at hd
      · rcases List.mem_append.1 hd with hd | hd
        · exact ih _ _ (by omega) d hd
        · rw [List.mem_singleton.1 hd]; exact rootM_length _ _
      · rcases List.mem_append.1 hd with hd | hd
        · exact ih _ _ (by omega) d hd
        · rw [List.mem_singleton.1 hd]; exact rootM_length _ _
/-- a path is no longer than the tree is deep -/
theorem pathM_depth (n : Nat) : ∀ (k : Nat) (l : List (List UInt8)) (i : Nat), l.length ≤ 2 ^ k → (pathM n l i).length ≤ k := by
  intro k
  induction k with
  | zero => intro l i h; rw [pathM_one n l i (by simpa using h)]; exact Nat.zero_le _
  | succ k ih =>
    intro l i h
    by_cases h1 : l.length ≤ 1
    · rw [pathM_one n l i h1]; exact Nat.zero_le _
    · obtain ⟨e1, e2, e3, e4⟩ := half_parts l (by omega)
      have h2 := halfN_twice l.length (by omega)
      have h3 : halfN l.length ≤ 2 ^ k := by
        unfold halfN
        have hlt : (l.length - 1).log2 < k + 1 := (Nat.log2_lt (by omega)).2 (by omega)
        exact Nat.pow_le_pow_right (by decide) (by omega)
      rw [pathM_node n l i (by omega)]
      split
      · have := ih (l.take (halfN l.length)) i (by omega)
        rw [List.length_append]; simp; omega
      · have := ih (l.drop (halfN l.length)) (i - halfN l.length) (by omega)
        rw [List.length_append]; simp; omega
/-- that a list begins with its first leaves -/
def subF (n : Nat) : Nat → List (List UInt8) → Nat → Bool → List (List UInt8)
  | 0, _, _, _ => []
  | f + 1, l, m, b => if m = l.length then (if b then [] else [rootM n l]) else if l.length ≤ 1 then [] else if m ≤ halfN l.length then subF n f (l.take (halfN l.length)) m b ++ [rootM n (l.drop (halfN l.length))] else subF n f (l.drop (halfN l.length)) (m - halfN l.length) false ++ [rootM n (l.take (halfN l.length))]
def subM (n : Nat) (l : List (List UInt8)) (m : Nat) (b : Bool) : List (List UInt8) := subF n (l.length + 1) l m b
theorem subF_fuel (n : Nat) : ∀ (f : Nat) (l : List (List UInt8)) (m : Nat) (b : Bool), l.length < f → ∀ g, l.length < g → subF n f l m b = subF n g l m b := by
  intro f
  induction f with
  | zero => intro l m b h; omega
  | succ f ih =>
    intro l m b h g hg
    cases g with
    | zero => omega
    | succ g =>
      unfold subF
      by_cases h0 : m = l.length
      · rw [if_pos h0, if_pos h0]
      · rw [if_neg h0, if_neg h0]
        by_cases h1 : l.length ≤ 1
        · rw [if_pos h1, if_pos h1]
        · rw [if_neg h1, if_neg h1]
          obtain ⟨e1, e2, e3, e4⟩ := half_parts l (by omega)
          rw [ih (l.take (halfN l.length)) m b (by omega) g (by omega), ih (l.drop (halfN l.length)) (m - halfN l.length) false (by omega) g (by omega)]
theorem subM_all (n : Nat) (l : List (List UInt8)) (m : Nat) (b : Bool) (h : m = l.length) : subM n l m b = if b then [] else [rootM n l] := by
  unfold subM subF; rw [if_pos h]
theorem subM_node (n : Nat) (l : List (List UInt8)) (m : Nat) (b : Bool) (h0 : m ≠ l.length) (h : 2 ≤ l.length) : subM n l m b = if m ≤ halfN l.length then subM n (l.take (halfN l.length)) m b ++ [rootM n (l.drop (halfN l.length))] else subM n (l.drop (halfN l.length)) (m - halfN l.length) false ++ [rootM n (l.take (halfN l.length))] := by
  obtain ⟨e1, e2, e3, e4⟩ := half_parts l h
  have hl : subM n l m b = if m ≤ halfN l.length then subF n l.length (l.take (halfN l.length)) m b ++ [rootM n (l.drop (halfN l.length))] else subF n l.length (l.drop (halfN l.length)) (m - halfN l.length) false ++ [rootM n (l.take (halfN l.length))] := by
    unfold subM
    rw [subF, if_neg h0, if_neg (by omega)]
  rw [hl]
  unfold subM
  rw [subF_fuel n l.length (l.take (halfN l.length)) m b (by omega) ((l.take (halfN l.length)).length + 1) (by omega), subF_fuel n l.length (l.drop (halfN l.length)) (m - halfN l.length) false (by omega) ((l.drop (halfN l.length)).length + 1) (by omega)]
theorem subM_depth (n : Nat) : ∀ (k : Nat) (l : List (List UInt8)) (m : Nat) (b : Bool), 1 ≤ m → m ≤ l.length → l.length ≤ 2 ^ k → (subM n l m b).length ≤ k + 1 := by
  intro k
  induction k with
  | zero =>
    intro l m b h1 h2 h
    rw [subM_all n l m b (by simp at h; omega)]
    split <;> simp
  | succ k ih =>
    intro l m b h1 h2 h
    by_cases h0 : m = l.length
    · rw [subM_all n l m b h0]
      split <;> simp
    · obtain ⟨e1, e2, e3, e4⟩ := half_parts l (by omega)
      have h2' := halfN_twice l.length (by omega)
      have h3 : halfN l.length ≤ 2 ^ k := by
        unfold halfN
        have hlt : (l.length - 1).log2 < k + 1 := (Nat.log2_lt (by omega)).2 (by omega)
        exact Nat.pow_le_pow_right (by decide) (by omega)
      rw [subM_node n l m b h0 (by omega)]
      split
      · have := ih (l.take (halfN l.length)) m b h1 (by omega) (by omega)
        rw [List.length_append]; simp; omega
      · have := ih (l.drop (halfN l.length)) (m - halfN l.length) false (by omega) (by omega) (by omega)
        rw [List.length_append]; simp; omega
theorem subM_mem (n : Nat) : ∀ (N : Nat) (l : List (List UInt8)) (m : Nat) (b : Bool), l.length ≤ N → ∀ d ∈ subM n l m b, d.length = 32 := by
  intro N
  induction N with
  | zero =>
    intro l m b h d hd
    by_cases h0 : m = l.length
    · rw [subM_all n l m b h0] at hd
      split at hd
      · cases hd
      · rw [List.mem_singleton.1 hd]; exact rootM_length _ _
    · unfold subM subF at hd
      rw [if_neg h0, if_pos (by omega)] at hd; cases hd
  | succ N ih =>
    intro l m b h d hd
    by_cases h0 : m = l.length
    · rw [subM_all n l m b h0] at hd
      split at hd
      · cases hd
      · rw [List.mem_singleton.1 hd]; exact rootM_length _ _
    · by_cases h1 : l.length ≤ 1
      · unfold subM subF at hd
        rw [if_neg h0, if_pos h1] at hd; cases hd
      · obtain ⟨e1, e2, e3, e4⟩ := half_parts l (by omega)
        rw [subM_node n l m b h0 (by omega)] at hd
        split at hd
        · rcases List.mem_append.1 hd with hd | hd
          · exact ih _ _ _ (by omega) d hd
          · rw [List.mem_singleton.1 hd]; exact rootM_length _ _
        · rcases List.mem_append.1 hd with hd | hd
          · exact ih _ _ _ (by omega) d hd
          · rw [List.mem_singleton.1 hd]; exact rootM_length _ _
end Go.Proofs.YtbhmmoecoijojaaDoor
