/- Texts that stand behind one another: Bits, MerkP, VerP, MerkR, RefP. No condition. -/
import Derived.Test.YteonmcconpfkjaaDoorP1
import Derived.Test.YteonmcconpfkjaaDoorChecked
import Derived.WalkKit
import Derived.Lib.Hide
import Derived.Lib.Strings
import Derived.Lib.Slices
import Derived.Lib.Small
import Derived.Lib.Walk
import Derived.Lib.BitFns
import Derived.Deep.Light
import Derived.Test.YteonmcconpfkjaaDoorP4
import Derived.Test.YteonmcconpfkjaaDoorP5
import Derived.Test.YteonmcconpfkjaaDoorP3
/- The walks of math/bits' Len64 and Len, and of merkle's half. No condition. -/
namespace Go.Proofs.YteonmcconpfkjaaDoor
open Go Go.RowKit
theorem len8s : (Lib.len8tab.size : Int) = 256 := by
  have : Lib.len8tab.size = 256 := by kernel_rfl
  omega
theorem wrapA (k a b : Nat) (hk : k ≤ 56) (ha : a ≤ 8) (hb : b = k + a) : RowKit.wrap64 ((k : Int) + RowKit.wrap64 (a : Int)) = (b : Int) := by
  unfold RowKit.wrap64
  omega
theorem wrapW (a : Nat) (ha : a ≤ 8) : RowKit.wrap64 (RowKit.wrap64 (a : Int)) = (a : Int) := by
  unfold RowKit.wrap64
  omega
theorem wrapO (a : Nat) (ha : a ≤ 8) : RowKit.wrap64 (a : Int) = (a : Int) := by
  unfold RowKit.wrap64
  omega
theorem len8g (y : Int) (h : y.toNat < Lib.len8tab.size) : ((Lib.len8tab[y.toNat]'h).toNat : Int) = Lib.len8 y := by
  unfold Lib.len8
  rw [getElem?_pos Lib.len8tab y.toNat h]
  rfl
set_option maxHeartbeats 8000000 in
set_option maxRecDepth 1000000 in
theorem len64_any (x : Int) (w : World) (h0 : 0 ≤ x) (h1 : x ≤ 18446744073709551615) :
    Calls Tryd.prog 174 #[.int .u64 x] w fun e w' => e = .returned (.int .i64 (Lib.bitLen x.toNat)) ∧ w' = w := by
  go_enter Tryd.func174, Tryd.ntmps174
  go_wp2
  all_goals first
    | (go_ret; refine ⟨congrArg Ending.returned (congrArg (Value.int IntKind.i64) ?_), rfl⟩; go_light)
    | (exfalso
       go_light
       have hs := len8s
       omega)
  all_goals first
    | (rw [len8g (x / 4294967296 / 65536 / 256) _, Lib.len8_of (x / 4294967296 / 65536 / 256) (by omega) (by omega)]
       have e : (x / 4294967296 / 65536 / 256).toNat = x.toNat / 72057594037927936 := by omega
       have l := Lib.bitLen_le8' (x / 4294967296 / 65536 / 256) (by omega) (by omega)
       have s := Lib.bitLen_shift56 x.toNat (by omega) (by omega)
       rw [e] at l ⊢
       exact wrapA 56 _ _ (by decide) l s)
    | (rw [len8g (x / 4294967296 / 65536) _, Lib.len8_of (x / 4294967296 / 65536) (by omega) (by omega)]
       have e : (x / 4294967296 / 65536).toNat = x.toNat / 281474976710656 := by omega
       have l := Lib.bitLen_le8' (x / 4294967296 / 65536) (by omega) (by omega)
       have s := Lib.bitLen_shift48 x.toNat (by omega) (by omega)
       rw [e] at l ⊢
       exact wrapA 48 _ _ (by decide) l s)
    | (rw [len8g (x / 4294967296 / 256) _, Lib.len8_of (x / 4294967296 / 256) (by omega) (by omega)]
       have e : (x / 4294967296 / 256).toNat = x.toNat / 1099511627776 := by omega
       have l := Lib.bitLen_le8' (x / 4294967296 / 256) (by omega) (by omega)
       have s := Lib.bitLen_shift40 x.toNat (by omega) (by omega)
       rw [e] at l ⊢
       exact wrapA 40 _ _ (by decide) l s)
    | (rw [len8g (x / 4294967296) _, Lib.len8_of (x / 4294967296) (by omega) (by omega)]
       have e : (x / 4294967296).toNat = x.toNat / 4294967296 := by omega
       have l := Lib.bitLen_le8' (x / 4294967296) (by omega) (by omega)
       have s := Lib.bitLen_shift32 x.toNat (by omega) (by omega)
       rw [e] at l ⊢
       exact wrapA 32 _ _ (by decide) l s)
    | (rw [len8g (x / 65536 / 256) _, Lib.len8_of (x / 65536 / 256) (by omega) (by omega)]
       have e : (x / 65536 / 256).toNat = x.toNat / 16777216 := by omega
       have l := Lib.bitLen_le8' (x / 65536 / 256) (by omega) (by omega)
       have s := Lib.bitLen_shift24 x.toNat (by omega) (by omega)
       rw [e] at l ⊢
       exact wrapA 24 _ _ (by decide) l s)
    | (rw [len8g (x / 65536) _, Lib.len8_of (x / 65536) (by omega) (by omega)]
       have e : (x / 65536).toNat = x.toNat / 65536 := by omega
       have l := Lib.bitLen_le8' (x / 65536) (by omega) (by omega)
       have s := Lib.bitLen_shift16 x.toNat (by omega) (by omega)
       rw [e] at l ⊢
       exact wrapA 16 _ _ (by decide) l s)
    | (rw [len8g (x / 256) _, Lib.len8_of (x / 256) (by omega) (by omega)]
       have e : (x / 256).toNat = x.toNat / 256 := by omega
       have l := Lib.bitLen_le8' (x / 256) (by omega) (by omega)
       have s := Lib.bitLen_shift8 x.toNat (by omega) (by omega)
       rw [e] at l ⊢
       exact wrapA 8 _ _ (by decide) l s)
    | (rw [len8g (x) _, Lib.len8_of (x) (by omega) (by omega)]
       have e : (x).toNat = x.toNat := by omega
       have l := Lib.bitLen_le8' (x) (by omega) (by omega)
       rw [e] at l ⊢
       first | exact wrapW _ l | exact wrapA 0 _ _ (by decide) l (by omega) | exact wrapO _ l)
theorem bitLen_log : ∀ x : Nat, x ≠ 0 → x < 2 ^ 64 → Lib.bitLen x = x.log2 + 1 := by
  intro x
  induction x using Nat.strongRecOn with
  | _ x ih =>
    intro h0 h1
    rw [Lib.bitLen_half x h0 h1]
    by_cases h2 : x = 1
    · subst h2; decide
    · have h3 : x / 2 ≠ 0 := by omega
      rw [ih (x / 2) (by omega) h3 (by omega)]
      rw [show x.log2 = (x / 2).log2 + 1 by rw [Nat.log2_def, if_pos (by omega)]]
      omega
theorem len_any (x : Int) (w : World) (h0 : 0 ≤ x) (h1 : x ≤ 18446744073709551615) :
    Calls Tryd.prog 155 #[.int .u64 x] w fun e w' => e = .returned (.int .i64 (Lib.bitLen x.toNat)) ∧ w' = w := by
  go_enter Tryd.func155, Tryd.ntmps155
  go_wp2_with fail
  refine (len64_any x w h0 h1).mono ?_
  rintro e w' ⟨rfl, rfl⟩
  go_wp2_with fail
  go_ret
  exact ⟨rfl, rfl⟩
/-- the greatest power of two below a number -/
def halfN (n : Nat) : Nat := 2 ^ (n - 1).log2
theorem halfN_le (n : Nat) (h : 2 ≤ n) : halfN n ≤ n - 1 := Nat.log2_self_le (by omega)
theorem halfN_pos (n : Nat) : 1 ≤ halfN n := Nat.one_le_two_pow
theorem halfN_twice (n : Nat) (h : 2 ≤ n) : n ≤ 2 * halfN n := by
  have := Nat.lt_log2_self (n := n - 1)
  unfold halfN
  rw [Nat.pow_succ] at this
  omega
set_option maxRecDepth 100000 in
theorem half_any (n : Nat) (h : 2 ≤ n) (hn : n ≤ 4611686018427387904) (w : World) :
    Calls Tryd.prog 102 #[.int .i64 n] w fun e w' => e = .returned (.int .i64 (halfN n)) ∧ w = w' := by
  have hb := bitLen_log (n - 1) (by omega) (by omega)
  obtain ⟨k, hk⟩ : ∃ k, (n - 1).log2 = k := ⟨_, rfl⟩
  have hk61 : k ≤ 61 := by
    have h1 := Nat.log2_self_le (n := n - 1) (by omega)
    rw [hk] at h1
    rcases Nat.lt_or_ge 61 k with h2 | h2
    · have := Nat.pow_le_pow_right (show 0 < 2 by decide) (show 62 ≤ k by omega)
      omega
    · exact h2
  have hh : halfN n = 2 ^ k := by unfold halfN; rw [hk]
  rw [hk] at hb
  obtain ⟨m, hm⟩ : ∃ m : Nat, m = n - 1 := ⟨_, rfl⟩
  have em : (n : Int) - 1 = (m : Int) := by omega
  have hm0 : (0 : Int) ≤ (m : Int) := by omega
  have hm1 : (m : Int) ≤ 18446744073709551615 := by omega
  rw [← hm] at hb
  have Hb := Lib.hid hb
  have Hh := Lib.hid hh
  clear hb hh hm hk h
  go_enter Tryd.func102, Tryd.ntmps102
  go_wp2_with fail
  refine (len_any (m : Int) w hm0 hm1).mono ?_
  rintro e w' ⟨rfl, rfl⟩
  rw [Int.toNat_natCast, Hb.out]
  have e1 : ((k + 1 : Nat) : Int) - 1 = (k : Int) := by omega
  go_wp2_with fail
  go_ret
  refine ⟨?_, rfl⟩
  rw [Hh.out]
  have e2 : ((2 : Int) ^ k) = ((2 ^ k : Nat) : Int) := by simp
  have h61 : 2 ^ k ≤ 2 ^ 61 := Nat.pow_le_pow_right (by decide) hk61
  have e3 : wrap64 ((2 : Int) ^ k) = ((2 ^ k : Nat) : Int) := by
    rw [e2]
    generalize (2 ^ k : Nat) = z at h61
    unfold wrap64
    omega
  rw [e3]; rfl
end Go.Proofs.YteonmcconpfkjaaDoor

/- Plain Lean: the root of a list of texts. No condition. -/
namespace Go.Proofs.YteonmcconpfkjaaDoor
def rootF (n : Nat) : Nat → List (List UInt8) → List UInt8
  | 0, _ => []
  | f + 1, l => if l.length ≤ 1 then leafM n (l.headD []) else nodeM n (rootF n f (l.take (halfN l.length))) (rootF n f (l.drop (halfN l.length)))
def rootM (n : Nat) (l : List (List UInt8)) : List UInt8 := if l.length = 0 then sumM n [] else rootF n l.length l
theorem half_parts (l : List (List UInt8)) (h : 2 ≤ l.length) : (l.take (halfN l.length)).length = halfN l.length ∧ (l.drop (halfN l.length)).length = l.length - halfN l.length ∧ 1 ≤ halfN l.length ∧ halfN l.length < l.length := by
  have h1 := halfN_le l.length h
  have h2 := halfN_pos l.length
  refine ⟨by rw [List.length_take]; omega, List.length_drop, h2, by omega⟩
theorem rootF_fuel (n : Nat) : ∀ (f : Nat) (l : List (List UInt8)), 1 ≤ l.length → l.length ≤ f → ∀ g, l.length ≤ g → rootF n f l = rootF n g l := by
  intro f
  induction f with
  | zero => intro l h1 h2; omega
  | succ f ih =>
    intro l h1 h2 g hg
    cases g with
    | zero => omega
    | succ g =>
      unfold rootF
      by_cases h : l.length ≤ 1
      · rw [if_pos h, if_pos h]
      · rw [if_neg h, if_neg h]
        obtain ⟨e1, e2, e3, e4⟩ := half_parts l (by omega)
        rw [ih (l.take (halfN l.length)) (by omega) (by omega) g (by omega), ih (l.drop (halfN l.length)) (by omega) (by omega) g (by omega)]
theorem rootM_one (n : Nat) (b : List UInt8) : rootM n [b] = leafM n b := rfl
theorem rootM_single (n : Nat) (l : List (List UInt8)) (h : l.length = 1) : rootM n l = leafM n (l.getD 0 []) := by
  match l, h with
  | [b], _ => rfl
theorem rootM_nil (n : Nat) : rootM n [] = sumM n [] := rfl
theorem rootM_node (n : Nat) (l : List (List UInt8)) (h : 2 ≤ l.length) : rootM n l = nodeM n (rootM n (l.take (halfN l.length))) (rootM n (l.drop (halfN l.length))) := by
  obtain ⟨e1, e2, e3, e4⟩ := half_parts l h
  have hl : rootM n l = rootF n ((l.length - 1) + 1) l := by unfold rootM; rw [if_neg (by omega), show l.length - 1 + 1 = l.length by omega]
  rw [hl]
  unfold rootF
  rw [if_neg (by omega)]
  unfold rootM
  rw [if_neg (by omega), if_neg (by omega)]
  rw [rootF_fuel n (l.length - 1) (l.take (halfN l.length)) (by omega) (by omega) _ (Nat.le_refl _), rootF_fuel n (l.length - 1) (l.drop (halfN l.length)) (by omega) (by omega) _ (Nat.le_refl _)]
/-- a leaf's path -/
def pathF (n : Nat) : Nat → List (List UInt8) → Nat → List (List UInt8)
  | 0, _, _ => []
  | f + 1, l, i => if l.length ≤ 1 then [] else if i < halfN l.length then pathF n f (l.take (halfN l.length)) i ++ [rootM n (l.drop (halfN l.length))] else pathF n f (l.drop (halfN l.length)) (i - halfN l.length) ++ [rootM n (l.take (halfN l.length))]
def pathM (n : Nat) (l : List (List UInt8)) (i : Nat) : List (List UInt8) := pathF n l.length l i
theorem pathF_fuel (n : Nat) : ∀ (f : Nat) (l : List (List UInt8)) (i : Nat), l.length ≤ f → ∀ g, l.length ≤ g → pathF n f l i = pathF n g l i := by
  intro f
  induction f with
  | zero =>
    intro l i h g hg
    cases g with
    | zero => rfl
    | succ g => unfold pathF; rw [if_pos (by omega)]
  | succ f ih =>
    intro l i h g hg
    cases g with
    | zero => unfold pathF; rw [if_pos (by omega)]
    | succ g =>
      unfold pathF
      by_cases h1 : l.length ≤ 1
      · rw [if_pos h1, if_pos h1]
      · rw [if_neg h1, if_neg h1]
        obtain ⟨e1, e2, e3, e4⟩ := half_parts l (by omega)
        rw [ih (l.take (halfN l.length)) i (by omega) g (by omega), ih (l.drop (halfN l.length)) (i - halfN l.length) (by omega) g (by omega)]
theorem pathM_one (n : Nat) (l : List (List UInt8)) (i : Nat) (h : l.length ≤ 1) : pathM n l i = [] := by
  unfold pathM
  match l, h with
  | [], _ => rfl
  | [b], _ => rfl
  | _ :: _ :: _, h => simp at h
theorem pathM_node (n : Nat) (l : List (List UInt8)) (i : Nat) (h : 2 ≤ l.length) : pathM n l i = if i < halfN l.length then pathM n (l.take (halfN l.length)) i ++ [rootM n (l.drop (halfN l.length))] else pathM n (l.drop (halfN l.length)) (i - halfN l.length) ++ [rootM n (l.take (halfN l.length))] := by
  obtain ⟨e1, e2, e3, e4⟩ := half_parts l h
  have hl : pathM n l i = pathF n ((l.length - 1) + 1) l i := by unfold pathM; rw [show l.length - 1 + 1 = l.length by omega]
  rw [hl]
  unfold pathF
  rw [if_neg (by omega)]
  unfold pathM
  rw [pathF_fuel n (l.length - 1) (l.take (halfN l.length)) i (by omega) _ (Nat.le_refl _), pathF_fuel n (l.length - 1) (l.drop (halfN l.length)) (i - halfN l.length) (by omega) _ (Nat.le_refl _)]
theorem leafM_length (n : Nat) (b : List UInt8) : (leafM n b).length = 32 := sumM_length _ _
theorem nodeM_length (n : Nat) (x y : List UInt8) : (nodeM n x y).length = 32 := sumM_length _ _
theorem rootM_length (n : Nat) (l : List (List UInt8)) : (rootM n l).length = 32 := by
  by_cases h : 2 ≤ l.length
  · rw [rootM_node n l h]; exact nodeM_length _ _ _
  · match l, h with
    | [], _ => exact sumM_length _ _
    | [b], _ => exact leafM_length _ _
    | _ :: _ :: _, h => simp at h
theorem pathM_mem (n : Nat) : ∀ (N : Nat) (l : List (List UInt8)) (i : Nat), l.length ≤ N → ∀ d ∈ pathM n l i, d.length = 32 := by
  intro N
  induction N with
  | zero => intro l i h d hd; rw [pathM_one n l i (by omega)] at hd; cases hd
  | succ N ih =>
    intro l i h d hd
    by_cases h1 : l.length ≤ 1
    · rw [pathM_one n l i h1] at hd; cases hd
    · obtain ⟨e1, e2, e3, e4⟩ := half_parts l (by omega)
      rw [pathM_node n l i (by omega)] at hd
      split at hd
      · rcases List.mem_append.1 hd with hd | hd
        · exact ih _ _ (by omega) d hd
        · rw [List.mem_singleton.1 hd]; exact rootM_length _ _
      · rcases List.mem_append.1 hd with hd | hd
        · exact ih _ _ (by omega) d hd
        · rw [List.mem_singleton.1 hd]; exact rootM_length _ _
/-- a path is no longer than the tree is deep -/
theorem pathM_depth (n : Nat) : ∀ (k : Nat) (l : List (List UInt8)) (i : Nat), l.length ≤ 2 ^ k → (pathM n l i).length ≤ k := by
  intro k
  induction k with
  | zero => intro l i h; rw [pathM_one n l i (by simpa using h)]; exact Nat.zero_le _
  | succ k ih =>
    intro l i h
    by_cases h1 : l.length ≤ 1
    · rw [pathM_one n l i h1]; exact Nat.zero_le _
    · obtain ⟨e1, e2, e3, e4⟩ := half_parts l (by omega)
      have h2 := halfN_twice l.length (by omega)
      have h3 : halfN l.length ≤ 2 ^ k := by
        unfold halfN
        have hlt : (l.length - 1).log2 < k + 1 := (Nat.log2_lt (by omega)).2 (by omega)
        exact Nat.pow_le_pow_right (by decide) (by omega)
      rw [pathM_node n l i (by omega)]
      split
      · have := ih (l.take (halfN l.length)) i (by omega)
        rw [List.length_append]; simp; omega
      · have := ih (l.drop (halfN l.length)) (i - halfN l.length) (by omega)
        rw [List.length_append]; simp; omega
/-- that a list begins with its first leaves -/
def subF (n : Nat) : Nat → List (List UInt8) → Nat → Bool → List (List UInt8)
  | 0, _, _, _ => []
  | f + 1, l, m, b => if m = l.length then (if b then [] else [rootM n l]) else if l.length ≤ 1 then [] else if m ≤ halfN l.length then subF n f (l.take (halfN l.length)) m b ++ [rootM n (l.drop (halfN l.length))] else subF n f (l.drop (halfN l.length)) (m - halfN l.length) false ++ [rootM n (l.take (halfN l.length))]
def subM (n : Nat) (l : List (List UInt8)) (m : Nat) (b : Bool) : List (List UInt8) := subF n (l.length + 1) l m b
theorem subF_fuel (n : Nat) : ∀ (f : Nat) (l : List (List UInt8)) (m : Nat) (b : Bool), l.length < f → ∀ g, l.length < g → subF n f l m b = subF n g l m b := by
  intro f
  induction f with
  | zero => intro l m b h; omega
  | succ f ih =>
    intro l m b h g hg
    cases g with
    | zero => omega
    | succ g =>
      unfold subF
      by_cases h0 : m = l.length
      · rw [if_pos h0, if_pos h0]
      · rw [if_neg h0, if_neg h0]
        by_cases h1 : l.length ≤ 1
        · rw [if_pos h1, if_pos h1]
        · rw [if_neg h1, if_neg h1]
          obtain ⟨e1, e2, e3, e4⟩ := half_parts l (by omega)
          rw [ih (l.take (halfN l.length)) m b (by omega) g (by omega), ih (l.drop (halfN l.length)) (m - halfN l.length) false (by omega) g (by omega)]
theorem subM_all (n : Nat) (l : List (List UInt8)) (m : Nat) (b : Bool) (h : m = l.length) : subM n l m b = if b then [] else [rootM n l] := by
  unfold subM subF; rw [if_pos h]
theorem subM_node (n : Nat) (l : List (List UInt8)) (m : Nat) (b : Bool) (h0 : m ≠ l.length) (h : 2 ≤ l.length) : subM n l m b = if m ≤ halfN l.length then subM n (l.take (halfN l.length)) m b ++ [rootM n (l.drop (halfN l.length))] else subM n (l.drop (halfN l.length)) (m - halfN l.length) false ++ [rootM n (l.take (halfN l.length))] := by
  obtain ⟨e1, e2, e3, e4⟩ := half_parts l h
  have hl : subM n l m b = if m ≤ halfN l.length then subF n l.length (l.take (halfN l.length)) m b ++ [rootM n (l.drop (halfN l.length))] else subF n l.length (l.drop (halfN l.length)) (m - halfN l.length) false ++ [rootM n (l.take (halfN l.length))] := by
    unfold subM
    rw [subF, if_neg h0, if_neg (by omega)]
  rw [hl]
  unfold subM
  rw [subF_fuel n l.length (l.take (halfN l.length)) m b (by omega) ((l.take (halfN l.length)).length + 1) (by omega), subF_fuel n l.length (l.drop (halfN l.length)) (m - halfN l.length) false (by omega) ((l.drop (halfN l.length)).length + 1) (by omega)]
theorem subM_depth (n : Nat) : ∀ (k : Nat) (l : List (List UInt8)) (m : Nat) (b : Bool), 1 ≤ m → m ≤ l.length → l.length ≤ 2 ^ k → (subM n l m b).length ≤ k + 1 := by
  intro k
  induction k with
  | zero =>
    intro l m b h1 h2 h
    rw [subM_all n l m b (by simp at h; omega)]
    split <;> simp
  | succ k ih =>
    intro l m b h1 h2 h
    by_cases h0 : m = l.length
    · rw [subM_all n l m b h0]
      split <;> simp
    · obtain ⟨e1, e2, e3, e4⟩ := half_parts l (by omega)
      have h2' := halfN_twice l.length (by omega)
      have h3 : halfN l.length ≤ 2 ^ k := by
        unfold halfN
        have hlt : (l.length - 1).log2 < k + 1 := (Nat.log2_lt (by omega)).2 (by omega)
        exact Nat.pow_le_pow_right (by decide) (by omega)
      rw [subM_node n l m b h0 (by omega)]
      split
      · have := ih (l.take (halfN l.length)) m b h1 (by omega) (by omega)
        rw [List.length_append]; simp; omega
      · have := ih (l.drop (halfN l.length)) (m - halfN l.length) false (by omega) (by omega) (by omega)
        rw [List.length_append]; simp; omega
theorem subM_mem (n : Nat) : ∀ (N : Nat) (l : List (List UInt8)) (m : Nat) (b : Bool), l.length ≤ N → ∀ d ∈ subM n l m b, d.length = 32 := by
  intro N
  induction N with
  | zero =>
    intro l m b h d hd
    by_cases h0 : m = l.length
    · rw [subM_all n l m b h0] at hd
      split at hd
      · cases hd
      · rw [List.mem_singleton.1 hd]; exact rootM_length _ _
    · unfold subM subF at hd
      rw [if_neg h0, if_pos (by omega)] at hd; cases hd
  | succ N ih =>
    intro l m b h d hd
    by_cases h0 : m = l.length
    · rw [subM_all n l m b h0] at hd
      split at hd
      · cases hd
      · rw [List.mem_singleton.1 hd]; exact rootM_length _ _
    · by_cases h1 : l.length ≤ 1
      · unfold subM subF at hd
        rw [if_neg h0, if_pos h1] at hd; cases hd
      · obtain ⟨e1, e2, e3, e4⟩ := half_parts l (by omega)
        rw [subM_node n l m b h0 (by omega)] at hd
        split at hd
        · rcases List.mem_append.1 hd with hd | hd
          · exact ih _ _ _ (by omega) d hd
          · rw [List.mem_singleton.1 hd]; exact rootM_length _ _
        · rcases List.mem_append.1 hd with hd | hd
          · exact ih _ _ _ (by omega) d hd
          · rw [List.mem_singleton.1 hd]; exact rootM_length _ _
end Go.Proofs.YteonmcconpfkjaaDoor

/- Proofs of a leaf, plain: what a path shows, the same however it is gone up. No condition. -/
namespace Go.Proofs.YteonmcconpfkjaaDoor
/-- both halved while the first is even and not nought -/
def stripF : Nat → Nat → Nat → Nat × Nat
  | 0, fn, sn => (fn, sn)
  | f + 1, fn, sn => if fn % 2 = 0 ∧ fn ≠ 0 then stripF f (fn / 2) (sn / 2) else (fn, sn)
def strip (fn sn : Nat) : Nat × Nat := stripF fn fn sn
theorem stripF_fuel : ∀ (f fn sn : Nat), fn ≤ f → ∀ g, fn ≤ g → stripF f fn sn = stripF g fn sn := by
  intro f
  induction f with
  | zero =>
    intro fn sn h g hg
    obtain rfl : fn = 0 := by omega
    cases g with
    | zero => rfl
    | succ g => rw [stripF, stripF, if_neg (by simp)]
  | succ f ih =>
    intro fn sn h g hg
    cases g with
    | zero =>
      obtain rfl : fn = 0 := by omega
      rw [stripF, stripF, if_neg (by simp)]
    | succ g =>
      rw [stripF, stripF]
      split
      · rename_i hc; exact ih _ _ (by omega) _ (by omega)
      · rfl
theorem strip_even {fn sn : Nat} (h : fn % 2 = 0) (h0 : fn ≠ 0) : strip fn sn = strip (fn / 2) (sn / 2) := by
  unfold strip
  rw [stripF_fuel fn fn sn (Nat.le_refl _) (fn - 1 + 1) (by omega), stripF, if_pos ⟨h, h0⟩]
  exact stripF_fuel _ _ _ (by omega) _ (Nat.le_refl _)
theorem strip_done {fn sn : Nat} (h : ¬ (fn % 2 = 0 ∧ fn ≠ 0)) : strip fn sn = (fn, sn) := by
  unfold strip
  cases fn with
  | zero => rfl
  | succ k => rw [stripF, if_neg h]
theorem strip_le (fn : Nat) : ∀ sn, fn ≤ sn → (strip fn sn).1 ≤ (strip fn sn).2 ∧ (strip fn sn).2 ≤ sn := by
  induction fn using Nat.strongRecOn with
  | _ fn ih =>
    intro sn h
    by_cases hc : fn % 2 = 0 ∧ fn ≠ 0
    · rw [strip_even hc.1 hc.2]
      have := ih (fn / 2) (by omega) (sn / 2) (by omega)
      omega
    · rw [strip_done hc]; exact ⟨h, Nat.le_refl _⟩
theorem strip_snd (fn : Nat) : ∀ sn, (strip fn sn).2 ≤ sn ∧ (strip fn sn).1 ≤ fn := by
  induction fn using Nat.strongRecOn with
  | _ fn ih =>
    intro sn
    by_cases hc : fn % 2 = 0 ∧ fn ≠ 0
    · rw [strip_even hc.1 hc.2]
      have := ih (fn / 2) (by omega) (sn / 2)
      omega
    · rw [strip_done hc]; exact ⟨Nat.le_refl _, Nat.le_refl _⟩
/-- the text of a node -/
def nodeT (n : Nat) (a b : List UInt8) : List UInt8 := 1 :: (a.take n ++ b.take n)
theorem nodeM_sum (n : Nat) (a b : List UInt8) : nodeM n a b = sumM n (nodeT n a b) := rfl
/-- the hash of the last text -/
def lastH (n : Nat) (T : List (List UInt8)) : List UInt8 := sumM n (T.getLastD [])
theorem lastH_snoc (n : Nat) (T : List (List UInt8)) (t : List UInt8) : lastH n (T ++ [t]) = sumM n t := by
  unfold lastH; rw [List.getLastD_eq_getLast?, List.getLast?_append]; rfl
theorem lastH_length (n : Nat) (T : List (List UInt8)) : (lastH n T).length = 32 := sumM_length _ _
/-- what is hashed on the way up; none: the path is none of that place -/
def wayS (n : Nat) : List (List UInt8) → Nat → Nat → List (List UInt8) → Option (List (List UInt8))
  | [], _, sn, T => if sn = 0 then some T else none
  | p :: ps, fn, sn, T => if sn = 0 then none else
      if fn % 2 = 0 ∧ fn ≠ sn then wayS n ps (fn / 2) (sn / 2) (T ++ [nodeT n (lastH n T) p])
      else wayS n ps ((strip fn sn).1 / 2) ((strip fn sn).2 / 2) (T ++ [nodeT n p (lastH n T)])
theorem wayS_nil (n fn sn : Nat) (T : List (List UInt8)) : wayS n [] fn sn T = if sn = 0 then some T else none := rfl
theorem wayS_end (n fn : Nat) (ps : List (List UInt8)) (T : List (List UInt8)) : wayS n ps fn 0 T = if ps = [] then some T else none := by
  cases ps with
  | nil => rfl
  | cons p ps => rw [wayS, if_pos rfl, if_neg (by simp)]
theorem wayS_right (n fn sn : Nat) (p : List UInt8) (ps T : List (List UInt8)) (h0 : sn ≠ 0) (h : fn % 2 = 0) (h1 : fn ≠ sn) : wayS n (p :: ps) fn sn T = wayS n ps (fn / 2) (sn / 2) (T ++ [nodeT n (lastH n T) p]) := by
  rw [wayS, if_neg h0, if_pos ⟨h, h1⟩]
theorem wayS_left (n fn sn : Nat) (p : List UInt8) (ps T : List (List UInt8)) (h0 : sn ≠ 0) (h : ¬ (fn % 2 = 0 ∧ fn ≠ sn)) : wayS n (p :: ps) fn sn T = wayS n ps ((strip fn sn).1 / 2) ((strip fn sn).2 / 2) (T ++ [nodeT n p (lastH n T)]) := by
  rw [wayS, if_neg h0, if_neg h]
theorem wayS_odd (n fn sn : Nat) (p : List UInt8) (ps T : List (List UInt8)) (h0 : sn ≠ 0) (h : fn % 2 = 1) : wayS n (p :: ps) fn sn T = wayS n ps (fn / 2) (sn / 2) (T ++ [nodeT n p (lastH n T)]) := by
  rw [wayS_left n fn sn p ps T h0 (by omega), strip_done (by omega)]
/-- the last of its row without a neighbour goes up as it is -/
theorem wayS_skip (n fn : Nat) (ps T : List (List UInt8)) (h : fn % 2 = 0) (h0 : fn ≠ 0) : wayS n ps fn fn T = wayS n ps (fn / 2) (fn / 2) T := by
  cases ps with
  | nil => rw [wayS_nil, wayS_nil, if_neg h0, if_neg (by omega)]
  | cons p ps => rw [wayS_left n fn fn p ps T h0 (by omega), wayS_left n (fn / 2) (fn / 2) p ps T (by omega) (by omega), strip_even h h0]
/-- how many texts come of it -/
def stepsF : Nat → Nat → Nat → Nat
  | 0, _, _ => 0
  | f + 1, fn, sn => if sn = 0 then 0 else if fn % 2 = 0 ∧ fn ≠ sn then 1 + stepsF f (fn / 2) (sn / 2) else 1 + stepsF f ((strip fn sn).1 / 2) ((strip fn sn).2 / 2)
theorem wayS_len (n : Nat) : ∀ (f : Nat) (ps : List (List UInt8)) (fn sn : Nat) (T X : List (List UInt8)), sn ≤ f → wayS n ps fn sn T = some X → X.length = T.length + stepsF f fn sn ∧ ps.length = stepsF f fn sn := by
  intro f
  induction f with
  | zero =>
    intro ps fn sn T X h hx
    obtain rfl : sn = 0 := by omega
    rw [wayS_end] at hx
    split at hx
    · rename_i hp; injection hx with hx; subst hx; subst hp; exact ⟨rfl, rfl⟩
    · cases hx
  | succ f ih =>
    intro ps fn sn T X h hx
    by_cases h0 : sn = 0
    · subst h0
      rw [wayS_end] at hx
      split at hx
      · rename_i hp; injection hx with hx; subst hx; subst hp; rw [stepsF, if_pos rfl]; exact ⟨rfl, rfl⟩
      · cases hx
    · cases ps with
      | nil => rw [wayS_nil, if_neg h0] at hx; cases hx
      | cons p ps =>
        rw [stepsF, if_neg h0]
        by_cases hc : fn % 2 = 0 ∧ fn ≠ sn
        · rw [wayS_right n fn sn p ps T h0 hc.1 hc.2] at hx
          have := ih _ _ _ _ _ (by omega) hx
          rw [if_pos hc]
          rw [List.length_append, List.length_singleton] at this
          rw [List.length_cons]
          omega
        · rw [wayS_left n fn sn p ps T h0 hc] at hx
          have hs := strip_snd fn sn
          have := ih _ _ _ _ _ (by omega) hx
          rw [if_neg hc]
          rw [List.length_append, List.length_singleton] at this
          rw [List.length_cons]
          omega
/-- does a path show a leaf? -/
def leafS (n : Nat) (b : List UInt8) (i s : Nat) (path : List (List UInt8)) (root : List UInt8) : Bool :=
  if s ≤ i then false else match wayS n path i (s - 1) [0 :: b] with
    | some T => decide (lastH n T = cutL root n)
    | none => false
end Go.Proofs.YteonmcconpfkjaaDoor

/- The walks of merkle's Root and its inner function. No condition. -/
namespace Go.Proofs.YteonmcconpfkjaaDoor
open Go.RowKit
attribute [local irreducible] mixW
attribute [local go_sem] n8_lo n8_hi n64_lo n64_hi n32_lo n32_hi
section
variable {w : World} {B : Nat} {A : Option Addr} {n cap : Nat} {ls : List (List UInt8)}
theorem SSl.lens (h : SSl w B (.slice A n cap) ls) : n = ls.length ∧ ls.length ≤ cap := by
  obtain ⟨A', cap', vs, e1, h1, h2, _⟩ := h
  injection e1 with _ e1 e2
  exact ⟨e1, by omega⟩
theorem SSl.take (h : SSl w B (.slice A n cap) ls) (k : Nat) (hk : k ≤ n) : SSl w B (.slice A k cap) (ls.take k) := by
  obtain ⟨A', cap', vs, e1, h1, h2, h3, h4, h5⟩ := h
  injection e1 with e1 e2 e3
  subst e1; subst e3; subst e2
  have hl : (ls.take k).length = k := by rw [List.length_take]; omega
  refine ⟨A, cap, vs.take k, by rw [hl], by omega, h2, h3.take k, by rw [List.length_take, hl]; omega, fun i hi => ?_⟩
  rw [hl] at hi
  have := h5 i (by omega)
  rw [List.getD_eq_getElem?_getD, List.getD_eq_getElem?_getD] at this ⊢
  rw [List.getElem?_take, if_pos hi, List.getElem?_take, if_pos hi]
  exact this
theorem SSl.drop (h : SSl w B (.slice A n cap) ls) (k : Nat) (hk : k ≤ n) : SSl w B (cutV A cap k n) (ls.drop k) := by
  obtain ⟨A', cap', vs, e1, h1, h2, h3, h4, h5⟩ := h
  injection e1 with e1 e2 e3
  subst e1; subst e3; subst e2
  have hl : (ls.drop k).length = ls.length - k := by rw [List.length_drop]
  refine ⟨_, cap - k, vs.drop k, by unfold cutV; rw [hl], by omega, by omega, h3.cut (k := k) (cap := cap) (by omega) (by omega), by rw [List.length_drop, hl]; omega, fun i hi => ?_⟩
  rw [hl] at hi
  have := h5 (k + i) (by omega)
  rw [List.getD_eq_getElem?_getD, List.getD_eq_getElem?_getD] at this ⊢
  rw [List.getElem?_drop, List.getElem?_drop]
  exact this
/-- an element of a slice of slices -/
theorem SSl.cellAt (h : SSl w B (.slice A n cap) ls) (k : Nat) (hk : k < ls.length) : ∃ b off u, A = some ⟨b, off, none⟩ ∧ b < B ∧ w.cell? ⟨b, off + k, none⟩ = some u ∧ BSl w B u (ls.getD k []) := by
  obtain ⟨A', cap', vs, e1, h1, h2, h3, h4, h5⟩ := h
  injection e1 with e1 e2 e3
  subst e1
  obtain ⟨b, off, e, hb, hc⟩ := h3 (by omega)
  refine ⟨b, off, vs.getD k undef, e, hb, hc k _ ?_, h5 k hk⟩
  rw [List.getD_eq_getElem?_getD, List.getElem?_eq_getElem (show k < vs.length by omega)]; rfl
end
set_option maxHeartbeats 1000000 in
set_option maxRecDepth 100000 in
theorem mroot1_any (x : Int) (wb fb : Nat) (ft : TypeId) : ∀ (N : Nat) (ls : List (List UInt8)), ls.length ≤ N → 1 ≤ ls.length → ls.length ≤ 4611686018427387904 → (∀ b ∈ ls, b.length ≤ 140737488355200) → ∀ (v : Value) (w : World), SSl w w.heap.size v ls → Glob w →
    Blk w wb 3 #[.int .i64 x] → Blk w fb ft #[.func (.func 157) #[] #[.pointer (some ⟨wb, 0, none⟩), .pointer (some ⟨fb, 0, none⟩)]] →
    Calls Tryd.prog 157 #[v, .pointer (some ⟨wb, 0, none⟩), .pointer (some ⟨fb, 0, none⟩)] w fun e w' => e = .returned (.agg (dat (rootM (cutW x) ls))) ∧ Below w.heap.size w w' := by
  intro N
  induction N with
  | zero => intro ls h1 h2; omega
  | succ N ih =>
    intro ls hN h1 h62 hall v w hv hG hW hF
    have IH := Lib.hid ih
    have Hall := Lib.hid hall
    clear ih hall
    have hD := Blk.new w 43 (arr 32 fun _ => 0)
    have hb0 := below_new1 w (Obj.cells (arr 32 fun _ => 0) 43)
    obtain ⟨A, cap, vs, rfl, h2, h3, h4, h5, h6⟩ := hv
    have hv : SSl w w.heap.size (.slice A ls.length cap) ls := ⟨A, cap, vs, rfl, h2, h3, h4, h5, h6⟩
    clear h4 h5 h6 vs
    go_enter Tryd.func157, Tryd.ntmps157
    by_cases hone : ls.length = 1
    · have e1 : ((ls.length : Int) == 1) = true := by rw [beq_iff_eq]; omega
      go_upto_region 2 with fail
      refine wp_at (fun W => Blk W w.heap.size 43 (arr 32 fun _ => 0) ∧ Below w.heap.size w W) ⟨hD, hb0⟩ ?_
      clear hD hb0
      rintro W ⟨hD, hbel⟩
      have Hr := Lib.hid (rootM_single (cutW x) ls hone)
      have hlt : (0 : Int) < (ls.length : Int) := by omega
      refine wp_region_mixT 5 (.plain 0 <| .plain 1 <| .plain 2 <| .plain 3 <| .only 4 <| .done) (by kernel_rfl) (by kernel_rfl) (fun W1 hb1 => ?_)
      replace hD := hD.below hb1 hD.lt
      replace hbel := hbel.trans (hb1.mono hbel.size)
      clear hb1
      obtain ⟨b0, off, u, rfl, hb0, hcu, hu⟩ := (hv.next hbel).cellAt 0 (by omega)
      have Hlb : Hid ((ls.getD 0 []).length ≤ 140737488355200) := Lib.hid (Hall.out _ (by rw [List.getD_eq_getElem?_getD, List.getElem?_eq_getElem (show 0 < ls.length by omega)]; exact List.getElem_mem _))
      have cW : W1.cell? ⟨wb, 0, none⟩ = some (.int .i64 x) := by
        have := (hW.below hbel hW.lt).cell 0
        simpa using this
      have hwl : wb < W1.heap.size := (hW.below hbel hW.lt).lt
      rw [Nat.add_zero] at hcu
      clear hone e1 hv hN h1 h62 h2 h3
      iterate 4 (refine mix_plain rfl ?_; (first
        | (refine wpQuiet_load1 rfl _ (.tmp 1) rfl _ rfl _ Tryd.underlying3 rfl _ (fun _ ⟨e, he⟩ => by rw [he, plus_cell _ _ _ hwl]; exact cW) ?_; simp only [Act.put, List.setIfInBounds_toArray, List.set_cons_zero, List.set_cons_succ])
        | (refine wpQuiet_load1 rfl _ (.tmp 11) rfl _ rfl _ Tryd.underlying22 rfl _ (fun _ ⟨e, he⟩ => by rw [he, plus_cell _ _ _ hb0]; exact hcu) ?_; simp only [Act.put, List.setIfInBounds_toArray, List.set_cons_zero, List.set_cons_succ])
        | go_big_quiet_step (fail)); refine wpQuiet_nil ?_)
      refine mix_only rfl (fun K hK => ?_)
      go_wp2_with fail
      refine (mleaf_any x u (ls.getD 0 []) W1 hu Hlb.out (hG.next hbel)).mono ?_
      rintro e W2 ⟨rfl, hb1⟩
      go_wp2_with fail
      refine hK _ _ hb1 ?_
      clear hK K hcu cW hu
      replace hD := hD.below hb1 hD.lt
      replace hbel := hbel.trans (hb1.mono hbel.size)
      clear hb1
      refine mix_done ?_
      simp only [List.drop_succ_cons, List.drop_zero]
      refine wpList_storeDat rfl rfl 43 (.tmp 4) (.tmp 13) rfl w.heap.size rfl _ _ rfl _ hD (by kernel_rfl) ?_
      intro w10 hD10 hon10
      have hb10 := below_only hbel hon10 (Nat.le_refl _) hbel.size
      go_wp2
      refine bodyPost_ret (results_cell_row (p := 4) (ty := 43) rfl _ _ w.heap.size _ _ _ _ rfl hD10 Tryd.underlying43 rfl (by rw [dat_size]; kernel_rfl)) rfl ⟨?_, hb10⟩
      rw [Hr.out]; rfl
    · have e1 : ((ls.length : Int) == 1) = false := by rw [beq_eq_false_iff_ne]; omega
      go_wp2_with fail
      refine calls_at (fun W => Blk W w.heap.size 43 (arr 32 fun _ => 0) ∧ Below w.heap.size w W) ⟨hD, hb0⟩ ?_
      clear hD hb0
      rintro W ⟨hD, hbel⟩
      have h2l : 2 ≤ ls.length := by omega
      refine (half_any ls.length h2l h62 W).mono ?_
      rintro e _ ⟨rfl, rfl⟩
      have Hp := Lib.hid (half_parts ls h2l)
      have Hr := Lib.hid (rootM_node (cutW x) ls h2l)
      obtain ⟨p, hp⟩ : ∃ p, rootM (cutW x) (ls.take (halfN ls.length)) = p := ⟨_, rfl⟩
      obtain ⟨q, hq⟩ : ∃ q, rootM (cutW x) (ls.drop (halfN ls.length)) = q := ⟨_, rfl⟩
      have Hpq : Hid (p.length = 32 ∧ q.length = 32 ∧ rootM (cutW x) ls = nodeM (cutW x) p q) := Lib.hid ⟨by rw [← hp]; exact rootM_length _ _, by rw [← hq]; exact rootM_length _ _, by rw [Hr.out, hp, hq]⟩
      have Hp0 := Lib.hid hp
      have Hq0 := Lib.hid hq
      clear hp hq Hr e1 hone h2l
      obtain ⟨k, hk⟩ : ∃ k, halfN ls.length = k := ⟨_, rfl⟩
      rw [hk] at Hp Hp0 Hq0 ⊢
      clear hk
      have hkl : (k : Int) ≤ (ls.length : Int) := by have := Hp.out; omega
      have hk0 : (0 : Int) ≤ (k : Int) := by omega
      have hkc : (k : Int) ≤ (cap : Int) := by omega
      go_wp2_with fail
      refine wp_region_mixT 12 (.plain 0 <| .plain 1 <| .plain 2 <| .plain 3 <| .plain 4 <| .plain 6 <| .plain 7 <| .plain 8 <| .plain 9 <| .only 5 <| .only 10 <| .only 11 <| .done) (by kernel_rfl) (by kernel_rfl) (fun W1 hb1 => ?_)
      replace hD := hD.below hb1 hD.lt
      replace hbel := hbel.trans (hb1.mono hbel.size)
      clear hb1
      have cW : W1.cell? ⟨wb, 0, none⟩ = some (.int .i64 x) := by
        have := (hW.below hbel hW.lt).cell 0
        simpa using this
      have cF : W1.cell? ⟨fb, 0, none⟩ = some (.func (.func 157) #[] #[.pointer (some ⟨wb, 0, none⟩), .pointer (some ⟨fb, 0, none⟩)]) := by
        have := (hF.below hbel hF.lt).cell 0
        simpa using this
      have hwl : wb < W1.heap.size := (hW.below hbel hW.lt).lt
      have hfl : fb < W1.heap.size := (hF.below hbel hF.lt).lt
      have hv1 := hv.next hbel
      have hT := hv1.take k (by omega)
      have hR := hv1.drop k (by omega)
      clear hv hv1
      iterate 9 (refine mix_plain rfl ?_; (first
        | (refine wpQuiet_load1 rfl _ (.tmp 1) rfl _ rfl _ Tryd.underlying3 rfl _ (fun _ ⟨e, he⟩ => by rw [he, plus_cell _ _ _ hwl]; exact cW) ?_; simp only [Act.put, List.setIfInBounds_toArray, List.set_cons_zero, List.set_cons_succ])
        | (refine wpQuiet_load1 rfl _ (.tmp 2) rfl _ rfl _ Tryd.underlying80 rfl _ (fun _ ⟨e, he⟩ => by rw [he, plus_cell _ _ _ hfl]; exact cF) ?_; simp only [Act.put, List.setIfInBounds_toArray, List.set_cons_zero, List.set_cons_succ])
        | (refine wpQuiet_cutL rfl _ (.tmp 24) (.tmp 25) rfl 22 Tryd.underlying23 (by kernel_rfl) A ls.length cap k rfl rfl (by omega) ?_; simp only [Act.put, List.setIfInBounds_toArray, List.set_cons_zero, List.set_cons_succ])
        | go_big_quiet_step (fail)); refine wpQuiet_nil ?_)
      have hW1 := hW.below hbel hW.lt
      have hF1 := hF.below hbel hF.lt
      clear cW cF hwl hfl hW hF
      refine mix_only rfl (fun K hK => ?_)
      go_wp2_with fail
      refine (IH.out (ls.take k) (by have := Hp.out; omega) (by have := Hp.out; omega) (by have := Hp.out; omega) (fun b hb => Hall.out b (List.mem_of_mem_take hb)) _ W1 hT (hG.next hbel) hW1 hF1).mono ?_
      rintro e W2 ⟨rfl, hb1⟩
      rw [Hp0.out]
      go_wp2_with fail
      refine hK _ _ hb1 ?_
      clear hK K hT
      replace hD := hD.below hb1 hD.lt
      replace hR := hR.next hb1
      replace hW1 := hW1.below hb1 hW1.lt
      replace hF1 := hF1.below hb1 hF1.lt
      replace hbel := hbel.trans (hb1.mono hbel.size)
      clear hb1
      refine mix_only rfl (fun K hK => ?_)
      go_wp2_with fail
      refine (IH.out (ls.drop k) (by have := Hp.out; omega) (by have := Hp.out; omega) (by have := Hp.out; omega) (fun b hb => Hall.out b (List.mem_of_mem_drop hb)) _ W2 hR (hG.next hbel) hW1 hF1).mono ?_
      rintro e W3 ⟨rfl, hb1⟩
      rw [Hq0.out]
      go_wp2_with fail
      refine hK _ _ hb1 ?_
      clear hK K hR hW1 hF1
      replace hD := hD.below hb1 hD.lt
      replace hbel := hbel.trans (hb1.mono hbel.size)
      clear hb1
      refine mix_only rfl (fun K hK => ?_)
      go_wp2_with fail
      refine (mnode_any x p q Hpq.out.1 Hpq.out.2.1 W3 (hG.next hbel)).mono ?_
      rintro e W4 ⟨rfl, hb1⟩
      go_wp2_with fail
      refine hK _ _ hb1 ?_
      clear hK K
      replace hD := hD.below hb1 hD.lt
      replace hbel := hbel.trans (hb1.mono hbel.size)
      clear hb1
      refine mix_done ?_
      simp only [List.drop_succ_cons, List.drop_zero]
      refine wpList_storeDat rfl rfl 43 (.tmp 4) (.tmp 28) rfl w.heap.size rfl _ _ rfl _ hD (by kernel_rfl) ?_
      intro w10 hD10 hon10
      have hb10 := below_only hbel hon10 (Nat.le_refl _) hbel.size
      go_wp2
      refine bodyPost_ret (results_cell_row (p := 4) (ty := 43) rfl _ _ w.heap.size _ _ _ _ rfl hD10 Tryd.underlying43 rfl (by rw [dat_size]; kernel_rfl)) rfl ⟨?_, hb10⟩
      rw [Hpq.out.2.2]
set_option maxHeartbeats 400000 in
set_option maxRecDepth 100000 in
theorem mroot_any (x : Int) (v : Value) (ls : List (List UInt8)) (w : World) (hv : SSl w w.heap.size v ls) (h62 : ls.length ≤ 4611686018427387904) (hall : ∀ b ∈ ls, b.length ≤ 140737488355200) (hG : Glob w) :
    Calls Tryd.prog 103 #[.int .i64 x, v] w fun e w' => e = .returned (.agg (dat (rootM (cutW x) ls))) ∧ Below w.heap.size w w' := by
  have Hall := Lib.hid hall
  clear hall
  obtain ⟨A, cap, vs, rfl, h2, h3, h4, h5, h6⟩ := hv
  have hv : SSl w w.heap.size (.slice A ls.length cap) ls := ⟨A, cap, vs, rfl, h2, h3, h4, h5, h6⟩
  clear h4 h5 h6 vs
  have hX := (Blk.new w 3 #[.int .i64 x]).alloc (Obj.cells (arr 32 fun _ => 0) 43)
  have hD := Blk.new2 w (Obj.cells #[.int .i64 x] 3) 43 (arr 32 fun _ => 0)
  have hb2 := (below_new1 w (Obj.cells #[.int .i64 x] 3)).alloc (by simp) (Obj.cells (arr 32 fun _ => 0) 43)
  go_enter Tryd.func103, Tryd.ntmps103
  by_cases h0 : ls.length = 0
  · have hnil : ls = [] := List.eq_nil_of_length_eq_zero h0
    subst hnil
    go_wp2_with fail
    refine calls_at (fun W => Blk W (w.heap.size + 1) 43 (arr 32 fun _ => 0) ∧ Below w.heap.size w W) ⟨hD, hb2⟩ ?_
    clear hX hD hb2
    rintro W ⟨hD, hbel⟩
    refine (msum_any x _ [] W BSl.nil_ (by simp) (hG.next hbel)).mono ?_
    rintro e w1 ⟨rfl, hb1⟩
    replace hD := hD.below hb1 hD.lt
    replace hbel := hbel.trans (hb1.mono hbel.size)
    clear hb1
    go_wp2_with (first
      | (refine wpList_storeDat rfl rfl 43 (.tmp 4) (.tmp 10) rfl (w.heap.size + 1) rfl _ _ rfl _ hD (by kernel_rfl) ?_; intro w10 hD10 hon10))
    have hb10 := below_only hbel hon10 (by omega) hbel.size
    exact bodyPost_ret (results_cell_row (p := 4) (ty := 43) rfl _ _ (w.heap.size + 1) _ _ _ _ rfl hD10 Tryd.underlying43 rfl (by rw [dat_size]; kernel_rfl)) rfl ⟨rfl, hb10⟩
  · have e1 : ((ls.length : Int) == 0) = false := by rw [beq_eq_false_iff_ne]; omega
    have hmf : ∀ (fn : Fn) (first cap : Array Value) (w : World), (Instr.makeFunc fn first cap).run Tryd.prog w = .ok (.func fn first cap) w := fun _ _ _ _ => rfl
    have hF := Blk.new3 w (Obj.cells #[.int .i64 x] 3) (Obj.cells (arr 32 fun _ => 0) 43) 80 #[.nilFunc]
    have hX3 := hX.alloc (Obj.cells #[.nilFunc] 80)
    have hD3 := hD.alloc (Obj.cells #[.nilFunc] 80)
    have hb3 := hb2.alloc hb2.size (Obj.cells #[.nilFunc] 80)
    clear hX hD hb2
    go_upto_region 5 with (first
      | (refine wpList_store1 rfl rfl _ (.tmp 5) (.tmp 11) rfl (w.heap.size + 2) 0 rfl (.func (.func 157) #[] #[.pointer (some ⟨w.heap.size, 0, none⟩), .pointer (some ⟨w.heap.size + 2, 0, none⟩)]) rfl _ _ hF (by kernel_rfl) (by simp) rfl rfl ?_; intro w4 hF4 hon4))
    have hb4 := below_only hb3 hon4 (by omega) hb3.size
    have hX4 := hX3.grown hon4 (by simp)
    have hD4 := hD3.grown hon4 (by simp)
    clear hF hX3 hD3 hb3 hon4 hmf e1
    have cF := hF4.cell 0
    have hf0 : (#[Value.nilFunc].setIfInBounds 0 (.func (.func 157) #[] #[.pointer (some ⟨w.heap.size, 0, none⟩), .pointer (some ⟨w.heap.size + 2, 0, none⟩)])) = #[Value.func (.func 157) #[] #[.pointer (some ⟨w.heap.size, 0, none⟩), .pointer (some ⟨w.heap.size + 2, 0, none⟩)]] := rfl
    rw [hf0] at hF4 cF
    have cF : w4.cell? ⟨w.heap.size + 2, 0, none⟩ = some (.func (.func 157) #[] #[.pointer (some ⟨w.heap.size, 0, none⟩), .pointer (some ⟨w.heap.size + 2, 0, none⟩)]) := by simpa using cF
    clear hf0
    go_wp2_with fail
    refine (mroot1_any x w.heap.size (w.heap.size + 2) 80 ls.length ls (Nat.le_refl _) (by omega) h62 Hall.out _ w4 (hv.next hb4) (hG.next hb4) hX4 hF4).mono ?_
    rintro e w5 ⟨rfl, hb1⟩
    replace hD4 := hD4.below hb1 hD4.lt
    have hbel := hb4.trans (hb1.mono hb4.size)
    clear hb1 hF4 hX4 cF hb4
    go_wp2_with (first
      | (refine wpList_storeDat rfl rfl 43 (.tmp 4) (.tmp 14) rfl (w.heap.size + 1) rfl _ _ rfl _ hD4 (by kernel_rfl) ?_; intro w10 hD10 hon10))
    have hb10 := below_only hbel hon10 (by omega) hbel.size
    exact bodyPost_ret (results_cell_row (p := 4) (ty := 43) rfl _ _ (w.heap.size + 1) _ _ _ _ rfl hD10 Tryd.underlying43 rfl (by rw [dat_size]; kernel_rfl)) rfl ⟨rfl, hb10⟩
end Go.Proofs.YteonmcconpfkjaaDoor

/- The reference's arithmetic in plain Lean: limbs, their product, the roots. No condition. -/
namespace Go.Proofs.YteonmcconpfkjaaDoor
def limbsU (x : UInt64) : List UInt64 := [x &&& 65535, x >>> 16 &&& 65535, x >>> 32 &&& 65535, x >>> 48]
def tIn (i : Nat) (ai : UInt64) (b out : List UInt64) : Nat → List UInt64 × UInt64
  | 0 => (out, 0)
  | k + 1 => ((tIn i ai b out k).1.set (i + k) (((tIn i ai b out k).1.getD (i + k) 0 + ai * b.getD k 0 + (tIn i ai b out k).2) &&& 65535), ((tIn i ai b out k).1.getD (i + k) 0 + ai * b.getD k 0 + (tIn i ai b out k).2) >>> 16)
def tOut (a b : List UInt64) : Nat → List UInt64
  | 0 => List.replicate (a.length + b.length) 0
  | i + 1 => (tIn i (a.getD i 0) b (tOut a b i) b.length).1.set (i + b.length) ((tIn i (a.getD i 0) b (tOut a b i) b.length).1.getD (i + b.length) 0 + (tIn i (a.getD i 0) b (tOut a b i) b.length).2)
def val : List UInt64 → Nat
  | [] => 0
  | x :: l => x.toNat + 65536 * val l
def Small (l : List UInt64) : Prop := ∀ i, (l.getD i 0).toNat < 65536
theorem getD_set (l : List UInt64) (i j : Nat) (v : UInt64) (hi : i < l.length) : (l.set i v).getD j 0 = if j = i then v else l.getD j 0 := by
  rw [List.getD_eq_getElem?_getD, List.getD_eq_getElem?_getD, List.getElem?_set]
  by_cases h : i = j
  · subst h; simp [hi]
  · rw [if_neg h, if_neg (fun e => h e.symm)]
theorem Small.set {l : List UInt64} (h : Small l) (i : Nat) (v : UInt64) (hi : i < l.length) (hv : v.toNat < 65536) : Small (l.set i v) := fun j => by
  rw [getD_set l i j v hi]; split
  · exact hv
  · exact h j
theorem pow_step (n i : Nat) : n * 65536 ^ (i + 1) = 65536 * (n * 65536 ^ i) := by rw [Nat.pow_succ, ← Nat.mul_assoc, Nat.mul_comm]
theorem val_set : ∀ (l : List UInt64) (i : Nat) (v : UInt64), i < l.length → val (l.set i v) + (l.getD i 0).toNat * 65536 ^ i = val l + v.toNat * 65536 ^ i
  | [], i, _, h => absurd h (Nat.not_lt_zero _)
  | x :: l, 0, v, _ => by simp [val]; omega
  | x :: l, i + 1, v, h => by
    have ih := val_set l i v (by simpa using h)
    simp only [List.set_cons_succ, val, List.getD_cons_succ]
    rw [pow_step, pow_step]; omega
theorem val_take_succ : ∀ (l : List UInt64) (k : Nat), k < l.length → val (l.take (k + 1)) = val (l.take k) + (l.getD k 0).toNat * 65536 ^ k
  | [], k, h => absurd h (Nat.not_lt_zero _)
  | x :: l, 0, _ => by simp [val]
  | x :: l, k + 1, h => by
    have ih := val_take_succ l k (by simpa using h)
    rw [List.take_succ_cons, List.take_succ_cons, val, val, ih, List.getD_cons_succ, pow_step]; omega
theorem val_replicate : ∀ n, val (List.replicate n 0) = 0
  | 0 => rfl
  | n + 1 => by rw [List.replicate_succ]; simp [val, val_replicate n]
theorem getD_zeros (n j : Nat) : (List.replicate n (0 : UInt64)).getD j 0 = 0 := by
  rw [List.getD_eq_getElem?_getD, List.getElem?_replicate]; split <;> rfl
theorem small_replicate (n : Nat) : Small (List.replicate n 0) := fun i => by rw [getD_zeros]; decide
theorem step_val (s a b c : UInt64) (hs : s.toNat < 65536) (ha : a.toNat < 65536) (hb : b.toNat < 65536) (hc : c.toNat < 65536) :
    ((s + a * b + c) &&& 65535).toNat = (s.toNat + a.toNat * b.toNat + c.toNat) % 65536 ∧ ((s + a * b + c) >>> 16).toNat = (s.toNat + a.toNat * b.toNat + c.toNat) / 65536 ∧ s.toNat + a.toNat * b.toNat + c.toNat < 65536 * 65536 := by
  have hab : a.toNat * b.toNat ≤ 65535 * 65535 := Nat.mul_le_mul (by omega) (by omega)
  have e : (s + a * b + c).toNat = s.toNat + a.toNat * b.toNat + c.toNat := by
    rw [UInt64.toNat_add, UInt64.toNat_add, UInt64.toNat_mul]; omega
  refine ⟨?_, ?_, by omega⟩
  · rw [UInt64.toNat_and, e]; exact Nat.and_two_pow_sub_one_eq_mod _ 16
  · rw [UInt64.toNat_shiftRight, e]; exact Nat.shiftRight_eq_div_pow _ 16
theorem tIn_ok (i : Nat) (ai : UInt64) (b out : List UInt64) (hai : ai.toNat < 65536) (hb : Small b) (ho : Small out) (hl : i + b.length ≤ out.length) : ∀ k, k ≤ b.length →
    (tIn i ai b out k).1.length = out.length ∧ Small (tIn i ai b out k).1 ∧ (tIn i ai b out k).2.toNat < 65536 ∧
    val (tIn i ai b out k).1 + (tIn i ai b out k).2.toNat * 65536 ^ (i + k) = val out + ai.toNat * val (b.take k) * 65536 ^ i ∧ ∀ j, i + k ≤ j → (tIn i ai b out k).1.getD j 0 = out.getD j 0
  | 0, _ => ⟨rfl, ho, (by decide : (0 : UInt64).toNat < 65536), by simp [tIn, val], fun _ _ => rfl⟩
  | k + 1, hk => by
    obtain ⟨h1, h2, h3, h4, h5⟩ := tIn_ok i ai b out hai hb ho hl k (by omega)
    rw [tIn]
    generalize tIn i ai b out k = s at *
    obtain ⟨e1, e2, e3⟩ := step_val _ ai _ _ (h2 (i + k)) hai (hb k) h3
    have hik : i + k < s.1.length := by omega
    have hv := val_set s.1 (i + k) ((s.1.getD (i + k) 0 + ai * b.getD k 0 + s.2) &&& 65535) hik
    refine ⟨by rw [List.length_set]; exact h1, h2.set _ _ hik (by rw [e1]; exact Nat.mod_lt _ (by decide)), by rw [e2]; omega, ?_, fun j hj => ?_⟩
    · rw [e1] at hv
      rw [e2, val_take_succ b k (by omega)]
      have hp : 65536 ^ (i + (k + 1)) = 65536 * 65536 ^ (i + k) := by rw [← Nat.add_assoc, Nat.pow_succ, Nat.mul_comm]
      have hq : ai.toNat * (val (b.take k) + (b.getD k 0).toNat * 65536 ^ k) * 65536 ^ i = ai.toNat * val (b.take k) * 65536 ^ i + ai.toNat * (b.getD k 0).toNat * 65536 ^ (i + k) := by
        rw [Nat.mul_add, Nat.add_mul, Nat.pow_add, ← Nat.mul_assoc, Nat.mul_assoc _ (65536 ^ k) (65536 ^ i), Nat.mul_comm (65536 ^ k)]
      rw [hp, hq]
      generalize 65536 ^ (i + k) = P at *
      generalize ai.toNat * (b.getD k 0).toNat = ab at *
      generalize hx : (s.1.getD (i + k) 0).toNat + ab + s.2.toNat = x at *
      have hm : x % 65536 * P + x / 65536 * (65536 * P) = x * P := by
        rw [← Nat.mul_assoc, ← Nat.add_mul]; congr 1; omega
      have hs : x * P = (s.1.getD (i + k) 0).toNat * P + ab * P + s.2.toNat * P := by rw [← hx, Nat.add_mul, Nat.add_mul]
      generalize x % 65536 * P = t1 at *
      generalize x / 65536 * (65536 * P) = t2 at *
      show val (s.1.set (i + k) ((s.1.getD (i + k) 0 + ai * b.getD k 0 + s.2) &&& 65535)) + t2 = _
      omega
    · rw [getD_set _ _ _ _ hik, if_neg (by omega)]; exact h5 j (by omega)
theorem tIn_succ (i : Nat) (ai : UInt64) (b out : List UInt64) (k : Nat) : tIn i ai b out (k + 1) = ((tIn i ai b out k).1.set (i + k) (((tIn i ai b out k).1.getD (i + k) 0 + ai * b.getD k 0 + (tIn i ai b out k).2) &&& 65535), ((tIn i ai b out k).1.getD (i + k) 0 + ai * b.getD k 0 + (tIn i ai b out k).2) >>> 16) := rfl
theorem tOut_succ (a b : List UInt64) (i : Nat) : tOut a b (i + 1) = (tIn i (a.getD i 0) b (tOut a b i) b.length).1.set (i + b.length) ((tIn i (a.getD i 0) b (tOut a b i) b.length).1.getD (i + b.length) 0 + (tIn i (a.getD i 0) b (tOut a b i) b.length).2) := rfl
theorem tIn_length (i : Nat) (ai : UInt64) (b out : List UInt64) : ∀ k, (tIn i ai b out k).1.length = out.length
  | 0 => rfl
  | k + 1 => by rw [tIn, List.length_set]; exact tIn_length i ai b out k
theorem tOut_length (a b : List UInt64) : ∀ i, (tOut a b i).length = a.length + b.length
  | 0 => by simp [tOut]
  | i + 1 => by rw [tOut, List.length_set, tIn_length]; exact tOut_length a b i
theorem tOut_ok (a b : List UInt64) (ha : Small a) (hb : Small b) : ∀ i, i ≤ a.length →
    (tOut a b i).length = a.length + b.length ∧ Small (tOut a b i) ∧ (∀ j, i + b.length ≤ j → (tOut a b i).getD j 0 = 0) ∧ val (tOut a b i) = val (a.take i) * val b
  | 0, _ => ⟨by simp [tOut], small_replicate _, fun j _ => getD_zeros _ _, by simp [tOut, val_replicate, val]⟩
  | i + 1, hi => by
    obtain ⟨h1, h2, h3, h4⟩ := tOut_ok a b ha hb i (by omega)
    obtain ⟨g1, g2, g3, g4, g5⟩ := tIn_ok i (a.getD i 0) b (tOut a b i) (ha i) hb h2 (by omega) b.length (Nat.le_refl _)
    rw [tOut]
    generalize tIn i (a.getD i 0) b (tOut a b i) b.length = s at *
    have hik : i + b.length < s.1.length := by omega
    have hz : s.1.getD (i + b.length) 0 = 0 := (g5 _ (Nat.le_refl _)).trans (h3 _ (Nat.le_refl _))
    have hv := val_set s.1 (i + b.length) (s.1.getD (i + b.length) 0 + s.2) hik
    rw [hz, UInt64.zero_add] at hv ⊢
    refine ⟨by rw [List.length_set]; omega, g2.set _ _ hik g3, fun j hj => ?_, ?_⟩
    · rw [getD_set _ _ _ _ hik, if_neg (by omega), g5 _ (by omega)]; exact h3 j (by omega)
    · rw [val_take_succ a i (by omega), Nat.add_mul, ← h4]
      rw [List.take_length] at g4
      have e : (a.getD i 0).toNat * 65536 ^ i * val b = (a.getD i 0).toNat * val b * 65536 ^ i := by rw [Nat.mul_assoc, Nat.mul_comm (65536 ^ i), ← Nat.mul_assoc]
      rw [e]
      have h0 : (0 : UInt64).toNat = 0 := rfl
      rw [h0, Nat.zero_mul] at hv
      omega
def timesU (a b : List UInt64) : List UInt64 := tOut a b a.length
theorem timesU_ok (a b : List UInt64) (ha : Small a) (hb : Small b) : (timesU a b).length = a.length + b.length ∧ Small (timesU a b) ∧ val (timesU a b) = val a * val b := by
  obtain ⟨h1, h2, _, h4⟩ := tOut_ok a b ha hb a.length (Nat.le_refl _)
  rw [List.take_length] at h4
  exact ⟨h1, h2, h4⟩
theorem and_mod (x : UInt64) : (x &&& 65535).toNat = x.toNat % 65536 := by rw [UInt64.toNat_and]; exact Nat.and_two_pow_sub_one_eq_mod _ 16
theorem shr_div16 (x : UInt64) : (x >>> 16).toNat = x.toNat / 65536 := by rw [UInt64.toNat_shiftRight]; exact Nat.shiftRight_eq_div_pow _ 16
theorem shr_div32 (x : UInt64) : (x >>> 32).toNat = x.toNat / 4294967296 := by rw [UInt64.toNat_shiftRight]; exact Nat.shiftRight_eq_div_pow _ 32
theorem shr_div48 (x : UInt64) : (x >>> 48).toNat = x.toNat / 281474976710656 := by rw [UInt64.toNat_shiftRight]; exact Nat.shiftRight_eq_div_pow _ 48
theorem small_cons {x : UInt64} {l : List UInt64} (hx : x.toNat < 65536) (h : Small l) : Small (x :: l)
  | 0 => by simpa using hx
  | i + 1 => by simpa using h i
theorem small_nil : Small [] := fun i => by simp
theorem limbsU_small (x : UInt64) : Small (limbsU x) :=
  small_cons (by rw [and_mod]; omega) (small_cons (by rw [and_mod]; omega) (small_cons (by rw [and_mod]; omega) (small_cons (by rw [shr_div48]; have := x.toNat_lt; omega) small_nil)))
theorem limbsU_val (x : UInt64) : val (limbsU x) = x.toNat := by
  have := x.toNat_lt
  simp only [limbsU, val, and_mod, shr_div16, shr_div32, shr_div48]; omega
/-- the comparison from the top -/
def cmpU (b w : List UInt64) : Nat → Bool
  | 0 => true
  | i + 1 => if b.getD i 0 = w.getD i 0 then cmpU b w i else decide (b.getD i 0 < w.getD i 0)
theorem val_take_lt (l : List UInt64) (h : Small l) : ∀ k, k ≤ l.length → val (l.take k) < 65536 ^ k
  | 0, _ => by simp [val]
  | k + 1, hk => by
    have ih := val_take_lt l h k (by omega)
    have hk2 := h k
    rw [val_take_succ l k (by omega), Nat.pow_succ]
    have : ((l.getD k 0).toNat + 1) * 65536 ^ k ≤ 65536 * 65536 ^ k := Nat.mul_le_mul_right _ (by omega)
    rw [Nat.add_mul] at this; omega
theorem cmpU_ok (b w : List UInt64) (hb : Small b) (hw : Small w) : ∀ i, i ≤ b.length → i ≤ w.length → cmpU b w i = decide (val (b.take i) ≤ val (w.take i))
  | 0, _, _ => by simp [cmpU, val]
  | i + 1, h1, h2 => by
    have ih := cmpU_ok b w hb hw i (by omega) (by omega)
    have l1 := val_take_lt b hb i (by omega)
    have l2 := val_take_lt w hw i (by omega)
    rw [cmpU, val_take_succ b i (by omega), val_take_succ w i (by omega)]
    split
    · rename_i h
      rw [ih, h]; simp
    · rename_i h
      have hne : (b.getD i 0).toNat ≠ (w.getD i 0).toNat := fun e => h (UInt64.toNat_inj.1 e)
      apply decide_eq_decide.2
      rw [UInt64.lt_iff_toNat_lt]
      generalize 65536 ^ i = P at *
      constructor
      · intro hlt
        have : ((b.getD i 0).toNat + 1) * P ≤ (w.getD i 0).toNat * P := Nat.mul_le_mul_right _ hlt
        rw [Nat.add_mul] at this; omega
      · intro hle
        apply Classical.byContradiction
        intro hn
        have : ((w.getD i 0).toNat + 1) * P ≤ (b.getD i 0).toNat * P := Nat.mul_le_mul_right _ (by omega)
        rw [Nat.add_mul] at this; omega
/-- what the walk of 'below' compares with -/
def wantU (n m : Nat) (p : UInt64) : List UInt64 := ((List.replicate m 0).set n (p &&& 65535)).set (n + 1) (p >>> 16)
theorem wantU_ok (n m : Nat) (p : UInt64) (hn : n + 1 < m) (hp : p.toNat < 4294967296) : (wantU n m p).length = m ∧ Small (wantU n m p) ∧ val (wantU n m p) = p.toNat * 65536 ^ n := by
  have l1 : n < (List.replicate m (0 : UInt64)).length := by simp; omega
  have s1 : Small ((List.replicate m 0).set n (p &&& 65535)) := (small_replicate m).set n _ l1 (by rw [and_mod]; omega)
  have l2 : n + 1 < ((List.replicate m (0 : UInt64)).set n (p &&& 65535)).length := by simpa using hn
  have v1 := val_set (List.replicate m 0) n (p &&& 65535) l1
  have v2 := val_set ((List.replicate m 0).set n (p &&& 65535)) (n + 1) (p >>> 16) l2
  rw [getD_set _ _ _ _ l1, if_neg (by omega), getD_zeros] at v2
  rw [getD_zeros, val_replicate, and_mod] at v1
  refine ⟨by simp [wantU], s1.set _ _ l2 (by rw [shr_div16]; omega), ?_⟩
  unfold wantU
  have hz : (0 : UInt64).toNat = 0 := rfl
  rw [shr_div16, hz, Nat.zero_mul, Nat.add_zero, pow_step] at v2
  rw [hz, Nat.zero_mul, Nat.add_zero, Nat.zero_add] at v1
  rw [v2, v1, ← Nat.mul_assoc, ← Nat.add_mul]
  congr 1; omega
def belowU (x p : UInt64) (cube : Bool) : Bool := decide (x.toNat ^ (if cube then 3 else 2) ≤ p.toNat * 65536 ^ (if cube then 6 else 4))
theorem below_sq (x p : UInt64) (hp : p.toNat < 4294967296) : cmpU (timesU (limbsU x) (limbsU x)) (wantU 4 8 p) 8 = belowU x p false := by
  obtain ⟨h1, h2, h3⟩ := timesU_ok _ _ (limbsU_small x) (limbsU_small x)
  obtain ⟨g1, g2, g3⟩ := wantU_ok 4 8 p (by decide) hp
  have e1 : (timesU (limbsU x) (limbsU x)).length = 8 := h1
  rw [cmpU_ok _ _ h2 g2 8 (by omega) (by omega), List.take_of_length_le (by omega), List.take_of_length_le (by omega), h3, g3, limbsU_val]
  simp [belowU, Nat.pow_succ]
theorem below_cb (x p : UInt64) (hp : p.toNat < 4294967296) : cmpU (timesU (timesU (limbsU x) (limbsU x)) (limbsU x)) (wantU 6 12 p) 12 = belowU x p true := by
  obtain ⟨h1, h2, h3⟩ := timesU_ok _ _ (limbsU_small x) (limbsU_small x)
  obtain ⟨k1, k2, k3⟩ := timesU_ok _ _ h2 (limbsU_small x)
  obtain ⟨g1, g2, g3⟩ := wantU_ok 6 12 p (by decide) hp
  have e1 : (timesU (timesU (limbsU x) (limbsU x)) (limbsU x)).length = 12 := by rw [k1, h1]; rfl
  rw [cmpU_ok _ _ k2 g2 12 (by omega) (by omega), List.take_of_length_le (by omega), List.take_of_length_le (by omega), k3, h3, g3, limbsU_val]
  simp [belowU, Nat.pow_succ]
/-- r is the root -/
def IsRoot (p : UInt64) (cube : Bool) (r : Nat) : Prop := r ^ (if cube then 3 else 2) ≤ p.toNat * 65536 ^ (if cube then 6 else 4) ∧ p.toNat * 65536 ^ (if cube then 6 else 4) < (r + 1) ^ (if cube then 3 else 2)
instance (p : UInt64) (c : Bool) (r : Nat) : Decidable (IsRoot p c r) := by unfold IsRoot; infer_instance
theorem IsRoot.unique {p : UInt64} {c : Bool} {r s : Nat} (h : IsRoot p c r) (g : IsRoot p c s) : r = s := by
  have hx : ∀ a b : Nat, a ^ (if c then 3 else 2) < (b + 1) ^ (if c then 3 else 2) → a ≤ b := fun a b hab => by
    apply Classical.byContradiction
    intro hn
    exact absurd (Nat.pow_le_pow_left (show b + 1 ≤ a by omega) (if c then 3 else 2)) (by omega)
  have h1 := hx r s (Nat.lt_of_le_of_lt h.1 g.2)
  have h2 := hx s r (Nat.lt_of_le_of_lt g.1 h.2)
  omega
def primeL : List UInt64 := [2, 3, 5, 7, 11, 13, 17, 19, 23, 29, 31, 37, 41, 43, 47, 53, 59, 61, 67, 71, 73, 79, 83, 89, 97, 101, 103, 107, 109, 113, 127, 131, 137, 139, 149, 151, 157, 163, 167, 173, 179, 181, 191, 193, 197, 199, 211, 223, 227, 229, 233, 239, 241, 251, 257, 263, 269, 271, 277, 281, 283, 293, 307, 311]
def cubeL : List Nat := [5411319704, 6194414737, 7344290767, 8215976869, 9551921755, 10098905585, 11043570340, 11460697813, 12214315672, 13195500289, 13492127166, 14311783875, 14809980276, 15046980094, 15499789991, 16133124468, 16720292289, 16907126662, 17444216262, 17784676812, 17950125167, 18429019306, 18734950876, 19175934170, 19734090066, 20001703533, 20132865992, 20390182855, 20516441075, 20764397895, 21588763473, 21813078375, 22141143685, 22248366392, 22769593852, 22871018771, 23170020180, 23461497531, 23651862830, 23931792517, 24205322401, 24295138891, 24734567280, 24820601251, 24990902297, 25075189284, 25569408389, 26045227120, 26200031510, 26276752392, 26428864332, 26653801653, 26727943347, 27092625994, 27306805839, 27517677555, 27725365998, 27793908591, 27997534228, 28131656200, 28198240250, 28526537963, 28973835255, 29099129074]
def squareL : List Nat := [6074000999, 7439101573, 9603838834, 11363415354, 14244795007, 15485724812, 17708603819, 18721328409]
theorem cubeL_ok : ∀ i, i < 64 → IsRoot (primeL.getD i 0) true (cubeL.getD i 0) := by decide +kernel
theorem squareL_ok : ∀ i, i < 8 → IsRoot (primeL.getD i 0) false (squareL.getD i 0) := by decide +kernel
theorem cubeL_K : ∀ i, i < 64 → UInt32.ofNat (cubeL.getD i 0) = K0.getD i 0 := by decide +kernel
theorem squareL_H : ∀ i, i < 8 → UInt32.ofNat (squareL.getD i 0) = H0.list.getD i 0 := by decide +kernel
end Go.Proofs.YteonmcconpfkjaaDoor
