/- merkle.Prove, Compare and the reference's, in every case: one contract each. No condition. -/
import Derived.Test.YtbhmmoecoijojaaDoorMerkQ
import Derived.Test.YtbhmmoecoijojaaDoorMerkS
import Derived.Test.YtbhmmoecoijojaaDoorRefQ
import Derived.Test.YtbhmmoecoijojaaDoorSame8
namespace Go.Proofs.YtbhmmoecoijojaaDoor
open Go Go.RowKit
def pathX (n : Nat) (l : List (List UInt8)) (i : Nat) : List (List UInt8) := if i < l.length then pathM n l i else []
def pathE (l : List (List UInt8)) (i : Nat) : Int := if i < l.length then 0 else 25
def subX (n : Nat) (l : List (List UInt8)) (i : Nat) : List (List UInt8) := if 1 ≤ i ∧ i ≤ l.length then subM n l i true else []
def subE (l : List (List UInt8)) (i : Nat) : Int := if 1 ≤ i ∧ i ≤ l.length then 0 else 25
theorem pathX_mem (n : Nat) (l : List (List UInt8)) (i : Nat) : ∀ d ∈ pathX n l i, d.length = 32 := by
  unfold pathX
  split
  · exact pathM_mem n _ l i (Nat.le_refl _)
  · intro d hd; cases hd
theorem subX_mem (n : Nat) (l : List (List UInt8)) (i : Nat) : ∀ d ∈ subX n l i, d.length = 32 := by
  unfold subX
  split
  · exact subM_mem n _ l i true (Nat.le_refl _)
  · intro d hd; cases hd
theorem pathX_depth (n k : Nat) (l : List (List UInt8)) (i : Nat) (h : l.length ≤ 2 ^ k) : (pathX n l i).length ≤ k := by
  unfold pathX
  split
  · exact pathM_depth n k l i h
  · exact Nat.zero_le _
theorem subX_depth (n k : Nat) (l : List (List UInt8)) (i : Nat) (h : l.length ≤ 2 ^ k) : (subX n l i).length ≤ k + 1 := by
  unfold subX
  split
  · rename_i h1; exact subM_depth n k l i true h1.1 h1.2 h
  · exact Nat.zero_le _
theorem DSl.nil (w : World) : DSl w (.slice none 0 0) [] := ⟨none, 0, rfl, fun k hk => absurd hk (Nat.not_lt_zero _)⟩
theorem prove_tot (x : Int) (v : Value) (ls : List (List UInt8)) (i : Nat) (hi64 : i ≤ 18446744073709551615) (w : World) (hv : SSl w w.heap.size v ls) (h62 : ls.length ≤ 4611686018427387904) (hall : ∀ b ∈ ls, b.length ≤ 140737488355200) (hG : Glob w) :
    Calls Tryd.prog 22 #[.int .i64 x, v, .int .u64 i] w fun e w' => ∃ A cap, e = .returned (.tuple #[.slice A (pathX (cutW x) ls i).length cap, .int .i64 (pathE ls i)]) ∧ DSl w' (.slice A (pathX (cutW x) ls i).length cap) (pathX (cutW x) ls i) ∧ Below w.heap.size w w' := by
  unfold pathX pathE
  by_cases hi : i < ls.length
  · simp only [hi, if_true]
    refine (prove_any x v ls i w hv h62 hall hi hG).mono ?_
    rintro e w' ⟨u, rfl, hown, hb⟩
    obtain ⟨A, c, rfl⟩ := own_slice hown
    exact ⟨A, c, rfl, DSl.of_own hown, hb⟩
  · simp only [hi, if_false]
    refine (prove_out x v ls i hi64 w hv h62 (by omega)).mono ?_
    rintro e w' ⟨rfl, hb⟩
    exact ⟨none, 0, rfl, DSl.nil w', hb⟩
theorem compare_tot (x : Int) (v : Value) (ls : List (List UInt8)) (i : Nat) (hi64 : i ≤ 18446744073709551615) (w : World) (hv : SSl w w.heap.size v ls) (h62 : ls.length ≤ 4611686018427387904) (hall : ∀ b ∈ ls, b.length ≤ 140737488355200) (hG : Glob w) :
    Calls Tryd.prog 43 #[.int .i64 x, v, .int .u64 i] w fun e w' => ∃ A cap, e = .returned (.tuple #[.slice A (subX (cutW x) ls i).length cap, .int .i64 (subE ls i)]) ∧ DSl w' (.slice A (subX (cutW x) ls i).length cap) (subX (cutW x) ls i) ∧ Below w.heap.size w w' := by
  unfold subX subE
  by_cases hi : 1 ≤ i ∧ i ≤ ls.length
  · simp only [hi, if_true, and_self]
    refine (compare_any x v ls i w hv h62 hall hi.1 hi.2 hG).mono ?_
    rintro e w' ⟨u, rfl, hown, hb⟩
    obtain ⟨A, c, rfl⟩ := own_slice hown
    exact ⟨A, c, rfl, DSl.of_own hown, hb⟩
  · simp only [hi, if_false]
    refine (compare_out x v ls i hi64 w hv h62 (by omega)).mono ?_
    rintro e w' ⟨rfl, hb⟩
    exact ⟨none, 0, rfl, DSl.nil w', hb⟩
theorem r8prove_tot (h : Value) (n : Nat) (v : Value) (ls : List (List UInt8)) (i : Nat) (hi64 : i ≤ 18446744073709551615) (w : World) (hv : SSl w w.heap.size v ls) (h62 : ls.length ≤ 4611686018427387904) (hall : ∀ b ∈ ls, b.length ≤ 140737488351232) (hh : Hsr w w.heap.size h n) :
    Calls Tryd.prog 46 #[h, v, .int .u64 i] w fun e w' => ∃ A cap, e = .returned (.tuple #[.slice A (pathX n ls i).length cap, .int .i64 (pathE ls i)]) ∧ DSl w' (.slice A (pathX n ls i).length cap) (pathX n ls i) ∧ Below w.heap.size w w' := by
  unfold pathX pathE
  by_cases hi : i < ls.length
  · simp only [hi, if_true]
    refine (r8prove_any h n _ ls i (Nat.le_refl _) hi h62 hall v w hv hh).mono ?_
    rintro e w' ⟨u, rfl, hown, hb⟩
    obtain ⟨A, c, rfl⟩ := own_slice hown
    exact ⟨A, c, rfl, DSl.of_own hown, hb⟩
  · simp only [hi, if_false]
    refine (r8prove_out h v ls i hi64 w hv h62 (by omega)).mono ?_
    rintro e w' ⟨rfl, hb⟩
    exact ⟨none, 0, rfl, DSl.nil w', hb⟩
theorem r8compare_tot (h : Value) (n : Nat) (v : Value) (ls : List (List UInt8)) (i : Nat) (hi64 : i ≤ 18446744073709551615) (w : World) (hv : SSl w w.heap.size v ls) (h62 : ls.length ≤ 4611686018427387904) (hall : ∀ b ∈ ls, b.length ≤ 140737488351232) (hh : Hsr w w.heap.size h n) :
    Calls Tryd.prog 47 #[h, v, .int .u64 i] w fun e w' => ∃ A cap, e = .returned (.tuple #[.slice A (subX n ls i).length cap, .int .i64 (subE ls i)]) ∧ DSl w' (.slice A (subX n ls i).length cap) (subX n ls i) ∧ Below w.heap.size w w' := by
  unfold subX subE
  by_cases hi : 1 ≤ i ∧ i ≤ ls.length
  · simp only [hi, if_true, and_self]
    refine (r8compare_any h v n ls i w hv h62 hall hi.1 hi.2 hh).mono ?_
    rintro e w' ⟨u, rfl, hown, hb⟩
    obtain ⟨A, c, rfl⟩ := own_slice hown
    exact ⟨A, c, rfl, DSl.of_own hown, hb⟩
  · simp only [hi, if_false]
    refine (r8compare_out h v ls i hi64 w hv h62 (by omega)).mono ?_
    rintro e w' ⟨rfl, hb⟩
    exact ⟨none, 0, rfl, DSl.nil w', hb⟩
end Go.Proofs.YtbhmmoecoijojaaDoor
