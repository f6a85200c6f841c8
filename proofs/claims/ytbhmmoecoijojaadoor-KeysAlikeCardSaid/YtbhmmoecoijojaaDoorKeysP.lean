/- Plain Lean: numbers as bytes, the highest first. No condition. -/
import Derived.Test.YtbhmmoecoijojaaDoorBase
import Derived.Test.YtbhmmoecoijojaaDoorShaSpec
namespace Go.Proofs.YtbhmmoecoijojaaDoor
/-- byte number j (from the lowest) -/
def byteAt (n : UInt64) (j : Nat) : UInt8 := UInt8.ofNat (n.toNat / 2 ^ (8 * j))
/-- the k lowest bytes, the highest first -/
def numB (n : UInt64) (k : Nat) : List UInt8 := (List.range k).map fun j => byteAt n (k - 1 - j)
theorem numB_length (n : UInt64) (k : Nat) : (numB n k).length = k := by simp [numB]
/-- how many bytes a number has -/
def clamp8 (k : Int) : Nat := if k < 1 then 1 else if k > 8 then 8 else k.toNat
theorem clamp8_lo (k : Int) : 1 ≤ clamp8 k := by unfold clamp8; split; · omega
                                                 split <;> omega
theorem clamp8_hi (k : Int) : clamp8 k ≤ 8 := by unfold clamp8; split; · omega
                                                 split <;> omega
/-- what is written when i + 1 bytes are still to come -/
def numTo (n : UInt64) (s i : Nat) : List UInt8 := (numB n s).take (s - i)
theorem numTo_0 (n : UInt64) (s : Nat) : numTo n s s = [] := by simp [numTo]
theorem numTo_end (n : UInt64) (s : Nat) : numTo n s 0 = numB n s := by unfold numTo; rw [Nat.sub_zero, List.take_of_length_le (by rw [numB_length]; exact Nat.le_refl _)]
theorem numTo_step (n : UInt64) (s i : Nat) (h : i < s) : numTo n s i = numTo n s (i + 1) ++ [byteAt n i] := by
  unfold numTo
  have e : s - i = (s - (i + 1)) + 1 := by omega
  have hl : s - (i + 1) < (numB n s).length := by rw [numB_length]; omega
  rw [e, List.take_succ_eq_append_getElem hl]
  congr 2
  simp only [numB, List.getElem_map, List.getElem_range]
  congr 1
  omega
theorem byte_val (n : UInt64) (i : Nat) : n64 n / 2 ^ (8 * i) % 256 = n8 (byteAt n i) := by
  unfold n64 n8 byteAt
  rw [UInt8.toNat_ofNat']
  have : ((n.toNat : Int) / 2 ^ (8 * i)) = ((n.toNat / 2 ^ (8 * i) : Nat) : Int) := by simp
  rw [this]; omega
def keyTxt : List UInt8 := [107, 101, 121]
def headTxt : List UInt8 := [104, 101, 97, 100]
/-- an int, as a word of 64 bits -/
def i64u (x : Int) : UInt64 := UInt64.ofNat (x % 18446744073709551616).toNat
theorem i64u_val (x : Int) : x % 18446744073709551616 = n64 (i64u x) := by
  unfold n64 i64u
  rw [UInt64.toNat_ofNat_of_lt' (by show _ < 18446744073709551616; omega)]
  omega
structure HeadL where
  tree : Int
  epoch : Int
  size : UInt64
  clock : UInt64
  root : List UInt8
def HeadL.ok (h : HeadL) : Prop := h.root.length = 32 ∧ (-9223372036854775808 ≤ h.tree ∧ h.tree ≤ 9223372036854775807) ∧ (-9223372036854775808 ≤ h.epoch ∧ h.epoch ≤ 9223372036854775807)
def headB (h : HeadL) : List UInt8 := headTxt ++ (numB (i64u h.tree) 1 ++ numB (i64u h.epoch) 4 ++ numB h.size 8 ++ numB h.clock 8 ++ h.root)
theorem headB_length (h : HeadL) (hr : h.root.length = 32) : (headB h).length = 57 := by simp [headB, headTxt, numB_length, hr]
end Go.Proofs.YtbhmmoecoijojaaDoor
