/- Closed facts for ShaNumbers. No condition. -/
import Derived.Test.YtilndfodlbcmjaaDoorConst
import Derived.Lib.Hide
import Derived.Test.YtilndfodlbcmjaaDoorShaF
import Derived.Outline
namespace Go.Proofs.YtilndfodlbcmjaaDoor
open Go.RowKit
attribute [local go_sem] n8_lo n8_hi
def numKey : List UInt8 := [107, 101, 121]
def numText : List UInt8 := [84, 104, 101, 32, 113, 117, 105, 99, 107, 32, 98, 114, 111, 119, 110, 32, 102, 111, 120, 32, 106, 117, 109, 112, 115, 32, 111, 118, 101, 114, 32, 116, 104, 101, 32, 108, 97, 122, 121, 32, 100, 111, 103]
def onesF (k p : Nat) : UInt8 := if p < k then 255 else 0
def onesL : List UInt8 := List.replicate 32 255
theorem ones_0 : onesF 0 = fun _ => 0 := by funext p; unfold onesF; rw [if_neg (by omega)]
theorem ones_step (k : Nat) : (fun p => if p = k then 255 else onesF k p) = onesF (k + 1) := by
  funext p
  unfold onesF
  by_cases h : p = k
  · rw [if_pos h, if_pos (by omega)]
  · rw [if_neg h]
    by_cases h2 : p < k
    · rw [if_pos h2, if_pos (by omega)]
    · rw [if_neg h2, if_neg (by omega)]
theorem ones_32 : arr 32 (onesF 32) = dat onesL := by kernel_rfl
theorem hex_mac : hexL (mac numKey numText) 32 = [102, 55, 98, 99, 56, 51, 102, 52, 51, 48, 53, 51, 56, 52, 50, 52, 98, 49, 51, 50, 57, 56, 101, 54, 97, 97, 54, 102, 98, 49, 52, 51, 101, 102, 52, 100, 53, 57, 97, 49, 52, 57, 52, 54, 49, 55, 53, 57, 57, 55, 52, 55, 57, 100, 98, 99, 50, 100, 49, 97, 51, 99, 100, 56] := by decide +kernel
theorem cut_2 : cutL onesL 2 = 255 :: 255 :: List.replicate 30 0 := by decide +kernel
theorem cut_0 : cutL onesL 0 = List.replicate 32 0 := by decide +kernel
theorem cut_m : cutL onesL (-1) = List.replicate 32 0 := by decide +kernel
theorem cut_40 : cutL onesL 40 = onesL := by decide +kernel
theorem dat_2 : dat (255 :: 255 :: List.replicate 30 0) = #[.int .u8 255, .int .u8 255, .int .u8 0, .int .u8 0, .int .u8 0, .int .u8 0, .int .u8 0, .int .u8 0, .int .u8 0, .int .u8 0, .int .u8 0, .int .u8 0, .int .u8 0, .int .u8 0, .int .u8 0, .int .u8 0, .int .u8 0, .int .u8 0, .int .u8 0, .int .u8 0, .int .u8 0, .int .u8 0, .int .u8 0, .int .u8 0, .int .u8 0, .int .u8 0, .int .u8 0, .int .u8 0, .int .u8 0, .int .u8 0, .int .u8 0, .int .u8 0] := by kernel_rfl
theorem dat_0 : dat (List.replicate 32 0) = #[.int .u8 0, .int .u8 0, .int .u8 0, .int .u8 0, .int .u8 0, .int .u8 0, .int .u8 0, .int .u8 0, .int .u8 0, .int .u8 0, .int .u8 0, .int .u8 0, .int .u8 0, .int .u8 0, .int .u8 0, .int .u8 0, .int .u8 0, .int .u8 0, .int .u8 0, .int .u8 0, .int .u8 0, .int .u8 0, .int .u8 0, .int .u8 0, .int .u8 0, .int .u8 0, .int .u8 0, .int .u8 0, .int .u8 0, .int .u8 0, .int .u8 0, .int .u8 0] := by kernel_rfl
theorem SSl.nil_ {w : World} {B : Nat} : SSl w B (.slice none 0 0) [] := ⟨none, 0, [], rfl, Nat.le_refl _, by decide, Reads.nil_, rfl, fun _ h => absurd h (by simp)⟩
theorem below_plusB {B : Nat} {W V : World} (h : Hid (B = W.heap.size)) (hb : Below B W V) : ∃ e, V = plus W e := below_plus (h.out ▸ hb)
theorem below_asW {B : Nat} {W V : World} (h : Hid (B = W.heap.size)) (hb : Below B W V) : Below W.heap.size W V := h.out ▸ hb
theorem below_sizeB {B : Nat} {W V : World} (h : Hid (B = W.heap.size)) (hb : Below B W V) : B ≤ V.heap.size := by have := hb.size; have := h.out; omega
end Go.Proofs.YtilndfodlbcmjaaDoor
