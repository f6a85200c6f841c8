/- The walks of math/bits' Len64 and Len, and of merkle's half. No condition. -/
import Derived.Test.YtbhmmoecoijojaaDoorBase
import Derived.Test.YtbhmmoecoijojaaDoorChecked
import Derived.WalkKit
import Derived.Lib.Hide
import Derived.Lib.Strings
import Derived.Lib.Slices
import Derived.Lib.Small
import Derived.Lib.Walk
import Derived.Lib.BitFns
import Derived.Deep.Light
namespace Go.Proofs.YtbhmmoecoijojaaDoor
open Go Go.RowKit
theorem len8s : (Lib.len8tab.size : Int) = 256 := by
  have : Lib.len8tab.size = 256 := by kernel_rfl
  omega
theorem wrapA (k a b : Nat) (hk : k ≤ 56) (ha : a ≤ 8) (hb : b = k + a) : RowKit.wrap64 ((k : Int) + RowKit.wrap64 (a : Int)) = (b : Int) := by
  unfold RowKit.wrap64
  omega
theorem wrapW (a : Nat) (ha : a ≤ 8) : RowKit.wrap64 (RowKit.wrap64 (a : Int)) = (a : Int) := by
  unfold RowKit.wrap64
  omega
theorem wrapO (a : Nat) (ha : a ≤ 8) : RowKit.wrap64 (a : Int) = (a : Int) := by
  unfold RowKit.wrap64
  omega
theorem len8g (y : Int) (h : y.toNat < Lib.len8tab.size) : ((Lib.len8tab[y.toNat]'h).toNat : Int) = Lib.len8 y := by
  unfold Lib.len8
  rw [getElem?_pos Lib.len8tab y.toNat h]
  rfl
set_option maxHeartbeats 8000000 in
set_option maxRecDepth 1000000 in
theorem len64_any (x : Int) (w : World) (h0 : 0 ≤ x) (h1 : x ≤ 18446744073709551615) :
    Calls Tryd.prog 90 #[.int .u64 x] w fun e w' => e = .returned (.int .i64 (Lib.bitLen x.toNat)) ∧ w' = w := by
  go_enter Tryd.func90, Tryd.ntmps90
  go_wp2
  all_goals first
    | (go_ret; refine ⟨congrArg Ending.returned (congrArg (Value.int IntKind.i64) ?_), rfl⟩; go_light)
    | (exfalso
       go_light
       have hs := len8s
       omega)
  all_goals first
    | (rw [len8g (x / 4294967296 / 65536 / 256) _, Lib.len8_of (x / 4294967296 / 65536 / 256) (by omega) (by omega)]
       have e : (x / 4294967296 / 65536 / 256).toNat = x.toNat / 72057594037927936 := by omega
       have l := Lib.bitLen_le8' (x / 4294967296 / 65536 / 256) (by omega) (by omega)
       have s := Lib.bitLen_shift56 x.toNat (by omega) (by omega)
       rw [e] at l ⊢
       exact wrapA 56 _ _ (by decide) l s)
    | (rw [len8g (x / 4294967296 / 65536) _, Lib.len8_of (x / 4294967296 / 65536) (by omega) (by omega)]
       have e : (x / 4294967296 / 65536).toNat = x.toNat / 281474976710656 := by omega
       have l := Lib.bitLen_le8' (x / 4294967296 / 65536) (by omega) (by omega)
       have s := Lib.bitLen_shift48 x.toNat (by omega) (by omega)
       rw [e] at l ⊢
       exact wrapA 48 _ _ (by decide) l s)
    | (rw [len8g (x / 4294967296 / 256) _, Lib.len8_of (x / 4294967296 / 256) (by omega) (by omega)]
       have e : (x / 4294967296 / 256).toNat = x.toNat / 1099511627776 := by omega
       have l := Lib.bitLen_le8' (x / 4294967296 / 256) (by omega) (by omega)
       have s := Lib.bitLen_shift40 x.toNat (by omega) (by omega)
       rw [e] at l ⊢
       exact wrapA 40 _ _ (by decide) l s)
    | (rw [len8g (x / 4294967296) _, Lib.len8_of (x / 4294967296) (by omega) (by omega)]
       have e : (x / 4294967296).toNat = x.toNat / 4294967296 := by omega
       have l := Lib.bitLen_le8' (x / 4294967296) (by omega) (by omega)
       have s := Lib.bitLen_shift32 x.toNat (by omega) (by omega)
       rw [e] at l ⊢
       exact wrapA 32 _ _ (by decide) l s)
    | (rw [len8g (x / 65536 / 256) _, Lib.len8_of (x / 65536 / 256) (by omega) (by omega)]
       have e : (x / 65536 / 256).toNat = x.toNat / 16777216 := by omega
       have l := Lib.bitLen_le8' (x / 65536 / 256) (by omega) (by omega)
       have s := Lib.bitLen_shift24 x.toNat (by omega) (by omega)
       rw [e] at l ⊢
       exact wrapA 24 _ _ (by decide) l s)
    | (rw [len8g (x / 65536) _, Lib.len8_of (x / 65536) (by omega) (by omega)]
       have e : (x / 65536).toNat = x.toNat / 65536 := by omega
       have l := Lib.bitLen_le8' (x / 65536) (by omega) (by omega)
       have s := Lib.bitLen_shift16 x.toNat (by omega) (by omega)
       rw [e] at l ⊢
       exact wrapA 16 _ _ (by decide) l s)
    | (rw [len8g (x / 256) _, Lib.len8_of (x / 256) (by omega) (by omega)]
       have e : (x / 256).toNat = x.toNat / 256 := by omega
       have l := Lib.bitLen_le8' (x / 256) (by omega) (by omega)
       have s := Lib.bitLen_shift8 x.toNat (by omega) (by omega)
       rw [e] at l ⊢
       exact wrapA 8 _ _ (by decide) l s)
    | (rw [len8g (x) _, Lib.len8_of (x) (by omega) (by omega)]
       have e : (x).toNat = x.toNat := by omega
       have l := Lib.bitLen_le8' (x) (by omega) (by omega)
       rw [e] at l ⊢
       first | exact wrapW _ l | exact wrapA 0 _ _ (by decide) l (by omega) | exact wrapO _ l)
theorem bitLen_log : ∀ x : Nat, x ≠ 0 → x < 2 ^ 64 → Lib.bitLen x = x.log2 + 1 := by
  intro x
  induction x using Nat.strongRecOn with
  | _ x ih =>
    intro h0 h1
    rw [Lib.bitLen_half x h0 h1]
    by_cases h2 : x = 1
    · subst h2; decide
    · have h3 : x / 2 ≠ 0 := by omega
      rw [ih (x / 2) (by omega) h3 (by omega)]
      rw [show x.log2 = (x / 2).log2 + 1 by rw [Nat.log2_def, if_pos (by omega)]]
      omega
theorem len_any (x : Int) (w : World) (h0 : 0 ≤ x) (h1 : x ≤ 18446744073709551615) :
    Calls Tryd.prog 81 #[.int .u64 x] w fun e w' => e = .returned (.int .i64 (Lib.bitLen x.toNat)) ∧ w' = w := by
  go_enter Tryd.func81, Tryd.ntmps81
  go_wp2_with fail
  refine (len64_any x w h0 h1).mono ?_
  rintro e w' ⟨rfl, rfl⟩
  go_wp2_with fail
  go_ret
  exact ⟨rfl, rfl⟩
/-- the greatest power of two below a number -/
def halfN (n : Nat) : Nat := 2 ^ (n - 1).log2
theorem halfN_le (n : Nat) (h : 2 ≤ n) : halfN n ≤ n - 1 := Nat.log2_self_le (by omega)
theorem halfN_pos (n : Nat) : 1 ≤ halfN n := Nat.one_le_two_pow
theorem halfN_twice (n : Nat) (h : 2 ≤ n) : n ≤ 2 * halfN n := by
  have := Nat.lt_log2_self (n := n - 1)
  unfold halfN
  rw [Nat.pow_succ] at this
  omega
set_option maxRecDepth 100000 in
theorem half_any (n : Nat) (h : 2 ≤ n) (hn : n ≤ 4611686018427387904) (w : World) :
    Calls Tryd.prog 55 #[.int .i64 n] w fun e w' => e = .returned (.int .i64 (halfN n)) ∧ w = w' := by
  have hb := bitLen_log (n - 1) (by omega) (by omega)
  obtain ⟨k, hk⟩ : ∃ k, (n - 1).log2 = k := ⟨_, rfl⟩
  have hk61 : k ≤ 61 := by
    have h1 := Nat.log2_self_le (n := n - 1) (by omega)
    rw [hk] at h1
    rcases Nat.lt_or_ge 61 k with h2 | h2
    · have := Nat.pow_le_pow_right (show 0 < 2 by decide) (show 62 ≤ k by omega)
      omega
    · exact h2
  have hh : halfN n = 2 ^ k := by unfold halfN; rw [hk]
  rw [hk] at hb
  obtain ⟨m, hm⟩ : ∃ m : Nat, m = n - 1 := ⟨_, rfl⟩
  have em : (n : Int) - 1 = (m : Int) := by omega
  have hm0 : (0 : Int) ≤ (m : Int) := by omega
  have hm1 : (m : Int) ≤ 18446744073709551615 := by omega
  rw [← hm] at hb
  have Hb := Lib.hid hb
  have Hh := Lib.hid hh
  clear hb hh hm hk h
  go_enter Tryd.func55, Tryd.ntmps55
  go_wp2_with fail
  refine (len_any (m : Int) w hm0 hm1).mono ?_
  rintro e w' ⟨rfl, rfl⟩
  rw [Int.toNat_natCast, Hb.out]
  have e1 : ((k + 1 : Nat) : Int) - 1 = (k : Int) := by omega
  go_wp2_with fail
  go_ret
  refine ⟨?_, rfl⟩
  rw [Hh.out]
  have e2 : ((2 : Int) ^ k) = ((2 ^ k : Nat) : Int) := by simp
  have h61 : 2 ^ k ≤ 2 ^ 61 := Nat.pow_le_pow_right (by decide) hk61
  have e3 : wrap64 ((2 : Int) ^ k) = ((2 ^ k : Nat) : Int) := by
    rw [e2]
    generalize (2 ^ k : Nat) = z at h61
    unfold wrap64
    omega
  rw [e3]; rfl
end Go.Proofs.YtbhmmoecoijojaaDoor
