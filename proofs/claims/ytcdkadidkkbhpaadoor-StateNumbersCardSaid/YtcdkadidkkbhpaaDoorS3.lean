/- Texts that stand behind one another: ShaA. No condition. -/
import Derived.Test.YtcdkadidkkbhpaaDoorChecked
import Derived.Test.YtcdkadidkkbhpaaDoorS2
import Derived.WalkKit
import Derived.WalkLawsBesides
import Derived.WalkSpells
import Derived.BigQuiet
import Derived.Deep.QuietTactic
import Derived.Lib.Hide
import Derived.Deep.RegionWith
/- The walks of sha's word functions: RotateLeft32, turned, shifted. No condition. -/
namespace Go.Proofs.YtcdkadidkkbhpaaDoor
open Go.RowKit
attribute [local go_sem] bits_and32 bits_or32 bits_xor32 bits_not32 add32 n32_lo n32_hi
theorem rotl_any (x : UInt32) (k : Int) (hk0 : -32 < k) (hk1 : k < 0) (hk : bits .and .u64 (IntKind.u64.wrap k) 31 = ((32 - (-k).toNat : Nat) : Int)) (w : World) :
    Calls Tryd.prog 94 #[.int .u32 (n32 x), .int .i64 k] w fun e w' => e = .returned (.int .u32 (n32 (rotr x (-k).toNat))) ∧ w = w' := by
  have h0 := n32_lo x
  have h1 := n32_hi x
  go_enter Tryd.func94, Tryd.ntmps94
  go_wp2
  go_ret
  refine ⟨?_, rfl⟩
  rw [← rot_val x (-k).toNat (by omega)]; rfl
theorem turned_any (x : UInt32) (a b c : Int) (w : World) (ha : 0 < a) (ha' : a < 32) (hb : 0 < b) (hb' : b < 32) (hc : 0 < c) (hc' : c < 32)
    (hka : bits .and .u64 (IntKind.u64.wrap (-a)) 31 = ((32 - a.toNat : Nat) : Int)) (hkb : bits .and .u64 (IntKind.u64.wrap (-b)) 31 = ((32 - b.toNat : Nat) : Int)) (hkc : bits .and .u64 (IntKind.u64.wrap (-c)) 31 = ((32 - c.toNat : Nat) : Int)) :
    Calls Tryd.prog 92 #[.int .u32 (n32 x), .int .i64 a, .int .i64 b, .int .i64 c] w fun e w' => e = .returned (.int .u32 (n32 (turnedU x a.toNat b.toNat c.toNat))) ∧ w = w' := by
  have h0 := n32_lo x
  have h1 := n32_hi x
  have Hka := Lib.hid hka
  have Hkb := Lib.hid hkb
  have Hkc := Lib.hid hkc
  clear hka hkb hkc
  go_enter Tryd.func92, Tryd.ntmps92
  go_wp2_with fail
  refine (rotl_any x (-a) (by omega) (by omega) (by rw [Int.neg_neg]; exact Hka.out) _).mono ?_; rintro e w' ⟨rfl, rfl⟩
  go_wp2_with fail
  refine (rotl_any x (-b) (by omega) (by omega) (by rw [Int.neg_neg]; exact Hkb.out) _).mono ?_; rintro e w' ⟨rfl, rfl⟩
  go_wp2_with fail
  refine (rotl_any x (-c) (by omega) (by omega) (by rw [Int.neg_neg]; exact Hkc.out) _).mono ?_; rintro e w' ⟨rfl, rfl⟩
  go_wp2
  go_ret
  refine ⟨?_, rfl⟩
  rfl
theorem shifted_any (x : UInt32) (a b c : Int) (w : World) (ha : 0 < a) (ha' : a < 32) (hb : 0 < b) (hb' : b < 32) (hc : 0 < c) (hc' : c < 32)
    (hka : bits .and .u64 (IntKind.u64.wrap (-a)) 31 = ((32 - a.toNat : Nat) : Int)) (hkb : bits .and .u64 (IntKind.u64.wrap (-b)) 31 = ((32 - b.toNat : Nat) : Int)) :
    Calls Tryd.prog 91 #[.int .u32 (n32 x), .int .i64 a, .int .i64 b, .int .i64 c] w fun e w' => e = .returned (.int .u32 (n32 (shiftedU x a.toNat b.toNat c.toNat))) ∧ ∃ n, w' = w.drewN n := by
  have h0 := n32_lo x
  have h1 := n32_hi x
  have Hka := Lib.hid hka
  have Hkb := Lib.hid hkb
  clear hka hkb
  have na : IntKind.i64.wrap (-a) = -a := IntWalk.i64_in _ (by omega)
  have nb : IntKind.i64.wrap (-b) = -b := IntWalk.i64_in _ (by omega)
  go_enter Tryd.func91, Tryd.ntmps91
  go_wp2
  refine wp_region_quiet_lit (by kernel_rfl) (by kernel_rfl) ?_
  repeat (go_big_quiet_step (first
    | (go_at_call_of 94 (Value.int .i64 (-a)); exact Calls.quiet_of_same ((rotl_any x (-a) (by omega) (by omega) (by rw [Int.neg_neg]; exact Hka.out) _).mono fun _ _ h => ⟨h.1, h.2.symm⟩))
    | (go_at_call_of 94 (Value.int .i64 (-b)); exact Calls.quiet_of_same ((rotl_any x (-b) (by omega) (by omega) (by rw [Int.neg_neg]; exact Hkb.out) _).mono fun _ _ h => ⟨h.1, h.2.symm⟩))))
  refine wpQuiet_nil ?_
  intro W hW
  obtain ⟨nq, rfl⟩ := hW
  go_wp2
  go_ret
  have e : bits .xor .u32 (n32 (rotr x a.toNat ^^^ rotr x b.toNat)) (n32 x / 2 ^ c.toNat) = n32 (shiftedU x a.toNat b.toNat c.toNat) := by rw [n32_shr, bits_xor32]; rfl
  exact ⟨congrArg (fun z => Ending.returned (Value.int IntKind.u32 z)) e, _, rfl⟩
end Go.Proofs.YtcdkadidkkbhpaaDoor
