/- Base lemmas: machine integers as named casts (n8, n32, n64), so that a walk's frame stays readable. No condition. -/
import Derived.Laws.BitsLemmas
import Derived.Laws.Unary
import Derived.Laws.Shifts
import Derived.Laws.Wrap64
import Derived.IntWalk
namespace Go.Proofs.YtbhmmoecoijojaaDoor
open Go
def n8 (x : UInt8) : Int := x.toNat
def n32 (x : UInt32) : Int := x.toNat
def n64 (x : UInt64) : Int := x.toNat
def v8 (x : UInt8) : Value := .int .u8 (n8 x)
def v32 (x : UInt32) : Value := .int .u32 (n32 x)
def v64 (x : UInt64) : Value := .int .u64 (n64 x)
theorem n8_lo (x : UInt8) : 0 ≤ n8 x := by unfold n8; omega
theorem n8_hi (x : UInt8) : n8 x < 256 := by unfold n8; have := x.toNat_lt; omega
theorem n32_lo (x : UInt32) : 0 ≤ n32 x := by unfold n32; omega
theorem n32_hi (x : UInt32) : n32 x < 4294967296 := by unfold n32; have := x.toNat_lt; omega
theorem n64_lo (x : UInt64) : 0 ≤ n64 x := by unfold n64; omega
theorem n64_hi (x : UInt64) : n64 x < 18446744073709551616 := by unfold n64; have := x.toNat_lt; omega
theorem n8_inj {x y : UInt8} (h : n8 x = n8 y) : x = y := UInt8.toNat_inj.1 (by unfold n8 at h; omega)
theorem n32_inj {x y : UInt32} (h : n32 x = n32 y) : x = y := UInt32.toNat_inj.1 (by unfold n32 at h; omega)
theorem n64_inj {x y : UInt64} (h : n64 x = n64 y) : x = y := UInt64.toNat_inj.1 (by unfold n64 at h; omega)
theorem ofInt_n8 (x : UInt8) : BitVec.ofInt 8 (n8 x) = x.toBitVec := by
  apply BitVec.eq_of_toNat_eq; unfold n8; rw [BitVec.ofInt_natCast, BitVec.toNat_ofNat]
  exact Nat.mod_eq_of_lt x.toBitVec.isLt
theorem ofInt_n32 (x : UInt32) : BitVec.ofInt 32 (n32 x) = x.toBitVec := by
  apply BitVec.eq_of_toNat_eq; unfold n32; rw [BitVec.ofInt_natCast, BitVec.toNat_ofNat]
  exact Nat.mod_eq_of_lt x.toBitVec.isLt
theorem ofInt_n64 (x : UInt64) : BitVec.ofInt 64 (n64 x) = x.toBitVec := by
  apply BitVec.eq_of_toNat_eq; unfold n64; rw [BitVec.ofInt_natCast, BitVec.toNat_ofNat]
  exact Nat.mod_eq_of_lt x.toBitVec.isLt
theorem wrap_u64' (n : Int) : IntKind.u64.wrap n = n % 18446744073709551616 := by simp [IntKind.wrap, IntKind.bits, IntKind.signed]
theorem wrap_bv8 (r : UInt8) : IntKind.u8.wrap (r.toBitVec.toNat : Int) = n8 r := by
  rw [IntKind.wrap_u8]; unfold n8; have := r.toNat_lt; show ((r.toNat : Nat) : Int) % 256 = _; omega
theorem wrap_bv32 (r : UInt32) : IntKind.u32.wrap (r.toBitVec.toNat : Int) = n32 r := by
  rw [IntKind.wrap_u32]; unfold n32; have := r.toNat_lt; show ((r.toNat : Nat) : Int) % 4294967296 = _; omega
theorem wrap_bv64 (r : UInt64) : IntKind.u64.wrap (r.toBitVec.toNat : Int) = n64 r := by
  rw [wrap_u64']; unfold n64; have := r.toNat_lt; show ((r.toNat : Nat) : Int) % 18446744073709551616 = _; omega
theorem bits_and8 (x y : UInt8) : bits .and .u8 (n8 x) (n8 y) = n8 (x &&& y) := by
  unfold bits; simp only [IntKind.bits, ofInt_n8]; exact wrap_bv8 (x &&& y)
theorem bits_or8 (x y : UInt8) : bits .or .u8 (n8 x) (n8 y) = n8 (x ||| y) := by
  unfold bits; simp only [IntKind.bits, ofInt_n8]; exact wrap_bv8 (x ||| y)
theorem bits_xor8 (x y : UInt8) : bits .xor .u8 (n8 x) (n8 y) = n8 (x ^^^ y) := by
  unfold bits; simp only [IntKind.bits, ofInt_n8]; exact wrap_bv8 (x ^^^ y)
theorem bits_and32 (x y : UInt32) : bits .and .u32 (n32 x) (n32 y) = n32 (x &&& y) := by
  unfold bits; simp only [IntKind.bits, ofInt_n32]; exact wrap_bv32 (x &&& y)
theorem bits_or32 (x y : UInt32) : bits .or .u32 (n32 x) (n32 y) = n32 (x ||| y) := by
  unfold bits; simp only [IntKind.bits, ofInt_n32]; exact wrap_bv32 (x ||| y)
theorem bits_xor32 (x y : UInt32) : bits .xor .u32 (n32 x) (n32 y) = n32 (x ^^^ y) := by
  unfold bits; simp only [IntKind.bits, ofInt_n32]; exact wrap_bv32 (x ^^^ y)
theorem bits_and64 (x y : UInt64) : bits .and .u64 (n64 x) (n64 y) = n64 (x &&& y) := by
  unfold bits; simp only [IntKind.bits, ofInt_n64]; exact wrap_bv64 (x &&& y)
theorem bits_or64 (x y : UInt64) : bits .or .u64 (n64 x) (n64 y) = n64 (x ||| y) := by
  unfold bits; simp only [IntKind.bits, ofInt_n64]; exact wrap_bv64 (x ||| y)
theorem bits_xor64 (x y : UInt64) : bits .xor .u64 (n64 x) (n64 y) = n64 (x ^^^ y) := by
  unfold bits; simp only [IntKind.bits, ofInt_n64]; exact wrap_bv64 (x ^^^ y)
theorem bits_not32 (x : UInt32) : bits .xor .u32 4294967295 (n32 x) = n32 (~~~x) := by
  have h : (4294967295 : Int) = n32 4294967295 := rfl
  rw [h, bits_xor32]; congr 1
theorem bits_not32' (x : UInt32) : bits .xor .u32 IntKind.u32.max (n32 x) = n32 (~~~x) := bits_not32 x
theorem u32_signed : IntKind.u32.signed = false := rfl
theorem add32 (x y : UInt32) : (n32 x + n32 y) % 4294967296 = n32 (x + y) := by
  unfold n32; rw [UInt32.toNat_add]; omega
theorem wrap_add32 (x y : UInt32) : IntKind.u32.wrap (n32 x + n32 y) = n32 (x + y) := by rw [IntKind.wrap_u32, add32]
theorem add8 (x y : UInt8) : (n8 x + n8 y) % 256 = n8 (x + y) := by
  unfold n8; rw [UInt8.toNat_add]; omega
theorem add64 (x y : UInt64) : (n64 x + n64 y) % 18446744073709551616 = n64 (x + y) := by
  unfold n64; rw [UInt64.toNat_add]; omega
/-- a word, turned right -/
def rotr (x : UInt32) (r : Nat) : UInt32 := UInt32.ofNat (x.toNat / 2 ^ r ||| x.toNat * 2 ^ (32 - r) % 4294967296)
def shr32 (x : UInt32) (r : Nat) : UInt32 := UInt32.ofNat (x.toNat / 2 ^ r)
theorem shr_lt (x : Nat) (h : x < 4294967296) (r : Nat) : x / 2 ^ r < 4294967296 := Nat.lt_of_le_of_lt (Nat.div_le_self _ _) h
theorem n32_shr (x : UInt32) (r : Nat) : n32 x / 2 ^ r = n32 (shr32 x r) := by
  unfold n32 shr32
  rw [UInt32.toNat_ofNat_of_lt' (shr_lt _ x.toNat_lt r), Int.natCast_ediv]; simp
theorem rotr_lt (x : UInt32) (r : Nat) : (x.toNat / 2 ^ r ||| x.toNat * 2 ^ (32 - r) % 4294967296) < 4294967296 :=
  Nat.or_lt_two_pow (n := 32) (shr_lt _ x.toNat_lt r) (Nat.mod_lt _ (by decide))
theorem n32_rotr (x : UInt32) (r : Nat) : n32 (rotr x r) = ((x.toNat / 2 ^ r ||| x.toNat * 2 ^ (32 - r) % 4294967296 : Nat) : Int) := by
  unfold n32 rotr; rw [UInt32.toNat_ofNat_of_lt' (rotr_lt x r)]
theorem rot_val (x : UInt32) (r : Nat) (hr : r ≤ 32) : bits .or .u32 (n32 x * 2 ^ (32 - r) % 4294967296) (n32 x / 2 ^ (32 - (32 - r))) = n32 (rotr x r) := by
  have e1 : 32 - (32 - r) = r := by omega
  have h1 : n32 x * 2 ^ (32 - r) % 4294967296 = n32 (UInt32.ofNat (x.toNat * 2 ^ (32 - r) % 4294967296)) := by
    unfold n32; rw [UInt32.toNat_ofNat_of_lt' (Nat.mod_lt _ (by decide))]; simp
  rw [e1, n32_shr, h1, bits_or32]
  congr 1
  apply UInt32.toNat_inj.1
  rw [UInt32.toNat_or, UInt32.toNat_ofNat_of_lt' (Nat.mod_lt _ (by decide))]
  unfold shr32 rotr
  rw [UInt32.toNat_ofNat_of_lt' (shr_lt _ x.toNat_lt r), UInt32.toNat_ofNat_of_lt' (rotr_lt x r), Nat.or_comm]
theorem cv8_32 (x : UInt8) : n8 x % 4294967296 = n32 x.toUInt32 := by
  unfold n8 n32; have := x.toNat_lt; rw [UInt8.toNat_toUInt32]; omega
theorem shl32 (x : UInt32) (r : Nat) (p : Int) (hr : r < 32) (hp : p = 2 ^ r) : n32 x * p % 4294967296 = n32 (x <<< UInt32.ofNat r) := by
  subst hp
  unfold n32
  have e : (UInt32.ofNat r).toNat = r := UInt32.toNat_ofNat_of_lt' (by show r < 4294967296; omega)
  rw [UInt32.toNat_shiftLeft, e, Nat.mod_eq_of_lt hr, Nat.shiftLeft_eq]
  simp
theorem shl32_24 (x : UInt32) : n32 x * (16777216 : Int) % (4294967296 : Int) = n32 (x <<< 24) := shl32 x 24 _ (by decide) (by decide)
theorem shl32_16 (x : UInt32) : n32 x * (65536 : Int) % (4294967296 : Int) = n32 (x <<< 16) := shl32 x 16 _ (by decide) (by decide)
theorem shl32_8 (x : UInt32) : n32 x * (256 : Int) % (4294967296 : Int) = n32 (x <<< 8) := shl32 x 8 _ (by decide) (by decide)
theorem xor8_54 (x : UInt8) : bits .xor .u8 (n8 x) 54 = n8 (x ^^^ 54) := bits_xor8 x 54
theorem xor8_92 (x : UInt8) : bits .xor .u8 (n8 x) 92 = n8 (x ^^^ 92) := bits_xor8 x 92
end Go.Proofs.YtbhmmoecoijojaaDoor
