/- Texts that stand behind one another: Base, Mem, Laws, Region, Quiet. No condition. -/
import Derived.Laws.BitsLemmas
import Derived.Laws.Unary
import Derived.Laws.Shifts
import Derived.Laws.Wrap64
import Derived.IntWalk
import Derived.Below
import Derived.Laws.OwnMore
import Derived.Deep.Draws
import Derived.Laws.Rows
import Derived.Laws.CopyOwn
import Derived.Maps.AppendAt
import Derived.OwnWalk
import Derived.Laws.Slices
import Derived.StillTail
import Derived.Deep.Quiet
import Derived.Deep.QuietTactic
import Derived.ChangeKeysEq
/- Base lemmas: machine integers as named casts (n8, n32, n64), so that a walk's frame stays readable. No condition. -/
namespace Go.Proofs.YtcdkadidkkbhpaaDoor
open Go
def n8 (x : UInt8) : Int := x.toNat
def n32 (x : UInt32) : Int := x.toNat
def n64 (x : UInt64) : Int := x.toNat
def v8 (x : UInt8) : Value := .int .u8 (n8 x)
def v32 (x : UInt32) : Value := .int .u32 (n32 x)
def v64 (x : UInt64) : Value := .int .u64 (n64 x)
theorem n8_lo (x : UInt8) : 0 ≤ n8 x := by unfold n8; omega
theorem n8_hi (x : UInt8) : n8 x < 256 := by unfold n8; have := x.toNat_lt; omega
theorem n32_lo (x : UInt32) : 0 ≤ n32 x := by unfold n32; omega
theorem n32_hi (x : UInt32) : n32 x < 4294967296 := by unfold n32; have := x.toNat_lt; omega
theorem n64_lo (x : UInt64) : 0 ≤ n64 x := by unfold n64; omega
theorem n64_hi (x : UInt64) : n64 x < 18446744073709551616 := by unfold n64; have := x.toNat_lt; omega
theorem n8_inj {x y : UInt8} (h : n8 x = n8 y) : x = y := UInt8.toNat_inj.1 (by unfold n8 at h; omega)
theorem n32_inj {x y : UInt32} (h : n32 x = n32 y) : x = y := UInt32.toNat_inj.1 (by unfold n32 at h; omega)
theorem n64_inj {x y : UInt64} (h : n64 x = n64 y) : x = y := UInt64.toNat_inj.1 (by unfold n64 at h; omega)
theorem ofInt_n8 (x : UInt8) : BitVec.ofInt 8 (n8 x) = x.toBitVec := by
  apply BitVec.eq_of_toNat_eq; unfold n8; rw [BitVec.ofInt_natCast, BitVec.toNat_ofNat]
  exact Nat.mod_eq_of_lt x.toBitVec.isLt
theorem ofInt_n32 (x : UInt32) : BitVec.ofInt 32 (n32 x) = x.toBitVec := by
  apply BitVec.eq_of_toNat_eq; unfold n32; rw [BitVec.ofInt_natCast, BitVec.toNat_ofNat]
  exact Nat.mod_eq_of_lt x.toBitVec.isLt
theorem ofInt_n64 (x : UInt64) : BitVec.ofInt 64 (n64 x) = x.toBitVec := by
  apply BitVec.eq_of_toNat_eq; unfold n64; rw [BitVec.ofInt_natCast, BitVec.toNat_ofNat]
  exact Nat.mod_eq_of_lt x.toBitVec.isLt
theorem wrap_u64' (n : Int) : IntKind.u64.wrap n = n % 18446744073709551616 := by simp [IntKind.wrap, IntKind.bits, IntKind.signed]
theorem wrap_bv8 (r : UInt8) : IntKind.u8.wrap (r.toBitVec.toNat : Int) = n8 r := by
  rw [IntKind.wrap_u8]; unfold n8; have := r.toNat_lt; show ((r.toNat : Nat) : Int) % 256 = _; omega
theorem wrap_bv32 (r : UInt32) : IntKind.u32.wrap (r.toBitVec.toNat : Int) = n32 r := by
  rw [IntKind.wrap_u32]; unfold n32; have := r.toNat_lt; show ((r.toNat : Nat) : Int) % 4294967296 = _; omega
theorem wrap_bv64 (r : UInt64) : IntKind.u64.wrap (r.toBitVec.toNat : Int) = n64 r := by
  rw [wrap_u64']; unfold n64; have := r.toNat_lt; show ((r.toNat : Nat) : Int) % 18446744073709551616 = _; omega
theorem bits_and8 (x y : UInt8) : bits .and .u8 (n8 x) (n8 y) = n8 (x &&& y) := by
  unfold bits; simp only [IntKind.bits, ofInt_n8]; exact wrap_bv8 (x &&& y)
theorem bits_or8 (x y : UInt8) : bits .or .u8 (n8 x) (n8 y) = n8 (x ||| y) := by
  unfold bits; simp only [IntKind.bits, ofInt_n8]; exact wrap_bv8 (x ||| y)
theorem bits_xor8 (x y : UInt8) : bits .xor .u8 (n8 x) (n8 y) = n8 (x ^^^ y) := by
  unfold bits; simp only [IntKind.bits, ofInt_n8]; exact wrap_bv8 (x ^^^ y)
theorem bits_and32 (x y : UInt32) : bits .and .u32 (n32 x) (n32 y) = n32 (x &&& y) := by
  unfold bits; simp only [IntKind.bits, ofInt_n32]; exact wrap_bv32 (x &&& y)
theorem bits_or32 (x y : UInt32) : bits .or .u32 (n32 x) (n32 y) = n32 (x ||| y) := by
  unfold bits; simp only [IntKind.bits, ofInt_n32]; exact wrap_bv32 (x ||| y)
theorem bits_xor32 (x y : UInt32) : bits .xor .u32 (n32 x) (n32 y) = n32 (x ^^^ y) := by
  unfold bits; simp only [IntKind.bits, ofInt_n32]; exact wrap_bv32 (x ^^^ y)
theorem bits_and64 (x y : UInt64) : bits .and .u64 (n64 x) (n64 y) = n64 (x &&& y) := by
  unfold bits; simp only [IntKind.bits, ofInt_n64]; exact wrap_bv64 (x &&& y)
theorem bits_or64 (x y : UInt64) : bits .or .u64 (n64 x) (n64 y) = n64 (x ||| y) := by
  unfold bits; simp only [IntKind.bits, ofInt_n64]; exact wrap_bv64 (x ||| y)
theorem bits_xor64 (x y : UInt64) : bits .xor .u64 (n64 x) (n64 y) = n64 (x ^^^ y) := by
  unfold bits; simp only [IntKind.bits, ofInt_n64]; exact wrap_bv64 (x ^^^ y)
theorem bits_not32 (x : UInt32) : bits .xor .u32 4294967295 (n32 x) = n32 (~~~x) := by
  have h : (4294967295 : Int) = n32 4294967295 := rfl
  rw [h, bits_xor32]; congr 1
theorem bits_not32' (x : UInt32) : bits .xor .u32 IntKind.u32.max (n32 x) = n32 (~~~x) := bits_not32 x
theorem u32_signed : IntKind.u32.signed = false := rfl
theorem add32 (x y : UInt32) : (n32 x + n32 y) % 4294967296 = n32 (x + y) := by
  unfold n32; rw [UInt32.toNat_add]; omega
theorem wrap_add32 (x y : UInt32) : IntKind.u32.wrap (n32 x + n32 y) = n32 (x + y) := by rw [IntKind.wrap_u32, add32]
theorem add8 (x y : UInt8) : (n8 x + n8 y) % 256 = n8 (x + y) := by
  unfold n8; rw [UInt8.toNat_add]; omega
theorem add64 (x y : UInt64) : (n64 x + n64 y) % 18446744073709551616 = n64 (x + y) := by
  unfold n64; rw [UInt64.toNat_add]; omega
/-- a word, turned right -/
def rotr (x : UInt32) (r : Nat) : UInt32 := UInt32.ofNat (x.toNat / 2 ^ r ||| x.toNat * 2 ^ (32 - r) % 4294967296)
def shr32 (x : UInt32) (r : Nat) : UInt32 := UInt32.ofNat (x.toNat / 2 ^ r)
theorem shr_lt (x : Nat) (h : x < 4294967296) (r : Nat) : x / 2 ^ r < 4294967296 := Nat.lt_of_le_of_lt (Nat.div_le_self _ _) h
theorem n32_shr (x : UInt32) (r : Nat) : n32 x / 2 ^ r = n32 (shr32 x r) := by
  unfold n32 shr32
  rw [UInt32.toNat_ofNat_of_lt' (shr_lt _ x.toNat_lt r), Int.natCast_ediv]; simp
theorem rotr_lt (x : UInt32) (r : Nat) : (x.toNat / 2 ^ r ||| x.toNat * 2 ^ (32 - r) % 4294967296) < 4294967296 :=
  Nat.or_lt_two_pow (n := 32) (shr_lt _ x.toNat_lt r) (Nat.mod_lt _ (by decide))
theorem n32_rotr (x : UInt32) (r : Nat) : n32 (rotr x r) = ((x.toNat / 2 ^ r ||| x.toNat * 2 ^ (32 - r) % 4294967296 : Nat) : Int) := by
  unfold n32 rotr; rw [UInt32.toNat_ofNat_of_lt' (rotr_lt x r)]
theorem rot_val (x : UInt32) (r : Nat) (hr : r ≤ 32) : bits .or .u32 (n32 x * 2 ^ (32 - r) % 4294967296) (n32 x / 2 ^ (32 - (32 - r))) = n32 (rotr x r) := by
  have e1 : 32 - (32 - r) = r := by omega
  have h1 : n32 x * 2 ^ (32 - r) % 4294967296 = n32 (UInt32.ofNat (x.toNat * 2 ^ (32 - r) % 4294967296)) := by
    unfold n32; rw [UInt32.toNat_ofNat_of_lt' (Nat.mod_lt _ (by decide))]; simp
  rw [e1, n32_shr, h1, bits_or32]
  congr 1
  apply UInt32.toNat_inj.1
  rw [UInt32.toNat_or, UInt32.toNat_ofNat_of_lt' (Nat.mod_lt _ (by decide))]
  unfold shr32 rotr
  rw [UInt32.toNat_ofNat_of_lt' (shr_lt _ x.toNat_lt r), UInt32.toNat_ofNat_of_lt' (rotr_lt x r), Nat.or_comm]
theorem cv8_32 (x : UInt8) : n8 x % 4294967296 = n32 x.toUInt32 := by
  unfold n8 n32; have := x.toNat_lt; rw [UInt8.toNat_toUInt32]; omega
theorem shl32 (x : UInt32) (r : Nat) (p : Int) (hr : r < 32) (hp : p = 2 ^ r) : n32 x * p % 4294967296 = n32 (x <<< UInt32.ofNat r) := by
  subst hp
  unfold n32
  have e : (UInt32.ofNat r).toNat = r := UInt32.toNat_ofNat_of_lt' (by show r < 4294967296; omega)
  rw [UInt32.toNat_shiftLeft, e, Nat.mod_eq_of_lt hr, Nat.shiftLeft_eq]
  simp
theorem shl32_24 (x : UInt32) : n32 x * (16777216 : Int) % (4294967296 : Int) = n32 (x <<< 24) := shl32 x 24 _ (by decide) (by decide)
theorem shl32_16 (x : UInt32) : n32 x * (65536 : Int) % (4294967296 : Int) = n32 (x <<< 16) := shl32 x 16 _ (by decide) (by decide)
theorem shl32_8 (x : UInt32) : n32 x * (256 : Int) % (4294967296 : Int) = n32 (x <<< 8) := shl32 x 8 _ (by decide) (by decide)
theorem xor8_54 (x : UInt8) : bits .xor .u8 (n8 x) 54 = n8 (x ^^^ 54) := bits_xor8 x 54
theorem xor8_92 (x : UInt8) : bits .xor .u8 (n8 x) 92 = n8 (x ^^^ 92) := bits_xor8 x 92
end Go.Proofs.YtcdkadidkkbhpaaDoor

/- Words for memory: blocks known whole, slices that read as lists. No condition. -/
namespace Go.Proofs.YtcdkadidkkbhpaaDoor
open Go Go.RowKit
/-- Block g is just the cells cs of element type t, none frozen. -/
def Blk (w : World) (g : Nat) (t : TypeId) (cs : Array Value) : Prop := w.heap[g]? = some (.cells cs t (0, 0))
section
variable {w w' : World} {g : Nat} {t : TypeId} {cs : Array Value}
theorem Blk.lt (h : Blk w g t cs) : g < w.heap.size := by
  rcases Nat.lt_or_ge g w.heap.size with hlt | hge
  · exact hlt
  · unfold Blk at h; rw [Array.getElem?_eq_none hge] at h; cases h
theorem Blk.cell (h : Blk w g t cs) (i : Nat) : w.cell? ⟨g, i, none⟩ = cs[i]? := cell_of_row w g i cs t (0, 0) h
theorem Blk.frozen (h : Blk w g t cs) (i : Nat) : w.frozen? ⟨g, i, none⟩ = false := by
  unfold Blk at h
  simp [World.frozen?, h]
theorem Blk.new (w : World) (t : TypeId) (cs : Array Value) : Blk (w.alloc (.cells cs t)) w.heap.size t cs := heap_alloc_new w _
theorem Blk.drewN (h : Blk w g t cs) (n : Nat) : Blk (w.drewN n) g t cs := h
theorem Blk.drew (h : Blk w g t cs) : Blk w.drew g t cs := h
theorem Blk.alloc (h : Blk w g t cs) (o : Obj) : Blk (w.alloc o) g t cs := (Below.heap_alloc w o g h.lt).trans h
theorem Blk.set (h : Blk w g t cs) (i : Nat) (u : Value) : Blk (w.setCell ⟨g, i, none⟩ u) g t (cs.setIfInBounds i u) := by
  unfold Blk at h ⊢
  simp [World.setCell, Array.getElem?_modify, h]
theorem Blk.far (h : Blk w g t cs) {p : Addr} (hp : g ≠ p.block) (u : Value) : Blk (w.setCell p u) g t cs := (Below.heap_setCell w p u g hp).trans h
theorem Blk.below {B : Nat} (h : Blk w g t cs) (hb : Below B w w') (hg : g < B) : Blk w' g t cs := (hb.block g hg).trans h
theorem Blk.grown {row : Option Nat} (h : Blk w g t cs) (hb : w.grownBy w' row) (hg : some g ≠ row) : Blk w' g t cs := (hb.block g h.lt hg).trans h
end
theorem below_drewN {B : Nat} {a w : World} (h : Below B a w) (n : Nat) : Below B a (w.drewN n) := ⟨h.os, h.tape, h.output, h.size, h.block⟩
section
variable {a w w' : World} {row : Option Nat}
theorem Only.drewN (h : a.grownBy w row) (n : Nat) : a.grownBy (w.drewN n) row := ⟨h.os, h.tape, h.output, h.size, h.block⟩
theorem Only.alloc (h : a.grownBy w row) (o : Obj) : a.grownBy (w.alloc o) row :=
  ⟨h.os, h.tape, h.output, Nat.le_trans h.size (by simp), fun i hi hne => (Below.heap_alloc w o i (Nat.lt_of_lt_of_le hi h.size)).trans (h.block i hi hne)⟩
theorem Only.setCell {g : Nat} (h : a.grownBy w (some g)) {p : Addr} (hp : p.block = g ∨ a.heap.size ≤ p.block) (u : Value) : a.grownBy (w.setCell p u) (some g) :=
  ⟨h.os, h.tape, h.output, by simpa [World.setCell] using h.size, fun i hi hne => (Below.heap_setCell w p u i (by
    rintro rfl
    rcases hp with hp | hp
    · exact hne (by rw [hp])
    · omega)).trans (h.block i hi hne)⟩
theorem Only.of_below (h : Below a.heap.size a w) (row : Option Nat) : a.grownBy w row := ⟨h.os, h.tape, h.output, h.size, fun i hi _ => h.block i hi⟩
theorem Only.trans {g : Nat} (h : a.grownBy w (some g)) (h' : w.grownBy w' (some g)) : a.grownBy w' (some g) :=
  ⟨h'.os.trans h.os, h'.tape.trans h.tape, h'.output.trans h.output, Nat.le_trans h.size h'.size, fun i hi hne => (h'.block i (Nat.lt_of_lt_of_le hi h.size) hne).trans (h.block i hi hne)⟩
/-- What turned only a block of number B or more, and made new ones, keeps all below B. -/
theorem below_only {B g : Nat} (h : Below B a w) (h' : w.grownBy w' (some g)) (hg : B ≤ g) (hB : B ≤ w.heap.size) : Below B a w' :=
  ⟨h'.os.trans h.os, h'.tape.trans h.tape, h'.output.trans h.output, Nat.le_trans h.size h'.size, fun i hi => (h'.block i (by omega) (by simp; omega)).trans (h.block i hi)⟩
end
/-- A slice whose elements are one cell each: it reads as the list xs; below block B. -/
def Reads (w : World) (B : Nat) (A : Option Addr) (xs : List Value) : Prop :=
  0 < xs.length → ∃ b off, A = some ⟨b, off, none⟩ ∧ b < B ∧ ∀ j u, xs[j]? = some u → w.cell? ⟨b, off + j, none⟩ = some u
section
variable {w w' : World} {B B' : Nat} {A : Option Addr} {xs : List Value}
theorem Reads.nil_ : Reads w B A [] := fun h => absurd h (by simp)
theorem Reads.keep (h : Reads w B A xs) (hk : ∀ p : Addr, p.block < B → w'.cell? p = w.cell? p) : Reads w' B A xs := fun hx => by
  obtain ⟨b, off, e, hb, hc⟩ := h hx
  exact ⟨b, off, e, hb, fun j u hu => (hk _ hb).trans (hc j u hu)⟩
theorem Reads.more (h : Reads w B A xs) (hB : B ≤ B') : Reads w B' A xs := fun hx => by
  obtain ⟨b, off, e, hb, hc⟩ := h hx
  exact ⟨b, off, e, by omega, hc⟩
theorem Reads.below (h : Reads w B A xs) (hb : Below B w w') : Reads w' B A xs := h.keep fun _ hp => hb.cell hp
theorem Reads.drewN (h : Reads w B A xs) (k : Nat) : Reads (w.drewN k) B A xs := h
theorem Reads.alloc (h : Reads w B A xs) (hB : B ≤ w.heap.size) (o : Obj) : Reads (w.alloc o) B A xs := h.keep fun p hp => World.cell?_alloc_lt w o p (by omega)
theorem Reads.setCell (h : Reads w B A xs) {p : Addr} (hB : B ≤ p.block) (u : Value) : Reads (w.setCell p u) B A xs :=
  h.keep fun q hq => World.cell?_setCell_other w p q u (fun e => by subst e; omega)
theorem Reads.grown (h : Reads w B A xs) {row : Option Nat} (hg : w.grownBy w' row) (hB : B ≤ w.heap.size) (hr : ∀ g, row = some g → B ≤ g) : Reads w' B A xs :=
  h.keep fun p hp => World.cell?_of_block (hg.block p.block (by omega) (fun e => by have := hr _ e.symm; omega))
theorem Reads.grown' (h : Reads w B A xs) {g : Nat} (hg : w.grownBy w' (some g)) (hB : B ≤ w.heap.size) (hne : ∀ b off, A = some ⟨b, off, none⟩ → b ≠ g) : Reads w' B A xs := fun hx => by
  obtain ⟨b, off, e, hb, hc⟩ := h hx
  refine ⟨b, off, e, hb, fun j u hu => ?_⟩
  have hk := hg.block b (by omega) (fun e2 => hne b off e (by injection e2))
  exact (World.cell?_of_block (a := ⟨b, off + j, none⟩) hk).trans (hc j u hu)
/-- a cut, as the model makes it -/
theorem Reads.cut (h : Reads w B A xs) {k cap : Nat} (hk : k ≤ xs.length) (hc : xs.length ≤ cap) :
    Reads w B (if cap = k then A else A.map (·.add k)) (xs.drop k) := fun hx => by
  rw [List.length_drop] at hx
  obtain ⟨b, off, rfl, hb, hcell⟩ := h (by omega)
  rw [if_neg (by omega)]
  refine ⟨b, off + k, ?_, hb, fun j u hu => ?_⟩
  · simp only [Option.map_some, Addr.add]; split
    · rename_i h0; subst h0; rfl
    · rfl
  · rw [Nat.add_assoc]; exact hcell _ u (by rw [← hu, List.getElem?_drop])
theorem Reads.take (h : Reads w B A xs) (k : Nat) : Reads w B A (xs.take k) := fun hx => by
  rw [List.length_take] at hx
  obtain ⟨b, off, rfl, hb, hcell⟩ := h (by omega)
  refine ⟨b, off, rfl, hb, fun j u hu => hcell j u ?_⟩
  rw [List.getElem?_take] at hu
  split at hu
  · exact hu
  · cases hu
end
theorem Reads.of_blk {w : World} {g : Nat} {t : TypeId} {cs : Array Value} (h : Blk w g t cs) {B : Nat} (hB : g < B) (k : Nat) : Reads w B (some ⟨g, k, none⟩) (cs.toList.drop k) :=
  fun _ => ⟨g, k, rfl, hB, fun j u hu => by rw [h.cell, ← hu, List.getElem?_drop]; simp⟩
theorem list8 {α : Type} (l : List α) (h : l.length = 8) : ∃ a b c d e f g i, l = [a, b, c, d, e, f, g, i] :=
  match l, h with
  | [a, b, c, d, e, f, g, i], _ => ⟨a, b, c, d, e, f, g, i, rfl⟩
theorem Blk.set8 {w : World} {g : Nat} {t : TypeId} {cs : Array Value} (h : Blk w g t cs) (hs : cs.size = 8) (v0 v1 v2 v3 v4 v5 v6 v7 : Value) :
    Blk ((((((((w.setCell ⟨g, 0, none⟩ v0).setCell ⟨g, 1, none⟩ v1).setCell ⟨g, 2, none⟩ v2).setCell ⟨g, 3, none⟩ v3).setCell ⟨g, 4, none⟩ v4).setCell ⟨g, 5, none⟩ v5).setCell ⟨g, 6, none⟩ v6).setCell ⟨g, 7, none⟩ v7) g t #[v0, v1, v2, v3, v4, v5, v6, v7] := by
  have := (((((((h.set 0 v0).set 1 v1).set 2 v2).set 3 v3).set 4 v4).set 5 v5).set 6 v6).set 7 v7
  have e : (((((((cs.setIfInBounds 0 v0).setIfInBounds 1 v1).setIfInBounds 2 v2).setIfInBounds 3 v3).setIfInBounds 4 v4).setIfInBounds 5 v5).setIfInBounds 6 v6).setIfInBounds 7 v7 = #[v0, v1, v2, v3, v4, v5, v6, v7] := by
    clear this h
    obtain ⟨l⟩ := cs
    obtain ⟨a, b, c, d, e, f, g, i, rfl⟩ := list8 l hs
    simp only [List.setIfInBounds_toArray, List.set_cons_zero, List.set_cons_succ]
  rw [e] at this
  exact this
theorem below_set8 {w w' : World} {B g : Nat} (h : Below B w w') (hg : B ≤ g) (v0 v1 v2 v3 v4 v5 v6 v7 : Value) :
    Below B w ((((((((w'.setCell ⟨g, 0, none⟩ v0).setCell ⟨g, 1, none⟩ v1).setCell ⟨g, 2, none⟩ v2).setCell ⟨g, 3, none⟩ v3).setCell ⟨g, 4, none⟩ v4).setCell ⟨g, 5, none⟩ v5).setCell ⟨g, 6, none⟩ v6).setCell ⟨g, 7, none⟩ v7) :=
  (((((((h.setCell (p := ⟨g, _, none⟩) hg _).setCell (p := ⟨g, _, none⟩) hg _).setCell (p := ⟨g, _, none⟩) hg _).setCell (p := ⟨g, _, none⟩) hg _).setCell (p := ⟨g, _, none⟩) hg _).setCell (p := ⟨g, _, none⟩) hg _).setCell (p := ⟨g, _, none⟩) hg _).setCell (p := ⟨g, _, none⟩) hg _
theorem Blk.far8 {w : World} {b g : Nat} {t : TypeId} {cs : Array Value} (h : Blk w b t cs) (hg : b ≠ g) (v0 v1 v2 v3 v4 v5 v6 v7 : Value) :
    Blk ((((((((w.setCell ⟨g, 0, none⟩ v0).setCell ⟨g, 1, none⟩ v1).setCell ⟨g, 2, none⟩ v2).setCell ⟨g, 3, none⟩ v3).setCell ⟨g, 4, none⟩ v4).setCell ⟨g, 5, none⟩ v5).setCell ⟨g, 6, none⟩ v6).setCell ⟨g, 7, none⟩ v7) b t cs :=
  (((((((h.far (p := ⟨g, _, none⟩) hg _).far (p := ⟨g, _, none⟩) hg _).far (p := ⟨g, _, none⟩) hg _).far (p := ⟨g, _, none⟩) hg _).far (p := ⟨g, _, none⟩) hg _).far (p := ⟨g, _, none⟩) hg _).far (p := ⟨g, _, none⟩) hg _).far (p := ⟨g, _, none⟩) hg _
theorem Blk.new2 (w : World) (X : Obj) (t : TypeId) (cs : Array Value) : Blk ((w.alloc X).alloc (.cells cs t)) (w.heap.size + 1) t cs := by
  rw [show w.heap.size + 1 = (w.alloc X).heap.size by simp]; exact Blk.new _ _ _
theorem Blk.new3 (w : World) (X Y : Obj) (t : TypeId) (cs : Array Value) : Blk (((w.alloc X).alloc Y).alloc (.cells cs t)) (w.heap.size + 2) t cs := by
  rw [show w.heap.size + 2 = ((w.alloc X).alloc Y).heap.size by simp]; exact Blk.new _ _ _
theorem below_new1 (w : World) (X : Obj) : Below w.heap.size w (w.alloc X) := (Below.refl _ _).alloc (Nat.le_refl _) _
theorem below_new2 (w : World) (X Y : Obj) : Below w.heap.size w ((w.alloc X).alloc Y) := (below_new1 w X).alloc (by simp) _
theorem below_new3 (w : World) (X Y Z : Obj) : Below w.heap.size w (((w.alloc X).alloc Y).alloc Z) := (below_new2 w X Y).alloc (by simp; omega) _
theorem below_far {B : Nat} {w w' : World} (h : Below B w w') {p : Addr} (hp : B ≤ p.block) (u : Value) : Below B w (w'.setCell p u) := h.setCell hp u
end Go.Proofs.YtcdkadidkkbhpaaDoor

/- Laws of the walk in the words of Mem: copy and append from a slice that reads as a list. No condition. -/
namespace Go.Proofs.YtcdkadidkkbhpaaDoor
open Go Go.RowKit
/-- the world behind a point of the walk, by what is known of it -/
theorem wp_at {P : Program} {c : Code} {Q : Exit → Act → World → Prop} {a : Act} {w : World} (R : World → Prop) (hR : R w) (h : ∀ W, R W → c.wp P Q a W) : c.wp P Q a w := h w hR
theorem wpl_at {P : Program} {ops : Array Oper} {Q : Exit → Act → World → Prop} {l : List Oper} {a : Act} {w : World} (R : World → Prop) (hR : R w) (h : ∀ W, R W → wpList P ops Q l a W) : wpList P ops Q l a w := h w hR
theorem only_setRow (w : World) (g : Nat) (cs : Array Value) : w.grownBy (w.setRow g cs) (some g) :=
  ⟨rfl, rfl, rfl, by simp [World.setRow], fun k _ hne => setRow_other w g k cs (fun e => hne (by rw [e]))⟩
/-- what a copy leaves -/
def copied (cs : Array Value) (off : Nat) (xs : List Value) (m : Nat) : Array Value := (cs.toList.take off ++ (xs.take m ++ cs.toList.drop (off + (xs.take m).length))).toArray
section
variable {P : Program} {w : World} {ops : Array Oper} {rest : List Oper} {o : Oper} {a : Act} {Q : Exit → Act → World → Prop}
theorem wpList_copyR (hgd : o.guard = none) (d s : Operand) (dT sT : TypeId)
    (ho : o.op = .call { callee := .builtin .copy, args := #[d, s], argTypes := #[dT, sT] }) (elem : TypeId) (hu : P.underlying dT = some (.slice elem)) (hsz : (P.info? elem).map (·.size) = some 1)
    (g off dLen dCap : Nat) (A : Option Addr) (sLen sCap : Nat) (hd : a.eval d = .slice (some ⟨g, off, none⟩) dLen dCap) (hs : a.eval s = .slice A sLen sCap)
    (t : TypeId) (cs : Array Value) (hg : Blk w g t cs) (B : Nat) (xs : List Value) (hr : Reads w B A xs) (hlen : xs.length = sLen) (hfit : off + Nat.min sLen dLen ≤ cs.size) (h1 : ∀ v ∈ xs, v.oneCell' = true)
    (h : ∀ w', Blk w' g t (copied cs off xs dLen) → w.grownBy w' (some g) → wpList P ops Q rest (a.put o.dst (goInt (Nat.min sLen dLen))) w') :
    wpList P ops Q (o :: rest) a w := by
  have hn : (xs.take dLen).length = Nat.min sLen dLen := by rw [List.length_take, hlen]; exact Nat.min_comm _ _
  have hwhole : copied cs off xs dLen = (cs.toList.take off ++ (xs.take dLen ++ cs.toList.drop (off + (xs.take dLen).length))).toArray := rfl
  by_cases h0 : Nat.min sLen dLen = 0
  · refine wpList_copy_nothing hgd d s dT sT ho elem hu hsz _ A dLen dCap sLen sCap hd hs h0 ?_
    have he : xs.take dLen = [] := List.eq_nil_of_length_eq_zero (by rw [hn, h0])
    have := h w (by rw [hwhole, he]; simpa using hg) (World.grownBy.refl w _)
    rw [h0] at this
    exact this
  · have hpos : 0 < xs.length := by
      rcases Nat.eq_zero_or_pos xs.length with h' | h'
      · rw [List.length_take, h'] at hn; omega
      · exact h'
    obtain ⟨b, o2, rfl, hb, hc⟩ := hr hpos
    have hsrc : ∀ j v, (xs.take dLen)[j]? = some v → w.cell? ((⟨b, o2, none⟩ : Addr).add j) = some v := by
      intro j v hj
      rw [List.getElem?_take] at hj
      split at hj
      · have := hc j v hj
        unfold Addr.add
        split
        · rename_i e; subst e; exact this
        · exact this
      · cases hj
    refine wpList_copy_own hgd d s dT sT ho elem hu hsz g off dLen dCap ⟨b, o2, none⟩ sLen sCap hd hs cs t hg (xs.take dLen) hn hsrc (by rw [hn]; exact hfit) (fun v hv => h1 v (List.mem_of_mem_take hv)) ?_
    rw [← hwhole]
    have := h (w.setRow g (copied cs off xs dLen)) (setRow_heap w g cs _ t _ hg) (only_setRow w g _)
    rw [← hn] at this
    exact this
/-- append of a slice that reads as a list, nil let in, onto a row of the call's own -/
theorem wpList_appendR (hgd : o.guard = none) (s x : Operand) (t : TypeId)
    (ho : o.op = .call { callee := .builtin .append, args := #[s, x], argTypes := #[t, t] })
    (base : Nat) (e : TypeId) (i : TypeInfo) (z : Value) (bytes : Nat) (ht : P.underlying t = some (.slice e)) (hi : P.info? e = some i) (hz : i.zero = some z)
    (hsize : i.size = 1) (hby : i.bytes = bytes) (hzs : z.cells.size = 1)
    (v : Value) (xs : List Value) (hs : a.eval s = v) (hown : w.ownsRow base e 1 v xs.length xs)
    (B : Nat) (A : Option Addr) (m c : Nat) (news : List Value) (hx : a.eval x = .slice A m c) (hr : Reads w B A news) (hm : news.length = m) (h1 : ∀ u ∈ news, u.oneCell' = true)
    (h63 : xs.length + m ≤ maxLen) (hbytes : (xs.length + m) * bytes ≤ 140737488355328) (hbase : base ≤ w.heap.size)
    (h : ∀ v' w', w'.ownsRow base e 1 v' (xs ++ news).length (xs ++ news) → w.grownBy w' v.ownBlock → (v'.ownBlock = v.ownBlock ∨ v'.ownBlock = some w.heap.size) → wpList P ops Q rest (a.put o.dst v') w') : wpList P ops Q (o :: rest) a w := by
  refine wpList_plain hgd fun K hK => ?_
  have key : ∃ v' w', (Builtin.append_ #[t, t] o.type #[v, .slice A m c]).run P w = .ok v' w' ∧ w'.ownsRow base e 1 v' (xs ++ news).length (xs ++ news) ∧ w.grownBy w' v.ownBlock ∧ (v'.ownBlock = v.ownBlock ∨ v'.ownBlock = some w.heap.size) := by
    by_cases h0 : m = 0
    · subst h0
      have hn : news = [] := List.eq_nil_of_length_eq_zero hm
      subst hn
      refine ⟨v, w, ?_, by simpa using hown, World.grownBy.refl w _, .inl rfl⟩
      have hl0 : ∀ (x : Addr), (loadCells x 0).run P w = .ok #[] w := fun x => by simpa using run_loadCells_list (P := P) w x [] (by simp)
      rcases hown.2 with ⟨rfl, h2⟩ | ⟨g, cap, cur, rfl, _, _, hnc, _⟩
      · cases A <;> simp [Builtin.append_, run_underlying ht, sizeOf, typeInfo, hi, Builtin.lenOf, Builtin.firstCells, hl0]
      · cases A <;> simp [Builtin.append_, run_underlying ht, sizeOf, typeInfo, hi, Builtin.lenOf, Builtin.firstCells, hnc, storeCells, hl0]
    · obtain ⟨b, o2, rfl, hb, hc⟩ := hr (by omega)
      have hsrc : ∀ j v, news[j]? = some v → w.cell? ((⟨b, o2, none⟩ : Addr).add j) = some v := by
        intro j v hj
        have := hc j v hj
        unfold Addr.add
        split
        · rename_i e; subst e; exact this
        · exact this
      obtain ⟨v', w', hrun, h2, h3, _, h5⟩ := run_append_own_at (P := P) w base t o.type e i z 1 bytes ht hi hz hsize hby hzs (by decide) v xs.length xs hown ⟨b, o2, none⟩ m c news (by omega) hsrc h1 h63 hbytes hbase
      refine ⟨v', w', hrun, ?_, h3, h5⟩
      rw [List.length_append, hm]; exact h2
  obtain ⟨v', w', hrun, h2, h3, h4⟩ := key
  unfold Oper.wp execOp
  simp only [ho, resolve, invoke, builtin, Sem.run_bind, Sem.run_pure, Result.andThen_ok, List.map_toArray, List.map_cons, List.map_nil, hs, hx, hrun]
  exact hK _ _ (h v' w' h2 h3 h4)
end
/-- an owned row reads as its list -/
theorem Reads.of_own {w : World} {base : Nat} {e : TypeId} {A : Option Addr} {n c : Nat} {xs : List Value} (h : w.ownsRow base e 1 (.slice A n c) n xs) : Reads w w.heap.size A xs := by
  intro hx
  rcases h.2 with ⟨_, h0⟩ | ⟨g, cap, cur, hv, hb, hg, hnc, hcap, hsz, hcur⟩
  · rw [h.1, h0] at hx; simp at hx
  · injection hv with hA _ _
    subst hA
    refine ⟨g, 0, rfl, ?_, fun j u hu => ?_⟩
    · rcases Nat.lt_or_ge g w.heap.size with hlt | hge
      · exact hlt
      · rw [Array.getElem?_eq_none hge] at hg; cases hg
    · rw [Nat.zero_add, cell_of_row w g j cur e (0, 0) hg, ← hu, ← hcur, List.getElem?_take]
      have hj : j < n * 1 := by rw [← h.1]; exact (List.getElem?_eq_some_iff.1 hu).1
      rw [if_pos hj]; simp
section
variable {P : Program} {w : World} {ops : Array Oper} {rest : List Oper} {o : Oper} {a : Act} {Q : Exit → Act → World → Prop}
theorem copied_all (cs vs : Array Value) (h : vs.size = cs.size) : copied cs 0 vs.toList vs.size = vs := by
  unfold copied
  have e1 : vs.toList.take vs.size = vs.toList := List.take_of_length_le (by simp)
  rw [e1]
  have e2 : cs.toList.drop (0 + vs.toList.length) = [] := List.drop_of_length_le (by simp [h])
  rw [e2]
  simp
/-- a whole array is stored into a block (at place off) -/
theorem wpList_storeB (hgd : o.guard = none) (hdst : o.dst = none) (ty : TypeId) (x y : Operand) (ho : o.op = .store ty x y) (g off : Nat) (hx : a.eval x = .pointer (some ⟨g, off, none⟩)) (vs : Array Value) (hy : a.eval y = .agg vs)
    (t : TypeId) (cs : Array Value) (hg : Blk w g t cs) (hi : (P.info? ty).map (·.size) = some vs.size) (hfit : off + vs.size ≤ cs.size) (h1 : ∀ v ∈ vs.toList, v.oneCell' = true)
    (h : ∀ w', Blk w' g t (copied cs off vs.toList vs.size) → w.grownBy w' (some g) → wpList P ops Q rest a w') : wpList P ops Q (o :: rest) a w := by
  refine wpList_plain hgd fun K hK => ?_
  have hst := run_storeCells_at P g off t vs.toList 0 cs w hg (by simpa using hfit) h1
  have e1 : vs.toList.take vs.size = vs.toList := List.take_of_length_le (by simp)
  have hwhole : (cs.toList.take (off + 0) ++ vs.toList ++ cs.toList.drop (off + 0 + vs.toList.length)).toArray = copied cs off vs.toList vs.size := by
    unfold copied; rw [e1]; simp
  rw [hwhole] at hst
  have := h (w.setRow g (copied cs off vs.toList vs.size)) (setRow_heap w g cs _ t _ hg) (only_setRow w g _)
  unfold Oper.wp execOp
  obtain ⟨i, hi1, hi2⟩ : ∃ i, P.info? ty = some i ∧ i.size = vs.size := by
    cases hq : P.info? ty with
    | none => rw [hq] at hi; cases hi
    | some i => rw [hq] at hi; exact ⟨i, rfl, by simpa using hi⟩
  simp [ho, hx, hy, storeVar, sizeOf, typeInfo, hi1, hi2, Value.cells, hst, Instr.storeAt, Instr.sureAddr]
  have e2 : a.put o.dst undef = a := by rw [hdst]; rfl
  have h9 := hK _ _ this
  rw [← e2] at h9
  exact h9
end
theorem run_sliceAt_array_l {P : Program} {w : World} {t e : TypeId} {n : Nat} (a : Addr) (ht : P.underlying t = some (.array n e)) (hs : (P.info? e).map (·.size) = some 1) (kl : IntKind) (l : Int) (h0 : 0 ≤ l) (h1 : l < n) :
    (Instr.sliceAt t (.pointer (some a)) (some (.int kl l)) none none).run P w = .ok (.slice (some (a.add l.toNat)) (n - l.toNat) (n - l.toNat)) w := by
  obtain ⟨i, hi1, hi2⟩ : ∃ i, P.info? e = some i ∧ i.size = 1 := by
    cases hq : P.info? e with
    | none => rw [hq] at hs; cases hs
    | some i => rw [hq] at hs; exact ⟨i, rfl, by simpa using hs⟩
  have hne : ¬ n = l.toNat := by omega
  have hle : l ≤ (n : Int) := by omega
  simp [Instr.sliceAt, Instr.sureAddr, run_underlying ht, Instr.sliceBounds, run_sliceBound, hi1, hi2, sizeOf, typeInfo, h0, hle, hne]
theorem run_sliceAt_array_hh {P : Program} {w : World} {t e : TypeId} {n : Nat} (a : Addr) (ht : P.underlying t = some (.array n e)) (hs : (P.info? e).map (·.size) = some 1) (kh : IntKind) (h : Int) (h0 : 0 ≤ h) (h1 : h ≤ n) :
    (Instr.sliceAt t (.pointer (some a)) none (some (.int kh h)) none).run P w = .ok (.slice (some a) h.toNat n) w := by
  obtain ⟨i, hi1, hi2⟩ : ∃ i, P.info? e = some i ∧ i.size = 1 := by
    cases hq : P.info? e with
    | none => rw [hq] at hs; cases hs
    | some i => rw [hq] at hs; exact ⟨i, rfl, by simpa using hs⟩
  simp [Instr.sliceAt, Instr.sureAddr, run_underlying ht, Instr.sliceBounds, run_sliceBound, hi1, sizeOf, typeInfo, h0, h1, Addr.add]
theorem oneCell_v8 (bs : List UInt8) : ∀ v ∈ bs.map v8, v.oneCell' = true := by
  intro v hv
  obtain ⟨b, _, rfl⟩ := List.mem_map.1 hv
  rfl
theorem own_ge {w : World} {base : Nat} {e : TypeId} {size n : Nat} {v : Value} {xs : List Value} (h : w.ownsRow base e size v n xs) : ∀ g, v.ownBlock = some g → base ≤ g := by
  intro g hg
  rcases h.2 with ⟨rfl, _⟩ | ⟨g', cap, cur, rfl, hb, _⟩
  · cases hg
  · injection hg with hg; subst hg; exact hb
theorem below_own {w0 w w1 : World} {B : Nat} {e : TypeId} {size n : Nat} {v : Value} {xs : List Value} (hb : Below B w0 w) (h : w.ownsRow B e size v n xs) (hg : w.grownBy w1 v.ownBlock) (hB : B ≤ w.heap.size) : Below B w0 w1 :=
  hb.grown hg hB (fun k hk => own_ge h k hk)
/-- v is a slice of bytes that reads bs, below block B -/
def BSl (w : World) (B : Nat) (v : Value) (bs : List UInt8) : Prop :=
  ∃ A cap, v = .slice A bs.length cap ∧ bs.length ≤ cap ∧ cap ≤ 9223372036854775807 ∧ Reads w B A (bs.map v8)
/-- v is a slice of slices of bytes that read ls -/
def SSl (w : World) (B : Nat) (v : Value) (ls : List (List UInt8)) : Prop :=
  ∃ A cap vs, v = .slice A ls.length cap ∧ ls.length ≤ cap ∧ cap ≤ 9223372036854775807 ∧ Reads w B A vs ∧ vs.length = ls.length ∧ ∀ i, i < ls.length → BSl w B (vs.getD i undef) (ls.getD i [])
section
variable {w w' : World} {B B' : Nat} {v : Value} {bs : List UInt8} {ls : List (List UInt8)}
theorem BSl.below (h : BSl w B v bs) (hb : Below B w w') : BSl w' B v bs := by
  obtain ⟨A, cap, h1, h2, h3, h4⟩ := h
  exact ⟨A, cap, h1, h2, h3, h4.below hb⟩
theorem BSl.more (h : BSl w B v bs) (hB : B ≤ B') : BSl w B' v bs := by
  obtain ⟨A, cap, h1, h2, h3, h4⟩ := h
  exact ⟨A, cap, h1, h2, h3, h4.more hB⟩
theorem BSl.next (h : BSl w w.heap.size v bs) (hb : Below w.heap.size w w') : BSl w' w'.heap.size v bs := (h.below hb).more hb.size
theorem SSl.below (h : SSl w B v ls) (hb : Below B w w') : SSl w' B v ls := by
  obtain ⟨A, cap, vs, h1, h2, h3, h4, h5, h6⟩ := h
  exact ⟨A, cap, vs, h1, h2, h3, h4.below hb, h5, fun i hi => (h6 i hi).below hb⟩
theorem SSl.more (h : SSl w B v ls) (hB : B ≤ B') : SSl w B' v ls := by
  obtain ⟨A, cap, vs, h1, h2, h3, h4, h5, h6⟩ := h
  exact ⟨A, cap, vs, h1, h2, h3, h4.more hB, h5, fun i hi => (h6 i hi).more hB⟩
theorem SSl.next (h : SSl w w.heap.size v ls) (hb : Below w.heap.size w w') : SSl w' w'.heap.size v ls := (h.below hb).more hb.size
theorem BSl.nil_ : BSl w B (.slice none 0 0) [] := ⟨none, 0, rfl, Nat.le_refl _, by decide, Reads.nil_⟩
theorem BSl.of_own {base : Nat} {e : TypeId} {n : Nat} (h : w.ownsRow base e 1 v n (bs.map v8)) : BSl w w.heap.size v bs := by
  have hn : bs.length = n := by have := h.1; rw [List.length_map] at this; omega
  subst hn
  rcases h.2 with ⟨rfl, h0⟩ | ⟨g, cap, cur, hv, _, _, hnc, hcap, _, _⟩
  · have := List.eq_nil_of_length_eq_zero h0
    subst this
    exact BSl.nil_
  · subst hv
    exact ⟨_, cap, rfl, hnc, hcap, Reads.of_own h⟩
end
theorem own_empty (w : World) (base : Nat) (e : TypeId) (hb : base ≤ w.heap.size) : (w.alloc (.cells #[] e)).ownsRow base e 1 (.slice (some ⟨w.heap.size, 0, none⟩) 0 0) ([] : List Value).length [] :=
  ⟨rfl, .inr ⟨w.heap.size, 0, #[], rfl, hb, heap_alloc_new _ _, Nat.le_refl _, by decide, rfl, rfl⟩⟩
/-- a block of bytes, cut from its head, reads as its first bytes -/
theorem BSl.of_list {w : World} {g : Nat} {t : TypeId} {bs : List UInt8} (h : Blk w g t (bs.map v8).toArray) (B : Nat) (hB : g < B) (cap : Nat) (hcap : bs.length ≤ cap) (hc : cap ≤ 9223372036854775807) : BSl w B (.slice (some ⟨g, 0, none⟩) bs.length cap) bs :=
  ⟨_, cap, rfl, hcap, hc, by simpa using Reads.of_blk h hB 0⟩
theorem BSl.of_marked {w : World} {g : Nat} {t : TypeId} {fr : Nat × Nat} {bs : List UInt8} (h : w.heap[g]? = some (.cells (bs.map v8).toArray t fr)) (B : Nat) (hB : g < B) (hc : bs.length ≤ 9223372036854775807) : BSl w B (.slice (some ⟨g, 0, none⟩) bs.length bs.length) bs :=
  ⟨_, _, rfl, Nat.le_refl _, hc, fun _ => ⟨g, 0, rfl, hB, fun j u hu => by rw [Nat.zero_add, cell_of_row w g j _ t fr h, ← hu]; simp⟩⟩
/-- two slices in a new block -/
theorem SSl.two {w : World} {g : Nat} {t : TypeId} {u v : Value} {a b : List UInt8} (h : Blk w g t #[u, v]) (B : Nat) (hB : g < B) (ha : BSl w B u a) (hb : BSl w B v b) : SSl w B (.slice (some ⟨g, 0, none⟩) 2 2) [a, b] :=
  ⟨_, 2, [u, v], rfl, Nat.le_refl _, by decide, by simpa using Reads.of_blk h hB 0, rfl, fun i hi => by
    match i, hi with
    | 0, _ => exact ha
    | 1, _ => exact hb⟩
theorem SSl.one {w : World} {g : Nat} {t : TypeId} {u : Value} {a : List UInt8} (h : Blk w g t #[u]) (B : Nat) (hB : g < B) (ha : BSl w B u a) : SSl w B (.slice (some ⟨g, 0, none⟩) 1 1) [a] :=
  ⟨_, 1, [u], rfl, Nat.le_refl _, by decide, by simpa using Reads.of_blk h hB 0, rfl, fun i hi => by
    match i, hi with
    | 0, _ => exact ha⟩
theorem SSl.three {w : World} {g : Nat} {t : TypeId} {u v x : Value} {a b c : List UInt8} (h : Blk w g t #[u, v, x]) (B : Nat) (hB : g < B) (ha : BSl w B u a) (hb : BSl w B v b) (hc : BSl w B x c) : SSl w B (.slice (some ⟨g, 0, none⟩) 3 3) [a, b, c] :=
  ⟨_, 3, [u, v, x], rfl, Nat.le_refl _, by decide, by simpa using Reads.of_blk h hB 0, rfl, fun i hi => by
    match i, hi with
    | 0, _ => exact ha
    | 1, _ => exact hb
    | 2, _ => exact hc⟩
theorem SSl.four {w : World} {g : Nat} {t : TypeId} {u v x y : Value} {a b c d : List UInt8} (h : Blk w g t #[u, v, x, y]) (B : Nat) (hB : g < B) (ha : BSl w B u a) (hb : BSl w B v b) (hc : BSl w B x c) (hd : BSl w B y d) : SSl w B (.slice (some ⟨g, 0, none⟩) 4 4) [a, b, c, d] :=
  ⟨_, 4, [u, v, x, y], rfl, Nat.le_refl _, by decide, by simpa using Reads.of_blk h hB 0, rfl, fun i hi => by
    match i, hi with
    | 0, _ => exact ha
    | 1, _ => exact hb
    | 2, _ => exact hc
    | 3, _ => exact hd⟩
end Go.Proofs.YtcdkadidkkbhpaaDoor

/- A region that draws its order: quiet operations over a class of worlds, then a forced tail. No condition. -/
namespace Go.Proofs.YtcdkadidkkbhpaaDoor
open Go
section
variable {P : Program} {ops : Array Oper} {md : Region.Mode} {C : World → Prop}
def anyLQ (P : Program) (md : Region.Mode) (ops : Array Oper) (C : World → Prop) (n : Nat) (L : Array Bool → Act → Prop) : Nat → Array Bool → Act → Prop
  | 0, listed, a => L listed a
  | f + 1, listed, a =>
    Region.ready md ops listed ≠ [] ∧ ∀ i ∈ Region.ready md ops listed, i < n ∧ qOp P ops C i (anyLQ P md ops C n L f (listed.setIfInBounds i true)) a

theorem wpAny_of_headQ {n g : Nat} {L : Array Bool → Act → Prop} {Q' : Exit → Act → World → Prop} (hL : ∀ listed a w, C w → L listed a → wpAny P md ops Q' g listed a w) :
    ∀ (f : Nat) (listed : Array Bool) (a : Act) (w : World), C w → anyLQ P md ops C n L f listed a → wpAny P md ops Q' (f + g) listed a w
  | 0, listed, a, w, hC, h => by rw [Nat.zero_add]; exact hL _ _ _ hC h
  | f + 1, listed, a, w, hC, h => by
    rw [show f + 1 + g = (f + g) + 1 by omega]
    exact ⟨fun h0 => absurd h0 h.1, fun i hi => wpOp_of_qOp hC (fun a' w' hw' h' => wpAny_of_headQ hL f _ a' w' hw' h') (h.2 i hi).2⟩

theorem anyLQ_first {n i : Nat} {oi : Oper} {v : Value} {L : Array Bool → Act → Prop} (hi : ops[i]? = some oi) (hsel : ∀ (j : Nat) (o : Oper) cs b, ops[j]? = some o → o.op ≠ .select cs b)
    (hs : Region.sinkB md ops n = true) (hc : Region.chainB md ops n = true) (hn : n < ops.size) (hin : i < n)
    (hdone : ∀ listed a, L listed a → ∀ j ∈ Region.ready md ops listed, n ≤ j) :
    ∀ (f : Nat) (listed : Array Bool) (a : Act), HeadInv md ops n listed →
      (∀ j oj, ops[j]? = some oj → j ≠ i → listed.getD j true = false → (∀ e ∈ oj.after, Region.binds md e = true → e.on ≠ i) → oi.apart ops oj = true) →
      i ∈ Region.ready md ops listed → YieldsIn P ops C oi v a →
      anyLQ P md ops C n L f (listed.setIfInBounds i true) (a.put oi.dst v) → anyLQ P md ops C n L (f + 1) listed a := by
  intro f
  induction f with
  | zero =>
    intro listed a inv _ hr hy H
    have hun := (mem_ready.1 hr).1
    refine ⟨fun h => (by rw [h] at hr; cases hr), fun j hj => ?_⟩
    have hjn : j < n := by
      rcases Nat.lt_or_ge j n with h | h
      · exact h
      · exact absurd hj (tail_waits hs hc hn inv _ i rfl hin hun j h)
    refine ⟨hjn, ?_⟩
    by_cases hji : j = i
    · subst hji; exact hy.qOp hi H
    · have := hdone _ _ H j (ready_mono hj hji)
      omega
  | succ f ih =>
    intro listed a inv hfree hr hy H
    have hun := (mem_ready.1 hr).1
    refine ⟨fun h => (by rw [h] at hr; cases hr), fun j hj => ?_⟩
    have hjn : j < n := by
      rcases Nat.lt_or_ge j n with h | h
      · exact h
      · exact absurd hj (tail_waits hs hc hn inv _ i rfl hin hun j h)
    refine ⟨hjn, ?_⟩
    by_cases hji : j = i
    · subst hji; exact hy.qOp hi H
    · have h1 := (H.2 j (ready_mono hj hji)).2
      obtain ⟨hjun, oj, hoj, hall⟩ := mem_ready.1 hj
      have hnot : ∀ e ∈ oj.after, Region.binds md e = true → e.on ≠ i := fun e he hb heq => by
        have h1 := hall e he hb
        rw [heq, getD_both hun] at h1
        cases h1
      have h2 := qOp_put hoj (hfree j oj hoj hji hjun hnot) (fun cs b => hsel i oi cs b hi) (fun cs b => hsel j oj cs b hoj) hy h1
      have hfree' : ∀ k ok, ops[k]? = some ok → k ≠ i → (listed.setIfInBounds j true).getD k true = false →
          (∀ e ∈ ok.after, Region.binds md e = true → e.on ≠ i) → oi.apart ops ok = true := fun k ok hk hki hun hno => by
        refine hfree k ok hk hki ?_ hno
        by_cases hjk : j = k
        · subst hjk; exact hjun
        · rw [getD_set_ne true hjk] at hun; exact hun
      refine qOp_mono (fun a' h3 => ih (listed.setIfInBounds j true) a' (inv.set hj hjn) hfree' (ready_mono hr (Ne.symm hji)) h3.1 ?_) h2
      rw [Array.setIfInBounds_comm _ _ hji]
      exact h3.2

theorem anyLQ_lex {n g : Nat} {Lq : Act → Prop} (hsel : Region.noSelect ops = true) (hs : Region.sinkB md ops n = true) (hc : Region.chainB md ops n = true) (hn : n < ops.size) :
    ∀ (l : List Oper) (k : Nat) (listed : Array Bool) (a : Act), (∀ j, j < l.length → l[j]? = ops[k + j]?) → k + l.length = n → HeadInv md ops n listed →
    Region.lexHead md ops g l.length k listed = true → wpQuiet P ops C Lq l a →
    anyLQ P md ops C n (fun listed' a' => Region.seqB md ops g n listed' = true ∧ Lq a') l.length listed a
  | [], k, listed, a, _, hk, _, hB, h => by
    have : k = n := by simpa using hk
    subst this
    exact ⟨by simpa [Region.lexHead] using hB, h⟩
  | o :: l, k, listed, a, hl, hk, inv, hB, h => by
    have h0 : ops[k]? = some o := by simpa using (hl 0 (by simp)).symm
    simp only [List.length_cons, Region.lexHead, Bool.and_eq_true] at hB
    obtain ⟨⟨hr, hf⟩, hB'⟩ := hB
    have hkn : k < n := by simp only [List.length_cons] at hk; omega
    have hr' : k ∈ Region.ready md ops listed := by simpa using hr
    have hst : qOp P ops C k (wpQuiet P ops C Lq l) a := by unfold qOp; simp only [h0]; exact h
    obtain ⟨v, hy, hK⟩ := yieldsIn_of_qOp h0 hst
    exact anyLQ_first h0 (Region.noSelect_spec hsel) hs hc hn hkn (fun listed' a' hL => seqB_ready hL.1) l.length listed a inv (Region.free_spec h0 hf) hr' hy
      (anyLQ_lex hsel hs hc hn l (k + 1) _ _ (fun j hj => by have := hl (j + 1) (by simp; omega); simpa [Nat.add_assoc, Nat.add_comm 1 j] using this) (by simp only [List.length_cons] at hk; omega) (inv.set hr' hkn) hB' hK)

/-- Quiet operations over a class of worlds, then a forced tail, walked in every world of the class. -/
theorem wp_region_quiet_tail {id : Nat} {Q : Exit → Act → World → Prop} {a : Act} {w : World} {l : List Oper} (n : Nat) (C : World → Prop) (hm : P.follows .mixedOrders = true) (hB : Region.lexTailB .any l.toArray n = true)
    (hC : C { w with drawn := w.drawn + 1 })
    (h : wpQuiet P l.toArray C (fun a' => ∀ w', C w' → wpList P l.toArray Q (l.drop n) a' w') (l.take n) a) : (Code.region id l.toArray true).wp P Q a w := by
  simp only [Region.lexTailB, Bool.and_eq_true, decide_eq_true_eq] at hB
  obtain ⟨⟨⟨⟨hsel, hn⟩, hs⟩, hc⟩, hlex⟩ := hB
  have hn' : n < l.length := by simpa using hn
  have htl : (l.take n).length = n := by simp; omega
  have hdl : (l.drop n).length = l.toArray.size - n := by simp
  have inv0 : HeadInv .any l.toArray n (Array.replicate l.toArray.size false) :=
    ⟨by simp, fun j oj _ hl => (by rw [getD_replicate_false] at hl; cases hl), fun t _ ht => getD_in (by simpa using ht) (getD_replicate_false _ _)⟩
  have H := anyLQ_lex (C := C) (md := .any) (g := l.toArray.size - n) hsel hs hc hn (l.take n) 0 _ a (fun j hj => by
    have hj' : j < n := by rw [htl] at hj; exact hj
    simp [hj']) (by simpa using htl) inv0 (by rw [htl]; exact hlex) h
  refine wp_region_any hm ?_
  have := wpAny_of_headQ (Q' := Q) (g := l.toArray.size - n) (fun listed a' w' hw' hL => by
    have := wpAny_of_seq (md := .any) (Q' := Q) (l.drop n) n listed a' w' (fun j => by simp [List.getElem?_drop]) (by rw [hdl]; exact hL.1) (hL.2 w' hw')
    rwa [hdl] at this) _ _ _ _ hC H
  rw [htl, show n + (l.toArray.size - n) = l.toArray.size by omega] at this
  exact this
end
end Go.Proofs.YtcdkadidkkbhpaaDoor

/- A class of worlds: w with new blocks behind it, and draws. Quiet laws over it; equality of arrays of bytes. No condition. -/
namespace Go.Proofs.YtcdkadidkkbhpaaDoor
open Go Go.RowKit
/-- What a call may have added. -/
structure Ext where
  blocks : Array Obj
  draws : Nat
instance : Nonempty Ext := ⟨⟨#[], 0⟩⟩
/-- w, with new blocks behind its own, and the count of draws set. -/
def plus (w : World) (e : Ext) : World := { w with heap := w.heap ++ e.blocks, drawn := e.draws }
theorem plus_block (w : World) (e : Ext) (k : Nat) (hk : k < w.heap.size) : (plus w e).heap[k]? = w.heap[k]? := by
  show (w.heap ++ e.blocks)[k]? = _
  rw [Array.getElem?_append_left hk]
theorem plus_size (w : World) (e : Ext) : (plus w e).heap.size = w.heap.size + e.blocks.size := by simp [plus]
theorem plus_le (w : World) (e : Ext) : w.heap.size ≤ (plus w e).heap.size := by rw [plus_size]; omega
theorem plus_cell (w : World) (e : Ext) (a : Addr) (h : a.block < w.heap.size) : (plus w e).cell? a = w.cell? a := World.cell?_of_block (plus_block w e _ h)
theorem plus_frozen (w : World) (e : Ext) (a : Addr) (h : a.block < w.heap.size) : (plus w e).frozen? a = w.frozen? a := World.frozen?_of_block (plus_block w e _ h)
theorem plus_below (w : World) (e : Ext) : Below w.heap.size w (plus w e) := ⟨rfl, rfl, rfl, plus_le w e, fun k hk => plus_block w e k hk⟩
theorem below_plus {w w' : World} (h : Below w.heap.size w w') : ∃ e, w' = plus w e := by
  refine ⟨⟨w'.heap.extract w.heap.size w'.heap.size, w'.drawn⟩, ?_⟩
  obtain ⟨hp, tp, dr, os, out⟩ := w'
  obtain ⟨hp0, tp0, dr0, os0, out0⟩ := w
  have h1 := h.os
  have h2 := h.tape
  have h3 := h.output
  have h4 := h.size
  have h5 := h.block
  simp only at h1 h2 h3 h4 h5
  subst h1; subst h2; subst h3
  unfold plus
  congr 1
  apply Array.ext_getElem?
  intro i
  by_cases hi : i < hp0.size
  · rw [Array.getElem?_append_left (show i < hp0.size from hi), h5 i hi]
  · rw [Array.getElem?_append_right (show hp0.size ≤ i by omega), Array.getElem?_extract]
    simp only
    by_cases h6 : i < hp.size
    · rw [if_pos (by omega)]; congr 1; omega
    · rw [if_neg (by omega), Array.getElem?_eq_none (by omega)]
theorem plus_drawn (w : World) (n : Nat) : ∃ e, { w with drawn := n } = plus w e := ⟨⟨#[], n⟩, by simp [plus]⟩
theorem plus_plus (w : World) (e : Ext) {w' : World} (h : Below (plus w e).heap.size (plus w e) w') : ∃ e', w' = plus w e' :=
  below_plus ((plus_below w e).trans (h.mono (plus_le w e)))
theorem Blk.plus {w : World} {g : Nat} {t : TypeId} {cs : Array Value} (h : Blk w g t cs) (e : Ext) : Blk (plus w e) g t cs := h.below (plus_below w e) h.lt
section
variable {P : Program} {ops : Array Oper} {C : World → Prop} {Q : Act → Prop} {a : Act} {o : Oper} {rest : List Oper}
theorem wpQuiet_wanted (hw : Region.wanted o (yielded ops a.tmps) = true) (v : Value) (h1 : ∀ w, C w → o.quietAt P a C w v) (h : wpQuiet P ops C Q rest (a.put o.dst v)) : wpQuiet P ops C Q (o :: rest) a := by
  unfold wpQuiet; rw [if_pos hw]; exact ⟨v, h1, h⟩
theorem wpQuiet_unwanted (hw : Region.wanted o (yielded ops a.tmps) = false) (h : wpQuiet P ops C Q rest (a.put o.dst undef)) : wpQuiet P ops C Q (o :: rest) a := by
  unfold wpQuiet; rw [if_neg (by rw [hw]; exact Bool.false_ne_true)]; exact h
/-- a call of a Go function whose answer is one value in every world of the class -/
theorem wpQuiet_call (hw : Region.wanted o (yielded ops a.tmps) = true) (f : FuncId) (args : Array Value) (v : Value) (hop : ∀ w, (execOp a.eval o).run P w = .ok (.enter f args) w)
    (h1 : ∀ w, C w → Calls P f args w fun e w' => e = .returned v ∧ C w') (h : wpQuiet P ops C Q rest (a.put o.dst v)) : wpQuiet P ops C Q (o :: rest) a :=
  wpQuiet_wanted hw v (fun w hC => by unfold Oper.quietAt; rw [hop]; exact ⟨rfl, h1 w hC⟩) h
/-- a whole array is loaded out of a block -/
theorem wpQuiet_load (hw : Region.wanted o (yielded ops a.tmps) = true) (ty : TypeId) (x : Operand) (ho : o.op = .load ty x) (g : Nat) (hx : a.eval x = .pointer (some ⟨g, 0, none⟩)) (t : TypeId) (cs : Array Value) (fr : Nat × Nat) (d : TypeDesc)
    (hg : ∀ w, C w → w.heap[g]? = some (.cells cs t fr)) (hu : P.underlying ty = some d) (hd : (match d with | .struct _ | .array _ _ => true | _ => false) = true) (hi : (P.info? ty).map (·.size) = some cs.size)
    (h : wpQuiet P ops C Q rest (a.put o.dst (.agg cs))) : wpQuiet P ops C Q (o :: rest) a :=
  wpQuiet_wanted hw (.agg cs) (fun w hC => by
    unfold Oper.quietAt execOp
    simp only [ho, hx, Instr.loadAt, Instr.sureAddr, Sem.run_bind, Sem.run_pure, Result.andThen_ok, run_loadVar_row w g t ty cs fr d (hg w hC) hu hd hi]
    exact ⟨rfl, rfl⟩) h
end
theorem wp_region_quiet_plus {P : Program} {id : Nat} {Q : Exit → Act → World → Prop} {a : Act} {w : World} {l : List Oper} (hm : P.follows .mixedOrders = true) (hB : Region.lexB .any l.toArray = true)
    (h : wpQuiet P l.toArray (fun w' => ∃ e, w' = plus w e) (fun a' => ∀ w', (∃ e, w' = plus w e) → Q .normal a' w') l a) : (Code.region id l.toArray true).wp P Q a w :=
  wp_region_quiet (C := fun w' => ∃ e, w' = plus w e) hm hB (plus_drawn w _) (by simpa using h)
theorem wp_region_quiet_tail_plus {P : Program} {id : Nat} {Q : Exit → Act → World → Prop} {a : Act} {w : World} {l : List Oper} (n : Nat) (hm : P.follows .mixedOrders = true) (hB : Region.lexTailB .any l.toArray n = true)
    (h : wpQuiet P l.toArray (fun w' => ∃ e, w' = plus w e) (fun a' => ∀ w', (∃ e, w' = plus w e) → wpList P l.toArray Q (l.drop n) a' w') (l.take n) a) : (Code.region id l.toArray true).wp P Q a w :=
  wp_region_quiet_tail n (fun w' => ∃ e, w' = plus w e) hm hB (plus_drawn w _) h
theorem calls_plus {P : Program} {f : FuncId} {args : Array Value} {w : World} {e : Ext} {v : Value}
    (h : Calls P f args (plus w e) fun en w' => en = .returned v ∧ Below (plus w e).heap.size (plus w e) w') : Calls P f args (plus w e) fun en w' => en = .returned v ∧ ∃ e', w' = plus w e' :=
  h.mono fun _ _ h => ⟨h.1, plus_plus w e h.2⟩
/-- '==' on two arrays of bytes -/
theorem run_part_byte {P : Program} (w : World) {e : TypeId} {k : IntKind} (he : P.underlying e = some (.int k)) (cs : Array Value) (i : Nat) (v : Value) (h : cs[i]? = some v) : (part e cs i).run P w = .ok v w := by
  simp [part, isAgg, run_underlying he, h]
theorem run_eqItems_bytes {P : Program} (w : World) (d : Nat) {e : TypeId} (he : P.underlying e = some (.int .u8)) (hc : P.cellsOf e = 1) (xs ys : List UInt8) : ∀ (m k : Nat), k + m = xs.length → k + m = ys.length →
    (Op.eqItems (d + 1) e (P.cellsOf e) (xs.map v8).toArray (ys.map v8).toArray (List.range' k m)).run P w = .ok (decide (xs.drop k = ys.drop k)) w
  | 0, k, h1, h2 => by
    have e1 : xs.drop k = [] := List.drop_of_length_le (by omega)
    have e2 : ys.drop k = [] := List.drop_of_length_le (by omega)
    rw [e1, e2]
    simp [Op.eqItems]
  | m + 1, k, h1, h2 => by
    have hx : k < xs.length := by omega
    have hy : k < ys.length := by omega
    have ih := run_eqItems_bytes w d he hc xs ys m (k + 1) (by omega) (by omega)
    rw [hc] at ih ⊢
    rw [List.range'_succ]
    simp only [Op.eqItems, Sem.run_bind, Nat.mul_one]
    rw [run_part_byte w he _ k (v8 xs[k]) (by simp [hx]), Result.andThen_ok, run_part_byte w he _ k (v8 ys[k]) (by simp [hy]), Result.andThen_ok]
    have hq : (Op.equalIn (d + 1) e (v8 xs[k]) (v8 ys[k])).run P w = .ok (n8 xs[k] == n8 ys[k]) w := by
      simp [v8, Op.equalIn, run_underlying he]
    rw [hq, Result.andThen_ok, List.drop_eq_getElem_cons hx, List.drop_eq_getElem_cons hy]
    by_cases hb : xs[k] = ys[k]
    · rw [hb]
      simp only [beq_self_eq_true, Bool.not_true, Bool.false_eq_true, if_false, List.cons.injEq, true_and]
      exact ih
    · have hn : (n8 xs[k] == n8 ys[k]) = false := by rw [beq_eq_false_iff_ne]; exact fun e => hb (n8_inj e)
      rw [hn]
      have hne : ¬ (xs[k] :: xs.drop (k + 1) = ys[k] :: ys.drop (k + 1)) := fun e => hb (List.cons.inj e).1
      rw [decide_eq_false hne]
      simp
theorem run_eql_bytes {P : Program} (w : World) (t e : TypeId) (n : Nat) (i : TypeInfo) (hu : P.underlying t = some (.array n e)) (hi : P.info? e = some i) (he : P.underlying e = some (.int .u8)) (hc : P.cellsOf e = 1)
    (xs ys : List UInt8) (hx : xs.length = n) (hy : ys.length = n) : (binOp .eql t (.agg (xs.map v8).toArray) (.agg (ys.map v8).toArray)).run P w = .ok (.bool (decide (xs = ys))) w := by
  rw [run_eql_struct, run_equalIn_array w 9999 _ _ hu hi, List.range_eq_range', run_eqItems_bytes w 9998 he hc xs ys n 0 (by omega) (by omega)]
  simp
theorem run_eqi_bytes {P : Program} (w : World) (t e : TypeId) (n : Nat) (i : TypeInfo) (hu : P.underlying t = some (.array n e)) (hi : P.info? e = some i) (he : P.underlying e = some (.int .u8)) (hc : P.cellsOf e = 1)
    (xs ys : List UInt8) (hx : xs.length = n) (hy : ys.length = n) : (Op.equalIn 10000 t (.agg (xs.map v8).toArray) (.agg (ys.map v8).toArray)).run P w = .ok (decide (xs = ys)) w := by
  rw [run_equalIn_array w 9999 _ _ hu hi, List.range_eq_range', run_eqItems_bytes w 9998 he hc xs ys n 0 (by omega) (by omega)]
  simp
theorem run_neq_bytes {P : Program} (w : World) (t e : TypeId) (n : Nat) (i : TypeInfo) (hu : P.underlying t = some (.array n e)) (hi : P.info? e = some i) (he : P.underlying e = some (.int .u8)) (hc : P.cellsOf e = 1)
    (xs ys : List UInt8) (hx : xs.length = n) (hy : ys.length = n) : (binOp .neq t (.agg (xs.map v8).toArray) (.agg (ys.map v8).toArray)).run P w = .ok (.bool (!decide (xs = ys))) w := by
  rw [run_neq_struct, run_equalIn_array w 9999 _ _ hu hi, List.range_eq_range', run_eqItems_bytes w 9998 he hc xs ys n 0 (by omega) (by omega)]
  simp
end Go.Proofs.YtcdkadidkkbhpaaDoor
