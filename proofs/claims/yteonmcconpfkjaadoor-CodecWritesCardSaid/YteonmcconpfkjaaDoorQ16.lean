/- Texts that stand behind one another: ManyP. No condition. -/
import Derived.Test.YteonmcconpfkjaaDoorQ10
import Derived.Test.YteonmcconpfkjaaDoorQ8
/- Numbers one behind the other, in plain Lean. No condition. -/
namespace Go.Proofs.YteonmcconpfkjaaDoor
open Go
theorem byteAt_toNat (n : UInt64) (j : Nat) : (byteAt n j).toNat = n.toNat / 2 ^ (8 * j) % 256 := by
  unfold byteAt; rw [UInt8.toNat_ofNat']
/-- the number that the k lowest bytes are -/
theorem numF_numB (n : UInt64) (k : Nat) : numF (numB n k) = n.toNat % 256 ^ k := by
  have key : ∀ (k m : Nat), numF ((List.range k).map fun j => UInt8.ofNat (m / 2 ^ (8 * (k - 1 - j)))) = m % 256 ^ k := by
    intro k
    induction k with
    | zero => intro m; simp [numF, Nat.mod_one]
    | succ k ih =>
      intro m
      rw [List.range_succ, List.map_append, List.map_cons, List.map_nil, numF_snoc]
      have e : ((List.range k).map fun j => UInt8.ofNat (m / 2 ^ (8 * (k + 1 - 1 - j)))) = (List.range k).map fun j => UInt8.ofNat (m / 256 / 2 ^ (8 * (k - 1 - j))) := by
        refine List.map_congr_left fun j hj => ?_
        have hj := List.mem_range.1 hj
        congr 1
        rw [Nat.div_div_eq_div_mul, show (256 : Nat) = 2 ^ 8 from rfl, ← Nat.pow_add]
        congr 2
        omega
      rw [e, ih, show k + 1 - 1 - k = 0 by omega, Nat.mul_zero, Nat.pow_zero, Nat.div_one, UInt8.toNat_ofNat']
      show m / 256 % 256 ^ k * 256 + m % 256 = _
      have h := Nat.mod_mul (a := 256) (b := 256 ^ k) (x := m)
      rw [Nat.pow_succ, Nat.mul_comm (256 ^ k) 256, h, Nat.mul_comm, Nat.add_comm]
  exact key k n.toNat
def kOf (z : Int) : Nat := (1 + withinI z 0 7).toNat
theorem kOf_val (z : Int) : 1 + withinI z 0 7 = (kOf z : Int) := by
  have := withinI_bounds z 0 7 (by decide)
  unfold kOf; omega
theorem kOf_lo (z : Int) : 1 ≤ kOf z := by
  have := withinI_bounds z 0 7 (by decide)
  unfold kOf; omega
theorem kOf_hi (z : Int) : kOf z ≤ 8 := by
  have := withinI_bounds z 0 7 (by decide)
  unfold kOf; omega
theorem clamp8_self (k : Nat) (h1 : 1 ≤ k) (h2 : k ≤ 8) : clamp8 (k : Int) = k := by
  unfold clamp8
  rw [if_neg (by omega), if_neg (by omega)]
  exact Int.toNat_natCast k
/-- the first i numbers, one behind the other -/
def manyB (us : List UInt64) (zs : List Int) (i : Nat) : List UInt8 := ((List.range i).map fun j => numB (us.getD j 0) (kOf (zs.getD j 0))).flatten
theorem manyB_succ (us : List UInt64) (zs : List Int) (i : Nat) : manyB us zs (i + 1) = manyB us zs i ++ numB (us.getD i 0) (kOf (zs.getD i 0)) := by
  unfold manyB; rw [List.range_succ, List.map_append, List.flatten_append]; simp
theorem manyB_len (us : List UInt64) (zs : List Int) (i : Nat) : (manyB us zs i).length ≤ 8 * i := by
  induction i with
  | zero => simp [manyB]
  | succ i ih =>
    rw [manyB_succ, List.length_append, numB_length]
    have := kOf_hi (zs.getD i 0)
    omega
theorem manyB_pre (us : List UInt64) (zs : List Int) (i : Nat) : ∀ n, i ≤ n → ∃ r, manyB us zs n = manyB us zs i ++ r := by
  intro n
  induction n with
  | zero => intro h; exact ⟨[], by rw [show i = 0 by omega]; simp⟩
  | succ n ih =>
    intro h
    by_cases e : i = n + 1
    · subst e; exact ⟨[], by simp⟩
    · obtain ⟨r, hr⟩ := ih (by omega)
      exact ⟨r ++ numB (us.getD n 0) (kOf (zs.getD n 0)), by rw [manyB_succ, hr, List.append_assoc]⟩
/-- one number more is read -/
theorem rd_many (us : List UInt64) (zs : List Int) (n i : Nat) (h : i < n) :
    (⟨manyB us zs n, (manyB us zs i).length, none⟩ : RdL).number ((kOf (zs.getD i 0) : Nat) : Int) = ((us.getD i 0).toNat % 256 ^ kOf (zs.getD i 0), ⟨manyB us zs n, (manyB us zs (i + 1)).length, none⟩) := by
  obtain ⟨r, hr⟩ := manyB_pre us zs (i + 1) n h
  rw [manyB_succ] at hr
  have h1 := kOf_lo (zs.getD i 0)
  have h2 := kOf_hi (zs.getD i 0)
  have hs : (manyB us zs (i + 1)).length = (manyB us zs i).length + kOf (zs.getD i 0) := by rw [manyB_succ, List.length_append, numB_length]
  unfold RdL.number RdL.take
  rw [clamp8_self _ h1 h2, hs, hr]
  have hn := numB_length (us.getD i 0) (kOf (zs.getD i 0))
  have hf := numF_numB (us.getD i 0) (kOf (zs.getD i 0))
  generalize manyB us zs i = p at *
  generalize kOf (zs.getD i 0) = k at *
  generalize numB (us.getD i 0) k = q at *
  have hl : ¬ (p ++ q ++ r).length < p.length + k := by simp only [List.length_append]; omega
  simp only [Option.isSome_none, Bool.false_eq_true, if_false, if_neg hl]
  have e : ((p ++ q ++ r).drop p.length).take k = q := by rw [List.append_assoc, List.drop_left, ← hn, List.take_left]
  rw [e, hf]
theorem rd_end (bs : List UInt8) : (⟨bs, bs.length, none⟩ : RdL).stop = none := by
  unfold RdL.stop
  simp
end Go.Proofs.YteonmcconpfkjaaDoor
