/- Heads and signed heads that came in: their cells. No condition. -/
import Derived.Test.YtfggbfnnibpohaaDoorFrameR
import Derived.Test.YtfggbfnnibpohaaDoorR13
namespace Go.Proofs.YtfggbfnnibpohaaDoor
open Go Go.ChangeShapes Go.WideShapes Go.ChangeAt Go.RowKit
section
variable {w : World} {base : Nat}
theorem n64_ofNat (n : Int) (h : IntKind.u64.has n) : n64 (UInt64.ofNat n.toNat) = n := by
  obtain ⟨h1, h2⟩ := h
  have h1 : 0 ≤ n := h1
  have h2 : n ≤ 18446744073709551615 := h2
  unfold n64
  rw [UInt64.toNat_ofNat_of_lt' (by show _ < 18446744073709551616; omega)]
  omega
def headOf (cs : Array Value) : HeadL := ⟨cellN cs 0, cellN cs 1, UInt64.ofNat (cellN cs 2).toNat, UInt64.ofNat (cellN cs 3).toNat, bytesAt cs 4⟩
def headTs : List TypeId := [3, 3, 33, 33] ++ List.replicate 32 5
def sigTs : List TypeId := [3, 3, 33, 33] ++ List.replicate 64 5
theorem headTs_eq : Tryd.prog.cellTypes Tryd.prog.depth 37 = some headTs := by kernel_rfl
theorem sigTs_eq : Tryd.prog.cellTypes Tryd.prog.depth 45 = some sigTs := by kernel_rfl
theorem headTs_at (j : Nat) (hj : j < 32) : headTs[4 + j]? = some 5 := by
  unfold headTs
  rw [List.getElem?_append_right (by simp), List.getElem?_replicate, if_pos (by simp; omega)]
theorem sigTs_at (j : Nat) (hj : j < 64) : sigTs[4 + j]? = some 5 := by
  unfold sigTs
  rw [List.getElem?_append_right (by simp), List.getElem?_replicate, if_pos (by simp; omega)]
theorem headOf_at {cs : Array Value} (c0 : cs[0]? = some (.int .i64 (cellN cs 0)) ∧ IntKind.i64.has (cellN cs 0)) (c1 : cs[1]? = some (.int .i64 (cellN cs 1)) ∧ IntKind.i64.has (cellN cs 1))
    (c2 : cs[2]? = some (.int .u64 (cellN cs 2)) ∧ IntKind.u64.has (cellN cs 2)) (c3 : cs[3]? = some (.int .u64 (cellN cs 3)) ∧ IntKind.u64.has (cellN cs 3))
    (cb : ∀ j, j < 32 → cs[4 + j]? = some (.int .u8 (cellN cs (4 + j))) ∧ IntKind.u8.has (cellN cs (4 + j))) (i : Nat) (hi : i < 36) : (headC (headOf cs))[i]? = cs[i]? := by
  match i, hi with
  | 0, _ => rw [headC_0, c0.1]; rfl
  | 1, _ => rw [headC_1, c1.1]; rfl
  | 2, _ => rw [headC_2, c2.1]; show some (Value.int .u64 (n64 (UInt64.ofNat (cellN cs 2).toNat))) = _; rw [n64_ofNat _ c2.2]
  | 3, _ => rw [headC_3, c3.1]; show some (Value.int .u64 (n64 (UInt64.ofNat (cellN cs 3).toNat))) = _; rw [n64_ofNat _ c3.2]
  | j + 4, hj =>
    rw [Nat.add_comm j 4, headC_root]
    exact dat_bytesAt (by omega) (cb j (by omega))
theorem headOf_ok {cs : Array Value} (c0 : IntKind.i64.has (cellN cs 0)) (c1 : IntKind.i64.has (cellN cs 1)) : (headOf cs).ok := ⟨bytesAt_length _ _, c0, c1⟩
theorem cells36 : Tryd.prog.cellsOf 37 = 36 := by kernel_rfl
theorem cells68 : Tryd.prog.cellsOf 45 = 68 := by kernel_rfl
theorem open_head {P : Program} {fs : Array Field} {v : Value} (hu : P.underlying 37 = some (.struct fs)) (hn : P.cellsOf 37 = 36) (hts : P.cellTypes P.depth 37 = some headTs) (ui : P.underlying 3 = some (.int .i64)) (uq : P.underlying 33 = some (.int .u64)) (ub : P.underlying 5 = some (.int .u8))
    (hval : Value.okWide P w .any base 37 v) : ∃ h : HeadL, v = .agg (headC h) ∧ h.ok := by
  obtain ⟨cs, rfl, hs, hr⟩ := ok_struct hu hn hval
  have hl : cs.size = headTs.length := by rw [hs]; unfold headTs; simp
  have c0 := row_int hts hl hr 0 rfl ui
  have c1 := row_int hts hl hr 1 rfl ui
  have c2 := row_int hts hl hr 2 rfl uq
  have c3 := row_int hts hl hr 3 rfl uq
  have cb := fun j hj => row_int hts hl hr (4 + j) (headTs_at j hj) ub
  refine ⟨headOf cs, ?_, headOf_ok c0.2 c1.2⟩
  refine congrArg Value.agg ?_
  apply Array.ext_getElem?
  intro i
  clear hl hn hts hu ui uq ub hr
  by_cases hi : i < 36
  · exact (headOf_at c0 c1 c2 c3 cb i hi).symm
  · rw [Array.getElem?_eq_none (by omega), Array.getElem?_eq_none (by rw [headC_size]; omega)]
theorem open_sig {P : Program} {fs : Array Field} {v : Value} (hu : P.underlying 45 = some (.struct fs)) (hn : P.cellsOf 45 = 68) (hts : P.cellTypes P.depth 45 = some sigTs) (ui : P.underlying 3 = some (.int .i64)) (uq : P.underlying 33 = some (.int .u64)) (ub : P.underlying 5 = some (.int .u8))
    (hval : Value.okWide P w .any base 45 v) : ∃ (h : HeadL) (tag : List UInt8), v = .agg (sigC h tag) ∧ h.ok ∧ tag.length = 32 := by
  obtain ⟨cs, rfl, hs, hr⟩ := ok_struct hu hn hval
  have hl : cs.size = sigTs.length := by rw [hs]; unfold sigTs; simp
  have c0 := row_int hts hl hr 0 rfl ui
  have c1 := row_int hts hl hr 1 rfl ui
  have c2 := row_int hts hl hr 2 rfl uq
  have c3 := row_int hts hl hr 3 rfl uq
  have cb := fun j hj => row_int hts hl hr (4 + j) (sigTs_at j hj) ub
  refine ⟨headOf cs, bytesAt cs 36, ?_, headOf_ok c0.2 c1.2, bytesAt_length _ _⟩
  refine congrArg Value.agg ?_
  apply Array.ext_getElem?
  intro i
  clear hl hn hts hu ui uq ub hr
  unfold sigC
  by_cases hi : i < 36
  · rw [Array.getElem?_append_left (by rw [headC_size]; exact hi)]
    exact (headOf_at c0 c1 c2 c3 (fun j hj => cb j (by omega)) i hi).symm
  · rw [Array.getElem?_append_right (by rw [headC_size]; omega), headC_size]
    by_cases h2 : i < 68
    · have e : i = 36 + (i - 36) := by omega
      have := dat_bytesAt (cs := cs) (off := 36) (j := i - 36) (by omega) (by have := cb (i - 4) (by omega); rw [show 4 + (i - 4) = 36 + (i - 36) by omega] at this; exact this)
      rw [this, ← e]
    · rw [Array.getElem?_eq_none (by omega), Array.getElem?_eq_none (by rw [dat_size]; omega)]
end
end Go.Proofs.YtfggbfnnibpohaaDoor
