/- Rows of numbers that came in: their cells. No condition. -/
import Derived.Test.YtcdkadidkkbhpaaDoorFrame
import Derived.Test.YtcdkadidkkbhpaaDoorS8
namespace Go.Proofs.YtcdkadidkkbhpaaDoor
open Go Go.ChangeShapes Go.WideShapes Go.ChangeAt Go.RowKit
section
variable {w : World} {base : Nat}
def cellN (cs : Array Value) (i : Nat) : Int := match cs[i]? with
  | some (.int _ n) => n
  | _ => 0
def bytesAt (cs : Array Value) (off : Nat) : List UInt8 := (List.range 32).map fun j => UInt8.ofNat (cellN cs (off + j)).toNat
theorem bytesAt_length (cs : Array Value) (off : Nat) : (bytesAt cs off).length = 32 := by simp [bytesAt]
theorem cell_int {P : Program} {u : TypeId} {k : IntKind} {v : Value} (hu : P.underlying u = some (.int k)) (h : Cell.okWide P w .any base u v) : ∃ n, v = .int k n ∧ k.has n := by
  simp only [Cell.okWide, hu] at h
  cases v <;> simp_all [Cell.ok]
/-- a cell of a row whose cells are numbers -/
theorem row_int {P : Program} {cs : Array Value} {t u : TypeId} {k : IntKind} {ts : List TypeId} (hts : P.cellTypes P.depth t = some ts) (hl : cs.size = ts.length) (hr : Row.okWide P w .any base t cs)
    (i : Nat) (hi : ts[i]? = some u) (hu : P.underlying u = some (.int k)) : cs[i]? = some (.int k (cellN cs i)) ∧ k.has (cellN cs i) := by
  obtain ⟨ts', h1, _, h2⟩ := hr
  obtain rfl : ts = ts' := Option.some.inj (hts.symm.trans h1)
  have hlt : i < ts.length := (List.getElem?_eq_some_iff.1 hi).1
  have hc : cs[i]? = some cs[i] := Array.getElem?_eq_getElem (by omega)
  obtain ⟨u', e1, e2⟩ := h2 i _ hc
  rw [Nat.mod_eq_of_lt hlt, hi] at e1
  obtain rfl : u = u' := Option.some.inj e1
  obtain ⟨n, e3, e4⟩ := cell_int hu e2
  unfold cellN
  rw [hc, e3]
  exact ⟨rfl, e4⟩
theorem ok_struct {P : Program} {t : TypeId} {fs : Array Field} {v : Value} {n : Nat} (ht : P.underlying t = some (.struct fs)) (hn : P.cellsOf t = n) (h : Value.okWide P w .any base t v) : ∃ cs, v = .agg cs ∧ cs.size = n ∧ Row.okWide P w .any base t cs := by
  simp only [Value.okWide, ht] at h
  rw [hn] at h
  exact h
theorem dat_bytesAt {cs : Array Value} {off j : Nat} (hj : j < 32) (h : cs[off + j]? = some (.int .u8 (cellN cs (off + j))) ∧ IntKind.u8.has (cellN cs (off + j))) : (dat (bytesAt cs off))[j]? = cs[off + j]? := by
  obtain ⟨h1, h2, h3⟩ := h
  have h2 : 0 ≤ cellN cs (off + j) := h2
  have h3 : cellN cs (off + j) ≤ 255 := h3
  have e : (bytesAt cs off).getD j 0 = UInt8.ofNat (cellN cs (off + j)).toNat := by
    unfold bytesAt
    rw [List.getD_eq_getElem?_getD, List.getElem?_map, List.getElem?_range hj]; rfl
  unfold dat
  rw [arr_at _ _ _ hj, e, h1]
  congr 2
  unfold n8
  rw [UInt8.toNat_ofNat_of_lt' (by show _ < 256; omega)]
  omega
end
end Go.Proofs.YtcdkadidkkbhpaaDoor
