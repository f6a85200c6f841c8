/- A Config that came in. No condition. -/
import Derived.Test.YtcdkadidkkbhpaaDoorFrameR
import Derived.Test.YtcdkadidkkbhpaaDoorS18
import Derived.Lib.SmallJoins
namespace Go.Proofs.YtcdkadidkkbhpaaDoor
open Go Go.ChangeShapes Go.WideShapes Go.ChangeAt Go.RowKit
section
variable {w : World} {base : Nat} {H : Type} {enc : TypeId × Value → H}
theorem cfgTs_eq : Tryd.prog.cellTypes Tryd.prog.depth 25 = some [3, 3, 22, 23] := by kernel_rfl
theorem cells4 : Tryd.prog.cellsOf 25 = 4 := by kernel_rfl
theorem cell_sliceC {P : Program} {u e : TypeId} {v : Value} (hu : P.underlying u = some (.slice e)) (h : Cell.okWide P w .any base u v) : ∃ A n c, v = .slice A n c := by
  simp only [Cell.okWide, hu] at h
  cases v <;> simp_all [Cell.ok]
theorem row_sliceC {P : Program} {cs : Array Value} {t u e : TypeId} {ts : List TypeId} (hts : P.cellTypes P.depth t = some ts) (hl : cs.size = ts.length) (hr : Row.okWide P w .any base t cs)
    (i : Nat) (hi : ts[i]? = some u) (hu : P.underlying u = some (.slice e)) : ∃ A n c, cs[i]? = some (.slice A n c) := by
  obtain ⟨ts', h1, _, h2⟩ := hr
  obtain rfl : ts = ts' := Option.some.inj (hts.symm.trans h1)
  have hlt : i < ts.length := (List.getElem?_eq_some_iff.1 hi).1
  have hc : cs[i]? = some cs[i] := Array.getElem?_eq_getElem (by omega)
  obtain ⟨u', e1, e2⟩ := h2 i _ hc
  rw [Nat.mod_eq_of_lt hlt, hi] at e1
  obtain rfl : u = u' := Option.some.inj e1
  obtain ⟨A, n, c, e3⟩ := cell_sliceC hu e2
  rw [hc, e3]
  exact ⟨A, n, c, rfl⟩
theorem u32_has {n : Int} (h : IntKind.u32.has n) : ∃ u : UInt32, n = n32 u := by
  obtain ⟨h1, h2⟩ := h
  have h1 : 0 ≤ n := h1
  have h2 : n ≤ 4294967295 := h2
  refine ⟨UInt32.ofNat n.toNat, ?_⟩
  unfold n32
  rw [UInt32.toNat_ofNat_of_lt' (by show _ < 4294967296; omega)]
  omega
theorem i64_has {n : Int} (h : IntKind.i64.has n) : -9223372036854775808 ≤ n ∧ n ≤ 9223372036854775807 := h
set_option maxRecDepth 100000 in
theorem open_cfg {v : Value} {d : DataW H} {p : List MemPlace} (hval : Value.okWide Tryd.prog w .any base 25 v) (h : DataW.Trod enc Tryd.prog w 0 (fun _ => true) true 25 v d p)
    (hw : (d.weights Tryd.prog 25).all (· ≤ reachBytes) = true) :
    ∃ (wd qu : Int) (st : UInt32) (A : Option Addr) (c : Nat) (bs : List UInt8), v = .agg (cfgC wd qu st (.slice A bs.length c)) ∧ (-9223372036854775808 ≤ wd ∧ wd ≤ 9223372036854775807) ∧ (-9223372036854775808 ≤ qu ∧ qu ≤ 9223372036854775807) ∧ BSl w w.heap.size (.slice A bs.length c) bs ∧ c ≤ 140737488351232 := by
  obtain ⟨cs, rfl, hs, hr⟩ := ok_struct Tryd.underlying25 cells4 hval
  have hl : cs.size = [3, 3, 22, 23].length := hs
  have c0 := row_int cfgTs_eq hl hr 0 rfl Tryd.underlying3
  have c1 := row_int cfgTs_eq hl hr 1 rfl Tryd.underlying3
  have c2 := row_int cfgTs_eq hl hr 2 rfl Tryd.underlying22
  obtain ⟨A, n, c, c3⟩ := row_sliceC cfgTs_eq hl hr 3 rfl Tryd.underlying23
  obtain ⟨st, e2⟩ := u32_has c2.2
  obtain ⟨fuel, hf⟩ := h
  obtain ⟨y0, y1, y2, y3, m, hx, _, _, _, _, h3⟩ := Joins.trod_struct4 Tryd.underlying25 hf
  obtain ⟨rfl, rfl⟩ := Prod.mk.inj hx
  have hcs : cs = cfgC (cellN cs 0) (cellN cs 1) st (.slice A n c) := by
    apply Array.ext_getElem?
    intro i
    match i with
    | 0 => rw [c0.1]; rfl
    | 1 => rw [c1.1]; rfl
    | 2 => rw [c2.1, e2]; rfl
    | 3 => rw [c3]; rfl
    | i + 4 => rw [Array.getElem?_eq_none (by omega), Array.getElem?_eq_none (by show 4 ≤ i + 4; omega)]
  have i0 := i64_has c0.2
  have i1 := i64_has c1.2
  generalize cellN cs 0 = wd at hcs i0
  generalize cellN cs 1 = qu at hcs i1
  clear c0 c1 c2 c3 e2
  subst hcs
  have hw3 : (y3.1.weights Tryd.prog 23).all (· ≤ reachBytes) = true := by
    unfold DataW.weights at hw
    rw [Tryd.underlying25] at hw
    exact (weights_at0 (weights_at0 (weights_at0 (weights_at0 hw).2).2).2).1
  obtain ⟨bs, rfl, hb, hc⟩ := open_bytes (A := A) (len := n) (cap := c) (d := y3.1) (p := y3.2) ⟨m, h3⟩ hw3
  exact ⟨wd, qu, st, A, c, bs, rfl, i0, i1, hb, hc⟩
end
end Go.Proofs.YtcdkadidkkbhpaaDoor
