/- Ranges of hashes that came in. No condition. -/
import Derived.Test.YtkogehkmldbhgaaDoorFrameD
import Derived.Test.YtkogehkmldbhgaaDoorP9
import Derived.Deep.Strs
namespace Go.Proofs.YtkogehkmldbhgaaDoor
open Go Go.ChangeShapes Go.WideShapes Go.ChangeAt Go.RowKit
section
variable {w : World} {base : Nat} {H : Type} {enc : TypeId × Value → H}
theorem rgTs_eq : Tryd.prog.cellTypes Tryd.prog.depth 31 = some [22, 22, 29] := by kernel_rfl
theorem cells3 : Tryd.prog.cellsOf 31 = 3 := by kernel_rfl
theorem cell_slice {P : Program} {u e : TypeId} {v : Value} (hu : P.underlying u = some (.slice e)) (h : Cell.okWide P w .any base u v) : ∃ A n c, v = .slice A n c := by
  simp only [Cell.okWide, hu] at h
  cases v <;> simp_all [Cell.ok]
theorem row_slice {P : Program} {cs : Array Value} {t u e : TypeId} {ts : List TypeId} (hts : P.cellTypes P.depth t = some ts) (hl : cs.size = ts.length) (hr : Row.okWide P w .any base t cs)
    (i : Nat) (hi : ts[i]? = some u) (hu : P.underlying u = some (.slice e)) : ∃ A n c, cs[i]? = some (.slice A n c) := by
  obtain ⟨ts', h1, _, h2⟩ := hr
  obtain rfl : ts = ts' := Option.some.inj (hts.symm.trans h1)
  have hlt : i < ts.length := (List.getElem?_eq_some_iff.1 hi).1
  have hc : cs[i]? = some cs[i] := Array.getElem?_eq_getElem (by omega)
  obtain ⟨u', e1, e2⟩ := h2 i _ hc
  rw [Nat.mod_eq_of_lt hlt, hi] at e1
  obtain rfl : u = u' := Option.some.inj e1
  obtain ⟨A, n, c, e3⟩ := cell_slice hu e2
  rw [hc, e3]
  exact ⟨A, n, c, rfl⟩
theorem natOf_u64 {n : Int} (h : IntKind.u64.has n) : ∃ k : Nat, n = (k : Int) ∧ k < 18446744073709551616 := by
  obtain ⟨h1, h2⟩ := h
  have h1 : 0 ≤ n := h1
  have h2 : n ≤ 18446744073709551615 := h2
  exact ⟨n.toNat, by omega, by omega⟩
set_option maxRecDepth 100000 in
theorem open_rg {v : Value} {d : DataW H} {p : List MemPlace} (hval : Value.okWide Tryd.prog w .any base 31 v) (h : DataW.Trod enc Tryd.prog w 0 (fun _ => true) true 31 v d p)
    (hw : (d.weights Tryd.prog 31).all (· ≤ reachBytes) = true) :
    ∃ (b e : Nat) (A : Option Addr) (c : Nat) (ds : List (List UInt8)), v = .agg (rgC b e (.slice A ds.length c)) ∧ b < 18446744073709551616 ∧ e < 18446744073709551616 ∧ (∀ d ∈ ds, d.length = 32) ∧ DX w (.slice A ds.length c) ds := by
  obtain ⟨cs, rfl, hs, hr⟩ := ok_struct Tryd.underlying31 cells3 hval
  have hl : cs.size = [22, 22, 29].length := hs
  have c0 := row_int rgTs_eq hl hr 0 rfl Tryd.underlying22
  have c1 := row_int rgTs_eq hl hr 1 rfl Tryd.underlying22
  obtain ⟨A, n, c, c2⟩ := row_slice rgTs_eq hl hr 2 rfl Tryd.underlying29
  obtain ⟨b, e0, hb⟩ := natOf_u64 c0.2
  obtain ⟨e, e1, he⟩ := natOf_u64 c1.2
  obtain ⟨fuel, hf⟩ := h
  obtain ⟨y0, y1, y2, m, hx, _, _, _, h2⟩ := Deep.trod_struct3 Tryd.underlying31 hf
  obtain ⟨rfl, rfl⟩ := Prod.mk.inj hx
  have hcs : cs = rgC b e (.slice A n c) := by
    apply Array.ext_getElem?
    intro i
    match i with
    | 0 => rw [c0.1, e0]; rfl
    | 1 => rw [c1.1, e1]; rfl
    | 2 => rw [c2]; rfl
    | i + 3 => rw [Array.getElem?_eq_none (by omega), Array.getElem?_eq_none (by show 3 ≤ i + 3; omega)]
  subst hcs
  have hw2 : (y2.1.weights Tryd.prog 29).all (· ≤ reachBytes) = true := by
    unfold DataW.weights at hw
    rw [Tryd.underlying31] at hw
    exact (weights_at0 (weights_at0 (weights_at0 hw).2).2).1
  obtain ⟨ds, rfl, hd, hX, _⟩ := open_digs (A := A) (len := n) (cap := c) (d := y2.1) (p := y2.2) ⟨m, h2⟩ hw2
  exact ⟨b, e, A, c, ds, rfl, hb, he, hd, hX⟩
end
end Go.Proofs.YtkogehkmldbhgaaDoor
