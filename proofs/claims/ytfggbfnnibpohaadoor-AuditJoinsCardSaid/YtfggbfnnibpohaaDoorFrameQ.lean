/- Slices of 64-bit words and of ints that came in. No condition. -/
import Derived.Test.YtfggbfnnibpohaaDoorFrame
namespace Go.Proofs.YtfggbfnnibpohaaDoor
open Go Go.ChangeShapes Go.WideShapes Go.ChangeAt Go.RowKit
section
variable {H : Type} {enc : TypeId × Value → H} {w : World}
set_option maxRecDepth 100000 in
/-- a slice of numbers that came in -/
theorem open_nums {k : IntKind} {t e : TypeId} (ht : Tryd.prog.underlying t = some (.slice e)) (he : Tryd.prog.underlying e = some (.int k)) (hc : Tryd.prog.cellsOf e = 1) {A : Option Addr} {len cap : Nat} {d : DataW H} {p : List MemPlace}
    (h : DataW.Trod enc Tryd.prog w 0 (fun _ => true) true t (.slice A len cap) d p) :
    ∃ zs : List Int, zs.length = len ∧ len ≤ cap ∧ cap ≤ maxLen ∧ Reads w w.heap.size A (zs.map (Value.int k)) ∧ ∀ z ∈ zs, (Lit.int k z).wf = true := by
  obtain ⟨fuel, hf⟩ := h
  rcases open_ints ht he hc hf with ⟨hcs, _⟩ | ⟨x, l, c, zs, hcs, _, hl, hm, hz, hx, hcell, hwz⟩
  · simp [Value.cells] at hcs
    obtain ⟨rfl, rfl, rfl⟩ := hcs
    exact ⟨[], rfl, Nat.le_refl _, Nat.zero_le _, Reads.nil_, fun _ h => by cases h⟩
  · simp [Value.cells] at hcs
    obtain ⟨rfl, rfl, rfl⟩ := hcs
    simp only [if_true] at hz
    have hlen : (zs.take len).length = len := by rw [List.length_take]; omega
    refine ⟨zs.take len, hlen, hl, hm, fun hpos => ?_, fun z hz' => hwz z (List.mem_of_mem_take hz')⟩
    have hlp : 0 < len := by rw [List.length_map, hlen] at hpos; exact hpos
    have h0 := hcell 0 (by omega)
    have hspot : (x.add 0).spot = none := World.cell?_spot h0
    have hx0 : x.add 0 = x := by simp [Addr.add]
    rw [hx0] at hspot h0
    obtain ⟨b, off, spot⟩ := x
    simp only at hspot
    subst hspot
    refine ⟨b, off, rfl, block_lt_of_cell (a := ⟨b, off, none⟩) h0, fun j u hu => ?_⟩
    have hj : j < len := by
      have := (List.getElem?_eq_some_iff.1 hu).1
      rw [List.length_map, hlen] at this; exact this
    have hc := hcell j (by omega)
    have hxj : (⟨b, off, none⟩ : Addr).add j = ⟨b, off + j, none⟩ := by
      unfold Addr.add; split
      · rename_i e; subst e; rfl
      · rfl
    rw [hxj] at hc
    rw [hc, ← hu, List.getElem?_map, List.getElem?_take, if_pos hj, List.getElem?_eq_getElem (by omega), List.getD_eq_getElem?_getD, List.getElem?_eq_getElem (by omega)]
    rfl
theorem open_u64s {A : Option Addr} {len cap : Nat} {d : DataW H} {p : List MemPlace} (h : DataW.Trod enc Tryd.prog w 0 (fun _ => true) true 128 (.slice A len cap) d p) :
    ∃ us : List UInt64, us.length = len ∧ us.length ≤ maxLen ∧ Reads w w.heap.size A (us.map v64) := by
  obtain ⟨zs, hl, h1, h2, hr, hwf⟩ := open_nums Tryd.underlying128 Tryd.underlying33 (by kernel_rfl) h
  refine ⟨zs.map fun z => UInt64.ofNat z.toNat, by rw [List.length_map, hl], by rw [List.length_map, hl]; omega, ?_⟩
  have e : (zs.map fun z => UInt64.ofNat z.toNat).map v64 = zs.map (Value.int .u64) := by
    rw [List.map_map]
    refine List.map_congr_left fun z hz => ?_
    obtain ⟨h1, h2⟩ := bounds_u64 (hwf z hz)
    show Value.int .u64 (n64 _) = _
    congr 1
    unfold n64
    rw [UInt64.toNat_ofNat_of_lt' (by show _ < 18446744073709551616; omega)]
    omega
  rw [e]; exact hr
theorem open_i64s {A : Option Addr} {len cap : Nat} {d : DataW H} {p : List MemPlace} (h : DataW.Trod enc Tryd.prog w 0 (fun _ => true) true 89 (.slice A len cap) d p) :
    ∃ zs : List Int, zs.length = len ∧ zs.length ≤ maxLen ∧ Reads w w.heap.size A (zs.map (Value.int .i64)) ∧ ∀ z ∈ zs, -9223372036854775808 ≤ z ∧ z ≤ 9223372036854775807 := by
  obtain ⟨zs, hl, h1, h2, hr, hwf⟩ := open_nums Tryd.underlying89 Tryd.underlying3 (by kernel_rfl) h
  exact ⟨zs, hl, by omega, hr, fun z hz => bounds_i64 (hwf z hz)⟩
end
end Go.Proofs.YtfggbfnnibpohaaDoor
