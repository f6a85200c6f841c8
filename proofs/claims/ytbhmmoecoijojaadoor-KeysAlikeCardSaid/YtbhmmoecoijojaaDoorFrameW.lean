/- A slice of 32-bit words that came in. No condition. -/
import Derived.Test.YtbhmmoecoijojaaDoorFrame
import Derived.Test.YtbhmmoecoijojaaDoorWords
namespace Go.Proofs.YtbhmmoecoijojaaDoor
open Go Go.ChangeShapes Go.WideShapes Go.ChangeAt Go.RowKit
section
variable {H : Type} {enc : TypeId × Value → H} {w : World}
set_option maxRecDepth 100000 in
/-- a slice of 32-bit words that came in -/
theorem open_words {A : Option Addr} {len cap : Nat} {d : DataW H} {p : List MemPlace} (h : DataW.Trod enc Tryd.prog w 0 (fun _ => true) true 71 (.slice A len cap) d p)
    (hw : (d.weights Tryd.prog 71).all (· ≤ reachBytes) = true) :
    ∃ bs : List UInt32, bs.length = len ∧ WSl w w.heap.size (.slice A bs.length cap) bs ∧ cap ≤ 140737488351232 := by
  obtain ⟨fuel, hf⟩ := h
  rcases open_ints Tryd.underlying71 Tryd.underlying47 (by kernel_rfl) hf with ⟨hcs, _⟩ | ⟨x, l, c, zs, hcs, _, hl, hm, hz, hx, hcell, hwz⟩
  · simp [Value.cells] at hcs
    obtain ⟨rfl, rfl, rfl⟩ := hcs
    exact ⟨[], rfl, ⟨none, 0, rfl, by decide, by decide, Reads.nil_⟩, by decide⟩
  · simp [Value.cells] at hcs
    obtain ⟨rfl, rfl, rfl⟩ := hcs
    simp only [if_true] at hz
    simp only [Prod.mk.injEq] at hx
    obtain ⟨rfl, _⟩ := hx
    have hcap : cap ≤ 140737488351232 := by
      unfold DataW.weights at hw
      rw [Tryd.underlying71] at hw
      simp only [List.all_cons, Bool.and_eq_true] at hw
      have h1 := of_decide_eq_true hw.1
      rw [show Tryd.prog.bytesOf 47 = 4 by kernel_rfl] at h1
      simp only [lits, List.length_map, List.length_take, List.length_drop, reachBytes] at h1
      omega
    have hlen : ((zs.take len).map fun z => UInt32.ofNat z.toNat).length = len := by simp; omega
    refine ⟨(zs.take len).map fun z => UInt32.ofNat z.toNat, hlen, ⟨some x, cap, by rw [hlen], by rw [hlen]; exact hl, by omega, fun hpos => ?_⟩, hcap⟩
    have hlp : 0 < len := by rw [List.length_map, hlen] at hpos; exact hpos
    have h0 := hcell 0 (by omega)
    have hspot : (x.add 0).spot = none := World.cell?_spot h0
    have hx0 : x.add 0 = x := by simp [Addr.add]
    rw [hx0] at hspot h0
    obtain ⟨b, off, spot⟩ := x
    simp only at hspot
    subst hspot
    refine ⟨b, off, rfl, block_lt_of_cell (a := ⟨b, off, none⟩) h0, fun j u hu => ?_⟩
    have hj : j < len := by
      have := (List.getElem?_eq_some_iff.1 hu).1
      rw [List.length_map, hlen] at this; exact this
    have hc := hcell j (by omega)
    have hxj : (⟨b, off, none⟩ : Addr).add j = ⟨b, off + j, none⟩ := by
      unfold Addr.add; split
      · rename_i e; subst e; rfl
      · rfl
    rw [hxj] at hc
    rw [hc]
    have hb := range_u32 hwz j
    rw [← hu, List.getElem?_map, List.getElem?_map, List.getElem?_take, if_pos hj, List.getElem?_eq_getElem (by omega)]
    have hget : zs.getD j 0 = zs[j]'(by omega) := by rw [List.getD_eq_getElem?_getD, List.getElem?_eq_getElem (by omega)]; rfl
    have hb2 : 0 ≤ zs[j]'(by omega) ∧ zs[j]'(by omega) ≤ 4294967295 := by
      rw [List.getElem?_eq_getElem (by omega)] at hb; exact hb
    rw [hget]
    simp only [Option.map_some, v32]
    congr 2
    unfold n32
    rw [UInt32.toNat_ofNat_of_lt' (by show _ < 4294967296; omega)]
    omega
end
end Go.Proofs.YtbhmmoecoijojaaDoor
