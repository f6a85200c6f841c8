/- A list of texts that came in. No condition. -/
import Derived.Test.YtkogehkmldbhgaaDoorFrame
import Derived.Deep.Matrix
namespace Go.Proofs.YtkogehkmldbhgaaDoor
open Go Go.ChangeShapes Go.WideShapes Go.ChangeAt Go.RowKit
section
variable {H : Type} {enc : TypeId × Value → H} {w : World}
def bytesZ (zs : List Int) : List UInt8 := zs.map fun z => UInt8.ofNat z.toNat
theorem addr_add {x : Addr} (h : x.spot = none) (j : Nat) : x.add j = ⟨x.block, x.off + j, none⟩ := by
  obtain ⟨b, off, spot⟩ := x
  simp only at h
  subst h
  unfold Addr.add; split
  · rename_i e; subst e; rfl
  · rfl
theorem bsl_ints {A : Option Addr} {L C : Nat} {zs : List Int} (hl : L ≤ C) (hC : C ≤ maxLen) (hz : zs.length = C) (hwz : ∀ n ∈ zs, (Lit.int .u8 n).wf = true) (h0 : A = none → C = 0)
    (hc : ∀ a', A = some a' → ∀ c, c < C → w.cell? (a'.add c) = some (.int .u8 (zs.getD c 0))) : BSl w w.heap.size (.slice A L C) (bytesZ (zs.take L)) := by
  have hlen : (bytesZ (zs.take L)).length = L := by simp [bytesZ]; omega
  refine ⟨A, C, by rw [hlen], by rw [hlen]; exact hl, by unfold maxLen at hC; omega, fun hpos => ?_⟩
  have hlp : 0 < L := by rw [List.length_map, hlen] at hpos; exact hpos
  cases A with
  | none => have := h0 rfl; omega
  | some x =>
    have h1 := hc x rfl 0 (by omega)
    have hspot : (x.add 0).spot = none := World.cell?_spot h1
    have hx0 : x.add 0 = x := by simp [Addr.add]
    rw [hx0] at hspot h1
    refine ⟨x.block, x.off, ?_, block_lt_of_cell h1, fun j u hu => ?_⟩
    · obtain ⟨b, off, spot⟩ := x
      simp only at hspot
      subst hspot; rfl
    · have hj : j < L := by
        have := (List.getElem?_eq_some_iff.1 hu).1
        rw [List.length_map, hlen] at this; exact this
      have hcj := hc x rfl j (by omega)
      rw [addr_add hspot] at hcj
      rw [hcj]
      have hb := range_u8 hwz j
      unfold bytesZ at hu
      rw [← hu, List.getElem?_map, List.getElem?_map, List.getElem?_take, if_pos hj, List.getElem?_eq_getElem (by omega)]
      have hget : zs.getD j 0 = zs[j]'(by omega) := by rw [List.getD_eq_getElem?_getD, List.getElem?_eq_getElem (by omega)]; rfl
      have hb2 : 0 ≤ zs[j]'(by omega) ∧ zs[j]'(by omega) ≤ 255 := by
        rw [List.getElem?_eq_getElem (by omega)] at hb; exact hb
      rw [hget]
      simp only [Option.map_some, v8]
      congr 2
      unfold n8
      rw [UInt8.toNat_ofNat_of_lt' (by show _ < 256; omega)]
      omega
set_option maxRecDepth 100000 in
/-- a slice of slices of bytes that came in -/
theorem open_texts {A : Option Addr} {len cap : Nat} {d : DataW H} {p : List MemPlace} (h : DataW.Trod enc Tryd.prog w 0 (fun _ => true) true 27 (.slice A len cap) d p) :
    ∃ ls : List (List UInt8), SSl w w.heap.size (.slice A len cap) ls := by
  obtain ⟨fuel, hf⟩ := h
  rcases Deep.open_int_rows Tryd.underlying27 Tryd.underlying62 Tryd.underlying5 (by kernel_rfl) (by kernel_rfl) hf with ⟨hcs, _⟩ | ⟨a, l, c, Af, Lf, Cf, Z, hcs, _, hl, hm, _, hcell⟩
  · simp [Value.cells] at hcs
    obtain ⟨rfl, rfl, rfl⟩ := hcs
    exact ⟨[], none, 0, [], rfl, Nat.le_refl _, by decide, Reads.nil_, rfl, fun _ h => absurd h (by simp)⟩
  · simp [Value.cells] at hcs
    obtain ⟨rfl, rfl, rfl⟩ := hcs
    refine ⟨(List.range len).map fun r => bytesZ ((Z r).take (Lf r)), some a, cap, (List.range len).map fun r => .slice (Af r) (Lf r) (Cf r), by simp, by simpa using hl, by unfold maxLen at hm; omega, fun hpos => ?_, by simp, fun i hi => ?_⟩
    · have hlp : 0 < len := by simpa using hpos
      have h1 := (hcell 0 (by omega)).1
      have hspot : (a.add 0).spot = none := World.cell?_spot h1
      have hx0 : a.add 0 = a := by simp [Addr.add]
      rw [hx0] at hspot h1
      refine ⟨a.block, a.off, ?_, block_lt_of_cell h1, fun j u hu => ?_⟩
      · obtain ⟨b, off, spot⟩ := a
        simp only at hspot
        subst hspot; rfl
      · have hj : j < len := by
          have := (List.getElem?_eq_some_iff.1 hu).1
          simpa using this
        have hcj := (hcell j (by omega)).1
        rw [addr_add hspot] at hcj
        rw [hcj, ← hu, List.getElem?_map, List.getElem?_range hj]; rfl
    · have hi' : i < len := by simpa using hi
      obtain ⟨e1, r1, r2, r3, r4, r5, r6⟩ := hcell i (by omega)
      rw [List.getD_eq_getElem?_getD, List.getD_eq_getElem?_getD, List.getElem?_map, List.getElem?_map, List.getElem?_range hi']
      exact bsl_ints r1 r2 r3 r4 r5 (fun a' ha c hc => (r6 a' ha).2 c hc)
end
end Go.Proofs.YtkogehkmldbhgaaDoor
