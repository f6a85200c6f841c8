/- What the frames of all laws share: the listed tables, a slice of bytes that came in. No condition. -/
import Derived.Test.YtcdkadidkkbhpaaDoorCards
import Derived.Test.YtcdkadidkkbhpaaDoorTie
import Derived.Test.YtcdkadidkkbhpaaDoorS5
import Derived.WalkKit
import Derived.ProofKit
import Derived.OpenShut
import Derived.Deep.DeepHandedRow
import Derived.Lib.LaidTab
import Derived.Stop.LaidErr
namespace Go.Proofs.YtcdkadidkkbhpaaDoor
open Go Go.ChangeShapes Go.WideShapes Go.ChangeAt Go.RowKit
theorem own : ownKnob Tryd.prog.godebug = none := by kernel_rfl
theorem laidOut : laidOutB Tryd.prog = true := by kernel_rfl
def seatLaid : List (String × DataW Unit) := [("deponent/sha.start", Rows.laid_deponent_sha_start), ("deponent/sha.words", Rows.laid_deponent_sha_words)]
theorem gStart : Tryd.prog.globalNamed "deponent/sha.start" = some 0 := by kernel_rfl
theorem gWords : Tryd.prog.globalNamed "deponent/sha.words" = some 1 := by kernel_rfl
theorem gStartT : (Tryd.prog.globals[0]?).map (·.type) = some 124 := by kernel_rfl
theorem gWordsT : (Tryd.prog.globals[1]?).map (·.type) = some 123 := by kernel_rfl
theorem cells8 : Tryd.prog.cellsOf 124 = 8 := by kernel_rfl
theorem cells64 : Tryd.prog.cellsOf 123 = 64 := by kernel_rfl
theorem cellsW : Tryd.prog.cellsOf 22 = 1 := by kernel_rfl
theorem glob_of_laid {W : World} (h : laidMetH Tryd.prog seatLaid W) : Glob W := by
  have h1 : Lib.TabIs Tryd.prog W "deponent/sha.start" .u32 (H0.list.map n32) := Lib.tabIs_of_head gStart gStartT Tryd.underlying124 Tryd.underlying22 cellsW cells8 h
  have h2 : Lib.TabIs Tryd.prog W "deponent/sha.words" .u32 (K0.map n32) := Lib.tabIs_of_head gWords gWordsT Tryd.underlying123 Tryd.underlying22 cellsW cells64 (laidMet.tail h)
  have c1 : ∀ j, j < 8 → W.cell? ⟨0, j, none⟩ = some (.int .u32 (n32 (H0.list.getD j 0))) := fun j hj => by
    rw [h1.cell gStart j (by rw [List.length_map, show H0.list.length = 8 from rfl]; exact hj)]
    have : j < H0.list.length := by rw [show H0.list.length = 8 from rfl]; exact hj
    simp [List.getD_eq_getElem?_getD, this]
  have c2 : ∀ j, j < 64 → W.cell? ⟨1, j, none⟩ = some (.int .u32 (n32 (K0.getD j 0))) := fun j hj => by
    rw [h2.cell gWords j (by rw [List.length_map, show K0.length = 64 from rfl]; exact hj)]
    have : j < K0.length := by rw [show K0.length = 64 from rfl]; exact hj
    simp [List.getD_eq_getElem?_getD, this]
  exact ⟨c1, c2, block_lt_of_cell (a := ⟨_, 0, none⟩) (c1 0 (by decide)), block_lt_of_cell (a := ⟨_, 0, none⟩) (c2 0 (by decide))⟩
/-- A WORLD FOR THE WITNESS: the settled one, the two tables as their initialisers lay them. -/
noncomputable def laidWorld (os : Os) : World :=
  { World.holding Tryd.prog os ⟨#[], #[], []⟩ with
    heap := ((World.holding Tryd.prog os ⟨#[], #[], []⟩).heap.modify 0 fun
      | .cells _ t frozen => .cells (H0.list.map v32).toArray t frozen
      | o => o).modify 1 fun
      | .cells _ t frozen => .cells (K0.map v32).toArray t frozen
      | o => o }
theorem u32_of {n : Int} (h : (Lit.int .u32 n).wf = true) : ∃ u : UInt32, n = n32 u := by
  obtain ⟨h1, h2⟩ := bounds_u32 h
  refine ⟨UInt32.ofNat n.toNat, ?_⟩
  unfold n32
  rw [UInt32.toNat_ofNat_of_lt' (by show _ < 4294967296; omega)]
  omega
theorem u64_of {n : Int} (h : (Lit.int .u64 n).wf = true) : ∃ u : UInt64, n = n64 u := by
  obtain ⟨h1, h2⟩ := bounds_u64 h
  refine ⟨UInt64.ofNat n.toNat, ?_⟩
  unfold n64
  rw [UInt64.toNat_ofNat_of_lt' (by show _ < 18446744073709551616; omega)]
  omega
theorem u8_of {n : Int} (h : (Lit.int .u8 n).wf = true) : ∃ u : UInt8, n = n8 u := by
  obtain ⟨h1, h2⟩ := bounds_u8 h
  refine ⟨UInt8.ofNat n.toNat, ?_⟩
  unfold n8
  rw [UInt8.toNat_ofNat_of_lt' (by show _ < 256; omega)]
  omega
section
variable {H : Type} {enc : TypeId × Value → H} {w : World}
theorem weights_at0 {P : Program} {t0 : TypeId} {ts : List TypeId} {d0 : DataW H} {ds : List (DataW H)} (h : (DataW.weightsEach P (t0 :: ts) (d0 :: ds)).all (· ≤ reachBytes) = true) :
    (d0.weights P t0).all (· ≤ reachBytes) = true ∧ (DataW.weightsEach P ts ds).all (· ≤ reachBytes) = true := by
  unfold DataW.weightsEach at h
  rw [List.all_append, Bool.and_eq_true] at h
  exact h
set_option maxRecDepth 100000 in
/-- a slice of bytes that came in -/
theorem open_bytes {A : Option Addr} {len cap : Nat} {d : DataW H} {p : List MemPlace} (h : DataW.Trod enc Tryd.prog w 0 (fun _ => true) true 23 (.slice A len cap) d p)
    (hw : (d.weights Tryd.prog 23).all (· ≤ reachBytes) = true) :
    ∃ bs : List UInt8, bs.length = len ∧ BSl w w.heap.size (.slice A bs.length cap) bs ∧ cap ≤ 140737488351232 := by
  obtain ⟨fuel, hf⟩ := h
  rcases open_ints Tryd.underlying23 Tryd.underlying5 (by kernel_rfl) hf with ⟨hcs, _⟩ | ⟨x, l, c, zs, hcs, _, hl, hm, hz, hx, hcell, hwz⟩
  · simp [Value.cells] at hcs
    obtain ⟨rfl, rfl, rfl⟩ := hcs
    exact ⟨[], rfl, BSl.nil_, by decide⟩
  · simp [Value.cells] at hcs
    obtain ⟨rfl, rfl, rfl⟩ := hcs
    simp only [if_true] at hz
    simp only [Prod.mk.injEq] at hx
    obtain ⟨rfl, _⟩ := hx
    have hcap : cap ≤ 140737488351232 := by
      unfold DataW.weights at hw
      rw [Tryd.underlying23] at hw
      simp only [List.all_cons, Bool.and_eq_true] at hw
      have h1 := of_decide_eq_true hw.1
      rw [show Tryd.prog.bytesOf 5 = 1 by kernel_rfl] at h1
      simp only [lits, List.length_map, List.length_take, List.length_drop, Nat.mul_one, reachBytes] at h1
      omega
    have hlen : ((zs.take len).map fun z => UInt8.ofNat z.toNat).length = len := by simp; omega
    refine ⟨(zs.take len).map fun z => UInt8.ofNat z.toNat, hlen, ⟨some x, cap, by rw [hlen], by rw [hlen]; exact hl, by omega, fun hpos => ?_⟩, hcap⟩
    have hlp : 0 < len := by rw [List.length_map, hlen] at hpos; exact hpos
    have h0 := hcell 0 (by omega)
    have hspot : (x.add 0).spot = none := World.cell?_spot h0
    have hx0 : x.add 0 = x := by simp [Addr.add]
    rw [hx0] at hspot h0
    obtain ⟨b, off, spot⟩ := x
    simp only at hspot
    subst hspot
    refine ⟨b, off, rfl, block_lt_of_cell (a := ⟨b, off, none⟩) h0, fun j u hu => ?_⟩
    have hj : j < len := by
      have := (List.getElem?_eq_some_iff.1 hu).1
      rw [List.length_map, hlen] at this; exact this
    have hc := hcell j (by omega)
    have hxj : (⟨b, off, none⟩ : Addr).add j = ⟨b, off + j, none⟩ := by
      unfold Addr.add; split
      · rename_i e; subst e; rfl
      · rfl
    rw [hxj] at hc
    rw [hc]
    have hb := range_u8 hwz j
    rw [← hu, List.getElem?_map, List.getElem?_map, List.getElem?_take, if_pos hj, List.getElem?_eq_getElem (by omega)]
    have hget : zs.getD j 0 = zs[j]'(by omega) := by rw [List.getD_eq_getElem?_getD, List.getElem?_eq_getElem (by omega)]; rfl
    have hb2 : 0 ≤ zs[j]'(by omega) ∧ zs[j]'(by omega) ≤ 255 := by
      rw [List.getElem?_eq_getElem (by omega)] at hb; exact hb
    rw [hget]
    simp only [Option.map_some, v8]
    congr 2
    unfold n8
    rw [UInt8.toNat_ofNat_of_lt' (by show _ < 256; omega)]
    omega
end
end Go.Proofs.YtcdkadidkkbhpaaDoor
