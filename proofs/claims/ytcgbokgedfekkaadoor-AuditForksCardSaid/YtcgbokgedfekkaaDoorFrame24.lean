/- What the frames of law24's statements share: the five listed tables. No condition. -/
import Derived.Test.YtcgbokgedfekkaaDoorFrame
import Derived.Test.YtcgbokgedfekkaaDoorU20
import Derived.Lib.TrailingZeros
namespace Go.Proofs.YtcgbokgedfekkaaDoor
open Go Go.ChangeShapes Go.WideShapes Go.ChangeAt Go.RowKit
def seatLaid24 : List (String × DataW Unit) := [("math/bits.deBruijn32tab", Rows.laid_math_bits_deBruijn32tab), ("math/bits.deBruijn64tab", Rows.laid_math_bits_deBruijn64tab), ("deponent/sha.start", Rows.laid_deponent_sha_start), ("deponent/sha.words", Rows.laid_deponent_sha_words), ("internal/strconv.uint64pow10", Rows.laid_internal_strconv_uint64pow10)]
theorem gPow : Tryd.prog.globalNamed "internal/strconv.uint64pow10" = some 2 := by kernel_rfl
theorem gPowT : (Tryd.prog.globals[2]?).map (·.type) = some 237 := by kernel_rfl
theorem cells20 : Tryd.prog.cellsOf 237 = 20 := by kernel_rfl
theorem cellsQ : Tryd.prog.cellsOf 32 = 1 := by kernel_rfl
theorem laid24 {W : World} (h0 : laidMetH Tryd.prog seatLaid24 W) : Glob W ∧ Pz W := by
  have h0' : laidMet Tryd.prog seatLaid24 W := h0
  have h := laidMet.tail (laidMet.tail h0')
  have h1 : Lib.TabIs Tryd.prog W "deponent/sha.start" .u32 (H0.list.map n32) := Lib.tabIs_of_head gStart gStartT Tryd.underlying172 Tryd.underlying51 cellsW cells8 h
  have h2 : Lib.TabIs Tryd.prog W "deponent/sha.words" .u32 (K0.map n32) := Lib.tabIs_of_head gWords gWordsT Tryd.underlying171 Tryd.underlying51 cellsW cells64 (laidMet.tail h)
  have c1 : ∀ j, j < 8 → W.cell? ⟨0, j, none⟩ = some (.int .u32 (n32 (H0.list.getD j 0))) := fun j hj => by
    rw [h1.cell gStart j (by rw [List.length_map, show H0.list.length = 8 from rfl]; exact hj)]
    have : j < H0.list.length := by rw [show H0.list.length = 8 from rfl]; exact hj
    simp [List.getD_eq_getElem?_getD, this]
  have c2 : ∀ j, j < 64 → W.cell? ⟨1, j, none⟩ = some (.int .u32 (n32 (K0.getD j 0))) := fun j hj => by
    rw [h2.cell gWords j (by rw [List.length_map, show K0.length = 64 from rfl]; exact hj)]
    have : j < K0.length := by rw [show K0.length = 64 from rfl]; exact hj
    simp [List.getD_eq_getElem?_getD, this]
  exact ⟨⟨c1, c2, block_lt_of_cell (a := ⟨_, 0, none⟩) (c1 0 (by decide)), block_lt_of_cell (a := ⟨_, 0, none⟩) (c2 0 (by decide))⟩,
    Lib.tabIs_of_head gPow gPowT Tryd.underlying237 Tryd.underlying32 cellsQ cells20 (laidMet.tail (laidMet.tail h))⟩
/-- A WORLD FOR THE WITNESS: the settled one, the five tables as their initialisers lay them. -/
noncomputable def laidWorld24 (os : Os) : World :=
  { World.holding Tryd.prog os ⟨#[], #[], []⟩ with
    heap := (((((World.holding Tryd.prog os ⟨#[], #[], []⟩).heap.modify 3 fun
      | .cells _ t frozen => .cells (Lib.deBruijn32tab.map fun n => Value.int .u8 (Int.ofNat n)).toArray t frozen
      | o => o).modify 4 fun
      | .cells _ t frozen => .cells (Lib.deBruijn64tab.map fun n => Value.int .u8 (Int.ofNat n)).toArray t frozen
      | o => o).modify 0 fun
      | .cells _ t frozen => .cells (H0.list.map v32).toArray t frozen
      | o => o).modify 1 fun
      | .cells _ t frozen => .cells (K0.map v32).toArray t frozen
      | o => o).modify 2 fun
      | .cells _ t frozen => .cells (Lib.pow10Tab.map fun n => Value.int .u64 n).toArray t frozen
      | o => o }
end Go.Proofs.YtcgbokgedfekkaaDoor
