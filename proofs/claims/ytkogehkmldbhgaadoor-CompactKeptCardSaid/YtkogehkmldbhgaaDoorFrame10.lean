/- What the frames of law10's statements share: the three listed tables. No condition. -/
import Derived.Test.YtkogehkmldbhgaaDoorFrame
import Derived.Test.YtkogehkmldbhgaaDoorP7
namespace Go.Proofs.YtkogehkmldbhgaaDoor
open Go Go.ChangeShapes Go.WideShapes Go.ChangeAt Go.RowKit
def seatLaidC : List (String × DataW Unit) := [("math/bits.deBruijn64tab", Rows.laid_math_bits_deBruijn64tab), ("deponent/sha.start", Rows.laid_deponent_sha_start), ("deponent/sha.words", Rows.laid_deponent_sha_words)]
theorem gTab : Tryd.prog.globalNamed "math/bits.deBruijn64tab" = some 0 := by kernel_rfl
theorem gTabT : (Tryd.prog.globals[0]?).map (·.type) = some 87 := by kernel_rfl
theorem cells64b : Tryd.prog.cellsOf 87 = 64 := by kernel_rfl
theorem cellsB : Tryd.prog.cellsOf 5 = 1 := by kernel_rfl
theorem glob_of_laidC {W : World} (h : laidMetH Tryd.prog seatLaidC W) : Glob W ∧ Tz W := by
  have h1 : Lib.TabIs Tryd.prog W "math/bits.deBruijn64tab" .u8 (Lib.deBruijn64tab.map Int.ofNat) := Lib.tabIs_of_head gTab gTabT Tryd.underlying87 Tryd.underlying5 cellsB cells64b h
  have c1 : TabAt 0 Lib.deBruijn64tab W := fun j hj => by
    rw [h1.cell gTab j (by rw [List.length_map]; exact hj)]
    rw [List.getD_eq_getElem?_getD, List.getElem?_map, List.getD_eq_getElem?_getD, List.getElem?_eq_getElem hj]
    rfl
  exact ⟨glob_of_laid (laidMet.tail h), c1, block_lt_of_cell (a := ⟨_, 0, none⟩) (c1 0 (by decide))⟩
/-- A WORLD FOR THE WITNESS: the settled one, the three tables as their initialisers lay them. -/
noncomputable def laidWorldC (os : Os) : World :=
  { World.holding Tryd.prog os ⟨#[], #[], []⟩ with
    heap := (((World.holding Tryd.prog os ⟨#[], #[], []⟩).heap.modify 0 fun
      | .cells _ t frozen => .cells (Lib.deBruijn64tab.map fun n => Value.int .u8 (Int.ofNat n)).toArray t frozen
      | o => o).modify 1 fun
      | .cells _ t frozen => .cells (H0.list.map v32).toArray t frozen
      | o => o).modify 2 fun
      | .cells _ t frozen => .cells (K0.map v32).toArray t frozen
      | o => o }
end Go.Proofs.YtkogehkmldbhgaaDoor
