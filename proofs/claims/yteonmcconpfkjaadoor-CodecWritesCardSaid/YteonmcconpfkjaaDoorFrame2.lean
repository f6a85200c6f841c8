/- What the frames of law2's statements share: the three listed tables. No condition. -/
import Derived.Test.YteonmcconpfkjaaDoorFrame
import Derived.Test.YteonmcconpfkjaaDoorQ12
import Derived.Lib.TrailingZeros
namespace Go.Proofs.YteonmcconpfkjaaDoor
open Go Go.ChangeShapes Go.WideShapes Go.ChangeAt Go.RowKit
def seatLaid2 : List (String × DataW Unit) := [("math/bits.deBruijn32tab", Rows.laid_math_bits_deBruijn32tab), ("math/bits.deBruijn64tab", Rows.laid_math_bits_deBruijn64tab), ("internal/strconv.uint64pow10", Rows.laid_internal_strconv_uint64pow10)]
theorem gPow : Tryd.prog.globalNamed "internal/strconv.uint64pow10" = some 2 := by kernel_rfl
theorem gPowT : (Tryd.prog.globals[2]?).map (·.type) = some 280 := by kernel_rfl
theorem cells20 : Tryd.prog.cellsOf 280 = 20 := by kernel_rfl
theorem cellsQ : Tryd.prog.cellsOf 41 = 1 := by kernel_rfl
theorem pz_of_laid {W : World} (h : laidMetH Tryd.prog seatLaid2 W) : Pz W :=
  Lib.tabIs_of_head gPow gPowT Tryd.underlying280 Tryd.underlying41 cellsQ cells20 (laidMet.tail (laidMet.tail h))
/-- A WORLD FOR THE WITNESS: the settled one, the three tables as their initialisers lay them. -/
noncomputable def laidWorld2 (os : Os) : World :=
  { World.holding Tryd.prog os ⟨#[], #[], []⟩ with
    heap := (((World.holding Tryd.prog os ⟨#[], #[], []⟩).heap.modify 3 fun
      | .cells _ t frozen => .cells (Lib.deBruijn32tab.map fun n => Value.int .u8 (Int.ofNat n)).toArray t frozen
      | o => o).modify 4 fun
      | .cells _ t frozen => .cells (Lib.deBruijn64tab.map fun n => Value.int .u8 (Int.ofNat n)).toArray t frozen
      | o => o).modify 2 fun
      | .cells _ t frozen => .cells (Lib.pow10Tab.map fun n => Value.int .u64 n).toArray t frozen
      | o => o }
end Go.Proofs.YteonmcconpfkjaaDoor
