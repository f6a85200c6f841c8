/- What the frames of law13's statements share: the three listed tables and errors.errorType. No condition. -/
import Derived.Test.YtfggbfnnibpohaaDoorCards
import Derived.Test.YtfggbfnnibpohaaDoorTie
import Derived.Test.YtfggbfnnibpohaaDoorQ10
import Derived.WalkKit
import Derived.ProofKit
import Derived.OpenShut
import Derived.Deep.DeepHandedRow
import Derived.Lib.LaidTab
import Derived.Lib.TrailingZeros
import Derived.LaidHandle
import Derived.Stop.LaidErr
namespace Go.Proofs.YtfggbfnnibpohaaDoor
open Go Go.ChangeShapes Go.WideShapes Go.ChangeAt Go.RowKit
theorem own : ownKnob Tryd.prog.godebug = none := by kernel_rfl
theorem laidOut : laidOutB Tryd.prog = true := by kernel_rfl
def seatLaid13 : List (String × DataW Unit) := [("math/bits.deBruijn32tab", Rows.laid_math_bits_deBruijn32tab), ("math/bits.deBruijn64tab", Rows.laid_math_bits_deBruijn64tab), ("internal/strconv.uint64pow10", Rows.laid_internal_strconv_uint64pow10), ("errors.errorType", Rows.laid_errors_errorType)]
theorem gPow : Tryd.prog.globalNamed "internal/strconv.uint64pow10" = some 3 := by kernel_rfl
theorem gPowT : (Tryd.prog.globals[3]?).map (·.type) = some 272 := by kernel_rfl
theorem cells20 : Tryd.prog.cellsOf 272 = 20 := by kernel_rfl
theorem cellsQ : Tryd.prog.cellsOf 33 = 1 := by kernel_rfl
theorem gEt : Tryd.prog.globalNamed "errors.errorType" = some 1 := by kernel_rfl
theorem gRt : (Tryd.prog.cutTypes.find? (·.1 == "internal/reflectlite.rtype")).map (·.2) = some 230 := by kernel_rfl
theorem gRow : ((List.range 302).filter fun t => Tryd.prog.rowNamed t [101, 114, 114, 111, 114]) = [93] := by kernel_rfl
theorem gSize : Tryd.prog.types.size = 302 := by kernel_rfl
theorem pz_of_laid {W : World} (h : laidMetH Tryd.prog seatLaid13 W) : Pz W ∧ Ety W := by
  have h' : laidMet Tryd.prog [("math/bits.deBruijn32tab", Rows.laid_math_bits_deBruijn32tab), ("math/bits.deBruijn64tab", Rows.laid_math_bits_deBruijn64tab), ("internal/strconv.uint64pow10", Rows.laid_internal_strconv_uint64pow10)] W ∧ handlesMet Tryd.prog [("errors.errorType", Rows.laid_errors_errorType)] W := h
  refine ⟨Lib.tabIs_of_head gPow gPowT Tryd.underlying272 Tryd.underlying33 cellsQ cells20 (laidMet.tail (laidMet.tail h'.1)), ?_⟩
  obtain ⟨name, u, ty, e1, e2, e3, e4, e5⟩ := h'.2 _ (List.mem_singleton.2 rfl)
  have en : name = [101, 114, 114, 111, 114] := (Option.some.inj e1).symm
  subst en
  obtain rfl := Option.some.inj (gRt.symm.trans e2)
  have hm : ty ∈ (List.range 302).filter fun t => Tryd.prog.rowNamed t [101, 114, 114, 111, 114] := List.mem_filter.2 ⟨List.mem_range.2 (by rw [← gSize]; exact e3), e4⟩
  rw [gRow] at hm
  obtain rfl := List.mem_singleton.1 hm
  have hh : typeHandle Tryd.prog 93 = .pointer (some ⟨6, 93, none⟩) := by kernel_rfl
  rw [hh] at e5
  have := World.var?_cell gEt e5 0
  unfold Ety
  simpa using this
/-- A WORLD FOR THE WITNESS: the settled one, the three tables and the variable as their initialisers lay them. -/
noncomputable def laidWorld13 (os : Os) : World :=
  { World.holding Tryd.prog os ⟨#[], #[], []⟩ with
    heap := ((((World.holding Tryd.prog os ⟨#[], #[], []⟩).heap.modify 4 fun
      | .cells _ t frozen => .cells (Lib.deBruijn32tab.map fun n => Value.int .u8 (Int.ofNat n)).toArray t frozen
      | o => o).modify 5 fun
      | .cells _ t frozen => .cells (Lib.deBruijn64tab.map fun n => Value.int .u8 (Int.ofNat n)).toArray t frozen
      | o => o).modify 3 fun
      | .cells _ t frozen => .cells (Lib.pow10Tab.map fun n => Value.int .u64 n).toArray t frozen
      | o => o).modify 1 fun
      | .cells _ t frozen => .cells #[.iface 230 (.agg #[.pointer (some ⟨6, 93, none⟩)])] t frozen
      | o => o }
section
variable {H : Type} {enc : TypeId × Value → H} {w : World}
theorem weights_at0 {P : Program} {t0 : TypeId} {ts : List TypeId} {d0 : DataW H} {ds : List (DataW H)} (h : (DataW.weightsEach P (t0 :: ts) (d0 :: ds)).all (· ≤ reachBytes) = true) :
    (d0.weights P t0).all (· ≤ reachBytes) = true ∧ (DataW.weightsEach P ts ds).all (· ≤ reachBytes) = true := by
  unfold DataW.weightsEach at h
  rw [List.all_append, Bool.and_eq_true] at h
  exact h
end
end Go.Proofs.YtfggbfnnibpohaaDoor
