/- Slices of 32-bit words. No condition. -/
import Derived.Test.YtbhmmoecoijojaaDoorLaws
namespace Go.Proofs.YtbhmmoecoijojaaDoor
open Go.RowKit
/-- v is a slice of 32-bit words that reads ds -/
def WSl (w : World) (B : Nat) (v : Value) (ds : List UInt32) : Prop :=
  ∃ A cap, v = .slice A ds.length cap ∧ ds.length ≤ cap ∧ cap ≤ 9223372036854775807 ∧ Reads w B A (ds.map v32)
theorem WSl.next {w w' : World} {v : Value} {ds : List UInt32} (h : WSl w w.heap.size v ds) (hb : Below w.heap.size w w') : WSl w' w'.heap.size v ds := by
  obtain ⟨A, cap, h1, h2, h3, h4⟩ := h
  exact ⟨A, cap, h1, h2, h3, (h4.below hb).more hb.size⟩
end Go.Proofs.YtbhmmoecoijojaaDoor
