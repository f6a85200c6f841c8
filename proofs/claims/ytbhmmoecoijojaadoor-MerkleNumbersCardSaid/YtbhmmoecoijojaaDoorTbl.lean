/- The reference's table stays in later worlds. No condition. -/
import Derived.Test.YtbhmmoecoijojaaDoorRefD
namespace Go.Proofs.YtbhmmoecoijojaaDoor
open Go.RowKit
theorem Tbl.nxt {w w' : World} {t : Value} (h : Tbl w w.heap.size t) (hb : Below w.heap.size w w') : Tbl w' w'.heap.size t := by
  obtain ⟨g, rfl, hg, hT⟩ := h; exact ⟨g, rfl, Nat.lt_of_lt_of_le hg hb.size, hT.below hb hg⟩
end Go.Proofs.YtbhmmoecoijojaaDoor
