/- MIX: an operation whose guard does not hold is skipped. No condition. -/
import Derived.Test.YtbhmmoecoijojaaDoorMix
namespace Go.Proofs.YtbhmmoecoijojaaDoor
open Go Go.RowKit
section
variable {P : Program} {S : World → Prop} {l : List Oper} {K : Act → World → Prop} {p q : Plan} {i j : Nat} {o o' : Oper} {a : Act} {w : World}
theorem mix_skip (ho : opAt l i = some o) (hw : Region.wanted o (yielded l.toArray a.tmps) = false) (h : mixW P l.toArray K p S (a.put o.dst undef) w) : mixW P l.toArray K (.plain i p) S a w := by
  refine mix_plain ho ?_
  unfold wpQuiet
  rw [if_neg (by simp [hw])]
  exact h
end
end Go.Proofs.YtbhmmoecoijojaaDoor
