/- Texts that stand behind one another: Within. No condition. -/
import Derived.Test.YtcdkadidkkbhpaaDoorS1
import Derived.Test.YtcdkadidkkbhpaaDoorChecked
import Derived.WalkKit
import Derived.Lib.Hide
/- The walk of deponentbook's Within. No condition. -/
namespace Go.Proofs.YtcdkadidkkbhpaaDoor
open Go.RowKit
def withinI (x lo hi : Int) : Int := if x.tmod (hi - lo + 1) < 0 then lo + (x.tmod (hi - lo + 1) + hi - lo + 1) else lo + x.tmod (hi - lo + 1)
theorem withinI_bounds (x lo hi : Int) (h1 : lo ≤ hi) : lo ≤ withinI x lo hi ∧ withinI x lo hi ≤ hi := by
  have b1 := Int.tmod_lt_of_pos x (show 0 < hi - lo + 1 by omega)
  have b2 := Int.lt_tmod_of_pos x (show 0 < hi - lo + 1 by omega)
  unfold withinI
  split <;> omega
end Go.Proofs.YtcdkadidkkbhpaaDoor
