/- Texts that stand behind one another: Within. No condition. -/
import Derived.Test.YtcgbokgedfekkaaDoorU1
import Derived.Test.YtcgbokgedfekkaaDoorChecked
import Derived.WalkKit
import Derived.Lib.Hide
/- The walk of deponentbook's Within. No condition. -/
namespace Go.Proofs.YtcgbokgedfekkaaDoor
open Go.RowKit
def withinI (x lo hi : Int) : Int := if x.tmod (hi - lo + 1) < 0 then lo + (x.tmod (hi - lo + 1) + hi - lo + 1) else lo + x.tmod (hi - lo + 1)
theorem withinI_bounds (x lo hi : Int) (h1 : lo ≤ hi) : lo ≤ withinI x lo hi ∧ withinI x lo hi ≤ hi := by
  have b1 := Int.tmod_lt_of_pos x (show 0 < hi - lo + 1 by omega)
  have b2 := Int.lt_tmod_of_pos x (show 0 < hi - lo + 1 by omega)
  unfold withinI
  split <;> omega
theorem within_any (x lo hi : Int) (w : World) (h0 : 0 ≤ lo) (h1 : lo ≤ hi) (h2 : hi < 4611686018427387904) (_hx : -9223372036854775808 ≤ x) (_hx2 : x ≤ 9223372036854775807) :
    Calls Tryd.prog 9 #[.int .i64 x, .int .i64 lo, .int .i64 hi] w fun e w' => e = .returned (.int .i64 (withinI x lo hi)) ∧ w = w' := by
  have b1 := Int.tmod_lt_of_pos x (show 0 < hi - lo + 1 by omega)
  have b2 := Int.lt_tmod_of_pos x (show 0 < hi - lo + 1 by omega)
  by_cases hm : x.tmod (hi - lo + 1) < 0
  · have e : withinI x lo hi = lo + (x.tmod (hi - lo + 1) + hi - lo + 1) := if_pos hm
    have He := Lib.hid e
    clear e
    go_enter Tryd.func9, Tryd.ntmps9
    go_wp2
    go_ret
    rw [He.out]
    exact ⟨rfl, rfl⟩
  · have e : withinI x lo hi = lo + x.tmod (hi - lo + 1) := if_neg hm
    have He := Lib.hid e
    clear e
    go_enter Tryd.func9, Tryd.ntmps9
    go_wp2
    go_ret
    rw [He.out]
    exact ⟨rfl, rfl⟩
end Go.Proofs.YtcgbokgedfekkaaDoor
