/- The walk of the law VerifyTurned. No condition. -/
import Derived.Test.YteonmcconpfkjaaDoorLawVerifyTurnedW0
import Derived.Test.YteonmcconpfkjaaDoorLawVerifyTurnedW1
import Derived.Test.YteonmcconpfkjaaDoorLawVerifyTurnedW2
import Derived.Test.YteonmcconpfkjaaDoorLawVerifyTurnedW3
import Derived.Test.YteonmcconpfkjaaDoorLawVerifyTurnedW4
namespace Go.Proofs.YteonmcconpfkjaaDoor
open Go Go.RowKit
theorem verifyTurned_walk (w : World) (hG : Glob w) (x0 : Int) (_hx0 : -9223372036854775808 ≤ x0 ∧ x0 ≤ 9223372036854775807) (n0 : Int) (hn0 : -9223372036854775808 ≤ n0 ∧ n0 ≤ 9223372036854775807) (ix fr : UInt64) (a0 : Int) (ha0 : -9223372036854775808 ≤ a0 ∧ a0 ≤ 9223372036854775807) (b0 : Int) (hb0 : -9223372036854775808 ≤ b0 ∧ b0 ≤ 9223372036854775807) (c0 : Int) (hc0 : -9223372036854775808 ≤ c0 ∧ c0 ≤ 9223372036854775807) :
    Calls Tryd.prog 6 #[.int .i64 x0, .int .i64 n0, .int .u64 (n64 ix), .int .u64 (n64 fr), .int .i64 a0, .int .i64 b0, .int .i64 c0] w fun e w' => e = .returned (.bool true) ∧ Below w.heap.size w w' := by
  have hwb := withinI_bounds c0 0 4 (by decide)
  have hc5 : withinI c0 0 4 = 0 ∨ withinI c0 0 4 = 1 ∨ withinI c0 0 4 = 2 ∨ withinI c0 0 4 = 3 ∨ withinI c0 0 4 = 4 := by omega
  rcases hc5 with hc | hc | hc | hc | hc
  · exact verifyTurned_walk0 w hG x0 _hx0 n0 hn0 ix fr a0 ha0 b0 hb0 c0 hc0 hc
  · exact verifyTurned_walk1 w hG x0 _hx0 n0 hn0 ix fr a0 ha0 b0 hb0 c0 hc0 hc
  · exact verifyTurned_walk2 w hG x0 _hx0 n0 hn0 ix fr a0 ha0 b0 hb0 c0 hc0 hc
  · exact verifyTurned_walk3 w hG x0 _hx0 n0 hn0 ix fr a0 ha0 b0 hb0 c0 hc0 hc
  · exact verifyTurned_walk4 w hG x0 _hx0 n0 hn0 ix fr a0 ha0 b0 hb0 c0 hc0 hc
end Go.Proofs.YteonmcconpfkjaaDoor
