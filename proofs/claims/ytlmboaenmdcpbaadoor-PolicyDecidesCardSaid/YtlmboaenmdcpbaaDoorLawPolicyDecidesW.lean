/- The walk of PolicyDecides. Conditions: the table of strconv; errors.errorType. -/
import Derived.Test.YtlmboaenmdcpbaaDoorQ9
namespace Go.Proofs.YtlmboaenmdcpbaaDoor
open Go Go.RowKit
set_option maxRecDepth 100000 in
set_option maxHeartbeats 4000000 in
theorem policyDecides_walk (w : World) (hg : Pz w ∧ Ety w) (role : Int) (hr : -9223372036854775808 ≤ role ∧ role ≤ 9223372036854775807) (op : Int) (ho : -9223372036854775808 ≤ op ∧ op ≤ 9223372036854775807) (owner : Int) (_h3 : -9223372036854775808 ≤ owner ∧ owner ≤ 9223372036854775807) (tenant : Int) (_h4 : -9223372036854775808 ≤ tenant ∧ tenant ≤ 9223372036854775807) :
    Calls Tryd.prog 3 #[.int .i64 role, .int .i64 op, .int .i64 owner, .int .i64 tenant] w fun e w' => e = .returned (.bool true) ∧ Below w.heap.size w w' := by
  obtain ⟨b, hb⟩ : ∃ b, mayP role op = b := ⟨_, rfl⟩
  obtain ⟨d, hd⟩ : ∃ d, decP role op owner tenant = d := ⟨_, rfl⟩
  have m0 := decide_any role op owner tenant w
  rw [hd] at m0
  have HC := Lib.hid (And.intro hg (And.intro hr (And.intro ho (And.intro hb hd))))
  clear hg hr ho hb hd
  go_enter Tryd.func3, Tryd.ntmps3
  go_wp2_with fail
  refine m0.mono ?_
  rintro e W1 ⟨v, rfl, hv, hb1⟩
  have H1 := Lib.hid (And.intro hb1 (And.intro (HC.out.1.1.below hb1) (And.intro (HC.out.1.2.below hb1) hb1.size)))
  have m1 := may_any role op W1
  have m2 := rmay_any role op W1
  have m3 := rdecide_any role op owner tenant W1
  rw [HC.out.2.2.2.1] at m1 m2
  rw [HC.out.2.2.2.2] at m3
  clear hb1
  have ek := known13_any W1 H1.out.2.1 H1.out.2.2.1
  cases d with
  | true =>
    obtain rfl : v = .nilIface := hv
    cases b <;>
      (go_wp2_with fail
       refine m1.mono ?_
       rintro e _ ⟨rfl, rfl⟩
       go_wp2_with fail
       refine m2.mono ?_
       rintro e _ ⟨rfl, rfl⟩
       go_wp2_with fail
       refine m3.mono ?_
       rintro e _ ⟨rfl, rfl⟩
       go_wp2_with fail
       refine ek.mono ?_
       rintro e W2 ⟨rfl, hb2⟩
       go_wp2_with fail
       go_ret
       exact ⟨rfl, H1.out.1.trans (hb2.mono H1.out.2.2.2)⟩)
  | false =>
    obtain ⟨h, rfl, hB, hk⟩ := hv
    have md := denied_any h op role HC.out.2.2.1 HC.out.2.1 W1 H1.out.2.1 H1.out.2.2.1 hk
    clear hk ek
    cases b <;>
      (go_wp2_with fail
       refine m1.mono ?_
       rintro e _ ⟨rfl, rfl⟩
       go_wp2_with fail
       refine m2.mono ?_
       rintro e _ ⟨rfl, rfl⟩
       go_wp2_with fail
       refine m3.mono ?_
       rintro e _ ⟨rfl, rfl⟩
       go_wp2_with fail
       refine md.mono ?_
       rintro e W2 ⟨rfl, hb2⟩
       go_wp2_with fail
       refine (known13_any W2 (H1.out.2.1.below hb2) (H1.out.2.2.1.below hb2)).mono ?_
       rintro e W3 ⟨rfl, hb3⟩
       go_wp2_with fail
       go_ret
       exact ⟨rfl, (H1.out.1.trans (hb2.mono H1.out.2.2.2)).trans (hb3.mono (Nat.le_trans H1.out.2.2.2 hb2.size))⟩)
end Go.Proofs.YtlmboaenmdcpbaaDoor
