/- The walk of PolicyGrows. Conditions: the table of strconv; errors.errorType. -/
import Derived.Test.YtlmboaenmdcpbaaDoorQ9
import Derived.Test.YtlmboaenmdcpbaaDoorQ10
namespace Go.Proofs.YtlmboaenmdcpbaaDoor
open Go Go.RowKit
attribute [local irreducible] mixW
theorem decP_self (r op a : Int) : decP r op a a = mayP r op := by unfold decP; rw [beq_self_eq_true]; simp
theorem DecV.eqNil {w : World} {B : Nat} {v : Value} {op role : Int} {b : Bool} (h : DecV w B v op role b) : (v = .nilIface ∧ b = true) ∨ (b = false ∧ ∃ x, v = .iface 76 x) := by
  cases b with
  | true => exact .inl ⟨h, rfl⟩
  | false => obtain ⟨g, e, _⟩ := h; exact .inr ⟨rfl, _, e⟩
set_option maxRecDepth 100000 in
set_option maxHeartbeats 8000000 in
theorem policyGrows_walk (w : World) (hg : Pz w ∧ Ety w) (role : Int) (hr : -9223372036854775808 ≤ role ∧ role ≤ 9223372036854775807) (op : Int) (_ho : -9223372036854775808 ≤ op ∧ op ≤ 9223372036854775807) (a : Int) (_h3 : -9223372036854775808 ≤ a ∧ a ≤ 9223372036854775807) (b : Int) (_h4 : -9223372036854775808 ≤ b ∧ b ≤ 9223372036854775807) :
    Calls Tryd.prog 4 #[.int .i64 role, .int .i64 op, .int .i64 a, .int .i64 b] w fun e w' => e = .returned (.bool true) ∧ Below w.heap.size w w' := by
  have mw := within_any role 0 5 w (by omega) (by omega) (by omega) hr.1 hr.2
  have hwb := withinI_bounds role 0 5 (by omega)
  obtain ⟨r, hre⟩ : ∃ r, withinI role 0 5 = r := ⟨_, rfl⟩
  rw [hre] at mw hwb
  clear hre hr
  have m1 := may_any r op w
  have m2 := may_any (r + 1) op w
  have hop := mayP_op (op := op) r
  have hup : mayP r op = true → r < 4 → mayP (r + 1) op = true := mayP_up
  have md := fun W => decide_any r op a a W
  have me := fun W => decide_any r op b b W
  simp only [decP_self] at md me
  have hzero : r = 0 → mayP r op = false := fun e => mayP_role op (by omega)
  have hfive : r = 5 → mayP r op = false := fun e => mayP_role op (by omega)
  obtain ⟨c, hc⟩ : ∃ c, mayP r op = c := ⟨_, rfl⟩
  rw [hc] at m1 hop hup hzero hfive
  simp only [hc] at md me
  clear hc
  have hr6 : r = 0 ∨ r = 1 ∨ r = 2 ∨ r = 3 ∨ r = 4 ∨ r = 5 := by omega
  have hcl : (op < 1 ∧ c = false) ∨ (1 ≤ op ∧ op ≤ 12) ∨ (12 < op ∧ c = false) := by
    rcases Int.lt_or_le op 1 with h | h
    · exact .inl ⟨h, hop (by omega)⟩
    · rcases Int.lt_or_le 12 op with h2 | h2
      · exact .inr (.inr ⟨h2, hop (by omega)⟩)
      · exact .inr (.inl ⟨h, h2⟩)
  have H0 := Lib.hid hg
  clear hg hop hwb
  have hlo : decide (op < 1) = true ∧ c = false ∨ decide (op < 1) = false ∧ decide (op > 12) = true ∧ c = false ∨ decide (op < 1) = false ∧ decide (op > 12) = false := by
    rcases hcl with ⟨h, e⟩ | ⟨h, h2⟩ | ⟨h, e⟩
    · exact .inl ⟨decide_eq_true h, e⟩
    · exact .inr (.inr ⟨decide_eq_false (by omega), decide_eq_false (by omega)⟩)
    · exact .inr (.inl ⟨decide_eq_false (by omega), decide_eq_true (by omega), e⟩)
  clear hcl
  cases c with
  | true =>
    have hr4 : r = 1 ∨ r = 2 ∨ r = 3 ∨ r = 4 := by
      rcases hr6 with e | e | e | e | e | e
      · exact absurd (hzero e) (by simp)
      · exact .inl e
      · exact .inr (.inl e)
      · exact .inr (.inr (.inl e))
      · exact .inr (.inr (.inr e))
      · exact absurd (hfive e) (by simp)
    clear hr6 hzero hfive
    obtain ⟨e1, e2⟩ : decide (op < 1) = false ∧ decide (op > 12) = false := by
      rcases hlo with ⟨_, e⟩ | ⟨_, _, e⟩ | h
      · cases e
      · cases e
      · exact h
    clear hlo
    rcases hr4 with rfl | rfl | rfl | rfl
    all_goals
      first | (have hu := hup rfl (by omega); rw [hu] at m2; clear hup hu) | clear hup m2
      go_enter Tryd.func4, Tryd.ntmps4
      go_wp2_with fail
      refine mw.mono ?_
      rintro e _ ⟨rfl, rfl⟩
      go_wp2_with fail
      refine m1.mono ?_
      rintro e _ ⟨rfl, rfl⟩
      go_upto_region 6 with fail
      try
        refine m2.mono ?_
        rintro e _ ⟨rfl, rfl⟩
        go_upto_region 6 with fail
      refine wp_region_mixP (.plain 0 <| .plain 1 <| .plain 2 <| .plain 3 <| .plain 6 <| .plain 7 <| .plain 8 <| .plain 9 <| .only 4 <| .plain 5 <| .only 10 <| .plain 11 <| .plain 12 <| .plain 13 <| .only 14 <| .plain 15 <| .plain 16 <| .done) (by kernel_rfl) (by kernel_rfl) (fun W1 hb1 => ?_)
      iterate 8 (refine mix_plain rfl ?_; go_big_quiet_step (fail); refine wpQuiet_nil ?_)
      refine mix_only rfl (fun K hK => ?_)
      go_wp2_with fail
      refine (md W1).mono ?_
      rintro e W2 ⟨v, rfl, hv, hb2⟩
      go_wp2_with fail
      refine hK _ _ hb2 ?_
      clear hK K
      obtain rfl : v = .nilIface := hv
      refine mix_plain rfl ?_; go_big_quiet_step (fail); refine wpQuiet_nil ?_
      refine mix_only rfl (fun K hK => ?_)
      go_wp2_with fail
      refine (me W2).mono ?_
      rintro e W3 ⟨v, rfl, hv, hb3⟩
      go_wp2_with fail
      refine hK _ _ hb3 ?_
      clear hK K
      obtain rfl : v = .nilIface := hv
      iterate 3 (refine mix_plain rfl ?_; go_big_quiet_step (fail); refine wpQuiet_nil ?_)
      have hb4 := hb1.trans ((hb2.trans (hb3.mono hb2.size)).mono hb1.size)
      refine mix_only rfl (fun K hK => ?_)
      go_wp2_with fail
      refine (known13_any W3 (H0.out.1.below hb4) (H0.out.2.below hb4)).mono ?_
      rintro e W4 ⟨rfl, hb5⟩
      go_wp2_with fail
      refine hK _ _ hb5 ?_
      clear hK K
      iterate 2 (refine mix_plain rfl ?_; go_big_quiet_step (fail); refine wpQuiet_nil ?_)
      refine mix_done ?_
      go_wp2_with fail
      go_ret
      exact ⟨rfl, hb4.trans (hb5.mono hb4.size)⟩
  | false =>
    clear hup m2 hzero hfive
    have hlo2 : decide (op < 1) = true ∨ decide (op < 1) = false ∧ decide (op > 12) = true ∨ decide (op < 1) = false ∧ decide (op > 12) = false := by
      rcases hlo with ⟨h, _⟩ | ⟨h, h2, _⟩ | h
      · exact .inl h
      · exact .inr (.inl ⟨h, h2⟩)
      · exact .inr (.inr h)
    clear hlo hr6
    rcases hlo2 with e1 | ⟨e1, e2⟩ | ⟨e1, e2⟩
    all_goals
      go_enter Tryd.func4, Tryd.ntmps4
      go_wp2_with fail
      refine mw.mono ?_
      rintro e _ ⟨rfl, rfl⟩
      go_wp2_with fail
      refine m1.mono ?_
      rintro e _ ⟨rfl, rfl⟩
      go_upto_region 6 with fail
      try
        refine m1.mono ?_
        rintro e _ ⟨rfl, rfl⟩
        go_upto_region 6 with fail
      refine wp_region_mixP (.plain 0 <| .plain 1 <| .plain 2 <| .plain 3 <| .plain 6 <| .plain 7 <| .plain 8 <| .plain 9 <| .only 4 <| .plain 5 <| .only 10 <| .plain 11 <| .plain 12 <| .plain 13 <| .only 14 <| .plain 15 <| .plain 16 <| .done) (by kernel_rfl) (by kernel_rfl) (fun W1 hb1 => ?_)
      iterate 8 (refine mix_plain rfl ?_; go_big_quiet_step (fail); refine wpQuiet_nil ?_)
      refine mix_only rfl (fun K hK => ?_)
      go_wp2_with fail
      refine (md W1).mono ?_
      rintro e W2 ⟨v, rfl, hv, hb2⟩
      go_wp2_with fail
      refine hK _ _ hb2 ?_
      clear hK K
      obtain ⟨h1, rfl, _, _⟩ := hv
      refine mix_plain rfl ?_; go_big_quiet_step (fail); refine wpQuiet_nil ?_
      refine mix_only rfl (fun K hK => ?_)
      go_wp2_with fail
      refine (me W2).mono ?_
      rintro e W3 ⟨v, rfl, hv, hb3⟩
      go_wp2_with fail
      refine hK _ _ hb3 ?_
      clear hK K
      obtain ⟨h2, rfl, _, _⟩ := hv
      iterate 3 (refine mix_plain rfl ?_; go_big_quiet_step (fail); refine wpQuiet_nil ?_)
      have hb4 := hb1.trans ((hb2.trans (hb3.mono hb2.size)).mono hb1.size)
      refine mix_only rfl (fun K hK => ?_)
      go_wp2_with fail
      refine (known13_any W3 (H0.out.1.below hb4) (H0.out.2.below hb4)).mono ?_
      rintro e W4 ⟨rfl, hb5⟩
      go_wp2_with fail
      refine hK _ _ hb5 ?_
      clear hK K
      iterate 2 (refine mix_plain rfl ?_; go_big_quiet_step (fail); refine wpQuiet_nil ?_)
      refine mix_done ?_
      go_wp2_with fail
      go_ret
      exact ⟨rfl, hb4.trans (hb5.mono hb4.size)⟩
end Go.Proofs.YtlmboaenmdcpbaaDoor
