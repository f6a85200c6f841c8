/- THE STATEMENT VerifyProofs (card): for every input that its row speaks of the Go function returns true, and its arguments read as before. Conditions: the row's own (the two tables of package sha stand as the program's text lays them, tied by the card). -/
import Derived.Test.YtppglfgggfkcmaaDoorLawVerifyProofsW
import Derived.Test.YtppglfgggfkcmaaDoorFrame
import Derived.Test.YtppglfgggfkcmaaDoorFrameD
namespace Go.Proofs.YtppglfgggfkcmaaDoor.verifyProofs
open Go.ChangeShapes Go.WideShapes Go.ChangeAt Go.RowKit
open Go.ChangeMaps (open_string shut_string)
set_option linter.unusedVariables false
set_option maxRecDepth 100000 in
theorem contract (H : Type) (enc : TypeId × Value → H) (W : World) (base : Nat) (args : Array Value) (ds gs : List (DataW H)) (before : List MemPlace)
    (hval : ∀ (j : Nat) t v, Tryd.f3.params[j]? = some t → args[j]? = some v → Value.okWide Tryd.prog W .any base t v)
    (hW : DataW.Whole enc Tryd.prog Tryd.f3.params.toList Rows.verifyProofsSpec.vars false W args.toList ds gs before)
    (hsz : (DataW.weightsEach Tryd.prog Tryd.f3.params.toList ds).all (· ≤ reachBytes) = true)
    (hL : laidMetH Tryd.prog seatLaid W) :
    Calls Tryd.prog 3 args W fun e W' => ∃ v, e = .returned v ∧ Rows.verifyProofsSpec.post enc Tryd.prog Tryd.f3 false true false false W args v W' := by
  have hG := glob_of_laid hL
  have hW' := hW
  obtain ⟨p, q, hA0, hV, rfl, hfz, hnd⟩ := hW
  have hA : DataW.TrodAll enc Tryd.prog W 0 (fun _ => true) true Tryd.f3.params.toList args.toList ds p := hA0
  rw [Tryd.params3] at hA hval hsz
  obtain ⟨v0, vs0, d0, ds0, p0, q0, hargs, rfl, rfl, h0, r0⟩ := trodAll_cons hA
  obtain ⟨v1, vs1, d1, ds1, p1, q1, rfl, rfl, rfl, h1, r1⟩ := trodAll_cons r0
  obtain ⟨v2, vs2, d2, ds2, p2, q2, rfl, rfl, rfl, h2, r2⟩ := trodAll_cons r1
  obtain ⟨v3, vs3, d3, ds3, p3, q3, rfl, rfl, rfl, h3, r3⟩ := trodAll_cons r2
  obtain ⟨v4, vs4, d4, ds4, p4, q4, rfl, rfl, rfl, h4, r4⟩ := trodAll_cons r3
  obtain ⟨v5, vs5, d5, ds5, p5, q5, rfl, rfl, rfl, h5, r5⟩ := trodAll_cons r4
  obtain ⟨v6, vs6, d6, ds6, p6, q6, rfl, rfl, rfl, h6, r6⟩ := trodAll_cons r5
  obtain ⟨v7, vs7, d7, ds7, p7, q7, rfl, rfl, rfl, h7, r7⟩ := trodAll_cons r6
  obtain ⟨v8, vs8, d8, ds8, p8, q8, rfl, rfl, rfl, h8, r8⟩ := trodAll_cons r7
  obtain ⟨rfl, rfl, rfl⟩ := trodAll_nil r8
  obtain rfl : args = #[v0, v1, v2, v3, v4, v5, v6, v7, v8] := by cases args; simp_all
  obtain ⟨rfl, rfl⟩ := trodVars_none hV
  obtain ⟨z0, hsz⟩ := weights_at0 hsz
  obtain ⟨z1, hsz⟩ := weights_at0 hsz
  obtain ⟨z2, hsz⟩ := weights_at0 hsz
  obtain ⟨z3, hsz⟩ := weights_at0 hsz
  obtain ⟨z4, hsz⟩ := weights_at0 hsz
  obtain ⟨z5, hsz⟩ := weights_at0 hsz
  obtain ⟨z6, hsz⟩ := weights_at0 hsz
  obtain ⟨z7, hsz⟩ := weights_at0 hsz
  obtain ⟨z8, hsz⟩ := weights_at0 hsz
  obtain ⟨a0, rfl, rfl, rfl, w0⟩ := open_int Tryd.underlying3 (hval 0 3 v0 rfl rfl) h0
  obtain ⟨A1, len1, cap1, rfl⟩ := okWide_slice Tryd.underlying22 (hval 1 22 v1 rfl rfl)
  have k1 := h1
  have lt1 : ∀ x ∈ p1, x.block < W.heap.size := by obtain ⟨m, hm⟩ := k1; exact DataW.trod_lt m _ _ _ hm
  obtain ⟨b1, e1, s1⟩ := open_bytes h1 z1
  subst e1
  obtain ⟨a2, rfl, rfl, rfl, w2⟩ := open_int Tryd.underlying23 (hval 2 23 v2 rfl rfl) h2
  obtain ⟨u2, y2⟩ := u64_of w2
  subst y2
  obtain ⟨a3, rfl, rfl, rfl, w3⟩ := open_int Tryd.underlying23 (hval 3 23 v3 rfl rfl) h3
  obtain ⟨u3, y3⟩ := u64_of w3
  subst y3
  obtain ⟨A4, len4, cap4, rfl⟩ := okWide_slice Tryd.underlying24 (hval 4 24 v4 rfl rfl)
  have k4 := h4
  have lt4 : ∀ x ∈ p4, x.block < W.heap.size := by obtain ⟨m, hm⟩ := k4; exact DataW.trod_lt m _ _ _ hm
  obtain ⟨b4, e4, l4, s4, m4⟩ := open_digs h4 z4
  subst e4
  have k5 := h5
  have lt5 : ∀ x ∈ p5, x.block < W.heap.size := by obtain ⟨m, hm⟩ := k5; exact DataW.trod_lt m _ _ _ hm
  have o5 := hval 5 26 v5 rfl rfl
  obtain ⟨b5, e5, l5⟩ := open_dig Tryd.underlying26 cells32 digTs_eq Tryd.underlying5 o5
  clear o5
  subst e5
  obtain ⟨a6, rfl, rfl, rfl, w6⟩ := open_int Tryd.underlying23 (hval 6 23 v6 rfl rfl) h6
  obtain ⟨u6, y6⟩ := u64_of w6
  subst y6
  obtain ⟨a7, rfl, rfl, rfl, w7⟩ := open_int Tryd.underlying23 (hval 7 23 v7 rfl rfl) h7
  obtain ⟨u7, y7⟩ := u64_of w7
  subst y7
  have k8 := h8
  have lt8 : ∀ x ∈ p8, x.block < W.heap.size := by obtain ⟨m, hm⟩ := k8; exact DataW.trod_lt m _ _ _ hm
  have o8 := hval 8 26 v8 rfl rfl
  obtain ⟨b8, e8, l8⟩ := open_dig Tryd.underlying26 cells32 digTs_eq Tryd.underlying5 o8
  clear o8
  subst e8
  clear hA0
  simp only [List.append_nil] at hW'
  refine (verifyProofs_walk W hG a0 (bounds_i64 w0) A1 cap1 b1 s1.1 s1.2 u2 u3 A4 cap4 b4 l4 s4 m4 b5 l5 u6 u7 b8 l8).mono fun e W' ⟨he, bel⟩ => ?_
  subst he
  exact ⟨_, rfl, _, _, _, [], _, [], hW', trodAll_mk1 (shut_bool Tryd.underlying4 _), (trodAll_cons_mk (shut_int Tryd.underlying3 w0) (trodAll_cons_mk (Below.trod laidOut (by kernel_rfl) (of_decide_eq_true (by kernel_rfl)) k1 bel lt1) (trodAll_cons_mk (shut_int Tryd.underlying23 w2) (trodAll_cons_mk (shut_int Tryd.underlying23 w3) (trodAll_cons_mk (Below.trod laidOut (by kernel_rfl) (of_decide_eq_true (by kernel_rfl)) k4 bel lt4) (trodAll_cons_mk (Below.trod laidOut (by kernel_rfl) (of_decide_eq_true (by kernel_rfl)) k5 bel lt5) (trodAll_cons_mk (shut_int Tryd.underlying23 w6) (trodAll_cons_mk (shut_int Tryd.underlying23 w7) (trodAll_cons_mk (Below.trod laidOut (by kernel_rfl) (of_decide_eq_true (by kernel_rfl)) k8 bel lt8) trodAll_mk0))))))))), rfl, bel.frame _, fun h => by cases h⟩
theorem laid_met (os : Os) : laidMet Tryd.prog seatLaid ((laidWorld os).forCall (fun _ _ => 0) ⟨#[], #[.int .i64 0, .slice none 0 0, .int .u64 0, .int .u64 0, .slice none 0 0, .agg (arr 32 fun _ => 0), .int .u64 0, .int .u64 0, .agg (arr 32 fun _ => 0)], []⟩).memory :=
  laidMet_of_run' 8 (by kernel_rfl) (by kernel_rfl)
theorem reads (os : Os) {H : Type} (enc : TypeId × Value → H) : ∃ places, DataW.whole enc Tryd.prog ((laidWorld os).forCall (fun _ _ => 0) ⟨#[], #[.int .i64 0, .slice none 0 0, .int .u64 0, .int .u64 0, .slice none 0 0, .agg (arr 32 fun _ => 0), .int .u64 0, .int .u64 0, .agg (arr 32 fun _ => 0)], []⟩).memory Tryd.f3.params.toList Rows.verifyProofsSpec.vars false (#[.int .i64 0, .slice none 0 0, .int .u64 0, .int .u64 0, .slice none 0 0, .agg (arr 32 fun _ => 0), .int .u64 0, .int .u64 0, .agg (arr 32 fun _ => 0)] : Array Value).toList 8 = some ([.lit (.int .i64 0), .nil, .lit (.int .u64 0), .lit (.int .u64 0), .nil, .agg (List.replicate 32 (.lit (.int .u8 0))), .lit (.int .u64 0), .lit (.int .u64 0), .agg (List.replicate 32 (.lit (.int .u8 0)))], [], places) :=
  ⟨[], by kernel_rfl⟩
set_option maxRecDepth 100000 in
theorem lifted (os : Os) (started : os.Started) (H : Type) (enc : TypeId × Value → H) (F : Stop.Interp) :
    ReturnsInHanded {} Tryd.checked os 3 .any ((OpenSpec.ofChange Rows.verifyProofsSpec).preRow enc Tryd.prog Tryd.f3 Rows.verifyProofsRow.domain false Rows.verifyProofsRow.laid) (((OpenSpec.ofChange Rows.verifyProofsSpec).at F).post enc Tryd.prog Tryd.f3 false true false false) := by
  obtain ⟨places, hx⟩ := reads os enc
  refine returnsInHanded_of_row (C := Tryd.checked) (s := (OpenSpec.ofChange Rows.verifyProofsSpec)) own started (by kernel_rfl) Tryd.func3
    (witness_row_at (enc := enc) (C := Tryd.checked) false (laidWorld os) #[.int .i64 0, .slice none 0 0, .int .u64 0, .int .u64 0, .slice none 0 0, .agg (arr 32 fun _ => 0), .int .u64 0, .int .u64 0, .agg (arr 32 fun _ => 0)] rfl (by kernel_rfl) (by kernel_rfl) (by kernel_rfl)
      (OpenSpec.preRow_of_cond 8 hx (by kernel_rfl) (fun k hk => by cases hk) (by kernel_rfl) (laid_met os))) ?_
  intro W base args ds gs before hval hW _ hcond hsz hL _ _
  have hW2 := hW
  obtain ⟨p, q, hA0, hV, _⟩ := hW2
  obtain ⟨rfl, rfl⟩ := trodVars_none hV
  have ev : (OpenSpec.ofChange Rows.verifyProofsSpec).bare.plain.varTypes Tryd.checked.prog = [] := rfl
  rw [ev, List.append_nil, List.append_nil] at hsz
  exact contract H enc W base args ds [] before hval hW hsz hL
theorem said : Rows.VerifyProofsSaid :=
  OpenClaim.holds_of_cond 3 Tryd.f3 rfl rfl rfl rfl rfl rfl rfl ⟨rfl, rfl, rfl, rfl, rfl⟩ rfl rfl rfl rfl rfl (by kernel_rfl) Tryd.func3 (by kernel_rfl)
    (of_decide_eq_true (by kernel_rfl)) (by unfold Func.isWrapper; first | (rw [if_pos (by decide +kernel)]; kernel_rfl) | (rw [if_neg (by decide +kernel)]; exact ⟨rfl, rfl⟩))
    (fun os started H enc _ F => by rw [OpenClaim.pre_eq_preRow]; exact lifted os started H enc F)
theorem plain (f : FuncId) (fn : Func) (hf : Tryd.pinned.checked.prog.funcNamed "deponent/deponentlaw9.VerifyProofs" = some f) (hfn : Tryd.pinned.checked.prog.funcs[f]? = some fn) :
    false = Tryd.pinned.checked.prog.looks [] ∧ ∀ (j : Nat) t, fn.params[j]? = some t → Tryd.pinned.checked.prog.wantsStandIn t = false := by
  obtain rfl : f = 3 := Option.some.inj ((show Tryd.prog.funcNamed "deponent/deponentlaw9.VerifyProofs" = some 3 by kernel_rfl).symm.trans hf) |>.symm
  obtain rfl : fn = Tryd.f3 := (Option.some.inj (Tryd.func3.symm.trans hfn)).symm
  refine ⟨by kernel_rfl, fun j t ht => ?_⟩
  rw [Tryd.params3] at ht
  have hm := Array.mem_of_getElem? ht
  have hall : ([3, 22, 23, 23, 24, 26, 23, 23, 26] : List TypeId).all (fun t => !(Tryd.prog.wantsStandIn t)) = true := by kernel_rfl
  have h3 := List.all_eq_true.1 hall t (Array.mem_def.1 hm)
  exact (show Tryd.prog.wantsStandIn t = false by simpa using h3)
/-- ████ THE CARD ████ -/
theorem card : Rows.VerifyProofsCardSaid :=
  Claim7.holds_tied_plain_at .later [] _ _ _ _ said (fun _ h => by cases h) (by kernel_rfl) (fun _ h => by cases h) verifyProofs_row_tie rfl ⟨rfl, rfl⟩ (by kernel_rfl) rfl plain (by kernel_rfl)
end Go.Proofs.YtppglfgggfkcmaaDoor.verifyProofs
