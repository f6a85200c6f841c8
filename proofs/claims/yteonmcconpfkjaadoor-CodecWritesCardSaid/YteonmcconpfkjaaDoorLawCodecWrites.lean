/- THE STATEMENT CodecWrites (card): for every input that its row speaks of the Go function returns true, and its arguments read as before. Conditions: the row's own (the three listed tables stand as the program's text lays them, tied by the card). -/
import Derived.Test.YteonmcconpfkjaaDoorLawCodecWritesW
import Derived.Test.YteonmcconpfkjaaDoorFrame2
import Derived.Test.YteonmcconpfkjaaDoorFrameA2
import Derived.Test.YteonmcconpfkjaaDoorFrameD
namespace Go.Proofs.YteonmcconpfkjaaDoor.codecWrites
open Go.ChangeShapes Go.WideShapes Go.ChangeAt Go.RowKit
open Go.ChangeMaps (open_string shut_string)
set_option linter.unusedVariables false
set_option maxRecDepth 100000 in
theorem contract (H : Type) (enc : TypeId × Value → H) (W : World) (base : Nat) (args : Array Value) (ds gs : List (DataW H)) (before : List MemPlace)
    (hval : ∀ (j : Nat) t v, Tryd.f12.params[j]? = some t → args[j]? = some v → Value.okWide Tryd.prog W .any base t v)
    (hW : DataW.Whole enc Tryd.prog Tryd.f12.params.toList Rows.codecWritesSpec.vars false W args.toList ds gs before)
    (hsz : (DataW.weightsEach Tryd.prog Tryd.f12.params.toList ds).all (· ≤ reachBytes) = true)
    (hL : laidMetH Tryd.prog seatLaid2 W) :
    Calls Tryd.prog 12 args W fun e W' => ∃ v, e = .returned v ∧ Rows.codecWritesSpec.post enc Tryd.prog Tryd.f12 false true false false W args v W' := by
  have hG := pz_of_laid hL
  have hW' := hW
  obtain ⟨p, q, hA0, hV, rfl, hfz, hnd⟩ := hW
  have hA : DataW.TrodAll enc Tryd.prog W 0 (fun _ => true) true Tryd.f12.params.toList args.toList ds p := hA0
  rw [Tryd.params12] at hA hval hsz
  obtain ⟨v0, vs0, d0, ds0, p0, q0, hargs, rfl, rfl, h0, r0⟩ := trodAll_cons hA
  obtain ⟨v1, vs1, d1, ds1, p1, q1, rfl, rfl, rfl, h1, r1⟩ := trodAll_cons r0
  obtain ⟨rfl, rfl, rfl⟩ := trodAll_nil r1
  obtain rfl : args = #[v0, v1] := by cases args; simp_all
  obtain ⟨rfl, rfl⟩ := trodVars_none hV
  obtain ⟨z0, hsz⟩ := weights_at0 hsz
  obtain ⟨z1, hsz⟩ := weights_at0 hsz
  obtain ⟨A0, len0, cap0, rfl⟩ := okWide_slice Tryd.underlying134 (hval 0 134 v0 rfl rfl)
  have k0 := h0
  have lt0 : ∀ x ∈ p0, x.block < W.heap.size := by obtain ⟨m, hm⟩ := k0; exact DataW.trod_lt m _ _ _ hm
  obtain ⟨b0, e0, l0, s0⟩ := open_asks h0 z0
  subst e0
  have k1 := h1
  have lt1 : ∀ x ∈ p1, x.block < W.heap.size := by obtain ⟨m, hm⟩ := k1; exact DataW.trod_lt m _ _ _ hm
  have o1 := hval 1 43 v1 rfl rfl
  obtain ⟨b1, e1, l1⟩ := open_dig Tryd.underlying43 cells32 digTs_eq Tryd.underlying5 o1
  clear o1
  subst e1
  clear hA0
  simp only [List.append_nil] at hW'
  refine (codecWrites_walk W hG A0 cap0 b0 l0 s0 b1 l1).mono fun e W' ⟨he, bel⟩ => ?_
  subst he
  exact ⟨_, rfl, _, _, _, [], _, [], hW', trodAll_mk1 (shut_bool Tryd.underlying4 _), (trodAll_cons_mk (Below.trod laidOut (by kernel_rfl) (of_decide_eq_true (by kernel_rfl)) k0 bel lt0) (trodAll_cons_mk (Below.trod laidOut (by kernel_rfl) (of_decide_eq_true (by kernel_rfl)) k1 bel lt1) trodAll_mk0)), rfl, bel.frame _, fun h => by cases h⟩
theorem laid_met (os : Os) : laidMet Tryd.prog seatLaid2 ((laidWorld2 os).forCall (fun _ _ => 0) ⟨#[], #[.slice none 0 0, .agg (arr 32 fun _ => 0)], []⟩).memory :=
  laidMet_of_run' 8 (by kernel_rfl) (by kernel_rfl)
theorem reads (os : Os) {H : Type} (enc : TypeId × Value → H) : ∃ places, DataW.whole enc Tryd.prog ((laidWorld2 os).forCall (fun _ _ => 0) ⟨#[], #[.slice none 0 0, .agg (arr 32 fun _ => 0)], []⟩).memory Tryd.f12.params.toList Rows.codecWritesSpec.vars false (#[.slice none 0 0, .agg (arr 32 fun _ => 0)] : Array Value).toList 8 = some ([.nil, .agg (List.replicate 32 (.lit (.int .u8 0)))], [], places) :=
  ⟨[], by kernel_rfl⟩
set_option maxRecDepth 100000 in
theorem lifted (os : Os) (started : os.Started) (H : Type) (enc : TypeId × Value → H) (F : Stop.Interp) :
    ReturnsInHanded {} Tryd.checked os 12 .any ((OpenSpec.ofChange Rows.codecWritesSpec).preRow enc Tryd.prog Tryd.f12 Rows.codecWritesRow.domain false Rows.codecWritesRow.laid) (((OpenSpec.ofChange Rows.codecWritesSpec).at F).post enc Tryd.prog Tryd.f12 false true false false) := by
  obtain ⟨places, hx⟩ := reads os enc
  refine returnsInHanded_of_row (C := Tryd.checked) (s := (OpenSpec.ofChange Rows.codecWritesSpec)) own started (by kernel_rfl) Tryd.func12
    (witness_row_at (enc := enc) (C := Tryd.checked) false (laidWorld2 os) #[.slice none 0 0, .agg (arr 32 fun _ => 0)] rfl (by kernel_rfl) (by kernel_rfl) (by kernel_rfl)
      (OpenSpec.preRow_of_cond 8 hx (by kernel_rfl) (fun k hk => by cases hk) (by kernel_rfl) (laid_met os))) ?_
  intro W base args ds gs before hval hW _ hcond hsz hL _ _
  have hW2 := hW
  obtain ⟨p, q, hA0, hV, _⟩ := hW2
  obtain ⟨rfl, rfl⟩ := trodVars_none hV
  have ev : (OpenSpec.ofChange Rows.codecWritesSpec).bare.plain.varTypes Tryd.checked.prog = [] := rfl
  rw [ev, List.append_nil, List.append_nil] at hsz
  exact contract H enc W base args ds [] before hval hW hsz hL
theorem said : Rows.CodecWritesSaid :=
  OpenClaim.holds_of_cond 12 Tryd.f12 rfl rfl rfl rfl rfl rfl rfl ⟨rfl, rfl, rfl, rfl, rfl⟩ rfl rfl rfl rfl rfl (by kernel_rfl) Tryd.func12 (by kernel_rfl)
    (of_decide_eq_true (by kernel_rfl)) (by unfold Func.isWrapper; first | (rw [if_pos (by decide +kernel)]; kernel_rfl) | (rw [if_neg (by decide +kernel)]; exact ⟨rfl, rfl⟩))
    (fun os started H enc _ F => by rw [OpenClaim.pre_eq_preRow]; exact lifted os started H enc F)
theorem plain (f : FuncId) (fn : Func) (hf : Tryd.pinned.checked.prog.funcNamed "deponent/deponentlaw2.CodecWrites" = some f) (hfn : Tryd.pinned.checked.prog.funcs[f]? = some fn) :
    true = Tryd.pinned.checked.prog.looks [] ∧ ∀ (j : Nat) t, fn.params[j]? = some t → Tryd.pinned.checked.prog.wantsStandIn t = false := by
  obtain rfl : f = 12 := Option.some.inj ((show Tryd.prog.funcNamed "deponent/deponentlaw2.CodecWrites" = some 12 by kernel_rfl).symm.trans hf) |>.symm
  obtain rfl : fn = Tryd.f12 := (Option.some.inj (Tryd.func12.symm.trans hfn)).symm
  refine ⟨by kernel_rfl, fun j t ht => ?_⟩
  rw [Tryd.params12] at ht
  have hm := Array.mem_of_getElem? ht
  have hall : ([134, 43] : List TypeId).all (fun t => !(Tryd.prog.wantsStandIn t)) = true := by kernel_rfl
  have h3 := List.all_eq_true.1 hall t (Array.mem_def.1 hm)
  exact (show Tryd.prog.wantsStandIn t = false by simpa using h3)
/-- ████ THE CARD ████ -/
theorem card : Rows.CodecWritesCardSaid :=
  Claim7.holds_tied_plain_at .later [] _ _ _ _ said (fun _ h => by cases h) (by kernel_rfl) (fun _ h => by cases h) codecWrites_row_tie rfl ⟨rfl, rfl⟩ (by kernel_rfl) rfl plain (by kernel_rfl)
end Go.Proofs.YteonmcconpfkjaaDoor.codecWrites
