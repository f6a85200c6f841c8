/- The walk of the law VerifyProofs. No condition. -/
import Derived.Test.YtppglfgggfkcmaaDoorP18
import Derived.Test.YtppglfgggfkcmaaDoorP17
import Derived.Test.YtppglfgggfkcmaaDoorP22
import Derived.Test.YtppglfgggfkcmaaDoorP19
namespace Go.Proofs.YtppglfgggfkcmaaDoor
open Go Go.RowKit
attribute [local irreducible] mixW
attribute [local go_sem] n8_lo n8_hi n64_lo n64_hi n32_lo n32_hi
def mark9 : List UInt8 := 9 :: List.replicate 31 0
theorem mark9_len : mark9.length = 32 := by unfold mark9; simp
set_option maxRecDepth 100000 in
theorem built_9 (w : World) : (Instr.build 26 #[(0, .int .u8 9)]).run Tryd.prog w = .ok (.agg (dat mark9)) w := by kernel_rfl
theorem wpQuiet_build9 {ops : Array Oper} {C : World → Prop} {K : Act → Prop} {a : Act} {o : Oper} {rest : List Oper} (hw : Region.wanted o (yielded ops a.tmps) = true) (ho : o.op = .build 26 #[(0, .const (.int .u8 9))])
    (h : wpQuiet Tryd.prog ops C K rest (a.put o.dst (.agg (dat mark9)))) : wpQuiet Tryd.prog ops C K (o :: rest) a :=
  wpQuiet_wanted hw _ (fun w _ => by
    have hc : a.eval (.const (.int .u8 9)) = .int .u8 9 := rfl
    unfold Oper.quietAt execOp
    simp only [ho, List.map_toArray, List.map_cons, List.map_nil, hc, Sem.run_bind, built_9, Result.andThen_ok, Sem.run_pure]
    exact ⟨rfl, rfl⟩) h
theorem wpList_build9 {w : World} {ops : Array Oper} {rest : List Oper} {o : Oper} {a : Act} {Q : Exit → Act → World → Prop} (hgd : o.guard = none) (ho : o.op = .build 26 #[(0, .const (.int .u8 9))])
    (h : wpList Tryd.prog ops Q rest (a.put o.dst (.agg (dat mark9))) w) : wpList Tryd.prog ops Q (o :: rest) a w :=
  wpList_plain hgd fun K hK => by
    have hc : a.eval (.const (.int .u8 9)) = .int .u8 9 := rfl
    unfold Oper.wp execOp
    simp only [ho, List.map_toArray, List.map_cons, List.map_nil, hc, Sem.run_bind, built_9, Result.andThen_ok, Sem.run_pure]
    exact hK _ _ h
set_option maxHeartbeats 4000000 in
set_option maxRecDepth 100000 in
theorem verifyProofs_walk (w : World) (hG : Glob w) (x0 : Int) (_hx0 : -9223372036854775808 ≤ x0 ∧ x0 ≤ 9223372036854775807) (Ab : Option Addr) (capb : Nat) (b : List UInt8) (hb : BSl w w.heap.size (.slice Ab b.length capb) b) (hbc : capb ≤ 140737488351232) (ix sz : UInt64)
    (Ap : Option Addr) (capp : Nat) (ps : List (List UInt8)) (hpl : ∀ d ∈ ps, d.length = 32) (hp : DX w (.slice Ap ps.length capp) ps) (hpc : capp * 32 ≤ 140737488351232) (root : List UInt8) (hroot : root.length = 32) (fr tu : UInt64) (old : List UInt8) (hold : old.length = 32) :
    Calls Tryd.prog 3 #[.int .i64 x0, .slice Ab b.length capb, .int .u64 (n64 ix), .int .u64 (n64 sz), .slice Ap ps.length capp, .agg (dat root), .int .u64 (n64 fr), .int .u64 (n64 tu), .agg (dat old)] w fun e w' => e = .returned (.bool true) ∧ Below w.heap.size w w' := by
  have hix := ix.toNat_lt
  have hsz := sz.toNat_lt
  have hfr := fr.toNat_lt
  have hto := tu.toNat_lt
  rw [show n64 ix = (ix.toNat : Int) from rfl, show n64 sz = (sz.toNat : Int) from rfl, show n64 fr = (fr.toNat : Int) from rfl, show n64 tu = (tu.toNat : Int) from rfl]
  generalize ix.toNat = I at hix ⊢
  generalize sz.toNat = S at hsz ⊢
  generalize fr.toNat = F at hfr ⊢
  generalize tu.toNat = T at hto ⊢
  have hI64 : I ≤ 18446744073709551615 := by omega
  have hS64 : S ≤ 18446744073709551615 := by omega
  have hF64 : F ≤ 18446744073709551615 := by omega
  have hT64 : T ≤ 18446744073709551615 := by omega
  clear hix hsz hfr hto
  have hbl : b.length ≤ 140737488351232 := by obtain ⟨_, _, e, h, _⟩ := hb; injection e with _ _ e3; omega
  have hplc : ps.length ≤ capp := by obtain ⟨_, _, e, h, _⟩ := hp; injection e with _ _ e3; omega
  have HB := Lib.hid (And.intro hb (And.intro hbl (And.intro hroot hold)))
  clear hb hbl hroot hold
  have hA := (Blk.new w 26 (dat root)).alloc (Obj.cells (dat old) 26)
  have hO := Blk.new2 w (Obj.cells (dat root) 26) 26 (dat old)
  have hb2 := (below_new1 w (Obj.cells (dat root) 26)).alloc (by simp) (Obj.cells (dat old) 26)
  go_enter Tryd.func3, Tryd.ntmps3
  go_upto_region 1 with fail
  refine wp_at (fun W => Blk W w.heap.size 26 (dat root) ∧ Blk W (w.heap.size + 1) 26 (dat old) ∧ Below w.heap.size w W) ⟨hA, hO, hb2⟩ ?_
  clear hA hO hb2
  rintro W ⟨hA, hO, hbel⟩
  have HW := Lib.hid (And.intro hA (And.intro hO hbel))
  clear hA hO hbel
  go_upto_if 23 with fail
  go_cut [4] (fun s1 wx => s1 = .slice Ap (ps.take 70).length capp ∧ wx = W)
  case first =>
    by_cases h40 : 70 < ps.length
    · have e40 : (ps.take 70).length = 70 := by rw [List.length_take]; omega
      have He40 := Lib.hid e40
      clear e40
      go_wp2_with fail
      go_meet
      exact ⟨by rw [He40.out], rfl⟩
    · have e40 : (ps.take 70).length = ps.length := by rw [List.length_take]; omega
      have He40 := Lib.hid e40
      clear e40
      go_wp2_with fail
      go_meet
      exact ⟨by rw [He40.out], rfl⟩
  case rest =>
  obtain ⟨rfl, rfl⟩ := hcut
  have hp1 : DX w (.slice Ap (ps.take 70).length capp) (ps.take 70) := by
    by_cases h40 : 70 ≤ ps.length
    · have := hp.take 70 h40
      rwa [show (ps.take 70).length = 70 by rw [List.length_take]; omega]
    · rw [List.take_of_length_le (by omega)]; exact hp
  have hp70 : (ps.take 70).length ≤ 70 := by rw [List.length_take]; omega
  have hpl1 : ∀ d ∈ ps.take 70, d.length = 32 := fun d hd => hpl d (List.mem_of_mem_take hd)
  generalize ps.take 70 = P at hp1 hp70 hpl1 ⊢
  clear hp hpl hplc hpc
  have HP := Lib.hid (And.intro hp1 hpl1)
  clear hp1 hpl1
  go_wp2_with fail
  refine (hasher9_any x0 wc).mono ?_
  rintro e w2 ⟨h, rfl, hH, hb1⟩
  have HW2 := Lib.hid (And.intro (HW.out.1.below hb1 HW.out.1.lt) (And.intro (HW.out.2.1.below hb1 HW.out.2.1.lt) (HW.out.2.2.trans (hb1.mono HW.out.2.2.size))))
  clear HW hb1
  go_wp2_with (first
    | (refine wpList_build9 rfl rfl ?_))
  refine (roomyX_any _ P mark9 (by omega) w2 (HP.out.1.next HW2.out.2.2)).mono ?_
  rintro e w3 ⟨v, rfl, hv, hb1⟩
  have HW3 := Lib.hid (And.intro (HW2.out.1.below hb1 HW2.out.1.lt) (And.intro (HW2.out.2.1.below hb1 HW2.out.2.1.lt) (HW2.out.2.2.trans (hb1.mono HW2.out.2.2.size))))
  replace hH := hH.nxt hb1
  clear HW2 hb1
  obtain ⟨A3, c3, rfl, x1, x2, x3⟩ := hv
  have hl80 : (P ++ List.replicate 80 mark9).length = P.length + 80 := by simp
  have hv : DX w3 (.slice A3 (P ++ List.replicate 80 mark9).length c3) (P ++ List.replicate 80 mark9) := ⟨A3, c3, rfl, x1, x2, x3⟩
  have HR := Lib.hid (show DX w3 (.slice A3 (P.length + 80) c3) (P ++ List.replicate 80 mark9) by rw [← hl80]; exact hv)
  have hc3 : P.length + 80 ≤ c3 := by rw [← hl80]; exact x1
  rw [hl80]
  clear x1 x2 x3 hv hl80
  have HF : Hid (∀ V, Below w3.heap.size w3 V → DX V (.slice A3 P.length c3) P) := Lib.hid (fun V hV => by
    have h1 := (HR.out.next hV).take P.length (by omega)
    rwa [List.take_left] at h1)
  have HH := Lib.hid hH
  clear hH
  have hcap : (P.length : Int) ≤ (c3 : Int) := by omega
  go_wp2_with fail
  refine wp_region_mixP (.plain 0 <| .plain 1 <| .plain 2 <| .plain 3 <| .plain 4 <| .plain 5 <| .plain 6 <| .plain 7 <| .plain 8 <| .plain 10 <| .plain 11 <| .plain 12 <| .plain 13 <| .plain 14 <| .plain 15 <| .only 9 <| .only 16 <| .plain 17 <| .plain 18 <| .plain 19 <| .plain 20 <| .plain 21 <| .plain 22 <| .plain 23 <| .plain 24 <| .plain 25 <| .plain 26 <| .plain 27 <| .plain 29 <| .plain 30 <| .plain 31 <| .plain 32 <| .plain 33 <| .plain 34 <| .only 28 <| .only 35 <| .plain 36 <| .plain 37 <| .plain 38 <| .plain 39 <| .plain 40 <| .plain 41 <| .only 42 <| .plain 43 <| .plain 44 <| .only 45 <| .plain 46 <| .plain 47 <| .done) (by kernel_rfl) (by kernel_rfl) (fun W1 hb1 => ?_)
  have hA := HW3.out.1.below hb1 HW3.out.1.lt
  have hO := HW3.out.2.1.below hb1 HW3.out.2.1.lt
  iterate 15 (refine mix_plain rfl ?_; (first
    | (refine wpQuiet_load rfl _ (.tmp 14) rfl w.heap.size rfl _ _ _ _ (fun _ ⟨e, he⟩ => by rw [he]; exact hA.plus e) Tryd.underlying26 rfl (by kernel_rfl) ?_; simp only [Act.put, List.setIfInBounds_toArray, List.set_cons_zero, List.set_cons_succ])
    | go_big_quiet_step (fail)); refine wpQuiet_nil ?_)
  refine mix_only rfl (fun K hK => ?_)
  go_wp2_with fail
  refine (vLeaf_any x0 _ b I S hI64 hS64 _ P HP.out.2 (by omega) root HB.out.2.2.1 W1 (HB.out.1.next (HW3.out.2.2.trans (hb1.mono HW3.out.2.2.size))) (by have := HB.out.2.1; omega) (HF.out W1 hb1) (hG.next (HW3.out.2.2.trans (hb1.mono HW3.out.2.2.size)))).mono ?_
  rintro e W2 ⟨rfl, hbx⟩
  go_wp2_with fail
  refine hK _ _ hbx ?_
  clear hK K
  replace hb1 := hb1.trans (hbx.mono hb1.size)
  replace hA := hA.below hbx hA.lt
  replace hO := hO.below hbx hO.lt
  clear hbx
  refine mix_only rfl (fun K hK => ?_)
  go_wp2_with fail
  refine (rleaf_any _ (cutW x0) _ b I S hI64 hS64 _ P HP.out.2 (by omega) root HB.out.2.2.1 W2 (HH.out.nxt hb1) (HB.out.1.next (HW3.out.2.2.trans (hb1.mono HW3.out.2.2.size))) HB.out.2.1 (HP.out.1.next (HW3.out.2.2.trans (hb1.mono HW3.out.2.2.size)))).mono ?_
  rintro e W3 ⟨rfl, hbx⟩
  go_wp2_with fail
  refine hK _ _ hbx ?_
  clear hK K
  replace hb1 := hb1.trans (hbx.mono hb1.size)
  replace hA := hA.below hbx hA.lt
  replace hO := hO.below hbx hO.lt
  clear hbx
  generalize leafS (cutW x0) b I S P root = q1
  iterate 2 (refine mix_plain rfl ?_; go_big_quiet_step (fail); refine wpQuiet_nil ?_)
  try simp only [beq_self_eq_true]
  iterate 15 (refine mix_plain rfl ?_; (first
    | (refine wpQuiet_load rfl _ (.tmp 14) rfl w.heap.size rfl _ _ _ _ (fun _ ⟨e, he⟩ => by rw [he]; exact hA.plus e) Tryd.underlying26 rfl (by kernel_rfl) ?_; simp only [Act.put, List.setIfInBounds_toArray, List.set_cons_zero, List.set_cons_succ])
    | (refine wpQuiet_load rfl _ (.tmp 17) rfl (w.heap.size + 1) rfl _ _ _ _ (fun _ ⟨e, he⟩ => by rw [he]; exact hO.plus e) Tryd.underlying26 rfl (by kernel_rfl) ?_; simp only [Act.put, List.setIfInBounds_toArray, List.set_cons_zero, List.set_cons_succ])
    | go_big_quiet_step (fail)); refine wpQuiet_nil ?_)
  clear hA hO
  refine mix_only rfl (fun K hK => ?_)
  refine wpList_unguard rfl ?_
  go_wp2_with fail
  refine (vprefix_any x0 F T hF64 hT64 old root HB.out.2.2.2 HB.out.2.2.1 _ P HP.out.2 (by omega) W3 (HF.out W3 hb1) (hG.next (HW3.out.2.2.trans (hb1.mono HW3.out.2.2.size)))).mono ?_
  rintro e W4 ⟨rfl, hbx⟩
  go_wp2_with fail
  refine hK _ _ hbx ?_
  clear hK K
  replace hb1 := hb1.trans (hbx.mono hb1.size)
  clear hbx
  refine mix_only rfl (fun K hK => ?_)
  refine wpList_unguard rfl ?_
  go_wp2_with fail
  refine (rprefix_any _ (cutW x0) F T hF64 hT64 old root HB.out.2.2.2 HB.out.2.2.1 _ P HP.out.2 (by omega) W4 (HH.out.nxt hb1) (HP.out.1.next (HW3.out.2.2.trans (hb1.mono HW3.out.2.2.size)))).mono ?_
  rintro e W5 ⟨rfl, hbx⟩
  go_wp2_with fail
  refine hK _ _ hbx ?_
  clear hK K
  replace hb1 := hb1.trans (hbx.mono hb1.size)
  clear hbx
  generalize prefS (cutW x0) F T old root P = q2
  iterate 1 (refine mix_plain rfl ?_; go_big_quiet_step (fail); refine wpQuiet_nil ?_)
  try simp only [beq_self_eq_true]
  iterate 5 (refine mix_plain rfl ?_; (first
    | (refine wpQuiet_build9 rfl rfl ?_; simp only [Act.put, List.setIfInBounds_toArray, List.set_cons_zero, List.set_cons_succ])
    | go_big_quiet_step (fail)); refine wpQuiet_nil ?_)
  refine mix_only rfl (fun K hK => ?_)
  refine wpList_unguard rfl ?_
  go_wp2_with fail
  refine (intactX_any _ _ P mark9 HP.out.2 mark9_len (by omega) W5 (HR.out.next hb1) (HP.out.1.next (HW3.out.2.2.trans (hb1.mono HW3.out.2.2.size)))).mono ?_
  rintro e W6 ⟨rfl, hbx⟩
  go_wp2_with fail
  refine hK _ _ hbx ?_
  clear hK K
  replace hb1 := hb1.trans (hbx.mono hb1.size)
  clear hbx
  iterate 2 (refine mix_plain rfl ?_; go_big_quiet_step (fail); refine wpQuiet_nil ?_)
  refine mix_only rfl (fun K hK => ?_)
  refine wpList_unguard rfl ?_
  go_wp2_with fail
  refine (known9_any W6 (hG.next (HW3.out.2.2.trans (hb1.mono HW3.out.2.2.size)))).mono ?_
  rintro e W7 ⟨rfl, hbx⟩
  go_wp2_with fail
  refine hK _ _ hbx ?_
  clear hK K
  replace hb1 := hb1.trans (hbx.mono hb1.size)
  clear hbx
  iterate 2 (refine mix_plain rfl ?_; go_big_quiet_step (fail); refine wpQuiet_nil ?_)
  refine mix_done ?_
  go_wp2_with fail
  try rw [Exit.noGoto_ret]
  go_ret
  exact ⟨rfl, HW3.out.2.2.trans (hb1.mono HW3.out.2.2.size)⟩
end Go.Proofs.YtppglfgggfkcmaaDoor
