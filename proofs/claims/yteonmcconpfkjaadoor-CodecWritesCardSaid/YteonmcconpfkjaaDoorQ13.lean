/- Texts that stand behind one another: RdR. No condition. -/
import Derived.Test.YteonmcconpfkjaaDoorQ12
import Derived.Test.YteonmcconpfkjaaDoorQ2
import Derived.Lib.ItoaLen
/- The walks of codec's Refusal: Error and Unwrap. Condition: the table of strconv. -/
namespace Go.Proofs.YteonmcconpfkjaaDoor
open Go Go.RowKit
attribute [local irreducible] mixW
theorem Pz.below {w w' : World} (h : Pz w) (hb : Below w.heap.size w w') : Pz w' := by
  unfold Pz Lib.TabIs World.var? at *
  cases hg : Tryd.prog.globalNamed "internal/strconv.uint64pow10" with
  | none => simp [hg] at h
  | some g =>
    simp only [hg, Option.bind_some] at h ⊢
    have hlt : g < w.heap.size := by
      rcases Nat.lt_or_ge g w.heap.size with h' | h'
      · exact h'
      · rw [Array.getElem?_eq_none h'] at h; simp at h
    rw [hb.block g hlt]
    exact h
theorem below_grow (w : World) (k : Nat) (os : Array Obj) : Below w.heap.size w (Sort.grow (w.drewN k) os) :=
  ⟨rfl, rfl, rfl, by unfold Sort.grow; rw [Array.size_append]; exact Nat.le_add_right _ _, fun i hi => by
    unfold Sort.grow
    exact Array.getElem?_append_left hi⟩
/-- strconv.Itoa -/
theorem itoa_any (n : Int) (h0 : -9223372036854775808 ≤ n) (h1 : n ≤ 9223372036854775807) (w : World) (hz : Pz w) :
    Calls Tryd.prog 165 #[.int .i64 n] w fun e w' => ∃ l : List UInt8, e = .returned (strV l) ∧ l.length ≤ 21 ∧ Below w.heap.size w w' :=
  (Tryd.strconv_Itoa n h0 h1 w hz).mono fun e w' ⟨he, k, os, hw⟩ => ⟨Lib.itoa n, he, Lib.itoa_length_le n h0 h1, by rw [hw]; exact below_grow w k os⟩
section
variable {ops : Array Oper} {C : World → Prop} {Q : Act → Prop} {a : Act} {o : Oper} {rest : List Oper}
theorem wpQuiet_addStr (hw : Region.wanted o (yielded ops a.tmps) = true) (x y : Operand) (yt : TypeId) (ho : o.op = .binOp .add 9 x y yt) (X Y : List UInt8) (hx : a.eval x = strV X) (hy : a.eval y = strV Y) (hl : X.length + Y.length ≤ 9223372036854775807)
    (h : wpQuiet Tryd.prog ops C Q rest (a.put o.dst (strV (X ++ Y)))) : wpQuiet Tryd.prog ops C Q (o :: rest) a :=
  wpQuiet_wanted hw (strV (X ++ Y)) (fun w hC => by
    have hg : (eqGuard .add 9 x y (strV X) (strV Y)).run Tryd.prog w = .ok () w := by unfold strV; simp [eqGuard]
    unfold Oper.quietAt execOp
    simp only [ho, hx, hy, Sem.run_bind, hg, run_strAdd w X Y hl, Result.andThen_ok, Sem.run_pure]
    exact ⟨rfl, rfl⟩) h
end
set_option maxRecDepth 100000 in
set_option maxHeartbeats 2000000 in
theorem unwrap_any (g pos k : Nat) (w : World) (hb : Blk w g 236 #[.int .i64 (pos : Int), .int .i64 (k : Int)]) :
    Calls Tryd.prog 148 #[.pointer (some ⟨g, 0, none⟩)] w fun e w' => e = .returned (.iface 48 (.int .i64 (k : Int))) ∧ w = w' := by
  have c1 : w.cell? ⟨g, 1, none⟩ = some (.int .i64 (k : Int)) := hb.cell 1
  go_enter Tryd.func148, Tryd.ntmps148
  go_wp2_with fail
  go_ret
  exact ⟨rfl, rfl⟩
set_option maxRecDepth 100000 in
set_option maxHeartbeats 4000000 in
theorem refErr_any (g pos k : Nat) (hp : pos ≤ 9223372036854775807) (hk : k ≤ 30) (w : World) (hz : Pz w) (hb : Blk w g 236 #[.int .i64 (pos : Int), .int .i64 (k : Int)]) :
    Calls Tryd.prog 147 #[.pointer (some ⟨g, 0, none⟩)] w fun e w' => ∃ l : List UInt8, e = .returned (strV l) ∧ 0 < l.length ∧ Below w.heap.size w w' := by
  go_enter Tryd.func147, Tryd.ntmps147
  go_upto_region 1 with fail
  refine wp_region_mixP (.plain 0 <| .plain 1 <| .plain 2 <| .plain 3 <| .plain 7 <| .plain 8 <| .plain 9 <| .plain 10 <| .only 4 <| .plain 5 <| .plain 6 <| .only 11 <| .plain 12 <| .plain 13 <| .done) (by kernel_rfl) (by kernel_rfl) (fun W1 hb1 => ?_)
  have hbk := hb.below hb1 hb.lt
  have c0 : ∀ z, (plus W1 z).cell? ⟨g, 0, none⟩ = some (.int .i64 (pos : Int)) := fun z => (hbk.plus z).cell 0
  have c1 : ∀ z, (plus W1 z).cell? ⟨g, 1, none⟩ = some (.int .i64 (k : Int)) := fun z => (hbk.plus z).cell 1
  have hz1 := hz.below hb1
  clear hb hz hbk
  iterate 8 (refine mix_plain rfl ?_; (first
    | (refine wpQuiet_nilCheck rfl (.tmp 3) rfl _ rfl ?_; simp only [Act.put, List.setIfInBounds_toArray, List.set_cons_zero, List.set_cons_succ])
    | (refine wpQuiet_nilCheck rfl (.tmp 10) rfl _ rfl ?_; simp only [Act.put, List.setIfInBounds_toArray, List.set_cons_zero, List.set_cons_succ])
    | (refine wpQuiet_load1 rfl _ (.tmp 5) rfl ⟨g, 0, none⟩ rfl _ Tryd.underlying3 rfl _ (fun _ ⟨e, he⟩ => by rw [he]; exact c0 e) ?_; simp only [Act.put, List.setIfInBounds_toArray, List.set_cons_zero, List.set_cons_succ])
    | (refine wpQuiet_load1 rfl _ (.tmp 12) rfl ⟨g, 1, none⟩ rfl _ Tryd.underlying48 rfl _ (fun _ ⟨e, he⟩ => by rw [he]; exact c1 e) ?_; simp only [Act.put, List.setIfInBounds_toArray, List.set_cons_zero, List.set_cons_succ])
    | go_big_quiet_step (fail)); refine wpQuiet_nil ?_)
  refine mix_only rfl (fun K hK => ?_)
  go_wp2_with fail
  refine (itoa_any (pos : Int) (by omega) (by omega) W1 hz1).mono ?_
  rintro e W2 ⟨l, rfl, hl, hb2⟩
  go_wp2_with fail
  refine hK _ _ hb2 ?_
  clear hK K
  iterate 2 (refine mix_plain rfl ?_; (first
    | (refine wpQuiet_addStr rfl (.const (.string _)) (.tmp 7) _ rfl [98, 121, 116, 101, 32] l rfl rfl (by simp only [List.length_cons, List.length_nil]; omega) ?_; simp only [Act.put, List.setIfInBounds_toArray, List.set_cons_zero, List.set_cons_succ])
    | (refine wpQuiet_addStr rfl (.tmp 8) (.const (.string _)) _ rfl ([98, 121, 116, 101, 32] ++ l) [58, 32] rfl rfl (by simp only [List.length_append, List.length_cons, List.length_nil]; omega) ?_; simp only [Act.put, List.setIfInBounds_toArray, List.set_cons_zero, List.set_cons_succ])
    | go_big_quiet_step (fail)); refine wpQuiet_nil ?_)
  have hl2 : ([98, 121, 116, 101, 32] ++ l ++ [58, 32]).length ≤ 28 := by simp only [List.length_append, List.length_cons, List.length_nil]; omega
  generalize ([98, 121, 116, 101, 32] ++ l ++ [58, 32]) = m at hl2 ⊢
  refine mix_only rfl (fun K hK => ?_)
  go_wp2_with fail
  refine (errnoText_any k hk W2).mono ?_
  rintro e W3 ⟨v, rfl, ⟨t, rfl, ht0, ht⟩, hb3⟩
  go_wp2_with fail
  refine hK _ _ hb3 ?_
  clear hK K
  iterate 2 (refine mix_plain rfl ?_; (first
    | (refine wpQuiet_addStr rfl (.tmp 9) (.tmp 14) _ rfl m t rfl rfl (by omega) ?_; simp only [Act.put, List.setIfInBounds_toArray, List.set_cons_zero, List.set_cons_succ])
    | go_big_quiet_step (fail)); refine wpQuiet_nil ?_)
  refine mix_done ?_
  go_wp2_with fail
  go_ret
  exact ⟨m ++ t, rfl, by rw [List.length_append]; omega, hb1.trans ((hb2.trans (hb3.mono hb2.size)).mono hb1.size)⟩
end Go.Proofs.YteonmcconpfkjaaDoor
