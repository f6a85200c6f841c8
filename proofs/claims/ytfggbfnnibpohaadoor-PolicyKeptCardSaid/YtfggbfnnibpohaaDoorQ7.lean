/- Texts that stand behind one another: PolB, PolR. No condition. -/
import Derived.Test.YtfggbfnnibpohaaDoorQ2
import Derived.Test.YtfggbfnnibpohaaDoorItoa
import Derived.Test.YtfggbfnnibpohaaDoorQ6
import Derived.Lib.LaidTab
import Derived.Stop.Asserts
import Derived.Lib.ItoaLen
/- The walks of policy's Decide and of its Refusal's Error and Unwrap. Condition: the table of strconv. -/
namespace Go.Proofs.YtfggbfnnibpohaaDoor
open Go Go.RowKit
attribute [local irreducible] mixW
/-- the cells of a refusal -/
def refP (op role : Int) : Array Value := #[.int .i64 op, .int .i64 role, .int .i64 21]
/-- what Decide answers -/
def DecV (w : World) (B : Nat) (v : Value) (op role : Int) : Bool → Prop
  | true => v = .nilIface
  | false => ∃ h, v = .iface 184 (.pointer (some ⟨h, 0, none⟩)) ∧ B ≤ h ∧ Blk w h 186 (refP op role)
set_option maxHeartbeats 1000000 in
set_option maxRecDepth 100000 in
theorem decide_any (role op owner tenant : Int) (w : World) : Calls Tryd.prog 40 #[.int .i64 role, .int .i64 op, .int .i64 owner, .int .i64 tenant] w fun e w' => ∃ v, e = .returned v ∧ DecV w' w.heap.size v op role (decP role op owner tenant) ∧ Below w.heap.size w w' := by
  have hd : decP role op owner tenant = (mayP role op && (owner == tenant || role == 4)) := rfl
  rw [hd]
  clear hd
  have hm := may_any role op w
  obtain ⟨b, hb⟩ : ∃ b, mayP role op = b := ⟨_, rfl⟩
  rw [hb] at hm ⊢
  clear hb
  have HN := Lib.hid (And.intro (Blk.new w 186 (refP op role)) (below_new1 w (Obj.cells (refP op role) 186)))
  unfold refP at HN
  rcases Bool.eq_false_or_eq_true (owner == tenant) with ex | ex <;> rcases Bool.eq_false_or_eq_true (role == 4) with ey | ey <;> rw [ex, ey] <;> cases b
  all_goals
    go_enter Tryd.func40, Tryd.ntmps40
    go_wp2_with fail
    refine hm.mono ?_
    rintro e _ ⟨rfl, rfl⟩
    go_wp2
    go_ret
  all_goals first
    | exact ⟨_, rfl, rfl, Below.refl _ _⟩
    | exact ⟨_, rfl, ⟨w.heap.size, rfl, Nat.le_refl _, HN.out.1⟩, HN.out.2⟩
set_option maxRecDepth 100000 in
theorem punwrap_any (g : Nat) (op role : Int) (w : World) (hb : Blk w g 186 (refP op role)) :
    Calls Tryd.prog 183 #[.pointer (some ⟨g, 0, none⟩)] w fun e w' => e = .returned (.iface 40 (.int .i64 21)) ∧ w = w' := by
  have c1 : w.cell? ⟨g, 2, none⟩ = some (.int .i64 21) := hb.cell 2
  go_enter Tryd.func183, Tryd.ntmps183
  go_wp2_with fail
  go_ret
  exact ⟨rfl, rfl⟩
set_option maxRecDepth 100000 in
/-- the text of ErrDenied -/
theorem denText_any (w : World) : Calls Tryd.prog 133 #[.int .i64 21] w fun e w' => e = .returned (strV [100, 101, 110, 105, 101, 100]) ∧ w = w' := by
  go_enter Tryd.func133, Tryd.ntmps133
  go_wp2
  go_ret
  exact ⟨rfl, rfl⟩
end Go.Proofs.YtfggbfnnibpohaaDoor

/- The walk of policy's Refusal's Error. Condition: the table of strconv. -/
namespace Go.Proofs.YtfggbfnnibpohaaDoor
open Go Go.RowKit
attribute [local irreducible] mixW
/-- strconv's table -/
def Pz (w : World) : Prop := Lib.TabIs Tryd.prog w "internal/strconv.uint64pow10" .u64 Lib.pow10Tab
theorem Pz.below {w w' : World} (h : Pz w) (hb : Below w.heap.size w w') : Pz w' := by
  unfold Pz Lib.TabIs World.var? at *
  cases hg : Tryd.prog.globalNamed "internal/strconv.uint64pow10" with
  | none => simp [hg] at h
  | some g =>
    simp only [hg, Option.bind_some] at h ⊢
    have hlt : g < w.heap.size := by
      rcases Nat.lt_or_ge g w.heap.size with h' | h'
      · exact h'
      · rw [Array.getElem?_eq_none h'] at h; simp at h
    rw [hb.block g hlt]
    exact h
theorem below_grow (w : World) (k : Nat) (os : Array Obj) : Below w.heap.size w (Sort.grow (w.drewN k) os) :=
  ⟨rfl, rfl, rfl, by unfold Sort.grow; rw [Array.size_append]; exact Nat.le_add_right _ _, fun i hi => by
    unfold Sort.grow
    exact Array.getElem?_append_left hi⟩
/-- strconv.Itoa -/
theorem itoa_any (n : Int) (h0 : -9223372036854775808 ≤ n) (h1 : n ≤ 9223372036854775807) (w : World) (hz : Pz w) :
    Calls Tryd.prog 132 #[.int .i64 n] w fun e w' => ∃ l : List UInt8, e = .returned (strV l) ∧ l.length ≤ 21 ∧ Below w.heap.size w w' :=
  (Tryd.strconv_Itoa n h0 h1 w hz).mono fun e w' ⟨he, k, os, hw⟩ => ⟨Lib.itoa n, he, Lib.itoa_length_le n h0 h1, by rw [hw]; exact below_grow w k os⟩
section
variable {ops : Array Oper} {C : World → Prop} {Q : Act → Prop} {a : Act} {o : Oper} {rest : List Oper}
theorem wpQuiet_addStr (hw : Region.wanted o (yielded ops a.tmps) = true) (x y : Operand) (yt : TypeId) (ho : o.op = .binOp .add 9 x y yt) (X Y : List UInt8) (hx : a.eval x = strV X) (hy : a.eval y = strV Y) (hl : X.length + Y.length ≤ 9223372036854775807)
    (h : wpQuiet Tryd.prog ops C Q rest (a.put o.dst (strV (X ++ Y)))) : wpQuiet Tryd.prog ops C Q (o :: rest) a :=
  wpQuiet_wanted hw (strV (X ++ Y)) (fun w hC => by
    have hg : (eqGuard .add 9 x y (strV X) (strV Y)).run Tryd.prog w = .ok () w := by unfold strV; simp [eqGuard]
    unfold Oper.quietAt execOp
    simp only [ho, hx, hy, Sem.run_bind, hg, run_strAdd w X Y hl, Result.andThen_ok, Sem.run_pure]
    exact ⟨rfl, rfl⟩) h
end
set_option maxRecDepth 100000 in
set_option maxHeartbeats 4000000 in
theorem polErr_any (g : Nat) (op role : Int) (ho : -9223372036854775808 ≤ op ∧ op ≤ 9223372036854775807) (hr : -9223372036854775808 ≤ role ∧ role ≤ 9223372036854775807) (w : World) (hz : Pz w) (hb : Blk w g 186 (refP op role)) :
    Calls Tryd.prog 127 #[.pointer (some ⟨g, 0, none⟩)] w fun e w' => ∃ l : List UInt8, e = .returned (strV l) ∧ 0 < l.length ∧ Below w.heap.size w w' := by
  go_enter Tryd.func127, Tryd.ntmps127
  go_upto_region 1 with fail
  refine wp_region_mixP (.plain 0 <| .plain 1 <| .plain 2 <| .plain 3 <| .plain 7 <| .plain 8 <| .plain 9 <| .plain 10 <| .plain 14 <| .plain 15 <| .plain 16 <| .plain 17 <| .only 4 <| .plain 5 <| .plain 6 <| .only 11 <| .plain 12 <| .plain 13 <| .only 18 <| .plain 19 <| .plain 20 <| .done) (by kernel_rfl) (by kernel_rfl) (fun W1 hb1 => ?_)
  have hbk := hb.below hb1 hb.lt
  have c0 : ∀ z, (plus W1 z).cell? ⟨g, 0, none⟩ = some (.int .i64 op) := fun z => (hbk.plus z).cell 0
  have c1 : ∀ z, (plus W1 z).cell? ⟨g, 1, none⟩ = some (.int .i64 role) := fun z => (hbk.plus z).cell 1
  have c2 : ∀ z, (plus W1 z).cell? ⟨g, 2, none⟩ = some (.int .i64 21) := fun z => (hbk.plus z).cell 2
  have hz1 := hz.below hb1
  clear hb hz hbk
  iterate 12 (refine mix_plain rfl ?_; (first
    | (refine wpQuiet_nilCheck rfl (.tmp 3) rfl _ rfl ?_; simp only [Act.put, List.setIfInBounds_toArray, List.set_cons_zero, List.set_cons_succ])
    | (refine wpQuiet_nilCheck rfl (.tmp 10) rfl _ rfl ?_; simp only [Act.put, List.setIfInBounds_toArray, List.set_cons_zero, List.set_cons_succ])
    | (refine wpQuiet_nilCheck rfl (.tmp 17) rfl _ rfl ?_; simp only [Act.put, List.setIfInBounds_toArray, List.set_cons_zero, List.set_cons_succ])
    | (refine wpQuiet_load1 rfl _ (.tmp 5) rfl ⟨g, 1, none⟩ rfl _ Tryd.underlying3 rfl _ (fun _ ⟨e, he⟩ => by rw [he]; exact c1 e) ?_; simp only [Act.put, List.setIfInBounds_toArray, List.set_cons_zero, List.set_cons_succ])
    | (refine wpQuiet_load1 rfl _ (.tmp 12) rfl ⟨g, 0, none⟩ rfl _ Tryd.underlying3 rfl _ (fun _ ⟨e, he⟩ => by rw [he]; exact c0 e) ?_; simp only [Act.put, List.setIfInBounds_toArray, List.set_cons_zero, List.set_cons_succ])
    | (refine wpQuiet_load1 rfl _ (.tmp 19) rfl ⟨g, 2, none⟩ rfl _ Tryd.underlying40 rfl _ (fun _ ⟨e, he⟩ => by rw [he]; exact c2 e) ?_; simp only [Act.put, List.setIfInBounds_toArray, List.set_cons_zero, List.set_cons_succ])
    | go_big_quiet_step (fail)); refine wpQuiet_nil ?_)
  refine mix_only rfl (fun K hK => ?_)
  go_wp2_with fail
  refine (itoa_any role hr.1 hr.2 W1 hz1).mono ?_
  rintro e W2 ⟨l, rfl, hl, hb2⟩
  go_wp2_with fail
  refine hK _ _ hb2 ?_
  clear hK K
  iterate 2 (refine mix_plain rfl ?_; (first
    | (refine wpQuiet_addStr rfl (.const (.string _)) (.tmp 7) _ rfl [114, 111, 108, 101, 32] l rfl rfl (by simp only [List.length_cons, List.length_nil]; omega) ?_; simp only [Act.put, List.setIfInBounds_toArray, List.set_cons_zero, List.set_cons_succ])
    | (refine wpQuiet_addStr rfl (.tmp 8) (.const (.string _)) _ rfl ([114, 111, 108, 101, 32] ++ l) [44, 32, 111, 112, 101, 114, 97, 116, 105, 111, 110, 32] rfl rfl (by simp only [List.length_append, List.length_cons, List.length_nil]; omega) ?_; simp only [Act.put, List.setIfInBounds_toArray, List.set_cons_zero, List.set_cons_succ])
    | go_big_quiet_step (fail)); refine wpQuiet_nil ?_)
  have hl2 : ([114, 111, 108, 101, 32] ++ l ++ [44, 32, 111, 112, 101, 114, 97, 116, 105, 111, 110, 32]).length ≤ 60 := by simp only [List.length_append, List.length_cons, List.length_nil]; omega
  generalize ([114, 111, 108, 101, 32] ++ l ++ [44, 32, 111, 112, 101, 114, 97, 116, 105, 111, 110, 32]) = m at hl2 ⊢
  refine mix_only rfl (fun K hK => ?_)
  go_wp2_with fail
  refine (itoa_any op ho.1 ho.2 W2 (hz1.below hb2)).mono ?_
  rintro e W3 ⟨l2, rfl, hl3, hb3⟩
  go_wp2_with fail
  refine hK _ _ hb3 ?_
  clear hK K
  iterate 2 (refine mix_plain rfl ?_; (first
    | (refine wpQuiet_addStr rfl (.tmp 9) (.tmp 14) _ rfl m l2 rfl rfl (by omega) ?_; simp only [Act.put, List.setIfInBounds_toArray, List.set_cons_zero, List.set_cons_succ])
    | (refine wpQuiet_addStr rfl (.tmp 15) (.const (.string _)) _ rfl (m ++ l2) [58, 32] rfl rfl (by simp only [List.length_append, List.length_cons, List.length_nil]; omega) ?_; simp only [Act.put, List.setIfInBounds_toArray, List.set_cons_zero, List.set_cons_succ])
    | go_big_quiet_step (fail)); refine wpQuiet_nil ?_)
  have hl4 : (m ++ l2 ++ [58, 32]).length ≤ 90 := by simp only [List.length_append, List.length_cons, List.length_nil]; omega
  generalize (m ++ l2 ++ [58, 32]) = m2 at hl4 ⊢
  refine mix_only rfl (fun K hK => ?_)
  go_wp2_with fail
  refine (denText_any W3).mono ?_
  rintro e _ ⟨rfl, rfl⟩
  go_wp2_with fail
  refine hK _ _ (Below.refl _ _) ?_
  clear hK K
  iterate 2 (refine mix_plain rfl ?_; (first
    | (refine wpQuiet_addStr rfl (.tmp 16) (.tmp 21) _ rfl m2 [100, 101, 110, 105, 101, 100] rfl rfl (by simp only [List.length_cons, List.length_nil]; omega) ?_; simp only [Act.put, List.setIfInBounds_toArray, List.set_cons_zero, List.set_cons_succ])
    | go_big_quiet_step (fail)); refine wpQuiet_nil ?_)
  refine mix_done ?_
  go_wp2_with fail
  go_ret
  exact ⟨m2 ++ [100, 101, 110, 105, 101, 100], rfl, by rw [List.length_append]; simp only [List.length_cons, List.length_nil]; omega, hb1.trans ((hb2.trans (hb3.mono hb2.size)).mono hb1.size)⟩
end Go.Proofs.YtfggbfnnibpohaaDoor
