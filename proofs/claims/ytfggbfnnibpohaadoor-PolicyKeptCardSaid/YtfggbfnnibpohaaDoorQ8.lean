/- Texts that stand behind one another: PolI. No condition. -/
import Derived.Test.YtfggbfnnibpohaaDoorQ7
import Derived.LaidEql
import Derived.Stop.Asserts
import Derived.RowKitTokens
/- errors.Is at a *policy.Refusal and an api.Errno: the one that it wraps, and another. No condition. (402: how many types the seat's translation has, and 100; 6: how many package-level variables.) -/
namespace Go.Proofs.YtfggbfnnibpohaaDoor
open Go Go.RowKit Go.Extern.Stop Go.Stop Go.Extern
theorem isTypeOf (v : Value) (w : World) : (Extern.ReflectliteType.typeOf #[.iface 40 v]).run Tryd.prog w = .ok (.iface 230 (.agg #[.pointer (some ⟨6, 40, none⟩)])) w := by kernel_rfl
theorem isComparable (w : World) : ((Extern.ReflectliteType.method fun t => do Extern.Rtype.noPackHeld "Comparable" t; (fun a => Value.bool a.comparable) <$> typeInfo t) #[.agg #[.pointer (some ⟨6, 40, none⟩)]]).run Tryd.prog w = .ok (.bool true) w := by kernel_rfl
theorem isMethodComparable (v : Value) (w : World) : (Go.method 402 230 v "Comparable").run Tryd.prog w = .ok (189, v) w := by kernel_rfl
theorem noIs (v : Value) (xT : TypeId) (w : World) : (Instr.typeAssert (.iface 184 v) xT 232 true).run Tryd.prog w = .ok (.tuple #[.nilIface, .bool false]) w := run_typeAssert_lacksB Tryd.underlying232 (by kernel_rfl) (by kernel_rfl) v xT w
theorem hasUnwrap (v : Value) (xT : TypeId) (w : World) : (Instr.typeAssert (.iface 184 v) xT 235 true).run Tryd.prog w = .ok (.tuple #[.iface 184 v, .bool true]) w := run_typeAssert_hasB Tryd.underlying235 (by kernel_rfl) v xT w
theorem methodUnwrap (v : Value) (w : World) : (Go.method 402 184 v "Unwrap").run Tryd.prog w = .ok (183, v) w := by kernel_rfl
theorem errnoComp : (Tryd.prog.info? 40).map (·.comparable) = some true := by kernel_rfl
theorem run_eql_errno (k : Int) (w : World) : (binOp .eql 93 (.iface 40 (.int .i64 k)) (.iface 40 (.int .i64 k))).run Tryd.prog w = .ok (.bool true) w := by
  obtain ⟨i, hi, hcmp⟩ := Option.map_eq_some_iff.1 errnoComp
  have h : ∀ d : Nat, (Op.equalIn (d + 2) 93 (.iface 40 (.int .i64 k)) (.iface 40 (.int .i64 k))).run Tryd.prog w = .ok true w := fun d => by
    simp [Op.equalIn, run_underlying Tryd.underlying93, run_underlying Tryd.underlying40, typeInfo, hi, hcmp]
  simp only [binOp]
  simp [Op.equal, Op.maxDepth, h 9998]
set_option maxRecDepth 100000 in
set_option maxHeartbeats 2000000 in
theorem polIs_any (g : Nat) (op role : Int) (w : World) (hb : Blk w g 186 (refP op role)) :
    Calls Tryd.prog 59 #[.iface 184 (.pointer (some ⟨g, 0, none⟩)), .iface 40 (.int .i64 21)] w fun e w' => e = .returned (.bool true) ∧ w = w' := by
  have h1 := @run_callFunc_extern Tryd.prog 112 _ Extern.ReflectliteType.typeOf Tryd.func112 (by kernel_rfl) (by kernel_rfl) (by kernel_rfl) (by kernel_rfl)
  have h2 := @run_callFunc_extern Tryd.prog 189 _ (Extern.ReflectliteType.method fun t => do Extern.Rtype.noPackHeld "Comparable" t; pure (.bool (← typeInfo t).comparable)) Tryd.func189 (by kernel_rfl) (by kernel_rfl) (by kernel_rfl) (by kernel_rfl)
  have tT := isTypeOf
  have cT := isComparable
  have mR := isMethodComparable
  have nW := noIs
  have uW := hasUnwrap
  have mU := methodUnwrap
  have heq := run_eql_errno 21 w
  have hty := run_eql_iface_types (P := Tryd.prog) 184 40 (.pointer (some ⟨g, 0, none⟩)) (.int .i64 21) Tryd.underlying93 (by decide) w
  have c1 : w.cell? ⟨g, 2, none⟩ = some (.int .i64 21) := hb.cell 2
  go_enter Tryd.func59, Tryd.ntmps59
  go_wp2
  refine wp_loop_rounds 2 ?_
  rw [rounds_succ]
  go_wp2
  rw [rounds_succ]
  go_wp2
  go_ret
  exact ⟨rfl, rfl⟩
theorem run_neql_errno (w : World) : (binOp .eql 93 (.iface 40 (.int .i64 21)) (.iface 40 (.int .i64 20))).run Tryd.prog w = .ok (.bool false) w := by
  obtain ⟨i, hi, hcmp⟩ := Option.map_eq_some_iff.1 errnoComp
  have h : ∀ d : Nat, (Op.equalIn (d + 2) 93 (.iface 40 (.int .i64 21)) (.iface 40 (.int .i64 20))).run Tryd.prog w = .ok false w := fun d => by
    simp [Op.equalIn, run_underlying Tryd.underlying93, run_underlying Tryd.underlying40, typeInfo, hi, hcmp]
  simp only [binOp]
  simp [Op.equal, Op.maxDepth, h 9998]
theorem noIsE (v : Value) (xT : TypeId) (w : World) : (Instr.typeAssert (.iface 40 v) xT 232 true).run Tryd.prog w = .ok (.tuple #[.nilIface, .bool false]) w := run_typeAssert_lacksB Tryd.underlying232 (by kernel_rfl) (by kernel_rfl) v xT w
theorem noUnwrapE (v : Value) (xT : TypeId) (w : World) : (Instr.typeAssert (.iface 40 v) xT 235 true).run Tryd.prog w = .ok (.tuple #[.nilIface, .bool false]) w := run_typeAssert_lacksB Tryd.underlying235 (by kernel_rfl) (by kernel_rfl) v xT w
theorem noUnwrapL (v : Value) (xT : TypeId) (w : World) : (Instr.typeAssert (.iface 40 v) xT 237 true).run Tryd.prog w = .ok (.tuple #[.nilIface, .bool false]) w := run_typeAssert_lacksB Tryd.underlying237 (by kernel_rfl) (by kernel_rfl) v xT w
set_option maxRecDepth 100000 in
set_option maxHeartbeats 2000000 in
theorem polIsNo_any (g : Nat) (op role : Int) (w : World) (hb : Blk w g 186 (refP op role)) :
    Calls Tryd.prog 59 #[.iface 184 (.pointer (some ⟨g, 0, none⟩)), .iface 40 (.int .i64 20)] w fun e w' => e = .returned (.bool false) ∧ w = w' := by
  have h1 := @run_callFunc_extern Tryd.prog 112 _ Extern.ReflectliteType.typeOf Tryd.func112 (by kernel_rfl) (by kernel_rfl) (by kernel_rfl) (by kernel_rfl)
  have h2 := @run_callFunc_extern Tryd.prog 189 _ (Extern.ReflectliteType.method fun t => do Extern.Rtype.noPackHeld "Comparable" t; pure (.bool (← typeInfo t).comparable)) Tryd.func189 (by kernel_rfl) (by kernel_rfl) (by kernel_rfl) (by kernel_rfl)
  have tT := isTypeOf
  have cT := isComparable
  have mR := isMethodComparable
  have nW := noIs
  have uW := hasUnwrap
  have mU := methodUnwrap
  have heq := run_neql_errno w
  have nE := noIsE
  have nU := noUnwrapE
  have nL := noUnwrapL
  have hty := run_eql_iface_types (P := Tryd.prog) 184 40 (.pointer (some ⟨g, 0, none⟩)) (.int .i64 20) Tryd.underlying93 (by decide) w
  have c1 : w.cell? ⟨g, 2, none⟩ = some (.int .i64 21) := hb.cell 2
  go_enter Tryd.func59, Tryd.ntmps59
  go_wp2
  refine wp_loop_rounds 2 ?_
  rw [rounds_succ]
  go_wp2
  rw [rounds_succ]
  go_wp2
  go_ret
  exact ⟨rfl, rfl⟩
end Go.Proofs.YtfggbfnnibpohaaDoor
