/- Texts that stand behind one another: RdI. No condition. -/
import Derived.Test.YteonmcconpfkjaaDoorQ13
import Derived.LaidEql
import Derived.Stop.Asserts
import Derived.RowKitTokens
/- errors.Is at a *codec.Refusal and an api.Errno; '==' of two errors that are the same Errno. No condition. (414: how many types the seat's translation has, and 100; 5: how many package-level variables.) -/
namespace Go.Proofs.YteonmcconpfkjaaDoor
open Go Go.RowKit Go.Extern.Stop Go.Stop Go.Extern
theorem isTypeOf (v : Value) (w : World) : (Extern.ReflectliteType.typeOf #[.iface 48 v]).run Tryd.prog w = .ok (.iface 264 (.agg #[.pointer (some ⟨5, 48, none⟩)])) w := by kernel_rfl
theorem isComparable (w : World) : ((Extern.ReflectliteType.method fun t => do Extern.Rtype.noPackHeld "Comparable" t; (fun a => Value.bool a.comparable) <$> typeInfo t) #[.agg #[.pointer (some ⟨5, 48, none⟩)]]).run Tryd.prog w = .ok (.bool true) w := by kernel_rfl
theorem isMethodComparable (v : Value) (w : World) : (Go.method 414 264 v "Comparable").run Tryd.prog w = .ok (207, v) w := by kernel_rfl
theorem noIs (v : Value) (xT : TypeId) (w : World) : (Instr.typeAssert (.iface 231 v) xT 266 true).run Tryd.prog w = .ok (.tuple #[.nilIface, .bool false]) w := run_typeAssert_lacksB Tryd.underlying266 (by kernel_rfl) (by kernel_rfl) v xT w
theorem hasUnwrap (v : Value) (xT : TypeId) (w : World) : (Instr.typeAssert (.iface 231 v) xT 269 true).run Tryd.prog w = .ok (.tuple #[.iface 231 v, .bool true]) w := run_typeAssert_hasB Tryd.underlying269 (by kernel_rfl) v xT w
theorem methodUnwrap (v : Value) (w : World) : (Go.method 414 231 v "Unwrap").run Tryd.prog w = .ok (148, v) w := by kernel_rfl
theorem errnoComp : (Tryd.prog.info? 48).map (·.comparable) = some true := by kernel_rfl
theorem run_eql_errno (k : Int) (w : World) : (binOp .eql 129 (.iface 48 (.int .i64 k)) (.iface 48 (.int .i64 k))).run Tryd.prog w = .ok (.bool true) w := by
  obtain ⟨i, hi, hcmp⟩ := Option.map_eq_some_iff.1 errnoComp
  have h : ∀ d : Nat, (Op.equalIn (d + 2) 129 (.iface 48 (.int .i64 k)) (.iface 48 (.int .i64 k))).run Tryd.prog w = .ok true w := fun d => by
    simp [Op.equalIn, run_underlying Tryd.underlying129, run_underlying Tryd.underlying48, typeInfo, hi, hcmp]
  simp only [binOp]
  simp [Op.equal, Op.maxDepth, h 9998]
set_option maxRecDepth 100000 in
set_option maxHeartbeats 2000000 in
theorem errorsIs_any (g pos k : Nat) (w : World) (hb : Blk w g 236 #[.int .i64 (pos : Int), .int .i64 (k : Int)]) :
    Calls Tryd.prog 149 #[.iface 231 (.pointer (some ⟨g, 0, none⟩)), .iface 48 (.int .i64 (k : Int))] w fun e w' => e = .returned (.bool true) ∧ w = w' := by
  have h1 := @run_callFunc_extern Tryd.prog 167 _ Extern.ReflectliteType.typeOf Tryd.func167 (by kernel_rfl) (by kernel_rfl) (by kernel_rfl) (by kernel_rfl)
  have h2 := @run_callFunc_extern Tryd.prog 207 _ (Extern.ReflectliteType.method fun t => do Extern.Rtype.noPackHeld "Comparable" t; pure (.bool (← typeInfo t).comparable)) Tryd.func207 (by kernel_rfl) (by kernel_rfl) (by kernel_rfl) (by kernel_rfl)
  have tT := isTypeOf
  have cT := isComparable
  have mR := isMethodComparable
  have nW := noIs
  have uW := hasUnwrap
  have mU := methodUnwrap
  have heq := run_eql_errno (k : Int) w
  have hty := run_eql_iface_types (P := Tryd.prog) 231 48 (.pointer (some ⟨g, 0, none⟩)) (.int .i64 (k : Int)) Tryd.underlying129 (by decide) w
  have c1 : w.cell? ⟨g, 1, none⟩ = some (.int .i64 (k : Int)) := hb.cell 1
  go_enter Tryd.func149, Tryd.ntmps149
  go_wp2
  refine wp_loop_rounds 2 ?_
  rw [rounds_succ]
  go_wp2
  rw [rounds_succ]
  go_wp2
  go_ret
  exact ⟨rfl, rfl⟩
end Go.Proofs.YteonmcconpfkjaaDoor
