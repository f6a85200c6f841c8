/- Texts that stand behind one another: PolAs. No condition. -/
import Derived.Test.YtfggbfnnibpohaaDoorChecked
import Derived.WalkKit
import Derived.LaidEql
import Derived.Stop.Asserts
import Derived.RowKitTokens
/- errors.As at a *policy.Refusal: turned from the guide's worked example. Condition: the variable errors.errorType. -/
namespace Go.Proofs.YtfggbfnnibpohaaDoor
open Go Go.RowKit Go.Extern.Stop Go.Stop Go.Extern
theorem pa_valueOf27 (t : Addr) (w : World) : (ReflectliteValue.unpack (.iface 222 (.pointer (some t)))).run Tryd.prog w
    = .ok (.agg #[.pointer (some ⟨6, 222, none⟩), .pointer (some ⟨w.heap.size, 0, none⟩), .int .u64 150]) (w.alloc (.cells #[.pointer (some t)] 222)) := by kernel_rfl
theorem pa_type27 (a : Addr) (w : World) : (ReflectliteValue.methodAny (ReflectliteValue.valueError "reflectlite.Value.Type" 0) (fun t _ _ _ => ReflectliteType.toType t) #[.agg #[.pointer (some ⟨6, 222, none⟩), .pointer (some a), .int .u64 150]]).run Tryd.prog w
    = .ok (.iface 230 (.agg #[.pointer (some ⟨6, 222, none⟩)])) w := by kernel_rfl
theorem pa_methodKind (h : Value) (w : World) : (Go.method 402 230 (.agg #[h]) "Kind").run Tryd.prog w = .ok (180, h) w := by kernel_rfl
theorem pa_kind27 (w : World) : ((ReflectliteType.abiMethod fun t => (fun a : Nat => Value.int IntKind.u8 (a : Int)) <$> Rtype.kind t) #[.pointer (some ⟨6, 222, none⟩)]).run Tryd.prog w = .ok (.int .u8 22) w := by kernel_rfl
theorem pa_kind25 (w : World) : ((ReflectliteType.abiMethod fun t => (fun a : Nat => Value.int IntKind.u8 (a : Int)) <$> Rtype.kind t) #[.pointer (some ⟨6, 184, none⟩)]).run Tryd.prog w = .ok (.int .u8 22) w := by kernel_rfl

theorem pa_rlm (z : Sem Value) (f : TypeId → Addr → Nat → Nat → Sem Value) (v : Value) :
    ReflectliteValue.method z f #[v] = (do match ← ReflectliteValue.parts v with | none => z | some (t, a, fl) => f t a fl (fl % 32)) := rfl
theorem pa_parts27 (a : Addr) (w : World) : (ReflectliteValue.parts (.agg #[.pointer (some ⟨6, 222, none⟩), .pointer (some a), .int .u64 150])).run Tryd.prog w = .ok (some (222, a, 150)) w := by kernel_rfl
theorem pa_isNil27 (a p : Addr) (W : World) (ha : W.cell? a = some (.pointer (some p))) :
    (ReflectliteValue.method (ReflectliteValue.valueError "reflectlite.Value.IsNil" 0) ReflectliteValue.isNil #[.agg #[.pointer (some ⟨6, 222, none⟩), .pointer (some a), .int .u64 150]]).run Tryd.prog W = .ok (.bool false) W := by
  rw [pa_rlm]
  simp only [Sem.run_bind, pa_parts27, Result.andThen]
  simp [ReflectliteValue.isNil, loadVar, isAgg, underlying, Tryd.underlying222, ha, Result.andThen]

theorem pa_methodElem (h : Value) (w : World) : (Go.method 402 230 (.agg #[h]) "Elem").run Tryd.prog w = .ok (190, .agg #[h]) w := by kernel_rfl
theorem pa_methodImplements (h : Value) (w : World) : (Go.method 402 230 (.agg #[h]) "Implements").run Tryd.prog w = .ok (191, .agg #[h]) w := by kernel_rfl
theorem pa_methodAssignableTo (h : Value) (w : World) : (Go.method 402 230 (.agg #[h]) "AssignableTo").run Tryd.prog w = .ok (188, .agg #[h]) w := by kernel_rfl
theorem pa_elem27 (w : World) : (ReflectliteType.method ReflectliteType.elem #[.agg #[.pointer (some ⟨6, 222, none⟩)]]).run Tryd.prog w = .ok (.iface 230 (.agg #[.pointer (some ⟨6, 184, none⟩)])) w := by kernel_rfl
theorem pa_implements25 (w : World) : (ReflectliteType.relation "Implements" ReflectliteType.implements_ #[.agg #[.pointer (some ⟨6, 184, none⟩)], .iface 230 (.agg #[.pointer (some ⟨6, 93, none⟩)])]).run Tryd.prog w = .ok (.bool true) w := by kernel_rfl
theorem pa_typeOf25 (v : Value) (w : World) : (ReflectliteType.typeOf #[.iface 184 v]).run Tryd.prog w = .ok (.iface 230 (.agg #[.pointer (some ⟨6, 184, none⟩)])) w := by kernel_rfl
theorem pa_assignable25 (w : World) : (ReflectliteType.relation "AssignableTo" ReflectliteType.assignableTo #[.agg #[.pointer (some ⟨6, 184, none⟩)], .iface 230 (.agg #[.pointer (some ⟨6, 184, none⟩)])]).run Tryd.prog w = .ok (.bool true) w := by kernel_rfl
theorem pa_valueOf25 (e : Addr) (w : World) : (ReflectliteValue.unpack (.iface 184 (.pointer (some e)))).run Tryd.prog w
    = .ok (.agg #[.pointer (some ⟨6, 184, none⟩), .pointer (some ⟨w.heap.size, 0, none⟩), .int .u64 150]) (w.alloc (.cells #[.pointer (some e)] 184)) := by kernel_rfl

theorem pa_elemOf27 (w : World) : (Rtype.elem? 222).run Tryd.prog w = .ok (some 184) w := by kernel_rfl
theorem pa_mk25 (p : Addr) (w : World) : (ReflectliteValue.mk 184 p ReflectliteValue.flagAddr).run Tryd.prog w = .ok (.agg #[.pointer (some ⟨6, 184, none⟩), .pointer (some p), .int .u64 406]) w := by kernel_rfl
theorem pa_elemV27 (a p : Addr) (W : World) (ha : W.cell? a = some (.pointer (some p))) :
    (ReflectliteValue.method (ReflectliteValue.valueError "reflectlite.Value.Elem" 0) ReflectliteValue.elem #[.agg #[.pointer (some ⟨6, 222, none⟩), .pointer (some a), .int .u64 150]]).run Tryd.prog W
      = .ok (.agg #[.pointer (some ⟨6, 184, none⟩), .pointer (some p), .int .u64 406]) W := by
  rw [pa_rlm]
  simp only [Sem.run_bind, pa_parts27, Result.andThen]
  simp [ReflectliteValue.elem, loadVar, isAgg, underlying, Tryd.underlying222, ha, Result.andThen, pa_elemOf27, pa_mk25]
theorem pa_rls (v x : Value) : ReflectliteValue.set #[v, x] = (do
    let (some (dst, a, fl), some (src, b, _)) := (← ReflectliteValue.parts v, ← ReflectliteValue.parts x)
      | unsupported (.noEntry "extern/(internal/reflectlite.Value).Set.zeroValue")
    if fl / ReflectliteValue.flagAddr % 2 == 0 then unsupported (.noEntry "extern/(internal/reflectlite.Value).Set.unaddressable")
    let val ← loadVar src b
    if ← Rtype.directlyAssignable dst src then storeVar dst a val
    else if ← Rtype.implements dst src then
      if (← Rtype.kind src) == 20 then
        match val with
        | .nilIface => unsupported (.noEntry "extern/reflectlite: a nil value of one interface type handed on as a value of another")
        | _ => storeVar dst a val
      else storeVar dst a (.iface src val)
    else panicString ("reflectlite.Set: value of type " ++ (← Rtype.spelt src) ++ " is not assignable to type " ++ (← Rtype.spelt dst))
    pure (.tuple #[])) := rfl
theorem pa_parts25a (a : Addr) (w : World) : (ReflectliteValue.parts (.agg #[.pointer (some ⟨6, 184, none⟩), .pointer (some a), .int .u64 406])).run Tryd.prog w = .ok (some (184, a, 406)) w := by kernel_rfl
theorem pa_parts25 (a : Addr) (w : World) : (ReflectliteValue.parts (.agg #[.pointer (some ⟨6, 184, none⟩), .pointer (some a), .int .u64 150])).run Tryd.prog w = .ok (some (184, a, 150)) w := by kernel_rfl
theorem pa_direct25 (w : World) : (Rtype.directlyAssignable 184 184).run Tryd.prog w = .ok true w := by kernel_rfl
theorem pa_size25 (w : World) : (sizeOf 184).run Tryd.prog w = .ok 1 w := by kernel_rfl
theorem pa_set25 (ta b e : Addr) (old : Value) (W : World) (hb : W.cell? b = some (.pointer (some e))) (ht : W.cell? ta = some old) (hf : W.frozen? ta = false) :
    (ReflectliteValue.set #[.agg #[.pointer (some ⟨6, 184, none⟩), .pointer (some ta), .int .u64 406], .agg #[.pointer (some ⟨6, 184, none⟩), .pointer (some b), .int .u64 150]]).run Tryd.prog W
      = .ok (.tuple #[]) (W.setCell ta (.pointer (some e))) := by
  rw [pa_rls]
  simp only [Sem.run_bind, pa_parts25a, pa_parts25, Result.andThen]
  simp [ReflectliteValue.flagAddr, loadVar, isAgg, underlying, Tryd.underlying184, hb, Result.andThen, pa_direct25, storeVar, Value.cells, storeCells, Addr.add]
  rw [run_store Tryd.prog W ta _ _ (by rfl)]
  simp [ht, hf]

set_option maxHeartbeats 4000000 in
theorem polAs_hit (e t : Addr) (old : Value) (w : World) (hg : w.cell? ⟨1, 0, none⟩ = some (.iface 230 (.agg #[.pointer (some ⟨6, 93, none⟩)]))) (ht0 : w.cell? t = some old) (hf0 : w.frozen? t = false) :
    Calls Tryd.prog 128 #[.iface 184 (.pointer (some e)), .iface 222 (.pointer (some t))] w fun ev w' => ev = .returned (.bool true) ∧ w' = ((((w.alloc (.cells #[.pointer (some t)] 222)).alloc (.cells #[.pointer (some ⟨6, 222, none⟩), .pointer (some ⟨w.heap.size, 0, none⟩), .int .u64 150] 249)).alloc (.cells #[.pointer (some ⟨6, 222, none⟩), .pointer (some ⟨w.heap.size, 0, none⟩), .int .u64 150] 249)).alloc (.cells #[.pointer (some e)] 184)).setCell t (.pointer (some e)) := by
  have h6 := @run_callFunc_extern Tryd.prog 141 _ (fun args => ReflectliteValue.unpack (args.getD 0 (.tuple #[]))) Tryd.func141 (by kernel_rfl) (by kernel_rfl) (by kernel_rfl) (by kernel_rfl)
  have h7 := @run_callFunc_extern Tryd.prog 142 _ (ReflectliteValue.methodAny (ReflectliteValue.valueError "reflectlite.Value.Type" 0) (fun t _ _ _ => ReflectliteType.toType t)) Tryd.func142 (by kernel_rfl) (by kernel_rfl) (by kernel_rfl) (by kernel_rfl)
  have h8 := @run_callFunc_extern Tryd.prog 143 _ (ReflectliteValue.method (ReflectliteValue.valueError "reflectlite.Value.IsNil" 0) ReflectliteValue.isNil) Tryd.func143 (by kernel_rfl) (by kernel_rfl) (by kernel_rfl) (by kernel_rfl)
  have h27 := @run_callFunc_extern Tryd.prog 180 _ (ReflectliteType.abiMethod fun t => do pure (.int .u8 (← Rtype.kind t))) Tryd.func180 (by kernel_rfl) (by kernel_rfl) (by kernel_rfl) (by kernel_rfl)
  have h37 := @run_callFunc_extern Tryd.prog 190 _ (ReflectliteType.method ReflectliteType.elem) Tryd.func190 (by kernel_rfl) (by kernel_rfl) (by kernel_rfl) (by kernel_rfl)
  have h38 := @run_callFunc_extern Tryd.prog 191 _ (ReflectliteType.relation "Implements" ReflectliteType.implements_) Tryd.func191 (by kernel_rfl) (by kernel_rfl) (by kernel_rfl) (by kernel_rfl)
  have h10 := @run_callFunc_extern Tryd.prog 112 _ ReflectliteType.typeOf Tryd.func112 (by kernel_rfl) (by kernel_rfl) (by kernel_rfl) (by kernel_rfl)
  have h35 := @run_callFunc_extern Tryd.prog 188 _ (ReflectliteType.relation "AssignableTo" ReflectliteType.assignableTo) Tryd.func188 (by kernel_rfl) (by kernel_rfl) (by kernel_rfl) (by kernel_rfl)
  have h11 := @run_callFunc_extern Tryd.prog 152 _ (ReflectliteValue.method (ReflectliteValue.valueError "reflectlite.Value.Elem" 0) ReflectliteValue.elem) Tryd.func152 (by kernel_rfl) (by kernel_rfl) (by kernel_rfl) (by kernel_rfl)
  have h12 := @run_callFunc_extern Tryd.prog 153 _ ReflectliteValue.set Tryd.func153 (by kernel_rfl) (by kernel_rfl) (by kernel_rfl) (by kernel_rfl)
  have tO := pa_typeOf25
  have mA := pa_methodAssignableTo
  have a25 := pa_assignable25
  have v25 := pa_valueOf25
  have f6 := pa_valueOf27
  have f7 := pa_type27
  have mK := pa_methodKind
  have mE := pa_methodElem
  have mI := pa_methodImplements
  have k27 := pa_kind27
  have k25 := pa_kind25
  have e27 := pa_elem27
  have i25 := pa_implements25
  have n8 := pa_isNil27 ⟨w.heap.size, 0, none⟩ t ((w.alloc (.cells #[.pointer (some t)] 222)).alloc (.cells #[.pointer (some ⟨6, 222, none⟩), .pointer (some ⟨w.heap.size, 0, none⟩), .int .u64 150] 249)) (by simp)
  have hlt : 1 < w.heap.size := by
    rcases Nat.lt_or_ge 1 w.heap.size with h | h
    · exact h
    · simp [World.cell?, Array.getElem?_eq_none h] at hg
  have hg2 : ((w.alloc (.cells #[.pointer (some t)] 222)).alloc (.cells #[.pointer (some ⟨6, 222, none⟩), .pointer (some ⟨w.heap.size, 0, none⟩), .int .u64 150] 249)).cell? ⟨1, 0, none⟩ = some (.iface 230 (.agg #[.pointer (some ⟨6, 93, none⟩)])) := by
    rw [World.cell?_alloc_lt _ _ ⟨1, 0, none⟩ (by first | (simp; done) | (simp; omega)), World.cell?_alloc_lt _ _ ⟨1, 0, none⟩ hlt]; exact hg
  have htl : t.block < w.heap.size := by
    rcases Nat.lt_or_ge t.block w.heap.size with h | h
    · exact h
    · simp [World.cell?, Array.getElem?_eq_none h] at ht0
  have el := pa_elemV27 ⟨w.heap.size, 0, none⟩ t (((w.alloc (.cells #[.pointer (some t)] 222)).alloc (.cells #[.pointer (some ⟨6, 222, none⟩), .pointer (some ⟨w.heap.size, 0, none⟩), .int .u64 150] 249)).alloc (.cells #[.pointer (some ⟨6, 222, none⟩), .pointer (some ⟨w.heap.size, 0, none⟩), .int .u64 150] 249)) (by rw [World.cell?_alloc_lt _ _ ⟨w.heap.size, 0, none⟩ (by simp; omega)]; simp)
  have st := pa_set25 t ⟨w.heap.size + 1 + 1 + 1, 0, none⟩ e old ((((w.alloc (.cells #[.pointer (some t)] 222)).alloc (.cells #[.pointer (some ⟨6, 222, none⟩), .pointer (some ⟨w.heap.size, 0, none⟩), .int .u64 150] 249)).alloc (.cells #[.pointer (some ⟨6, 222, none⟩), .pointer (some ⟨w.heap.size, 0, none⟩), .int .u64 150] 249)).alloc (.cells #[.pointer (some e)] 184))
    (by rw [World.cell?_alloc_at _ _ _ _ (by simp)]; rfl)
    (by rw [World.cell?_alloc_lt _ _ t (by simp; omega), World.cell?_alloc_lt _ _ t (by simp; omega), World.cell?_alloc_lt _ _ t (by simp; omega), World.cell?_alloc_lt _ _ t htl]; exact ht0)
    (by rw [World.frozen?_alloc_old _ _ t (by simp; omega), World.frozen?_alloc_old _ _ t (by simp; omega), World.frozen?_alloc_old _ _ t (by simp; omega), World.frozen?_alloc_old _ _ t (Nat.ne_of_lt htl)]; exact hf0)
  go_enter Tryd.func128, Tryd.ntmps128
  go_wp2
  refine wp_loop_rounds 1 ?_
  rw [rounds_succ]
  go_wp2
  go_ret
  exact ⟨rfl, rfl⟩
end Go.Proofs.YtfggbfnnibpohaaDoor
