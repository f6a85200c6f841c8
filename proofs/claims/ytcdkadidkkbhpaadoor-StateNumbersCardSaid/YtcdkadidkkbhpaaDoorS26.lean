/- Texts that stand behind one another: VerA. No condition. -/
import Derived.Test.YtcdkadidkkbhpaaDoorS14
import Derived.Test.YtcdkadidkkbhpaaDoorS25
import Derived.Test.YtcdkadidkkbhpaaDoorS13
import Derived.Test.YtcdkadidkkbhpaaDoorS5
import Derived.Test.YtcdkadidkkbhpaaDoorS15
import Derived.Test.YtcdkadidkkbhpaaDoorS12
/- The walks of verify's cut, leaf and node, and of bytes.Equal. No condition. -/
namespace Go.Proofs.YtcdkadidkkbhpaaDoor
open Go Go.RowKit
attribute [local irreducible] mixW
attribute [local go_sem] n8_lo n8_hi n64_lo n64_hi n32_lo n32_hi
theorem wpList_str {w : World} {ops : Array Oper} {rest : List Oper} {o : Oper} {a : Act} {Q : Exit → Act → World → Prop} (hgd : o.guard = none) (x : Operand) (ho : o.op = .convert 23 9 x) (v : Value) (bs : List UInt8) (B : Nat) (hx : a.eval x = v) (hv : BSl w B v bs)
    (h : wpList Tryd.prog ops Q rest (a.put o.dst (strV bs)) w) : wpList Tryd.prog ops Q (o :: rest) a w :=
  wpList_plain hgd fun K hK => by
    unfold Oper.wp execOp
    simp only [ho, hx, Sem.run_bind, run_bytes_str hv, Result.andThen_ok, Sem.run_pure]
    exact hK _ _ h
theorem wpList_eqStr {w : World} {ops : Array Oper} {rest : List Oper} {o : Oper} {a : Act} {Q : Exit → Act → World → Prop} (hgd : o.guard = none) (x y : Operand) (yt : TypeId) (ho : o.op = .binOp .eql 9 x y yt) (X Y : List UInt8) (hx : a.eval x = strV X) (hy : a.eval y = strV Y)
    (b : Bool) (hb : decide (X = Y) = b) (h : wpList Tryd.prog ops Q rest (a.put o.dst (.bool b)) w) : wpList Tryd.prog ops Q (o :: rest) a w :=
  wpList_plain hgd fun K hK => by
    have hg : (eqGuard .eql 9 x y (strV X) (strV Y)).run Tryd.prog w = .ok () w := by unfold strV; simp [eqGuard]
    unfold Oper.wp execOp
    simp only [ho, hx, hy, Sem.run_bind, hg, run_strEq, hb, Result.andThen_ok, Sem.run_pure]
    exact hK _ _ h
theorem equal_any (u v : Value) (x y : List UInt8) (w : World) (hu : BSl w w.heap.size u x) (hv : BSl w w.heap.size v y) (b : Bool) (hb : decide (x = y) = b) :
    Calls Tryd.prog 32 #[u, v] w fun e w' => e = .returned (.bool b) ∧ w = w' := by
  have Hu := Lib.hid hu
  have Hv := Lib.hid hv
  have Hb := Lib.hid hb
  clear hu hv hb
  go_enter Tryd.func32, Tryd.ntmps32
  go_wp2_with (first
    | (refine wpList_str rfl (.tmp 5) rfl u x _ rfl Hu.out ?_)
    | (refine wpList_str rfl (.tmp 7) rfl v y _ rfl Hv.out ?_)
    | (refine wpList_eqStr rfl (.tmp 6) (.tmp 8) _ rfl x y rfl rfl b Hb.out ?_))
  go_ret
  exact ⟨rfl, rfl⟩
/-- a step's cells: its text and its hash -/
def stepC (u : Value) (d : List UInt8) : Array Value := (u :: (dat d).toList).toArray
theorem stepC_size (u : Value) (d : List UInt8) : (stepC u d).size = 33 := by unfold stepC; simp [dat_size]
theorem stepC_one (u : Value) (d : List UInt8) (h : u.oneCell' = true) : ∀ v ∈ (stepC u d).toList, v.oneCell' = true := by
  intro v hv
  unfold stepC at hv
  simp only [List.mem_cons] at hv
  rcases hv with rfl | hv
  · exact h
  · exact arr_one _ _ v (by simpa [dat] using hv)
def step0 : Array Value := (Value.slice none 0 0 :: (arr 32 fun _ => 0).toList).toArray
theorem step0_size : step0.size = 33 := by unfold step0; simp [arr_size]
end Go.Proofs.YtcdkadidkkbhpaaDoor
