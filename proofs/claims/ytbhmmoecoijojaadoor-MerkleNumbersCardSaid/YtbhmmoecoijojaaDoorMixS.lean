/- MIX: an operation whose guard does not hold is skipped. No condition. -/
import Derived.Test.YtbhmmoecoijojaaDoorMix
namespace Go.Proofs.YtbhmmoecoijojaaDoor
open Go Go.RowKit
section
variable {P : Program} {S : World → Prop} {l : List Oper} {K : Act → World → Prop} {p q : Plan} {i j : Nat} {o o' : Oper} {a : Act} {w : World}
theorem mix_skip (ho : opAt l i = some o) (hw : Region.wanted o (yielded l.toArray a.tmps) = false) (h : mixW P l.toArray K p S (a.put o.dst undef) w) : mixW P l.toArray K (.plain i p) S a w := by
  refine mix_plain ho ?_
  unfold wpQuiet
  rw [if_neg (by simp [hw])]
  exact h
/-- an operation whose guard holds is walked as one without a guard -/
theorem wpList_unguard {ops : Array Oper} {rest : List Oper} {Q : Exit → Act → World → Prop} (hw : Region.wanted o (yielded ops a.tmps) = true) (h : wpList P ops Q ({ o with guard := none } :: rest) a w) : wpList P ops Q (o :: rest) a w := by
  unfold wpList at h ⊢
  rw [if_pos hw]
  rw [if_pos (by simp [Region.wanted])] at h
  exact h
end
/-- the world at a call, by what is known of it -/
theorem calls_at {P : Program} {f : FuncId} {args : Array Value} {w : World} {R' : Ending → World → Prop} (R : World → Prop) (hR : R w) (h : ∀ W, R W → Calls P f args W R') : Calls P f args w R' := h w hR
theorem wpList_loadW {P : Program} {w : World} {ops : Array Oper} {rest : List Oper} {o : Oper} {a : Act} {Q : Exit → Act → World → Prop} (hw : Region.wanted o (yielded ops a.tmps) = true) (ty : TypeId) (x : Operand) (ho : o.op = .load ty x) (g : Nat) (hx : a.eval x = .pointer (some ⟨g, 0, none⟩)) (t : TypeId) (cs : Array Value) (d : TypeDesc)
    (hg : Blk w g t cs) (hu : P.underlying ty = some d) (hd : (match d with | .struct _ | .array _ _ => true | _ => false) = true) (hi : (P.info? ty).map (·.size) = some cs.size)
    (h : wpList P ops Q rest (a.put o.dst (.agg cs)) w) : wpList P ops Q (o :: rest) a w :=
  wpList_step fun K hK => by
    simp only [hw, if_true]
    unfold Oper.wp execOp
    simp only [ho, hx, Instr.loadAt, Instr.sureAddr, Sem.run_bind, Sem.run_pure, Result.andThen_ok, run_loadVar_row w g t ty cs _ d hg hu hd hi]
    exact hK _ _ h
theorem below_plusN {B : Nat} {W V : World} (h : Hid (B = W.heap.size)) (hb : Below B W V) : ∃ e, V = plus W e := below_plus (h.out ▸ hb)
theorem below_sizeN {B : Nat} {W V : World} (h : Hid (B = W.heap.size)) (hb : Below B W V) : B ≤ V.heap.size := by have := hb.size; have := h.out; omega
end Go.Proofs.YtbhmmoecoijojaaDoor
