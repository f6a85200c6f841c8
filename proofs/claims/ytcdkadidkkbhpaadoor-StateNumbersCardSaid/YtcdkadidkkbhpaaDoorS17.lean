/- Texts that stand behind one another: Tbl, AudG, AudE, AudZ, AudH. No condition. -/
import Derived.Test.YtcdkadidkkbhpaaDoorS8
import Derived.Test.YtcdkadidkkbhpaaDoorS16
import Derived.Test.YtcdkadidkkbhpaaDoorS14
import Derived.Test.YtcdkadidkkbhpaaDoorS13
/- The reference's table stays in later worlds. No condition. -/
namespace Go.Proofs.YtcdkadidkkbhpaaDoor
open Go.RowKit
theorem Tbl.nxt {w w' : World} {t : Value} (h : Tbl w w.heap.size t) (hb : Below w.heap.size w w') : Tbl w' w'.heap.size t := by
  obtain ⟨g, rfl, hg, hT⟩ := h; exact ⟨g, rfl, Nat.lt_of_lt_of_le hg hb.size, hT.below hb hg⟩
end Go.Proofs.YtcdkadidkkbhpaaDoor

/- The walk of law24's signed. No condition. -/
namespace Go.Proofs.YtcdkadidkkbhpaaDoor
open Go Go.RowKit
attribute [local irreducible] mixW
attribute [local go_sem] n8_lo n8_hi n64_lo n64_hi n32_lo n32_hi
theorem range_blk24 {W : World} {b : Nat} {t : TypeId} {cs : Array Value} (h : Blk W b t cs) : W.rangeAt b 0 cs.toList := fun j v hj => by
  rw [Nat.zero_add, h.cell, ← hj]; simp
/-- a head that is signed -/
def tag24 (h : HeadL) (draw : UInt32) : List UInt8 := tagL (keyL' seed24 h.tree h.epoch draw) h
end Go.Proofs.YtcdkadidkkbhpaaDoor

/- The walks of audit's See: no such tree, no such tag, the first head. No condition but the words of SHA-256. -/
namespace Go.Proofs.YtcdkadidkkbhpaaDoor
open Go Go.RowKit
attribute [local irreducible] mixW
attribute [local go_sem] n8_lo n8_hi n64_lo n64_hi n32_lo n32_hi
theorem zero_head24 (w : World) : (zeroValue 40).run Tryd.prog w = .ok (.agg (headC zeroHead)) w := by kernel_rfl
end Go.Proofs.YtcdkadidkkbhpaaDoor

/- The walk of audit's Size. No condition. -/
namespace Go.Proofs.YtcdkadidkkbhpaaDoor
open Go Go.RowKit
attribute [local irreducible] mixW
attribute [local go_sem] n8_lo n8_hi n64_lo n64_hi n32_lo n32_hi
theorem fld_head (h : HeadL) (tag : List UInt8) (w : World) : (Instr.field 42 (.agg (sigC h tag)) 0).run Tryd.prog w = .ok (.agg (headC h)) w := by kernel_rfl
theorem fld_size (h : HeadL) (w : World) : (Instr.field 40 (.agg (headC h)) 2).run Tryd.prog w = .ok (.int .u64 (n64 h.size)) w := by kernel_rfl
end Go.Proofs.YtcdkadidkkbhpaaDoor

/- The walk of audit's follows: a head of the same size with another root; a greater one, by what verify.Prefix says. No condition. -/
namespace Go.Proofs.YtcdkadidkkbhpaaDoor
open Go Go.RowKit
attribute [local irreducible] mixW
attribute [local go_sem] n8_lo n8_hi n64_lo n64_hi n32_lo n32_hi
theorem wpList_loadR {P : Program} {w : World} {ops : Array Oper} {rest : List Oper} {o : Oper} {a : Act} {Q : Exit → Act → World → Prop} (ty : TypeId) (x : Operand) (ho : o.op = .load ty x) (b off : Nat) (hx : a.eval x = .pointer (some ⟨b, off, none⟩)) (cs : Array Value) (d : TypeDesc)
    (hS : w.rangeAt b off cs.toList) (hu : P.underlying ty = some d) (hd : d.isRow = true) (hi : (P.info? ty).map (·.size) = some cs.size) (hw : Region.wanted o (yielded ops a.tmps) = true)
    (h : wpList P ops Q rest (a.put o.dst (.agg cs)) w) : wpList P ops Q (o :: rest) a w := wpList_loadMid hw ty x ho b off hx cs d hS hu hd hi h
theorem wpList_neDG {w : World} {ops : Array Oper} {rest : List Oper} {o : Oper} {a : Act} {Q : Exit → Act → World → Prop} (x y : Operand) (yt : TypeId) (ho : o.op = .binOp .neq 38 x y yt) (X Y : List UInt8) (hx : a.eval x = .agg (dat X)) (hy : a.eval y = .agg (dat Y)) (hX : X.length = 32) (hY : Y.length = 32) (b : Bool) (hb : decide (X = Y) = b) (hw : Region.wanted o (yielded ops a.tmps) = true)
    (h : wpList Tryd.prog ops Q rest (a.put o.dst (.bool (!b))) w) : wpList Tryd.prog ops Q (o :: rest) a w :=
  wpList_unguard hw (wpList_neD (o := { o with guard := none }) rfl x y yt ho X Y hx hy hX hY b hb h)
theorem root_range {W : World} {b : Nat} {t : TypeId} {h : HeadL} (hb : Blk W b t (headC h)) : W.rangeAt b 4 (dat h.root).toList := fun j v hj => by
  rw [hb.cell, headC_root, ← hj]; simp
end Go.Proofs.YtcdkadidkkbhpaaDoor
