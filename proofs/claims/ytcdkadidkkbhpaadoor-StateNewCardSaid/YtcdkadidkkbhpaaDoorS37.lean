/- Texts that stand behind one another: RencE. No condition. -/
import Derived.Test.YtcdkadidkkbhpaaDoorS36
import Derived.Test.YtcdkadidkkbhpaaDoorS23
/- deponentref19.truth, with what it leaves of the blocks that are no bytes; what the walk of the reference's Encode holds. No condition. -/
namespace Go.Proofs.YtcdkadidkkbhpaaDoor
open Go Go.RowKit
/-- append of one byte, with what it leaves of the blocks of other types -/
theorem wpList_append1K {wr : World} {ops : Array Oper} {rest : List Oper} {o : Oper} {a : Act} {Q : Exit → Act → World → Prop} (hgd : o.guard = none) (s x : Operand)
    (ho : o.op = .call { callee := .builtin .append, args := #[s, x], argTypes := #[23, 23] })
    (base : Nat) (v : Value) (xs : List Value) (hs : a.eval s = v) (hown : wr.ownsRow base 5 1 v xs.length xs) (u : Value) (hu : u.oneCell' = true)
    (hx : a.eval x = .slice (some ⟨wr.heap.size, 0, none⟩) 1 1) (hlen : xs.length + 1 ≤ 140737488355328) (hbase : base ≤ wr.heap.size)
    (h : ∀ v' w', w'.ownsRow base 5 1 v' (xs ++ [u]).length (xs ++ [u]) → Below base wr w' → (∀ k t cs, Blk wr k t cs → t ≠ 5 → Blk w' k t cs) → wpList Tryd.prog ops Q rest (a.put o.dst v') w') :
    wpList Tryd.prog ops Q (o :: rest) a (wr.alloc (Obj.cells #[u] 5)) := by
  obtain ⟨i0, hi, hz0, hz1, hz2⟩ := info_parts (by kernel_rfl : (Tryd.prog.info? 5).map (fun i => (i.zero, i.size, i.bytes)) = some (some (.int .u8 0), 1, 1))
  have hbt : base ≤ (wr.alloc (Obj.cells #[u] 5)).heap.size := Nat.le_trans hbase (below_new1 wr _).size
  refine wpList_appendR hgd s x _ ho base 5 i0 _ 1 Tryd.underlying23 hi hz0 hz1 hz2 rfl v xs hs (own_below hown (below_new1 wr _)) (wr.heap.size + 1) (some ⟨wr.heap.size, 0, none⟩) 1 1 [u] hx (show Reads (wr.alloc (Obj.cells #[u] 5)) (wr.heap.size + 1) (some ⟨wr.heap.size, 0, none⟩) [u] from Reads.of_blk (Blk.new wr 5 #[u]) (by omega) 0) rfl (fun u' hu' => by rw [List.mem_singleton] at hu'; subst hu'; exact hu) (by unfold maxLen; omega) (by omega) hbt ?_
  intro v' w' hown' hg hat
  exact h v' w' hown' (below_own ((below_new1 wr _).mono hbase) (own_below hown (below_new1 wr _)) hg hbt) fun k t cs hk ht => Blk.grown (hk.below (below_new1 wr _) hk.lt) hg (fun e => own_ne hk hown ht e.symm)
set_option maxHeartbeats 400000 in
set_option maxRecDepth 100000 in
theorem rtruthK (u : Value) (bs : List UInt8) (b : Bool) (B : Nat) (w : World) (hu : RwB w B u bs) (hB : B ≤ w.heap.size) (hl : bs.length ≤ 140737488355264) :
    Calls Tryd.prog 48 #[u, .bool b] w fun e w' => ∃ v, e = .returned v ∧ RwB w' B v (bs ++ flagB b) ∧ Below B w w' ∧ ∀ k t cs, Blk w k t cs → t ≠ 5 → Blk w' k t cs := by
  have hlen : (bs.map v8).length + 1 ≤ 140737488355328 := by rw [List.length_map]; omega
  have ho : w.ownsRow B 5 1 u (bs.map v8).length (bs.map v8) := hu
  have hf : ∀ c : UInt8, bs.map v8 ++ [v8 c] = (bs ++ [c]).map v8 := fun c => by rw [List.map_append]; rfl
  have HF := Lib.hid hf
  clear hu hf
  go_enter Tryd.func48, Tryd.ntmps48
  cases b
  · go_wp2_with (first
      | (at_builtin; refine wpList_append1K rfl (.tmp 9) (.tmp 10) rfl B _ _ rfl ho (v8 0) rfl rfl hlen hB ?_; intro u9 w9 hown9 hb9 hk9; have HK := Lib.hid hk9; clear hk9))
    go_ret
    rw [HF.out] at hown9
    exact ⟨u9, rfl, hown9, hb9, HK.out⟩
  · go_wp2_with (first
      | (at_builtin; refine wpList_append1K rfl (.tmp 6) (.tmp 7) rfl B _ _ rfl ho (v8 1) rfl rfl hlen hB ?_; intro u9 w9 hown9 hb9 hk9; have HK := Lib.hid hk9; clear hk9))
    go_ret
    rw [HF.out] at hown9
    exact ⟨u9, rfl, hown9, hb9, HK.out⟩
/-- what the walk of Encode holds: the bytes so far, the state -/
def RnF (w : World) (sC : Array Value) (W : World) (v : Value) (bs : List UInt8) : Prop := RwB W (w.heap.size + 1) v bs ∧ Blk W w.heap.size 62 sC ∧ Below w.heap.size w W
section
variable {w W W' : World} {sC : Array Value} {v v' : Value} {bs bs' : List UInt8}
theorem RnF.lo (h : RnF w sC W v bs) : w.heap.size + 1 ≤ W.heap.size := h.2.1.lt
theorem RnF.next (h : RnF w sC W v bs) (hb : Below W.heap.size W W') : RnF w sC W' v bs :=
  ⟨own_below h.1 hb, h.2.1.below hb h.2.1.lt, h.2.2.trans (hb.mono h.2.2.size)⟩
theorem RnF.step (h : RnF w sC W v bs) (hb : Below W.heap.size W W') (ho : RwB W' W.heap.size v' bs') : RnF w sC W' v' bs' :=
  ⟨RwB.mono ho h.lo, h.2.1.below hb h.2.1.lt, h.2.2.trans (hb.mono h.2.2.size)⟩
theorem RnF.stepK (h : RnF w sC W v bs) (hb : Below (w.heap.size + 1) W W') (ho : RwB W' (w.heap.size + 1) v' bs') : RnF w sC W' v' bs' :=
  ⟨ho, h.2.1.below hb (Nat.lt_succ_self _), h.2.2.trans (hb.mono (Nat.le_succ _))⟩
end
theorem tre_sig_range {W : World} {b : Nat} {ty : TypeId} {t : TreL} {d l q : Value} (h : Blk W b ty (treC t d l q)) : W.rangeAt b 7 (sigC t.head t.tag).toList := fun j v hj => by
  rw [h.cell, treC_sig, ← hj]
  simp
theorem zero_rtenant (w : World) : (zeroValue 109).run Tryd.prog w = .ok (.agg (tenC zeroTen)) w := by kernel_rfl
theorem zero_rgrant (w : World) : (zeroValue 114).run Tryd.prog w = .ok (.agg (graC ⟨0, 0, 0, false⟩)) w := by kernel_rfl
theorem zero_rtree (w : World) : (zeroValue 111).run Tryd.prog w = .ok (.agg (treC ⟨0, 0, 0, 0, [], [], [], zeroHead, []⟩ (.slice none 0 0) (.slice none 0 0) (.slice none 0 0))) w := by kernel_rfl
end Go.Proofs.YtcdkadidkkbhpaaDoor
