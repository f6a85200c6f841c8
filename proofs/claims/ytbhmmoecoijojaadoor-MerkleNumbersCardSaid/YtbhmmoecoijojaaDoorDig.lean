/- Lists of digests: their cells, a literal of one, append of one onto a row of the call's own. No condition. -/
import Derived.Test.YtbhmmoecoijojaaDoorShaD
import Derived.Maps.AppendAt
import Derived.Deep.MidRow
namespace Go.Proofs.YtbhmmoecoijojaaDoor
open Go Go.RowKit
/-- the cells of a list of digests -/
def dcells (l : List (List UInt8)) : List Value := (l.map fun d => (dat d).toList).flatten
theorem dcells_snoc (l : List (List UInt8)) (d : List UInt8) : dcells (l ++ [d]) = dcells l ++ (dat d).toList := by simp [dcells]
theorem dcells_length (l : List (List UInt8)) : (dcells l).length = l.length * 32 := by
  unfold dcells
  induction l with
  | nil => rfl
  | cons d l ih => simp only [List.map_cons, List.flatten_cons, List.length_append, ih]; rw [show (dat d).toList.length = 32 by rw [Array.length_toList, dat_size]]; simp; omega
theorem dcells_at (l : List (List UInt8)) (k : Nat) (hk : k < l.length) (j : Nat) (hj : j < 32) : (dcells l)[k * 32 + j]? = (dat (l.getD k []))[j]? := by
  induction l generalizing k with
  | nil => simp at hk
  | cons d l ih =>
    have hd : (dat d).toList.length = 32 := by rw [Array.length_toList, dat_size]
    have e : dcells (d :: l) = (dat d).toList ++ dcells l := by simp [dcells]
    rw [e]
    cases k with
    | zero => rw [List.getElem?_append_left (by omega)]; simp
    | succ k =>
      rw [List.getElem?_append_right (by omega), hd, show (k + 1) * 32 + j - 32 = k * 32 + j by omega, ih k (by simpa using hk)]; simp
set_option maxRecDepth 100000 in
theorem build_digest (d : List UInt8) (w : World) : (Instr.buildSlice 37 1 #[(0, .agg (dat d))]).run Tryd.prog w = .ok (.slice (some ⟨w.heap.size, 0, none⟩) 1 1) (w.alloc (.cells (dat d) 27)) := by kernel_rfl
theorem wpList_buildD {w : World} {ops : Array Oper} {rest : List Oper} {o : Oper} {a : Act} {Q : Exit → Act → World → Prop} (hgd : o.guard = none) (x : Operand) (ho : o.op = .buildSlice 37 1 #[(0, x)]) (d : List UInt8) (hx : a.eval x = .agg (dat d))
    (h : wpList Tryd.prog ops Q rest (a.put o.dst (.slice (some ⟨w.heap.size, 0, none⟩) 1 1)) (w.alloc (.cells (dat d) 27))) : wpList Tryd.prog ops Q (o :: rest) a w :=
  wpList_plain hgd fun K hK => by
    unfold Oper.wp execOp
    simp only [ho, List.map_toArray, List.map_cons, List.map_nil, hx, Sem.run_bind, build_digest d, Result.andThen_ok, Sem.run_pure]
    exact hK _ _ h
theorem own_oneD (w : World) (base : Nat) (hb : base ≤ w.heap.size) (d : List UInt8) : (w.alloc (.cells (dat d) 27)).ownsRow base 27 32 (.slice (some ⟨w.heap.size, 0, none⟩) 1 1) ([d] : List (List UInt8)).length (dcells [d]) := by
  have hl : (dcells [d]) = (dat d).toList := by simp [dcells]
  refine ⟨by rw [hl, Array.length_toList, dat_size]; rfl, .inr ⟨w.heap.size, 1, dat d, rfl, hb, heap_alloc_new w _, Nat.le_refl _, by decide, by rw [dat_size], ?_⟩⟩
  rw [hl, List.take_of_length_le (by rw [Array.length_toList, dat_size]; show 32 ≤ 1 * 32; decide)]
theorem range_plus {w : World} {b off : Nat} {cs : List Value} (h : w.rangeAt b off cs) (e : Ext) : (plus w e).rangeAt b off cs := fun j v hj => by
  have h1 := h j v hj
  rw [plus_cell w e ⟨b, off + j, none⟩ (block_lt_of_cell h1)]; exact h1
section
variable {ops : Array Oper} {Q : Act → Prop} {a : Act} {o : Oper} {rest : List Oper}
theorem wpQuiet_loadMid {P : Program} {C : World → Prop} (hw : Region.wanted o (yielded ops a.tmps) = true) (ty : TypeId) (x : Operand) (ho : o.op = .load ty x) (b off : Nat) (hx : a.eval x = .pointer (some ⟨b, off, none⟩)) (cs : Array Value) (d : TypeDesc) (hS : ∀ w, C w → w.rangeAt b off cs.toList)
    (hu : P.underlying ty = some d) (hd : d.isRow = true) (hi : (P.info? ty).map (·.size) = some cs.size) (hk : wpQuiet P ops C Q rest (a.put o.dst (.agg cs))) : wpQuiet P ops C Q (o :: rest) a :=
  wpQuiet_wanted hw _ (fun w hC => by
    unfold Oper.quietAt execOp
    simp only [ho, hx, Instr.loadAt, Instr.sureAddr, Sem.run_bind, Sem.run_pure, Result.andThen_ok, run_loadVar_mid w b off ty cs.toList d (hS w hC) hu hd (by simpa using hi)]
    exact ⟨rfl, by simp⟩) hk
end
/-- append of one digest onto a row of digests of the call's own -/
theorem wpList_appendDig {w : World} {ops : Array Oper} {rest : List Oper} {o : Oper} {a : Act} {Q : Exit → Act → World → Prop} (hgd : o.guard = none) (s x : Operand)
    (ho : o.op = .call { callee := .builtin .append, args := #[s, x], argTypes := #[37, 37] })
    (base : Nat) (v : Value) (ds : List (List UInt8)) (hs : a.eval s = v) (hown : w.ownsRow base 27 32 v ds.length (dcells ds))
    (g : Nat) (d : List UInt8) (hx : a.eval x = .slice (some ⟨g, 0, none⟩) 1 1) (hX : Blk w g 27 (dat d)) (hl : ds.length ≤ 1000000000) (hbase : base ≤ w.heap.size)
    (h : ∀ v' w', w'.ownsRow base 27 32 v' (ds ++ [d]).length (dcells (ds ++ [d])) → w.grownBy w' v.ownBlock → wpList Tryd.prog ops Q rest (a.put o.dst v') w') : wpList Tryd.prog ops Q (o :: rest) a w := by
  obtain ⟨i0, hi, hz0, hz1, hz2⟩ := info_parts (by kernel_rfl : (Tryd.prog.info? 27).map (fun i => (i.zero, i.size, i.bytes)) = some (some (.agg (arr 32 fun _ => 0)), 32, 32))
  refine wpList_append_own_at _ hgd s x _ ho base 27 i0 _ 32 32 Tryd.underlying37 hi hz0 hz1 hz2 (by show (arr 32 fun _ => 0).size = 32; exact arr_size _ _) (by decide) v _ _ hs hown ⟨g, 0, none⟩ 1 1 (dat d).toList hx (by rw [Array.length_toList, dat_size]) (fun j u hj => by
      have e : (⟨g, 0, none⟩ : Addr).add j = ⟨g, j, none⟩ := by unfold Addr.add; split <;> simp_all
      rw [e, hX.cell, ← hj]; simp) (arr_one _ _) (by unfold maxLen; omega) (by omega) hbase ?_
  intro v' w' hown' hg _ _
  rw [← dcells_snoc] at hown'
  exact h v' w' (by rw [List.length_append]; exact hown') hg
end Go.Proofs.YtbhmmoecoijojaaDoor
