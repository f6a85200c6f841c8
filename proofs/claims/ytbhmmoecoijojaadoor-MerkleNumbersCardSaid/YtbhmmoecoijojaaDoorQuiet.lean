/- A class of worlds: w with new blocks behind it, and draws. Quiet laws over it; equality of arrays of bytes. No condition. -/
import Derived.Test.YtbhmmoecoijojaaDoorLaws
import Derived.Test.YtbhmmoecoijojaaDoorRegion
import Derived.Deep.QuietTactic
import Derived.ChangeKeysEq
namespace Go.Proofs.YtbhmmoecoijojaaDoor
open Go Go.RowKit
/-- What a call may have added. -/
structure Ext where
  blocks : Array Obj
  draws : Nat
instance : Nonempty Ext := ⟨⟨#[], 0⟩⟩
/-- w, with new blocks behind its own, and the count of draws set. -/
def plus (w : World) (e : Ext) : World := { w with heap := w.heap ++ e.blocks, drawn := e.draws }
theorem plus_block (w : World) (e : Ext) (k : Nat) (hk : k < w.heap.size) : (plus w e).heap[k]? = w.heap[k]? := by
  show (w.heap ++ e.blocks)[k]? = _
  rw [Array.getElem?_append_left hk]
theorem plus_size (w : World) (e : Ext) : (plus w e).heap.size = w.heap.size + e.blocks.size := by simp [plus]
theorem plus_le (w : World) (e : Ext) : w.heap.size ≤ (plus w e).heap.size := by rw [plus_size]; omega
theorem plus_cell (w : World) (e : Ext) (a : Addr) (h : a.block < w.heap.size) : (plus w e).cell? a = w.cell? a := World.cell?_of_block (plus_block w e _ h)
theorem plus_frozen (w : World) (e : Ext) (a : Addr) (h : a.block < w.heap.size) : (plus w e).frozen? a = w.frozen? a := World.frozen?_of_block (plus_block w e _ h)
theorem plus_below (w : World) (e : Ext) : Below w.heap.size w (plus w e) := ⟨rfl, rfl, rfl, plus_le w e, fun k hk => plus_block w e k hk⟩
theorem below_plus {w w' : World} (h : Below w.heap.size w w') : ∃ e, w' = plus w e := by
  refine ⟨⟨w'.heap.extract w.heap.size w'.heap.size, w'.drawn⟩, ?_⟩
  obtain ⟨hp, tp, dr, os, out⟩ := w'
  obtain ⟨hp0, tp0, dr0, os0, out0⟩ := w
  have h1 := h.os
  have h2 := h.tape
  have h3 := h.output
  have h4 := h.size
  have h5 := h.block
  simp only at h1 h2 h3 h4 h5
  subst h1; subst h2; subst h3
  unfold plus
  congr 1
  apply Array.ext_getElem?
  intro i
  by_cases hi : i < hp0.size
  · rw [Array.getElem?_append_left (show i < hp0.size from hi), h5 i hi]
  · rw [Array.getElem?_append_right (show hp0.size ≤ i by omega), Array.getElem?_extract]
    simp only
    by_cases h6 : i < hp.size
    · rw [if_pos (by omega)]; congr 1; omega
    · rw [if_neg (by omega), Array.getElem?_eq_none (by omega)]
theorem plus_drawn (w : World) (n : Nat) : ∃ e, { w with drawn := n } = plus w e := ⟨⟨#[], n⟩, by simp [plus]⟩
theorem plus_plus (w : World) (e : Ext) {w' : World} (h : Below (plus w e).heap.size (plus w e) w') : ∃ e', w' = plus w e' :=
  below_plus ((plus_below w e).trans (h.mono (plus_le w e)))
theorem Blk.plus {w : World} {g : Nat} {t : TypeId} {cs : Array Value} (h : Blk w g t cs) (e : Ext) : Blk (plus w e) g t cs := h.below (plus_below w e) h.lt
section
variable {P : Program} {ops : Array Oper} {C : World → Prop} {Q : Act → Prop} {a : Act} {o : Oper} {rest : List Oper}
theorem wpQuiet_wanted (hw : Region.wanted o (yielded ops a.tmps) = true) (v : Value) (h1 : ∀ w, C w → o.quietAt P a C w v) (h : wpQuiet P ops C Q rest (a.put o.dst v)) : wpQuiet P ops C Q (o :: rest) a := by
  unfold wpQuiet; rw [if_pos hw]; exact ⟨v, h1, h⟩
theorem wpQuiet_unwanted (hw : Region.wanted o (yielded ops a.tmps) = false) (h : wpQuiet P ops C Q rest (a.put o.dst undef)) : wpQuiet P ops C Q (o :: rest) a := by
  unfold wpQuiet; rw [if_neg (by rw [hw]; exact Bool.false_ne_true)]; exact h
/-- a call of a Go function whose answer is one value in every world of the class -/
theorem wpQuiet_call (hw : Region.wanted o (yielded ops a.tmps) = true) (f : FuncId) (args : Array Value) (v : Value) (hop : ∀ w, (execOp a.eval o).run P w = .ok (.enter f args) w)
    (h1 : ∀ w, C w → Calls P f args w fun e w' => e = .returned v ∧ C w') (h : wpQuiet P ops C Q rest (a.put o.dst v)) : wpQuiet P ops C Q (o :: rest) a :=
  wpQuiet_wanted hw v (fun w hC => by unfold Oper.quietAt; rw [hop]; exact ⟨rfl, h1 w hC⟩) h
/-- a whole array is loaded out of a block -/
theorem wpQuiet_load (hw : Region.wanted o (yielded ops a.tmps) = true) (ty : TypeId) (x : Operand) (ho : o.op = .load ty x) (g : Nat) (hx : a.eval x = .pointer (some ⟨g, 0, none⟩)) (t : TypeId) (cs : Array Value) (fr : Nat × Nat) (d : TypeDesc)
    (hg : ∀ w, C w → w.heap[g]? = some (.cells cs t fr)) (hu : P.underlying ty = some d) (hd : (match d with | .struct _ | .array _ _ => true | _ => false) = true) (hi : (P.info? ty).map (·.size) = some cs.size)
    (h : wpQuiet P ops C Q rest (a.put o.dst (.agg cs))) : wpQuiet P ops C Q (o :: rest) a :=
  wpQuiet_wanted hw (.agg cs) (fun w hC => by
    unfold Oper.quietAt execOp
    simp only [ho, hx, Instr.loadAt, Instr.sureAddr, Sem.run_bind, Sem.run_pure, Result.andThen_ok, run_loadVar_row w g t ty cs fr d (hg w hC) hu hd hi]
    exact ⟨rfl, rfl⟩) h
end
theorem wp_region_quiet_plus {P : Program} {id : Nat} {Q : Exit → Act → World → Prop} {a : Act} {w : World} {l : List Oper} (hm : P.follows .mixedOrders = true) (hB : Region.lexB .any l.toArray = true)
    (h : wpQuiet P l.toArray (fun w' => ∃ e, w' = plus w e) (fun a' => ∀ w', (∃ e, w' = plus w e) → Q .normal a' w') l a) : (Code.region id l.toArray true).wp P Q a w :=
  wp_region_quiet (C := fun w' => ∃ e, w' = plus w e) hm hB (plus_drawn w _) (by simpa using h)
theorem wp_region_quiet_tail_plus {P : Program} {id : Nat} {Q : Exit → Act → World → Prop} {a : Act} {w : World} {l : List Oper} (n : Nat) (hm : P.follows .mixedOrders = true) (hB : Region.lexTailB .any l.toArray n = true)
    (h : wpQuiet P l.toArray (fun w' => ∃ e, w' = plus w e) (fun a' => ∀ w', (∃ e, w' = plus w e) → wpList P l.toArray Q (l.drop n) a' w') (l.take n) a) : (Code.region id l.toArray true).wp P Q a w :=
  wp_region_quiet_tail n (fun w' => ∃ e, w' = plus w e) hm hB (plus_drawn w _) h
theorem calls_plus {P : Program} {f : FuncId} {args : Array Value} {w : World} {e : Ext} {v : Value}
    (h : Calls P f args (plus w e) fun en w' => en = .returned v ∧ Below (plus w e).heap.size (plus w e) w') : Calls P f args (plus w e) fun en w' => en = .returned v ∧ ∃ e', w' = plus w e' :=
  h.mono fun _ _ h => ⟨h.1, plus_plus w e h.2⟩
/-- '==' on two arrays of bytes -/
theorem run_part_byte {P : Program} (w : World) {e : TypeId} {k : IntKind} (he : P.underlying e = some (.int k)) (cs : Array Value) (i : Nat) (v : Value) (h : cs[i]? = some v) : (part e cs i).run P w = .ok v w := by
  simp [part, isAgg, run_underlying he, h]
theorem run_eqItems_bytes {P : Program} (w : World) (d : Nat) {e : TypeId} (he : P.underlying e = some (.int .u8)) (hc : P.cellsOf e = 1) (xs ys : List UInt8) : ∀ (m k : Nat), k + m = xs.length → k + m = ys.length →
    (Op.eqItems (d + 1) e (P.cellsOf e) (xs.map v8).toArray (ys.map v8).toArray (List.range' k m)).run P w = .ok (decide (xs.drop k = ys.drop k)) w
  | 0, k, h1, h2 => by
    have e1 : xs.drop k = [] := List.drop_of_length_le (by omega)
    have e2 : ys.drop k = [] := List.drop_of_length_le (by omega)
    rw [e1, e2]
    simp [Op.eqItems]
  | m + 1, k, h1, h2 => by
    have hx : k < xs.length := by omega
    have hy : k < ys.length := by omega
    have ih := run_eqItems_bytes w d he hc xs ys m (k + 1) (by omega) (by omega)
    rw [hc] at ih ⊢
    rw [List.range'_succ]
    simp only [Op.eqItems, Sem.run_bind, Nat.mul_one]
    rw [run_part_byte w he _ k (v8 xs[k]) (by simp [hx]), Result.andThen_ok, run_part_byte w he _ k (v8 ys[k]) (by simp [hy]), Result.andThen_ok]
    have hq : (Op.equalIn (d + 1) e (v8 xs[k]) (v8 ys[k])).run P w = .ok (n8 xs[k] == n8 ys[k]) w := by
      simp [v8, Op.equalIn, run_underlying he]
    rw [hq, Result.andThen_ok, List.drop_eq_getElem_cons hx, List.drop_eq_getElem_cons hy]
    by_cases hb : xs[k] = ys[k]
    · rw [hb]
      simp only [beq_self_eq_true, Bool.not_true, Bool.false_eq_true, if_false, List.cons.injEq, true_and]
      exact ih
    · have hn : (n8 xs[k] == n8 ys[k]) = false := by rw [beq_eq_false_iff_ne]; exact fun e => hb (n8_inj e)
      rw [hn]
      have hne : ¬ (xs[k] :: xs.drop (k + 1) = ys[k] :: ys.drop (k + 1)) := fun e => hb (List.cons.inj e).1
      rw [decide_eq_false hne]
      simp
theorem run_eql_bytes {P : Program} (w : World) (t e : TypeId) (n : Nat) (i : TypeInfo) (hu : P.underlying t = some (.array n e)) (hi : P.info? e = some i) (he : P.underlying e = some (.int .u8)) (hc : P.cellsOf e = 1)
    (xs ys : List UInt8) (hx : xs.length = n) (hy : ys.length = n) : (binOp .eql t (.agg (xs.map v8).toArray) (.agg (ys.map v8).toArray)).run P w = .ok (.bool (decide (xs = ys))) w := by
  rw [run_eql_struct, run_equalIn_array w 9999 _ _ hu hi, List.range_eq_range', run_eqItems_bytes w 9998 he hc xs ys n 0 (by omega) (by omega)]
  simp
theorem run_eqi_bytes {P : Program} (w : World) (t e : TypeId) (n : Nat) (i : TypeInfo) (hu : P.underlying t = some (.array n e)) (hi : P.info? e = some i) (he : P.underlying e = some (.int .u8)) (hc : P.cellsOf e = 1)
    (xs ys : List UInt8) (hx : xs.length = n) (hy : ys.length = n) : (Op.equalIn 10000 t (.agg (xs.map v8).toArray) (.agg (ys.map v8).toArray)).run P w = .ok (decide (xs = ys)) w := by
  rw [run_equalIn_array w 9999 _ _ hu hi, List.range_eq_range', run_eqItems_bytes w 9998 he hc xs ys n 0 (by omega) (by omega)]
  simp
theorem run_neq_bytes {P : Program} (w : World) (t e : TypeId) (n : Nat) (i : TypeInfo) (hu : P.underlying t = some (.array n e)) (hi : P.info? e = some i) (he : P.underlying e = some (.int .u8)) (hc : P.cellsOf e = 1)
    (xs ys : List UInt8) (hx : xs.length = n) (hy : ys.length = n) : (binOp .neq t (.agg (xs.map v8).toArray) (.agg (ys.map v8).toArray)).run P w = .ok (.bool (!decide (xs = ys))) w := by
  rw [run_neq_struct, run_equalIn_array w 9999 _ _ hu hi, List.range_eq_range', run_eqItems_bytes w 9998 he hc xs ys n 0 (by omega) (by omega)]
  simp
end Go.Proofs.YtbhmmoecoijojaaDoor
