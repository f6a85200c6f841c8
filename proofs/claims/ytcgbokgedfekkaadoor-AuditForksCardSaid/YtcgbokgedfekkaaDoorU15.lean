/- Texts that stand behind one another: Dig, KeysE, KeysS. No condition. -/
import Derived.Test.YtcgbokgedfekkaaDoorU7
import Derived.Maps.AppendAt
import Derived.Deep.MidRow
import Derived.Test.YtcgbokgedfekkaaDoorU14
import Derived.Laws.StructEq
/- Lists of digests: their cells, a literal of one, append of one onto a row of the call's own. No condition. -/
namespace Go.Proofs.YtcgbokgedfekkaaDoor
open Go Go.RowKit
/-- the cells of a list of digests -/
def dcells (l : List (List UInt8)) : List Value := (l.map fun d => (dat d).toList).flatten
theorem dcells_snoc (l : List (List UInt8)) (d : List UInt8) : dcells (l ++ [d]) = dcells l ++ (dat d).toList := by simp [dcells]
theorem dcells_length (l : List (List UInt8)) : (dcells l).length = l.length * 32 := by
  unfold dcells
  induction l with
  | nil => rfl
  | cons d l ih => simp only [List.map_cons, List.flatten_cons, List.length_append, ih]; rw [show (dat d).toList.length = 32 by rw [Array.length_toList, dat_size]]; simp; omega
theorem dcells_at (l : List (List UInt8)) (k : Nat) (hk : k < l.length) (j : Nat) (hj : j < 32) : (dcells l)[k * 32 + j]? = (dat (l.getD k []))[j]? := by
  induction l generalizing k with
  | nil => simp at hk
  | cons d l ih =>
    have hd : (dat d).toList.length = 32 := by rw [Array.length_toList, dat_size]
    have e : dcells (d :: l) = (dat d).toList ++ dcells l := by simp [dcells]
    rw [e]
    cases k with
    | zero => rw [List.getElem?_append_left (by omega)]; simp
    | succ k =>
      rw [List.getElem?_append_right (by omega), hd, show (k + 1) * 32 + j - 32 = k * 32 + j by omega, ih k (by simpa using hk)]; simp
set_option maxRecDepth 100000 in
theorem build_digest (d : List UInt8) (w : World) : (Instr.buildSlice 28 1 #[(0, .agg (dat d))]).run Tryd.prog w = .ok (.slice (some ⟨w.heap.size, 0, none⟩) 1 1) (w.alloc (.cells (dat d) 35)) := by kernel_rfl
theorem wpList_buildD {w : World} {ops : Array Oper} {rest : List Oper} {o : Oper} {a : Act} {Q : Exit → Act → World → Prop} (hgd : o.guard = none) (x : Operand) (ho : o.op = .buildSlice 28 1 #[(0, x)]) (d : List UInt8) (hx : a.eval x = .agg (dat d))
    (h : wpList Tryd.prog ops Q rest (a.put o.dst (.slice (some ⟨w.heap.size, 0, none⟩) 1 1)) (w.alloc (.cells (dat d) 35))) : wpList Tryd.prog ops Q (o :: rest) a w :=
  wpList_plain hgd fun K hK => by
    unfold Oper.wp execOp
    simp only [ho, List.map_toArray, List.map_cons, List.map_nil, hx, Sem.run_bind, build_digest d, Result.andThen_ok, Sem.run_pure]
    exact hK _ _ h
theorem own_oneD (w : World) (base : Nat) (hb : base ≤ w.heap.size) (d : List UInt8) : (w.alloc (.cells (dat d) 35)).ownsRow base 35 32 (.slice (some ⟨w.heap.size, 0, none⟩) 1 1) ([d] : List (List UInt8)).length (dcells [d]) := by
  have hl : (dcells [d]) = (dat d).toList := by simp [dcells]
  refine ⟨by rw [hl, Array.length_toList, dat_size]; rfl, .inr ⟨w.heap.size, 1, dat d, rfl, hb, heap_alloc_new w _, Nat.le_refl _, by decide, by rw [dat_size], ?_⟩⟩
  rw [hl, List.take_of_length_le (by rw [Array.length_toList, dat_size]; show 32 ≤ 1 * 32; decide)]
theorem range_plus {w : World} {b off : Nat} {cs : List Value} (h : w.rangeAt b off cs) (e : Ext) : (plus w e).rangeAt b off cs := fun j v hj => by
  have h1 := h j v hj
  rw [plus_cell w e ⟨b, off + j, none⟩ (block_lt_of_cell h1)]; exact h1
section
variable {ops : Array Oper} {Q : Act → Prop} {a : Act} {o : Oper} {rest : List Oper}
theorem wpQuiet_loadMid {P : Program} {C : World → Prop} (hw : Region.wanted o (yielded ops a.tmps) = true) (ty : TypeId) (x : Operand) (ho : o.op = .load ty x) (b off : Nat) (hx : a.eval x = .pointer (some ⟨b, off, none⟩)) (cs : Array Value) (d : TypeDesc) (hS : ∀ w, C w → w.rangeAt b off cs.toList)
    (hu : P.underlying ty = some d) (hd : d.isRow = true) (hi : (P.info? ty).map (·.size) = some cs.size) (hk : wpQuiet P ops C Q rest (a.put o.dst (.agg cs))) : wpQuiet P ops C Q (o :: rest) a :=
  wpQuiet_wanted hw _ (fun w hC => by
    unfold Oper.quietAt execOp
    simp only [ho, hx, Instr.loadAt, Instr.sureAddr, Sem.run_bind, Sem.run_pure, Result.andThen_ok, run_loadVar_mid w b off ty cs.toList d (hS w hC) hu hd (by simpa using hi)]
    exact ⟨rfl, by simp⟩) hk
end
theorem wpList_loadMid {P : Program} {w : World} {ops : Array Oper} {rest : List Oper} {o : Oper} {a : Act} {Q : Exit → Act → World → Prop} (hw : Region.wanted o (yielded ops a.tmps) = true) (ty : TypeId) (x : Operand) (ho : o.op = .load ty x) (b off : Nat) (hx : a.eval x = .pointer (some ⟨b, off, none⟩)) (cs : Array Value) (d : TypeDesc)
    (hS : w.rangeAt b off cs.toList) (hu : P.underlying ty = some d) (hd : d.isRow = true) (hi : (P.info? ty).map (·.size) = some cs.size)
    (h : wpList P ops Q rest (a.put o.dst (.agg cs)) w) : wpList P ops Q (o :: rest) a w :=
  wpList_step fun K hK => by
    simp only [hw, if_true]
    unfold Oper.wp execOp
    simp only [ho, hx, Instr.loadAt, Instr.sureAddr, Sem.run_bind, Sem.run_pure, Result.andThen_ok, run_loadVar_mid w b off ty cs.toList d hS hu hd (by simpa using hi)]
    exact hK _ _ h
/-- append of one digest onto a row of digests of the call's own -/
theorem wpList_appendDig {w : World} {ops : Array Oper} {rest : List Oper} {o : Oper} {a : Act} {Q : Exit → Act → World → Prop} (hgd : o.guard = none) (s x : Operand)
    (ho : o.op = .call { callee := .builtin .append, args := #[s, x], argTypes := #[28, 28] })
    (base : Nat) (v : Value) (ds : List (List UInt8)) (hs : a.eval s = v) (hown : w.ownsRow base 35 32 v ds.length (dcells ds))
    (g : Nat) (d : List UInt8) (hx : a.eval x = .slice (some ⟨g, 0, none⟩) 1 1) (hX : Blk w g 35 (dat d)) (hl : ds.length ≤ 1000000000) (hbase : base ≤ w.heap.size)
    (h : ∀ v' w', w'.ownsRow base 35 32 v' (ds ++ [d]).length (dcells (ds ++ [d])) → w.grownBy w' v.ownBlock → wpList Tryd.prog ops Q rest (a.put o.dst v') w') : wpList Tryd.prog ops Q (o :: rest) a w := by
  obtain ⟨i0, hi, hz0, hz1, hz2⟩ := info_parts (by kernel_rfl : (Tryd.prog.info? 35).map (fun i => (i.zero, i.size, i.bytes)) = some (some (.agg (arr 32 fun _ => 0)), 32, 32))
  refine wpList_append_own_at _ hgd s x _ ho base 35 i0 _ 32 32 Tryd.underlying28 hi hz0 hz1 hz2 (by show (arr 32 fun _ => 0).size = 32; exact arr_size _ _) (by decide) v _ _ hs hown ⟨g, 0, none⟩ 1 1 (dat d).toList hx (by rw [Array.length_toList, dat_size]) (fun j u hj => by
      have e : (⟨g, 0, none⟩ : Addr).add j = ⟨g, j, none⟩ := by unfold Addr.add; split <;> simp_all
      rw [e, hX.cell, ← hj]; simp) (arr_one _ _) (by unfold maxLen; omega) (by omega) hbase ?_
  intro v' w' hown' hg _ _
  rw [← dcells_snoc] at hown'
  exact h v' w' (by rw [List.length_append]; exact hown') hg
end Go.Proofs.YtcgbokgedfekkaaDoor

/- '==' on heads and on signed heads. No condition. -/
namespace Go.Proofs.YtcgbokgedfekkaaDoor
open Go Go.RowKit
def headEq (h h' : HeadL) : Bool := (h.tree == h'.tree) && (h.epoch == h'.epoch) && (n64 h.size == n64 h'.size) && (n64 h.clock == n64 h'.clock) && decide (h.root = h'.root)
theorem headEq_self (h : HeadL) : headEq h h = true := by simp [headEq]
/-- a signed head's cells -/
def sigC (h : HeadL) (tag : List UInt8) : Array Value := headC h ++ dat tag
theorem eqi_datD (d : Nat) (X Y : List UInt8) (hX : X.length = 32) (hY : Y.length = 32) (W : World) : (Op.equalIn (d + 2) 35 (.agg (dat X)) (.agg (dat Y))).run Tryd.prog W = .ok (decide (X = Y)) W := by
  rw [dat_eq X hX, dat_eq Y hY]
  obtain ⟨i0, hi, _⟩ := info_parts (by kernel_rfl : (Tryd.prog.info? 5).map (fun i => (i.zero, i.size, i.bytes)) = some (some (.int .u8 0), 1, 1))
  rw [run_equalIn_array W (d + 1) _ _ Tryd.underlying35 hi, List.range_eq_range', run_eqItems_bytes W d Tryd.underlying5 (by kernel_rfl) X Y 32 0 (by omega) (by omega)]
  simp
theorem run_part_int (w : World) {e : TypeId} {k : IntKind} (he : Tryd.prog.underlying e = some (.int k)) (cs : Array Value) (i : Nat) (v : Value) (h : cs[i]? = some v) : (part e cs i).run Tryd.prog w = .ok v w := by
  simp [part, isAgg, run_underlying he, h]
theorem run_part_dat (w : World) (cs : Array Value) (off : Nat) (X : List UInt8) (h : cs.extract off (off + 32) = dat X) : (part 35 cs off).run Tryd.prog w = .ok (.agg (dat X)) w := by
  have hs : (sizeOf 35).run Tryd.prog w = .ok 32 w := by kernel_rfl
  have ha : (isAgg 35).run Tryd.prog w = .ok true w := by kernel_rfl
  simp [part, ha, hs, h]
theorem run_part_head (w : World) (cs : Array Value) (off : Nat) (h : HeadL) (hx : cs.extract off (off + 36) = headC h) : (part 64 cs off).run Tryd.prog w = .ok (.agg (headC h)) w := by
  have hs : (sizeOf 64).run Tryd.prog w = .ok 36 w := by kernel_rfl
  have ha : (isAgg 64).run Tryd.prog w = .ok true w := by kernel_rfl
  simp [part, ha, hs, hx]
theorem eqi_int (d : Nat) (w : World) {e : TypeId} {k : IntKind} (he : Tryd.prog.underlying e = some (.int k)) (a b : Int) : (Op.equalIn (d + 1) e (.int k a) (.int k b)).run Tryd.prog w = .ok (a == b) w := by
  simp [Op.equalIn, run_underlying he]
theorem headC_ext (h : HeadL) : (headC h).extract 4 (4 + 32) = dat h.root := by
  unfold headC
  rw [Array.extract_append]
  simp [dat_size]
theorem eqField_step {d : Nat} {xs ys : Array Value} {nm tg pk : String} {ty : TypeId} {off bo : Nat} {em : Bool} {fs : List Field} {w : World} {a b : Value} {r : Bool} (hn : nm ≠ "_") (pa : (part ty xs off).run Tryd.prog w = .ok a w) (pb : (part ty ys off).run Tryd.prog w = .ok b w)
    (e : (Op.equalIn d ty a b).run Tryd.prog w = .ok r w) : (Op.eqFields d xs ys ({ name := nm, type := ty, offset := off, embedded := em, tag := tg, pkgPath := pk, byteOffset := bo } :: fs)).run Tryd.prog w = if r = true then (Op.eqFields d xs ys fs).run Tryd.prog w else .ok false w := by
  rw [Op.eqFields.eq_2, if_pos hn]
  simp only [Sem.run_bind, pa, pb, e, Result.andThen_ok]
  cases r <;> simp
theorem eqFields_end {d : Nat} {xs ys : Array Value} {w : World} : (Op.eqFields d xs ys []).run Tryd.prog w = .ok true w := by simp [Op.eqFields]
set_option maxRecDepth 100000 in
theorem eqi_head (d : Nat) (h h' : HeadL) (hr : h.root.length = 32) (hr' : h'.root.length = 32) (w : World) : (Op.equalIn (d + 3) 64 (.agg (headC h)) (.agg (headC h'))).run Tryd.prog w = .ok (headEq h h') w := by
  rw [run_equalIn_struct w (d + 2) _ _ _ (by kernel_rfl) (by kernel_rfl)]
  have p0 := run_part_int w Tryd.underlying3 (headC h) 0 _ (headC_0 h)
  have p1 := run_part_int w Tryd.underlying3 (headC h) 1 _ (headC_1 h)
  have p2 := run_part_int w Tryd.underlying32 (headC h) 2 _ (headC_2 h)
  have p3 := run_part_int w Tryd.underlying32 (headC h) 3 _ (headC_3 h)
  have p4 := run_part_dat w (headC h) 4 h.root (headC_ext h)
  have q0 := run_part_int w Tryd.underlying3 (headC h') 0 _ (headC_0 h')
  have q1 := run_part_int w Tryd.underlying3 (headC h') 1 _ (headC_1 h')
  have q2 := run_part_int w Tryd.underlying32 (headC h') 2 _ (headC_2 h')
  have q3 := run_part_int w Tryd.underlying32 (headC h') 3 _ (headC_3 h')
  have q4 := run_part_dat w (headC h') 4 h'.root (headC_ext h')
  have e0 := eqi_int (d + 1) w Tryd.underlying3 h.tree h'.tree
  have e1 := eqi_int (d + 1) w Tryd.underlying3 h.epoch h'.epoch
  have e2 := eqi_int (d + 1) w Tryd.underlying32 (n64 h.size) (n64 h'.size)
  have e3 := eqi_int (d + 1) w Tryd.underlying32 (n64 h.clock) (n64 h'.clock)
  have e4 := eqi_datD d h.root h'.root hr hr' w
  simp only [Program.fieldsOf, Tryd.underlying64]
  rw [eqField_step (by simp) p0 q0 e0, eqField_step (by simp) p1 q1 e1, eqField_step (by simp) p2 q2 e2, eqField_step (by simp) p3 q3 e3, eqField_step (by simp) p4 q4 e4, eqFields_end]
  unfold headEq
  clear p0 p1 p2 p3 p4 q0 q1 q2 q3 q4 e0 e1 e2 e3 e4
  generalize (h.tree == h'.tree) = b0
  generalize (h.epoch == h'.epoch) = b1
  generalize (n64 h.size == n64 h'.size) = b2
  generalize (n64 h.clock == n64 h'.clock) = b3
  generalize decide (h.root = h'.root) = b4
  cases b0 <;> cases b1 <;> cases b2 <;> cases b3 <;> cases b4 <;> rfl
theorem sigC_head (h : HeadL) (tag : List UInt8) : (sigC h tag).extract 0 (0 + 36) = headC h := by
  unfold sigC
  rw [Array.extract_append]
  simp [headC_size]
theorem sigC_tag (h : HeadL) (tag : List UInt8) : (sigC h tag).extract 36 (36 + 32) = dat tag := by
  unfold sigC
  rw [Array.extract_append]
  simp [headC_size]
  rw [← dat_size tag]; simp
  exact Nat.min_le_left _ _
set_option maxRecDepth 100000 in
theorem eqi_sig (d : Nat) (h h' : HeadL) (hr : h.root.length = 32) (hr' : h'.root.length = 32) (t t' : List UInt8) (ht : t.length = 32) (ht' : t'.length = 32) (w : World) :
    (Op.equalIn (d + 4) 66 (.agg (sigC h t)) (.agg (sigC h' t'))).run Tryd.prog w = .ok (headEq h h' && decide (t = t')) w := by
  rw [run_equalIn_struct w (d + 3) _ _ _ (by kernel_rfl) (by kernel_rfl)]
  have p0 := run_part_head w (sigC h t) 0 h (sigC_head h t)
  have p1 := run_part_dat w (sigC h t) 36 t (sigC_tag h t)
  have q0 := run_part_head w (sigC h' t') 0 h' (sigC_head h' t')
  have q1 := run_part_dat w (sigC h' t') 36 t' (sigC_tag h' t')
  have e0 := eqi_head d h h' hr hr' w
  have e1 := eqi_datD (d + 1) t t' ht ht' w
  simp only [Program.fieldsOf, Tryd.underlying66]
  rw [eqField_step (by simp) p0 q0 e0, eqField_step (by simp) p1 q1 e1, eqFields_end]
  clear p0 p1 q0 q1 e0 e1
  generalize headEq h h' = b0
  generalize decide (t = t') = b1
  cases b0 <;> cases b1 <;> rfl
theorem eql_sig (h h' : HeadL) (hr : h.root.length = 32) (hr' : h'.root.length = 32) (t t' : List UInt8) (ht : t.length = 32) (ht' : t'.length = 32) (w : World) :
    (binOp .eql 66 (.agg (sigC h t)) (.agg (sigC h' t'))).run Tryd.prog w = .ok (.bool (headEq h h' && decide (t = t'))) w := by
  rw [run_eql_struct, eqi_sig 9996 h h' hr hr' t t' ht ht']; rfl
theorem eql_head (h h' : HeadL) (hr : h.root.length = 32) (hr' : h'.root.length = 32) (w : World) :
    (binOp .eql 64 (.agg (headC h)) (.agg (headC h'))).run Tryd.prog w = .ok (.bool (headEq h h')) w := by
  rw [run_eql_struct, eqi_head 9997 h h' hr hr']; rfl
section
variable {ops : Array Oper} {C : World → Prop} {Q : Act → Prop} {a : Act} {o : Oper} {rest : List Oper}
theorem wpQuiet_eqS (hw : Region.wanted o (yielded ops a.tmps) = true) (x y : Operand) (yt : TypeId) (ho : o.op = .binOp .eql 66 x y yt) (h h' : HeadL) (t t' : List UInt8) (hx : a.eval x = .agg (sigC h t)) (hy : a.eval y = .agg (sigC h' t'))
    (hr : h.root.length = 32) (hr' : h'.root.length = 32) (ht : t.length = 32) (ht' : t'.length = 32)
    (b : Bool) (hb : (headEq h h' && decide (t = t')) = b) (hk : wpQuiet Tryd.prog ops C Q rest (a.put o.dst (.bool b))) : wpQuiet Tryd.prog ops C Q (o :: rest) a :=
  wpQuiet_wanted hw (.bool b) (fun w _ => by
    unfold Oper.quietAt execOp
    simp only [ho, hx, hy, Sem.run_bind, Sem.run_pure, Result.andThen_ok, run_eqGuard_agg (P := Tryd.prog) w .eql 66 x y _ _ (by kernel_rfl), eql_sig h h' hr hr' t t' ht ht', hb]
    exact ⟨rfl, rfl⟩) hk
theorem wpQuiet_eqH (hw : Region.wanted o (yielded ops a.tmps) = true) (x y : Operand) (yt : TypeId) (ho : o.op = .binOp .eql 64 x y yt) (h h' : HeadL) (hx : a.eval x = .agg (headC h)) (hy : a.eval y = .agg (headC h'))
    (hr : h.root.length = 32) (hr' : h'.root.length = 32)
    (b : Bool) (hb : headEq h h' = b) (hk : wpQuiet Tryd.prog ops C Q rest (a.put o.dst (.bool b))) : wpQuiet Tryd.prog ops C Q (o :: rest) a :=
  wpQuiet_wanted hw (.bool b) (fun w _ => by
    unfold Oper.quietAt execOp
    simp only [ho, hx, hy, Sem.run_bind, Sem.run_pure, Result.andThen_ok, run_eqGuard_agg (P := Tryd.prog) w .eql 64 x y _ _ (by kernel_rfl), eql_head h h' hr hr', hb]
    exact ⟨rfl, rfl⟩) hk
theorem wpQuiet_build {P : Program} {C : World → Prop} (hw : Region.wanted o (yielded ops a.tmps) = true) (t : TypeId) (parts : Array (Nat × Operand)) (ho : o.op = .build t parts) (cells : Array Value) (hb : P.built t (parts.map fun (i, x) => (i, a.eval x)).toList = some cells)
    (hk : wpQuiet P ops C Q rest (a.put o.dst (.agg cells))) : wpQuiet P ops C Q (o :: rest) a :=
  wpQuiet_wanted hw _ (fun w _ => by
    unfold Oper.quietAt execOp
    simp only [ho, Sem.run_bind, run_build w t _ cells hb, Result.andThen_ok, Sem.run_pure]
    exact ⟨rfl, rfl⟩) hk
theorem wpQuiet_build2 {P : Program} {C : World → Prop} (hw : Region.wanted o (yielded ops a.tmps) = true) (t : TypeId) (x y : Operand) (ho : o.op = .build t #[(0, x), (1, y)]) (vx vy : Value) (hx : a.eval x = vx) (hy : a.eval y = vy) (cells : Array Value) (hb : P.built t [(0, vx), (1, vy)] = some cells)
    (hk : wpQuiet P ops C Q rest (a.put o.dst (.agg cells))) : wpQuiet P ops C Q (o :: rest) a :=
  wpQuiet_build hw t _ ho cells (by simpa [hx, hy] using hb) hk
end
theorem sig_head_range {w : World} {g : Nat} {t : TypeId} {h : HeadL} {tag : List UInt8} (hB : Blk w g t (sigC h tag)) : w.rangeAt g 0 (headC h).toList := by
  intro j v hj
  have hlt : j < (headC h).size := by simpa using (List.getElem?_eq_some_iff.1 hj).1
  rw [Nat.zero_add, hB.cell]
  unfold sigC
  rw [Array.getElem?_append_left hlt, ← hj]; simp
theorem sig_tag_range {w : World} {g : Nat} {t : TypeId} {h : HeadL} {tag : List UInt8} (hB : Blk w g t (sigC h tag)) : w.rangeAt g 36 (dat tag).toList := by
  intro j v hj
  rw [hB.cell]
  unfold sigC
  rw [Array.getElem?_append_right (by rw [headC_size]; omega), headC_size, show 36 + j - 36 = j by omega, ← hj]; simp
theorem built_sig (h : HeadL) (t : List UInt8) : Tryd.prog.built 66 [(0, .agg (headC h)), (1, .agg (dat t))] = some (sigC h t) := by kernel_rfl
end Go.Proofs.YtcgbokgedfekkaaDoor

/- The walks of keys' Sign and Holds. No condition. -/
namespace Go.Proofs.YtcgbokgedfekkaaDoor
open Go.RowKit
attribute [local go_sem] n8_lo n8_hi n64_lo n64_hi
def zeroHead : HeadL := ⟨0, 0, 0, 0, []⟩
theorem sigC_size (h : HeadL) (t : List UInt8) : (sigC h t).size = 68 := by simp [sigC, headC_size, dat_size]
theorem zero_sig (w : World) : (zeroValue 66).run Tryd.prog w = .ok (.agg (sigC zeroHead [])) w := by kernel_rfl
theorem headC_one (h : HeadL) : ∀ v ∈ (headC h).toList, v.oneCell' = true := by
  intro v hv
  unfold headC at hv
  rw [Array.toList_append, List.mem_append] at hv
  rcases hv with hv | hv
  · simp at hv
    rcases hv with rfl | rfl | rfl | rfl <;> rfl
  · exact arr_one _ _ v hv
theorem sigC_one (h : HeadL) (t : List UInt8) : ∀ v ∈ (sigC h t).toList, v.oneCell' = true := by
  intro v hv
  unfold sigC at hv
  rw [Array.toList_append, List.mem_append] at hv
  rcases hv with hv | hv
  · exact headC_one h v hv
  · exact arr_one _ _ v hv
/-- a tag of the document -/
def tagL (key : List UInt8) (h : HeadL) : List UInt8 := mac key (headB h)
theorem tagL_length (key : List UInt8) (h : HeadL) : (tagL key h).length = 32 := mac_length _ _
set_option maxHeartbeats 200000 in
set_option maxRecDepth 100000 in
theorem sign_any (key : List UInt8) (hkl : key.length = 32) (h : HeadL) (hok : h.ok) (w : World) (hG : Glob w) :
    Calls Tryd.prog 70 #[.agg (dat key), .agg (headC h)] w fun e w' => e = .returned (.agg (sigC h (tagL key h))) ∧ Below w.heap.size w w' := by
  have Hk := Lib.hid hkl
  clear hkl
  have Hb57 := Lib.hid (headB_length h hok.1)
  have hzv := zero_sig
  go_enter Tryd.func70, Tryd.ntmps70
  go_wp2
  clear hzv
  refine wp_at (fun W => Blk W w.heap.size 35 (dat key) ∧ Blk W (w.heap.size + 1) 64 (headC h) ∧ Blk W (w.heap.size + 2) 66 (sigC zeroHead []) ∧ Below w.heap.size w W)
    ⟨((Blk.new w _ _).alloc _).alloc _, (Blk.new2 _ _ _ _).alloc _, Blk.new3 _ _ _ _ _, below_new3 _ _ _ _⟩ ?_
  rintro W ⟨hK, hH, hS, hbel⟩
  refine wp_region_mixT 6 (.plain 0 <| .plain 1 <| .plain 2 <| .only 3 <| .only 4 <| .plain 5 <| .done) (by kernel_rfl) (by kernel_rfl) (fun W1 hb1 => ?_)
  have hK1 := hK.below hb1 hK.lt
  have hH1 := hH.below hb1 hH.lt
  have hS1 := hS.below hb1 hS.lt
  have hbel1 := hbel.trans (hb1.mono hbel.size)
  clear hK hH hS hbel hb1
  repeat (refine mix_plain rfl ?_; (first
    | (refine wpQuiet_load rfl 64 (.tmp 3) rfl (w.heap.size + 1) rfl _ _ _ _ (fun _ ⟨e, he⟩ => by rw [he]; exact hH1.plus e) Tryd.underlying64 rfl (by rw [headC_size]; kernel_rfl) ?_; simp only [Act.put, List.setIfInBounds_toArray, List.set_cons_zero, List.set_cons_succ])
    | go_big_quiet_step (fail)); refine wpQuiet_nil ?_)
  refine mix_only rfl (fun K hK => ?_)
  go_wp2_with fail
  refine (bytes_any h hok W1).mono ?_
  rintro e W2 ⟨v2, rfl, hv2, hb2⟩
  go_wp2_with fail
  refine hK _ _ hb2 ?_
  clear hK K
  have hK2 := hK1.below hb2 hK1.lt
  have hS2 := hS1.below hb2 hS1.lt
  have hbel2 := hbel1.trans (hb2.mono hbel1.size)
  clear hK1 hH1 hS1 hbel1 hb2
  refine mix_only rfl (fun K hK => ?_)
  go_wp2_with fail
  refine (mac_any _ v2 key (headB h) W2 (BSl.of_dat hK2 _ hK2.lt Hk.out) hv2 (by rw [Hk.out]; decide) (by rw [Hb57.out]; decide) (hG.next hbel2)).mono ?_
  rintro e W3 ⟨rfl, hb3⟩
  go_wp2_with fail
  refine hK _ _ hb3 ?_
  clear hK K
  have hS3 := hS2.below hb3 hS2.lt
  have hbel3 := hbel2.trans (hb3.mono hbel2.size)
  clear hK2 hS2 hbel2 hb3 hv2
  refine mix_plain rfl ?_
  refine wpQuiet_build2 rfl 66 (.tmp 5) (.tmp 9) rfl _ _ rfl rfl (sigC h (mac key (headB h))) (built_sig h (mac key (headB h))) ?_
  simp only [Act.put, List.setIfInBounds_toArray, List.set_cons_zero, List.set_cons_succ]
  refine wpQuiet_nil ?_
  refine mix_done ?_
  simp only [List.drop_succ_cons, List.drop_zero]
  refine wpList_storeB rfl rfl 66 (.tmp 4) (.tmp 10) rfl (w.heap.size + 2) 0 rfl (sigC h (mac key (headB h))) rfl _ _ hS3 (by rw [sigC_size]; kernel_rfl) (by rw [sigC_size, sigC_size]; omega) (sigC_one _ _) ?_
  intro W4 hS4 hon4
  rw [copied_all _ _ (by rw [sigC_size, sigC_size])] at hS4
  have hb4 := below_only hbel3 hon4 (by omega) hbel3.size
  go_wp2
  exact bodyPost_ret (results_cell_row (p := 4) (ty := 66) rfl _ _ (w.heap.size + 2) _ _ _ _ rfl hS4 Tryd.underlying66 rfl (by rw [sigC_size]; kernel_rfl)) rfl ⟨rfl, hb4⟩
set_option maxHeartbeats 400000 in
set_option maxRecDepth 100000 in
theorem holds_any (key : List UInt8) (hkl : key.length = 32) (h : HeadL) (hok : h.ok) (tag : List UInt8) (htl : tag.length = 32) (w : World) (hG : Glob w) :
    Calls Tryd.prog 104 #[.agg (dat key), .agg (sigC h tag)] w fun e w' => e = .returned (.bool (decide (tagL key h = tag))) ∧ Below w.heap.size w w' := by
  have Hk := Lib.hid hkl
  have Ht := Lib.hid htl
  have Hr := Lib.hid hok.1
  obtain ⟨d, hd⟩ : ∃ d, decide (tagL key h = tag) = d := ⟨_, rfl⟩
  have Hd := Lib.hid (show (headEq h h && decide (tagL key h = tag)) = d by rw [headEq_self, Bool.true_and, hd])
  rw [hd]
  clear hkl htl hd
  go_enter Tryd.func104, Tryd.ntmps104
  go_wp2
  refine wp_at (fun W => Blk W w.heap.size 35 (dat key) ∧ Blk W (w.heap.size + 1) 66 (sigC h tag) ∧ Below w.heap.size w W)
    ⟨(Blk.new w _ _).alloc _, Blk.new2 _ _ _ _, ((Below.refl _ _).alloc (Nat.le_refl _) _).alloc (by simp) _⟩ ?_
  rintro W ⟨hK, hS, hbel⟩
  refine wp_region_mixP (.plain 0 <| .plain 1 <| .plain 2 <| .plain 4 <| .only 3 <| .plain 5 <| .plain 6 <| .done) (by kernel_rfl) (by kernel_rfl) (fun W1 hb1 => ?_)
  have hK1 := hK.below hb1 hK.lt
  have hS1 := hS.below hb1 hS.lt
  have hbel1 := hbel.trans (hb1.mono hbel.size)
  clear hK hS hbel hb1
  repeat (refine mix_plain rfl ?_; (first
    | (refine wpQuiet_load rfl 35 (.tmp 2) rfl w.heap.size rfl _ _ _ _ (fun _ ⟨e, he⟩ => by rw [he]; exact hK1.plus e) Tryd.underlying35 rfl (by rw [dat_size]; kernel_rfl) ?_; simp only [Act.put, List.setIfInBounds_toArray, List.set_cons_zero, List.set_cons_succ])
    | (refine wpQuiet_loadMid rfl 64 (.tmp 6) rfl (w.heap.size + 1) 0 rfl (headC h) _ (fun _ ⟨e, he⟩ => by rw [he]; exact sig_head_range (hS1.plus e)) Tryd.underlying64 rfl (by rw [headC_size]; kernel_rfl) ?_; simp only [Act.put, List.setIfInBounds_toArray, List.set_cons_zero, List.set_cons_succ])
    | (refine wpQuiet_load rfl 66 (.tmp 3) rfl (w.heap.size + 1) rfl _ _ _ _ (fun _ ⟨e, he⟩ => by rw [he]; exact hS1.plus e) Tryd.underlying66 rfl (by rw [sigC_size]; kernel_rfl) ?_; simp only [Act.put, List.setIfInBounds_toArray, List.set_cons_zero, List.set_cons_succ])
    | go_big_quiet_step (fail)); refine wpQuiet_nil ?_)
  refine mix_only rfl (fun K hK => ?_)
  go_wp2_with fail
  refine (sign_any key Hk.out h hok W1 (hG.next hbel1)).mono ?_
  rintro e W2 ⟨rfl, hb2⟩
  go_wp2_with fail
  refine hK _ _ hb2 ?_
  clear hK K
  have hbel2 := hbel1.trans (hb2.mono hbel1.size)
  refine mix_plain rfl ?_
  refine wpQuiet_eqS rfl (.tmp 8) (.tmp 9) _ rfl h h (tagL key h) tag rfl rfl Hr.out Hr.out (tagL_length _ _) Ht.out d Hd.out ?_
  simp only [Act.put, List.setIfInBounds_toArray, List.set_cons_zero, List.set_cons_succ]
  refine wpQuiet_nil ?_
  repeat (refine mix_plain rfl ?_; go_big_quiet_step (fail); refine wpQuiet_nil ?_)
  refine mix_done ?_
  go_wp2
  go_ret
  exact ⟨rfl, hbel2⟩
end Go.Proofs.YtcgbokgedfekkaaDoor
