/- '==' on heads and on signed heads. No condition. -/
import Derived.Test.YtbhmmoecoijojaaDoorKeys
import Derived.Laws.StructEq
import Derived.Deep.MidRow
namespace Go.Proofs.YtbhmmoecoijojaaDoor
open Go Go.RowKit
def headEq (h h' : HeadL) : Bool := (h.tree == h'.tree) && (h.epoch == h'.epoch) && (n64 h.size == n64 h'.size) && (n64 h.clock == n64 h'.clock) && decide (h.root = h'.root)
theorem headEq_self (h : HeadL) : headEq h h = true := by simp [headEq]
/-- a signed head's cells -/
def sigC (h : HeadL) (tag : List UInt8) : Array Value := headC h ++ dat tag
theorem eqi_datD (d : Nat) (X Y : List UInt8) (hX : X.length = 32) (hY : Y.length = 32) (W : World) : (Op.equalIn (d + 2) 27 (.agg (dat X)) (.agg (dat Y))).run Tryd.prog W = .ok (decide (X = Y)) W := by
  rw [dat_eq X hX, dat_eq Y hY]
  obtain ⟨i0, hi, _⟩ := info_parts (by kernel_rfl : (Tryd.prog.info? 5).map (fun i => (i.zero, i.size, i.bytes)) = some (some (.int .u8 0), 1, 1))
  rw [run_equalIn_array W (d + 1) _ _ Tryd.underlying27 hi, List.range_eq_range', run_eqItems_bytes W d Tryd.underlying5 (by kernel_rfl) X Y 32 0 (by omega) (by omega)]
  simp
theorem run_part_int (w : World) {e : TypeId} {k : IntKind} (he : Tryd.prog.underlying e = some (.int k)) (cs : Array Value) (i : Nat) (v : Value) (h : cs[i]? = some v) : (part e cs i).run Tryd.prog w = .ok v w := by
  simp [part, isAgg, run_underlying he, h]
theorem run_part_dat (w : World) (cs : Array Value) (off : Nat) (X : List UInt8) (h : cs.extract off (off + 32) = dat X) : (part 27 cs off).run Tryd.prog w = .ok (.agg (dat X)) w := by
  have hs : (sizeOf 27).run Tryd.prog w = .ok 32 w := by kernel_rfl
  have ha : (isAgg 27).run Tryd.prog w = .ok true w := by kernel_rfl
  simp [part, ha, hs, h]
theorem run_part_head (w : World) (cs : Array Value) (off : Nat) (h : HeadL) (hx : cs.extract off (off + 36) = headC h) : (part 49 cs off).run Tryd.prog w = .ok (.agg (headC h)) w := by
  have hs : (sizeOf 49).run Tryd.prog w = .ok 36 w := by kernel_rfl
  have ha : (isAgg 49).run Tryd.prog w = .ok true w := by kernel_rfl
  simp [part, ha, hs, hx]
theorem eqi_int (d : Nat) (w : World) {e : TypeId} {k : IntKind} (he : Tryd.prog.underlying e = some (.int k)) (a b : Int) : (Op.equalIn (d + 1) e (.int k a) (.int k b)).run Tryd.prog w = .ok (a == b) w := by
  simp [Op.equalIn, run_underlying he]
theorem headC_ext (h : HeadL) : (headC h).extract 4 (4 + 32) = dat h.root := by
  unfold headC
  rw [Array.extract_append]
  simp [dat_size]
theorem eqField_step {d : Nat} {xs ys : Array Value} {nm tg pk : String} {ty : TypeId} {off bo : Nat} {em : Bool} {fs : List Field} {w : World} {a b : Value} {r : Bool} (hn : nm ≠ "_") (pa : (part ty xs off).run Tryd.prog w = .ok a w) (pb : (part ty ys off).run Tryd.prog w = .ok b w)
    (e : (Op.equalIn d ty a b).run Tryd.prog w = .ok r w) : (Op.eqFields d xs ys ({ name := nm, type := ty, offset := off, embedded := em, tag := tg, pkgPath := pk, byteOffset := bo } :: fs)).run Tryd.prog w = if r = true then (Op.eqFields d xs ys fs).run Tryd.prog w else .ok false w := by
  rw [Op.eqFields.eq_2, if_pos hn]
  simp only [Sem.run_bind, pa, pb, e, Result.andThen_ok]
  cases r <;> simp
theorem eqFields_end {d : Nat} {xs ys : Array Value} {w : World} : (Op.eqFields d xs ys []).run Tryd.prog w = .ok true w := by simp [Op.eqFields]
set_option maxRecDepth 100000 in
theorem eqi_head (d : Nat) (h h' : HeadL) (hr : h.root.length = 32) (hr' : h'.root.length = 32) (w : World) : (Op.equalIn (d + 3) 49 (.agg (headC h)) (.agg (headC h'))).run Tryd.prog w = .ok (headEq h h') w := by
  rw [run_equalIn_struct w (d + 2) _ _ _ (by kernel_rfl) (by kernel_rfl)]
  have p0 := run_part_int w Tryd.underlying3 (headC h) 0 _ (headC_0 h)
  have p1 := run_part_int w Tryd.underlying3 (headC h) 1 _ (headC_1 h)
  have p2 := run_part_int w Tryd.underlying41 (headC h) 2 _ (headC_2 h)
  have p3 := run_part_int w Tryd.underlying41 (headC h) 3 _ (headC_3 h)
  have p4 := run_part_dat w (headC h) 4 h.root (headC_ext h)
  have q0 := run_part_int w Tryd.underlying3 (headC h') 0 _ (headC_0 h')
  have q1 := run_part_int w Tryd.underlying3 (headC h') 1 _ (headC_1 h')
  have q2 := run_part_int w Tryd.underlying41 (headC h') 2 _ (headC_2 h')
  have q3 := run_part_int w Tryd.underlying41 (headC h') 3 _ (headC_3 h')
  have q4 := run_part_dat w (headC h') 4 h'.root (headC_ext h')
  have e0 := eqi_int (d + 1) w Tryd.underlying3 h.tree h'.tree
  have e1 := eqi_int (d + 1) w Tryd.underlying3 h.epoch h'.epoch
  have e2 := eqi_int (d + 1) w Tryd.underlying41 (n64 h.size) (n64 h'.size)
  have e3 := eqi_int (d + 1) w Tryd.underlying41 (n64 h.clock) (n64 h'.clock)
  have e4 := eqi_datD d h.root h'.root hr hr' w
  simp only [Program.fieldsOf, Tryd.underlying49]
  rw [eqField_step (by simp) p0 q0 e0, eqField_step (by simp) p1 q1 e1, eqField_step (by simp) p2 q2 e2, eqField_step (by simp) p3 q3 e3, eqField_step (by simp) p4 q4 e4, eqFields_end]
  unfold headEq
  clear p0 p1 p2 p3 p4 q0 q1 q2 q3 q4 e0 e1 e2 e3 e4
  generalize (h.tree == h'.tree) = b0
  generalize (h.epoch == h'.epoch) = b1
  generalize (n64 h.size == n64 h'.size) = b2
  generalize (n64 h.clock == n64 h'.clock) = b3
  generalize decide (h.root = h'.root) = b4
  cases b0 <;> cases b1 <;> cases b2 <;> cases b3 <;> cases b4 <;> rfl
theorem sigC_head (h : HeadL) (tag : List UInt8) : (sigC h tag).extract 0 (0 + 36) = headC h := by
  unfold sigC
  rw [Array.extract_append]
  simp [headC_size]
theorem sigC_tag (h : HeadL) (tag : List UInt8) : (sigC h tag).extract 36 (36 + 32) = dat tag := by
  unfold sigC
  rw [Array.extract_append]
  simp [headC_size]
  rw [← dat_size tag]; simp
  exact Nat.min_le_left _ _
set_option maxRecDepth 100000 in
theorem eqi_sig (d : Nat) (h h' : HeadL) (hr : h.root.length = 32) (hr' : h'.root.length = 32) (t t' : List UInt8) (ht : t.length = 32) (ht' : t'.length = 32) (w : World) :
    (Op.equalIn (d + 4) 51 (.agg (sigC h t)) (.agg (sigC h' t'))).run Tryd.prog w = .ok (headEq h h' && decide (t = t')) w := by
  rw [run_equalIn_struct w (d + 3) _ _ _ (by kernel_rfl) (by kernel_rfl)]
  have p0 := run_part_head w (sigC h t) 0 h (sigC_head h t)
  have p1 := run_part_dat w (sigC h t) 36 t (sigC_tag h t)
  have q0 := run_part_head w (sigC h' t') 0 h' (sigC_head h' t')
  have q1 := run_part_dat w (sigC h' t') 36 t' (sigC_tag h' t')
  have e0 := eqi_head d h h' hr hr' w
  have e1 := eqi_datD (d + 1) t t' ht ht' w
  simp only [Program.fieldsOf, Tryd.underlying51]
  rw [eqField_step (by simp) p0 q0 e0, eqField_step (by simp) p1 q1 e1, eqFields_end]
  clear p0 p1 q0 q1 e0 e1
  generalize headEq h h' = b0
  generalize decide (t = t') = b1
  cases b0 <;> cases b1 <;> rfl
theorem eql_sig (h h' : HeadL) (hr : h.root.length = 32) (hr' : h'.root.length = 32) (t t' : List UInt8) (ht : t.length = 32) (ht' : t'.length = 32) (w : World) :
    (binOp .eql 51 (.agg (sigC h t)) (.agg (sigC h' t'))).run Tryd.prog w = .ok (.bool (headEq h h' && decide (t = t'))) w := by
  rw [run_eql_struct, eqi_sig 9996 h h' hr hr' t t' ht ht']; rfl
theorem eql_head (h h' : HeadL) (hr : h.root.length = 32) (hr' : h'.root.length = 32) (w : World) :
    (binOp .eql 49 (.agg (headC h)) (.agg (headC h'))).run Tryd.prog w = .ok (.bool (headEq h h')) w := by
  rw [run_eql_struct, eqi_head 9997 h h' hr hr']; rfl
section
variable {ops : Array Oper} {C : World → Prop} {Q : Act → Prop} {a : Act} {o : Oper} {rest : List Oper}
theorem wpQuiet_eqS (hw : Region.wanted o (yielded ops a.tmps) = true) (x y : Operand) (yt : TypeId) (ho : o.op = .binOp .eql 51 x y yt) (h h' : HeadL) (t t' : List UInt8) (hx : a.eval x = .agg (sigC h t)) (hy : a.eval y = .agg (sigC h' t'))
    (hr : h.root.length = 32) (hr' : h'.root.length = 32) (ht : t.length = 32) (ht' : t'.length = 32)
    (b : Bool) (hb : (headEq h h' && decide (t = t')) = b) (hk : wpQuiet Tryd.prog ops C Q rest (a.put o.dst (.bool b))) : wpQuiet Tryd.prog ops C Q (o :: rest) a :=
  wpQuiet_wanted hw (.bool b) (fun w _ => by
    unfold Oper.quietAt execOp
    simp only [ho, hx, hy, Sem.run_bind, Sem.run_pure, Result.andThen_ok, run_eqGuard_agg (P := Tryd.prog) w .eql 51 x y _ _ (by kernel_rfl), eql_sig h h' hr hr' t t' ht ht', hb]
    exact ⟨rfl, rfl⟩) hk
theorem wpQuiet_eqH (hw : Region.wanted o (yielded ops a.tmps) = true) (x y : Operand) (yt : TypeId) (ho : o.op = .binOp .eql 49 x y yt) (h h' : HeadL) (hx : a.eval x = .agg (headC h)) (hy : a.eval y = .agg (headC h'))
    (hr : h.root.length = 32) (hr' : h'.root.length = 32)
    (b : Bool) (hb : headEq h h' = b) (hk : wpQuiet Tryd.prog ops C Q rest (a.put o.dst (.bool b))) : wpQuiet Tryd.prog ops C Q (o :: rest) a :=
  wpQuiet_wanted hw (.bool b) (fun w _ => by
    unfold Oper.quietAt execOp
    simp only [ho, hx, hy, Sem.run_bind, Sem.run_pure, Result.andThen_ok, run_eqGuard_agg (P := Tryd.prog) w .eql 49 x y _ _ (by kernel_rfl), eql_head h h' hr hr', hb]
    exact ⟨rfl, rfl⟩) hk
theorem wpQuiet_build {P : Program} {C : World → Prop} (hw : Region.wanted o (yielded ops a.tmps) = true) (t : TypeId) (parts : Array (Nat × Operand)) (ho : o.op = .build t parts) (cells : Array Value) (hb : P.built t (parts.map fun (i, x) => (i, a.eval x)).toList = some cells)
    (hk : wpQuiet P ops C Q rest (a.put o.dst (.agg cells))) : wpQuiet P ops C Q (o :: rest) a :=
  wpQuiet_wanted hw _ (fun w _ => by
    unfold Oper.quietAt execOp
    simp only [ho, Sem.run_bind, run_build w t _ cells hb, Result.andThen_ok, Sem.run_pure]
    exact ⟨rfl, rfl⟩) hk
theorem wpQuiet_build2 {P : Program} {C : World → Prop} (hw : Region.wanted o (yielded ops a.tmps) = true) (t : TypeId) (x y : Operand) (ho : o.op = .build t #[(0, x), (1, y)]) (vx vy : Value) (hx : a.eval x = vx) (hy : a.eval y = vy) (cells : Array Value) (hb : P.built t [(0, vx), (1, vy)] = some cells)
    (hk : wpQuiet P ops C Q rest (a.put o.dst (.agg cells))) : wpQuiet P ops C Q (o :: rest) a :=
  wpQuiet_build hw t _ ho cells (by simpa [hx, hy] using hb) hk
theorem wpQuiet_loadMid {P : Program} {C : World → Prop} (hw : Region.wanted o (yielded ops a.tmps) = true) (ty : TypeId) (x : Operand) (ho : o.op = .load ty x) (b off : Nat) (hx : a.eval x = .pointer (some ⟨b, off, none⟩)) (cs : Array Value) (d : TypeDesc) (hS : ∀ w, C w → w.rangeAt b off cs.toList)
    (hu : P.underlying ty = some d) (hd : d.isRow = true) (hi : (P.info? ty).map (·.size) = some cs.size) (hk : wpQuiet P ops C Q rest (a.put o.dst (.agg cs))) : wpQuiet P ops C Q (o :: rest) a :=
  wpQuiet_wanted hw _ (fun w hC => by
    unfold Oper.quietAt execOp
    simp only [ho, hx, Instr.loadAt, Instr.sureAddr, Sem.run_bind, Sem.run_pure, Result.andThen_ok, run_loadVar_mid w b off ty cs.toList d (hS w hC) hu hd (by simpa using hi)]
    exact ⟨rfl, by simp⟩) hk
end
theorem sig_head_range {w : World} {g : Nat} {t : TypeId} {h : HeadL} {tag : List UInt8} (hB : Blk w g t (sigC h tag)) : w.rangeAt g 0 (headC h).toList := by
  intro j v hj
  have hlt : j < (headC h).size := by simpa using (List.getElem?_eq_some_iff.1 hj).1
  rw [Nat.zero_add, hB.cell]
  unfold sigC
  rw [Array.getElem?_append_left hlt, ← hj]; simp
theorem sig_tag_range {w : World} {g : Nat} {t : TypeId} {h : HeadL} {tag : List UInt8} (hB : Blk w g t (sigC h tag)) : w.rangeAt g 36 (dat tag).toList := by
  intro j v hj
  rw [hB.cell]
  unfold sigC
  rw [Array.getElem?_append_right (by rw [headC_size]; omega), headC_size, show 36 + j - 36 = j by omega, ← hj]; simp
theorem built_sig (h : HeadL) (t : List UInt8) : Tryd.prog.built 51 [(0, .agg (headC h)), (1, .agg (dat t))] = some (sigC h t) := by kernel_rfl
end Go.Proofs.YtbhmmoecoijojaaDoor
