/- Texts that stand behind one another: Str, StrEq, Dig, Zeros, Make. No condition. -/
import Derived.Test.YteonmcconpfkjaaDoorP3
import Derived.Laws.BytesArg
import Derived.Laws.StructEq
import Derived.Maps.AppendAt
import Derived.Deep.MidRow
/- A slice of bytes as a string, in a quiet walk. No condition. -/
namespace Go.Proofs.YteonmcconpfkjaaDoor
open Go Go.RowKit
/-- the string of some bytes -/
def strV (bs : List UInt8) : Value := .string ⟨bs.toArray⟩
theorem nums_n8 (bs : List UInt8) : strOfNums (bs.map n8) = ⟨bs.toArray⟩ := by
  unfold strOfNums
  congr 1
  rw [List.map_map]
  congr 1
  apply List.ext_getElem (by simp)
  intro i h1 h2
  simp [n8]
theorem run_bytes_str {w : World} {B : Nat} {v : Value} {bs : List UInt8} (hv : BSl w B v bs) : (convert 22 9 v).run Tryd.prog w = .ok (strV bs) w := by
  obtain ⟨A, c, rfl, h1, h2, hr⟩ := hv
  cases A with
  | none =>
    have h0 : bs = [] := by
      cases bs with
      | nil => rfl
      | cons b l => obtain ⟨_, _, e, _⟩ := hr (by simp); cases e
    subst h0
    exact run_convert_bytes_nil w _ _ Tryd.underlying22 Tryd.underlying5 _ _ _ Tryd.underlying9
  | some p =>
    cases bs with
    | nil =>
      have hl : (loadCells p 0).run Tryd.prog w = .ok (([] : List Int).map (Value.int .u8)).toArray w := by
        have := run_loadCells_list (P := Tryd.prog) w p [] (fun j v hj => by simp at hj)
        simpa using this
      rw [List.length_nil, run_convert_bytes_string w _ _ _ _ 0 c Tryd.underlying22 Tryd.underlying5 Tryd.underlying9, run_bytesToString w p 0 c [] hl]
      rfl
    | cons b l =>
      obtain ⟨g, off, e, hb, hc⟩ := hr (by simp)
      cases e
      have h := run_convert_bytes_arg (P := Tryd.prog) w 22 5 Tryd.underlying22 Tryd.underlying5 g off (b :: l).length c ((b :: l).map n8) (by simp) (fun i hi => by
        have hh := hc i (v8 ((b :: l).getD i 0)) (by rw [List.getElem?_map, List.getElem?_eq_getElem hi]; simp [List.getD, List.getElem?_eq_getElem hi])
        rw [hh]
        rw [List.getD_eq_getElem?_getD, List.getD_eq_getElem?_getD, List.getElem?_map, List.getElem?_eq_getElem hi]
        rfl) 9 Tryd.underlying9
      rw [h, nums_n8]; rfl
section
variable {ops : Array Oper} {C : World → Prop} {Q : Act → Prop} {a : Act} {o : Oper} {rest : List Oper}
theorem wpQuiet_str (hw : Region.wanted o (yielded ops a.tmps) = true) (x : Operand) (ho : o.op = .convert 22 9 x) (v : Value) (bs : List UInt8) (B : Nat) (hx : a.eval x = v) (hv : ∀ w, C w → BSl w B v bs)
    (h : wpQuiet Tryd.prog ops C Q rest (a.put o.dst (strV bs))) : wpQuiet Tryd.prog ops C Q (o :: rest) a :=
  wpQuiet_wanted hw (strV bs) (fun w hC => by
    unfold Oper.quietAt execOp
    simp only [ho, hx, Sem.run_bind, run_bytes_str (hv w hC), Result.andThen_ok, Sem.run_pure]
    exact ⟨rfl, rfl⟩) h
end
end Go.Proofs.YteonmcconpfkjaaDoor

/- '==' on strings of bytes. No condition. -/
namespace Go.Proofs.YteonmcconpfkjaaDoor
open Go Go.RowKit
theorem bytes_beq (a b : List UInt8) : ((⟨a.toArray⟩ : ByteArray).toList == (⟨b.toArray⟩ : ByteArray).toList) = decide (a = b) := by
  rw [ByteArray.toList_eq, ByteArray.toList_eq]
  show (a.toArray.toList == b.toArray.toList) = decide (a = b)
  simp only [List.toList_toArray]
  by_cases h : a = b
  · subst h; simp
  · rw [decide_eq_false h, beq_eq_false_iff_ne]; exact h
theorem run_strEq (w : World) (a b : List UInt8) : (binOp .eql 9 (strV a) (strV b)).run Tryd.prog w = .ok (.bool (decide (a = b))) w := by
  unfold strV
  rw [binOp_string_eql, bytes_beq]
  simp
section
variable {ops : Array Oper} {C : World → Prop} {Q : Act → Prop} {a : Act} {o : Oper} {rest : List Oper}
theorem wpQuiet_eqStr (hw : Region.wanted o (yielded ops a.tmps) = true) (x y : Operand) (yt : TypeId) (ho : o.op = .binOp .eql 9 x y yt) (X Y : List UInt8) (hx : a.eval x = strV X) (hy : a.eval y = strV Y)
    (b : Bool) (hb : decide (X = Y) = b) (hk : wpQuiet Tryd.prog ops C Q rest (a.put o.dst (.bool b))) : wpQuiet Tryd.prog ops C Q (o :: rest) a :=
  wpQuiet_wanted hw (.bool b) (fun w _ => by
    have hg : (eqGuard .eql 9 x y (strV X) (strV Y)).run Tryd.prog w = .ok () w := by unfold strV; simp [eqGuard]
    unfold Oper.quietAt execOp
    simp only [ho, hx, hy, Sem.run_bind, Sem.run_pure, Result.andThen_ok, hg, run_strEq, hb]
    exact ⟨rfl, rfl⟩) hk
theorem run_strNe (w : World) (a b : List UInt8) : (binOp .neq 9 (strV a) (strV b)).run Tryd.prog w = .ok (.bool (!decide (a = b))) w := by
  have h : binOp .neq 9 (strV a) (strV b) = pure (.bool (!((⟨a.toArray⟩ : ByteArray).toList == (⟨b.toArray⟩ : ByteArray).toList))) := by unfold strV; simp [binOp, Op.stringOp, bne]
  rw [h, bytes_beq]
  simp
theorem wpQuiet_neStr (hw : Region.wanted o (yielded ops a.tmps) = true) (x y : Operand) (yt : TypeId) (ho : o.op = .binOp .neq 9 x y yt) (X Y : List UInt8) (hx : a.eval x = strV X) (hy : a.eval y = strV Y)
    (b : Bool) (hb : decide (X = Y) = b) (hk : wpQuiet Tryd.prog ops C Q rest (a.put o.dst (.bool (!b)))) : wpQuiet Tryd.prog ops C Q (o :: rest) a :=
  wpQuiet_wanted hw (.bool (!b)) (fun w _ => by
    have hg : (eqGuard .neq 9 x y (strV X) (strV Y)).run Tryd.prog w = .ok () w := by unfold strV; simp [eqGuard]
    unfold Oper.quietAt execOp
    simp only [ho, hx, hy, Sem.run_bind, Sem.run_pure, Result.andThen_ok, hg, run_strNe, hb]
    exact ⟨rfl, rfl⟩) hk
end
end Go.Proofs.YteonmcconpfkjaaDoor

/- Lists of digests: their cells, a literal of one, append of one onto a row of the call's own. No condition. -/
namespace Go.Proofs.YteonmcconpfkjaaDoor
open Go Go.RowKit
/-- the cells of a list of digests -/
def dcells (l : List (List UInt8)) : List Value := (l.map fun d => (dat d).toList).flatten
theorem dcells_snoc (l : List (List UInt8)) (d : List UInt8) : dcells (l ++ [d]) = dcells l ++ (dat d).toList := by simp [dcells]
theorem dcells_length (l : List (List UInt8)) : (dcells l).length = l.length * 32 := by
  unfold dcells
  induction l with
  | nil => rfl
  | cons d l ih => simp only [List.map_cons, List.flatten_cons, List.length_append, ih]; rw [show (dat d).toList.length = 32 by rw [Array.length_toList, dat_size]]; simp; omega
theorem dcells_at (l : List (List UInt8)) (k : Nat) (hk : k < l.length) (j : Nat) (hj : j < 32) : (dcells l)[k * 32 + j]? = (dat (l.getD k []))[j]? := by
  induction l generalizing k with
  | nil => simp at hk
  | cons d l ih =>
    have hd : (dat d).toList.length = 32 := by rw [Array.length_toList, dat_size]
    have e : dcells (d :: l) = (dat d).toList ++ dcells l := by simp [dcells]
    rw [e]
    cases k with
    | zero => rw [List.getElem?_append_left (by omega)]; simp
    | succ k =>
      rw [List.getElem?_append_right (by omega), hd, show (k + 1) * 32 + j - 32 = k * 32 + j by omega, ih k (by simpa using hk)]; simp
set_option maxRecDepth 100000 in
theorem build_digest (d : List UInt8) (w : World) : (Instr.buildSlice 69 1 #[(0, .agg (dat d))]).run Tryd.prog w = .ok (.slice (some ⟨w.heap.size, 0, none⟩) 1 1) (w.alloc (.cells (dat d) 43)) := by kernel_rfl
theorem wpList_buildD {w : World} {ops : Array Oper} {rest : List Oper} {o : Oper} {a : Act} {Q : Exit → Act → World → Prop} (hgd : o.guard = none) (x : Operand) (ho : o.op = .buildSlice 69 1 #[(0, x)]) (d : List UInt8) (hx : a.eval x = .agg (dat d))
    (h : wpList Tryd.prog ops Q rest (a.put o.dst (.slice (some ⟨w.heap.size, 0, none⟩) 1 1)) (w.alloc (.cells (dat d) 43))) : wpList Tryd.prog ops Q (o :: rest) a w :=
  wpList_plain hgd fun K hK => by
    unfold Oper.wp execOp
    simp only [ho, List.map_toArray, List.map_cons, List.map_nil, hx, Sem.run_bind, build_digest d, Result.andThen_ok, Sem.run_pure]
    exact hK _ _ h
theorem own_oneD (w : World) (base : Nat) (hb : base ≤ w.heap.size) (d : List UInt8) : (w.alloc (.cells (dat d) 43)).ownsRow base 43 32 (.slice (some ⟨w.heap.size, 0, none⟩) 1 1) ([d] : List (List UInt8)).length (dcells [d]) := by
  have hl : (dcells [d]) = (dat d).toList := by simp [dcells]
  refine ⟨by rw [hl, Array.length_toList, dat_size]; rfl, .inr ⟨w.heap.size, 1, dat d, rfl, hb, heap_alloc_new w _, Nat.le_refl _, by decide, by rw [dat_size], ?_⟩⟩
  rw [hl, List.take_of_length_le (by rw [Array.length_toList, dat_size]; show 32 ≤ 1 * 32; decide)]
theorem range_plus {w : World} {b off : Nat} {cs : List Value} (h : w.rangeAt b off cs) (e : Ext) : (plus w e).rangeAt b off cs := fun j v hj => by
  have h1 := h j v hj
  rw [plus_cell w e ⟨b, off + j, none⟩ (block_lt_of_cell h1)]; exact h1
section
variable {ops : Array Oper} {Q : Act → Prop} {a : Act} {o : Oper} {rest : List Oper}
theorem wpQuiet_loadMid {P : Program} {C : World → Prop} (hw : Region.wanted o (yielded ops a.tmps) = true) (ty : TypeId) (x : Operand) (ho : o.op = .load ty x) (b off : Nat) (hx : a.eval x = .pointer (some ⟨b, off, none⟩)) (cs : Array Value) (d : TypeDesc) (hS : ∀ w, C w → w.rangeAt b off cs.toList)
    (hu : P.underlying ty = some d) (hd : d.isRow = true) (hi : (P.info? ty).map (·.size) = some cs.size) (hk : wpQuiet P ops C Q rest (a.put o.dst (.agg cs))) : wpQuiet P ops C Q (o :: rest) a :=
  wpQuiet_wanted hw _ (fun w hC => by
    unfold Oper.quietAt execOp
    simp only [ho, hx, Instr.loadAt, Instr.sureAddr, Sem.run_bind, Sem.run_pure, Result.andThen_ok, run_loadVar_mid w b off ty cs.toList d (hS w hC) hu hd (by simpa using hi)]
    exact ⟨rfl, by simp⟩) hk
end
theorem wpList_loadMid {P : Program} {w : World} {ops : Array Oper} {rest : List Oper} {o : Oper} {a : Act} {Q : Exit → Act → World → Prop} (hw : Region.wanted o (yielded ops a.tmps) = true) (ty : TypeId) (x : Operand) (ho : o.op = .load ty x) (b off : Nat) (hx : a.eval x = .pointer (some ⟨b, off, none⟩)) (cs : Array Value) (d : TypeDesc)
    (hS : w.rangeAt b off cs.toList) (hu : P.underlying ty = some d) (hd : d.isRow = true) (hi : (P.info? ty).map (·.size) = some cs.size)
    (h : wpList P ops Q rest (a.put o.dst (.agg cs)) w) : wpList P ops Q (o :: rest) a w :=
  wpList_step fun K hK => by
    simp only [hw, if_true]
    unfold Oper.wp execOp
    simp only [ho, hx, Instr.loadAt, Instr.sureAddr, Sem.run_bind, Sem.run_pure, Result.andThen_ok, run_loadVar_mid w b off ty cs.toList d hS hu hd (by simpa using hi)]
    exact hK _ _ h
/-- append of one digest onto a row of digests of the call's own -/
theorem wpList_appendDig {w : World} {ops : Array Oper} {rest : List Oper} {o : Oper} {a : Act} {Q : Exit → Act → World → Prop} (hgd : o.guard = none) (s x : Operand)
    (ho : o.op = .call { callee := .builtin .append, args := #[s, x], argTypes := #[69, 69] })
    (base : Nat) (v : Value) (ds : List (List UInt8)) (hs : a.eval s = v) (hown : w.ownsRow base 43 32 v ds.length (dcells ds))
    (g : Nat) (d : List UInt8) (hx : a.eval x = .slice (some ⟨g, 0, none⟩) 1 1) (hX : Blk w g 43 (dat d)) (hl : ds.length ≤ 1000000000) (hbase : base ≤ w.heap.size)
    (h : ∀ v' w', w'.ownsRow base 43 32 v' (ds ++ [d]).length (dcells (ds ++ [d])) → w.grownBy w' v.ownBlock → wpList Tryd.prog ops Q rest (a.put o.dst v') w') : wpList Tryd.prog ops Q (o :: rest) a w := by
  obtain ⟨i0, hi, hz0, hz1, hz2⟩ := info_parts (by kernel_rfl : (Tryd.prog.info? 43).map (fun i => (i.zero, i.size, i.bytes)) = some (some (.agg (arr 32 fun _ => 0)), 32, 32))
  refine wpList_append_own_at _ hgd s x _ ho base 43 i0 _ 32 32 Tryd.underlying69 hi hz0 hz1 hz2 (by show (arr 32 fun _ => 0).size = 32; exact arr_size _ _) (by decide) v _ _ hs hown ⟨g, 0, none⟩ 1 1 (dat d).toList hx (by rw [Array.length_toList, dat_size]) (fun j u hj => by
      have e : (⟨g, 0, none⟩ : Addr).add j = ⟨g, j, none⟩ := by unfold Addr.add; split <;> simp_all
      rw [e, hX.cell, ← hj]; simp) (arr_one _ _) (by unfold maxLen; omega) (by omega) hbase ?_
  intro v' w' hown' hg _ _
  rw [← dcells_snoc] at hown'
  exact h v' w' (by rw [List.length_append]; exact hown') hg
end Go.Proofs.YteonmcconpfkjaaDoor

/- append(s, make([]T, n)...) as a law of the walk, onto a row of the call's own. No condition. -/
namespace Go.Proofs.YteonmcconpfkjaaDoor
open Go Go.RowKit
section
variable {P : Program}
theorem zeroCells_one (z : Value) (hz : z.cells = #[z]) (m : Nat) : Builtin.zeroCells z.cells m = (List.replicate m z).toArray := by
  rw [hz]
  apply Array.ext
  · simp [Builtin.zeroCells]
  · intro i h1 h2
    simp [Builtin.zeroCells, Nat.mod_one]
theorem run_append_zeros (w : World) (base : Nat) (t ty e it : TypeId) (i : TypeInfo) (z : Value) (bytes : Nat) (k kk : IntKind) (ht : P.underlying t = some (.slice e)) (hit : P.underlying it = some (.int k)) (hi : P.info? e = some i) (hz : i.zero = some z)
    (hsize : i.size = 1) (hby : i.bytes = bytes) (hzs : z.cells = #[z]) (h1z : z.oneCell' = true)
    (v : Value) (xs : List Value) (hown : w.ownsRow base e 1 v xs.length xs) (m : Nat)
    (h63 : xs.length + m ≤ maxLen) (hbytes : (xs.length + m) * bytes ≤ 140737488355328) (hbase : base ≤ w.heap.size) (hpos : 0 < bytes) :
    ∃ v' w', (Builtin.append_ #[t, it] ty #[v, .int kk (m : Int)]).run P w = .ok v' w' ∧ w'.ownsRow base e 1 v' (xs ++ List.replicate m z).length (xs ++ List.replicate m z) ∧ w.grownBy w' v.ownBlock ∧ (v'.ownBlock = v.ownBlock ∨ v'.ownBlock = some w.heap.size) := by
  subst hby
  have hsmall : xs.length + m ≤ 9223372036854775807 := by simp only [maxLen] at h63; omega
  have hwrap : IntKind.i64.wrap (m : Int) = (m : Int) := IntWalk.i64_in _ (by omega)
  have hm0 : ¬ ((m : Int) < 0) := by omega
  have hmb : ¬ ((m : Int) * (i.bytes : Int) > 2 ^ 48) := by
    have h1 : m * i.bytes ≤ (xs.length + m) * i.bytes := Nat.mul_le_mul_right _ (by omega)
    have h2 : m * i.bytes ≤ 281474976710656 := by omega
    have h3 : ((m * i.bytes : Nat) : Int) ≤ 281474976710656 := by omega
    rw [Int.natCast_mul] at h3
    omega
  have hmb' : ¬ (281474976710656 < (m : Int) * (i.bytes : Int)) := by simpa using hmb
  have hzc := zeroCells_one z hzs
  have hlen : (xs ++ List.replicate m z).length = xs.length + m := by simp
  have hfits : ∀ old, old < xs.length + m → Builtin.nextslicecap (xs.length + m) old * i.bytes ≤ 281474976710656 := fun old ho => growslice_fits ho hbytes
  have grown : ∀ (old : Nat), old < xs.length + m → ∀ (row : Option Nat),
      (w.drew.alloc (.cells (xs.toArray ++ (List.replicate m z).toArray ++ Builtin.zeroCells z.cells (grownCap w (xs.length + m) old e - (xs.length + m))) e)).ownsRow base e 1
        (.slice (some ⟨w.heap.size, 0, none⟩) (xs.length + m) (grownCap w (xs.length + m) old e)) (xs.length + m) (xs ++ List.replicate m z) ∧
      w.grownBy (w.drew.alloc (.cells (xs.toArray ++ (List.replicate m z).toArray ++ Builtin.zeroCells z.cells (grownCap w (xs.length + m) old e - (xs.length + m))) e)) row := by
    intro old ho row
    have hge := grownCap_ge w (xs.length + m) old e
    have hcm : grownCap w (xs.length + m) old e ≤ maxLen := grownCap_le_maxLen w (xs.length + m) old e h63
    refine ⟨⟨by rw [hlen, Nat.mul_one], .inr ⟨w.heap.size, _, _, rfl, hbase, heap_alloc_new w.drew _, hge, hcm, ?_, ?_⟩⟩, ⟨rfl, rfl, rfl, by simp, fun k hk _ => Below.heap_alloc w.drew _ k hk⟩⟩
    · rw [hzc]; simp; omega
    · rw [hzc]
      simp only [Array.toList_append, List.append_assoc]
      rw [← List.append_assoc, Nat.mul_one, ← hlen]
      exact List.take_left
  rcases hown.2 with ⟨rfl, hx0⟩ | ⟨g, cap, cur, rfl, hbg, hg, hnc, hcm, hcs, htake⟩
  · have hx : xs = [] := List.eq_nil_of_length_eq_zero hx0
    subst hx
    by_cases hm : m = 0
    · subst hm
      refine ⟨.slice none 0 0, w, ?_, World.ownsRow_nil w base e 1, World.grownBy.refl w _, Or.inl rfl⟩
      have hw0 : IntKind.i64.wrap 0 = 0 := by decide
      simp [Builtin.append_, asInt, asIntOf, run_underlying ht, run_underlying hit, sizeOf, typeInfo, hi, hw0]
    · have hgr := grown 0 (by simp; omega) (Value.ownBlock (.slice none 0 0))
      have hf := hfits 0 (by simp; omega)
      simp only [List.length_nil, Nat.zero_add, List.nil_append, Array.empty_append] at hgr hf ⊢
      refine ⟨_, _, ?_, by rw [List.length_replicate]; exact hgr.1, hgr.2, Or.inr rfl⟩
      have hf' : ¬ (281474976710656 < Builtin.nextslicecap m 0 * i.bytes) := by omega
      have h9 : ¬ (9223372036854775807 < (m : Int)) := by simp at hsmall; omega
      have hd := hzc m
      simp [Builtin.append_, asInt, asIntOf, run_underlying ht, run_underlying hit, sizeOf, typeInfo, zeroValue, hi, hz, hsize, hwrap, hm0, hmb', hm, h9, hf', Question.forced, run_firstCells_none, newRow, grownCap, hd]
  · by_cases hroom : xs.length + m ≤ cap
    · have hcell : ∀ (n : Nat) (xs0 : List Value), True := fun _ _ => trivial
      have hcur : cur.size = cap := by omega
      have hst := run_storeCells_at P g xs.length e (List.replicate m z) 0 cur w hg (by rw [List.length_replicate]; omega) (fun v hv => by rw [List.eq_of_mem_replicate hv]; exact h1z)
      have hadd : (⟨g, 0, none⟩ : Addr).add xs.length = ⟨g, xs.length, none⟩ := by
        unfold Addr.add; split
        · rename_i h0; rw [h0]
        · simp
      refine ⟨.slice (some ⟨g, 0, none⟩) (xs.length + m) cap, w.setRow g (cur.toList.take (xs.length + 0) ++ List.replicate m z ++ cur.toList.drop (xs.length + 0 + (List.replicate m z).length)).toArray, ?_, ⟨by rw [Nat.mul_one], .inr ⟨g, cap, _, by rw [hlen], hbg, setRow_heap w g cur _ e _ hg, by rw [hlen]; exact hroom, hcm, ?_, ?_⟩⟩, only_setRow w g _, Or.inl rfl⟩
      · by_cases hm : m = 0
        · subst hm
          have hw0 : IntKind.i64.wrap 0 = 0 := by decide
          have hroom0 : xs.length ≤ cap := by omega
          simp [Builtin.append_, asInt, asIntOf, run_underlying ht, run_underlying hit, sizeOf, typeInfo, hi, hw0, hroom0, storeCells]
          rw [setRow_self w g cur e (0, 0) hg]
        · have hd := hzc m
          rw [← hadd] at hst
          simp [Builtin.append_, asInt, asIntOf, run_underlying ht, run_underlying hit, sizeOf, typeInfo, zeroValue, hi, hz, hsize, hwrap, hm0, hmb', hm, hroom, hd, hst]
      · simp; omega
      · have ht1 : cur.toList.take xs.length = xs := by rw [Nat.mul_one] at htake; exact htake
        rw [Nat.add_zero, ht1, Nat.mul_one]
        exact List.take_left
    · have holds : ∀ j u, xs[j]? = some u → w.cell? ((⟨g, 0, none⟩ : Addr).add j) = some u := hown.cells (g := g) rfl
      have hgr := grown cap (by omega) (Value.ownBlock (.slice (some ⟨g, 0, none⟩) xs.length cap))
      have hf' : ¬ (281474976710656 < Builtin.nextslicecap (xs.length + m) cap * i.bytes) := by have := hfits cap (by omega); omega
      have h9 : ¬ (9223372036854775807 < ((xs.length : Int) + (m : Int))) := by omega
      have hfo := run_firstCells_some (P := P) w.drew i.size xs.length ⟨g, 0, none⟩ xs.length cap xs (by rw [hsize, Nat.mul_one]) (by simpa using holds)
      have hm : m ≠ 0 := by omega
      have hd := hzc m
      refine ⟨_, _, ?_, by rw [hlen]; exact hgr.1, hgr.2, Or.inr rfl⟩
      rw [hsize] at hfo
      simp [Builtin.append_, asInt, asIntOf, run_underlying ht, run_underlying hit, sizeOf, typeInfo, zeroValue, hi, hz, hsize, hwrap, hm0, hmb', hm, hroom, h9, hf', Question.forced, newRow, grownCap, hd, hfo]
theorem wpList_appendZ {w : World} {ops : Array Oper} {rest : List Oper} {o : Oper} {a : Act} {Q : Exit → Act → World → Prop} (hgd : o.guard = none) (s x : Operand) (t it : TypeId)
    (ho : o.op = .call { callee := .builtin .append, args := #[s, x], argTypes := #[t, it] })
    (base : Nat) (e : TypeId) (i : TypeInfo) (z : Value) (bytes : Nat) (k kk : IntKind) (ht : P.underlying t = some (.slice e)) (hit : P.underlying it = some (.int k)) (hi : P.info? e = some i) (hz : i.zero = some z)
    (hsize : i.size = 1) (hby : i.bytes = bytes) (hzs : z.cells = #[z]) (h1z : z.oneCell' = true)
    (v : Value) (xs : List Value) (hs : a.eval s = v) (hown : w.ownsRow base e 1 v xs.length xs) (m : Nat) (hx : a.eval x = .int kk (m : Int))
    (h63 : xs.length + m ≤ maxLen) (hbytes : (xs.length + m) * bytes ≤ 140737488355328) (hbase : base ≤ w.heap.size) (hpos : 0 < bytes)
    (h : ∀ v' w', w'.ownsRow base e 1 v' (xs ++ List.replicate m z).length (xs ++ List.replicate m z) → w.grownBy w' v.ownBlock → (v'.ownBlock = v.ownBlock ∨ v'.ownBlock = some w.heap.size) → wpList P ops Q rest (a.put o.dst v') w') : wpList P ops Q (o :: rest) a w := by
  refine wpList_plain hgd fun K hK => ?_
  obtain ⟨v', w', hrun, h2, h3, h4⟩ := run_append_zeros (P := P) w base t o.type e it i z bytes k kk ht hit hi hz hsize hby hzs h1z v xs hown m h63 hbytes hbase hpos
  unfold Oper.wp execOp
  simp only [ho, resolve, invoke, builtin, Sem.run_bind, Sem.run_pure, Result.andThen_ok, List.map_toArray, List.map_cons, List.map_nil, hs, hx, hrun]
  exact hK _ _ (h v' w' h2 h3 h4)
end
end Go.Proofs.YteonmcconpfkjaaDoor

/- make([]T, n) as an exact law of the walk; slices of uint64. No condition. -/
namespace Go.Proofs.YteonmcconpfkjaaDoor
open Go Go.RowKit
theorem madeCells_one (z : Value) (hz : z.cells = #[z]) (n : Nat) : madeCells z.cells n = (List.replicate n z).toArray := by
  rw [hz]
  apply Array.ext
  · simp [madeCells]
  · intro i h1 h2
    simp [madeCells, Nat.mod_one]
theorem wpList_makeB {P : Program} {w : World} {ops : Array Oper} {rest : List Oper} {o : Oper} {a : Act} {Q : Exit → Act → World → Prop} (hgd : o.guard = none) (l c : Operand) (t : TypeId) (ho : o.op = Op.makeSlice t l c)
    (e : TypeId) (i : TypeInfo) (z : Value) (ht : P.underlying t = some (.slice e)) (hi : P.info? e = some i) (hz : i.zero = some z) (hs : i.size = 1) (hzc : z.cells = #[z])
    (kl kc : IntKind) (n : Nat) (hl : a.eval l = .int kl (n : Int)) (hc : a.eval c = .int kc (n : Int)) (hbytes : i.bytes * n ≤ 281474976710656) (h63 : n ≤ 9223372036854775807)
    (h : wpList P ops Q rest (a.put o.dst (.slice (some ⟨w.heap.size, 0, none⟩) n n)) (w.alloc (.cells (List.replicate n z).toArray e))) : wpList P ops Q (o :: rest) a w := by
  refine wpList_plain hgd fun K hK => ?_
  have hb : (i.bytes : Int) * (n : Int) ≤ 281474976710656 := by
    have h : ((i.bytes * n : Nat) : Int) ≤ 281474976710656 := by omega
    rwa [Int.natCast_mul] at h
  have hr := run_make (P := P) w t e i z ht hi hz kl kc n n (by omega) (by omega) hb (by omega)
  rw [Int.toNat_natCast, hs, Nat.mul_one, madeCells_one z hzc] at hr
  unfold Oper.wp
  simp [execOp, ho, hl, hc, hr, Result.andThen]
  exact hK _ _ h
theorem wpList_store1 {P : Program} {w : World} {ops : Array Oper} {rest : List Oper} {o : Oper} {a : Act} {Q : Exit → Act → World → Prop} (hgd : o.guard = none) (hdst : o.dst = none) (ty : TypeId) (x y : Operand) (ho : o.op = .store ty x y) (g off : Nat) (hx : a.eval x = .pointer (some ⟨g, off, none⟩)) (v : Value) (hy : a.eval y = v)
    (t : TypeId) (cs : Array Value) (hg : Blk w g t cs) (hi : (P.info? ty).map (·.size) = some 1) (hfit : off < cs.size) (hv : v.cells = #[v]) (h1 : v.oneCell' = true)
    (h : ∀ w', Blk w' g t (cs.setIfInBounds off v) → w.grownBy w' (some g) → wpList P ops Q rest a w') : wpList P ops Q (o :: rest) a w := by
  refine wpList_plain hgd fun K hK => ?_
  have hst := run_storeCells_at P g off t [v] 0 cs w hg (by simp; omega) (by simpa using h1)
  have hwhole : (cs.toList.take (off + 0) ++ [v] ++ cs.toList.drop (off + 0 + [v].length)).toArray = cs.setIfInBounds off v := by
    apply Array.toList_inj.1
    rw [Array.toList_setIfInBounds, List.set_eq_take_append_cons_drop, if_pos (by simpa using hfit)]
    simp
  rw [hwhole] at hst
  have := h (w.setRow g (cs.setIfInBounds off v)) (setRow_heap w g cs _ t _ hg) (only_setRow w g _)
  unfold Oper.wp execOp
  obtain ⟨i, hi1, hi2⟩ : ∃ i, P.info? ty = some i ∧ i.size = 1 := by
    cases hq : P.info? ty with
    | none => rw [hq] at hi; cases hi
    | some i => rw [hq] at hi; exact ⟨i, rfl, by simpa using hi⟩
  simp [ho, hx, hy, storeVar, sizeOf, typeInfo, hi1, hi2, hv, hst, Instr.storeAt, Instr.sureAddr]
  have e2 : a.put o.dst undef = a := by rw [hdst]; rfl
  have h9 := hK _ _ this
  rw [← e2] at h9
  exact h9
/-- v is a slice of words that reads xs, below block B -/
def USl (w : World) (B : Nat) (v : Value) (xs : List UInt64) : Prop :=
  ∃ A cap, v = .slice A xs.length cap ∧ xs.length ≤ cap ∧ cap ≤ 9223372036854775807 ∧ Reads w B A (xs.map v64)
section
variable {w w' : World} {B B' : Nat} {v : Value} {xs : List UInt64}
theorem USl.below (h : USl w B v xs) (hb : Below B w w') : USl w' B v xs := by
  obtain ⟨A, cap, h1, h2, h3, h4⟩ := h
  exact ⟨A, cap, h1, h2, h3, h4.below hb⟩
theorem USl.more (h : USl w B v xs) (hB : B ≤ B') : USl w B' v xs := by
  obtain ⟨A, cap, h1, h2, h3, h4⟩ := h
  exact ⟨A, cap, h1, h2, h3, h4.more hB⟩
theorem USl.next (h : USl w w.heap.size v xs) (hb : Below w.heap.size w w') : USl w' w'.heap.size v xs := (h.below hb).more hb.size
theorem USl.of_blk {w : World} {g : Nat} {t : TypeId} {xs : List UInt64} (h : Blk w g t (xs.map v64).toArray) (B : Nat) (hB : g < B) (cap : Nat) (hcap : xs.length ≤ cap) (hc : cap ≤ 9223372036854775807) : USl w B (.slice (some ⟨g, 0, none⟩) xs.length cap) xs :=
  ⟨_, cap, rfl, hcap, hc, by simpa using Reads.of_blk h hB 0⟩
end
theorem map_v64_set (l : List UInt64) (i : Nat) (v : UInt64) : (l.map v64).set i (v64 v) = (l.set i v).map v64 := by rw [List.map_set]
theorem v64_at (l : List UInt64) (i : Nat) (h : i < l.length) : (l.map v64)[i]? = some (.int .u64 (n64 (l.getD i 0))) := by
  rw [List.getElem?_map, List.getElem?_eq_getElem h, List.getD_eq_getElem?_getD, List.getElem?_eq_getElem h]; rfl
theorem mul64 (x y : UInt64) : (n64 x * n64 y) % 18446744073709551616 = n64 (x * y) := by
  unfold n64; rw [UInt64.toNat_mul]; omega
theorem sub64 (x y : UInt64) : (n64 x - n64 y) % 18446744073709551616 = n64 (x - y) := by
  unfold n64; rw [UInt64.toNat_sub]; have := x.toNat_lt; have := y.toNat_lt; omega
theorem wrap_n64 (x : UInt64) : IntKind.u64.wrap (n64 x) = n64 x := by rw [wrap_u64']; have := n64_lo x; have := n64_hi x; omega
theorem wrap_mul64 (x y : UInt64) : IntKind.u64.wrap (n64 x * n64 y) = n64 (x * y) := by rw [wrap_u64', mul64]
theorem wrap_add64 (x y : UInt64) : IntKind.u64.wrap (n64 x + n64 y) = n64 (x + y) := by rw [wrap_u64', add64]
theorem wrap_sub64 (x y : UInt64) : IntKind.u64.wrap (n64 x - n64 y) = n64 (x - y) := by rw [wrap_u64', sub64]
theorem and64_c (x : UInt64) : bits .and .u64 (n64 x) 65535 = n64 (x &&& 65535) := bits_and64 x 65535
theorem shr64 (x y : UInt64) (r : Nat) (hy : y.toNat = r) (hr : r < 64) : n64 x / 2 ^ r = n64 (x >>> y) := by
  unfold n64; rw [UInt64.toNat_shiftRight, hy, Nat.mod_eq_of_lt hr, Nat.shiftRight_eq_div_pow]; simp
theorem shr64_16 (x : UInt64) : n64 x / (65536 : Int) = n64 (x >>> 16) := shr64 x 16 16 rfl (by decide)
theorem shr64_32 (x : UInt64) : n64 x / (4294967296 : Int) = n64 (x >>> 32) := shr64 x 32 32 rfl (by decide)
theorem shr64_48 (x : UInt64) : n64 x / (281474976710656 : Int) = n64 (x >>> 48) := shr64 x 48 48 rfl (by decide)
end Go.Proofs.YteonmcconpfkjaaDoor
