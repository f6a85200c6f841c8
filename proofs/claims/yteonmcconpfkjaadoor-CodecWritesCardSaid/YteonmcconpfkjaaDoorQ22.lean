/- Texts that stand behind one another: Dig, ListP, OwnX, Same8, DX. No condition. -/
import Derived.Test.YteonmcconpfkjaaDoorQ6
import Derived.Maps.AppendAt
import Derived.Deep.MidRow
import Derived.Test.YteonmcconpfkjaaDoorQ21
import Derived.Test.YteonmcconpfkjaaDoorQ8
import Derived.Test.YteonmcconpfkjaaDoorQ9
import Derived.Test.YteonmcconpfkjaaDoorQ5
import Derived.Test.YteonmcconpfkjaaDoorQ11
/- Lists of digests: their cells, a literal of one, append of one onto a row of the call's own. No condition. -/
namespace Go.Proofs.YteonmcconpfkjaaDoor
open Go Go.RowKit
/-- the cells of a list of digests -/
def dcells (l : List (List UInt8)) : List Value := (l.map fun d => (dat d).toList).flatten
theorem dcells_snoc (l : List (List UInt8)) (d : List UInt8) : dcells (l ++ [d]) = dcells l ++ (dat d).toList := by simp [dcells]
theorem dcells_length (l : List (List UInt8)) : (dcells l).length = l.length * 32 := by
  unfold dcells
  induction l with
  | nil => rfl
  | cons d l ih => simp only [List.map_cons, List.flatten_cons, List.length_append, ih]; rw [show (dat d).toList.length = 32 by rw [Array.length_toList, dat_size]]; simp; omega
theorem dcells_at (l : List (List UInt8)) (k : Nat) (hk : k < l.length) (j : Nat) (hj : j < 32) : (dcells l)[k * 32 + j]? = (dat (l.getD k []))[j]? := by
  induction l generalizing k with
  | nil => simp at hk
  | cons d l ih =>
    have hd : (dat d).toList.length = 32 := by rw [Array.length_toList, dat_size]
    have e : dcells (d :: l) = (dat d).toList ++ dcells l := by simp [dcells]
    rw [e]
    cases k with
    | zero => rw [List.getElem?_append_left (by omega)]; simp
    | succ k =>
      rw [List.getElem?_append_right (by omega), hd, show (k + 1) * 32 + j - 32 = k * 32 + j by omega, ih k (by simpa using hk)]; simp
set_option maxRecDepth 100000 in
theorem build_digest (d : List UInt8) (w : World) : (Instr.buildSlice 69 1 #[(0, .agg (dat d))]).run Tryd.prog w = .ok (.slice (some ⟨w.heap.size, 0, none⟩) 1 1) (w.alloc (.cells (dat d) 43)) := by kernel_rfl
theorem wpList_buildD {w : World} {ops : Array Oper} {rest : List Oper} {o : Oper} {a : Act} {Q : Exit → Act → World → Prop} (hgd : o.guard = none) (x : Operand) (ho : o.op = .buildSlice 69 1 #[(0, x)]) (d : List UInt8) (hx : a.eval x = .agg (dat d))
    (h : wpList Tryd.prog ops Q rest (a.put o.dst (.slice (some ⟨w.heap.size, 0, none⟩) 1 1)) (w.alloc (.cells (dat d) 43))) : wpList Tryd.prog ops Q (o :: rest) a w :=
  wpList_plain hgd fun K hK => by
    unfold Oper.wp execOp
    simp only [ho, List.map_toArray, List.map_cons, List.map_nil, hx, Sem.run_bind, build_digest d, Result.andThen_ok, Sem.run_pure]
    exact hK _ _ h
theorem own_oneD (w : World) (base : Nat) (hb : base ≤ w.heap.size) (d : List UInt8) : (w.alloc (.cells (dat d) 43)).ownsRow base 43 32 (.slice (some ⟨w.heap.size, 0, none⟩) 1 1) ([d] : List (List UInt8)).length (dcells [d]) := by
  have hl : (dcells [d]) = (dat d).toList := by simp [dcells]
  refine ⟨by rw [hl, Array.length_toList, dat_size]; rfl, .inr ⟨w.heap.size, 1, dat d, rfl, hb, heap_alloc_new w _, Nat.le_refl _, by decide, by rw [dat_size], ?_⟩⟩
  rw [hl, List.take_of_length_le (by rw [Array.length_toList, dat_size]; show 32 ≤ 1 * 32; decide)]
theorem range_plus {w : World} {b off : Nat} {cs : List Value} (h : w.rangeAt b off cs) (e : Ext) : (plus w e).rangeAt b off cs := fun j v hj => by
  have h1 := h j v hj
  rw [plus_cell w e ⟨b, off + j, none⟩ (block_lt_of_cell h1)]; exact h1
section
variable {ops : Array Oper} {Q : Act → Prop} {a : Act} {o : Oper} {rest : List Oper}
theorem wpQuiet_loadMid {P : Program} {C : World → Prop} (hw : Region.wanted o (yielded ops a.tmps) = true) (ty : TypeId) (x : Operand) (ho : o.op = .load ty x) (b off : Nat) (hx : a.eval x = .pointer (some ⟨b, off, none⟩)) (cs : Array Value) (d : TypeDesc) (hS : ∀ w, C w → w.rangeAt b off cs.toList)
    (hu : P.underlying ty = some d) (hd : d.isRow = true) (hi : (P.info? ty).map (·.size) = some cs.size) (hk : wpQuiet P ops C Q rest (a.put o.dst (.agg cs))) : wpQuiet P ops C Q (o :: rest) a :=
  wpQuiet_wanted hw _ (fun w hC => by
    unfold Oper.quietAt execOp
    simp only [ho, hx, Instr.loadAt, Instr.sureAddr, Sem.run_bind, Sem.run_pure, Result.andThen_ok, run_loadVar_mid w b off ty cs.toList d (hS w hC) hu hd (by simpa using hi)]
    exact ⟨rfl, by simp⟩) hk
end
theorem wpList_loadMid {P : Program} {w : World} {ops : Array Oper} {rest : List Oper} {o : Oper} {a : Act} {Q : Exit → Act → World → Prop} (hw : Region.wanted o (yielded ops a.tmps) = true) (ty : TypeId) (x : Operand) (ho : o.op = .load ty x) (b off : Nat) (hx : a.eval x = .pointer (some ⟨b, off, none⟩)) (cs : Array Value) (d : TypeDesc)
    (hS : w.rangeAt b off cs.toList) (hu : P.underlying ty = some d) (hd : d.isRow = true) (hi : (P.info? ty).map (·.size) = some cs.size)
    (h : wpList P ops Q rest (a.put o.dst (.agg cs)) w) : wpList P ops Q (o :: rest) a w :=
  wpList_step fun K hK => by
    simp only [hw, if_true]
    unfold Oper.wp execOp
    simp only [ho, hx, Instr.loadAt, Instr.sureAddr, Sem.run_bind, Sem.run_pure, Result.andThen_ok, run_loadVar_mid w b off ty cs.toList d hS hu hd (by simpa using hi)]
    exact hK _ _ h
/-- append of one digest onto a row of digests of the call's own -/
theorem wpList_appendDig {w : World} {ops : Array Oper} {rest : List Oper} {o : Oper} {a : Act} {Q : Exit → Act → World → Prop} (hgd : o.guard = none) (s x : Operand)
    (ho : o.op = .call { callee := .builtin .append, args := #[s, x], argTypes := #[69, 69] })
    (base : Nat) (v : Value) (ds : List (List UInt8)) (hs : a.eval s = v) (hown : w.ownsRow base 43 32 v ds.length (dcells ds))
    (g : Nat) (d : List UInt8) (hx : a.eval x = .slice (some ⟨g, 0, none⟩) 1 1) (hX : Blk w g 43 (dat d)) (hl : ds.length ≤ 1000000000) (hbase : base ≤ w.heap.size)
    (h : ∀ v' w', w'.ownsRow base 43 32 v' (ds ++ [d]).length (dcells (ds ++ [d])) → w.grownBy w' v.ownBlock → wpList Tryd.prog ops Q rest (a.put o.dst v') w') : wpList Tryd.prog ops Q (o :: rest) a w := by
  obtain ⟨i0, hi, hz0, hz1, hz2⟩ := info_parts (by kernel_rfl : (Tryd.prog.info? 43).map (fun i => (i.zero, i.size, i.bytes)) = some (some (.agg (arr 32 fun _ => 0)), 32, 32))
  refine wpList_append_own_at _ hgd s x _ ho base 43 i0 _ 32 32 Tryd.underlying69 hi hz0 hz1 hz2 (by show (arr 32 fun _ => 0).size = 32; exact arr_size _ _) (by decide) v _ _ hs hown ⟨g, 0, none⟩ 1 1 (dat d).toList hx (by rw [Array.length_toList, dat_size]) (fun j u hj => by
      have e : (⟨g, 0, none⟩ : Addr).add j = ⟨g, j, none⟩ := by unfold Addr.add; split <;> simp_all
      rw [e, hX.cell, ← hj]; simp) (arr_one _ _) (by unfold maxLen; omega) (by omega) hbase ?_
  intro v' w' hown' hg _ _
  rw [← dcells_snoc] at hown'
  exact h v' w' (by rw [List.length_append]; exact hown') hg
end Go.Proofs.YteonmcconpfkjaaDoor

/- Lists of short texts. No condition. -/
namespace Go.Proofs.YteonmcconpfkjaaDoor
open Go Go.RowKit
attribute [local go_sem] n8_lo n8_hi n64_lo n64_hi n32_lo n32_hi
def elemL (c : UInt8) (i : Nat) : List UInt8 := [c, UInt8.ofNat i, UInt8.ofNat (i / 256)]
def listL (n : Nat) (c : UInt8) : List (List UInt8) := (List.range n).map (elemL c)
theorem listL_length (n : Nat) (c : UInt8) : (listL n c).length = n := by simp [listL]
theorem listL_at (n : Nat) (c : UInt8) (i : Nat) (h : i < n) : (listL n c).getD i [] = elemL c i := by
  unfold listL; rw [List.getD_eq_getElem?_getD, List.getElem?_map, List.getElem?_range h]; rfl
theorem listL_mem {n : Nat} {c : UInt8} {b : List UInt8} (h : b ∈ listL n c) : b.length = 3 := by
  unfold listL at h
  obtain ⟨i, _, rfl⟩ := List.mem_map.1 h; rfl
theorem byte_nat (k : Nat) : (k : Int) % 256 = n8 (UInt8.ofNat k) := by
  unfold n8; rw [UInt8.toNat_ofNat']; omega
/-- u is a slice that reads some bytes, all of a block -/
def Whole (w : World) (u : Value) (b : List UInt8) : Prop := ∃ g, u = .slice (some ⟨g, 0, none⟩) b.length b.length ∧ Blk w g 5 (b.map v8).toArray
theorem Whole.below {w w' : World} {u : Value} {b : List UInt8} (h : Whole w u b) (hb : Below w.heap.size w w') : Whole w' u b := by
  obtain ⟨g, e, h⟩ := h; exact ⟨g, e, h.below hb h.lt⟩
theorem Whole.grown {w w' : World} {u v : Value} {b : List UInt8} {base n : Nat} {xs : List Value} (h : Whole w u b) (hown : w.ownsRow base 22 1 v n xs) (hg : w.grownBy w' v.ownBlock) : Whole w' u b := by
  obtain ⟨g, e, h⟩ := h
  refine ⟨g, e, h.grown hg (fun e2 => ?_)⟩
  rcases hown.2 with ⟨rfl, _⟩ | ⟨g', cap, cur, rfl, _, hb, _⟩
  · cases e2
  · have e3 : g = g' := by injection e2
    subst e3
    unfold Blk at h
    rw [h] at hb
    injection hb with hb
    injection hb with _ hb
    exact absurd hb (by decide)
theorem Whole.bsl {w : World} {u : Value} {b : List UInt8} (h : Whole w u b) (hl : b.length ≤ 9223372036854775807) : BSl w w.heap.size u b := by
  obtain ⟨g, rfl, h⟩ := h
  refine ⟨_, _, rfl, Nat.le_refl _, hl, ?_⟩
  have := Reads.of_blk h h.lt 0
  simpa using this
theorem SSl.of_own {w : World} {base : Nat} {e : TypeId} {v : Value} {vs : List Value} {ls : List (List UInt8)} (h : w.ownsRow base e 1 v vs.length vs) (hl : vs.length = ls.length) (hel : ∀ i, i < ls.length → BSl w w.heap.size (vs.getD i undef) (ls.getD i [])) : SSl w w.heap.size v ls := by
  obtain ⟨A, cap, hv, h1, h2, hr⟩ := Reads.own h
  exact ⟨A, cap, vs, by rw [hv, hl], by omega, h2, hr, hl, hel⟩
end Go.Proofs.YteonmcconpfkjaaDoor

/- Rows in rows: texts of the call's own; the first texts of a list, in plain Lean. No condition. -/
namespace Go.Proofs.YteonmcconpfkjaaDoor
open Go Go.RowKit
attribute [local go_sem] n8_lo n8_hi n64_lo n64_hi n32_lo n32_hi
def fewL (ls : List (List UInt8)) (n m : Nat) : List (List UInt8) := (ls.take n).map (List.take m)
theorem fewL_length (ls : List (List UInt8)) (n m : Nat) : (fewL ls n m).length = min n ls.length := by simp [fewL]
theorem fewL_at (ls : List (List UInt8)) (n m i : Nat) (h : i < n) (h2 : i < ls.length) : (fewL ls n m).getD i [] = (ls.getD i []).take m := by
  unfold fewL
  rw [List.getD_eq_getElem?_getD, List.getD_eq_getElem?_getD, List.getElem?_map, List.getElem?_take, if_pos h, List.getElem?_eq_getElem h2]; rfl
theorem fewL_mem {ls : List (List UInt8)} {n m : Nat} {b : List UInt8} (h : b ∈ fewL ls n m) : b.length ≤ m := by
  unfold fewL at h
  obtain ⟨c, _, rfl⟩ := List.mem_map.1 h
  rw [List.length_take]; omega
/-- rows of different kinds are different blocks -/
theorem own_other {w : World} {b1 b2 s1 s2 n1 n2 : Nat} {e1 e2 : TypeId} {u v : Value} {xs ys : List Value} (he : e1 ≠ e2) (h1 : w.ownsRow b1 e1 s1 u n1 xs) (h2 : w.ownsRow b2 e2 s2 v n2 ys) : ∀ g, u.ownBlock = some g → v.ownBlock ≠ some g := by
  intro g hu hv
  rcases h1.2 with ⟨rfl, _⟩ | ⟨g1, c1, cur1, rfl, _, hb1, _⟩
  · cases hu
  · rcases h2.2 with ⟨rfl, _⟩ | ⟨g2, c2, cur2, rfl, _, hb2, _⟩
    · cases hv
    · have e1' : g1 = g := by injection hu
      have e2' : g2 = g := by injection hv
      subst e1'
      rw [e2', hb1] at hb2
      injection hb2 with hb2
      injection hb2 with _ hb2
      exact he hb2
/-- a list of texts of the call's own (from block B on), each text in a row of its own -/
structure Own2 (w : World) (B : Nat) (v : Value) (vs : List Value) (ls : List (List UInt8)) : Prop where
  len : vs.length = ls.length
  row : w.ownsRow B 22 1 v vs.length vs
  el : ∀ i, i < ls.length → w.ownsRow B 5 1 (vs.getD i undef) (ls.getD i []).length ((ls.getD i []).map v8)
theorem Own2.below {w w' : World} {B : Nat} {v : Value} {vs : List Value} {ls : List (List UInt8)} (h : Own2 w B v vs ls) (hb : Below w.heap.size w w') : Own2 w' B v vs ls :=
  ⟨h.len, own_below h.row hb, fun i hi => own_below (h.el i hi) hb⟩
theorem Own2.ssl {w : World} {B : Nat} {v : Value} {vs : List Value} {ls : List (List UInt8)} (h : Own2 w B v vs ls) : SSl w w.heap.size v ls :=
  SSl.of_own h.row h.len (fun i hi => BSl.of_own (h.el i hi))
theorem Own2.ones {w : World} {B : Nat} {v : Value} {vs : List Value} {ls : List (List UInt8)} (h : Own2 w B v vs ls) : ∀ u ∈ vs, u.oneCell' = true := by
  intro u hu
  obtain ⟨i, hi, rfl⟩ := List.mem_iff_getElem.1 hu
  have he := h.el i (by rw [← h.len]; exact hi)
  rw [List.getD_eq_getElem?_getD, List.getElem?_eq_getElem hi] at he
  rcases he.2 with ⟨e, _⟩ | ⟨g, cap, cur, e, _⟩
  · have : vs[i] = .slice none 0 0 := e
    rw [this]; rfl
  · have : vs[i] = .slice (some ⟨g, 0, none⟩) _ cap := e
    rw [this]; rfl
/-- one text of a list of the call's own is written over -/
theorem Own2.setAt {w : World} {B : Nat} {v : Value} {vs : List Value} {ls : List (List UInt8)} (h : Own2 w B v vs ls) (a : Nat) (ha : a < ls.length) :
    ∃ g cap cur, v = .slice (some ⟨g, 0, none⟩) ls.length cap ∧ B ≤ g ∧ ls.length ≤ cap ∧ Blk w g 22 cur ∧ a < cur.size ∧ ∀ (w' : World) (x : Value) (b : List UInt8), Blk w' g 22 (cur.setIfInBounds a x) → w.grownBy w' (some g) → BSl w' w'.heap.size x b → SSl w' w'.heap.size v (ls.set a b) := by
  have hlen := h.len
  rcases h.row.2 with ⟨_, h0⟩ | ⟨g, cap, cur, e, hB, hg, hnc, hcap, hsz, hcur⟩
  · have h0' : vs.length = 0 := h0
    omega
  · refine ⟨g, cap, cur, by rw [e, hlen], hB, by omega, hg, by omega, fun w' x b hb hgr hx => ?_⟩
    have hcl : cur.size = cap := by omega
    have hat : ∀ j, j < vs.length → cur[j]? = vs[j]? := fun j hj => by
      have : cur.toList.take vs.length = vs := by simpa using hcur
      rw [← this, List.getElem?_take, if_pos hj]; simp
    have hl : (ls.set a b).length = ls.length := List.length_set
    refine ⟨some ⟨g, 0, none⟩, cap, vs.set a x, by rw [e, hl, hlen], by rw [hl]; omega, by unfold maxLen at hcap; omega, fun _ => ⟨g, 0, rfl, hb.lt, fun j u hu => ?_⟩, by rw [List.length_set, hl]; exact hlen, fun i hi => ?_⟩
    · have hj : j < vs.length := by have := (List.getElem?_eq_some_iff.1 hu).1; rw [List.length_set] at this; exact this
      rw [Nat.zero_add, hb.cell, ← hu, Array.getElem?_setIfInBounds, List.getElem?_set]
      by_cases hja : a = j
      · subst hja; rw [if_pos rfl, if_pos rfl, if_pos (by omega), if_pos hj]
      · rw [if_neg hja, if_neg hja, hat j hj]
    · rw [hl] at hi
      rw [List.getD_eq_getElem?_getD, List.getD_eq_getElem?_getD, List.getElem?_set, List.getElem?_set]
      by_cases hia : a = i
      · subst hia; rw [if_pos rfl, if_pos rfl, if_pos (by omega), if_pos ha]; exact hx
      · rw [if_neg hia, if_neg hia, ← List.getD_eq_getElem?_getD, ← List.getD_eq_getElem?_getD]
        have he := h.el i hi
        have hgv : v.ownBlock = some g := by rw [e]; rfl
        exact BSl.of_own (own_grown he hgr (fun g2 h2 e2 => own_other (by decide) he h.row g2 h2 (by rw [hgv]; exact e2)))
theorem fewL_succ (ls : List (List UInt8)) (k m : Nat) (h : k < ls.length) : fewL ls (k + 1) m = fewL ls k m ++ [(ls.getD k []).take m] := by
  unfold fewL
  rw [List.take_succ_eq_append_getElem h, List.map_append, List.getD_eq_getElem?_getD, List.getElem?_eq_getElem h]; rfl
theorem Own2.snoc {w w' : World} {B : Nat} {v v' x : Value} {vs : List Value} {ls : List (List UInt8)} {b : List UInt8} (h : Own2 w B v vs ls) (he : w.ownsRow B 5 1 x b.length (b.map v8)) (hown : w'.ownsRow B 22 1 v' (vs ++ [x]).length (vs ++ [x])) (hg : w.grownBy w' v.ownBlock) : Own2 w' B v' (vs ++ [x]) (ls ++ [b]) := by
  refine ⟨by rw [List.length_append, List.length_append, h.len]; rfl, hown, fun i hi => ?_⟩
  have hlen := h.len
  by_cases hik : i < ls.length
  · have h1 := h.el i hik
    rw [List.getD_eq_getElem?_getD, List.getD_eq_getElem?_getD, List.getElem?_append_left (by omega), List.getElem?_append_left hik, ← List.getD_eq_getElem?_getD, ← List.getD_eq_getElem?_getD]
    exact own_grown h1 hg (fun g hb e => own_other (by decide) h1 h.row g hb e)
  · have hi2 : i = ls.length := by rw [List.length_append, List.length_singleton] at hi; omega
    subst hi2
    rw [List.getD_eq_getElem?_getD, List.getD_eq_getElem?_getD, List.getElem?_append_right (by omega), List.getElem?_append_right (Nat.le_refl _), hlen, Nat.sub_self]
    exact own_grown he hg (fun g hb e => own_other (by decide) he h.row g hb e)
theorem own_base {w : World} {b b' s n : Nat} {e : TypeId} {v : Value} {xs : List Value} (h : w.ownsRow b' e s v n xs) (hb : b ≤ b') : w.ownsRow b e s v n xs := by
  refine ⟨h.1, ?_⟩
  rcases h.2 with h0 | ⟨g', cap, cur, h1, h2, h3⟩
  · exact .inl h0
  · exact .inr ⟨g', cap, cur, h1, Nat.le_trans hb h2, h3⟩
theorem BSl.reads {w : World} {B n c : Nat} {A : Option Addr} {bs : List UInt8} (h : BSl w B (.slice A n c) bs) : Reads w B A (bs.map v8) := by
  obtain ⟨A', c', e, _, _, hr⟩ := h
  injection e with e
  subst e
  exact hr
end Go.Proofs.YteonmcconpfkjaaDoor

/- The walks of deponentbook's Same at digests and of deponentkeep's Sames, on lists that are alike. No condition. -/
namespace Go.Proofs.YteonmcconpfkjaaDoor
open Go Go.RowKit
attribute [local irreducible] mixW
attribute [local go_sem] n8_lo n8_hi n64_lo n64_hi n32_lo n32_hi
/-- v is a slice of digests that reads ds -/
def DSl (w : World) (v : Value) (ds : List (List UInt8)) : Prop := ∃ A cap, v = .slice A ds.length cap ∧ ∀ k, k < ds.length → ∃ g, A = some ⟨g, 0, none⟩ ∧ g < w.heap.size ∧ w.rangeAt g (k * 32) (dat (ds.getD k [])).toList
theorem range_next {w w' : World} {g off : Nat} {cs : List Value} (h : w.rangeAt g off cs) (hg : g < w.heap.size) (hb : Below w.heap.size w w') : w'.rangeAt g off cs := fun j v hj => by
  have h1 := h j v hj
  rw [hb.cell (p := ⟨g, off + j, none⟩) hg]; exact h1
theorem DSl.next {w w' : World} {v : Value} {ds : List (List UInt8)} (h : DSl w v ds) (hb : Below w.heap.size w w') : DSl w' v ds := by
  obtain ⟨A, cap, e, h⟩ := h
  refine ⟨A, cap, e, fun k hk => ?_⟩
  obtain ⟨g, e2, hg, hr⟩ := h k hk
  exact ⟨g, e2, Nat.lt_of_lt_of_le hg hb.size, range_next hr hg hb⟩
theorem DSl.of_own {w : World} {base : Nat} {v : Value} {ds : List (List UInt8)} (h : w.ownsRow base 43 32 v ds.length (dcells ds)) : DSl w v ds := by
  have hlt := own_lt h
  rcases h.2 with ⟨e, h0⟩ | ⟨b, cap, cur, e, _, hb, hc1, _, hsz, hcur⟩
  · exact ⟨none, 0, by rw [e, h0], fun k hk => by omega⟩
  · refine ⟨_, cap, e, fun k hk => ⟨b, rfl, hlt b (by rw [e]; rfl), fun j v hj => ?_⟩⟩
    have hj32 : j < 32 := by
      have := (List.getElem?_eq_some_iff.1 hj).1
      rw [Array.length_toList, dat_size] at this; exact this
    rw [cell_of_row w b (k * 32 + j) cur _ (0, 0) hb]
    have h1 := dcells_at ds k hk j hj32
    rw [← hcur, List.getElem?_take, if_pos (by omega)] at h1
    rw [← hj]
    simpa using h1
set_option maxHeartbeats 400000 in
set_option maxRecDepth 100000 in
theorem same8_any (u v : Value) (ds : List (List UInt8)) (hall : ∀ d ∈ ds, d.length = 32) (hn : ds.length ≤ 1000000000) (w : World) (hu : DSl w u ds) (hv : DSl w v ds) :
    Calls Tryd.prog 105 #[u, v] w fun e w' => e = .returned (.bool true) ∧ Below w.heap.size w w' := by
  have Hall := Lib.hid hall
  clear hall
  obtain ⟨A1, c1, rfl, h1⟩ := hu
  obtain ⟨A2, c2, rfl, h2⟩ := hv
  have H1 : Hid (DSl w (.slice A1 ds.length c1) ds) := Lib.hid ⟨A1, c1, rfl, h1⟩
  have H2 : Hid (DSl w (.slice A2 ds.length c2) ds) := Lib.hid ⟨A2, c2, rfl, h2⟩
  clear h1 h2
  have hne : ((ds.length : Int) != (ds.length : Int)) = false := by simp
  go_enter Tryd.func105, Tryd.ntmps105
  go_wp2_with fail
  go_loopw [5] (fun iv wr => ∃ k : Nat, k ≤ ds.length ∧ iv = .int .i64 k ∧ Below w.heap.size w wr) (fun iv _ => ds.length - (intOf iv).toNat)
  case atStart => exact ⟨0, by omega, rfl, Below.refl _ _⟩
  case round =>
    obtain ⟨k, hk, rfl, hbel⟩ := hrel
    by_cases hlt : k < ds.length
    case neg =>
      have hlt' : ¬ ((k : Int) < (ds.length : Int)) := by omega
      go_wp2_with fail
      go_ret
      exact ⟨rfl, hbel⟩
    have hlt' : (k : Int) < (ds.length : Int) := by omega
    obtain ⟨A1', c1', e1, hh1⟩ := H1.out.next hbel
    injection e1 with e1 _ e1c
    subst e1c
    obtain ⟨g1, e3, hg1, hr1⟩ := hh1 k hlt
    rw [e3] at e1
    subst e1
    obtain ⟨A2', c2', e2, hh2⟩ := H2.out.next hbel
    injection e2 with e2 _ e2c
    subst e2c
    obtain ⟨g2, e4, hg2, hr2⟩ := hh2 k hlt
    rw [e4] at e2
    subst e2
    clear hh1 hh2 e3 e4
    have hdl : (ds.getD k []).length = 32 := Hall.out _ (by rw [List.getD_eq_getElem?_getD, List.getElem?_eq_getElem hlt]; exact List.getElem_mem _)
    generalize ds.getD k [] = d at hr1 hr2 hdl
    have Hdl := Lib.hid hdl
    clear hdl
    go_wp2_with fail
    refine wp_region_mixP (.plain 0 <| .plain 1 <| .plain 2 <| .plain 3 <| .plain 4 <| .plain 5 <| .plain 6 <| .plain 7 <| .plain 8 <| .done) (by kernel_rfl) (by kernel_rfl) (fun W1 hb1 => ?_)
    replace hr1 := range_next hr1 hg1 hb1
    replace hr2 := range_next hr2 hg2 hb1
    replace hbel := hbel.trans (hb1.mono hbel.size)
    clear hb1
    iterate 9 (refine mix_plain rfl ?_; (first
      | (refine wpQuiet_loadMid rfl 43 (.tmp 19) rfl g1 (k * 32) rfl (dat d) _ (fun _ ⟨e, he⟩ => by rw [he]; exact range_plus hr1 e) Tryd.underlying43 rfl (by rw [dat_size]; kernel_rfl) ?_; simp only [Act.put, List.setIfInBounds_toArray, List.set_cons_zero, List.set_cons_succ])
      | (refine wpQuiet_loadMid rfl 43 (.tmp 23) rfl g2 (k * 32) rfl (dat d) _ (fun _ ⟨e, he⟩ => by rw [he]; exact range_plus hr2 e) Tryd.underlying43 rfl (by rw [dat_size]; kernel_rfl) ?_; simp only [Act.put, List.setIfInBounds_toArray, List.set_cons_zero, List.set_cons_succ])
      | (refine wpQuiet_neD rfl (.tmp 20) (.tmp 24) _ rfl d d rfl rfl Hdl.out Hdl.out true (decide_eq_true rfl) ?_; simp only [Act.put, List.setIfInBounds_toArray, List.set_cons_zero, List.set_cons_succ])
      | go_big_quiet_step (fail)); refine wpQuiet_nil ?_)
    refine mix_done ?_
    clear hr1 hr2
    go_wp2_with fail
    go_roundw
    case rel => exact ⟨k + 1, by omega, by go_num, hbel⟩
    case measure => simp [intOf]; omega
end Go.Proofs.YteonmcconpfkjaaDoor

/- Slices of digests, wherever they begin. No condition. -/
namespace Go.Proofs.YteonmcconpfkjaaDoor
open Go Go.RowKit
/-- v is a slice of digests that reads ds -/
def DX (w : World) (v : Value) (ds : List (List UInt8)) : Prop := ∃ A cap, v = .slice A ds.length cap ∧ ds.length ≤ cap ∧ cap ≤ 9223372036854775807 ∧ ∀ k, k < ds.length → ∃ g o, A = some ⟨g, o, none⟩ ∧ g < w.heap.size ∧ w.rangeAt g (o + k * 32) (dat (ds.getD k [])).toList
theorem DX.next {w w' : World} {v : Value} {ds : List (List UInt8)} (h : DX w v ds) (hb : Below w.heap.size w w') : DX w' v ds := by
  obtain ⟨A, cap, e, h1, h2, h⟩ := h
  refine ⟨A, cap, e, h1, h2, fun k hk => ?_⟩
  obtain ⟨g, o, e2, hg, hr⟩ := h k hk
  exact ⟨g, o, e2, Nat.lt_of_lt_of_le hg hb.size, range_next hr hg hb⟩
theorem DX.of_own {w : World} {base : Nat} {v : Value} {ds : List (List UInt8)} (h : w.ownsRow base 43 32 v ds.length (dcells ds)) : DX w v ds := by
  obtain ⟨A, cap, e, h1⟩ := DSl.of_own h
  have hc : ds.length ≤ cap ∧ cap ≤ 9223372036854775807 := by
    rcases h.2 with ⟨e2, h0⟩ | ⟨b, cap2, cur, e2, _, _, hc1, hc2, _⟩
    · rw [e] at e2; injection e2 with _ _ e3; subst e3; omega
    · rw [e] at e2; injection e2 with _ _ e3; subst e3; exact ⟨hc1, hc2⟩
  refine ⟨A, cap, e, hc.1, hc.2, fun k hk => ?_⟩
  obtain ⟨g, e2, hg, hr⟩ := h1 k hk
  exact ⟨g, 0, e2, hg, by rw [Nat.zero_add]; exact hr⟩
theorem DX.nil_ (w : World) : DX w (.slice none 0 0) [] := ⟨none, 0, rfl, Nat.le_refl _, by decide, fun k hk => by simp at hk⟩
theorem DX.take {w : World} {A : Option Addr} {n cap : Nat} {ds : List (List UInt8)} (h : DX w (.slice A n cap) ds) (m : Nat) (hm : m ≤ n) : DX w (.slice A m cap) (ds.take m) := by
  obtain ⟨A', cap', e, h1, h2, h⟩ := h
  injection e with e1 e2 e3
  subst e1; subst e2; subst e3
  have hl : (ds.take m).length = m := by rw [List.length_take]; omega
  refine ⟨A, cap, by rw [hl], by omega, h2, fun k hk => ?_⟩
  obtain ⟨g, o, e2, hg, hr⟩ := h k (by omega)
  refine ⟨g, o, e2, hg, ?_⟩
  rw [List.getD_eq_getElem?_getD, List.getElem?_take_of_lt (by omega), ← List.getD_eq_getElem?_getD]
  exact hr
end Go.Proofs.YteonmcconpfkjaaDoor
