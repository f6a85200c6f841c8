/- Texts that stand behind one another: Sig, AskK, KrD, KrE, KrF. No condition. -/
import Derived.Test.YtfggbfnnibpohaaDoorR17
import Derived.Test.YtfggbfnnibpohaaDoorR13
import Derived.Deep.MidRow
import Derived.Test.YtfggbfnnibpohaaDoorR18
/- Rows of signed heads of the call's own. No condition. -/
namespace Go.Proofs.YtfggbfnnibpohaaDoor
open Go Go.RowKit
/-- the cells of signed heads -/
def scells (l : List (HeadL × List UInt8)) : List Value := l.flatMap fun p => (sigC p.1 p.2).toList
theorem scells_snoc (l : List (HeadL × List UInt8)) (h : HeadL) (t : List UInt8) : scells (l ++ [(h, t)]) = scells l ++ (sigC h t).toList := by simp [scells]
theorem scells_len (l : List (HeadL × List UInt8)) : (scells l).length = l.length * 68 := by
  unfold scells
  induction l with
  | nil => rfl
  | cons p l ih =>
    rw [List.flatMap_cons, List.length_append, ih, Array.length_toList, sigC_size, List.length_cons]; omega
theorem scells_at : ∀ (l : List (HeadL × List UInt8)) (k : Nat) (p : HeadL × List UInt8), l[k]? = some p → ∀ j, j < 68 → (scells l)[k * 68 + j]? = (sigC p.1 p.2)[j]?
  | [], k, p, hk, j, hj => by simp at hk
  | q :: l, k, p, hk, j, hj => by
    have e : scells (q :: l) = (sigC q.1 q.2).toList ++ scells l := by simp [scells]
    have hd : (sigC q.1 q.2).toList.length = 68 := by rw [Array.length_toList, sigC_size]
    rw [e]
    cases k with
    | zero =>
      have hk : q = p := by simpa using hk
      subst hk
      rw [List.getElem?_append_left (by omega)]; simp
    | succ k =>
      rw [List.getElem?_append_right (by omega), hd, show (k + 1) * 68 + j - 68 = k * 68 + j by omega]
      exact scells_at l k p (by simpa using hk) j hj
set_option maxRecDepth 100000 in
theorem build_sig (h : HeadL) (t : List UInt8) (w : World) : (Instr.buildSlice 31 1 #[(0, .agg (sigC h t))]).run Tryd.prog w = .ok (.slice (some ⟨w.heap.size, 0, none⟩) 1 1) (w.alloc (.cells (sigC h t) 45)) := by kernel_rfl
theorem wpList_buildSig {w : World} {ops : Array Oper} {rest : List Oper} {o : Oper} {a : Act} {Q : Exit → Act → World → Prop} (hgd : o.guard = none) (x : Operand) (ho : o.op = .buildSlice 31 1 #[(0, x)]) (h : HeadL) (t : List UInt8) (hx : a.eval x = .agg (sigC h t))
    (hk : wpList Tryd.prog ops Q rest (a.put o.dst (.slice (some ⟨w.heap.size, 0, none⟩) 1 1)) (w.alloc (.cells (sigC h t) 45))) : wpList Tryd.prog ops Q (o :: rest) a w :=
  wpList_plain hgd fun K hK => by
    unfold Oper.wp execOp
    simp only [ho, List.map_toArray, List.map_cons, List.map_nil, hx, Sem.run_bind, build_sig h t, Result.andThen_ok, Sem.run_pure]
    exact hK _ _ hk
/-- append of one signed head onto a row of the call's own -/
theorem wpList_appendSig {w : World} {ops : Array Oper} {rest : List Oper} {o : Oper} {a : Act} {Q : Exit → Act → World → Prop} (hgd : o.guard = none) (s x : Operand)
    (ho : o.op = .call { callee := .builtin .append, args := #[s, x], argTypes := #[31, 31] })
    (base : Nat) (v : Value) (l : List (HeadL × List UInt8)) (hs : a.eval s = v) (hown : w.ownsRow base 45 68 v l.length (scells l))
    (g : Nat) (h : HeadL) (t : List UInt8) (hx : a.eval x = .slice (some ⟨g, 0, none⟩) 1 1) (hX : Blk w g 45 (sigC h t)) (hl : l.length ≤ 1000000) (hbase : base ≤ w.heap.size)
    (hk : ∀ v' w', w'.ownsRow base 45 68 v' (l ++ [(h, t)]).length (scells (l ++ [(h, t)])) → w.grownBy w' v.ownBlock → wpList Tryd.prog ops Q rest (a.put o.dst v') w') : wpList Tryd.prog ops Q (o :: rest) a w := by
  obtain ⟨i0, hi, hz0, hz1, hz2⟩ := info_parts (by kernel_rfl : (Tryd.prog.info? 45).map (fun i => (i.zero, i.size, i.bytes)) = some (some (.agg (sigC zeroHead [])), 68, 96))
  refine wpList_append_own_at _ hgd s x _ ho base 45 i0 _ 68 96 Tryd.underlying31 hi hz0 hz1 hz2 (by show (sigC zeroHead []).size = 68; exact sigC_size _ _) (by decide) v _ _ hs hown ⟨g, 0, none⟩ 1 1 (sigC h t).toList hx (by rw [Array.length_toList, sigC_size]) (fun j u hj => by
      have e : (⟨g, 0, none⟩ : Addr).add j = ⟨g, j, none⟩ := by unfold Addr.add; split <;> simp_all
      rw [e, hX.cell, ← hj]; simp) (sigC_one _ _) (by unfold maxLen; omega) (by omega) hbase ?_
  intro v' w' hown' hg _ _
  rw [← scells_snoc] at hown'
  exact hk v' w' (by rw [List.length_append]; exact hown') hg
/-- one signed head of a row -/
theorem sig_range {w : World} {base : Nat} {A : Option Addr} {c : Nat} {l : List (HeadL × List UInt8)} (h : w.ownsRow base 45 68 (.slice A l.length c) l.length (scells l)) (k : Nat) (p : HeadL × List UInt8) (hk : l[k]? = some p) :
    ∃ g, A = some ⟨g, 0, none⟩ ∧ w.rangeAt g (k * 68) (sigC p.1 p.2).toList := by
  have hkl : k < l.length := (List.getElem?_eq_some_iff.1 hk).1
  rcases h.2 with ⟨_, h0⟩ | ⟨g, cap, cur, e, hB, hb, hc1, hc2, hsz, hcur⟩
  · omega
  · injection e with e1 e2 e3
    refine ⟨g, e1, fun j v hj => ?_⟩
    have hj68 : j < 68 := by
      have := (List.getElem?_eq_some_iff.1 hj).1
      rw [Array.length_toList, sigC_size] at this; exact this
    rw [cell_of_row w g (k * 68 + j) cur 45 (0, 0) hb]
    have h1 := scells_at l k p hk j hj68
    rw [← hcur, List.getElem?_take, if_pos (by omega)] at h1
    rw [← hj]
    simpa using h1
end Go.Proofs.YtfggbfnnibpohaaDoor

/- Lists of law11's Asks, as they lie in memory. No condition. -/
namespace Go.Proofs.YtfggbfnnibpohaaDoor
open Go Go.RowKit
/-- one Ask -/
structure AskK where
  kind : Int
  tree : Int
  turn : Int
  draw : UInt32
  head : HeadL
instance : Inhabited AskK := ⟨⟨0, 0, 0, 0, zeroHead⟩⟩
/-- its cells -/
def askC (a : AskK) : Array Value := #[.int .i64 a.kind, .int .i64 a.tree, .int .i64 a.turn, .int .u32 (n32 a.draw)] ++ headC a.head
theorem askC_size (a : AskK) : (askC a).size = 40 := by simp [askC, headC_size]
theorem askC_0 (a : AskK) : (askC a)[0]? = some (.int .i64 a.kind) := by unfold askC; rw [Array.getElem?_append_left (by simp)]; rfl
theorem askC_1 (a : AskK) : (askC a)[1]? = some (.int .i64 a.tree) := by unfold askC; rw [Array.getElem?_append_left (by simp)]; rfl
theorem askC_2 (a : AskK) : (askC a)[2]? = some (.int .i64 a.turn) := by unfold askC; rw [Array.getElem?_append_left (by simp)]; rfl
theorem askC_3 (a : AskK) : (askC a)[3]? = some (.int .u32 (n32 a.draw)) := by unfold askC; rw [Array.getElem?_append_left (by simp)]; rfl
theorem askC_head (a : AskK) (j : Nat) : (askC a)[4 + j]? = (headC a.head)[j]? := by
  unfold askC
  rw [Array.getElem?_append_right (by simp)]
  simp
/-- the bounds of its numbers -/
def AskK.ok (a : AskK) : Prop := (-9223372036854775808 ≤ a.kind ∧ a.kind ≤ 9223372036854775807) ∧ (-9223372036854775808 ≤ a.tree ∧ a.tree ≤ 9223372036854775807) ∧ (-9223372036854775808 ≤ a.turn ∧ a.turn ≤ 9223372036854775807) ∧ a.head.ok
/-- a list of Asks -/
def AsksK (w : World) (A : Option Addr) (l : List AskK) : Prop :=
  0 < l.length → ∃ b off, A = some ⟨b, off, none⟩ ∧ b < w.heap.size ∧ ∀ (i : Nat) a, l[i]? = some a → w.rangeAt b (off + i * 40) (askC a).toList ∧ a.ok
end Go.Proofs.YtfggbfnnibpohaaDoor

/- The state of KeysRing's loop: a ring, sixteen rows of draws, a list of signed heads. No condition. -/
namespace Go.Proofs.YtfggbfnnibpohaaDoor
open Go Go.RowKit
/-- the keys of a tree, by what was drawn -/
def keysD (seed : List UInt8) (t : Nat) (l : List UInt32) : List (List UInt8) := (List.range l.length).map fun (i : Nat) => keyL' seed t i (l.getD i 0)
theorem keysD_length (seed : List UInt8) (t : Nat) (l : List UInt32) : (keysD seed t l).length = l.length := by simp [keysD]
theorem keysD_at (seed : List UInt8) (t : Nat) (l : List UInt32) (i : Nat) (h : i < l.length) : (keysD seed t l).getD i [] = keyL' seed t i (l.getD i 0) := by
  unfold keysD
  rw [List.getD_eq_getElem?_getD, List.getElem?_map, List.getElem?_range h]; rfl
theorem keysD_snoc (seed : List UInt8) (t : Nat) (l : List UInt32) (d : UInt32) : keysD seed t (l ++ [d]) = keysD seed t l ++ [keyL' seed t l.length d] := by
  unfold keysD
  rw [List.length_append, List.length_singleton, List.range_succ, List.map_append]
  congr 1
  · refine List.map_congr_left fun i hi => ?_
    have hi := List.mem_range.1 hi
    rw [List.getD_eq_getElem?_getD, List.getElem?_append_left hi, ← List.getD_eq_getElem?_getD]
  · simp only [List.map_cons, List.map_nil]
    rw [List.getD_eq_getElem?_getD, List.getElem?_append_right (Nat.le_refl _), Nat.sub_self]; rfl
theorem keysD_turn (seed : List UInt8) (ds : Nat → List UInt32) (t : Nat) (d : UInt32) :
    (fun j => if j = t then keysD seed t (ds t) ++ [keyL' seed t ((keysD seed t (ds t)).length : Nat) d] else keysD seed j (ds j)) = fun j => keysD seed j ((fun j => if j = t then ds t ++ [d] else ds j) j) := by
  funext j
  by_cases h : j = t
  · subst h
    show (if j = j then _ else _) = keysD seed j (if j = j then ds j ++ [d] else ds j)
    rw [if_pos rfl, if_pos rfl, keysD_length, keysD_snoc]
  · show (if j = t then _ else _) = keysD seed j (if j = t then ds t ++ [d] else ds j)
    rw [if_neg h, if_neg h]
/-- a signed head that holds -/
def Holds11 (seed : List UInt8) (ds : Nat → List UInt32) (p : HeadL × List UInt8) : Prop :=
  p.1.ok ∧ p.2.length = 32 ∧ ∃ t k : Nat, t < 16 ∧ p.1.tree = (t : Int) ∧ p.1.epoch = (k : Int) ∧ k < (ds t).length ∧ tagL (keyL' seed t k ((ds t).getD k 0)) p.1 = p.2
theorem Holds11.more {seed : List UInt8} {ds : Nat → List UInt32} {p : HeadL × List UInt8} (h : Holds11 seed ds p) (t : Nat) (d : UInt32) : Holds11 seed (fun j => if j = t then ds t ++ [d] else ds j) p := by
  obtain ⟨h1, h2, t', k, h3, h4, h5, h6, h7⟩ := h
  refine ⟨h1, h2, t', k, h3, h4, h5, ?_, ?_⟩
  · show k < (if t' = t then ds t ++ [d] else ds t').length
    by_cases e : t' = t
    · subst e; rw [if_pos rfl, List.length_append]; omega
    · rw [if_neg e]; exact h6
  · show tagL (keyL' seed t' k ((if t' = t then ds t ++ [d] else ds t').getD k 0)) p.1 = p.2
    by_cases e : t' = t
    · subst e
      rw [if_pos rfl, List.getD_eq_getElem?_getD, List.getElem?_append_left h6, ← List.getD_eq_getElem?_getD]; exact h7
    · rw [if_neg e]; exact h7
/-- the state of the loop: B0: all that was there before; BR: the ring's base -/
structure KS (B0 BR : Nat) (w0 wr : World) (g gd : Nat) (seed : List UInt8) (vs : Value) (ds : Nat → List UInt32) (sv : Value) (sg : List (HeadL × List UInt8)) : Prop where
  ex : ∃ rr rows, Rng wr g BR seed vs rr (fun j => keysD seed j (ds j)) ∧ Drw wr BR gd rows ds
  dl : ∀ j, j < 16 → (ds j).length ≤ 32
  sown : wr.ownsRow BR 45 68 sv sg.length (scells sg)
  sok : ∀ p, p ∈ sg → Holds11 seed ds p
  bel : Below B0 w0 wr
  base : B0 ≤ BR
  lim : BR ≤ wr.heap.size
section
variable {B0 BR g gd : Nat} {w0 wr w' : World} {seed : List UInt8} {vs sv sv' : Value} {ds : Nat → List UInt32} {sg : List (HeadL × List UInt8)}
theorem KS.below (h : KS B0 BR w0 wr g gd seed vs ds sv sg) (hb : Below wr.heap.size wr w') : KS B0 BR w0 w' g gd seed vs ds sv sg := by
  obtain ⟨rr, rows, h1, h2⟩ := h.ex
  exact ⟨⟨rr, rows, h1.below hb, h2.below hb⟩, h.dl, own_below h.sown hb, h.sok, h.bel.trans (hb.mono (Nat.le_trans h.base h.lim)), h.base, Nat.le_trans h.lim hb.size⟩
/-- one signed head more -/
theorem KS.sign (h : KS B0 BR w0 wr g gd seed vs ds sv sg) (p : HeadL × List UInt8) (hp : Holds11 seed ds p) (hown : w'.ownsRow BR 45 68 sv' (sg ++ [p]).length (scells (sg ++ [p]))) (hg : wr.grownBy w' sv.ownBlock) : KS B0 BR w0 w' g gd seed vs ds sv' (sg ++ [p]) := by
  obtain ⟨rr, rows, h1, h2⟩ := h.ex
  have hb : Below B0 w0 w' := below_own h.bel (own_baseR h.sown h.base) hg (Nat.le_trans h.base h.lim)
  refine ⟨⟨rr, rows, ?_, ?_⟩, h.dl, hown, fun q hq => ?_, hb, h.base, Nat.le_trans h.lim hg.size⟩
  · have ha : ∀ b, sv.ownBlock = some b → Away b g vs rr := h1.awayO h.sown (by decide) (by decide) (by decide)
    exact ⟨h1.base, h1.len, h1.blk.grown hg (fun e => (ha g e.symm).ring rfl), own_grown h1.seedOwn hg (fun b hb e => (ha b e).seed hb), h1.seedNot, fun i hi => own_grown (h1.own i hi) hg (fun b hb e => (ha b e).row i hi hb), h1.ownNot, h1.apart, h1.parted⟩
  · exact ⟨h2.len, h2.base, h2.blk.grown hg (fun e => own_ne h2.blk h.sown (by decide) e.symm), fun i hi => own_grown (h2.own i hi) hg (fun b hb e => own_neq (by decide) h.sown (h2.own i hi) b e hb), h2.apart⟩
  · rcases List.mem_append.1 hq with hq | hq
    · exact h.sok q hq
    · rw [List.mem_singleton.1 hq]; exact hp
/-- the ring has turned, the rows not yet -/
structure KT (B0 BR : Nat) (w0 wr : World) (g gd : Nat) (seed : List UInt8) (vs : Value) (rows : List Value) (ds ds' : Nat → List UInt32) (sv : Value) (sg : List (HeadL × List UInt8)) : Prop where
  rng : ∃ rr, Rng wr g BR seed vs rr (fun j => keysD seed j (ds' j))
  drw : Drw wr BR gd rows ds
  sown : wr.ownsRow BR 45 68 sv sg.length (scells sg)
  bel : Below B0 w0 wr
  lim : BR ≤ wr.heap.size
theorem KS.turned {rr rows : List Value} {v' : Value} {t : Nat} {d : UInt32} (h : KS B0 BR w0 wr g gd seed vs ds sv sg) (h1 : Rng wr g BR seed vs rr (fun j => keysD seed j (ds j))) (h2 : Drw wr BR gd rows ds) (ht : t < 16)
    (hR : Rng w' g BR seed vs (rr.set t v') (fun j => if j = t then keysD seed t (ds t) ++ [keyL' seed t ((keysD seed t (ds t)).length : Nat) d] else keysD seed j (ds j))) (hT : Turned wr w' g t rr v') (hb : Below BR wr w') :
    KT B0 BR w0 w' g gd seed vs rows ds (fun j => if j = t then ds t ++ [d] else ds j) sv sg := by
  rw [keysD_turn] at hR
  exact ⟨⟨_, hR⟩, hT.drw ht h1 h2, hT.own ht h.sown (h1.awayO h.sown (by decide) (by decide) (by decide)), h.bel.trans (hb.mono h.base), Nat.le_trans h.lim hT.size⟩
theorem KT.below {rows : List Value} {ds' : Nat → List UInt32} (h : KT B0 BR w0 wr g gd seed vs rows ds ds' sv sg) (h0 : B0 ≤ BR) (hb : Below wr.heap.size wr w') : KT B0 BR w0 w' g gd seed vs rows ds ds' sv sg := by
  obtain ⟨rr, h1⟩ := h.rng
  exact ⟨⟨rr, h1.below hb⟩, h.drw.below hb, own_below h.sown hb, h.bel.trans (hb.mono (Nat.le_trans h0 h.lim)), Nat.le_trans h.lim hb.size⟩
theorem KT.drawn {w1 w2 : World} {rows : List Value} {v' : Value} {t : Nat} {d : UInt32} (h0 : KS B0 BR w0 w' g gd seed vs ds sv sg) (h : KT B0 BR w0 wr g gd seed vs rows ds (fun j => if j = t then ds t ++ [d] else ds j) sv sg) (ht : t < 16) (hl : (ds t).length < 32)
    (hown : w1.ownsRow BR 32 1 v' (ds t ++ [d]).length ((ds t ++ [d]).map v32)) (hg1 : wr.grownBy w1 (rows.getD t undef).ownBlock)
    (hat : v'.ownBlock = (rows.getD t undef).ownBlock ∨ v'.ownBlock = some wr.heap.size) (hblk : Blk w2 gd 30 (rows.toArray.setIfInBounds t v')) (hg2 : w1.grownBy w2 (some gd)) :
    KS B0 BR w0 w2 g gd seed vs (fun j => if j = t then ds t ++ [d] else ds j) sv sg := by
  obtain ⟨rr, h1⟩ := h.rng
  have h2 := h.drw
  have hD := h2.turn t ht d hown hg1 hat hblk hg2
  have ha : ∀ b, (rows.getD t undef).ownBlock = some b → Away b g vs rr := h1.awayO (h2.own t ht) (by decide) (by decide) (by decide)
  have hb1 : Blk w1 gd 30 rows.toArray := h2.blk.grown hg1 (fun e => own_ne h2.blk (h2.own t ht) (by decide) e.symm)
  have hR1 : Rng w1 g BR seed vs rr (fun j => keysD seed j ((fun j => if j = t then ds t ++ [d] else ds j) j)) :=
    ⟨h1.base, h1.len, h1.blk.grown hg1 (fun e => (ha g e.symm).ring rfl), own_grown h1.seedOwn hg1 (fun b hb e => (ha b e).seed hb), h1.seedNot, fun i hi => own_grown (h1.own i hi) hg1 (fun b hb e => (ha b e).row i hi hb), h1.ownNot, h1.apart, h1.parted⟩
  have hR2 := hR1.grown hg2 (hR1.awayT hb1 (by decide) (by decide) (by decide))
  have hs1 := own_grown h.sown hg1 (fun b hb e => own_neq (by decide) (h2.own t ht) h.sown b e hb)
  have hs2 := own_typed hs1 hg2 hb1 (by decide)
  have hbel : Below B0 w0 w2 := below_only (below_own h.bel (own_baseR (h2.own t ht) h0.base) hg1 (Nat.le_trans h0.base h.lim)) hg2 (Nat.le_trans h0.base h2.base) (Nat.le_trans (Nat.le_trans h0.base h.lim) hg1.size)
  refine ⟨⟨rr, _, hR2, hD⟩, fun j hj => ?_, hs2, fun p hp => (h0.sok p hp).more t d, hbel, h0.base, Nat.le_trans h.lim (Nat.le_trans hg1.size hg2.size)⟩
  by_cases e : j = t
  · subst e
    show (if j = j then ds j ++ [d] else ds j).length ≤ 32
    rw [if_pos rfl, List.length_append, List.length_singleton]; omega
  · show (if j = t then ds t ++ [d] else ds j).length ≤ 32
    rw [if_neg e]; exact h0.dl j hj
end
end Go.Proofs.YtfggbfnnibpohaaDoor

/- Cells of signed heads that are turned; small laws of KeysRing's walk. No condition. -/
namespace Go.Proofs.YtfggbfnnibpohaaDoor
open Go Go.RowKit
theorem headC_treeK (h : HeadL) (k : Int) : (headC h).setIfInBounds 0 (.int .i64 k) = headC ⟨k, h.epoch, h.size, h.clock, h.root⟩ := by
  unfold headC
  apply Array.toList_inj.1
  rw [Array.toList_setIfInBounds, Array.toList_append, Array.toList_append]
  rfl
theorem headC_epochK (h : HeadL) (k : Int) : (headC h).setIfInBounds 1 (.int .i64 k) = headC ⟨h.tree, k, h.size, h.clock, h.root⟩ := by
  unfold headC
  apply Array.toList_inj.1
  rw [Array.toList_setIfInBounds, Array.toList_append, Array.toList_append]
  rfl
theorem headC_sizeK (h : HeadL) (u : UInt64) : (headC h).setIfInBounds 2 (.int .u64 (n64 u)) = headC ⟨h.tree, h.epoch, u, h.clock, h.root⟩ := by
  unfold headC
  apply Array.toList_inj.1
  rw [Array.toList_setIfInBounds, Array.toList_append, Array.toList_append]
  rfl
theorem headC_clockK (h : HeadL) (u : UInt64) : (headC h).setIfInBounds 3 (.int .u64 (n64 u)) = headC ⟨h.tree, h.epoch, h.size, u, h.root⟩ := by
  unfold headC
  apply Array.toList_inj.1
  rw [Array.toList_setIfInBounds, Array.toList_append, Array.toList_append]
  rfl
theorem sigC_set (h : HeadL) (tag : List UInt8) (i : Nat) (hi : i < 36) (v : Value) : (sigC h tag).setIfInBounds i v = (headC h).setIfInBounds i v ++ dat tag := by
  unfold sigC
  apply Array.toList_inj.1
  rw [Array.toList_setIfInBounds, Array.toList_append, Array.toList_append, Array.toList_setIfInBounds, List.set_append_left _ _ (by rw [Array.length_toList, headC_size]; exact hi)]
theorem sigC_epoch (h : HeadL) (tag : List UInt8) (k : Int) : (sigC h tag).setIfInBounds 1 (.int .i64 k) = sigC ⟨h.tree, k, h.size, h.clock, h.root⟩ tag := by
  rw [sigC_set h tag 1 (by decide)]
  rw [headC_epochK]; rfl
theorem n64_succ (u : UInt64) : n64 (u + 1) = (n64 u + 1) % 18446744073709551616 := by
  unfold n64
  rw [UInt64.toNat_add]
  show (((u.toNat + 1) % 18446744073709551616 : Nat) : Int) = _
  omega
theorem sigC_size' (h : HeadL) (tag : List UInt8) (u : UInt64) : (sigC h tag).setIfInBounds 2 (.int .u64 (n64 u)) = sigC ⟨h.tree, h.epoch, u, h.clock, h.root⟩ tag := by
  rw [sigC_set h tag 2 (by decide)]
  rw [headC_sizeK]; rfl
theorem sigC_clock (h : HeadL) (tag : List UInt8) (u : UInt64) : (sigC h tag).setIfInBounds 3 (.int .u64 (n64 u)) = sigC ⟨h.tree, h.epoch, h.size, u, h.root⟩ tag := by
  rw [sigC_set h tag 3 (by decide)]
  rw [headC_clockK]; rfl
theorem sigC_tagSet (h : HeadL) (tag : List UInt8) (ht : tag.length = 32) (j : Nat) (hj : j < 32) (b : UInt8) : (sigC h tag).setIfInBounds (36 + j) (v8 b) = sigC h (tag.set j b) := by
  unfold sigC
  rw [dat_eq tag ht, dat_eq (tag.set j b) (by rw [List.length_set]; exact ht)]
  apply Array.toList_inj.1
  rw [Array.toList_setIfInBounds, Array.toList_append, Array.toList_append, List.set_append_right _ _ (by rw [Array.length_toList, headC_size]; omega), Array.length_toList, headC_size, Nat.add_sub_cancel_left]
  simp [List.map_set]
theorem sigC_2 (h : HeadL) (tag : List UInt8) : (sigC h tag)[2]? = some (.int .u64 (n64 h.size)) := by unfold sigC; rw [Array.getElem?_append_left (by rw [headC_size]; omega)]; exact headC_2 h
theorem sigC_3 (h : HeadL) (tag : List UInt8) : (sigC h tag)[3]? = some (.int .u64 (n64 h.clock)) := by unfold sigC; rw [Array.getElem?_append_left (by rw [headC_size]; omega)]; exact headC_3 h
theorem sigC_at (h : HeadL) (tag : List UInt8) (ht : tag.length = 32) (j : Nat) (hj : j < 32) : (sigC h tag)[36 + j]? = some (v8 (tag.getD j 0)) := by
  unfold sigC
  rw [dat_eq tag ht, Array.getElem?_append_right (by rw [headC_size]; omega), headC_size, Nat.add_sub_cancel_left]
  simp [List.getD_eq_getElem?_getD, List.getElem?_eq_getElem (show j < tag.length by omega)]
/-- nothing signed is nothing signed -/
theorem neql_zero (w : World) : (binOp .neq 45 (.agg (sigC zeroHead [])) (.agg (sigC zeroHead []))).run Tryd.prog w = .ok (.bool false) w := by
  have e : sigC zeroHead [] = sigC ⟨0, 0, 0, 0, List.replicate 32 0⟩ (List.replicate 32 0) := by kernel_rfl
  rw [e, neql_sig ⟨0, 0, 0, 0, List.replicate 32 0⟩ ⟨0, 0, 0, 0, List.replicate 32 0⟩ (by decide) (by decide) _ _ (by decide) (by decide), headEq_self]
  simp
theorem wpList_neZ {w : World} {ops : Array Oper} {rest : List Oper} {o : Oper} {a : Act} {Q : Exit → Act → World → Prop} (hgd : o.guard = none) (x y : Operand) (yt : TypeId) (ho : o.op = .binOp .neq 45 x y yt) (hx : a.eval x = .agg (sigC zeroHead [])) (hy : a.eval y = .agg (sigC zeroHead []))
    (hk : wpList Tryd.prog ops Q rest (a.put o.dst (.bool false)) w) : wpList Tryd.prog ops Q (o :: rest) a w :=
  wpList_plain hgd fun K hK => by
    unfold Oper.wp execOp
    simp only [ho, hx, hy, Sem.run_bind, Sem.run_pure, Result.andThen_ok, run_eqGuard_agg (P := Tryd.prog) w .neq 45 x y _ _ (by kernel_rfl), neql_zero]
    exact hK _ _ hk
/-- nothing was written -/
theorem grown_none {w w' : World} {r : Option Nat} (h : w.grownBy w' none) : w.grownBy w' r := ⟨h.os, h.tape, h.output, h.size, fun q hq _ => h.block q hq (by simp)⟩
theorem Rng.grownO {w w' : World} {g B : Nat} {seed : List UInt8} {vs v : Value} {rows : List Value} {ks : Nat → List (List UInt8)} (h : Rng w g B seed vs rows ks) (hg : w.grownBy w' v.ownBlock) (hv : ∀ b, v.ownBlock = some b → b < B) : Rng w' g B seed vs rows ks := by
  cases hb : v.ownBlock with
  | none => rw [hb] at hg; exact h.grown (x := w.heap.size) (grown_none hg) (h.away (Nat.le_refl _))
  | some b => rw [hb] at hg; exact h.grown hg (h.away_low (hv b hb))
/-- no row drawn yet -/
theorem Drw.none_ (w : World) (B : Nat) (hB : B ≤ w.heap.size) : Drw (w.alloc (.cells (List.replicate 16 (Value.slice none 0 0)).toArray 30)) B w.heap.size (List.replicate 16 (Value.slice none 0 0)) (fun _ => []) := by
  have hg : ∀ i, i < 16 → (List.replicate 16 (Value.slice none 0 0)).getD i undef = .slice none 0 0 := fun i hi => by
    rw [List.getD_eq_getElem?_getD, List.getElem?_replicate, if_pos hi]; rfl
  refine ⟨by simp, hB, Blk.new w _ _, fun i hi => ?_, fun i j hi hj _ => ?_⟩
  · rw [hg i hi]; exact World.ownsRow_nil _ _ _ _
  · rw [hg i hi]; exact fun q hq => by cases hq
def askZ : AskK := ⟨0, 0, 0, 0, zeroHead⟩
theorem zero_ask (w : World) : (zeroValue 39).run Tryd.prog w = .ok (.agg (askC askZ)) w := by kernel_rfl
theorem zero_headK (w : World) : (zeroValue 37).run Tryd.prog w = .ok (.agg (headC zeroHead)) w := by kernel_rfl
theorem askC_one (q : AskK) : ∀ v ∈ (askC q).toList, v.oneCell' = true := by
  intro v hv
  unfold askC at hv
  rw [Array.toList_append] at hv
  rcases List.mem_append.1 hv with h | h
  · simp at h
    rcases h with h | h | h | h <;> subst h <;> rfl
  · exact headC_one _ v h
end Go.Proofs.YtfggbfnnibpohaaDoor

/- The calls of KeysRing's loop, by its state. No condition. -/
namespace Go.Proofs.YtfggbfnnibpohaaDoor
open Go Go.RowKit
section
variable {B0 BR g gd xb : Nat} {w0 W w' : World} {seed : List UInt8} {vs sv : Value} {ds : Nat → List UInt32} {sg : List (HeadL × List UInt8)} {cs : Array Value}
theorem ks_row (hK : KS B0 BR w0 W g gd seed vs ds sv sg) (t : Nat) (ht : t < 16) : ∃ A c, W.cell? ⟨gd, t, none⟩ = some (.slice A (ds t).length c) := by
  obtain ⟨rr, rows, hR, hD⟩ := hK.ex
  obtain ⟨A, c, e⟩ := hD.rowLen t ht
  exact ⟨A, c, by rw [hD.row t ht, e]⟩
theorem ks_gd (hK : KS B0 BR w0 W g gd seed vs ds sv sg) : gd < W.heap.size := by
  obtain ⟨rr, rows, hR, hD⟩ := hK.ex
  exact hD.blk.lt
theorem ks_turn (hK : KS B0 BR w0 W g gd seed vs ds sv sg) (hX : Blk W xb 39 cs) (t : Nat) (ht : t < 16) (hlt : (ds t).length < 32) (d : UInt32) (hl : seed.length ≤ 64) (hG : Glob W) :
    Calls Tryd.prog 13 #[.pointer (some ⟨g, 0, none⟩), .int .i64 t, .int .u32 (n32 d)] W fun e w' => ∃ rows, e = .returned (.tuple #[.int .i64 ((ds t).length : Nat), .int .i64 0]) ∧ KT B0 BR w0 w' g gd seed vs rows ds (fun j => if j = t then ds t ++ [d] else ds j) sv sg ∧ Blk w' xb 39 cs := by
  obtain ⟨rr, rows, hR, hD⟩ := hK.ex
  refine (turn_all g BR seed vs rr (fun j => keysD seed j (ds j)) t ht (by show (keysD seed t (ds t)).length < 32; rw [keysD_length]; exact hlt) d W hR hK.lim (by omega) hG).mono ?_
  rintro e w' ⟨rfl, ⟨v', h2, h3⟩, h4⟩
  refine ⟨rows, ?_, hK.turned hR hD ht h2 h3 h4, h3.blk ht (hR.awayT hX (by decide) (by decide) (by decide)) hX⟩
  show Ending.returned (.tuple #[.int .i64 ((keysD seed t (ds t)).length : Nat), .int .i64 0]) = _
  rw [keysD_length]
theorem ks_many (hK : KS B0 BR w0 W g gd seed vs ds sv sg) (t : Nat) (ht : t < 16) (hlt : (ds t).length = 32) (d : Value) :
    Calls Tryd.prog 13 #[.pointer (some ⟨g, 0, none⟩), .int .i64 t, d] W fun e w' => e = .returned (.tuple #[.int .i64 0, .int .i64 4]) ∧ W = w' := by
  obtain ⟨rr, rows, hR, hD⟩ := hK.ex
  exact turn_many g BR seed vs rr (fun j => keysD seed j (ds j)) t ht (by show (keysD seed t (ds t)).length = 32; rw [keysD_length]; exact hlt) d W hR
theorem ks_epoch (hK : KS B0 BR w0 W g gd seed vs ds sv sg) (t : Nat) (ht : t < 16) (h0 : 0 < (ds t).length) :
    Calls Tryd.prog 21 #[.pointer (some ⟨g, 0, none⟩), .int .i64 t] W fun e w' => e = .returned (.tuple #[.int .i64 (((ds t).length : Nat) - 1), .bool true]) ∧ W = w' := by
  obtain ⟨rr, rows, hR, hD⟩ := hK.ex
  refine (epoch_ok g BR seed vs rr (fun j => keysD seed j (ds j)) t ht (by show 0 < (keysD seed t (ds t)).length; rw [keysD_length]; exact h0) (by show (keysD seed t (ds t)).length ≤ 32; rw [keysD_length]; exact hK.dl t ht) W hR).mono ?_
  rintro e w' ⟨rfl, h2⟩
  refine ⟨?_, h2⟩
  show Ending.returned (.tuple #[.int .i64 (((keysD seed t (ds t)).length : Nat) - 1), .bool true]) = _
  rw [keysD_length]
theorem ks_epoch0 (hK : KS B0 BR w0 W g gd seed vs ds sv sg) (t : Nat) (ht : t < 16) (h0 : (ds t).length = 0) :
    Calls Tryd.prog 21 #[.pointer (some ⟨g, 0, none⟩), .int .i64 t] W fun e w' => e = .returned (.tuple #[.int .i64 0, .bool false]) ∧ W = w' := by
  obtain ⟨rr, rows, hR, hD⟩ := hK.ex
  exact epoch_none g BR seed vs rr (fun j => keysD seed j (ds j)) t ht (List.eq_nil_of_length_eq_zero (by show (keysD seed t (ds t)).length = 0; rw [keysD_length]; exact h0)) W hR
theorem ks_sign0 (hK : KS B0 BR w0 W g gd seed vs ds sv sg) (t : Nat) (ht : t < 16) (h0 : (ds t).length = 0) (h : HeadL) (htr : h.tree = (t : Int)) :
    Calls Tryd.prog 15 #[.pointer (some ⟨g, 0, none⟩), .agg (headC h)] W fun e w' => e = .returned (.tuple #[.agg (sigC zeroHead []), .int .i64 23]) ∧ Below W.heap.size W w' := by
  obtain ⟨rr, rows, hR, hD⟩ := hK.ex
  exact rsign_none g BR seed vs rr (fun j => keysD seed j (ds j)) t ht (List.eq_nil_of_length_eq_zero (by show (keysD seed t (ds t)).length = 0; rw [keysD_length]; exact h0)) h htr W hR
/-- what Sign answers -/
theorem ks_sign (hK : KS B0 BR w0 W g gd seed vs ds sv sg) (t : Nat) (ht : t < 16) (k : Nat) (hk : (ds t).length = k + 1) (h : HeadL) (hok : h.ok) (htr : h.tree = (t : Int)) (hG : Glob W) :
    Calls Tryd.prog 15 #[.pointer (some ⟨g, 0, none⟩), .agg (headC h)] W fun e w' => e = .returned (.tuple #[.agg (sigC ⟨t, k, h.size, h.clock, h.root⟩ (tagL (keyL' seed t k ((ds t).getD k 0)) ⟨t, k, h.size, h.clock, h.root⟩)), .int .i64 0]) ∧ Below W.heap.size W w' := by
  obtain ⟨rr, rows, hR, hD⟩ := hK.ex
  have hl : (keysD seed t (ds t)).length = k + 1 := by rw [keysD_length]; exact hk
  have hall : ∀ q, q < (keysD seed t (ds t)).length → ((keysD seed t (ds t)).getD q []).length = 32 := fun q hq => by
    rw [keysD_at seed t (ds t) q (by rw [keysD_length] at hq; exact hq)]; exact mac_length _ _
  refine (rsign_ok g BR seed vs rr (fun j => keysD seed j (ds j)) t ht (by show 0 < (keysD seed t (ds t)).length; omega) (by show (keysD seed t (ds t)).length ≤ 32; rw [keysD_length]; exact hK.dl t ht) hall h hok htr W hR hG).mono ?_
  rintro e w' ⟨rfl, h2⟩
  refine ⟨?_, h2⟩
  show Ending.returned (.tuple #[.agg (sigC ⟨t, ((keysD seed t (ds t)).length : Nat) - 1, h.size, h.clock, h.root⟩ (tagL ((keysD seed t (ds t)).getD ((keysD seed t (ds t)).length - 1) []) ⟨t, ((keysD seed t (ds t)).length : Nat) - 1, h.size, h.clock, h.root⟩)), .int .i64 0]) = _
  rw [hl, show k + 1 - 1 = k by omega, keysD_at seed t (ds t) k (by omega), show (((k + 1 : Nat) : Int) - 1) = (k : Int) by omega]
/-- does it hold? -/
def hvF (seed : List UInt8) (ds : Nat → List UInt32) (t k : Nat) (h : HeadL) (tag : List UInt8) : Bool := decide (k < (ds t).length) && decide (tagL (keyL' seed t k ((ds t).getD k 0)) h = tag)
theorem ks_holds (hK : KS B0 BR w0 W g gd seed vs ds sv sg) (t : Nat) (ht : t < 16) (k : Nat) (h : HeadL) (hok : h.ok) (htr : h.tree = (t : Int)) (hep : h.epoch = (k : Int)) (tag : List UInt8) (htl : tag.length = 32) (hG : Glob W) :
    Calls Tryd.prog 19 #[.pointer (some ⟨g, 0, none⟩), .agg (sigC h tag)] W fun e w' => e = .returned (.bool (hvF seed ds t k h tag)) ∧ Below W.heap.size W w' := by
  obtain ⟨rr, rows, hR, hD⟩ := hK.ex
  have hdl := hK.dl t ht
  by_cases hk : k < (ds t).length
  · refine (rholds_ok g BR seed vs rr (fun j => keysD seed j (ds j)) t ht k (by show k < (keysD seed t (ds t)).length; rw [keysD_length]; exact hk) (by show (keysD seed t (ds t)).length ≤ 32; rw [keysD_length]; exact hdl) (keyL' seed t k ((ds t).getD k 0)) (keysD_at seed t (ds t) k hk) (mac_length _ _) h hok htr hep tag htl W hR hG).mono ?_
    rintro e w' ⟨rfl, h2⟩
    refine ⟨?_, h2⟩
    unfold hvF
    rw [decide_eq_true hk, Bool.true_and]
  · refine (rholds_no g BR seed vs rr (fun j => keysD seed j (ds j)) (fun i hi => by show (keysD seed i (ds i)).length ≤ 32; rw [keysD_length]; exact hK.dl i hi) h (fun hn => hk (by
      have h4 : h.epoch < ((keysD seed h.tree.toNat (ds h.tree.toNat)).length : Nat) := hn.2.2.2
      rw [keysD_length, htr, hep, Int.toNat_natCast] at h4
      omega)) tag W hR).mono ?_
    rintro e w' ⟨rfl, h2⟩
    refine ⟨?_, h2⟩
    unfold hvF
    rw [decide_eq_false hk, Bool.false_and]
theorem ks_holdsR (hK : KS B0 BR w0 W g gd seed vs ds sv sg) (t : Nat) (ht : t < 16) (k : Nat) (hk32 : k ≤ 32) (h : HeadL) (hok : h.ok) (htr : h.tree = (t : Int)) (hep : h.epoch = (k : Int)) (tag : List UInt8) (htl : tag.length = 32) (tv u : Value) (hT : Tbl W W.heap.size tv) (hu : BSl W W.heap.size u seed) (hl : seed.length ≤ 64) :
    Calls Tryd.prog 20 #[tv, u, .slice (some ⟨gd, 0, none⟩) 16 16, .agg (sigC h tag)] W fun e w' => e = .returned (.bool (hvF seed ds t k h tag)) ∧ Below W.heap.size W w' := by
  obtain ⟨rr, rows, hR, hD⟩ := hK.ex
  have hdl := hK.dl t ht
  by_cases hk : k < (ds t).length
  · refine (holds_in tv u seed h tag t k BR gd rows ds W hT hu (by omega) hD ht hk hdl htr hep hok htl).mono ?_
    rintro e w' ⟨rfl, h2⟩
    refine ⟨?_, h2⟩
    unfold hvF
    rw [decide_eq_true hk, Bool.true_and]
  · refine (holds_out tv u h tag t k BR gd rows ds W hD ht (by omega) (by omega) htr hep).mono ?_
    rintro e w' ⟨rfl, h2⟩
    refine ⟨?_, h2⟩
    unfold hvF
    rw [decide_eq_false hk, Bool.false_and]
theorem hvF_true {t k : Nat} {p : HeadL × List UInt8} (hk : k < (ds t).length) (h : tagL (keyL' seed t k ((ds t).getD k 0)) p.1 = p.2) : hvF seed ds t k p.1 p.2 = true := by
  unfold hvF
  rw [decide_eq_true hk, decide_eq_true h]; rfl
theorem blk_neK {W : World} {x y : Nat} {t t' : TypeId} {cx cy : Array Value} (h : Blk W x t cx) (h' : Blk W y t' cy) (ht : t ≠ t') : x ≠ y := by
  intro e
  subst e
  have : some (Obj.cells _ _ _) = some (Obj.cells _ _ _) := h.symm.trans h'
  injection this with this
  injection this with _ h3 _
  exact ht h3
/-- a block of the call's own that is none of the state's is written -/
theorem KS.awayG {k : Nat} {ty : TypeId} (h : KS B0 BR w0 W g gd seed vs ds sv sg) (hg : W.grownBy w' (some k)) (hk : Blk W k ty cs) (hB : B0 ≤ k) (h1 : ty ≠ 134) (h2 : ty ≠ 5) (h3 : ty ≠ 35) (h4 : ty ≠ 30) (h5 : ty ≠ 32) (h6 : sv.ownBlock ≠ some k) : KS B0 BR w0 w' g gd seed vs ds sv sg := by
  obtain ⟨rr, rows, hR, hD⟩ := h.ex
  exact ⟨⟨rr, rows, hR.grown hg (hR.awayT hk h1 h2 h3), hD.other hg hk h4 h5⟩, h.dl, own_grown h.sown hg (fun b hb e => h6 (hb.trans e.symm)), h.sok, below_only h.bel hg hB (Nat.le_trans h.base h.lim), h.base, Nat.le_trans h.lim hg.size⟩
theorem KS.away {k : Nat} {ty : TypeId} (h : KS B0 BR w0 W g gd seed vs ds sv sg) (hg : W.grownBy w' (some k)) (hk : Blk W k ty cs) (hB : B0 ≤ k) (h1 : ty ≠ 134) (h2 : ty ≠ 5) (h3 : ty ≠ 35) (h4 : ty ≠ 30) (h5 : ty ≠ 32) (h6 : ty ≠ 45) : KS B0 BR w0 w' g gd seed vs ds sv sg :=
  h.awayG hg hk hB h1 h2 h3 h4 h5 (own_ne hk h.sown h6)
theorem wpList_loadG {P : Program} {w : World} {ops : Array Oper} {rest : List Oper} {o : Oper} {a : Act} {Q : Exit → Act → World → Prop} (ty : TypeId) (x : Operand) (ho : o.op = .load ty x) (b off : Nat) (hx : a.eval x = .pointer (some ⟨b, off, none⟩)) (cs : Array Value) (d : TypeDesc)
    (hS : w.rangeAt b off cs.toList) (hu : P.underlying ty = some d) (hd : d.isRow = true) (hi : (P.info? ty).map (·.size) = some cs.size) (hw : Region.wanted o (yielded ops a.tmps) = true)
    (h : wpList P ops Q rest (a.put o.dst (.agg cs)) w) : wpList P ops Q (o :: rest) a w := wpList_loadMid hw ty x ho b off hx cs d hS hu hd hi h
theorem wpList_buildG {P : Program} {w : World} {ops : Array Oper} {rest : List Oper} {o : Oper} {a : Act} {Q : Exit → Act → World → Prop} (t : TypeId) (parts : Array (Nat × Operand)) (ho : o.op = .build t parts) (cells : Array Value) (hb : P.built t (parts.map fun (i, x) => (i, a.eval x)).toList = some cells)
    (hw : Region.wanted o (yielded ops a.tmps) = true) (hk : wpList P ops Q rest (a.put o.dst (.agg cells)) w) : wpList P ops Q (o :: rest) a w :=
  wpList_unguard hw (wpList_build (o := { o with guard := none }) rfl t parts ho cells hb hk)
theorem wpList_neZG {w : World} {ops : Array Oper} {rest : List Oper} {o : Oper} {a : Act} {Q : Exit → Act → World → Prop} (x y : Operand) (yt : TypeId) (ho : o.op = .binOp .neq 45 x y yt) (hx : a.eval x = .agg (sigC zeroHead [])) (hy : a.eval y = .agg (sigC zeroHead []))
    (hw : Region.wanted o (yielded ops a.tmps) = true) (hk : wpList Tryd.prog ops Q rest (a.put o.dst (.bool false)) w) : wpList Tryd.prog ops Q (o :: rest) a w :=
  wpList_unguard hw (wpList_neZ (o := { o with guard := none }) rfl x y yt ho hx hy hk)
theorem range_blk {W : World} {b : Nat} {t : TypeId} {cs : Array Value} (h : Blk W b t cs) : W.rangeAt b 0 cs.toList := fun j v hj => by
  rw [Nat.zero_add, h.cell, ← hj]; simp
theorem range_head {W : World} {b : Nat} {t : TypeId} {a : AskK} (h : Blk W b t (askC a)) : W.rangeAt b 4 (headC a.head).toList := fun j v hj => by
  rw [h.cell, askC_head, ← hj]; simp
end
end Go.Proofs.YtfggbfnnibpohaaDoor
