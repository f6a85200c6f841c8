/- Rings side by side. No condition. -/
import Derived.Test.YtbhmmoecoijojaaDoorRingK
import Derived.Test.YtbhmmoecoijojaaDoorTbl
namespace Go.Proofs.YtbhmmoecoijojaaDoor
open Go.RowKit
/-- block b is one of the ring's -/
def Mine (b g : Nat) (vs : Value) (rows : List Value) : Prop := b = g ∨ vs.ownBlock = some b ∨ ∃ i, i < 16 ∧ (rows.getD i undef).ownBlock = some b
def Sep (g : Nat) (vs : Value) (rows : List Value) (g2 : Nat) (vs2 : Value) (rows2 : List Value) : Prop := ∀ b, Mine b g vs rows → Mine b g2 vs2 rows2 → False
section
variable {w w' : World} {g B : Nat} {seed : List UInt8} {vs : Value} {rows : List Value} {ks : Nat → List (List UInt8)} {g2 B2 : Nat} {seed2 : List UInt8} {vs2 : Value} {rows2 : List Value} {ks2 : Nat → List (List UInt8)} {t b : Nat} {v' : Value}
theorem away_of (h : ¬ Mine b g vs rows) : Away b g vs rows := ⟨fun e => h (.inl e), fun e => h (.inr (.inl e)), fun i hi e => h (.inr (.inr ⟨i, hi, e⟩))⟩
theorem Away.not (h : Away b g vs rows) : ¬ Mine b g vs rows := fun hm => by
  rcases hm with e | e | ⟨i, hi, e⟩
  · exact h.ring e
  · exact h.seed e
  · exact h.row i hi e
theorem Sep.symm (h : Sep g vs rows g2 vs2 rows2) : Sep g2 vs2 rows2 g vs rows := fun b h1 h2 => h b h2 h1
theorem Rng.mine_lt (h : Rng w g B seed vs rows ks) (hm : Mine b g vs rows) : b < w.heap.size := by
  rcases hm with e | e | ⟨i, hi, e⟩
  · rw [e]; exact h.blk.lt
  · exact own_lt h.seedOwn b e
  · exact own_lt (h.own i hi) b e
theorem Rng.mine_ge (h : Rng w g B seed vs rows ks) (hm : Mine b g vs rows) : B ≤ b := by
  rcases hm with e | e | ⟨i, hi, e⟩
  · rw [e]; exact h.base
  · exact own_ge h.seedOwn b e
  · exact own_ge (h.own i hi) b e
theorem sep_new (h : Rng w g B seed vs rows ks) (h2 : Rng w' g2 B2 seed2 vs2 rows2 ks2) (hb : w.heap.size ≤ B2) : Sep g vs rows g2 vs2 rows2 := fun b m1 m2 => by
  have := h.mine_lt m1; have := h2.mine_ge m2; omega
theorem Turned.sep (h : Turned w w' g t rows v') (ht : t < 16) (hl : rows.length = 16) (h2 : Rng w g2 B2 seed2 vs2 rows2 ks2) (hs : Sep g vs rows g2 vs2 rows2) : Sep g vs (rows.set t v') g2 vs2 rows2 := fun b m1 m2 =>
  (h.away ht hl (h2.mine_lt m2) (away_of (fun m => hs b m m2))).not m1
theorem Turned.own {e : TypeId} {size n : Nat} {v : Value} {xs : List Value} {base : Nat} (h : Turned w w' g t rows v') (ht : t < 16) (ho : w.ownsRow base e size v n xs) (ha : ∀ b, v.ownBlock = some b → Away b g vs rows) : w'.ownsRow base e size v n xs := by
  obtain ⟨W2, W3, h1, h2, h3, _⟩ := h
  refine own_grown (own_grown (own_below ho h1) h2 (fun b hb e => (ha b hb).row t ht e)) h3 (fun b hb e => (ha b hb).ring (Option.some.inj e).symm)
/-- another ring stays -/
theorem Turned.rng (h : Turned w w' g t rows v') (ht : t < 16) (h2 : Rng w g2 B2 seed2 vs2 rows2 ks2) (hs : Sep g vs rows g2 vs2 rows2) : Rng w' g2 B2 seed2 vs2 rows2 ks2 :=
  ⟨h2.base, h2.len, h.blk ht (away_of (fun m => hs g2 m (.inl rfl))) h2.blk, h.own ht h2.seedOwn (fun b e => away_of (vs := vs) (fun m => hs b m (.inr (.inl e)))), h2.seedNot,
   fun i hi => h.own ht (h2.own i hi) (fun b e => away_of (vs := vs) (fun m => hs b m (.inr (.inr ⟨i, hi, e⟩)))), h2.ownNot, h2.apart, h2.parted⟩
theorem Turned.tbl {tv : Value} (h : Turned w w' g t rows v') (ht : t < 16) (hT : Tbl w w.heap.size tv) (ha : ∀ b, tv = .pointer (some ⟨b, 0, none⟩) → Away b g vs rows) : Tbl w' w'.heap.size tv := by
  obtain ⟨b, rfl, hb, hB⟩ := hT
  exact ⟨b, rfl, Nat.lt_of_lt_of_le hb h.size, h.blk ht (ha b rfl) hB⟩
theorem Rng.grown {x : Nat} (h : Rng w g B seed vs rows ks) (hg : w.grownBy w' (some x)) (ha : Away x g vs rows) : Rng w' g B seed vs rows ks :=
  ⟨h.base, h.len, h.blk.grown hg (fun e => ha.ring (Option.some.inj e).symm), own_grown h.seedOwn hg (fun b hb e => ha.seed (by rw [hb, ← e])), h.seedNot,
   fun i hi => own_grown (h.own i hi) hg (fun b hb e => ha.row i hi (by rw [hb, ← e])), h.ownNot, h.apart, h.parted⟩
theorem Rng.away_low {x : Nat} (h : Rng w g B seed vs rows ks) (hx : x < B) : Away x g vs rows :=
  away_of (fun m => by have := h.mine_ge m; omega)
end
theorem neql_sig (h h' : HeadL) (hr : h.root.length = 32) (hr' : h'.root.length = 32) (t t' : List UInt8) (ht : t.length = 32) (ht' : t'.length = 32) (w : World) :
    (binOp .neq 51 (.agg (sigC h t)) (.agg (sigC h' t'))).run Tryd.prog w = .ok (.bool (!(headEq h h' && decide (t = t')))) w := by
  rw [run_neq_struct, eqi_sig 9996 h h' hr hr' t t' ht ht']; rfl
theorem wpQuiet_neS {ops : Array Oper} {C : World → Prop} {Q : Act → Prop} {a : Act} {o : Oper} {rest : List Oper} (hw : Region.wanted o (yielded ops a.tmps) = true) (x y : Operand) (yt : TypeId) (ho : o.op = .binOp .neq 51 x y yt) (h h' : HeadL) (t t' : List UInt8) (hx : a.eval x = .agg (sigC h t)) (hy : a.eval y = .agg (sigC h' t'))
    (hr : h.root.length = 32) (hr' : h'.root.length = 32) (ht : t.length = 32) (ht' : t'.length = 32)
    (b : Bool) (hb : (!(headEq h h' && decide (t = t'))) = b) (hk : wpQuiet Tryd.prog ops C Q rest (a.put o.dst (.bool b))) : wpQuiet Tryd.prog ops C Q (o :: rest) a :=
  wpQuiet_wanted hw (.bool b) (fun w _ => by
    unfold Oper.quietAt execOp
    simp only [ho, hx, hy, Sem.run_bind, Sem.run_pure, Result.andThen_ok, run_eqGuard_agg (P := Tryd.prog) w .neq 51 x y _ _ (by kernel_rfl), neql_sig h h' hr hr' t t' ht ht', hb]
    exact ⟨rfl, rfl⟩) hk
/-- the keys of a tree that turned so many times -/
def keysOf (seed : List UInt8) (t : Nat) (ds : List UInt32) (k : Nat) : List (List UInt8) := (List.range k).map fun (i : Nat) => keyL' seed t i (ds.getD i 0)
def ksOf (seed : List UInt8) (t : Nat) (ds : List UInt32) (k : Nat) : Nat → List (List UInt8) := fun j => if j = t then keysOf seed t ds k else []
theorem keysOf_length (seed : List UInt8) (t : Nat) (ds : List UInt32) (k : Nat) : (keysOf seed t ds k).length = k := by simp [keysOf]
theorem keysOf_at (seed : List UInt8) (t : Nat) (ds : List UInt32) (k i : Nat) (h : i < k) : (keysOf seed t ds k).getD i [] = keyL' seed t i (ds.getD i 0) := by
  unfold keysOf
  rw [List.getD_eq_getElem?_getD, List.getElem?_map, List.getElem?_range h]; rfl
theorem ksOf_self (seed : List UInt8) (t : Nat) (ds : List UInt32) (k : Nat) : ksOf seed t ds k t = keysOf seed t ds k := if_pos rfl
theorem ksOf_zero (seed : List UInt8) (t : Nat) (ds : List UInt32) : ksOf seed t ds 0 = fun _ => [] := by
  funext j; unfold ksOf keysOf; split <;> rfl
theorem ksOf_turn (seed : List UInt8) (t : Nat) (ds : List UInt32) (k : Nat) : (fun j => if j = t then ksOf seed t ds k t ++ [keyL' seed t ((ksOf seed t ds k t).length : Nat) (ds.getD k 0)] else ksOf seed t ds k j) = ksOf seed t ds (k + 1) := by
  funext j
  by_cases hj : j = t
  · subst hj
    rw [if_pos rfl, ksOf_self, ksOf_self, keysOf_length]
    unfold keysOf
    rw [List.range_succ, List.map_append]; rfl
  · rw [if_neg hj]; unfold ksOf; rw [if_neg hj, if_neg hj]
/-- Three rings side by side, each of which turned one tree; beside them the reference's table. -/
structure Trio (w : World) (t : Nat) (ds : List UInt32) (tv : Value) (gA BA : Nat) (sA : List UInt8) (vA : Value) (kA : Nat) (gB BB : Nat) (sB : List UInt8) (vB : Value) (kB : Nat) (gC BC : Nat) (sC : List UInt8) (vC : Value) (kC : Nat) : Prop where
  ex : ∃ rA rB rC, Rng w gA BA sA vA rA (ksOf sA t ds kA) ∧ Rng w gB BB sB vB rB (ksOf sB t ds kB) ∧ Rng w gC BC sC vC rC (ksOf sC t ds kC) ∧ Sep gA vA rA gB vB rB ∧ Sep gA vA rA gC vC rC ∧ Sep gB vB rB gC vC rC ∧
    Tbl w w.heap.size tv ∧ (∀ b, tv = .pointer (some ⟨b, 0, none⟩) → Away b gA vA rA ∧ Away b gB vB rB ∧ Away b gC vC rC)
section
variable {w w' : World} {t : Nat} {ds : List UInt32} {tv : Value} {gA BA : Nat} {sA : List UInt8} {vA : Value} {kA : Nat} {gB BB : Nat} {sB : List UInt8} {vB : Value} {kB : Nat} {gC BC : Nat} {sC : List UInt8} {vC : Value} {kC : Nat}
theorem Trio.rot (h : Trio w t ds tv gA BA sA vA kA gB BB sB vB kB gC BC sC vC kC) : Trio w t ds tv gB BB sB vB kB gC BC sC vC kC gA BA sA vA kA := by
  obtain ⟨rA, rB, rC, h1, h2, h3, h4, h5, h6, h7, h8⟩ := h
  exact ⟨rB, rC, rA, h2, h3, h1, h6, h4.symm, h5.symm, h7, fun b e => ⟨(h8 b e).2.1, (h8 b e).2.2, (h8 b e).1⟩⟩
theorem Trio.next (h : Trio w t ds tv gA BA sA vA kA gB BB sB vB kB gC BC sC vC kC) (hb : Below w.heap.size w w') : Trio w' t ds tv gA BA sA vA kA gB BB sB vB kB gC BC sC vC kC := by
  obtain ⟨rA, rB, rC, h1, h2, h3, h4, h5, h6, h7, h8⟩ := h
  exact ⟨rA, rB, rC, h1.below hb, h2.below hb, h3.below hb, h4, h5, h6, h7.nxt hb, h8⟩
theorem Trio.tbl (h : Trio w t ds tv gA BA sA vA kA gB BB sB vB kB gC BC sC vC kC) : Tbl w w.heap.size tv := by
  obtain ⟨rA, rB, rC, h1, h2, h3, h4, h5, h6, h7, h8⟩ := h
  exact h7
theorem Trio.first (h : Trio w t ds tv gA BA sA vA kA gB BB sB vB kB gC BC sC vC kC) : ∃ rA, Rng w gA BA sA vA rA (ksOf sA t ds kA) := by
  obtain ⟨rA, rB, rC, h1, h2, h3, h4, h5, h6, h7, h8⟩ := h
  exact ⟨rA, h1⟩
/-- the first of three rings turns -/
theorem trio_turn (h : Trio w t ds tv gA BA sA vA kA gB BB sB vB kB gC BC sC vC kC) (ht : t < 16) (hk : kA < 32) (hB : BA ≤ w.heap.size) (hl : sA.length ≤ 140737488355264) (hG : Glob w) :
    Calls Tryd.prog 24 #[.pointer (some ⟨gA, 0, none⟩), .int .i64 t, .int .u32 (n32 (ds.getD kA 0))] w fun e w' => e = .returned (.tuple #[.int .i64 kA, .int .i64 0]) ∧ Trio w' t ds tv gA BA sA vA (kA + 1) gB BB sB vB kB gC BC sC vC kC ∧ Below BA w w' := by
  obtain ⟨rA, rB, rC, h1, h2, h3, h4, h5, h6, h7, h8⟩ := h
  have hlen : (ksOf sA t ds kA t).length = kA := by rw [ksOf_self, keysOf_length]
  refine (turn_all gA BA sA vA rA (ksOf sA t ds kA) t ht (by rw [hlen]; exact hk) (ds.getD kA 0) w h1 hB hl hG).mono ?_
  rintro e w' ⟨rfl, ⟨v', hR, htn⟩, hb⟩
  rw [ksOf_turn] at hR
  refine ⟨by rw [hlen], ⟨rA.set t v', rB, rC, hR, htn.rng ht h2 h4, htn.rng ht h3 h5, htn.sep ht h1.len h2 h4, htn.sep ht h1.len h3 h5, h6, htn.tbl ht h7 (fun b e => (h8 b e).1), fun b e => ⟨?_, (h8 b e).2⟩⟩, hb⟩
  obtain ⟨b', e', hb', hB'⟩ := h7
  obtain rfl : b = b' := by rw [e] at e'; injection e' with e'; injection e' with e'; injection e'
  exact htn.away ht h1.len hb' (h8 b e).1
end
end Go.Proofs.YtbhmmoecoijojaaDoor
