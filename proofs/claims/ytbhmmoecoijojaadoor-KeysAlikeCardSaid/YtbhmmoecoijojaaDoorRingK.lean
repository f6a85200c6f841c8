/- What stays when a ring turns. No condition. -/
import Derived.Test.YtbhmmoecoijojaaDoorRingR
namespace Go.Proofs.YtbhmmoecoijojaaDoor
open Go.RowKit
/-- block b is none of the ring's -/
structure Away (b g : Nat) (vs : Value) (rows : List Value) : Prop where
  ring : b ≠ g
  seed : vs.ownBlock ≠ some b
  row : ∀ i, i < 16 → (rows.getD i undef).ownBlock ≠ some b
/-- how a turn changes the world -/
structure Turned (w w' : World) (g t : Nat) (rows : List Value) (v' : Value) : Prop where
  ex : ∃ W2 W3, Below w.heap.size w W2 ∧ W2.grownBy W3 (rows.getD t undef).ownBlock ∧ W3.grownBy w' (some g) ∧ (v'.ownBlock = (rows.getD t undef).ownBlock ∨ v'.ownBlock = some W2.heap.size)
section
variable {w w' : World} {g B : Nat} {seed : List UInt8} {vs : Value} {rows : List Value} {ks : Nat → List (List UInt8)} {t b : Nat} {v' : Value}
theorem Rng.away (h : Rng w g B seed vs rows ks) (hb : w.heap.size ≤ b) : Away b g vs rows :=
  ⟨by have := h.blk.lt; omega, fun e => by have := own_lt h.seedOwn b e; omega, fun i hi e => by have := own_lt (h.own i hi) b e; omega⟩
theorem Turned.size (h : Turned w w' g t rows v') : w.heap.size ≤ w'.heap.size := by
  obtain ⟨W2, W3, h1, h2, h3, _⟩ := h
  exact Nat.le_trans h1.size (Nat.le_trans h2.size h3.size)
theorem Turned.blk {ty : TypeId} {cs : Array Value} (h : Turned w w' g t rows v') (ht : t < 16) (ha : Away b g vs rows) (hB : Blk w b ty cs) : Blk w' b ty cs := by
  obtain ⟨W2, W3, h1, h2, h3, _⟩ := h
  exact ((hB.below h1 hB.lt).grown h2 (fun e => ha.row t ht e.symm)).grown h3 (fun e => ha.ring (Option.some.inj e))
theorem Turned.away (h : Turned w w' g t rows v') (ht : t < 16) (hl : rows.length = 16) (hb : b < w.heap.size) (ha : Away b g vs rows) : Away b g vs (rows.set t v') := by
  obtain ⟨W2, W3, h1, h2, h3, h4⟩ := h
  refine ⟨ha.ring, ha.seed, fun i hi => ?_⟩
  rw [List.getD_eq_getElem?_getD, List.getElem?_set]
  by_cases he : t = i
  · subst he
    rw [if_pos rfl, if_pos (by omega)]
    show v'.ownBlock ≠ some b
    rcases h4 with e | e
    · rw [e]; exact ha.row t ht
    · rw [e]; intro e2; have := Option.some.inj e2; have := h1.size; omega
  · rw [if_neg he, ← List.getD_eq_getElem?_getD]; exact ha.row i hi
set_option maxRecDepth 100000 in
theorem turn_all (g B : Nat) (seed : List UInt8) (vs : Value) (rows : List Value) (ks : Nat → List (List UInt8)) (t : Nat) (ht : t < 16) (hk : (ks t).length < 32) (draw : UInt32) (w : World) (hR : Rng w g B seed vs rows ks) (hB : B ≤ w.heap.size) (hl : seed.length ≤ 140737488355264) (hG : Glob w) :
    Calls Tryd.prog 24 #[.pointer (some ⟨g, 0, none⟩), .int .i64 t, .int .u32 (n32 draw)] w fun e w' => e = .returned (.tuple #[.int .i64 (ks t).length, .int .i64 0]) ∧ (∃ v', Rng w' g B seed vs (rows.set t v') (fun j => if j = t then ks t ++ [keyL' seed t (ks t).length draw] else ks j) ∧ Turned w w' g t rows v') ∧ Below B w w' :=
  (turn_at g B seed vs rows ks t ht hk draw w hR hB hl hG).mono (fun _ _ ⟨h1, ⟨v', W2, W3, h2, h4⟩, h3⟩ => ⟨h1, ⟨v', h2, ⟨W2, W3, h4⟩⟩, h3⟩)
end
end Go.Proofs.YtbhmmoecoijojaaDoor
