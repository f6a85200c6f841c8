/- Texts that stand behind one another: OwnT, KrB. No condition. -/
import Derived.Test.YtfggbfnnibpohaaDoorR11
import Derived.Test.YtfggbfnnibpohaaDoorR16
import Derived.Test.YtfggbfnnibpohaaDoorR14
/- A row of the call's own stays when a block of another type is written. No condition. -/
namespace Go.Proofs.YtfggbfnnibpohaaDoor
open Go Go.RowKit
variable {w w' : World}
theorem own_typed {base k : Nat} {e t : TypeId} {size n : Nat} {v : Value} {xs : List Value} {cs : Array Value} (h : w.ownsRow base e size v n xs) (hg : w.grownBy w' (some k)) (hk : Blk w k t cs) (ht : t ≠ e) : w'.ownsRow base e size v n xs := by
  refine own_grown h hg (fun q hq e2 => ?_)
  injection e2 with e2
  subst e2
  rcases h.2 with ⟨rfl, _⟩ | ⟨g', cap, cur, rfl, _, hh, _⟩
  · cases hq
  · cases hq
    have : some (Obj.cells _ _ _) = some (Obj.cells _ _ _) := hk.symm.trans hh
    injection this with this
    injection this with _ h3 _
    exact ht h3
theorem own_baseR {w : World} {b b' s n : Nat} {e : TypeId} {v : Value} {xs : List Value} (h : w.ownsRow b' e s v n xs) (hb : b ≤ b') : w.ownsRow b e s v n xs := by
  refine ⟨h.1, ?_⟩
  rcases h.2 with h0 | ⟨g', cap, cur, h1, h2, h3⟩
  · exact .inl h0
  · exact .inr ⟨g', cap, cur, h1, Nat.le_trans hb h2, h3⟩
end Go.Proofs.YtfggbfnnibpohaaDoor

/- Sixteen rows of numbers in a block, beside a ring; the walk of law11's holds. No condition. -/
namespace Go.Proofs.YtfggbfnnibpohaaDoor
open Go Go.RowKit
attribute [local irreducible] mixW
attribute [local go_sem] n8_lo n8_hi n64_lo n64_hi n32_lo n32_hi
/-- sixteen rows of numbers, in block gd -/
structure Drw (w : World) (B gd : Nat) (rows : List Value) (ds : Nat → List UInt32) : Prop where
  len : rows.length = 16
  base : B ≤ gd
  blk : Blk w gd 30 rows.toArray
  own : ∀ i, i < 16 → w.ownsRow B 32 1 (rows.getD i undef) (ds i).length ((ds i).map v32)
  apart : ∀ i j, i < 16 → j < 16 → i ≠ j → Apart (rows.getD i undef) (rows.getD j undef)
section
variable {w w' : World} {B gd : Nat} {rows : List Value} {ds : Nat → List UInt32}
theorem Drw.below (h : Drw w B gd rows ds) (hb : Below w.heap.size w w') : Drw w' B gd rows ds :=
  ⟨h.len, h.base, h.blk.below hb h.blk.lt, fun i hi => own_below (h.own i hi) hb, h.apart⟩
theorem Drw.row (h : Drw w B gd rows ds) (i : Nat) (hi : i < 16) : w.cell? ⟨gd, i, none⟩ = some (rows.getD i undef) := by
  rw [h.blk.cell]
  have := h.len
  simp [List.getD_eq_getElem?_getD, List.getElem?_eq_getElem (show i < rows.length by omega)]
theorem Drw.rowLen (h : Drw w B gd rows ds) (i : Nat) (hi : i < 16) : ∃ A c, rows.getD i undef = .slice A (ds i).length c := own_slice (h.own i hi)
/-- a block of another kind is written -/
theorem Drw.other {k : Nat} {t : TypeId} {cs : Array Value} (h : Drw w B gd rows ds) (hg : w.grownBy w' (some k)) (hk : Blk w k t cs) (h1 : t ≠ 30) (h2 : t ≠ 32) : Drw w' B gd rows ds := by
  refine ⟨h.len, h.base, h.blk.grown hg (fun e => ?_), fun i hi => own_typed (h.own i hi) hg hk h2, h.apart⟩
  injection e with e
  subst e
  have : some (Obj.cells _ _ _) = some (Obj.cells _ _ _) := hk.symm.trans h.blk
  injection this with this
  injection this with _ h3 _
  exact h1 h3
/-- a row got one more number, and the cell has the new row -/
theorem Drw.turn {w1 w2 : World} {v' : Value} (h : Drw w B gd rows ds) (i : Nat) (hi : i < 16) (d : UInt32) (hown : w1.ownsRow B 32 1 v' (ds i ++ [d]).length ((ds i ++ [d]).map v32)) (hg1 : w.grownBy w1 (rows.getD i undef).ownBlock)
    (hat : v'.ownBlock = (rows.getD i undef).ownBlock ∨ v'.ownBlock = some w.heap.size) (hblk : Blk w2 gd 30 (rows.toArray.setIfInBounds i v')) (hg2 : w1.grownBy w2 (some gd)) :
    Drw w2 B gd (rows.set i v') (fun j => if j = i then ds i ++ [d] else ds j) := by
  have hl := h.len
  have hb1 : Blk w1 gd 30 rows.toArray := h.blk.grown hg1 (fun e => own_ne h.blk (h.own i hi) (by decide) e.symm)
  have hget : ∀ j, j < 16 → (rows.set i v').getD j undef = if j = i then v' else rows.getD j undef := fun j hj => by
    rw [List.getD_eq_getElem?_getD, List.getElem?_set, List.getD_eq_getElem?_getD]
    by_cases e : i = j
    · subst e; rw [if_pos rfl, if_pos (by omega), if_pos rfl]; rfl
    · rw [if_neg e, if_neg (fun e2 => e e2.symm)]
  have hap : ∀ j, j < 16 → j ≠ i → Apart v' (rows.getD j undef) := fun j hj hji q hq => by
    rcases hat with e | e
    · exact h.apart i j hi hj (fun e => hji e.symm) q (e ▸ hq)
    · rw [e] at hq
      injection hq with hq
      intro e2
      have := own_lt (h.own j hj) q e2
      omega
  refine ⟨by simp [hl], h.base, ?_, fun j hj => ?_, fun j k hj hk hjk => ?_⟩
  · have e : rows.toArray.setIfInBounds i v' = (rows.set i v').toArray := by simp
    rw [← e]; exact hblk
  · rw [hget j hj]
    by_cases e : j = i
    · rw [if_pos e]; simp only [if_pos e]
      exact own_typed hown hg2 hb1 (by decide)
    · rw [if_neg e]; simp only [if_neg e]
      exact own_typed (own_grown (h.own j hj) hg1 (fun q hq e2 => h.apart i j hi hj (fun e3 => e e3.symm) q e2 hq)) hg2 hb1 (by decide)
  · rw [hget j hj, hget k hk]
    by_cases e : j = i
    · rw [if_pos e, if_neg (fun e2 => hjk (e.trans e2.symm))]
      exact hap k hk (fun e2 => hjk (e.trans e2.symm))
    · rw [if_neg e]
      by_cases e2 : k = i
      · rw [if_pos e2]
        exact fun q hq hq2 => hap j hj e q hq2 hq
      · rw [if_neg e2]; exact h.apart j k hj hk hjk
end
theorem own_neq {w : World} {b1 b2 s1 s2 n1 n2 : Nat} {e1 e2 : TypeId} {u v : Value} {xs ys : List Value} (he : e1 ≠ e2) (h1 : w.ownsRow b1 e1 s1 u n1 xs) (h2 : w.ownsRow b2 e2 s2 v n2 ys) : ∀ g, u.ownBlock = some g → v.ownBlock ≠ some g := by
  intro g hu hv
  rcases h1.2 with ⟨rfl, _⟩ | ⟨g1, c1, cur1, rfl, _, hb1, _⟩
  · cases hu
  · rcases h2.2 with ⟨rfl, _⟩ | ⟨g2, c2, cur2, rfl, _, hb2, _⟩
    · cases hv
    · have e1' : g1 = g := by injection hu
      have e2' : g2 = g := by injection hv
      subst e1'
      rw [e2', hb1] at hb2
      injection hb2 with hb2
      injection hb2 with _ hb2
      exact he hb2
section
variable {w w' : World} {B B' gd g t : Nat} {rows rr : List Value} {ds : Nat → List UInt32} {seed : List UInt8} {vs v' : Value} {ks : Nat → List (List UInt8)}
/-- a block of a kind that no ring has -/
theorem Rng.awayT {k : Nat} {ty : TypeId} {cs : Array Value} (h : Rng w g B seed vs rr ks) (hk : Blk w k ty cs) (h1 : ty ≠ 134) (h2 : ty ≠ 5) (h3 : ty ≠ 35) : Away k g vs rr := by
  refine ⟨fun e => ?_, fun e => own_ne hk h.seedOwn h2 e, fun i hi e => own_ne hk (h.own i hi) h3 e⟩
  subst e
  have : some (Obj.cells _ _ _) = some (Obj.cells _ _ _) := hk.symm.trans h.blk
  injection this with this
  injection this with _ h4 _
  exact h1 h4
theorem Rng.awayO {base s n : Nat} {ty : TypeId} {v : Value} {xs : List Value} (h : Rng w g B seed vs rr ks) (hv : w.ownsRow base ty s v n xs) (h1 : ty ≠ 134) (h2 : ty ≠ 5) (h3 : ty ≠ 35) : ∀ b, v.ownBlock = some b → Away b g vs rr := by
  intro b hb
  rcases hv.2 with ⟨rfl, _⟩ | ⟨k, c, cur, rfl, _, hh, _⟩
  · cases hb
  · have : k = b := by injection hb
    subst this
    exact h.awayT (show Blk w k ty cur from hh) h1 h2 h3
/-- the ring turns: the rows stay -/
theorem Turned.drw (h : Turned w w' g t rr v') (ht : t < 16) (hR : Rng w g B seed vs rr ks) (hD : Drw w B' gd rows ds) : Drw w' B' gd rows ds :=
  ⟨hD.len, hD.base, h.blk ht (hR.awayT hD.blk (by decide) (by decide) (by decide)) hD.blk, fun i hi => h.own ht (hD.own i hi) (hR.awayO (hD.own i hi) (by decide) (by decide) (by decide)), hD.apart⟩
end
end Go.Proofs.YtfggbfnnibpohaaDoor
