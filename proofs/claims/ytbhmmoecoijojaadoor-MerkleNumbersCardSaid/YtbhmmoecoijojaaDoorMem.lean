/- Words for memory: blocks known whole, slices that read as lists. No condition. -/
import Derived.Test.YtbhmmoecoijojaaDoorBase
import Derived.Below
import Derived.Laws.OwnMore
import Derived.Deep.Draws
import Derived.Laws.Rows
namespace Go.Proofs.YtbhmmoecoijojaaDoor
open Go Go.RowKit
/-- Block g is just the cells cs of element type t, none frozen. -/
def Blk (w : World) (g : Nat) (t : TypeId) (cs : Array Value) : Prop := w.heap[g]? = some (.cells cs t (0, 0))
section
variable {w w' : World} {g : Nat} {t : TypeId} {cs : Array Value}
theorem Blk.lt (h : Blk w g t cs) : g < w.heap.size := by
  rcases Nat.lt_or_ge g w.heap.size with hlt | hge
  · exact hlt
  · unfold Blk at h; rw [Array.getElem?_eq_none hge] at h; cases h
theorem Blk.cell (h : Blk w g t cs) (i : Nat) : w.cell? ⟨g, i, none⟩ = cs[i]? := cell_of_row w g i cs t (0, 0) h
theorem Blk.frozen (h : Blk w g t cs) (i : Nat) : w.frozen? ⟨g, i, none⟩ = false := by
  unfold Blk at h
  simp [World.frozen?, h]
theorem Blk.new (w : World) (t : TypeId) (cs : Array Value) : Blk (w.alloc (.cells cs t)) w.heap.size t cs := heap_alloc_new w _
theorem Blk.drewN (h : Blk w g t cs) (n : Nat) : Blk (w.drewN n) g t cs := h
theorem Blk.drew (h : Blk w g t cs) : Blk w.drew g t cs := h
theorem Blk.alloc (h : Blk w g t cs) (o : Obj) : Blk (w.alloc o) g t cs := (Below.heap_alloc w o g h.lt).trans h
theorem Blk.set (h : Blk w g t cs) (i : Nat) (u : Value) : Blk (w.setCell ⟨g, i, none⟩ u) g t (cs.setIfInBounds i u) := by
  unfold Blk at h ⊢
  simp [World.setCell, Array.getElem?_modify, h]
theorem Blk.far (h : Blk w g t cs) {p : Addr} (hp : g ≠ p.block) (u : Value) : Blk (w.setCell p u) g t cs := (Below.heap_setCell w p u g hp).trans h
theorem Blk.below {B : Nat} (h : Blk w g t cs) (hb : Below B w w') (hg : g < B) : Blk w' g t cs := (hb.block g hg).trans h
theorem Blk.grown {row : Option Nat} (h : Blk w g t cs) (hb : w.grownBy w' row) (hg : some g ≠ row) : Blk w' g t cs := (hb.block g h.lt hg).trans h
end
theorem below_drewN {B : Nat} {a w : World} (h : Below B a w) (n : Nat) : Below B a (w.drewN n) := ⟨h.os, h.tape, h.output, h.size, h.block⟩
section
variable {a w w' : World} {row : Option Nat}
theorem Only.drewN (h : a.grownBy w row) (n : Nat) : a.grownBy (w.drewN n) row := ⟨h.os, h.tape, h.output, h.size, h.block⟩
theorem Only.alloc (h : a.grownBy w row) (o : Obj) : a.grownBy (w.alloc o) row :=
  ⟨h.os, h.tape, h.output, Nat.le_trans h.size (by simp), fun i hi hne => (Below.heap_alloc w o i (Nat.lt_of_lt_of_le hi h.size)).trans (h.block i hi hne)⟩
theorem Only.setCell {g : Nat} (h : a.grownBy w (some g)) {p : Addr} (hp : p.block = g ∨ a.heap.size ≤ p.block) (u : Value) : a.grownBy (w.setCell p u) (some g) :=
  ⟨h.os, h.tape, h.output, by simpa [World.setCell] using h.size, fun i hi hne => (Below.heap_setCell w p u i (by
    rintro rfl
    rcases hp with hp | hp
    · exact hne (by rw [hp])
    · omega)).trans (h.block i hi hne)⟩
theorem Only.of_below (h : Below a.heap.size a w) (row : Option Nat) : a.grownBy w row := ⟨h.os, h.tape, h.output, h.size, fun i hi _ => h.block i hi⟩
theorem Only.trans {g : Nat} (h : a.grownBy w (some g)) (h' : w.grownBy w' (some g)) : a.grownBy w' (some g) :=
  ⟨h'.os.trans h.os, h'.tape.trans h.tape, h'.output.trans h.output, Nat.le_trans h.size h'.size, fun i hi hne => (h'.block i (Nat.lt_of_lt_of_le hi h.size) hne).trans (h.block i hi hne)⟩
/-- What turned only a block of number B or more, and made new ones, keeps all below B. -/
theorem below_only {B g : Nat} (h : Below B a w) (h' : w.grownBy w' (some g)) (hg : B ≤ g) (hB : B ≤ w.heap.size) : Below B a w' :=
  ⟨h'.os.trans h.os, h'.tape.trans h.tape, h'.output.trans h.output, Nat.le_trans h.size h'.size, fun i hi => (h'.block i (by omega) (by simp; omega)).trans (h.block i hi)⟩
end
/-- A slice whose elements are one cell each: it reads as the list xs; below block B. -/
def Reads (w : World) (B : Nat) (A : Option Addr) (xs : List Value) : Prop :=
  0 < xs.length → ∃ b off, A = some ⟨b, off, none⟩ ∧ b < B ∧ ∀ j u, xs[j]? = some u → w.cell? ⟨b, off + j, none⟩ = some u
section
variable {w w' : World} {B B' : Nat} {A : Option Addr} {xs : List Value}
theorem Reads.nil_ : Reads w B A [] := fun h => absurd h (by simp)
theorem Reads.keep (h : Reads w B A xs) (hk : ∀ p : Addr, p.block < B → w'.cell? p = w.cell? p) : Reads w' B A xs := fun hx => by
  obtain ⟨b, off, e, hb, hc⟩ := h hx
  exact ⟨b, off, e, hb, fun j u hu => (hk _ hb).trans (hc j u hu)⟩
theorem Reads.more (h : Reads w B A xs) (hB : B ≤ B') : Reads w B' A xs := fun hx => by
  obtain ⟨b, off, e, hb, hc⟩ := h hx
  exact ⟨b, off, e, by omega, hc⟩
theorem Reads.below (h : Reads w B A xs) (hb : Below B w w') : Reads w' B A xs := h.keep fun _ hp => hb.cell hp
theorem Reads.drewN (h : Reads w B A xs) (k : Nat) : Reads (w.drewN k) B A xs := h
theorem Reads.alloc (h : Reads w B A xs) (hB : B ≤ w.heap.size) (o : Obj) : Reads (w.alloc o) B A xs := h.keep fun p hp => World.cell?_alloc_lt w o p (by omega)
theorem Reads.setCell (h : Reads w B A xs) {p : Addr} (hB : B ≤ p.block) (u : Value) : Reads (w.setCell p u) B A xs :=
  h.keep fun q hq => World.cell?_setCell_other w p q u (fun e => by subst e; omega)
theorem Reads.grown (h : Reads w B A xs) {row : Option Nat} (hg : w.grownBy w' row) (hB : B ≤ w.heap.size) (hr : ∀ g, row = some g → B ≤ g) : Reads w' B A xs :=
  h.keep fun p hp => World.cell?_of_block (hg.block p.block (by omega) (fun e => by have := hr _ e.symm; omega))
theorem Reads.grown' (h : Reads w B A xs) {g : Nat} (hg : w.grownBy w' (some g)) (hB : B ≤ w.heap.size) (hne : ∀ b off, A = some ⟨b, off, none⟩ → b ≠ g) : Reads w' B A xs := fun hx => by
  obtain ⟨b, off, e, hb, hc⟩ := h hx
  refine ⟨b, off, e, hb, fun j u hu => ?_⟩
  have hk := hg.block b (by omega) (fun e2 => hne b off e (by injection e2))
  exact (World.cell?_of_block (a := ⟨b, off + j, none⟩) hk).trans (hc j u hu)
/-- a cut, as the model makes it -/
theorem Reads.cut (h : Reads w B A xs) {k cap : Nat} (hk : k ≤ xs.length) (hc : xs.length ≤ cap) :
    Reads w B (if cap = k then A else A.map (·.add k)) (xs.drop k) := fun hx => by
  rw [List.length_drop] at hx
  obtain ⟨b, off, rfl, hb, hcell⟩ := h (by omega)
  rw [if_neg (by omega)]
  refine ⟨b, off + k, ?_, hb, fun j u hu => ?_⟩
  · simp only [Option.map_some, Addr.add]; split
    · rename_i h0; subst h0; rfl
    · rfl
  · rw [Nat.add_assoc]; exact hcell _ u (by rw [← hu, List.getElem?_drop])
theorem Reads.take (h : Reads w B A xs) (k : Nat) : Reads w B A (xs.take k) := fun hx => by
  rw [List.length_take] at hx
  obtain ⟨b, off, rfl, hb, hcell⟩ := h (by omega)
  refine ⟨b, off, rfl, hb, fun j u hu => hcell j u ?_⟩
  rw [List.getElem?_take] at hu
  split at hu
  · exact hu
  · cases hu
end
theorem Reads.of_blk {w : World} {g : Nat} {t : TypeId} {cs : Array Value} (h : Blk w g t cs) {B : Nat} (hB : g < B) (k : Nat) : Reads w B (some ⟨g, k, none⟩) (cs.toList.drop k) :=
  fun _ => ⟨g, k, rfl, hB, fun j u hu => by rw [h.cell, ← hu, List.getElem?_drop]; simp⟩
theorem list8 {α : Type} (l : List α) (h : l.length = 8) : ∃ a b c d e f g i, l = [a, b, c, d, e, f, g, i] :=
  match l, h with
  | [a, b, c, d, e, f, g, i], _ => ⟨a, b, c, d, e, f, g, i, rfl⟩
theorem Blk.set8 {w : World} {g : Nat} {t : TypeId} {cs : Array Value} (h : Blk w g t cs) (hs : cs.size = 8) (v0 v1 v2 v3 v4 v5 v6 v7 : Value) :
    Blk ((((((((w.setCell ⟨g, 0, none⟩ v0).setCell ⟨g, 1, none⟩ v1).setCell ⟨g, 2, none⟩ v2).setCell ⟨g, 3, none⟩ v3).setCell ⟨g, 4, none⟩ v4).setCell ⟨g, 5, none⟩ v5).setCell ⟨g, 6, none⟩ v6).setCell ⟨g, 7, none⟩ v7) g t #[v0, v1, v2, v3, v4, v5, v6, v7] := by
  have := (((((((h.set 0 v0).set 1 v1).set 2 v2).set 3 v3).set 4 v4).set 5 v5).set 6 v6).set 7 v7
  have e : (((((((cs.setIfInBounds 0 v0).setIfInBounds 1 v1).setIfInBounds 2 v2).setIfInBounds 3 v3).setIfInBounds 4 v4).setIfInBounds 5 v5).setIfInBounds 6 v6).setIfInBounds 7 v7 = #[v0, v1, v2, v3, v4, v5, v6, v7] := by
    clear this h
    obtain ⟨l⟩ := cs
    obtain ⟨a, b, c, d, e, f, g, i, rfl⟩ := list8 l hs
    simp only [List.setIfInBounds_toArray, List.set_cons_zero, List.set_cons_succ]
  rw [e] at this
  exact this
theorem below_set8 {w w' : World} {B g : Nat} (h : Below B w w') (hg : B ≤ g) (v0 v1 v2 v3 v4 v5 v6 v7 : Value) :
    Below B w ((((((((w'.setCell ⟨g, 0, none⟩ v0).setCell ⟨g, 1, none⟩ v1).setCell ⟨g, 2, none⟩ v2).setCell ⟨g, 3, none⟩ v3).setCell ⟨g, 4, none⟩ v4).setCell ⟨g, 5, none⟩ v5).setCell ⟨g, 6, none⟩ v6).setCell ⟨g, 7, none⟩ v7) :=
  (((((((h.setCell (p := ⟨g, _, none⟩) hg _).setCell (p := ⟨g, _, none⟩) hg _).setCell (p := ⟨g, _, none⟩) hg _).setCell (p := ⟨g, _, none⟩) hg _).setCell (p := ⟨g, _, none⟩) hg _).setCell (p := ⟨g, _, none⟩) hg _).setCell (p := ⟨g, _, none⟩) hg _).setCell (p := ⟨g, _, none⟩) hg _
theorem Blk.far8 {w : World} {b g : Nat} {t : TypeId} {cs : Array Value} (h : Blk w b t cs) (hg : b ≠ g) (v0 v1 v2 v3 v4 v5 v6 v7 : Value) :
    Blk ((((((((w.setCell ⟨g, 0, none⟩ v0).setCell ⟨g, 1, none⟩ v1).setCell ⟨g, 2, none⟩ v2).setCell ⟨g, 3, none⟩ v3).setCell ⟨g, 4, none⟩ v4).setCell ⟨g, 5, none⟩ v5).setCell ⟨g, 6, none⟩ v6).setCell ⟨g, 7, none⟩ v7) b t cs :=
  (((((((h.far (p := ⟨g, _, none⟩) hg _).far (p := ⟨g, _, none⟩) hg _).far (p := ⟨g, _, none⟩) hg _).far (p := ⟨g, _, none⟩) hg _).far (p := ⟨g, _, none⟩) hg _).far (p := ⟨g, _, none⟩) hg _).far (p := ⟨g, _, none⟩) hg _).far (p := ⟨g, _, none⟩) hg _
theorem Blk.new2 (w : World) (X : Obj) (t : TypeId) (cs : Array Value) : Blk ((w.alloc X).alloc (.cells cs t)) (w.heap.size + 1) t cs := by
  rw [show w.heap.size + 1 = (w.alloc X).heap.size by simp]; exact Blk.new _ _ _
theorem Blk.new3 (w : World) (X Y : Obj) (t : TypeId) (cs : Array Value) : Blk (((w.alloc X).alloc Y).alloc (.cells cs t)) (w.heap.size + 2) t cs := by
  rw [show w.heap.size + 2 = ((w.alloc X).alloc Y).heap.size by simp]; exact Blk.new _ _ _
theorem below_new1 (w : World) (X : Obj) : Below w.heap.size w (w.alloc X) := (Below.refl _ _).alloc (Nat.le_refl _) _
theorem below_new2 (w : World) (X Y : Obj) : Below w.heap.size w ((w.alloc X).alloc Y) := (below_new1 w X).alloc (by simp) _
theorem below_new3 (w : World) (X Y Z : Obj) : Below w.heap.size w (((w.alloc X).alloc Y).alloc Z) := (below_new2 w X Y).alloc (by simp; omega) _
theorem below_far {B : Nat} {w w' : World} (h : Below B w w') {p : Addr} (hp : B ≤ p.block) (u : Value) : Below B w (w'.setCell p u) := h.setCell hp u
end Go.Proofs.YtbhmmoecoijojaaDoor
