/- Texts that stand behind one another: ListP, OwnX, OwnT, StP, AudM. No condition. -/
import Derived.Test.YtcdkadidkkbhpaaDoorS14
import Derived.Test.YtcdkadidkkbhpaaDoorS8
import Derived.Test.YtcdkadidkkbhpaaDoorS12
import Derived.Test.YtcdkadidkkbhpaaDoorS13
import Derived.Test.YtcdkadidkkbhpaaDoorS2
import Derived.MapKept
/- Lists of short texts. No condition. -/
namespace Go.Proofs.YtcdkadidkkbhpaaDoor
open Go Go.RowKit
attribute [local go_sem] n8_lo n8_hi n64_lo n64_hi n32_lo n32_hi
def elemL (c : UInt8) (i : Nat) : List UInt8 := [c, UInt8.ofNat i, UInt8.ofNat (i / 256)]
def listL (n : Nat) (c : UInt8) : List (List UInt8) := (List.range n).map (elemL c)
theorem listL_length (n : Nat) (c : UInt8) : (listL n c).length = n := by simp [listL]
theorem listL_at (n : Nat) (c : UInt8) (i : Nat) (h : i < n) : (listL n c).getD i [] = elemL c i := by
  unfold listL; rw [List.getD_eq_getElem?_getD, List.getElem?_map, List.getElem?_range h]; rfl
theorem listL_mem {n : Nat} {c : UInt8} {b : List UInt8} (h : b ∈ listL n c) : b.length = 3 := by
  unfold listL at h
  obtain ⟨i, _, rfl⟩ := List.mem_map.1 h; rfl
theorem byte_nat (k : Nat) : (k : Int) % 256 = n8 (UInt8.ofNat k) := by
  unfold n8; rw [UInt8.toNat_ofNat']; omega
/-- u is a slice that reads some bytes, all of a block -/
def Whole (w : World) (u : Value) (b : List UInt8) : Prop := ∃ g, u = .slice (some ⟨g, 0, none⟩) b.length b.length ∧ Blk w g 5 (b.map v8).toArray
theorem Whole.below {w w' : World} {u : Value} {b : List UInt8} (h : Whole w u b) (hb : Below w.heap.size w w') : Whole w' u b := by
  obtain ⟨g, e, h⟩ := h; exact ⟨g, e, h.below hb h.lt⟩
theorem Whole.grown {w w' : World} {u v : Value} {b : List UInt8} {base n : Nat} {xs : List Value} (h : Whole w u b) (hown : w.ownsRow base 23 1 v n xs) (hg : w.grownBy w' v.ownBlock) : Whole w' u b := by
  obtain ⟨g, e, h⟩ := h
  refine ⟨g, e, h.grown hg (fun e2 => ?_)⟩
  rcases hown.2 with ⟨rfl, _⟩ | ⟨g', cap, cur, rfl, _, hb, _⟩
  · cases e2
  · have e3 : g = g' := by injection e2
    subst e3
    unfold Blk at h
    rw [h] at hb
    injection hb with hb
    injection hb with _ hb
    exact absurd hb (by decide)
theorem Whole.bsl {w : World} {u : Value} {b : List UInt8} (h : Whole w u b) (hl : b.length ≤ 9223372036854775807) : BSl w w.heap.size u b := by
  obtain ⟨g, rfl, h⟩ := h
  refine ⟨_, _, rfl, Nat.le_refl _, hl, ?_⟩
  have := Reads.of_blk h h.lt 0
  simpa using this
theorem SSl.of_own {w : World} {base : Nat} {e : TypeId} {v : Value} {vs : List Value} {ls : List (List UInt8)} (h : w.ownsRow base e 1 v vs.length vs) (hl : vs.length = ls.length) (hel : ∀ i, i < ls.length → BSl w w.heap.size (vs.getD i undef) (ls.getD i [])) : SSl w w.heap.size v ls := by
  obtain ⟨A, cap, hv, h1, h2, hr⟩ := Reads.own h
  exact ⟨A, cap, vs, by rw [hv, hl], by omega, h2, hr, hl, hel⟩
end Go.Proofs.YtcdkadidkkbhpaaDoor

/- Rows in rows: texts of the call's own; the first texts of a list, in plain Lean. No condition. -/
namespace Go.Proofs.YtcdkadidkkbhpaaDoor
open Go Go.RowKit
attribute [local go_sem] n8_lo n8_hi n64_lo n64_hi n32_lo n32_hi
def fewL (ls : List (List UInt8)) (n m : Nat) : List (List UInt8) := (ls.take n).map (List.take m)
theorem fewL_length (ls : List (List UInt8)) (n m : Nat) : (fewL ls n m).length = min n ls.length := by simp [fewL]
theorem fewL_at (ls : List (List UInt8)) (n m i : Nat) (h : i < n) (h2 : i < ls.length) : (fewL ls n m).getD i [] = (ls.getD i []).take m := by
  unfold fewL
  rw [List.getD_eq_getElem?_getD, List.getD_eq_getElem?_getD, List.getElem?_map, List.getElem?_take, if_pos h, List.getElem?_eq_getElem h2]; rfl
theorem fewL_mem {ls : List (List UInt8)} {n m : Nat} {b : List UInt8} (h : b ∈ fewL ls n m) : b.length ≤ m := by
  unfold fewL at h
  obtain ⟨c, _, rfl⟩ := List.mem_map.1 h
  rw [List.length_take]; omega
/-- rows of different kinds are different blocks -/
theorem own_other {w : World} {b1 b2 s1 s2 n1 n2 : Nat} {e1 e2 : TypeId} {u v : Value} {xs ys : List Value} (he : e1 ≠ e2) (h1 : w.ownsRow b1 e1 s1 u n1 xs) (h2 : w.ownsRow b2 e2 s2 v n2 ys) : ∀ g, u.ownBlock = some g → v.ownBlock ≠ some g := by
  intro g hu hv
  rcases h1.2 with ⟨rfl, _⟩ | ⟨g1, c1, cur1, rfl, _, hb1, _⟩
  · cases hu
  · rcases h2.2 with ⟨rfl, _⟩ | ⟨g2, c2, cur2, rfl, _, hb2, _⟩
    · cases hv
    · have e1' : g1 = g := by injection hu
      have e2' : g2 = g := by injection hv
      subst e1'
      rw [e2', hb1] at hb2
      injection hb2 with hb2
      injection hb2 with _ hb2
      exact he hb2
/-- a list of texts of the call's own (from block B on), each text in a row of its own -/
structure Own2 (w : World) (B : Nat) (v : Value) (vs : List Value) (ls : List (List UInt8)) : Prop where
  len : vs.length = ls.length
  row : w.ownsRow B 23 1 v vs.length vs
  el : ∀ i, i < ls.length → w.ownsRow B 5 1 (vs.getD i undef) (ls.getD i []).length ((ls.getD i []).map v8)
theorem Own2.below {w w' : World} {B : Nat} {v : Value} {vs : List Value} {ls : List (List UInt8)} (h : Own2 w B v vs ls) (hb : Below w.heap.size w w') : Own2 w' B v vs ls :=
  ⟨h.len, own_below h.row hb, fun i hi => own_below (h.el i hi) hb⟩
theorem Own2.ssl {w : World} {B : Nat} {v : Value} {vs : List Value} {ls : List (List UInt8)} (h : Own2 w B v vs ls) : SSl w w.heap.size v ls :=
  SSl.of_own h.row h.len (fun i hi => BSl.of_own (h.el i hi))
theorem Own2.ones {w : World} {B : Nat} {v : Value} {vs : List Value} {ls : List (List UInt8)} (h : Own2 w B v vs ls) : ∀ u ∈ vs, u.oneCell' = true := by
  intro u hu
  obtain ⟨i, hi, rfl⟩ := List.mem_iff_getElem.1 hu
  have he := h.el i (by rw [← h.len]; exact hi)
  rw [List.getD_eq_getElem?_getD, List.getElem?_eq_getElem hi] at he
  rcases he.2 with ⟨e, _⟩ | ⟨g, cap, cur, e, _⟩
  · have : vs[i] = .slice none 0 0 := e
    rw [this]; rfl
  · have : vs[i] = .slice (some ⟨g, 0, none⟩) _ cap := e
    rw [this]; rfl
/-- one text of a list of the call's own is written over -/
theorem Own2.setAt {w : World} {B : Nat} {v : Value} {vs : List Value} {ls : List (List UInt8)} (h : Own2 w B v vs ls) (a : Nat) (ha : a < ls.length) :
    ∃ g cap cur, v = .slice (some ⟨g, 0, none⟩) ls.length cap ∧ B ≤ g ∧ ls.length ≤ cap ∧ Blk w g 23 cur ∧ a < cur.size ∧ ∀ (w' : World) (x : Value) (b : List UInt8), Blk w' g 23 (cur.setIfInBounds a x) → w.grownBy w' (some g) → BSl w' w'.heap.size x b → SSl w' w'.heap.size v (ls.set a b) := by
  have hlen := h.len
  rcases h.row.2 with ⟨_, h0⟩ | ⟨g, cap, cur, e, hB, hg, hnc, hcap, hsz, hcur⟩
  · have h0' : vs.length = 0 := h0
    omega
  · refine ⟨g, cap, cur, by rw [e, hlen], hB, by omega, hg, by omega, fun w' x b hb hgr hx => ?_⟩
    have hcl : cur.size = cap := by omega
    have hat : ∀ j, j < vs.length → cur[j]? = vs[j]? := fun j hj => by
      have : cur.toList.take vs.length = vs := by simpa using hcur
      rw [← this, List.getElem?_take, if_pos hj]; simp
    have hl : (ls.set a b).length = ls.length := List.length_set
    refine ⟨some ⟨g, 0, none⟩, cap, vs.set a x, by rw [e, hl, hlen], by rw [hl]; omega, by unfold maxLen at hcap; omega, fun _ => ⟨g, 0, rfl, hb.lt, fun j u hu => ?_⟩, by rw [List.length_set, hl]; exact hlen, fun i hi => ?_⟩
    · have hj : j < vs.length := by have := (List.getElem?_eq_some_iff.1 hu).1; rw [List.length_set] at this; exact this
      rw [Nat.zero_add, hb.cell, ← hu, Array.getElem?_setIfInBounds, List.getElem?_set]
      by_cases hja : a = j
      · subst hja; rw [if_pos rfl, if_pos rfl, if_pos (by omega), if_pos hj]
      · rw [if_neg hja, if_neg hja, hat j hj]
    · rw [hl] at hi
      rw [List.getD_eq_getElem?_getD, List.getD_eq_getElem?_getD, List.getElem?_set, List.getElem?_set]
      by_cases hia : a = i
      · subst hia; rw [if_pos rfl, if_pos rfl, if_pos (by omega), if_pos ha]; exact hx
      · rw [if_neg hia, if_neg hia, ← List.getD_eq_getElem?_getD, ← List.getD_eq_getElem?_getD]
        have he := h.el i hi
        have hgv : v.ownBlock = some g := by rw [e]; rfl
        exact BSl.of_own (own_grown he hgr (fun g2 h2 e2 => own_other (by decide) he h.row g2 h2 (by rw [hgv]; exact e2)))
theorem fewL_succ (ls : List (List UInt8)) (k m : Nat) (h : k < ls.length) : fewL ls (k + 1) m = fewL ls k m ++ [(ls.getD k []).take m] := by
  unfold fewL
  rw [List.take_succ_eq_append_getElem h, List.map_append, List.getD_eq_getElem?_getD, List.getElem?_eq_getElem h]; rfl
theorem Own2.snoc {w w' : World} {B : Nat} {v v' x : Value} {vs : List Value} {ls : List (List UInt8)} {b : List UInt8} (h : Own2 w B v vs ls) (he : w.ownsRow B 5 1 x b.length (b.map v8)) (hown : w'.ownsRow B 23 1 v' (vs ++ [x]).length (vs ++ [x])) (hg : w.grownBy w' v.ownBlock) : Own2 w' B v' (vs ++ [x]) (ls ++ [b]) := by
  refine ⟨by rw [List.length_append, List.length_append, h.len]; rfl, hown, fun i hi => ?_⟩
  have hlen := h.len
  by_cases hik : i < ls.length
  · have h1 := h.el i hik
    rw [List.getD_eq_getElem?_getD, List.getD_eq_getElem?_getD, List.getElem?_append_left (by omega), List.getElem?_append_left hik, ← List.getD_eq_getElem?_getD, ← List.getD_eq_getElem?_getD]
    exact own_grown h1 hg (fun g hb e => own_other (by decide) h1 h.row g hb e)
  · have hi2 : i = ls.length := by rw [List.length_append, List.length_singleton] at hi; omega
    subst hi2
    rw [List.getD_eq_getElem?_getD, List.getD_eq_getElem?_getD, List.getElem?_append_right (by omega), List.getElem?_append_right (Nat.le_refl _), hlen, Nat.sub_self]
    exact own_grown he hg (fun g hb e => own_other (by decide) he h.row g hb e)
theorem own_base {w : World} {b b' s n : Nat} {e : TypeId} {v : Value} {xs : List Value} (h : w.ownsRow b' e s v n xs) (hb : b ≤ b') : w.ownsRow b e s v n xs := by
  refine ⟨h.1, ?_⟩
  rcases h.2 with h0 | ⟨g', cap, cur, h1, h2, h3⟩
  · exact .inl h0
  · exact .inr ⟨g', cap, cur, h1, Nat.le_trans hb h2, h3⟩
theorem BSl.reads {w : World} {B n c : Nat} {A : Option Addr} {bs : List UInt8} (h : BSl w B (.slice A n c) bs) : Reads w B A (bs.map v8) := by
  obtain ⟨A', c', e, _, _, hr⟩ := h
  injection e with e
  subst e
  exact hr
end Go.Proofs.YtcdkadidkkbhpaaDoor

/- A row of the call's own stays when a block of another type is written. No condition. -/
namespace Go.Proofs.YtcdkadidkkbhpaaDoor
open Go Go.RowKit
variable {w w' : World}
theorem own_typed {base k : Nat} {e t : TypeId} {size n : Nat} {v : Value} {xs : List Value} {cs : Array Value} (h : w.ownsRow base e size v n xs) (hg : w.grownBy w' (some k)) (hk : Blk w k t cs) (ht : t ≠ e) : w'.ownsRow base e size v n xs := by
  refine own_grown h hg (fun q hq e2 => ?_)
  injection e2 with e2
  subst e2
  rcases h.2 with ⟨rfl, _⟩ | ⟨g', cap, cur, rfl, _, hh, _⟩
  · cases hq
  · cases hq
    have : some (Obj.cells _ _ _) = some (Obj.cells _ _ _) := hk.symm.trans hh
    injection this with this
    injection this with _ h3 _
    exact ht h3
theorem own_baseR {w : World} {b b' s n : Nat} {e : TypeId} {v : Value} {xs : List Value} (h : w.ownsRow b' e s v n xs) (hb : b ≤ b') : w.ownsRow b e s v n xs := by
  refine ⟨h.1, ?_⟩
  rcases h.2 with h0 | ⟨g', cap, cur, h1, h2, h3⟩
  · exact .inl h0
  · exact .inr ⟨g', cap, cur, h1, Nat.le_trans hb h2, h3⟩
end Go.Proofs.YtcdkadidkkbhpaaDoor

/- Chapter 19's states as plain data, and the values that read them. No condition. -/
namespace Go.Proofs.YtcdkadidkkbhpaaDoor
open Go Go.RowKit
/-- rows of cells, one behind the other -/
def flat (cs : List (Array Value)) : List Value := (cs.map Array.toList).flatten
theorem flat_nil : flat [] = [] := rfl
theorem flat_cons (c : Array Value) (cs : List (Array Value)) : flat (c :: cs) = c.toList ++ flat cs := by simp [flat]
theorem flat_append (a b : List (Array Value)) : flat (a ++ b) = flat a ++ flat b := by simp [flat]
theorem flat_len (sz : Nat) : ∀ (cs : List (Array Value)), (∀ c ∈ cs, c.size = sz) → (flat cs).length = cs.length * sz
  | [], _ => by simp [flat]
  | c :: cs, h => by
    have h1 := flat_len sz cs (fun x hx => h x (List.mem_cons_of_mem _ hx))
    have h2 : c.toList.length = sz := by rw [Array.length_toList]; exact h c List.mem_cons_self
    rw [flat_cons, List.length_append, h1, h2, List.length_cons, Nat.add_mul]; omega
theorem flat_at (sz : Nat) : ∀ (cs : List (Array Value)), (∀ c ∈ cs, c.size = sz) → ∀ (k : Nat), k < cs.length → ∀ j, j < sz → (flat cs)[k * sz + j]? = (cs.getD k #[])[j]?
  | [], _, k, hk, _, _ => by simp at hk
  | c :: cs, h, k, hk, j, hj => by
    have h2 : c.toList.length = sz := by rw [Array.length_toList]; exact h c List.mem_cons_self
    rw [flat_cons]
    cases k with
    | zero =>
      rw [List.getElem?_append_left (by omega), Nat.zero_mul, Nat.zero_add]
      simp
    | succ k =>
      rw [List.getElem?_append_right (by rw [h2, Nat.add_mul]; omega), h2, show (k + 1) * sz + j - sz = k * sz + j by rw [Nat.add_mul]; omega]
      rw [flat_at sz cs (fun x hx => h x (List.mem_cons_of_mem _ hx)) k (by simpa using hk) j hj]
      simp
/-- v is a slice of rows of sz cells each, below block B, that reads cs -/
def RX (w : World) (B sz : Nat) (v : Value) (cs : List (Array Value)) : Prop :=
  ∃ A cap, v = .slice A cs.length cap ∧ cs.length ≤ cap ∧ cap ≤ 9223372036854775807 ∧ (∀ c ∈ cs, c.size = sz) ∧ Reads w B A (flat cs)
section
variable {w w' : World} {B B' sz : Nat} {v : Value} {cs : List (Array Value)}
theorem RX.below (h : RX w B sz v cs) (hb : Below B w w') : RX w' B sz v cs := by
  obtain ⟨A, c, e, h1, h2, h3, h4⟩ := h
  exact ⟨A, c, e, h1, h2, h3, h4.below hb⟩
theorem RX.more (h : RX w B sz v cs) (hB : B ≤ B') : RX w B' sz v cs := by
  obtain ⟨A, c, e, h1, h2, h3, h4⟩ := h
  exact ⟨A, c, e, h1, h2, h3, h4.more hB⟩
theorem RX.next (h : RX w w.heap.size sz v cs) (hb : Below w.heap.size w w') : RX w' w'.heap.size sz v cs := (h.below hb).more hb.size
theorem RX.nil_ : RX w B sz (.slice none 0 0) [] := ⟨none, 0, rfl, Nat.le_refl _, by decide, (fun _ h => by cases h), Reads.nil_⟩
/-- one row of them -/
theorem RX.range {A : Option Addr} {n cap : Nat} (h : RX w B sz (.slice A n cap) cs) (h0 : 0 < sz) (k : Nat) (hk : k < cs.length) : ∃ g o, A = some ⟨g, o, none⟩ ∧ g < B ∧ w.rangeAt g (o + k * sz) (cs.getD k #[]).toList := by
  obtain ⟨A', c', e, _, _, hsz, hr⟩ := h
  injection e with e1 _ _
  subst e1
  have hl := flat_len sz cs hsz
  obtain ⟨g, o, e, hg, hc⟩ := hr (by rw [hl]; exact Nat.mul_pos (by omega) h0)
  refine ⟨g, o, e, hg, fun j u hj => ?_⟩
  have hm : cs.getD k #[] ∈ cs := by rw [List.getD_eq_getElem?_getD, List.getElem?_eq_getElem hk]; exact List.getElem_mem _
  have hj2 : j < sz := by
    have := (List.getElem?_eq_some_iff.1 hj).1
    rwa [Array.length_toList, hsz _ hm] at this
  rw [Nat.add_assoc]
  refine hc (k * sz + j) u ?_
  rw [flat_at sz cs hsz k hk j hj2, ← hj]
  simp
theorem RX.of_own {base : Nat} {e : TypeId} (hsz : ∀ c ∈ cs, c.size = sz) (h : w.ownsRow base e sz v cs.length (flat cs)) : RX w w.heap.size sz v cs := by
  rcases h.2 with ⟨rfl, h0⟩ | ⟨g, cap, cur, rfl, hB, hg, h1, h2, h3, h4⟩
  · have : cs = [] := List.length_eq_zero_iff.1 h0
    subst this
    exact RX.nil_
  · refine ⟨_, cap, rfl, h1, by unfold maxLen at h2; omega, hsz, fun _ => ⟨g, 0, rfl, Blk.lt (t := e) (cs := cur) hg, fun j u hj => ?_⟩⟩
    rw [Nat.zero_add, cell_of_row w g j cur e (0, 0) hg]
    rw [← h4, List.getElem?_take] at hj
    split at hj
    · rw [← hj]; simp
    · cases hj
end
/-- v is a slice of words that reads xs -/
def WSl (w : World) (B : Nat) (v : Value) (xs : List UInt32) : Prop := ∃ A cap, v = .slice A xs.length cap ∧ xs.length ≤ cap ∧ cap ≤ 9223372036854775807 ∧ Reads w B A (xs.map v32)
section
variable {w w' : World} {B B' : Nat} {v : Value} {xs : List UInt32}
theorem WSl.below (h : WSl w B v xs) (hb : Below B w w') : WSl w' B v xs := by
  obtain ⟨A, c, e, h1, h2, h3⟩ := h
  exact ⟨A, c, e, h1, h2, h3.below hb⟩
theorem WSl.more (h : WSl w B v xs) (hB : B ≤ B') : WSl w B' v xs := by
  obtain ⟨A, c, e, h1, h2, h3⟩ := h
  exact ⟨A, c, e, h1, h2, h3.more hB⟩
theorem WSl.next (h : WSl w w.heap.size v xs) (hb : Below w.heap.size w w') : WSl w' w'.heap.size v xs := (h.below hb).more hb.size
theorem WSl.nil_ : WSl w B (.slice none 0 0) [] := ⟨none, 0, rfl, Nat.le_refl _, by decide, Reads.nil_⟩
theorem WSl.of_own {base : Nat} {e : TypeId} {n : Nat} (h : w.ownsRow base e 1 v n (xs.map v32)) : WSl w w.heap.size v xs := by
  obtain ⟨A, c, e1, h1, h2, h3⟩ := Reads.own h
  have hn : n = xs.length := by have := h.1; rw [List.length_map] at this; omega
  subst hn
  exact ⟨A, c, e1, h1, h2, h3⟩
/-- one word of them -/
theorem WSl.cellAt {A : Option Addr} {n cap : Nat} (h : WSl w B (.slice A n cap) xs) (k : Nat) (hk : k < xs.length) : ∃ b off, A = some ⟨b, off, none⟩ ∧ b < B ∧ w.cell? ⟨b, off + k, none⟩ = some (v32 (xs.getD k 0)) := by
  obtain ⟨A', c', e, _, _, hr⟩ := h
  injection e with e1 _ _
  subst e1
  obtain ⟨b, off, e, hb, hc⟩ := hr (by rw [List.length_map]; omega)
  exact ⟨b, off, e, hb, hc k _ (by rw [List.getElem?_map, List.getElem?_eq_getElem hk, List.getD_eq_getElem?_getD, List.getElem?_eq_getElem hk]; rfl)⟩
end
/-- a tenant, a grant, a tree, a state -/
structure TenL where
  on : Bool
  rate : UInt32
  burst : UInt32
  tokens : UInt32
  store : UInt32
  used : UInt32
structure GraL where
  tenant : Int
  role : Int
  expires : UInt64
  revoked : Bool
structure TreL where
  state : Int
  tenant : Int
  weight : Int
  deficit : Int
  draws : List UInt32
  leaves : List (List UInt8)
  queue : List (List UInt8)
  head : HeadL
  tag : List UInt8
structure StaL where
  clock : UInt64
  draw : UInt32
  lane : Int
  tenants : List TenL
  trees : List TreL
  grants : List GraL
def i64ok (x : Int) : Prop := -9223372036854775808 ≤ x ∧ x ≤ 9223372036854775807
def GraL.ok (g : GraL) : Prop := i64ok g.tenant ∧ i64ok g.role
def TreL.ok (t : TreL) : Prop := i64ok t.state ∧ i64ok t.tenant ∧ i64ok t.weight ∧ i64ok t.deficit ∧ t.head.ok ∧ t.tag.length = 32 ∧ t.draws.length ≤ 1000000 ∧ t.leaves.length ≤ 1000000 ∧ t.queue.length ≤ 1000000 ∧ (∀ b ∈ t.leaves, b.length ≤ 1000000) ∧ (∀ b ∈ t.queue, b.length ≤ 1000000)
def StaL.ok (s : StaL) : Prop := i64ok s.lane ∧ s.tenants.length ≤ 1000 ∧ s.trees.length ≤ 1000 ∧ s.grants.length ≤ 1000 ∧ (∀ t ∈ s.trees, t.ok) ∧ ∀ g ∈ s.grants, g.ok
def zeroTen : TenL := ⟨false, 0, 0, 0, 0, 0⟩
def zeroTre : TreL := ⟨0, 0, 0, 0, [], [], [], ⟨0, 0, 0, 0, List.replicate 32 0⟩, List.replicate 32 0⟩
def tenC (t : TenL) : Array Value := #[.bool t.on, .int .u32 (n32 t.rate), .int .u32 (n32 t.burst), .int .u32 (n32 t.tokens), .int .u32 (n32 t.store), .int .u32 (n32 t.used)]
def graC (g : GraL) : Array Value := #[.int .i64 g.tenant, .int .i64 g.role, .int .u64 (n64 g.expires), .bool g.revoked]
def treC (t : TreL) (d l q : Value) : Array Value := #[.int .i64 t.state, .int .i64 t.tenant, .int .i64 t.weight, .int .i64 t.deficit, d, l, q] ++ sigC t.head t.tag
def staC (s : StaL) (t r g : Value) : Array Value := #[.int .u64 (n64 s.clock), .int .u32 (n32 s.draw), .int .i64 s.lane, t, r, g]
theorem tenC_size (t : TenL) : (tenC t).size = 6 := rfl
theorem graC_size (g : GraL) : (graC g).size = 4 := rfl
theorem treC_size (t : TreL) (d l q : Value) : (treC t d l q).size = 75 := by unfold treC; rw [Array.size_append, sigC_size]; rfl
theorem staC_size (s : StaL) (t r g : Value) : (staC s t r g).size = 6 := rfl
/-- a tree's cells -/
def Tre (w : World) (B : Nat) (c : Array Value) (t : TreL) : Prop := ∃ d l q, c = treC t d l q ∧ WSl w B d t.draws ∧ SSl w B l t.leaves ∧ SSl w B q t.queue
/-- a row of trees -/
def Trs (w : World) (B : Nat) (v : Value) (ts : List TreL) : Prop := ∃ cs, RX w B 75 v cs ∧ cs.length = ts.length ∧ ∀ k, k < ts.length → Tre w B (cs.getD k #[]) (ts.getD k zeroTre)
/-- a state's value -/
def Sta (w : World) (B : Nat) (v : Value) (s : StaL) : Prop := ∃ t r g, v = .agg (staC s t r g) ∧ RX w B 6 t (s.tenants.map tenC) ∧ Trs w B r s.trees ∧ RX w B 4 g (s.grants.map graC)
section
variable {w w' : World} {B B' : Nat} {v : Value}
theorem Tre.below {c : Array Value} {t : TreL} (h : Tre w B c t) (hb : Below B w w') : Tre w' B c t := by
  obtain ⟨d, l, q, e, h1, h2, h3⟩ := h
  exact ⟨d, l, q, e, h1.below hb, h2.below hb, h3.below hb⟩
theorem Tre.more {c : Array Value} {t : TreL} (h : Tre w B c t) (hB : B ≤ B') : Tre w B' c t := by
  obtain ⟨d, l, q, e, h1, h2, h3⟩ := h
  exact ⟨d, l, q, e, h1.more hB, h2.more hB, h3.more hB⟩
theorem Trs.below {ts : List TreL} (h : Trs w B v ts) (hb : Below B w w') : Trs w' B v ts := by
  obtain ⟨cs, h1, h2, h3⟩ := h
  exact ⟨cs, h1.below hb, h2, fun k hk => (h3 k hk).below hb⟩
theorem Trs.more {ts : List TreL} (h : Trs w B v ts) (hB : B ≤ B') : Trs w B' v ts := by
  obtain ⟨cs, h1, h2, h3⟩ := h
  exact ⟨cs, h1.more hB, h2, fun k hk => (h3 k hk).more hB⟩
theorem Sta.below {s : StaL} (h : Sta w B v s) (hb : Below B w w') : Sta w' B v s := by
  obtain ⟨t, r, g, e, h1, h2, h3⟩ := h
  exact ⟨t, r, g, e, h1.below hb, h2.below hb, h3.below hb⟩
theorem Sta.more {s : StaL} (h : Sta w B v s) (hB : B ≤ B') : Sta w B' v s := by
  obtain ⟨t, r, g, e, h1, h2, h3⟩ := h
  exact ⟨t, r, g, e, h1.more hB, h2.more hB, h3.more hB⟩
theorem Sta.next {s : StaL} (h : Sta w w.heap.size v s) (hb : Below w.heap.size w w') : Sta w' w'.heap.size v s := (h.below hb).more hb.size
/-- one tree of a row -/
theorem Trs.at_ {A : Option Addr} {n cap : Nat} {ts : List TreL} (h : Trs w B (.slice A n cap) ts) (k : Nat) (hk : k < ts.length) : ∃ g o d l q, A = some ⟨g, o, none⟩ ∧ g < B ∧ w.rangeAt g (o + k * 75) (treC (ts.getD k zeroTre) d l q).toList ∧ WSl w B d (ts.getD k zeroTre).draws ∧ SSl w B l (ts.getD k zeroTre).leaves ∧ SSl w B q (ts.getD k zeroTre).queue := by
  obtain ⟨cs, hr, hl, hh⟩ := h
  obtain ⟨g, o, e, hg, hra⟩ := hr.range (by decide) k (by omega)
  obtain ⟨d, l, q, e2, h1, h2, h3⟩ := hh k hk
  rw [e2] at hra
  exact ⟨g, o, d, l, q, e, hg, hra, h1, h2, h3⟩
theorem Trs.len {A : Option Addr} {n cap : Nat} {ts : List TreL} (h : Trs w B (.slice A n cap) ts) : n = ts.length ∧ ts.length ≤ cap ∧ cap ≤ 9223372036854775807 := by
  obtain ⟨cs, ⟨A', c', e, h1, h2, _⟩, hl, _⟩ := h
  injection e with e1 e2 e3
  subst e3
  exact ⟨by omega, by omega, h2⟩
theorem Trs.shape {ts : List TreL} (h : Trs w B v ts) : ∃ A cap, v = .slice A ts.length cap := by
  obtain ⟨cs, ⟨A', c', e, _⟩, hl, _⟩ := h
  exact ⟨A', c', by rw [e, hl]⟩
theorem RX.shape {sz : Nat} {cs : List (Array Value)} (h : RX w B sz v cs) : ∃ A cap, v = .slice A cs.length cap := by
  obtain ⟨A', c', e, _⟩ := h
  exact ⟨A', c', e⟩
theorem WSl.shape {xs : List UInt32} (h : WSl w B v xs) : ∃ A cap, v = .slice A xs.length cap := by
  obtain ⟨A', c', e, _⟩ := h
  exact ⟨A', c', e⟩
end
end Go.Proofs.YtcdkadidkkbhpaaDoor

/- The map of heads of audit's Watch: with no head, or tree 0's: look-up and store. No condition. -/
namespace Go.Proofs.YtcdkadidkkbhpaaDoor
open Go Go.RowKit
attribute [local irreducible] mixW
/-- the map's object: no head, or one, tree 0's -/
def hdsO : Option (HeadL × List UInt8) → Obj
  | none => .map #[] 0
  | some p => .map #[{ key := .int .i64 0, val := .agg (sigC p.1 p.2), born := 0 }] 1
/-- what a look-up of tree n answers -/
def hdsV (o : Option (HeadL × List UInt8)) (n : Int) : Option (HeadL × List UInt8) := if n = 0 then o else none
def sigV : Option (HeadL × List UInt8) → Value
  | none => .agg (sigC zeroHead [])
  | some p => .agg (sigC p.1 p.2)
def Hds (w : World) (m : Nat) (o : Option (HeadL × List UInt8)) : Prop := w.heap[m]? = some (hdsO o)
section
variable {w w' : World} {m : Nat} {o : Option (HeadL × List UInt8)}
theorem Hds.lt (h : Hds w m o) : m < w.heap.size := by
  rcases Nat.lt_or_ge m w.heap.size with h' | h'
  · exact h'
  · unfold Hds at h
    rw [Array.getElem?_eq_none h'] at h; cases h
theorem Hds.below (h : Hds w m o) (hb : Below w.heap.size w w') : Hds w' m o := (hb.block m h.lt).trans h
theorem getObjH (h : Hds w m o) : (getObj m).run Tryd.prog w = .ok (hdsO o) w := by
  unfold Hds at h
  cases o <;> (unfold hdsO at *; simp [getObj, Sem.run, h])
theorem setObjH (h : Hds w m o) (x : Obj) : (setObj m x).run Tryd.prog w = .ok () { w with heap := w.heap.setIfInBounds m x } := by
  unfold Hds at h
  cases o <;> (unfold hdsO at h; simp [setObj, Sem.run, h])
theorem checkKeyH (b : Bool) (n : Int) : (Instr.checkKey b 10000 3 (.int .i64 n)).run Tryd.prog w = .ok () w := by
  unfold Instr.checkKey
  simp [run_underlying Tryd.underlying3]
theorem findKeyH (n : Int) : (Instr.findKey 3 (.int .i64 n) (match hdsO o with | .map es _ => es.toList | _ => [])).run Tryd.prog w = .ok ((hdsV o n).map fun p => (0, .agg (sigC p.1 p.2))) w := by
  cases o with
  | none =>
    have h1 : hdsV none n = none := by unfold hdsV; split <;> rfl
    rw [h1]
    simp [Instr.findKey, run_underlying Tryd.underlying3, Instr.findNow, hdsO]
  | some p =>
    by_cases hn : n = 0
    · subst hn
      have h1 : hdsV (some p) 0 = some p := by unfold hdsV; rw [if_pos rfl]
      rw [h1]
      simp [Instr.findKey, run_underlying Tryd.underlying3, Instr.findNow, Instr.sameNow, hdsO]
    · have h1 : hdsV (some p) n = none := by unfold hdsV; rw [if_neg hn]
      have h2 : (n == 0) = false := by rw [beq_eq_false_iff_ne]; exact hn
      rw [h1]
      simp [Instr.findKey, run_underlying Tryd.underlying3, Instr.findNow, Instr.sameNow, hdsO, h2]
theorem Hds.put (h : Hds w m o) (p : HeadL × List UInt8) : Hds { w with heap := w.heap.setIfInBounds m (hdsO (some p)) } m (some p) := by
  unfold Hds
  simp [h.lt]
end
section
variable {w : World} {ops : Array Oper} {rest : List Oper} {o : Oper} {a : Act} {Q : Exit → Act → World → Prop}
end
end Go.Proofs.YtcdkadidkkbhpaaDoor
