/- Texts that stand behind one another: CmpT, BookP. No condition. -/
import Derived.Test.YtkogehkmldbhgaaDoorP19
import Derived.Test.YtkogehkmldbhgaaDoorP12
import Derived.Maps.AppendAt
/- What Add, Merge and Root tell: few hashes, each of 32 bytes. No condition. -/
namespace Go.Proofs.YtkogehkmldbhgaaDoor
open Go Go.RowKit
theorem joinM_ok (c a m e : Nat) (x y : List (List UInt8)) (hall : ∀ d ∈ x ++ y, d.length = 32) (hx : x.length ≤ 1000) (hy : y.length ≤ 1000) : (∀ d ∈ joinM c a m e x y, d.length = 32) ∧ (joinM c a m e x y).length ≤ 2000 := by
  have hT : ∀ q ∈ joinT a m e x y, q.2.length = 32 := fun q hq => by
    unfold joinT at hq
    rcases List.mem_append.1 hq with h | h
    · exact hall _ (List.mem_append_left _ (List.of_mem_zip (show (q.1, q.2) ∈ _ from h)).2)
    · exact hall _ (List.mem_append_right _ (List.of_mem_zip (show (q.1, q.2) ∈ _ from h)).2)
  have hl : (joinT a m e x y).length ≤ 2000 := by
    unfold joinT
    rw [List.length_append, List.length_zip, List.length_zip]
    omega
  constructor
  · intro d hd
    unfold joinM at hd
    obtain ⟨q, hq, rfl⟩ := List.mem_map.1 hd
    exact joinF_mem (nd := nodeM c) (fun _ _ => nodeM_length _ _ _) _ (fun _ h => by cases h) hT q (List.mem_reverse.1 hq)
  · unfold joinM
    rw [List.length_map, List.length_reverse]
    have := joinF_length (nd := nodeM c) (joinT a m e x y) (st := []) (p := a)
    simp at this
    omega
theorem addV_ok (c b e : Nat) (h : List (List UInt8)) (d : List UInt8) (hall : ∀ q ∈ h, q.length = 32) (hd : d.length = 32) (hl : h.length ≤ 1000) : (∀ q ∈ (addV c b e h d).hs, q.length = 32) ∧ (addV c b e h d).hs.length ≤ 2000 := by
  unfold addV
  split
  · exact ⟨(fun _ h => by cases h), by simp⟩
  · split
    · exact ⟨(fun _ h => by cases h), by simp⟩
    · refine joinM_ok c b e (e + 1) h [d] (fun q hq => ?_) hl (by simp)
      rcases List.mem_append.1 hq with h | h
      · exact hall q h
      · rw [List.mem_singleton.1 h]; exact hd
theorem mergeV_ok (c b1 e1 : Nat) (h1 : List (List UInt8)) (b2 e2 : Nat) (h2 : List (List UInt8)) (hall : ∀ q ∈ h1 ++ h2, q.length = 32) (hl1 : h1.length ≤ 1000) (hl2 : h2.length ≤ 1000) : (∀ q ∈ (mergeV c b1 e1 h1 b2 e2 h2).hs, q.length = 32) ∧ (mergeV c b1 e1 h1 b2 e2 h2).hs.length ≤ 2000 := by
  unfold mergeV
  split
  · exact ⟨(fun _ h => by cases h), by simp⟩
  · split
    · exact ⟨(fun _ h => by cases h), by simp⟩
    · split
      · exact ⟨(fun _ h => by cases h), by simp⟩
      · exact joinM_ok c b1 e1 e2 h1 h2 hall hl1 hl2
theorem rootV_ok (c b e : Nat) (h : List (List UInt8)) (hall : ∀ q ∈ h, q.length = 32) : (rootV c b e h).1.length = 32 := by
  unfold rootV
  split
  · exact zeroD_len
  · split
    · exact zeroD_len
    · exact foldM_length c h hall
end Go.Proofs.YtkogehkmldbhgaaDoor

/- Rows of the call's own that are cut from below and appended to; frames by the types of blocks. No condition. -/
namespace Go.Proofs.YtkogehkmldbhgaaDoor
open Go Go.RowKit
theorem own_baseP {w : World} {b b' s n : Nat} {e : TypeId} {v : Value} {xs : List Value} (h : w.ownsRow b' e s v n xs) (hb : b ≤ b') : w.ownsRow b e s v n xs := by
  refine ⟨h.1, ?_⟩
  rcases h.2 with h0 | ⟨g', cap, cur, h1, h2, h3⟩
  · exact .inl h0
  · exact .inr ⟨g', cap, cur, h1, Nat.le_trans hb h2, h3⟩
/-- a row of the call's own (one cell an element), cut from below -/
def Sli (w : World) (B : Nat) (t : TypeId) (v : Value) (vs : List Value) : Prop :=
  (v = .slice none 0 0 ∧ vs = []) ∨ ∃ g off cap cur, v = .slice (some ⟨g, off, none⟩) vs.length cap ∧ B ≤ g ∧ w.heap[g]? = some (.cells cur t (0, 0)) ∧ vs.length ≤ cap ∧ cap ≤ maxLen ∧ off + cap = cur.size ∧ (cur.toList.drop off).take vs.length = vs
section
variable {w w' : World} {B : Nat} {t : TypeId} {v : Value} {vs : List Value}
theorem Sli.nil_ : Sli w B t (.slice none 0 0) [] := .inl ⟨rfl, rfl⟩
theorem Sli.keep (h : Sli w B t v vs) (hk : ∀ g, v.ownBlock = some g → w'.heap[g]? = w.heap[g]?) : Sli w' B t v vs := by
  rcases h with h | ⟨g, off, cap, cur, rfl, hb, hg, hr⟩
  · exact .inl h
  · exact .inr ⟨g, off, cap, cur, rfl, hb, (hk g rfl).trans hg, hr⟩
theorem Sli.lt (h : Sli w B t v vs) : ∀ g, v.ownBlock = some g → B ≤ g ∧ g < w.heap.size := by
  intro g hg
  rcases h with ⟨rfl, _⟩ | ⟨g', off, cap, cur, rfl, hb, hh, _⟩
  · cases hg
  · cases hg; exact ⟨hb, Blk.lt (show Blk w g' t cur from hh)⟩
theorem Sli.below (h : Sli w B t v vs) (hb : Below w.heap.size w w') : Sli w' B t v vs := h.keep fun g hg => hb.block g (h.lt g hg).2
theorem Sli.form (h : Sli w B t v vs) : ∃ A c, v = .slice A vs.length c ∧ vs.length ≤ c ∧ c ≤ 9223372036854775807 := by
  rcases h with ⟨rfl, rfl⟩ | ⟨g, off, cap, cur, rfl, hb, hg, h1, h2, _⟩
  · exact ⟨none, 0, rfl, Nat.le_refl _, by decide⟩
  · exact ⟨_, cap, rfl, h1, by unfold maxLen at h2; omega⟩
theorem Sli.form1 {x : Value} (h : Sli w B t v (vs ++ [x])) : ∃ A c, v = .slice A (vs.length + 1) c ∧ vs.length + 1 ≤ c ∧ c ≤ 9223372036854775807 := by
  obtain ⟨A, c, h1, h2, h3⟩ := h.form
  rw [List.length_append, List.length_cons, List.length_nil] at h1 h2
  exact ⟨A, c, h1, h2, h3⟩
theorem Sli.type (h : Sli w B t v vs) : ∀ g, v.ownBlock = some g → ∃ cs, w.heap[g]? = some (.cells cs t (0, 0)) := by
  intro g hg
  rcases h with ⟨rfl, _⟩ | ⟨g', off, cap, cur, rfl, hb, hh, _⟩
  · cases hg
  · cases hg; exact ⟨cur, hh⟩
theorem Sli.cell {A : Option Addr} {n c : Nat} (h : Sli w B t (.slice A n c) vs) (k : Nat) (u : Value) (hk : vs[k]? = some u) : ∃ g off, A = some ⟨g, off, none⟩ ∧ B ≤ g ∧ g < w.heap.size ∧ ∀ j x, vs[j]? = some x → w.cell? ⟨g, off + j, none⟩ = some x := by
  rcases h with ⟨_, rfl⟩ | ⟨g, off, cap, cur, hv, hb, hg, hl, hm, hs, ht⟩
  · simp at hk
  · injection hv with hv _ _
    refine ⟨g, off, hv, hb, Blk.lt (show Blk w g t cur from hg), fun j x hj => ?_⟩
    have hjl := (List.getElem?_eq_some_iff.1 hj).1
    rw [cell_of_row w g (off + j) cur t (0, 0) hg, ← hj, ← ht, List.getElem?_take, if_pos hjl, List.getElem?_drop]
    simp
/-- x[1:] -/
theorem Sli.tail {A : Option Addr} {n c : Nat} {x y : Value} {r : List Value} (h : Sli w B t (.slice A n c) (x :: y :: r)) : Sli w B t (.slice (if c = 1 then A else A.map (·.add 1)) (r.length + 1) (c - 1)) (y :: r) ∧ n = r.length + 2 ∧ r.length + 2 ≤ c := by
  rcases h with ⟨_, h⟩ | ⟨g, off, cap, cur, hv, hb, hg, hl, hm, hs, ht⟩
  · cases h
  · injection hv with h1 h2 h3
    subst h1; subst h3
    simp only [List.length_cons] at hl h2
    refine ⟨.inr ⟨g, off + 1, c - 1, cur, ?_, hb, hg, by simp only [List.length_cons]; omega, by omega, by omega, ?_⟩, by omega, by omega⟩
    · rw [if_neg (by omega)]; rfl
    · have h4 : (cur.toList.drop (off + 1)).take (r.length + 1) = (((cur.toList.drop off).take (r.length + 2)).drop 1) := by
        rw [List.drop_take, List.drop_drop]; rfl
      simp only [List.length_cons] at ht ⊢
      rw [h4, ht]; rfl
end
section
variable {P : Program} (w : World)
theorem run_append_room_off (t ty e : TypeId) (i : TypeInfo) (ht : P.underlying t = some (.slice e)) (hi : P.info? e = some i) (hsz : i.size = 1)
    (g off sLen sCap : Nat) (cur : Array Value) (hg : w.heap[g]? = some (.cells cur e (0, 0)))
    (a : Addr) (c : Nat) (u : Value) (hu : w.cell? a = some u) (h1 : u.oneCell' = true) (hroom : sLen + 1 ≤ sCap) (hfit : off + sLen + 1 ≤ cur.size) :
    (Builtin.append_ #[t, t] ty #[.slice (some ⟨g, off, none⟩) sLen sCap, .slice (some a) 1 c]).run P w =
      .ok (.slice (some ⟨g, off, none⟩) (sLen + 1) sCap) (w.setRow g (cur.toList.take (off + sLen) ++ [u] ++ cur.toList.drop (off + sLen + 1)).toArray) := by
  have hnews : ∀ j x, [u][j]? = some x → w.cell? (a.add j) = some x := by
    intro j x hj
    match j, hj with
    | 0, hj => simp at hj; subst hj; simpa [Addr.add] using hu
  have hf := run_firstCells_some (P := P) w i.size 1 a 1 c [u] (by simp [hsz]) hnews
  have hst := run_storeCells_at P g (off + sLen) e [u] 0 cur w hg (by simpa using hfit) (by simpa using h1)
  simp only [Nat.add_zero] at hst
  have ha : (⟨g, off, none⟩ : Addr).add (sLen * i.size) = ⟨g, off + sLen, none⟩ := by
    rw [hsz, Nat.mul_one]
    unfold Addr.add; split
    · rename_i e; subst e; rfl
    · rfl
  simp [Builtin.append_, run_underlying ht, sizeOf, typeInfo, hi, Builtin.lenOf, hroom, hf, ha, hst]
theorem run_append_sli (B : Nat) (t ty e : TypeId) (i : TypeInfo) (z : Value) (bytes : Nat) (ht : P.underlying t = some (.slice e)) (hi : P.info? e = some i) (hz : i.zero = some z)
    (hsize : i.size = 1) (hby : i.bytes = bytes) (hzs : z.cells.size = 1) (v : Value) (vs : List Value) (hS : Sli w B e v vs)
    (a : Addr) (c : Nat) (u : Value) (hu : w.cell? a = some u) (h1 : u.oneCell' = true) (hb : (vs.length + 1) * bytes ≤ 140737488355328) (hn : vs.length + 1 ≤ 9223372036854775807) (hB : B ≤ w.heap.size) :
    ∃ v' w', (Builtin.append_ #[t, t] ty #[v, .slice (some a) 1 c]).run P w = .ok v' w' ∧ Sli w' B e v' (vs ++ [u]) ∧ w.grownBy w' v.ownBlock ∧ (v'.ownBlock = v.ownBlock ∨ v'.ownBlock = some w.heap.size) := by
  subst hby
  have hnews : ∀ j x, [u][j]? = some x → w.cell? (a.add j) = some x := by
    intro j x hj
    match j, hj with
    | 0, hj => simp at hj; subst hj; simpa [Addr.add] using hu
  have grown : ∀ (old : Nat), old < vs.length + 1 → ∀ (row : Option Nat),
      Sli (w.drew.alloc (.cells (vs.toArray ++ [u].toArray ++ Builtin.zeroCells z.cells (grownCap w (vs.length + 1) old e - (vs.length + 1))) e)) B e (.slice (some ⟨w.heap.size, 0, none⟩) (vs.length + 1) (grownCap w (vs.length + 1) old e)) (vs ++ [u]) ∧
      w.grownBy (w.drew.alloc (.cells (vs.toArray ++ [u].toArray ++ Builtin.zeroCells z.cells (grownCap w (vs.length + 1) old e - (vs.length + 1))) e)) row := by
    intro old ho row
    have hge := grownCap_ge w (vs.length + 1) old e
    have hcm : grownCap w (vs.length + 1) old e ≤ maxLen := grownCap_le_maxLen w (vs.length + 1) old e (by unfold maxLen; omega)
    refine ⟨.inr ⟨w.heap.size, 0, _, _, by rw [List.length_append]; rfl, hB, heap_alloc_new w.drew _, by rw [List.length_append]; exact hge, hcm, ?_, ?_⟩, ⟨rfl, rfl, rfl, by simp, fun k hk _ => Below.heap_alloc w.drew _ k hk⟩⟩
    · simp only [Array.size_append, List.size_toArray, size_zeroCells, hzs, List.length_cons, List.length_nil]
      omega
    · simp only [Array.toList_append, List.append_assoc, List.drop_zero]
      rw [← List.append_assoc]
      exact List.take_left
  rcases hS with ⟨rfl, rfl⟩ | ⟨g, off, cap, cur, rfl, hbg, hg, hnc, hcm, hcs, htake⟩
  · have hr := run_append_nil (P := P) w t ty e i z ht hi hz a 1 c [u] (by simp [hsize]) hnews (by decide) (by decide) (by simp at hb ⊢; omega)
    have hgr := grown 0 (by simp) (Value.ownBlock (.slice none 0 0))
    simp only [List.length_nil, Nat.zero_add, List.nil_append, Array.empty_append] at hgr ⊢
    exact ⟨_, _, hr, hgr.1, hgr.2, .inr rfl⟩
  · by_cases hroom : vs.length + 1 ≤ cap
    · have hr := run_append_room_off (P := P) w t ty e i ht hi hsize g off vs.length cap cur hg a c u hu h1 hroom (by omega)
      refine ⟨_, _, hr, .inr ⟨g, off, cap, _, by rw [List.length_append]; rfl, hbg, setRow_heap w g cur _ e _ hg, by rw [List.length_append]; exact hroom, hcm, ?_, ?_⟩, only_setRow w g _, .inl rfl⟩
      · simp only [List.size_toArray, List.length_append, List.length_take, List.length_drop, Array.length_toList, List.length_cons, List.length_nil]
        omega
      · have hcl : cur.toList.length = cur.size := Array.length_toList
        have hl : (cur.toList.take (off + vs.length)).length = off + vs.length := by rw [List.length_take]; omega
        simp only []
        rw [List.append_assoc, List.drop_append_of_le_length (by omega)]
        have e1 : (cur.toList.take (off + vs.length)).drop off = vs := by
          rw [List.drop_take, Nat.add_sub_cancel_left]
          exact htake
        rw [e1, ← List.append_assoc]
        exact List.take_left
    · have holds : ∀ j x, vs[j]? = some x → w.cell? ((⟨g, off, none⟩ : Addr).add j) = some x := by
        intro j x hj
        have hjl := (List.getElem?_eq_some_iff.1 hj).1
        have ha : (⟨g, off, none⟩ : Addr).add j = ⟨g, off + j, none⟩ := by
          unfold Addr.add; split
          · rename_i e; subst e; rfl
          · rfl
        rw [ha, cell_of_row w g (off + j) cur e (0, 0) hg, ← hj, ← htake, List.getElem?_take, if_pos hjl, List.getElem?_drop]
        simp
      have hr := run_append_grow (P := P) w t ty e i z ht hi hz ⟨g, off, none⟩ vs.length cap vs (by rw [hsize, Nat.mul_one]) holds a 1 c [u] (by simp [hsize]) hnews (by omega) (by omega) (growslice_fits (by omega) hb)
      have hgr := grown cap (by omega) (Value.ownBlock (.slice (some ⟨g, off, none⟩) vs.length cap))
      exact ⟨_, _, hr, hgr.1, hgr.2, .inr rfl⟩
/-- append of one element onto such a row -/
theorem wpList_appendSli {ops : Array Oper} {rest : List Oper} {o : Oper} {a : Act} {Q : Exit → Act → World → Prop} (hgd : o.guard = none) (s x : Operand) (t : TypeId)
    (ho : o.op = .call { callee := .builtin .append, args := #[s, x], argTypes := #[t, t] })
    (B : Nat) (e : TypeId) (i : TypeInfo) (z : Value) (bytes : Nat) (ht : P.underlying t = some (.slice e)) (hi : P.info? e = some i) (hz : i.zero = some z)
    (hsize : i.size = 1) (hby : i.bytes = bytes) (hzs : z.cells.size = 1) (v : Value) (vs : List Value) (hs : a.eval s = v) (hS : Sli w B e v vs)
    (ad : Addr) (c : Nat) (u : Value) (hx : a.eval x = .slice (some ad) 1 c) (hu : w.cell? ad = some u) (h1 : u.oneCell' = true) (hb : (vs.length + 1) * bytes ≤ 140737488355328) (hn : vs.length + 1 ≤ 9223372036854775807) (hB : B ≤ w.heap.size)
    (h : ∀ v' w', Sli w' B e v' (vs ++ [u]) → w.grownBy w' v.ownBlock → (v'.ownBlock = v.ownBlock ∨ v'.ownBlock = some w.heap.size) → wpList P ops Q rest (a.put o.dst v') w') : wpList P ops Q (o :: rest) a w := by
  refine wpList_plain hgd fun K hK => ?_
  obtain ⟨v', w', hrun, h2, h3, h4⟩ := run_append_sli (P := P) w B t o.type e i z bytes ht hi hz hsize hby hzs v vs hS ad c u hu h1 hb hn hB
  unfold Oper.wp execOp
  simp only [ho, resolve, invoke, builtin, Sem.run_bind, Sem.run_pure, Result.andThen_ok, List.map_toArray, List.map_cons, List.map_nil, hs, hx, hrun]
  exact hK _ _ (h v' w' h2 h3 h4)
end
/-- All blocks but those of two types stay as they are. -/
structure Ty2 (t1 t2 : TypeId) (w w' : World) : Prop where
  os : w'.os = w.os
  tape : w'.tape = w.tape
  output : w'.output = w.output
  size : w.heap.size ≤ w'.heap.size
  block : ∀ (g : Nat) (cs : Array Value) (t : TypeId) (fr : Nat × Nat), w.heap[g]? = some (Obj.cells cs t fr) → t ≠ t1 → t ≠ t2 → w'.heap[g]? = w.heap[g]?
section
variable {t1 t2 : TypeId} {w w' w'' : World}
theorem Ty2.refl (w : World) : Ty2 t1 t2 w w := ⟨rfl, rfl, rfl, Nat.le_refl _, fun _ _ _ _ _ _ _ => rfl⟩
theorem Ty2.trans (h : Ty2 t1 t2 w w') (k : Ty2 t1 t2 w' w'') : Ty2 t1 t2 w w'' :=
  ⟨k.os.trans h.os, k.tape.trans h.tape, k.output.trans h.output, Nat.le_trans h.size k.size, fun g cs t fr hg h1 h2 => by
    have e1 := h.block g cs t fr hg h1 h2
    exact (k.block g cs t fr (e1.trans hg) h1 h2).trans e1⟩
theorem Ty2.of_below (h : Below w.heap.size w w') : Ty2 t1 t2 w w' :=
  ⟨h.os, h.tape, h.output, h.size, fun g cs t fr hg _ _ => h.block g (by
    rcases Nat.lt_or_ge g w.heap.size with h' | h'
    · exact h'
    · rw [Array.getElem?_eq_none h'] at hg; cases hg)⟩
theorem Ty2.of_only {g : Nat} {u : TypeId} {cs : Array Value} (h : w.grownBy w' (some g)) (hb : Blk w g u cs) (hu : u = t1 ∨ u = t2) : Ty2 t1 t2 w w' :=
  ⟨h.os, h.tape, h.output, h.size, fun g' cs' t fr hg h1 h2 => h.block g' (by
    rcases Nat.lt_or_ge g' w.heap.size with h' | h'
    · exact h'
    · rw [Array.getElem?_eq_none h'] at hg; cases hg) (fun e => by
      injection e with e
      subst e
      have : some (Obj.cells cs' t fr) = some (Obj.cells cs u (0, 0)) := hg.symm.trans hb
      injection this with this
      injection this with _ h3 _
      subst h3
      rcases hu with hu | hu
      · exact h1 hu
      · exact h2 hu)⟩
theorem Ty2.blk (h : Ty2 t1 t2 w w') {g : Nat} {u : TypeId} {cs : Array Value} (hb : Blk w g u cs) (h1 : u ≠ t1) (h2 : u ≠ t2) : Blk w' g u cs := (h.block g cs u (0, 0) hb h1 h2).trans hb
theorem Ty2.own (h : Ty2 t1 t2 w w') {base : Nat} {e : TypeId} {size n : Nat} {v : Value} {xs : List Value} (hw : w.ownsRow base e size v n xs) (h1 : e ≠ t1) (h2 : e ≠ t2) : w'.ownsRow base e size v n xs := by
  refine ⟨hw.1, ?_⟩
  rcases hw.2 with h0 | ⟨g, cap, cur, hv, hbs, hh, hrest⟩
  · exact .inl h0
  · exact .inr ⟨g, cap, cur, hv, hbs, h.blk (show Blk w g e cur from hh) h1 h2, hrest⟩
theorem Ty2.sli_only {B : Nat} {t : TypeId} {v : Value} {vs : List Value} (hS : Sli w B t v vs) (h : w.grownBy w' v.ownBlock) (ht : t = t1 ∨ t = t2) : Ty2 t1 t2 w w' := by
  rcases hS with ⟨rfl, _⟩ | ⟨g, off, cap, cur, rfl, hb, hg, _⟩
  · exact Ty2.of_below ⟨h.os, h.tape, h.output, h.size, fun i hi => h.block i hi (by simp [Value.ownBlock])⟩
  · exact Ty2.of_only h (show Blk w g t cur from hg) ht
end
/-- two blocks of unlike types -/
theorem blk_ne {w : World} {g g' : Nat} {t t' : TypeId} {cs cs' : Array Value} {fr : Nat × Nat} (h : Blk w g t cs) (h' : w.heap[g']? = some (.cells cs' t' fr)) (ht : t ≠ t') : g ≠ g' := by
  rintro rfl
  have : some (Obj.cells cs t (0, 0)) = some (Obj.cells cs' t' fr) := h.symm.trans h'
  injection this with this
  injection this with _ h3 _
  exact ht h3
theorem Sli.ne {w : World} {B g : Nat} {t t' : TypeId} {v : Value} {vs : List Value} {cs : Array Value} (hS : Sli w B t v vs) (hb : Blk w g t' cs) (ht : t' ≠ t) : some g ≠ v.ownBlock := fun e => by
  obtain ⟨cs', hc⟩ := hS.type g e.symm
  exact blk_ne hb hc ht rfl
/-- another row, where one row was written or made anew -/
theorem Sli.apart {w w' : World} {B : Nat} {t : TypeId} {v v' u : Value} {us : List Value} (hu : Sli w B t u us) (hg : w.grownBy w' v.ownBlock) (hA : Apart v u) (ho : v'.ownBlock = v.ownBlock ∨ v'.ownBlock = some w.heap.size) : Sli w' B t u us ∧ Apart v' u := by
  refine ⟨hu.keep fun q hq => hg.block q (hu.lt q hq).2 (fun e => hA q e.symm hq), fun q h1 h2 => ?_⟩
  rcases ho with ho | ho
  · exact hA q (ho ▸ h1) h2
  · rw [ho] at h1
    injection h1 with h1
    have := (hu.lt q h2).2
    omega
/-- a block that was written and holds what it held: nothing was written -/
theorem below_same {w w' : World} {g : Nat} {t : TypeId} {cs : Array Value} (h : w.grownBy w' (some g)) (hb : Blk w g t cs) (hb' : Blk w' g t cs) : Below w.heap.size w w' :=
  ⟨h.os, h.tape, h.output, h.size, fun i hi => by
    by_cases e : i = g
    · subst e; exact hb'.trans hb.symm
    · exact h.block i hi (by simp [e])⟩
end Go.Proofs.YtkogehkmldbhgaaDoor
