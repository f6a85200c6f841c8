/- Texts that stand behind one another: BookP, Book. No condition. -/
import Derived.Test.YteonmcconpfkjaaDoorQ8
import Derived.Maps.AppendAt
import Derived.Test.YteonmcconpfkjaaDoorQ9
import Derived.Test.YteonmcconpfkjaaDoorQ5
import Derived.Lib.Hide
import Derived.Test.YteonmcconpfkjaaDoorChecked
import Derived.WalkKit
import Derived.BigQuiet
import Derived.Deep.DeepCutAuto
import Derived.Deep.DeepMust
import Derived.Outline
/- Rows of the call's own that are cut from below and appended to; frames by the types of blocks. No condition. -/
namespace Go.Proofs.YteonmcconpfkjaaDoor
open Go Go.RowKit
theorem own_baseP {w : World} {b b' s n : Nat} {e : TypeId} {v : Value} {xs : List Value} (h : w.ownsRow b' e s v n xs) (hb : b ≤ b') : w.ownsRow b e s v n xs := by
  refine ⟨h.1, ?_⟩
  rcases h.2 with h0 | ⟨g', cap, cur, h1, h2, h3⟩
  · exact .inl h0
  · exact .inr ⟨g', cap, cur, h1, Nat.le_trans hb h2, h3⟩
/-- a row of the call's own (one cell an element), cut from below -/
def Sli (w : World) (B : Nat) (t : TypeId) (v : Value) (vs : List Value) : Prop :=
  (v = .slice none 0 0 ∧ vs = []) ∨ ∃ g off cap cur, v = .slice (some ⟨g, off, none⟩) vs.length cap ∧ B ≤ g ∧ w.heap[g]? = some (.cells cur t (0, 0)) ∧ vs.length ≤ cap ∧ cap ≤ maxLen ∧ off + cap = cur.size ∧ (cur.toList.drop off).take vs.length = vs
section
variable {w w' : World} {B : Nat} {t : TypeId} {v : Value} {vs : List Value}
theorem Sli.nil_ : Sli w B t (.slice none 0 0) [] := .inl ⟨rfl, rfl⟩
theorem Sli.keep (h : Sli w B t v vs) (hk : ∀ g, v.ownBlock = some g → w'.heap[g]? = w.heap[g]?) : Sli w' B t v vs := by
  rcases h with h | ⟨g, off, cap, cur, rfl, hb, hg, hr⟩
  · exact .inl h
  · exact .inr ⟨g, off, cap, cur, rfl, hb, (hk g rfl).trans hg, hr⟩
theorem Sli.lt (h : Sli w B t v vs) : ∀ g, v.ownBlock = some g → B ≤ g ∧ g < w.heap.size := by
  intro g hg
  rcases h with ⟨rfl, _⟩ | ⟨g', off, cap, cur, rfl, hb, hh, _⟩
  · cases hg
  · cases hg; exact ⟨hb, Blk.lt (show Blk w g' t cur from hh)⟩
theorem Sli.below (h : Sli w B t v vs) (hb : Below w.heap.size w w') : Sli w' B t v vs := h.keep fun g hg => hb.block g (h.lt g hg).2
theorem Sli.form (h : Sli w B t v vs) : ∃ A c, v = .slice A vs.length c ∧ vs.length ≤ c ∧ c ≤ 9223372036854775807 := by
  rcases h with ⟨rfl, rfl⟩ | ⟨g, off, cap, cur, rfl, hb, hg, h1, h2, _⟩
  · exact ⟨none, 0, rfl, Nat.le_refl _, by decide⟩
  · exact ⟨_, cap, rfl, h1, by unfold maxLen at h2; omega⟩
theorem Sli.form1 {x : Value} (h : Sli w B t v (vs ++ [x])) : ∃ A c, v = .slice A (vs.length + 1) c ∧ vs.length + 1 ≤ c ∧ c ≤ 9223372036854775807 := by
  obtain ⟨A, c, h1, h2, h3⟩ := h.form
  rw [List.length_append, List.length_cons, List.length_nil] at h1 h2
  exact ⟨A, c, h1, h2, h3⟩
theorem Sli.type (h : Sli w B t v vs) : ∀ g, v.ownBlock = some g → ∃ cs, w.heap[g]? = some (.cells cs t (0, 0)) := by
  intro g hg
  rcases h with ⟨rfl, _⟩ | ⟨g', off, cap, cur, rfl, hb, hh, _⟩
  · cases hg
  · cases hg; exact ⟨cur, hh⟩
theorem Sli.cell {A : Option Addr} {n c : Nat} (h : Sli w B t (.slice A n c) vs) (k : Nat) (u : Value) (hk : vs[k]? = some u) : ∃ g off, A = some ⟨g, off, none⟩ ∧ B ≤ g ∧ g < w.heap.size ∧ ∀ j x, vs[j]? = some x → w.cell? ⟨g, off + j, none⟩ = some x := by
  rcases h with ⟨_, rfl⟩ | ⟨g, off, cap, cur, hv, hb, hg, hl, hm, hs, ht⟩
  · simp at hk
  · injection hv with hv _ _
    refine ⟨g, off, hv, hb, Blk.lt (show Blk w g t cur from hg), fun j x hj => ?_⟩
    have hjl := (List.getElem?_eq_some_iff.1 hj).1
    rw [cell_of_row w g (off + j) cur t (0, 0) hg, ← hj, ← ht, List.getElem?_take, if_pos hjl, List.getElem?_drop]
    simp
/-- x[1:] -/
theorem Sli.tail {A : Option Addr} {n c : Nat} {x y : Value} {r : List Value} (h : Sli w B t (.slice A n c) (x :: y :: r)) : Sli w B t (.slice (if c = 1 then A else A.map (·.add 1)) (r.length + 1) (c - 1)) (y :: r) ∧ n = r.length + 2 ∧ r.length + 2 ≤ c := by
  rcases h with ⟨_, h⟩ | ⟨g, off, cap, cur, hv, hb, hg, hl, hm, hs, ht⟩
  · cases h
  · injection hv with h1 h2 h3
    subst h1; subst h3
    simp only [List.length_cons] at hl h2
    refine ⟨.inr ⟨g, off + 1, c - 1, cur, ?_, hb, hg, by simp only [List.length_cons]; omega, by omega, by omega, ?_⟩, by omega, by omega⟩
    · rw [if_neg (by omega)]; rfl
    · have h4 : (cur.toList.drop (off + 1)).take (r.length + 1) = (((cur.toList.drop off).take (r.length + 2)).drop 1) := by
        rw [List.drop_take, List.drop_drop]; rfl
      simp only [List.length_cons] at ht ⊢
      rw [h4, ht]; rfl
end
section
variable {P : Program} (w : World)
theorem run_append_room_off (t ty e : TypeId) (i : TypeInfo) (ht : P.underlying t = some (.slice e)) (hi : P.info? e = some i) (hsz : i.size = 1)
    (g off sLen sCap : Nat) (cur : Array Value) (hg : w.heap[g]? = some (.cells cur e (0, 0)))
    (a : Addr) (c : Nat) (u : Value) (hu : w.cell? a = some u) (h1 : u.oneCell' = true) (hroom : sLen + 1 ≤ sCap) (hfit : off + sLen + 1 ≤ cur.size) :
    (Builtin.append_ #[t, t] ty #[.slice (some ⟨g, off, none⟩) sLen sCap, .slice (some a) 1 c]).run P w =
      .ok (.slice (some ⟨g, off, none⟩) (sLen + 1) sCap) (w.setRow g (cur.toList.take (off + sLen) ++ [u] ++ cur.toList.drop (off + sLen + 1)).toArray) := by
  have hnews : ∀ j x, [u][j]? = some x → w.cell? (a.add j) = some x := by
    intro j x hj
    match j, hj with
    | 0, hj => simp at hj; subst hj; simpa [Addr.add] using hu
  have hf := run_firstCells_some (P := P) w i.size 1 a 1 c [u] (by simp [hsz]) hnews
  have hst := run_storeCells_at P g (off + sLen) e [u] 0 cur w hg (by simpa using hfit) (by simpa using h1)
  simp only [Nat.add_zero] at hst
  have ha : (⟨g, off, none⟩ : Addr).add (sLen * i.size) = ⟨g, off + sLen, none⟩ := by
    rw [hsz, Nat.mul_one]
    unfold Addr.add; split
    · rename_i e; subst e; rfl
    · rfl
  simp [Builtin.append_, run_underlying ht, sizeOf, typeInfo, hi, Builtin.lenOf, hroom, hf, ha, hst]
theorem run_append_sli (B : Nat) (t ty e : TypeId) (i : TypeInfo) (z : Value) (bytes : Nat) (ht : P.underlying t = some (.slice e)) (hi : P.info? e = some i) (hz : i.zero = some z)
    (hsize : i.size = 1) (hby : i.bytes = bytes) (hzs : z.cells.size = 1) (v : Value) (vs : List Value) (hS : Sli w B e v vs)
    (a : Addr) (c : Nat) (u : Value) (hu : w.cell? a = some u) (h1 : u.oneCell' = true) (hb : (vs.length + 1) * bytes ≤ 140737488355328) (hn : vs.length + 1 ≤ 9223372036854775807) (hB : B ≤ w.heap.size) :
    ∃ v' w', (Builtin.append_ #[t, t] ty #[v, .slice (some a) 1 c]).run P w = .ok v' w' ∧ Sli w' B e v' (vs ++ [u]) ∧ w.grownBy w' v.ownBlock ∧ (v'.ownBlock = v.ownBlock ∨ v'.ownBlock = some w.heap.size) := by
  subst hby
  have hnews : ∀ j x, [u][j]? = some x → w.cell? (a.add j) = some x := by
    intro j x hj
    match j, hj with
    | 0, hj => simp at hj; subst hj; simpa [Addr.add] using hu
  have grown : ∀ (old : Nat), old < vs.length + 1 → ∀ (row : Option Nat),
      Sli (w.drew.alloc (.cells (vs.toArray ++ [u].toArray ++ Builtin.zeroCells z.cells (grownCap w (vs.length + 1) old e - (vs.length + 1))) e)) B e (.slice (some ⟨w.heap.size, 0, none⟩) (vs.length + 1) (grownCap w (vs.length + 1) old e)) (vs ++ [u]) ∧
      w.grownBy (w.drew.alloc (.cells (vs.toArray ++ [u].toArray ++ Builtin.zeroCells z.cells (grownCap w (vs.length + 1) old e - (vs.length + 1))) e)) row := by
    intro old ho row
    have hge := grownCap_ge w (vs.length + 1) old e
    have hcm : grownCap w (vs.length + 1) old e ≤ maxLen := grownCap_le_maxLen w (vs.length + 1) old e (by unfold maxLen; omega)
    refine ⟨.inr ⟨w.heap.size, 0, _, _, by rw [List.length_append]; rfl, hB, heap_alloc_new w.drew _, by rw [List.length_append]; exact hge, hcm, ?_, ?_⟩, ⟨rfl, rfl, rfl, by simp, fun k hk _ => Below.heap_alloc w.drew _ k hk⟩⟩
    · simp only [Array.size_append, List.size_toArray, size_zeroCells, hzs, List.length_cons, List.length_nil]
      omega
    · simp only [Array.toList_append, List.append_assoc, List.drop_zero]
      rw [← List.append_assoc]
      exact List.take_left
  rcases hS with ⟨rfl, rfl⟩ | ⟨g, off, cap, cur, rfl, hbg, hg, hnc, hcm, hcs, htake⟩
  · have hr := run_append_nil (P := P) w t ty e i z ht hi hz a 1 c [u] (by simp [hsize]) hnews (by decide) (by decide) (by simp at hb ⊢; omega)
    have hgr := grown 0 (by simp) (Value.ownBlock (.slice none 0 0))
    simp only [List.length_nil, Nat.zero_add, List.nil_append, Array.empty_append] at hgr ⊢
    exact ⟨_, _, hr, hgr.1, hgr.2, .inr rfl⟩
  · by_cases hroom : vs.length + 1 ≤ cap
    · have hr := run_append_room_off (P := P) w t ty e i ht hi hsize g off vs.length cap cur hg a c u hu h1 hroom (by omega)
      refine ⟨_, _, hr, .inr ⟨g, off, cap, _, by rw [List.length_append]; rfl, hbg, setRow_heap w g cur _ e _ hg, by rw [List.length_append]; exact hroom, hcm, ?_, ?_⟩, only_setRow w g _, .inl rfl⟩
      · simp only [List.size_toArray, List.length_append, List.length_take, List.length_drop, Array.length_toList, List.length_cons, List.length_nil]
        omega
      · have hcl : cur.toList.length = cur.size := Array.length_toList
        have hl : (cur.toList.take (off + vs.length)).length = off + vs.length := by rw [List.length_take]; omega
        simp only []
        rw [List.append_assoc, List.drop_append_of_le_length (by omega)]
        have e1 : (cur.toList.take (off + vs.length)).drop off = vs := by
          rw [List.drop_take, Nat.add_sub_cancel_left]
          exact htake
        rw [e1, ← List.append_assoc]
        exact List.take_left
    · have holds : ∀ j x, vs[j]? = some x → w.cell? ((⟨g, off, none⟩ : Addr).add j) = some x := by
        intro j x hj
        have hjl := (List.getElem?_eq_some_iff.1 hj).1
        have ha : (⟨g, off, none⟩ : Addr).add j = ⟨g, off + j, none⟩ := by
          unfold Addr.add; split
          · rename_i e; subst e; rfl
          · rfl
        rw [ha, cell_of_row w g (off + j) cur e (0, 0) hg, ← hj, ← htake, List.getElem?_take, if_pos hjl, List.getElem?_drop]
        simp
      have hr := run_append_grow (P := P) w t ty e i z ht hi hz ⟨g, off, none⟩ vs.length cap vs (by rw [hsize, Nat.mul_one]) holds a 1 c [u] (by simp [hsize]) hnews (by omega) (by omega) (growslice_fits (by omega) hb)
      have hgr := grown cap (by omega) (Value.ownBlock (.slice (some ⟨g, off, none⟩) vs.length cap))
      exact ⟨_, _, hr, hgr.1, hgr.2, .inr rfl⟩
/-- append of one element onto such a row -/
theorem wpList_appendSli {ops : Array Oper} {rest : List Oper} {o : Oper} {a : Act} {Q : Exit → Act → World → Prop} (hgd : o.guard = none) (s x : Operand) (t : TypeId)
    (ho : o.op = .call { callee := .builtin .append, args := #[s, x], argTypes := #[t, t] })
    (B : Nat) (e : TypeId) (i : TypeInfo) (z : Value) (bytes : Nat) (ht : P.underlying t = some (.slice e)) (hi : P.info? e = some i) (hz : i.zero = some z)
    (hsize : i.size = 1) (hby : i.bytes = bytes) (hzs : z.cells.size = 1) (v : Value) (vs : List Value) (hs : a.eval s = v) (hS : Sli w B e v vs)
    (ad : Addr) (c : Nat) (u : Value) (hx : a.eval x = .slice (some ad) 1 c) (hu : w.cell? ad = some u) (h1 : u.oneCell' = true) (hb : (vs.length + 1) * bytes ≤ 140737488355328) (hn : vs.length + 1 ≤ 9223372036854775807) (hB : B ≤ w.heap.size)
    (h : ∀ v' w', Sli w' B e v' (vs ++ [u]) → w.grownBy w' v.ownBlock → (v'.ownBlock = v.ownBlock ∨ v'.ownBlock = some w.heap.size) → wpList P ops Q rest (a.put o.dst v') w') : wpList P ops Q (o :: rest) a w := by
  refine wpList_plain hgd fun K hK => ?_
  obtain ⟨v', w', hrun, h2, h3, h4⟩ := run_append_sli (P := P) w B t o.type e i z bytes ht hi hz hsize hby hzs v vs hS ad c u hu h1 hb hn hB
  unfold Oper.wp execOp
  simp only [ho, resolve, invoke, builtin, Sem.run_bind, Sem.run_pure, Result.andThen_ok, List.map_toArray, List.map_cons, List.map_nil, hs, hx, hrun]
  exact hK _ _ (h v' w' h2 h3 h4)
end
/-- All blocks but those of two types stay as they are. -/
structure Ty2 (t1 t2 : TypeId) (w w' : World) : Prop where
  os : w'.os = w.os
  tape : w'.tape = w.tape
  output : w'.output = w.output
  size : w.heap.size ≤ w'.heap.size
  block : ∀ (g : Nat) (cs : Array Value) (t : TypeId) (fr : Nat × Nat), w.heap[g]? = some (Obj.cells cs t fr) → t ≠ t1 → t ≠ t2 → w'.heap[g]? = w.heap[g]?
section
variable {t1 t2 : TypeId} {w w' w'' : World}
theorem Ty2.refl (w : World) : Ty2 t1 t2 w w := ⟨rfl, rfl, rfl, Nat.le_refl _, fun _ _ _ _ _ _ _ => rfl⟩
theorem Ty2.trans (h : Ty2 t1 t2 w w') (k : Ty2 t1 t2 w' w'') : Ty2 t1 t2 w w'' :=
  ⟨k.os.trans h.os, k.tape.trans h.tape, k.output.trans h.output, Nat.le_trans h.size k.size, fun g cs t fr hg h1 h2 => by
    have e1 := h.block g cs t fr hg h1 h2
    exact (k.block g cs t fr (e1.trans hg) h1 h2).trans e1⟩
theorem Ty2.of_below (h : Below w.heap.size w w') : Ty2 t1 t2 w w' :=
  ⟨h.os, h.tape, h.output, h.size, fun g cs t fr hg _ _ => h.block g (by
    rcases Nat.lt_or_ge g w.heap.size with h' | h'
    · exact h'
    · rw [Array.getElem?_eq_none h'] at hg; cases hg)⟩
theorem Ty2.of_only {g : Nat} {u : TypeId} {cs : Array Value} (h : w.grownBy w' (some g)) (hb : Blk w g u cs) (hu : u = t1 ∨ u = t2) : Ty2 t1 t2 w w' :=
  ⟨h.os, h.tape, h.output, h.size, fun g' cs' t fr hg h1 h2 => h.block g' (by
    rcases Nat.lt_or_ge g' w.heap.size with h' | h'
    · exact h'
    · rw [Array.getElem?_eq_none h'] at hg; cases hg) (fun e => by
      injection e with e
      subst e
      have : some (Obj.cells cs' t fr) = some (Obj.cells cs u (0, 0)) := hg.symm.trans hb
      injection this with this
      injection this with _ h3 _
      subst h3
      rcases hu with hu | hu
      · exact h1 hu
      · exact h2 hu)⟩
theorem Ty2.blk (h : Ty2 t1 t2 w w') {g : Nat} {u : TypeId} {cs : Array Value} (hb : Blk w g u cs) (h1 : u ≠ t1) (h2 : u ≠ t2) : Blk w' g u cs := (h.block g cs u (0, 0) hb h1 h2).trans hb
theorem Ty2.own (h : Ty2 t1 t2 w w') {base : Nat} {e : TypeId} {size n : Nat} {v : Value} {xs : List Value} (hw : w.ownsRow base e size v n xs) (h1 : e ≠ t1) (h2 : e ≠ t2) : w'.ownsRow base e size v n xs := by
  refine ⟨hw.1, ?_⟩
  rcases hw.2 with h0 | ⟨g, cap, cur, hv, hbs, hh, hrest⟩
  · exact .inl h0
  · exact .inr ⟨g, cap, cur, hv, hbs, h.blk (show Blk w g e cur from hh) h1 h2, hrest⟩
theorem Ty2.sli_only {B : Nat} {t : TypeId} {v : Value} {vs : List Value} (hS : Sli w B t v vs) (h : w.grownBy w' v.ownBlock) (ht : t = t1 ∨ t = t2) : Ty2 t1 t2 w w' := by
  rcases hS with ⟨rfl, _⟩ | ⟨g, off, cap, cur, rfl, hb, hg, _⟩
  · exact Ty2.of_below ⟨h.os, h.tape, h.output, h.size, fun i hi => h.block i hi (by simp [Value.ownBlock])⟩
  · exact Ty2.of_only h (show Blk w g t cur from hg) ht
end
/-- two blocks of unlike types -/
theorem blk_ne {w : World} {g g' : Nat} {t t' : TypeId} {cs cs' : Array Value} {fr : Nat × Nat} (h : Blk w g t cs) (h' : w.heap[g']? = some (.cells cs' t' fr)) (ht : t ≠ t') : g ≠ g' := by
  rintro rfl
  have : some (Obj.cells cs t (0, 0)) = some (Obj.cells cs' t' fr) := h.symm.trans h'
  injection this with this
  injection this with _ h3 _
  exact ht h3
theorem Sli.ne {w : World} {B g : Nat} {t t' : TypeId} {v : Value} {vs : List Value} {cs : Array Value} (hS : Sli w B t v vs) (hb : Blk w g t' cs) (ht : t' ≠ t) : some g ≠ v.ownBlock := fun e => by
  obtain ⟨cs', hc⟩ := hS.type g e.symm
  exact blk_ne hb hc ht rfl
/-- another row, where one row was written or made anew -/
theorem Sli.apart {w w' : World} {B : Nat} {t : TypeId} {v v' u : Value} {us : List Value} (hu : Sli w B t u us) (hg : w.grownBy w' v.ownBlock) (hA : Apart v u) (ho : v'.ownBlock = v.ownBlock ∨ v'.ownBlock = some w.heap.size) : Sli w' B t u us ∧ Apart v' u := by
  refine ⟨hu.keep fun q hq => hg.block q (hu.lt q hq).2 (fun e => hA q e.symm hq), fun q h1 h2 => ?_⟩
  rcases ho with ho | ho
  · exact hA q (ho ▸ h1) h2
  · rw [ho] at h1
    injection h1 with h1
    have := (hu.lt q h2).2
    omega
/-- a block that was written and holds what it held: nothing was written -/
theorem below_same {w w' : World} {g : Nat} {t : TypeId} {cs : Array Value} (h : w.grownBy w' (some g)) (hb : Blk w g t cs) (hb' : Blk w' g t cs) : Below w.heap.size w w' :=
  ⟨h.os, h.tape, h.output, h.size, fun i hi => by
    by_cases e : i = g
    · subst e; exact hb'.trans hb.symm
    · exact h.block i hi (by simp [e])⟩
end Go.Proofs.YteonmcconpfkjaaDoor

/- The walks of deponentbook's Same, Roomy, Intact at bytes. No condition. -/
namespace Go.Proofs.YteonmcconpfkjaaDoor
open Go.RowKit
attribute [local go_sem] n8_lo n8_hi
theorem BSl.cellAt {w : World} {A : Option Addr} {n cap : Nat} {bs : List UInt8} (h : BSl w w.heap.size (.slice A n cap) bs) (k : Nat) (hk : k < n) :
    ∃ b off, A = some ⟨b, off, none⟩ ∧ b < w.heap.size ∧ ∀ j, j < n → w.cell? ⟨b, off + j, none⟩ = some (.int .u8 (n8 (bs.getD j 0))) := by
  obtain ⟨A', cap', e1, hc1, hc2, hr⟩ := h
  injection e1 with e1 e2 e3
  subst e1; subst e3; subst e2
  obtain ⟨b, off, rfl, hb, hc⟩ := hr (by rw [List.length_map]; omega)
  refine ⟨b, off, rfl, hb, fun j hj => hc j _ ?_⟩
  rw [List.getElem?_map, List.getElem?_eq_getElem hj, List.getD_eq_getElem?_getD, List.getElem?_eq_getElem hj]; rfl
theorem take_same (xs ys : List UInt8) (k : Nat) (hx : k < xs.length) (hy : k < ys.length) (h : xs.take k = ys.take k) (he : xs.getD k 0 = ys.getD k 0) : xs.take (k + 1) = ys.take (k + 1) := by
  rw [List.take_succ_eq_append_getElem hx, List.take_succ_eq_append_getElem hy, h]
  simp [List.getD_eq_getElem?_getD, hx, hy] at he
  rw [he]
theorem take_apart (xs ys : List UInt8) (k : Nat) (he : xs.getD k 0 ≠ ys.getD k 0) : decide (xs = ys) = false := by
  rw [decide_eq_false_iff_not]; rintro rfl; exact he rfl
set_option maxRecDepth 100000 in
theorem same_any (u v : Value) (xs ys : List UInt8) (w : World) (hu : BSl w w.heap.size u xs) (hv : BSl w w.heap.size v ys) :
    Calls Tryd.prog 80 #[u, v] w fun e w' => e = .returned (.bool (decide (xs = ys))) ∧ Below w.heap.size w w' := by
  obtain ⟨A1, c1, rfl, h11, h12, hr1⟩ := hu
  obtain ⟨A2, c2, rfl, h21, h22, hr2⟩ := hv
  have hu : BSl w w.heap.size (.slice A1 xs.length c1) xs := ⟨A1, c1, rfl, h11, h12, hr1⟩
  have hv : BSl w w.heap.size (.slice A2 ys.length c2) ys := ⟨A2, c2, rfl, h21, h22, hr2⟩
  clear hr1 hr2
  by_cases hl : xs.length = ys.length
  · have hD := Lib.hid (show xs.take xs.length = ys.take xs.length → decide (xs = ys) = true from fun h => by rw [List.take_length, hl, List.take_length] at h; exact decide_eq_true h)
    have hL := Lib.hid hl
    have hA := Lib.hid (take_apart xs ys)
    have hS := Lib.hid (take_same xs ys)
    rw [← hl] at hv ⊢
    have h21' : xs.length ≤ c2 := by omega
    generalize decide (xs = ys) = d at hD hA ⊢
    clear hl h21
    go_enter Tryd.func80, Tryd.ntmps80
    go_wp2
    go_loopw [5] (fun i wr => ∃ k : Nat, k ≤ xs.length ∧ i = .int .i64 k ∧ xs.take k = ys.take k ∧ Below w.heap.size w wr) (fun i _ => xs.length - (intOf i).toNat)
    case atStart => exact ⟨0, by omega, rfl, by simp, Below.refl _ _⟩
    case round =>
      obtain ⟨k, hk, rfl, ht, hbel⟩ := hrel
      have Ht := Lib.hid ht
      clear ht
      by_cases hlt : k < xs.length
      · obtain ⟨b1, o1, rfl, hb1, hc1⟩ := (hu.next hbel).cellAt k hlt
        obtain ⟨b2, o2, rfl, hb2, hc2⟩ := (hv.next hbel).cellAt k hlt
        have g1 := hc1 k hlt
        have g2 := hc2 k hlt
        clear hc1 hc2 hu hv
        by_cases he : xs.getD k 0 = ys.getD k 0
        · have hs := Lib.hid (hS.out k hlt (by have := hL.out; omega) Ht.out he)
          have he' : (n8 (xs.getD k 0) != n8 (ys.getD k 0)) = false := by rw [he]; simp
          generalize n8 (xs.getD k 0) = x1 at g1 he'
          generalize n8 (ys.getD k 0) = x2 at g2 he'
          clear he
          go_wp2
          go_quiet (fail)
          go_wp2
          go_roundw
          case rel => exact ⟨k + 1, by omega, by go_num, hs.out, below_drewN hbel nq⟩
          case measure => simp [intOf]; omega
        · have he' : (n8 (xs.getD k 0) != n8 (ys.getD k 0)) = true := by rw [bne_iff_ne]; exact fun e => he (n8_inj e)
          have hd := Lib.hid (hA.out k he)
          generalize n8 (xs.getD k 0) = x1 at g1 he'
          generalize n8 (ys.getD k 0) = x2 at g2 he'
          clear he
          go_wp2
          go_quiet (fail)
          go_wp2
          go_ret
          rw [hd.out]
          exact ⟨rfl, below_drewN hbel nq⟩
      · have ek : k = xs.length := by omega
        have hd := Lib.hid (hD.out (by rw [← ek]; exact Ht.out))
        go_wp2
        go_ret
        rw [hd.out]
        exact ⟨rfl, hbel⟩
  · have hd := Lib.hid (show decide (xs = ys) = false from decide_eq_false fun e => hl (by rw [e]))
    have hl' : ((xs.length : Int) != (ys.length : Int)) = true := by rw [bne_iff_ne]; omega
    clear hl hu hv
    go_enter Tryd.func80, Tryd.ntmps80
    go_wp2
    go_ret
    rw [hd.out]
    exact ⟨rfl, Below.refl _ _⟩
def roomF (bs : List UInt8) (m : UInt8) (k p : Nat) : UInt8 := if p < bs.length then bs.getD p 0 else if p < k then m else 0
theorem room_0 (bs : List UInt8) (m : UInt8) (n : Nat) (h : bs.length ≤ n) : arr n (fun p => if 0 ≤ p ∧ p < 0 + Nat.min bs.length n then bs.getD (p - 0) 0 else (fun _ => 0) p) = arr n (roomF bs m bs.length) := by
  apply arr_congr
  intro p hp
  unfold roomF
  have e : Nat.min bs.length n = bs.length := Nat.min_eq_left h
  rw [e]
  by_cases h1 : p < bs.length
  · rw [if_pos h1, if_pos (by omega)]; rfl
  · rw [if_neg h1, if_neg (by omega), if_neg h1]
theorem room_step (bs : List UInt8) (m : UInt8) (k : Nat) (hk : bs.length ≤ k) : (fun p => if p = k then m else roomF bs m k p) = roomF bs m (k + 1) := by
  funext p
  unfold roomF
  by_cases h : p = k
  · rw [if_pos h, if_neg (by omega), if_pos (by omega)]
  · rw [if_neg h]
    by_cases h1 : p < bs.length
    · rw [if_pos h1, if_pos h1]
    · rw [if_neg h1, if_neg h1]
      by_cases h2 : p < k
      · rw [if_pos h2, if_pos (by omega)]
      · rw [if_neg h2, if_neg (by omega)]
theorem room_end (bs : List UInt8) (m : UInt8) (n p : Nat) (hp : p < bs.length + n) : roomF bs m (bs.length + n) p = (bs ++ List.replicate n m).getD p 0 := by
  unfold roomF
  rw [List.getD_eq_getElem?_getD, List.getD_eq_getElem?_getD]
  by_cases h1 : p < bs.length
  · rw [if_pos h1, List.getElem?_append_left h1]
  · rw [if_neg h1, if_pos hp, List.getElem?_append_right (by omega), List.getElem?_replicate, if_pos (by omega)]; rfl
theorem zeros_arr (n : Nat) : (List.replicate n (Value.int .u8 0)).toArray = arr n (fun _ => 0) := by
  apply Array.ext
  · simp [arr]
  · intro i h1 h2
    simp [arr]; rfl
set_option maxRecDepth 100000 in
theorem roomy_any (u : Value) (bs : List UInt8) (m : UInt8) (w : World) (hu : BSl w w.heap.size u bs) (hl : bs.length ≤ 140737488355264) :
    Calls Tryd.prog 76 #[u, .int .u8 (n8 m)] w fun e w' => ∃ v, e = .returned v ∧ BSl w' w'.heap.size v (bs ++ List.replicate 80 m) ∧ Below w.heap.size w w' := by
  obtain ⟨i0, hi, hz0, hz1, hz2⟩ := info_parts (by kernel_rfl : (Tryd.prog.info? 5).map (fun i => (i.zero, i.size, i.bytes)) = some (some (.int .u8 0), 1, 1))
  obtain ⟨A1, c1, rfl, h11, h12, hr1⟩ := hu
  obtain ⟨N, hN⟩ : ∃ N, N = bs.length + 80 := ⟨_, rfl⟩
  have eN : (bs.length : Int) + 80 = (N : Int) := by omega
  have HN := Lib.hid hN
  have hN1 : bs.length + 80 ≤ N := by omega
  have hN2 : N ≤ bs.length + 80 := by omega
  clear hN
  have hD := Blk.new w 5 (List.replicate N (Value.int .u8 0)).toArray
  have hb2 := below_new1 w (Obj.cells (List.replicate N (Value.int .u8 0)).toArray 5)
  go_enter Tryd.func76, Tryd.ntmps76
  go_wp2_with (first
    | (refine wpList_makeB rfl _ _ _ rfl 5 i0 _ Tryd.underlying22 hi hz0 hz1 rfl _ _ N rfl rfl (by rw [hz2]; omega) (by omega) ?_; refine wpl_at (fun W => Blk W w.heap.size 5 (List.replicate N (Value.int .u8 0)).toArray ∧ Below w.heap.size w W) ⟨hD, hb2⟩ ?_; clear hD hb2; rintro w3 ⟨hD, hb3⟩; rw [zeros_arr] at hD)
    | (refine wpList_copyR rfl (.tmp 11) (.tmp 12) _ _ rfl 5 Tryd.underlying22 (by kernel_rfl) w.heap.size 0 N N A1 _ c1 rfl rfl _ _ hD _ _ (hr1.below hb3) (by rw [List.length_map]) (by rw [arr_size]; show 0 + min bs.length N ≤ N; omega) (oneCell_v8 _) ?_; intro w4 hD4 hon4))
  rw [copied_arr N (fun _ => 0) 0 bs N (by show 0 + min bs.length N ≤ N; omega), room_0 bs m N (by omega)] at hD4
  have hb4 := below_only hb3 hon4 (Nat.le_refl _) hb3.size
  clear hD hb3 hon4 hr1
  go_loopw [6] (fun iv wr => ∃ k : Nat, bs.length ≤ k ∧ k ≤ N ∧ iv = .int .i64 k ∧ Blk wr w.heap.size 5 (arr N (roomF bs m k)) ∧ Below w.heap.size w wr) (fun iv _ => N - (intOf iv).toNat)
  case atStart => exact ⟨bs.length, Nat.le_refl _, by omega, rfl, hD4, hb4⟩
  case round =>
    clear hD4 hb4
    obtain ⟨k, hk0, hk, rfl, hD, hb3⟩ := hrel
    by_cases hlt : k < N
    · have cD := hD.cell k
      rw [arr_at _ _ _ hlt] at cD
      have fD := hD.frozen k
      go_wp2
      go_roundw
      case rel =>
        have hst := hD.set k (v8 m)
        rw [arr_set, room_step bs m k hk0] at hst
        exact ⟨k + 1, by omega, by omega, by go_num, hst, hb3.setCell (p := ⟨_, _, none⟩) (Nat.le_refl _) _⟩
      case measure => simp [intOf]; omega
    · have ek : k = N := by omega
      subst ek
      go_wp2
      go_ret
      refine ⟨_, rfl, ?_, hb3⟩
      have h80 : (bs ++ List.replicate 80 m).length = k := by rw [HN.out]; simp
      exact BSl.of_arr hD _ hD.lt _ h80 (fun p hp => by have e := HN.out; subst e; exact room_end bs m 80 p hp) (by omega)
theorem app_drop (bs : List UInt8) (m : UInt8) (k : Nat) (h1 : bs.length ≤ k) (h2 : k < bs.length + 80) : (bs ++ List.replicate 80 m).getD k 0 = m := by
  rw [List.getD_eq_getElem?_getD, List.getElem?_append_right h1, List.getElem?_replicate, if_pos (by omega)]; rfl
set_option maxRecDepth 100000 in
theorem intact_any (u v : Value) (bs : List UInt8) (m : UInt8) (w : World) (hu : BSl w w.heap.size u (bs ++ List.replicate 80 m)) (hv : BSl w w.heap.size v bs) (hl : bs.length ≤ 140737488355264) :
    Calls Tryd.prog 78 #[u, v, .int .u8 (n8 m)] w fun e w' => e = .returned (.bool true) ∧ Below w.heap.size w w' := by
  obtain ⟨A1, c1, rfl, h11, h12, hr1⟩ := hu
  obtain ⟨A2, c2, rfl, h21, h22, hr2⟩ := hv
  have hu : BSl w w.heap.size (.slice A1 (bs ++ List.replicate 80 m).length c1) (bs ++ List.replicate 80 m) := ⟨A1, c1, rfl, h11, h12, hr1⟩
  have hv : BSl w w.heap.size (.slice A2 bs.length c2) bs := ⟨A2, c2, rfl, h21, h22, hr2⟩
  clear hr1 hr2
  have h80 : (bs ++ List.replicate 80 m).length = bs.length + 80 := by simp
  rw [h80] at hu h11 ⊢
  have hh := head_b hu bs.length (by omega)
  rw [List.take_left] at hh
  have hM := Lib.hid (app_drop bs m)
  generalize bs ++ List.replicate 80 m = xs at hu hM
  clear h80
  obtain ⟨N, hN⟩ : ∃ N, N = bs.length + 80 := ⟨_, rfl⟩
  have eN : (bs.length : Int) + 80 = (N : Int) := by omega
  have hN1 : bs.length + 80 ≤ N := by omega
  have hN2 : N ≤ bs.length + 80 := by omega
  rw [← hN] at hu h11 ⊢
  clear hN
  have hne : ((N : Int) != (N : Int)) = false := by simp
  go_enter Tryd.func78, Tryd.ntmps78
  go_wp2_with fail
  refine (same_any _ _ bs bs w hh hv).mono ?_
  rintro e w1 ⟨rfl, hb1⟩
  rw [decide_eq_true (rfl : bs = bs)]
  go_wp2_with fail
  go_loopw [7] (fun iv wr => ∃ k : Nat, bs.length ≤ k ∧ k ≤ N ∧ iv = .int .i64 k ∧ Below w.heap.size w wr) (fun iv _ => N - (intOf iv).toNat)
  case atStart => exact ⟨bs.length, Nat.le_refl _, by omega, rfl, hb1⟩
  case round =>
    obtain ⟨k, hk0, hk, rfl, hbel⟩ := hrel
    clear hh hb1
    by_cases hlt : k < N
    · obtain ⟨b1, o1, rfl, hb1, hc1⟩ := (hu.next hbel).cellAt k hlt
      have g1 := hc1 k hlt
      rw [hM.out k hk0 (by omega)] at g1
      clear hc1 hu hv
      go_wp2
      go_roundw
      case rel => exact ⟨k + 1, by omega, by omega, by go_num, hbel⟩
      case measure => simp [intOf]; omega
    · have ek : k = N := by omega
      subst ek
      go_wp2
      go_ret
      exact ⟨rfl, hbel⟩
end Go.Proofs.YteonmcconpfkjaaDoor
