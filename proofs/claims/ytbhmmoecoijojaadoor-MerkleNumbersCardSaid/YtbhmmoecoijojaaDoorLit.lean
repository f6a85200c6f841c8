/- append of bytes onto a full slice of marked bytes. No condition. -/
import Derived.Test.YtbhmmoecoijojaaDoorConst
import Derived.Test.YtbhmmoecoijojaaDoorRefC
import Derived.Test.YtbhmmoecoijojaaDoorMixS
import Derived.ArgAppend
namespace Go.Proofs.YtbhmmoecoijojaaDoor
open Go Go.RowKit
theorem Lit.below {V V' : World} {g : Nat} {bs : List UInt8} (h : Lit V g bs) (hb : Below V.heap.size V V') : Lit V' g bs := by
  have hl := h.lt
  obtain ⟨t, fr, h⟩ := h
  exact ⟨t, fr, (hb.block g hl).trans h⟩
theorem wpList_appendLit {w : World} {ops : Array Oper} {rest : List Oper} {o : Oper} {a : Act} {Q : Exit → Act → World → Prop} (hgd : o.guard = none) (s x : Operand)
    (ho : o.op = .call { callee := .builtin .append, args := #[s, x], argTypes := #[32, 32] })
    (g n : Nat) (bs : List UInt8) (hn : bs.length = n) (hg : Lit w g bs) (hs : a.eval s = .slice (some ⟨g, 0, none⟩) n n) (hn0 : n ≤ 1000)
    (v : Value) (bs2 : List UInt8) (hx : a.eval x = v) (hr : BSl w w.heap.size v bs2) (hl : bs2.length ≤ 140737488351232)
    (h : ∀ v' w', BSl w' w'.heap.size v' (bs ++ bs2) → Below w.heap.size w w' → wpList Tryd.prog ops Q rest (a.put o.dst v') w') : wpList Tryd.prog ops Q (o :: rest) a w := by
  subst hn
  obtain ⟨i, hi, hz, hsize, hby⟩ := info_parts (by kernel_rfl : (Tryd.prog.info? 5).map (fun i => (i.zero, i.size, i.bytes)) = some (some (.int .u8 0), 1, 1))
  have hgl := hg.bsl bs.length rfl (by omega)
  obtain ⟨t, fr, hg⟩ := hg
  obtain ⟨A, c, rfl, h1, h2, hrd⟩ := hr
  refine wpList_plain hgd fun K hK => ?_
  have key : ∃ v' w', (Builtin.append_ #[32, 32] o.type #[.slice (some ⟨g, 0, none⟩) bs.length bs.length, .slice A bs2.length c]).run Tryd.prog w = .ok v' w' ∧ BSl w' w'.heap.size v' (bs ++ bs2) ∧ Below w.heap.size w w' := by
    by_cases h0 : bs2.length = 0
    · have hnil : bs2 = [] := List.eq_nil_of_length_eq_zero h0
      subst hnil
      refine ⟨.slice (some ⟨g, 0, none⟩) bs.length bs.length, w, ?_, by simpa using hgl, Below.refl _ _⟩
      have hl0 : ∀ (x : Addr), (loadCells x 0).run Tryd.prog w = .ok #[] w := fun x => by simpa using run_loadCells_list (P := Tryd.prog) w x [] (by simp)
      cases A <;> simp [Builtin.append_, run_underlying Tryd.underlying32, sizeOf, typeInfo, hi, Builtin.lenOf, Builtin.firstCells, storeCells, hl0]
    · obtain ⟨b, o2, rfl, hb, hc⟩ := hrd (by rw [List.length_map]; omega)
      have hsrc : ∀ j v, (bs2.map v8)[j]? = some v → w.cell? ((⟨b, o2, none⟩ : Addr).add j) = some v := by
        intro j v hj
        have := hc j v hj
        unfold Addr.add
        split
        · rename_i e; subst e; exact this
        · exact this
      obtain ⟨v', w', hrun, r1, r2⟩ := run_append_arg_grows (P := Tryd.prog) w 32 o.type 5 i _ 1 1 Tryd.underlying32 hi hz hsize hby rfl (by decide) ⟨g, 0, none⟩ bs.length bs.length (bs.map v8) (by simp)
        (fun j u hj => by rw [Addr.add_lit, Nat.zero_add, cell_of_row w g j _ t fr hg, ← hj]; simp) ⟨b, o2, none⟩ bs2.length c (bs2.map v8) (by simp) hsrc (by omega) (by unfold maxLen; omega) (by omega)
      refine ⟨v', w', hrun, ?_, ?_⟩
      · rw [← List.map_append, show bs.length + bs2.length = ((bs ++ bs2).map v8).length by simp] at r1
        exact BSl.of_own r1
      · exact ⟨r2.os, r2.tape, r2.output, r2.size, fun k hk => r2.block k hk (by simp)⟩
  obtain ⟨v', w', hrun, h3, h4⟩ := key
  unfold Oper.wp execOp
  simp only [ho, resolve, invoke, builtin, Sem.run_bind, Sem.run_pure, Result.andThen_ok, List.map_toArray, List.map_cons, List.map_nil, hs, hx, hrun]
  exact hK _ _ (h v' w' h3 h4)
/-- the same, of some bytes: the row that comes of it is the call's own -/
theorem wpList_appendLitO {w : World} {ops : Array Oper} {rest : List Oper} {o : Oper} {a : Act} {Q : Exit → Act → World → Prop} (hgd : o.guard = none) (s x : Operand)
    (ho : o.op = .call { callee := .builtin .append, args := #[s, x], argTypes := #[32, 32] })
    (g n : Nat) (bs : List UInt8) (hn : bs.length = n) (hg : Lit w g bs) (hs : a.eval s = .slice (some ⟨g, 0, none⟩) n n) (hn0 : n ≤ 1000)
    (v : Value) (bs2 : List UInt8) (hx : a.eval x = v) (hr : BSl w w.heap.size v bs2) (h0 : 0 < bs2.length) (hl : bs2.length ≤ 140737488351232)
    (h : ∀ v' w', w'.ownsRow w.heap.size 5 1 v' ((bs ++ bs2).map v8).length ((bs ++ bs2).map v8) → Below w.heap.size w w' → wpList Tryd.prog ops Q rest (a.put o.dst v') w') : wpList Tryd.prog ops Q (o :: rest) a w := by
  subst hn
  obtain ⟨i, hi, hz, hsize, hby⟩ := info_parts (by kernel_rfl : (Tryd.prog.info? 5).map (fun i => (i.zero, i.size, i.bytes)) = some (some (.int .u8 0), 1, 1))
  obtain ⟨t, fr, hg⟩ := hg
  obtain ⟨A, c, rfl, h1, h2, hrd⟩ := hr
  refine wpList_plain hgd fun K hK => ?_
  have key : ∃ v' w', (Builtin.append_ #[32, 32] o.type #[.slice (some ⟨g, 0, none⟩) bs.length bs.length, .slice A bs2.length c]).run Tryd.prog w = .ok v' w' ∧ w'.ownsRow w.heap.size 5 1 v' ((bs ++ bs2).map v8).length ((bs ++ bs2).map v8) ∧ Below w.heap.size w w' := by
    obtain ⟨b, o2, rfl, hb, hc⟩ := hrd (by rw [List.length_map]; omega)
    have hsrc : ∀ j v, (bs2.map v8)[j]? = some v → w.cell? ((⟨b, o2, none⟩ : Addr).add j) = some v := by
      intro j v hj
      have := hc j v hj
      unfold Addr.add
      split
      · rename_i e; subst e; exact this
      · exact this
    obtain ⟨v', w', hrun, r1, r2⟩ := run_append_arg_grows (P := Tryd.prog) w 32 o.type 5 i _ 1 1 Tryd.underlying32 hi hz hsize hby rfl (by decide) ⟨g, 0, none⟩ bs.length bs.length (bs.map v8) (by simp)
      (fun j u hj => by rw [Addr.add_lit, Nat.zero_add, cell_of_row w g j _ t fr hg, ← hj]; simp) ⟨b, o2, none⟩ bs2.length c (bs2.map v8) (by simp) hsrc (by omega) (by unfold maxLen; omega) (by omega)
    refine ⟨v', w', hrun, ?_, ?_⟩
    · rw [← List.map_append, show bs.length + bs2.length = ((bs ++ bs2).map v8).length by simp] at r1
      exact r1
    · exact ⟨r2.os, r2.tape, r2.output, r2.size, fun k hk => r2.block k hk (by simp)⟩
  obtain ⟨v', w', hrun, h3, h4⟩ := key
  unfold Oper.wp execOp
  simp only [ho, resolve, invoke, builtin, Sem.run_bind, Sem.run_pure, Result.andThen_ok, List.map_toArray, List.map_cons, List.map_nil, hs, hx, hrun]
  exact hK _ _ (h v' w' h3 h4)
end Go.Proofs.YtbhmmoecoijojaaDoor
