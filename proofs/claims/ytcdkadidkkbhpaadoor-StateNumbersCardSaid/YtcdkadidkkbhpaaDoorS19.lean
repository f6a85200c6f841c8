/- Texts that stand behind one another: MakeR, StO, MixA, StNp. No condition. -/
import Derived.Test.YtcdkadidkkbhpaaDoorS15
import Derived.Test.YtcdkadidkkbhpaaDoorS5
import Derived.Test.YtcdkadidkkbhpaaDoorS2
/- make([]T, n) for structs: the new block is n zero rows; one row of a row of the call's own is written. No condition. -/
namespace Go.Proofs.YtcdkadidkkbhpaaDoor
open Go Go.RowKit
theorem flat_replicate_at (zc : Array Value) (n j : Nat) (h0 : 0 < zc.size) (hj : j < n * zc.size) : (flat (List.replicate n zc))[j]? = zc[j % zc.size]? := by
  have h1 : j = (j / zc.size) * zc.size + j % zc.size := by rw [Nat.mul_comm]; exact (Nat.div_add_mod _ _).symm
  have hk : j / zc.size < n := (Nat.div_lt_iff_lt_mul h0).2 hj
  have := flat_at zc.size (List.replicate n zc) (fun c hc => by rw [List.eq_of_mem_replicate hc]) (j / zc.size) (by rw [List.length_replicate]; exact hk) (j % zc.size) (Nat.mod_lt _ h0)
  rw [← h1] at this
  rw [this, List.getD_eq_getElem?_getD, List.getElem?_replicate, if_pos hk]; rfl
theorem made_flat (zc : Array Value) (n : Nat) (h0 : 0 < zc.size) : madeCells zc (n * zc.size) = (flat (List.replicate n zc)).toArray := by
  apply Array.toList_inj.1
  apply List.ext_getElem?
  intro j
  rw [Array.getElem?_toList]
  show (madeCells zc (n * zc.size))[j]? = (flat (List.replicate n zc))[j]?
  by_cases hj : j < n * zc.size
  · rw [flat_replicate_at zc n j h0 hj]
    unfold madeCells
    rw [Array.getElem?_map, Array.getElem?_range, if_pos hj]
    have hm : j % zc.size < zc.size := Nat.mod_lt _ h0
    show some (zc[j % zc.size]!) = _
    rw [getElem!_pos zc _ hm, Array.getElem?_eq_getElem hm]
  · rw [Array.getElem?_eq_none (by rw [size_madeCells]; omega), List.getElem?_eq_none (by rw [flat_len zc.size _ (fun c hc => by rw [List.eq_of_mem_replicate hc]), List.length_replicate]; omega)]
theorem wpList_makeR {P : Program} {w : World} {ops : Array Oper} {rest : List Oper} {o : Oper} {a : Act} {Q : Exit → Act → World → Prop} (hgd : o.guard = none) (ty e : TypeId) (l c : Operand) (ho : o.op = Op.makeSlice ty l c)
    (hu : P.underlying ty = some (.slice e)) (zc : Array Value) (bytes : Nat) (hi : (P.info? e).map (fun i => (i.zero, i.size, i.bytes)) = some (some (.agg zc), zc.size, bytes)) (h0 : 0 < zc.size)
    (kl kc : IntKind) (n : Nat) (hl : a.eval l = .int kl (n : Int)) (hc : a.eval c = .int kc (n : Int)) (h63 : n ≤ 1000000) (hby : bytes ≤ 100000000)
    (h : wpList P ops Q rest (a.put o.dst (.slice (some ⟨w.heap.size, 0, none⟩) n n)) (w.alloc (.cells (flat (List.replicate n zc)).toArray e))) : wpList P ops Q (o :: rest) a w := by
  obtain ⟨i0, hi, hz0, hz1, hz2⟩ := info_parts hi
  refine wpList_plain hgd fun K hK => ?_
  have hb : n * bytes ≤ 1000000 * 100000000 := Nat.mul_le_mul h63 hby
  have hb2 : (bytes : Int) * (n : Int) ≤ 281474976710656 := by
    have h3 : (bytes : Int) * (n : Int) = ((n * bytes : Nat) : Int) := by rw [Nat.mul_comm]; exact (Int.natCast_mul _ _).symm
    omega
  have hr := run_make (P := P) w ty e i0 (.agg zc) hu hi hz0 kl kc n n (by omega) (by omega) (by rw [hz2]; exact hb2) (by omega)
  have hcells : (Value.agg zc).cells = zc := rfl
  rw [Int.toNat_natCast, hz1, hcells, made_flat zc n h0] at hr
  unfold Oper.wp
  simp [execOp, ho, hl, hc, hr, Result.andThen]
  exact hK _ _ h
/-- what is written into one of the rows -/
theorem flat_set (sz : Nat) (cs : List (Array Value)) (hsz : ∀ c ∈ cs, c.size = sz) (k off : Nat) (hk : k < cs.length) (new : List Value) (hf : off + new.length ≤ sz) :
    (flat cs).take (k * sz + off) ++ (new ++ (flat cs).drop (k * sz + off + new.length)) = flat (cs.set k (((cs.getD k #[]).toList.take off ++ (new ++ (cs.getD k #[]).toList.drop (off + new.length))).toArray)) := by
  obtain ⟨L1, x, L2, hl, hk1⟩ : ∃ L1 x L2, cs = L1 ++ x :: L2 ∧ L1.length = k := ⟨cs.take k, cs[k], cs.drop (k + 1), by rw [List.getElem_cons_drop, List.take_append_drop], by rw [List.length_take]; omega⟩
  subst hl
  subst hk1
  have hx : (L1 ++ x :: L2).getD L1.length #[] = x := by simp
  have hs : ∀ m, (L1 ++ x :: L2).set L1.length m = L1 ++ m :: L2 := fun m => by simp
  have hL : (flat L1).length = L1.length * sz := flat_len sz L1 (fun c hc => hsz c (List.mem_append.2 (.inl hc)))
  have hxs : x.toList.length = sz := by rw [Array.length_toList]; exact hsz x (List.mem_append.2 (.inr List.mem_cons_self))
  rw [hx, hs, flat_append, flat_append, flat_cons, flat_cons, ← hL]
  have t1 : List.take ((flat L1).length + off) (flat L1 ++ (x.toList ++ flat L2)) = flat L1 ++ x.toList.take off := by
    rw [List.take_length_add_append, List.take_append_of_le_length (by omega)]
  have t2 : List.drop ((flat L1).length + off + new.length) (flat L1 ++ (x.toList ++ flat L2)) = x.toList.drop (off + new.length) ++ flat L2 := by
    rw [Nat.add_assoc, List.drop_length_add_append, List.drop_append_of_le_length (by omega)]
  rw [t1, t2]
  simp [List.append_assoc]
/-- a row's cells with some of them written over -/
def patch (c : Array Value) (off : Nat) (new : List Value) : Array Value := (c.toList.take off ++ (new ++ c.toList.drop (off + new.length))).toArray
theorem patch_size (c : Array Value) (off : Nat) (new : List Value) (h : off + new.length ≤ c.size) : (patch c off new).size = c.size := by
  unfold patch
  rw [List.size_toArray, List.length_append, List.length_append, List.length_take, List.length_drop, Array.length_toList]
  omega
theorem patch_all (c v : Array Value) (h : v.size = c.size) : patch c 0 v.toList = v := by
  unfold patch
  apply Array.toList_inj.1
  rw [List.take_zero, List.nil_append, List.drop_eq_nil_of_le (by rw [Array.length_toList, Array.length_toList]; omega), List.append_nil]
theorem take_patch (cur : List Value) (N a m : Nat) (new : List Value) (hm : new.length = m) (hN : N ≤ cur.length) (ha : a + m ≤ N) :
    (cur.take a ++ (new ++ cur.drop (a + m))).take N = (cur.take N).take a ++ (new ++ (cur.take N).drop (a + m)) := by
  obtain ⟨A, D, hc, hA⟩ : ∃ A D, cur = A ++ D ∧ A.length = N := ⟨cur.take N, cur.drop N, (List.take_append_drop _ _).symm, by rw [List.length_take]; omega⟩
  subst hc
  subst hA
  have t1 : (A ++ D).take a = A.take a := List.take_append_of_le_length (by omega)
  have t2 : (A ++ D).drop (a + m) = A.drop (a + m) ++ D := List.drop_append_of_le_length (by omega)
  rw [List.take_left, t1, t2, ← List.append_assoc new, ← List.append_assoc (A.take a)]
  have hl : (A.take a ++ (new ++ A.drop (a + m))).length = A.length := by
    rw [List.length_append, List.length_append, List.length_take, List.length_drop]; omega
  rw [List.take_append_of_le_length (by omega), List.take_of_length_le (by omega)]
theorem own_patch {w w' : World} {base g n cap sz : Nat} {e : TypeId} {cs : List (Array Value)} {cur : Array Value} (hsz : ∀ c ∈ cs, c.size = sz) (h : w.ownsRow base e sz (.slice (some ⟨g, 0, none⟩) n cap) cs.length (flat cs)) (k off : Nat) (hk : k < cs.length) (new : List Value) (hf : off + new.length ≤ sz)
    (hcur : Blk w g e cur) (hb : Blk w' g e (cur.toList.take (k * sz + off) ++ (new ++ cur.toList.drop (k * sz + off + new.length))).toArray) :
    w'.ownsRow base e sz (.slice (some ⟨g, 0, none⟩) n cap) (cs.set k (patch (cs.getD k #[]) off new)).length (flat (cs.set k (patch (cs.getD k #[]) off new))) := by
  have hkm : k * sz + sz ≤ cs.length * sz := by rw [← Nat.succ_mul]; exact Nat.mul_le_mul_right _ hk
  rcases h.2 with ⟨e1, h0⟩ | ⟨g', cap', cur', e1, hB, hg, h1, h2, h3, h4⟩
  · omega
  · injection e1 with e1 e2 e3
    injection e1 with e1
    injection e1 with e1
    subst e1; subst e2; subst e3
    have hcc : cur' = cur := by
      have hh : some (Obj.cells cur' e (0, 0)) = some (Obj.cells cur e (0, 0)) := hg.symm.trans hcur
      injection hh with hh
      injection hh
    subst hcc
    have hcl0 : cs.length * sz ≤ cur'.size := by rw [h3]; exact Nat.mul_le_mul_right _ h1
    have hcl : cs.length * sz ≤ cur'.toList.length := by simpa using hcl0
    refine ⟨?_, .inr ⟨g, cap, _, by rw [List.length_set], hB, hb, by rw [List.length_set]; exact h1, h2, ?_, ?_⟩⟩
    · rw [flat_len sz _ (fun c hc => ?_)]
      rcases List.mem_or_eq_of_mem_set hc with hc | hc
      · exact hsz c hc
      · rw [hc, patch_size]
        · exact hsz _ (by rw [List.getD_eq_getElem?_getD, List.getElem?_eq_getElem hk]; exact List.getElem_mem _)
        · rw [hsz _ (by rw [List.getD_eq_getElem?_getD, List.getElem?_eq_getElem hk]; exact List.getElem_mem _)]; exact hf
    · rw [← h3, List.size_toArray, List.length_append, List.length_append, List.length_take, List.length_drop]
      have hl : cur'.toList.length = cur'.size := by simp
      omega
    · rw [List.length_set]
      show (List.take (k * sz + off) cur'.toList ++ (new ++ List.drop (k * sz + off + new.length) cur'.toList)).take (cs.length * sz) = _
      rw [take_patch cur'.toList (cs.length * sz) (k * sz + off) new.length new rfl hcl (by omega), h4]
      exact flat_set sz cs hsz k off hk new hf
/-- a struct is written into one of the rows of a row of the call's own -/
theorem wpList_storeRow {P : Program} {w : World} {ops : Array Oper} {rest : List Oper} {o : Oper} {a : Act} {Q : Exit → Act → World → Prop} (hgd : o.guard = none) (hdst : o.dst = none) (ty : TypeId) (x y : Operand) (ho : o.op = .store ty x y)
    (base sz : Nat) (e : TypeId) (g n cap : Nat) (cs : List (Array Value)) (hown : w.ownsRow base e sz (.slice (some ⟨g, 0, none⟩) n cap) cs.length (flat cs)) (hsz : ∀ c ∈ cs, c.size = sz) (k off : Nat) (hk : k < cs.length)
    (hx : a.eval x = .pointer (some ⟨g, k * sz + off, none⟩)) (vs : Array Value) (hy : a.eval y = .agg vs) (hi : (P.info? ty).map (·.size) = some vs.size) (hf : off + vs.size ≤ sz) (h1 : ∀ v ∈ vs.toList, v.oneCell' = true)
    (h : ∀ w', w'.ownsRow base e sz (.slice (some ⟨g, 0, none⟩) n cap) (cs.set k (patch (cs.getD k #[]) off vs.toList)).length (flat (cs.set k (patch (cs.getD k #[]) off vs.toList))) → w.grownBy w' (some g) → wpList P ops Q rest a w') : wpList P ops Q (o :: rest) a w := by
  have hkm : k * sz + sz ≤ cs.length * sz := by rw [← Nat.succ_mul]; exact Nat.mul_le_mul_right _ hk
  obtain ⟨cur, hcur, hcs⟩ : ∃ cur, Blk w g e cur ∧ cs.length * sz ≤ cur.size := by
    rcases hown.2 with ⟨e1, h0⟩ | ⟨g', cap', cur', e1, hB, hg, h2, h3, h4, h5⟩
    · omega
    · injection e1 with e1 _ _
      injection e1 with e1
      injection e1 with e1
      subst e1
      exact ⟨cur', hg, by rw [h4]; exact Nat.mul_le_mul_right _ h2⟩
  refine wpList_storeB hgd hdst ty x y ho g (k * sz + off) hx vs hy e cur hcur hi (by omega) h1 ?_
  intro w' hb hg
  have e1 : vs.toList.take vs.size = vs.toList := List.take_of_length_le (by simp)
  unfold copied at hb
  rw [e1] at hb
  exact h w' (own_patch hsz hown k off hk vs.toList (by rw [Array.length_toList]; exact hf) hcur hb) hg
/-- one cell is written into one of the rows -/
theorem wpList_storeRow1 {P : Program} {w : World} {ops : Array Oper} {rest : List Oper} {o : Oper} {a : Act} {Q : Exit → Act → World → Prop} (hgd : o.guard = none) (hdst : o.dst = none) (ty : TypeId) (x y : Operand) (ho : o.op = .store ty x y)
    (base sz : Nat) (e : TypeId) (g n cap : Nat) (cs : List (Array Value)) (hown : w.ownsRow base e sz (.slice (some ⟨g, 0, none⟩) n cap) cs.length (flat cs)) (hsz : ∀ c ∈ cs, c.size = sz) (k off : Nat) (hk : k < cs.length)
    (hx : a.eval x = .pointer (some ⟨g, k * sz + off, none⟩)) (v : Value) (hy : a.eval y = v) (hi : (P.info? ty).map (·.size) = some 1) (hf : off < sz) (hv : v.cells = #[v]) (h1 : v.oneCell' = true)
    (h : ∀ w', w'.ownsRow base e sz (.slice (some ⟨g, 0, none⟩) n cap) (cs.set k (patch (cs.getD k #[]) off [v])).length (flat (cs.set k (patch (cs.getD k #[]) off [v]))) → w.grownBy w' (some g) → wpList P ops Q rest a w') : wpList P ops Q (o :: rest) a w := by
  have hkm : k * sz + sz ≤ cs.length * sz := by rw [← Nat.succ_mul]; exact Nat.mul_le_mul_right _ hk
  obtain ⟨cur, hcur, hcs⟩ : ∃ cur, Blk w g e cur ∧ cs.length * sz ≤ cur.size := by
    rcases hown.2 with ⟨e1, h0⟩ | ⟨g', cap', cur', e1, hB, hg, h2, h3, h4, h5⟩
    · omega
    · injection e1 with e1 _ _
      injection e1 with e1
      injection e1 with e1
      subst e1
      exact ⟨cur', hg, by rw [h4]; exact Nat.mul_le_mul_right _ h2⟩
  refine wpList_store1 hgd hdst ty x y ho g (k * sz + off) hx v hy e cur hcur hi (by omega) hv h1 ?_
  intro w' hb hg
  have e1 : cur.setIfInBounds (k * sz + off) v = (cur.toList.take (k * sz + off) ++ ([v] ++ cur.toList.drop (k * sz + off + [v].length))).toArray := by
    apply Array.toList_inj.1
    rw [Array.toList_setIfInBounds]
    show cur.toList.set (k * sz + off) v = _
    rw [List.set_eq_take_append_cons_drop, if_pos (by rw [Array.length_toList]; omega)]
    rfl
  rw [e1] at hb
  exact h w' (own_patch hsz hown k off hk [v] (by simp; omega) hcur hb) hg
end Go.Proofs.YtcdkadidkkbhpaaDoor

/- Chapter 19's states whose rows are the call's own. No condition. -/
namespace Go.Proofs.YtcdkadidkkbhpaaDoor
open Go Go.RowKit
/-- a tree's cells, its rows of the call's own -/
def TreO (w : World) (B : Nat) (c : Array Value) (t : TreL) : Prop := ∃ d l q, c = treC t d l q ∧ w.ownsRow B 22 1 d t.draws.length (t.draws.map v32) ∧ (∃ vs, Own2 w B l vs t.leaves) ∧ (∃ vs, Own2 w B q vs t.queue)
/-- a state's value, its rows of the call's own; the types of a tenant, a tree, a grant -/
def StO (TT RT GT : TypeId) (w : World) (B : Nat) (v : Value) (s : StaL) : Prop := ∃ t r g cs, v = .agg (staC s t r g) ∧ w.ownsRow B TT 6 t (s.tenants.map tenC).length (flat (s.tenants.map tenC)) ∧ w.ownsRow B RT 75 r cs.length (flat cs) ∧ cs.length = s.trees.length ∧ (∀ k, k < s.trees.length → TreO w B (cs.getD k #[]) (s.trees.getD k zeroTre)) ∧ w.ownsRow B GT 4 g (s.grants.map graC).length (flat (s.grants.map graC))
theorem own_nil_ (w : World) (B : Nat) (e : TypeId) : w.ownsRow B e 1 (.slice none 0 0) 0 [] := World.ownsRow_nil _ _ _ _
theorem Own2.nil_ (w : World) (B : Nat) : Own2 w B (.slice none 0 0) [] [] := ⟨rfl, World.ownsRow_nil _ _ _ _, fun i hi => by cases hi⟩
section
variable {w w' : World} {B : Nat}
theorem TreO.tre {c : Array Value} {t : TreL} (h : TreO w B c t) : Tre w w.heap.size c t := by
  obtain ⟨d, l, q, e, h1, ⟨vs, h2⟩, ⟨us, h3⟩⟩ := h
  exact ⟨d, l, q, e, WSl.of_own h1, h2.ssl, h3.ssl⟩
theorem TreO.below {c : Array Value} {t : TreL} (h : TreO w B c t) (hb : Below w.heap.size w w') : TreO w' B c t := by
  obtain ⟨d, l, q, e, h1, ⟨vs, h2⟩, ⟨us, h3⟩⟩ := h
  exact ⟨d, l, q, e, own_below h1 hb, ⟨vs, h2.below hb⟩, ⟨us, h3.below hb⟩⟩
theorem Own2.typed {g : Nat} {t : TypeId} {v : Value} {vs : List Value} {ls : List (List UInt8)} {cs : Array Value} (h : Own2 w B v vs ls) (hg : w.grownBy w' (some g)) (hk : Blk w g t cs) (h1 : t ≠ 5) (h2 : t ≠ 23) : Own2 w' B v vs ls :=
  ⟨h.len, own_typed h.row hg hk h2, fun i hi => own_typed (h.el i hi) hg hk h1⟩
/-- a block of another type is written -/
theorem TreO.typed {g : Nat} {ty : TypeId} {c cs : Array Value} {t : TreL} (h : TreO w B c t) (hg : w.grownBy w' (some g)) (hk : Blk w g ty cs) (h1 : ty ≠ 5) (h2 : ty ≠ 23) (h3 : ty ≠ 22) : TreO w' B c t := by
  obtain ⟨d, l, q, e, k1, ⟨vs, k2⟩, ⟨us, k3⟩⟩ := h
  exact ⟨d, l, q, e, own_typed k1 hg hk h3, ⟨vs, k2.typed hg hk h1 h2⟩, ⟨us, k3.typed hg hk h1 h2⟩⟩
theorem StO.sta {TT RT GT : TypeId} {v : Value} {s : StaL} (h : StO TT RT GT w B v s) : Sta w w.heap.size v s := by
  obtain ⟨t, r, g, cs, e, h1, h2, hl, h3, h4⟩ := h
  refine ⟨t, r, g, e, RX.of_own (fun c hc => ?_) h1, ⟨cs, RX.of_own (fun c hc => ?_) h2, hl, fun k hk => (h3 k hk).tre⟩, RX.of_own (fun c hc => ?_) h4⟩
  · obtain ⟨x, _, rfl⟩ := List.mem_map.1 hc; rfl
  · obtain ⟨k, hk, rfl⟩ := List.mem_iff_getElem.1 hc
    obtain ⟨d, l, q, e2, _⟩ := h3 k (by omega)
    rw [List.getD_eq_getElem?_getD, List.getElem?_eq_getElem hk, Option.getD_some] at e2
    rw [e2, treC_size]
  · obtain ⟨x, _, rfl⟩ := List.mem_map.1 hc; rfl
theorem StO.below {TT RT GT : TypeId} {v : Value} {s : StaL} (h : StO TT RT GT w B v s) (hb : Below w.heap.size w w') : StO TT RT GT w' B v s := by
  obtain ⟨t, r, g, cs, e, h1, h2, hl, h3, h4⟩ := h
  exact ⟨t, r, g, cs, e, own_below h1 hb, own_below h2 hb, hl, fun k hk => (h3 k hk).below hb, own_below h4 hb⟩
/-- a block whose type is none of the state's is written -/
theorem StO.typed {TT RT GT : TypeId} {g : Nat} {ty : TypeId} {cs : Array Value} {v : Value} {s : StaL} (h : StO TT RT GT w B v s) (hg : w.grownBy w' (some g)) (hk : Blk w g ty cs) (h1 : ty ≠ 5) (h2 : ty ≠ 23) (h3 : ty ≠ 22) (h4 : ty ≠ TT) (h5 : ty ≠ RT) (h6 : ty ≠ GT) : StO TT RT GT w' B v s := by
  obtain ⟨t, r, g', cs', e, k1, k2, hl, k3, k4⟩ := h
  exact ⟨t, r, g', cs', e, own_typed k1 hg hk h4, own_typed k2 hg hk h5, hl, fun k hk' => (k3 k hk').typed hg hk h1 h2 h3, own_typed k4 hg hk h6⟩
end
end Go.Proofs.YtcdkadidkkbhpaaDoor

/- MIX with any number of operations that may come up at once: one is taken first, or it waits. No condition. -/
namespace Go.Proofs.YtcdkadidkkbhpaaDoor
open Go Go.RowKit
/-- How a region is walked: more i p q: operation i is one of those that may come up; p is the plan if it comes first, q the plan if another one does. -/
inductive PlanA where
  | done
  | plain (i : Nat) (p : PlanA)
  | only (i : Nat) (p : PlanA)
  | more (i : Nat) (p q : PlanA)
section
variable {P : Program} {ops : Array Oper} {md : Region.Mode} {Q : Exit → Act → World → Prop} {S : World → Prop}
def mixWA (P : Program) (ops : Array Oper) (K : Act → World → Prop) : PlanA → (World → Prop) → Act → World → Prop
  | .done, _, a, w => K a w
  | .plain i p, S, a, w => match ops[i]? with
    | none => False
    | some o => wpQuiet P ops S (fun a' => mixWA P ops K p S a' w) [o] a
  | .only i p, S, a, w => match ops[i]? with
    | none => False
    | some o => wpList P ops (OnlyK fun a' w' => ∃ S' : World → Prop, (∀ w, S' w → S w) ∧ S' w' ∧ mixWA P ops K p S' a' w') [o] a w
  | .more i p q, S, a, w => (match ops[i]? with
    | none => False
    | some o => wpList P ops (OnlyK fun a' w' => ∃ S' : World → Prop, (∀ w, S' w → S w) ∧ S' w' ∧ mixWA P ops K p S' a' w') [o] a w) ∧ mixWA P ops K q S a w
def PlanA.len : PlanA → Nat
  | .done => 0
  | .plain _ p => p.len + 1
  | .only _ p => p.len + 1
  | .more _ p _ => p.len + 1
def mixBA (md : Region.Mode) (ops : Array Oper) : PlanA → List Nat → Array Bool → Bool
  | .done, ex, listed => ex.isEmpty && (Region.ready md ops listed).isEmpty
  | .plain i p, ex, listed => ex.isEmpty && Region.free md ops listed i && (Region.ready md ops listed).contains i && ((ops[i]?).map plainOp).getD false && mixBA md ops p [] (listed.setIfInBounds i true)
  | .only i p, ex, listed => (Region.ready md ops listed).contains i && ((Region.ready md ops listed).all fun j => j == i || ex.contains j) && mixBA md ops p [] (listed.setIfInBounds i true)
  | .more i p q, ex, listed => (q.len == p.len + 1) && mixBA md ops p [] (listed.setIfInBounds i true) && mixBA md ops q (i :: ex) listed
theorem wpAnyM_of_mixA (hsel : Region.noSelect ops = true) : ∀ (p : PlanA) (ex : List Nat) (S : World → Prop) (listed : Array Bool) (a : Act) (w : World), mixBA md ops p ex listed = true →
    (∀ j ∈ ex, wpOp P ops (OnlyK (Q .normal)) j (fun a' w' => ∃ S' : World → Prop, (∀ w, S' w → S w) ∧ S' w' ∧ wpAnyM P md ops (OnlyK (Q .normal)) (p.len - 1) S' (listed.setIfInBounds j true) a' w') a w) →
    S w → mixWA P ops (Q .normal) p S a w → wpAnyM P md ops (OnlyK (Q .normal)) p.len S listed a w
  | .done, ex, S, listed, a, w, hB, hx, hS, h => by
    simp only [mixBA, Bool.and_eq_true] at hB
    exact ⟨by simpa using hB.2, h⟩
  | .plain i p, ex, S, listed, a, w, hB, hx, hS, h => by
    simp only [mixBA, Bool.and_eq_true] at hB
    obtain ⟨⟨⟨⟨he, hf⟩, hr⟩, hp⟩, hB⟩ := hB
    unfold mixWA at h
    cases ho : ops[i]? with
    | none => rw [ho] at h; exact h.elim
    | some o =>
      rw [ho] at h hp
      obtain ⟨v, hy, hK⟩ := yieldsIf_of_quiet (by simpa using hp) h
      exact wpAnyM_first ho (Region.noSelect_spec hsel) (fun _ _ _ h => h) _ S listed a w (Region.free_spec ho hf) (by simpa using hr) hy hS (wpAnyM_of_mixA hsel p [] S _ _ w hB (fun j hj => by cases hj) hS hK)
  | .only i p, ex, S, listed, a, w, hB, hx, hS, h => by
    simp only [mixBA, Bool.and_eq_true] at hB
    obtain ⟨⟨hc, hr⟩, hB⟩ := hB
    unfold mixWA at h
    have hi : wpOp P ops (OnlyK (Q .normal)) i (fun a' w' => ∃ S' : World → Prop, (∀ w, S' w → S w) ∧ S' w' ∧ wpAnyM P md ops (OnlyK (Q .normal)) p.len S' (listed.setIfInBounds i true) a' w') a w := by
      cases ho : ops[i]? with
      | none => rw [ho] at h; exact h.elim
      | some o =>
        rw [ho] at h
        exact wpOp_mono (fun a' w' ⟨S', h1, h2, h3⟩ => ⟨S', h1, h2, wpAnyM_of_mixA hsel p [] S' _ a' w' hB (fun j hj => by cases hj) h2 h3⟩) (wpOp_of_list ho h)
    refine ⟨fun h0 => (by rw [h0] at hc; simp at hc), fun j hj => ?_⟩
    have := List.all_eq_true.1 hr j hj
    simp only [Bool.or_eq_true, beq_iff_eq] at this
    rcases this with rfl | hc
    · exact hi
    · exact hx j (by simpa using hc)
  | .more i p q, ex, S, listed, a, w, hB, hx, hS, h => by
    simp only [mixBA, Bool.and_eq_true, beq_iff_eq] at hB
    obtain ⟨⟨hl, hB1⟩, hB2⟩ := hB
    unfold mixWA at h
    have hi : wpOp P ops (OnlyK (Q .normal)) i (fun a' w' => ∃ S' : World → Prop, (∀ w, S' w → S w) ∧ S' w' ∧ wpAnyM P md ops (OnlyK (Q .normal)) p.len S' (listed.setIfInBounds i true) a' w') a w := by
      cases ho : ops[i]? with
      | none => rw [ho] at h; exact h.1.elim
      | some o =>
        rw [ho] at h
        exact wpOp_mono (fun a' w' ⟨S', h1, h2, h3⟩ => ⟨S', h1, h2, wpAnyM_of_mixA hsel p [] S' _ a' w' hB1 (fun j hj => by cases hj) h2 h3⟩) (wpOp_of_list ho h.1)
    have hq := wpAnyM_of_mixA hsel q (i :: ex) S listed a w hB2 (fun j hj => by
      rw [hl, Nat.add_sub_cancel]
      rcases List.mem_cons.1 hj with rfl | hj
      · exact hi
      · exact hx j hj) hS h.2
    rw [hl] at hq
    exact hq
/-- A region that draws its order, walked by such a plan. -/
theorem wp_region_mixA {id : Nat} {a : Act} {w : World} {l : List Oper} (p : PlanA) (S : World → Prop) (hm : P.follows .mixedOrders = true)
    (hB : (Region.noSelect l.toArray && (p.len == l.length) && mixBA .any l.toArray p [] (Array.replicate l.length false)) = true) (hS : S (w.drewN 1))
    (h : mixWA P l.toArray (Q .normal) p S a (w.drewN 1)) : (Code.region id l.toArray true).wp P Q a w := by
  simp only [Bool.and_eq_true, beq_iff_eq] at hB
  obtain ⟨⟨hs, hl⟩, hB⟩ := hB
  refine Code.wp_mono (Q := OnlyK (Q .normal)) onlyK_imp (wp_region_any hm ?_)
  have := wpAny_of_mix _ _ _ _ _ (wpAnyM_of_mixA (P := P) (Q := Q) hs p [] S _ a _ hB (fun j hj => by cases hj) hS h)
  rw [hl] at this
  exact this
/-- The same, where all but the plain operations only make memory, or write what is new. -/
theorem wp_region_mixAP {id : Nat} {a : Act} {w : World} {l : List Oper} (p : PlanA) (hm : P.follows .mixedOrders = true)
    (hB : (Region.noSelect l.toArray && (p.len == l.length) && mixBA .any l.toArray p [] (Array.replicate l.length false)) = true)
    (h : ∀ W, Below w.heap.size w W → mixWA P l.toArray (Q .normal) p (fun v => ∃ e, v = plus W e) a W) : (Code.region id l.toArray true).wp P Q a w :=
  wp_region_mixA p (fun v => ∃ e, v = plus (w.drewN 1) e) hm hB (in_plus (w := w.drewN 1)) (h _ (below_drewN (Below.refl _ w) 1))
section
variable {l : List Oper} {K : Act → World → Prop} {p q : PlanA} {i : Nat} {o : Oper} {a : Act} {w : World}
theorem mixA_done (h : K a w) : mixWA P l.toArray K .done S a w := h
theorem mixA_plain (ho : opAt l i = some o) (h : wpQuiet P l.toArray S (fun a' => mixWA P l.toArray K p S a' w) [o] a) : mixWA P l.toArray K (.plain i p) S a w := by
  unfold mixWA; rw [opAt_eq, ho]; exact h
theorem mixA_only (ho : opAt l i = some o) (h : ∀ K' : Act → World → Prop, (∀ a' w', S w' → mixWA P l.toArray K p S a' w' → K' a' w') → wpList P l.toArray (OnlyK K') [o] a w) : mixWA P l.toArray K (.only i p) S a w := by
  unfold mixWA; rw [opAt_eq, ho]
  exact h _ fun a' w' hS h' => ⟨S, fun _ h => h, hS, h'⟩
theorem mixA_more (ho : opAt l i = some o) (h : ∀ K' : Act → World → Prop, (∀ a' w', S w' → mixWA P l.toArray K p S a' w' → K' a' w') → wpList P l.toArray (OnlyK K') [o] a w) (h' : mixWA P l.toArray K q S a w) : mixWA P l.toArray K (.more i p q) S a w := by
  unfold mixWA; rw [opAt_eq, ho]
  exact ⟨h _ fun a' w' hS h' => ⟨S, fun _ h => h, hS, h'⟩, h'⟩
/-- the world at a place of such a plan, by what is known of it -/
theorem mixA_at (R : World → Prop) (hR : R w) (h : ∀ W, R W → mixWA P l.toArray K p S a W) : mixWA P l.toArray K p S a w := h w hR
end
end
end Go.Proofs.YtcdkadidkkbhpaaDoor

/- The plan of state.New's region that makes its rows. No condition. -/
namespace Go.Proofs.YtcdkadidkkbhpaaDoor
def planNew : PlanA := .plain 2 (.more 0 (.more 1 (.more 3 (.plain 4 (.only 5 (.only 6 .done))) (.only 5 (.only 3 (.plain 4 (.only 6 .done))))) (.more 3 (.more 1 (.plain 4 (.only 5 (.only 6 .done))) (.only 5 (.only 1 (.plain 4 (.only 6 .done))))) (.only 5 (.more 1 (.only 3 (.plain 4 (.only 6 .done))) (.only 3 (.only 1 (.plain 4 (.only 6 .done)))))))) (.more 1 (.more 0 (.more 3 (.plain 4 (.only 5 (.only 6 .done))) (.only 5 (.only 3 (.plain 4 (.only 6 .done))))) (.more 3 (.more 0 (.plain 4 (.only 5 (.only 6 .done))) (.only 5 (.only 0 (.plain 4 (.only 6 .done))))) (.only 5 (.more 0 (.only 3 (.plain 4 (.only 6 .done))) (.only 3 (.only 0 (.plain 4 (.only 6 .done)))))))) (.more 3 (.more 0 (.more 1 (.plain 4 (.only 5 (.only 6 .done))) (.only 5 (.only 1 (.plain 4 (.only 6 .done))))) (.more 1 (.more 0 (.plain 4 (.only 5 (.only 6 .done))) (.only 5 (.only 0 (.plain 4 (.only 6 .done))))) (.only 5 (.more 0 (.only 1 (.plain 4 (.only 6 .done))) (.only 1 (.only 0 (.plain 4 (.only 6 .done)))))))) (.only 5 (.more 0 (.more 1 (.only 3 (.plain 4 (.only 6 .done))) (.only 3 (.only 1 (.plain 4 (.only 6 .done))))) (.more 1 (.more 0 (.only 3 (.plain 4 (.only 6 .done))) (.only 3 (.only 0 (.plain 4 (.only 6 .done))))) (.only 3 (.more 0 (.only 1 (.plain 4 (.only 6 .done))) (.only 1 (.only 0 (.plain 4 (.only 6 .done))))))))))))
end Go.Proofs.YtcdkadidkkbhpaaDoor
