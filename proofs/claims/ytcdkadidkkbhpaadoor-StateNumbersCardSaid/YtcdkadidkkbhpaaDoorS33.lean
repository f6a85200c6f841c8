/- Texts that stand behind one another: VerG, VerK, RefH, Lit, RefM. No condition. -/
import Derived.Test.YtcdkadidkkbhpaaDoorS31
import Derived.Test.YtcdkadidkkbhpaaDoorS32
import Derived.Test.YtcdkadidkkbhpaaDoorS12
import Derived.Test.YtcdkadidkkbhpaaDoorS8
import Derived.Test.YtcdkadidkkbhpaaDoorS2
import Derived.ArgAppend
import Derived.Test.YtcdkadidkkbhpaaDoorS17
import Derived.Test.YtcdkadidkkbhpaaDoorS14
/- The walk of verify's Prefix. No condition. -/
namespace Go.Proofs.YtcdkadidkkbhpaaDoor
open Go Go.RowKit
attribute [local irreducible] mixW
attribute [local go_sem] n8_lo n8_hi n64_lo n64_hi n32_lo n32_hi
section
variable {P : Program} {t e : TypeId} {A : Option Addr} {len cap sz : Nat}
theorem run_cut_ls (ht : P.underlying t = some (.slice e)) (hs : (P.info? e).map (·.size) = some sz) (lo : Nat) (h1 : lo ≤ len) (w : World) :
    (Instr.sliceAt t (.slice A len cap) (some (.int .i64 lo)) none none).run P w = .ok (.slice (if cap = lo then A else A.map (·.add (lo * sz))) (len - lo) (cap - lo)) w := by
  obtain ⟨i, hi1, hi2⟩ : ∃ i, P.info? e = some i ∧ i.size = sz := by
    cases hq : P.info? e with
    | none => rw [hq] at hs; cases hs
    | some i => rw [hq] at hs; exact ⟨i, rfl, by simpa using hs⟩
  have a1 : (lo : Int) ≤ (len : Int) := by omega
  simp [Instr.sliceAt, Instr.slice, run_underlying ht, Instr.sliceBounds, run_sliceBound, hi1, hi2, sizeOf, typeInfo, a1]
theorem wpList_tailD {w : World} {ops : Array Oper} {a : Act} {o : Oper} {rest : List Oper} {Q : Exit → Act → World → Prop} (hg : o.guard = none) (t : TypeId) (x : Operand) (ho : o.op = .slice t x (some (.const (.int .i64 1))) none none) (e : TypeId) (ht : P.underlying t = some (.slice e)) (hs : (P.info? e).map (·.size) = some sz)
    (A : Option Addr) (len cap : Nat) (hx : a.eval x = .slice A len cap) (h1 : 1 ≤ len)
    (hk : ∀ A2, (cap ≠ 1 → A2 = A.map (·.add (1 * sz))) → wpList P ops Q rest (a.put o.dst (.slice A2 (len - 1) (cap - 1))) w) : wpList P ops Q (o :: rest) a w :=
  wpList_plain hg fun K hK => by
    have hc : a.eval (.const (.int .i64 1)) = .int .i64 ((1 : Nat) : Int) := rfl
    unfold Oper.wp execOp
    simp only [ho, Option.map_some, Option.map_none, hx, hc, Sem.run_bind, run_cut_ls ht hs 1 h1, Result.andThen_ok, Sem.run_pure]
    exact hK _ _ (hk _ (fun h => if_neg h))
end
/-- which hashes the way of two roots begins with -/
def prefC (n m : Nat) (old : List UInt8) (ps : List (List UInt8)) : List (List UInt8) := (if isPow m then [cutL old n] else []) ++ ps.map (fun p => cutL p n)
theorem prefS_main (n m s : Nat) (old root : List UInt8) (ps : List (List UInt8)) (h0 : m ≠ 0) (h1 : ¬ s < m) (h2 : m ≠ s) (h3 : ps ≠ []) (c : List UInt8) (cs : List (List UInt8)) (hc : prefC n m old ps = c :: cs) :
    prefS n m s old root ps = match prefW n cs (podd (m - 1) (s - 1)).1 (podd (m - 1) (s - 1)).2 c c with
      | some (fr, sr) => decide (fr = cutL old n) && decide (sr = cutL root n)
      | none => false := by
  unfold prefS
  rw [if_neg (by omega), if_neg h2, if_neg h3]
  unfold prefC at hc
  rw [hc]; rfl
theorem prefC_len (n m : Nat) (old : List UInt8) (ho : old.length = 32) (ps : List (List UInt8)) (hall : ∀ d ∈ ps, d.length = 32) : ∀ d ∈ prefC n m old ps, d.length = 32 := by
  intro d hd
  rcases List.mem_append.1 hd with h | h
  · split at h
    · rw [List.mem_singleton.1 h]; exact cutL_length _ _ ho
    · cases h
  · obtain ⟨p, hp, rfl⟩ := List.mem_map.1 h
    exact cutL_length _ _ (hall p hp)
theorem prefC_size (n m : Nat) (old : List UInt8) (ps : List (List UInt8)) : ps.length ≤ (prefC n m old ps).length ∧ (prefC n m old ps).length ≤ ps.length + 1 := by
  unfold prefC
  rw [List.length_append, List.length_map]
  split <;> simp <;> omega
end Go.Proofs.YtcdkadidkkbhpaaDoor

/- The walk of deponentlaw9's known. No condition. -/
namespace Go.Proofs.YtcdkadidkkbhpaaDoor
open Go Go.RowKit
attribute [local irreducible] mixW
attribute [local go_sem] n8_lo n8_hi n64_lo n64_hi n32_lo n32_hi
/-- a literal of bytes, converted to its own type -/
theorem wpList_convLit {w : World} {ops : Array Oper} {rest : List Oper} {o : Oper} {a : Act} {Q : Exit → Act → World → Prop} (hgd : o.guard = none) (x : Operand) (ho : o.op = .convert 23 23 x)
    (w0 : World) (n : Nat) (bs : List UInt8) (hn : bs.length = n) (hn1 : n ≤ 1000) (hx : a.eval x = .slice (some ⟨w0.heap.size, 0, none⟩) n n) (hw : w = w0.alloc (.cells (bs.map v8).toArray 5))
    (h : ∀ W, BSl W W.heap.size (.slice (some ⟨w0.heap.size, 0, none⟩) n n) bs → Below w0.heap.size w0 W → wpList Tryd.prog ops Q rest (a.put o.dst (.slice (some ⟨w0.heap.size, 0, none⟩) n n)) W) : wpList Tryd.prog ops Q (o :: rest) a w := by
  subst hw
  refine wpList_convSelf hgd _ 5 x ho Tryd.underlying23 Tryd.underlying5 w0.heap.size n n hx bs (Lit.new w0 bs 5) ?_
  intro k
  exact h _ (((Lit.new w0 bs 5).freeze ⟨w0.heap.size, k, none⟩ 1).bsl n hn (by omega)) (below_freeze (below_new1 w0 _) ⟨w0.heap.size, k, none⟩ (Nat.le_refl _) 1)
theorem leafM_cut (n : Nat) (b : List UInt8) : cutL (leafM n b) n = leafM n b := cutL_sum n (0 :: b)
theorem leafS_self (n : Nat) (b : List UInt8) : leafS n b 0 1 [] (leafM n b) = true := by
  unfold leafS
  rw [if_neg (by decide), wayS_nil, if_pos rfl]
  show decide (sumM n (0 :: b) = cutL (leafM n b) n) = true
  rw [leafM_cut]; exact decide_eq_true rfl
theorem leafS_more (n : Nat) (b d r : List UInt8) : leafS n b 0 1 [d] r = false := by
  unfold leafS
  rw [if_neg (by decide), wayS_end, if_neg (by simp)]
theorem prefS_self (n : Nat) (r : List UInt8) : prefS n 1 1 r r [] = true := by
  unfold prefS
  rw [if_neg (by decide), if_pos rfl]; simp
theorem prefS_none (n s : Nat) (o r : List UInt8) (p : List (List UInt8)) : prefS n 0 s o r p = false := if_pos (.inl rfl)
theorem kw32b : cutW 32 = 32 := by decide
end Go.Proofs.YtcdkadidkkbhpaaDoor

/- The walk of the reference's Cut. No condition. -/
namespace Go.Proofs.YtcdkadidkkbhpaaDoor
open Go.RowKit
attribute [local go_sem] n8_lo n8_hi
def rcutF (d : List UInt8) (n : Int) (k p : Nat) : UInt8 := if p < k ∧ n ≤ (p : Int) then 0 else d.getD p 0
theorem rcut_0 (d : List UInt8) (n : Int) : rcutF d n 0 = fun p => d.getD p 0 := by funext p; unfold rcutF; rw [if_neg (by omega)]
theorem rcut_step (d : List UInt8) (n : Int) (k : Nat) (h : n ≤ (k : Int)) : (fun p => if p = k then 0 else rcutF d n k p) = rcutF d n (k + 1) := by
  funext p
  unfold rcutF
  by_cases h1 : p = k
  · rw [if_pos h1, if_pos (by omega)]
  · rw [if_neg h1]
    by_cases h2 : p < k ∧ n ≤ (p : Int)
    · rw [if_pos h2, if_pos (by omega)]
    · rw [if_neg h2, if_neg (by omega)]
theorem rcut_stay (d : List UInt8) (n : Int) (k : Nat) (h : ¬ n ≤ (k : Int)) : rcutF d n k = rcutF d n (k + 1) := by
  funext p
  unfold rcutF
  by_cases h2 : p < k ∧ n ≤ (p : Int)
  · rw [if_pos h2, if_pos (by omega)]
  · rw [if_neg h2, if_neg (by omega)]
theorem rcut_end (d : List UInt8) (n : Int) (hd : d.length = 32) : arr 32 (rcutF d n 32) = dat (cutL d n) := by
  rw [dat_eq _ (cutL_length d n hd), cutL_arr d n hd]
  apply arr_congr
  intro p hp
  unfold rcutF
  by_cases h : (p : Int) < n
  · rw [if_pos h, if_neg (by omega)]
  · rw [if_neg h, if_pos (by omega)]
set_option maxRecDepth 100000 in
theorem rcut_any (d : List UInt8) (hd : d.length = 32) (n : Int) (w : World) :
    Calls Tryd.prog 88 #[.agg (dat d), .int .i64 n] w fun e w' => e = .returned (.agg (dat (cutL d n))) ∧ Below w.heap.size w w' := by
  have hE := Lib.hid (rcut_end d n hd)
  show Calls _ _ #[.agg (arr 32 fun p => d.getD p 0), .int .i64 n] _ _
  go_enter Tryd.func88, Tryd.ntmps88
  go_wp2
  refine wp_at (fun W => Blk W w.heap.size 38 (arr 32 (rcutF d n 0)) ∧ Blk W (w.heap.size + 1) 38 (arr 32 fun _ => 0) ∧ Below w.heap.size w W)
    ⟨by rw [rcut_0]; exact (Blk.new w _ _).alloc _, Blk.new2 _ _ _ _, ((Below.refl _ _).alloc (Nat.le_refl _) _).alloc (by simp) _⟩ ?_
  intro W ⟨hA, hB, hbel⟩
  go_loopw [5] (fun iv wr => ∃ k : Nat, k ≤ 32 ∧ iv = .int .i64 k ∧ Blk wr w.heap.size 38 (arr 32 (rcutF d n k)) ∧ Blk wr (w.heap.size + 1) 38 (arr 32 fun _ => 0) ∧ Below w.heap.size w wr) (fun iv _ => 32 - (intOf iv).toNat)
  case atStart => exact ⟨0, by omega, rfl, hA, hB, hbel⟩
  case round =>
    clear hA hB hbel
    obtain ⟨k, hk, rfl, hA, hB, hbel⟩ := hrel
    by_cases hlt : k < 32
    · have cD := hA.cell k
      rw [arr_at _ _ _ hlt] at cD
      have fD := hA.frozen k
      by_cases hn : n ≤ (k : Int)
      · go_wp2
        go_roundw
        case rel =>
          have hst := hA.set k (v8 0)
          rw [arr_set, rcut_step d n k hn] at hst
          exact ⟨k + 1, by omega, by go_num, hst, hB.far (p := ⟨w.heap.size, k, none⟩) (by show _ ≠ w.heap.size; omega) _, hbel.setCell (p := ⟨w.heap.size, k, none⟩) (Nat.le_refl _) _⟩
        case measure => simp [intOf]; omega
      · go_wp2
        go_roundw
        case rel =>
          rw [rcut_stay d n k hn] at hA
          exact ⟨k + 1, by omega, by go_num, hA, hB, hbel⟩
        case measure => simp [intOf]; omega
    · have ek : k = 32 := by omega
      rw [ek] at hA
      clear ek
      go_wp2_with (first
        | (refine wpList_load_row rfl 38 (.tmp 2) rfl w.heap.size rfl _ _ _ _ hA Tryd.underlying38 rfl (by kernel_rfl) ?_)
        | (refine wpList_storeArr rfl rfl 38 (.tmp 4) (.tmp 15) rfl (w.heap.size + 1) rfl 32 _ _ rfl _ hB (by kernel_rfl) ?_; intro w6 hR6 hon6))
      have hb6 := below_only hbel hon6 (by omega) hbel.size
      refine bodyPost_ret (results_cell_row (p := 4) (ty := 38) rfl _ _ (w.heap.size + 1) _ _ _ _ rfl hR6 Tryd.underlying38 rfl (by kernel_rfl)) rfl ⟨?_, hb6⟩
      rw [hE.out]
end Go.Proofs.YtcdkadidkkbhpaaDoor

/- append of bytes onto a full slice of marked bytes. No condition. -/
namespace Go.Proofs.YtcdkadidkkbhpaaDoor
open Go Go.RowKit
theorem Lit.below {V V' : World} {g : Nat} {bs : List UInt8} (h : Lit V g bs) (hb : Below V.heap.size V V') : Lit V' g bs := by
  have hl := h.lt
  obtain ⟨t, fr, h⟩ := h
  exact ⟨t, fr, (hb.block g hl).trans h⟩
theorem wpList_appendLit {w : World} {ops : Array Oper} {rest : List Oper} {o : Oper} {a : Act} {Q : Exit → Act → World → Prop} (hgd : o.guard = none) (s x : Operand)
    (ho : o.op = .call { callee := .builtin .append, args := #[s, x], argTypes := #[23, 23] })
    (g n : Nat) (bs : List UInt8) (hn : bs.length = n) (hg : Lit w g bs) (hs : a.eval s = .slice (some ⟨g, 0, none⟩) n n) (hn0 : n ≤ 1000)
    (v : Value) (bs2 : List UInt8) (hx : a.eval x = v) (hr : BSl w w.heap.size v bs2) (hl : bs2.length ≤ 140737488351232)
    (h : ∀ v' w', BSl w' w'.heap.size v' (bs ++ bs2) → Below w.heap.size w w' → wpList Tryd.prog ops Q rest (a.put o.dst v') w') : wpList Tryd.prog ops Q (o :: rest) a w := by
  subst hn
  obtain ⟨i, hi, hz, hsize, hby⟩ := info_parts (by kernel_rfl : (Tryd.prog.info? 5).map (fun i => (i.zero, i.size, i.bytes)) = some (some (.int .u8 0), 1, 1))
  have hgl := hg.bsl bs.length rfl (by omega)
  obtain ⟨t, fr, hg⟩ := hg
  obtain ⟨A, c, rfl, h1, h2, hrd⟩ := hr
  refine wpList_plain hgd fun K hK => ?_
  have key : ∃ v' w', (Builtin.append_ #[23, 23] o.type #[.slice (some ⟨g, 0, none⟩) bs.length bs.length, .slice A bs2.length c]).run Tryd.prog w = .ok v' w' ∧ BSl w' w'.heap.size v' (bs ++ bs2) ∧ Below w.heap.size w w' := by
    by_cases h0 : bs2.length = 0
    · have hnil : bs2 = [] := List.eq_nil_of_length_eq_zero h0
      subst hnil
      refine ⟨.slice (some ⟨g, 0, none⟩) bs.length bs.length, w, ?_, by simpa using hgl, Below.refl _ _⟩
      have hl0 : ∀ (x : Addr), (loadCells x 0).run Tryd.prog w = .ok #[] w := fun x => by simpa using run_loadCells_list (P := Tryd.prog) w x [] (by simp)
      cases A <;> simp [Builtin.append_, run_underlying Tryd.underlying23, sizeOf, typeInfo, hi, Builtin.lenOf, Builtin.firstCells, storeCells, hl0]
    · obtain ⟨b, o2, rfl, hb, hc⟩ := hrd (by rw [List.length_map]; omega)
      have hsrc : ∀ j v, (bs2.map v8)[j]? = some v → w.cell? ((⟨b, o2, none⟩ : Addr).add j) = some v := by
        intro j v hj
        have := hc j v hj
        unfold Addr.add
        split
        · rename_i e; subst e; exact this
        · exact this
      obtain ⟨v', w', hrun, r1, r2⟩ := run_append_arg_grows (P := Tryd.prog) w 23 o.type 5 i _ 1 1 Tryd.underlying23 hi hz hsize hby rfl (by decide) ⟨g, 0, none⟩ bs.length bs.length (bs.map v8) (by simp)
        (fun j u hj => by rw [Addr.add_lit, Nat.zero_add, cell_of_row w g j _ t fr hg, ← hj]; simp) ⟨b, o2, none⟩ bs2.length c (bs2.map v8) (by simp) hsrc (by omega) (by unfold maxLen; omega) (by omega)
      refine ⟨v', w', hrun, ?_, ?_⟩
      · rw [← List.map_append, show bs.length + bs2.length = ((bs ++ bs2).map v8).length by simp] at r1
        exact BSl.of_own r1
      · exact ⟨r2.os, r2.tape, r2.output, r2.size, fun k hk => r2.block k hk (by simp)⟩
  obtain ⟨v', w', hrun, h3, h4⟩ := key
  unfold Oper.wp execOp
  simp only [ho, resolve, invoke, builtin, Sem.run_bind, Sem.run_pure, Result.andThen_ok, List.map_toArray, List.map_cons, List.map_nil, hs, hx, hrun]
  exact hK _ _ (h v' w' h3 h4)
/-- the same, of some bytes: the row that comes of it is the call's own -/
theorem wpList_appendLitO {w : World} {ops : Array Oper} {rest : List Oper} {o : Oper} {a : Act} {Q : Exit → Act → World → Prop} (hgd : o.guard = none) (s x : Operand)
    (ho : o.op = .call { callee := .builtin .append, args := #[s, x], argTypes := #[23, 23] })
    (g n : Nat) (bs : List UInt8) (hn : bs.length = n) (hg : Lit w g bs) (hs : a.eval s = .slice (some ⟨g, 0, none⟩) n n) (hn0 : n ≤ 1000)
    (v : Value) (bs2 : List UInt8) (hx : a.eval x = v) (hr : BSl w w.heap.size v bs2) (h0 : 0 < bs2.length) (hl : bs2.length ≤ 140737488351232)
    (h : ∀ v' w', w'.ownsRow w.heap.size 5 1 v' ((bs ++ bs2).map v8).length ((bs ++ bs2).map v8) → Below w.heap.size w w' → wpList Tryd.prog ops Q rest (a.put o.dst v') w') : wpList Tryd.prog ops Q (o :: rest) a w := by
  subst hn
  obtain ⟨i, hi, hz, hsize, hby⟩ := info_parts (by kernel_rfl : (Tryd.prog.info? 5).map (fun i => (i.zero, i.size, i.bytes)) = some (some (.int .u8 0), 1, 1))
  obtain ⟨t, fr, hg⟩ := hg
  obtain ⟨A, c, rfl, h1, h2, hrd⟩ := hr
  refine wpList_plain hgd fun K hK => ?_
  have key : ∃ v' w', (Builtin.append_ #[23, 23] o.type #[.slice (some ⟨g, 0, none⟩) bs.length bs.length, .slice A bs2.length c]).run Tryd.prog w = .ok v' w' ∧ w'.ownsRow w.heap.size 5 1 v' ((bs ++ bs2).map v8).length ((bs ++ bs2).map v8) ∧ Below w.heap.size w w' := by
    obtain ⟨b, o2, rfl, hb, hc⟩ := hrd (by rw [List.length_map]; omega)
    have hsrc : ∀ j v, (bs2.map v8)[j]? = some v → w.cell? ((⟨b, o2, none⟩ : Addr).add j) = some v := by
      intro j v hj
      have := hc j v hj
      unfold Addr.add
      split
      · rename_i e; subst e; exact this
      · exact this
    obtain ⟨v', w', hrun, r1, r2⟩ := run_append_arg_grows (P := Tryd.prog) w 23 o.type 5 i _ 1 1 Tryd.underlying23 hi hz hsize hby rfl (by decide) ⟨g, 0, none⟩ bs.length bs.length (bs.map v8) (by simp)
      (fun j u hj => by rw [Addr.add_lit, Nat.zero_add, cell_of_row w g j _ t fr hg, ← hj]; simp) ⟨b, o2, none⟩ bs2.length c (bs2.map v8) (by simp) hsrc (by omega) (by unfold maxLen; omega) (by omega)
    refine ⟨v', w', hrun, ?_, ?_⟩
    · rw [← List.map_append, show bs.length + bs2.length = ((bs ++ bs2).map v8).length by simp] at r1
      exact r1
    · exact ⟨r2.os, r2.tape, r2.output, r2.size, fun k hk => r2.block k hk (by simp)⟩
  obtain ⟨v', w', hrun, h3, h4⟩ := key
  unfold Oper.wp execOp
  simp only [ho, resolve, invoke, builtin, Sem.run_bind, Sem.run_pure, Result.andThen_ok, List.map_toArray, List.map_cons, List.map_nil, hs, hx, hrun]
  exact hK _ _ (h v' w' h3 h4)
end Go.Proofs.YtcdkadidkkbhpaaDoor

/- The walks of the reference deponentref8: New, sum, the texts, Leaf, Node. No condition. -/
namespace Go.Proofs.YtcdkadidkkbhpaaDoor
open Go.RowKit
attribute [local irreducible] mixW
attribute [local go_sem] n8_lo n8_hi n64_lo n64_hi n32_lo n32_hi
/-- v is a Hasher of a width, below block B -/
def Hsr (w : World) (B : Nat) (v : Value) (n : Nat) : Prop := ∃ g t, v = .pointer (some ⟨g, 0, none⟩) ∧ g < B ∧ Blk w g 154 #[t, .int .i64 n] ∧ Tbl w B t ∧ 1 ≤ n ∧ n ≤ 32
theorem Hsr.nxt {w w' : World} {v : Value} {n : Nat} (h : Hsr w w.heap.size v n) (hb : Below w.heap.size w w') : Hsr w' w'.heap.size v n := by
  obtain ⟨g, t, rfl, hg, hB, ⟨g2, rfl, hg2, hT⟩, h1, h2⟩ := h
  exact ⟨g, _, rfl, Nat.lt_of_lt_of_le hg hb.size, hB.below hb hg, ⟨g2, rfl, Nat.lt_of_lt_of_le hg2 hb.size, hT.below hb hg2⟩, h1, h2⟩
set_option maxRecDepth 100000 in
theorem new8_any (t : Value) (x : Int) (w : World) (hT : Tbl w w.heap.size t) :
    Calls Tryd.prog 76 #[t, .int .i64 x] w fun e w' => ∃ v, e = .returned v ∧ Hsr w' w'.heap.size v (cutW x) ∧ Below w.heap.size w w' := by
  obtain ⟨g, rfl, hg, hT⟩ := hT
  have fin : ∀ n : Nat, 1 ≤ n → n ≤ 32 → Hsr (w.alloc (Obj.cells #[.pointer (some ⟨g, 0, none⟩), .int .i64 n] 154)) (w.alloc (Obj.cells #[.pointer (some ⟨g, 0, none⟩), .int .i64 n] 154)).heap.size (.pointer (some ⟨w.heap.size, 0, none⟩)) n ∧ Below w.heap.size w (w.alloc (Obj.cells #[.pointer (some ⟨g, 0, none⟩), .int .i64 n] 154)) := fun n h1 h2 => by
    have hb := below_new1 w (Obj.cells #[.pointer (some ⟨g, 0, none⟩), .int .i64 n] 154)
    have hX := Blk.new w 154 #[.pointer (some ⟨g, 0, none⟩), .int .i64 n]
    exact ⟨⟨w.heap.size, _, rfl, hX.lt, hX, ⟨g, rfl, Nat.lt_of_lt_of_le hg hb.size, hT.below hb hg⟩, h1, h2⟩, hb⟩
  by_cases h1 : x < 1
  · have hc : cutW x = 32 := if_pos (.inl h1)
    rw [hc]
    have hf := fin 32 (by decide) (by decide)
    have Hf := Lib.hid hf
    clear fin hf hc
    go_enter Tryd.func76, Tryd.ntmps76
    go_wp2
    go_ret
    exact ⟨_, rfl, Hf.out.1, Hf.out.2⟩
  · by_cases h2 : 32 < x
    · have hc : cutW x = 32 := if_pos (.inr h2)
      rw [hc]
      have hf := fin 32 (by decide) (by decide)
      have Hf := Lib.hid hf
      clear fin hf hc
      go_enter Tryd.func76, Tryd.ntmps76
      go_wp2
      go_ret
      exact ⟨_, rfl, Hf.out.1, Hf.out.2⟩
    · have hf := fin (cutW x) (cutW_lo x) (cutW_hi x)
      have h3 : (cutW x : Int) = x := by unfold cutW; rw [if_neg (by omega)]; omega
      rw [h3] at hf
      have Hf := Lib.hid hf
      clear fin hf h3
      go_enter Tryd.func76, Tryd.ntmps76
      go_wp2
      go_ret
      exact ⟨_, rfl, Hf.out.1, Hf.out.2⟩
set_option maxHeartbeats 400000 in
set_option maxRecDepth 100000 in
theorem r8sum_any (h v : Value) (n : Nat) (b : List UInt8) (w : World) (hh : Hsr w w.heap.size h n) (hv : BSl w w.heap.size v b) (hl : b.length ≤ 140737488355200) :
    Calls Tryd.prog 77 #[h, v] w fun e w' => e = .returned (.agg (dat (sumM n b))) ∧ Below w.heap.size w w' := by
  obtain ⟨g, t, rfl, hg, hB, hT, hn1, hn2⟩ := hh
  obtain ⟨gt, rfl, hgt, hTb⟩ := hT
  have hT : Tbl w w.heap.size (.pointer (some ⟨gt, 0, none⟩)) := ⟨gt, rfl, hgt, hTb⟩
  clear hTb
  have hD := Blk.new w 38 (arr 32 fun _ => 0)
  have hb0 := below_new1 w (Obj.cells (arr 32 fun _ => 0) 38)
  go_enter Tryd.func77, Tryd.ntmps77
  go_upto_region 1 with fail
  refine wp_at (fun W => Blk W w.heap.size 38 (arr 32 fun _ => 0) ∧ Below w.heap.size w W) ⟨hD, hb0⟩ ?_
  clear hD hb0
  rintro W ⟨hD, hbel⟩
  refine wp_region_mixT 11 (.plain 0 <| .plain 1 <| .plain 2 <| .plain 3 <| .plain 4 <| .plain 6 <| .plain 7 <| .plain 8 <| .plain 9 <| .only 5 <| .only 10 <| .done) (by kernel_rfl) (by kernel_rfl) (fun W1 hb1 => ?_)
  replace hD := hD.below hb1 hD.lt
  replace hbel := hbel.trans (hb1.mono hbel.size)
  clear hb1
  have hB1 := hB.below hbel hg
  have c0 : W1.cell? ⟨g, 0, none⟩ = some (.pointer (some ⟨gt, 0, none⟩)) := by have := hB1.cell 0; simpa using this
  have c1 : W1.cell? ⟨g, 1, none⟩ = some (.int .i64 n) := by have := hB1.cell 1; simpa using this
  have hgl := hB1.lt
  clear hB
  iterate 9 (refine mix_plain rfl ?_; (first
    | (refine wpQuiet_nilCheck rfl (.tmp 5) rfl _ rfl ?_; simp only [Act.put, List.setIfInBounds_toArray, List.set_cons_zero, List.set_cons_succ])
    | (refine wpQuiet_nilCheck rfl (.tmp 11) rfl _ rfl ?_; simp only [Act.put, List.setIfInBounds_toArray, List.set_cons_zero, List.set_cons_succ])
    | (refine wpQuiet_load1 rfl _ (.tmp 7) rfl _ rfl _ Tryd.underlying93 rfl _ (fun _ ⟨e, he⟩ => by rw [he, plus_cell _ _ _ hgl]; exact c0) ?_; simp only [Act.put, List.setIfInBounds_toArray, List.set_cons_zero, List.set_cons_succ])
    | (refine wpQuiet_load1 rfl _ (.tmp 13) rfl _ rfl _ Tryd.underlying3 rfl _ (fun _ ⟨e, he⟩ => by rw [he, plus_cell _ _ _ hgl]; exact c1) ?_; simp only [Act.put, List.setIfInBounds_toArray, List.set_cons_zero, List.set_cons_succ])
    | go_big_quiet_step (fail)); refine wpQuiet_nil ?_)
  clear c0 c1
  refine mix_only rfl (fun K hK => ?_)
  go_wp2_with fail
  refine (rsum_any _ v b W1 (hT.nxt hbel) (hv.next hbel) hl).mono ?_
  rintro e W2 ⟨rfl, hb1⟩
  go_wp2_with fail
  refine hK _ _ hb1 ?_
  clear hK K hB1
  replace hD := hD.below hb1 hD.lt
  replace hbel := hbel.trans (hb1.mono hbel.size)
  clear hb1
  refine mix_only rfl (fun K hK => ?_)
  go_wp2_with fail
  refine (rcut_any (sha b) (sha_length b) (n : Int) W2).mono ?_
  rintro e W3 ⟨rfl, hb1⟩
  go_wp2_with fail
  refine hK _ _ hb1 ?_
  clear hK K
  replace hD := hD.below hb1 hD.lt
  replace hbel := hbel.trans (hb1.mono hbel.size)
  clear hb1
  refine mix_done ?_
  simp only [List.drop_succ_cons, List.drop_zero]
  refine wpList_storeDat rfl rfl 38 (.tmp 4) (.tmp 15) rfl w.heap.size rfl _ _ rfl _ hD (by kernel_rfl) ?_
  intro w10 hD10 hon10
  have hb10 := below_only hbel hon10 (Nat.le_refl _) hbel.size
  go_wp2
  exact bodyPost_ret (results_cell_row (p := 4) (ty := 38) rfl _ _ w.heap.size _ _ _ _ rfl hD10 Tryd.underlying38 rfl (by rw [dat_size]; kernel_rfl)) rfl ⟨rfl, hb10⟩
end Go.Proofs.YtcdkadidkkbhpaaDoor
