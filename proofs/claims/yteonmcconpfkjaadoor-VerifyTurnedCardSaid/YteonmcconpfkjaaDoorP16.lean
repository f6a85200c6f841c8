/- Texts that stand behind one another: ZerosD, ZerosE. No condition. -/
import Derived.Test.YteonmcconpfkjaaDoorP15
/- append(s, make([]T, n)...) onto a row of the call's own, elements of any number of cells. No condition. -/
namespace Go.Proofs.YteonmcconpfkjaaDoor
open Go Go.RowKit
section
variable {P : Program}
theorem run_append_zeros_at (w : World) (base : Nat) (t ty e it : TypeId) (i : TypeInfo) (z : Value) (bytes : Nat) (k kk : IntKind) (ht : P.underlying t = some (.slice e)) (hit : P.underlying it = some (.int k)) (hi : P.info? e = some i) (hz : i.zero = some z)
    (hby : i.bytes = bytes) (hzs : z.cells.size = i.size) (h1z : ∀ u ∈ z.cells.toList, u.oneCell' = true)
    (v : Value) (n : Nat) (xs : List Value) (hown : w.ownsRow base e i.size v n xs) (m : Nat)
    (h63 : n + m ≤ maxLen) (hbytes : (n + m) * bytes ≤ 140737488355328) (hbase : base ≤ w.heap.size) (hpos : 0 < bytes) (hsz : 0 < i.size) :
    ∃ v' w', (Builtin.append_ #[t, it] ty #[v, .int kk (m : Int)]).run P w = .ok v' w' ∧ w'.ownsRow base e i.size v' (n + m) (xs ++ (Builtin.zeroCells z.cells m).toList) ∧ w.grownBy w' v.ownBlock := by
  subst hby
  have hsmall : n + m ≤ 9223372036854775807 := by simp only [maxLen] at h63; omega
  have hwrap : IntKind.i64.wrap (m : Int) = (m : Int) := IntWalk.i64_in _ (by omega)
  have hm0 : ¬ ((m : Int) < 0) := by omega
  have hmb : ¬ ((m : Int) * (i.bytes : Int) > 2 ^ 48) := by
    have h1 : m * i.bytes ≤ (n + m) * i.bytes := Nat.mul_le_mul_right _ (by omega)
    have h2 : m * i.bytes ≤ 281474976710656 := by omega
    have h3 : ((m * i.bytes : Nat) : Int) ≤ 281474976710656 := by omega
    rw [Int.natCast_mul] at h3
    omega
  have hmb' : ¬ (281474976710656 < (m : Int) * (i.bytes : Int)) := by simpa using hmb
  have hzl : (Builtin.zeroCells z.cells m).toList.length = m * i.size := by rw [Array.length_toList, size_zeroCells, hzs]
  have hlen : (xs ++ (Builtin.zeroCells z.cells m).toList).length = (n + m) * i.size := by rw [List.length_append, hown.1, hzl, Nat.add_mul]
  have h1 : ∀ u ∈ (Builtin.zeroCells z.cells m).toList, u.oneCell' = true := fun u hu => by
    unfold Builtin.zeroCells at hu
    rw [Array.toList_map, List.mem_map] at hu
    obtain ⟨j, _, rfl⟩ := hu
    have hlt : j % z.cells.size < z.cells.size := Nat.mod_lt _ (by omega)
    rw [getElem!_pos z.cells _ hlt]
    exact h1z _ (by simp)
  have hfits : ∀ old, old < n + m → Builtin.nextslicecap (n + m) old * i.bytes ≤ 281474976710656 := fun old ho => growslice_fits ho hbytes
  have grown : ∀ (old : Nat), old < n + m → ∀ (row : Option Nat),
      (w.drew.alloc (.cells (xs.toArray ++ Builtin.zeroCells z.cells m ++ Builtin.zeroCells z.cells (grownCap w (n + m) old e - (n + m))) e)).ownsRow base e i.size
        (.slice (some ⟨w.heap.size, 0, none⟩) (n + m) (grownCap w (n + m) old e)) (n + m) (xs ++ (Builtin.zeroCells z.cells m).toList) ∧
      w.grownBy (w.drew.alloc (.cells (xs.toArray ++ Builtin.zeroCells z.cells m ++ Builtin.zeroCells z.cells (grownCap w (n + m) old e - (n + m))) e)) row := by
    intro old ho row
    have hge := grownCap_ge w (n + m) old e
    have hcm : grownCap w (n + m) old e ≤ maxLen := grownCap_le_maxLen w (n + m) old e h63
    refine ⟨⟨hlen, .inr ⟨w.heap.size, _, _, rfl, hbase, heap_alloc_new w.drew _, hge, hcm, ?_, ?_⟩⟩, ⟨rfl, rfl, rfl, by simp, fun k hk _ => Below.heap_alloc w.drew _ k hk⟩⟩
    · simp only [Array.size_append, List.size_toArray, size_zeroCells, hzs, hown.1, ← Nat.add_mul]
      congr 1
      omega
    · simp only [Array.toList_append, List.append_assoc]
      rw [← List.append_assoc, ← hlen]
      exact List.take_left
  rcases hown.2 with ⟨rfl, rfl⟩ | ⟨g, cap, cur, rfl, hbg, hg, hnc, hcm, hcs, htake⟩
  · have hx : xs = [] := List.eq_nil_of_length_eq_zero (by simpa using hown.1)
    subst hx
    by_cases hm : m = 0
    · subst hm
      have hzn : (Builtin.zeroCells z.cells 0).toList = [] := List.eq_nil_of_length_eq_zero (by simpa using hzl)
      refine ⟨.slice none 0 0, w, ?_, by rw [hzn]; exact World.ownsRow_nil w base e i.size, World.grownBy.refl w _⟩
      have hw0 : IntKind.i64.wrap 0 = 0 := by decide
      simp [Builtin.append_, asInt, asIntOf, run_underlying ht, run_underlying hit, sizeOf, typeInfo, hi, hw0]
    · have hgr := grown 0 (by omega) (Value.ownBlock (.slice none 0 0))
      have hf := hfits 0 (by omega)
      simp only [Nat.zero_add, List.nil_append, Array.empty_append] at hgr hf ⊢
      refine ⟨_, _, ?_, hgr.1, hgr.2⟩
      have hf' : ¬ (281474976710656 < Builtin.nextslicecap m 0 * i.bytes) := by omega
      have h9 : ¬ (9223372036854775807 < (m : Int)) := by omega
      have hmz : m * i.size ≠ 0 := Nat.mul_ne_zero hm (by omega)
      simp [Builtin.append_, asInt, asIntOf, run_underlying ht, run_underlying hit, sizeOf, typeInfo, zeroValue, hi, hz, hwrap, hm0, hmb', hm, h9, hf', Question.forced, run_firstCells_none, newRow, grownCap]
      exact fun h0 => absurd h0 hmz
  · by_cases hroom : n + m ≤ cap
    · have hcur : cur.size = cap * i.size := hcs
      have hst := run_storeCells_at P g (n * i.size) e (Builtin.zeroCells z.cells m).toList 0 cur w hg (by rw [hzl, hcur, Nat.add_zero, ← Nat.add_mul]; exact Nat.mul_le_mul_right _ hroom) h1
      have hadd : (⟨g, 0, none⟩ : Addr).add (n * i.size) = ⟨g, n * i.size, none⟩ := by
        unfold Addr.add; split
        · rename_i h0; rw [h0]
        · simp
      refine ⟨.slice (some ⟨g, 0, none⟩) (n + m) cap, w.setRow g (cur.toList.take (n * i.size + 0) ++ (Builtin.zeroCells z.cells m).toList ++ cur.toList.drop (n * i.size + 0 + (Builtin.zeroCells z.cells m).toList.length)).toArray, ?_, ⟨hlen, .inr ⟨g, cap, _, rfl, hbg, setRow_heap w g cur _ e _ hg, hroom, hcm, ?_, ?_⟩⟩, only_setRow w g _⟩
      · by_cases hm : m = 0
        · subst hm
          have hw0 : IntKind.i64.wrap 0 = 0 := by decide
          have hzn : (Builtin.zeroCells z.cells 0).toList = [] := List.eq_nil_of_length_eq_zero (by simpa using hzl)
          have hroom0 : n ≤ cap := by omega
          rw [hzn]
          simp [Builtin.append_, asInt, asIntOf, run_underlying ht, run_underlying hit, sizeOf, typeInfo, hi, hw0, hroom0, storeCells]
          rw [setRow_self w g cur e (0, 0) hg]
        · rw [← hadd] at hst
          have hmz : m * i.size ≠ 0 := Nat.mul_ne_zero hm (by omega)
          have hst2 : Sem.run P (storeCells ((⟨g, 0, none⟩ : Addr).add (n * i.size)) (Builtin.zeroCells z.cells m).toList) w = _ := hst
          simp [Builtin.append_, asInt, asIntOf, run_underlying ht, run_underlying hit, sizeOf, typeInfo, zeroValue, hi, hz, hwrap, hm0, hmb', hm, hroom]
          rw [if_neg hmz, hst2]
          simp
      · simp only [List.size_toArray, List.length_append, List.length_take, List.length_drop, Array.length_toList, hzl] at *
        have := Nat.mul_le_mul_right i.size hroom
        rw [Nat.add_mul] at this
        omega
      · rw [Nat.add_zero, htake, ← hlen]
        exact List.take_left
    · have holds : ∀ j u, xs[j]? = some u → w.cell? ((⟨g, 0, none⟩ : Addr).add j) = some u := hown.cells (g := g) rfl
      have hgr := grown cap (by omega) (Value.ownBlock (.slice (some ⟨g, 0, none⟩) n cap))
      have hf' : ¬ (281474976710656 < Builtin.nextslicecap (n + m) cap * i.bytes) := by have := hfits cap (by omega); omega
      have h9 : ¬ (9223372036854775807 < ((n : Int) + (m : Int))) := by omega
      have hfo := run_firstCells_some (P := P) w.drew i.size n ⟨g, 0, none⟩ n cap xs hown.1 (by simpa using holds)
      have hm : m ≠ 0 := by omega
      refine ⟨_, _, ?_, hgr.1, hgr.2⟩
      simp [Builtin.append_, asInt, asIntOf, run_underlying ht, run_underlying hit, sizeOf, typeInfo, zeroValue, hi, hz, hwrap, hm0, hmb', hm, hroom, h9, hf', Question.forced, newRow, grownCap, hfo]
      exact fun h0 => absurd h0 (Nat.mul_ne_zero hm (by omega))
end
theorem zeroCells_digs (m : Nat) : (Builtin.zeroCells (arr 32 fun _ => 0) m).toList = dcells (List.replicate m zeroD) := by
  have h := made_digs m
  have e : Builtin.zeroCells (arr 32 fun _ => 0) m = madeCells (arr 32 fun _ => 0) (m * 32) := by
    unfold Builtin.zeroCells madeCells
    rw [arr_size]
  rw [e, h]
/-- append of some noughts, as digests -/
theorem wpList_appendZD {w : World} {ops : Array Oper} {rest : List Oper} {o : Oper} {a : Act} {Q : Exit → Act → World → Prop} (hgd : o.guard = none) (s x : Operand)
    (ho : o.op = .call { callee := .builtin .append, args := #[s, x], argTypes := #[69, 3] })
    (base : Nat) (v : Value) (ds : List (List UInt8)) (hs : a.eval s = v) (hown : w.ownsRow base 43 32 v ds.length (dcells ds)) (m : Nat) (hx : a.eval x = .int .i64 (m : Int)) (hl : ds.length + m ≤ 1000000000) (hbase : base ≤ w.heap.size)
    (h : ∀ v' w', w'.ownsRow base 43 32 v' (ds ++ List.replicate m zeroD).length (dcells (ds ++ List.replicate m zeroD)) → w.grownBy w' v.ownBlock → wpList Tryd.prog ops Q rest (a.put o.dst v') w') : wpList Tryd.prog ops Q (o :: rest) a w := by
  obtain ⟨i0, hi, hz0, hz1, hz2⟩ := info_parts (by kernel_rfl : (Tryd.prog.info? 43).map (fun i => (i.zero, i.size, i.bytes)) = some (some (.agg (arr 32 fun _ => 0)), 32, 32))
  have hcells : (Value.agg (arr 32 fun _ => (0 : UInt8))).cells = arr 32 fun _ => 0 := rfl
  refine wpList_plain hgd fun K hK => ?_
  obtain ⟨v', w', hrun, h2, h3⟩ := run_append_zeros_at (P := Tryd.prog) w base 69 o.type 43 3 i0 (.agg (arr 32 fun _ => 0)) 32 .i64 .i64 Tryd.underlying69 Tryd.underlying3 hi hz0 hz2 (by rw [hcells, hz1]; exact arr_size _ _) (by rw [hcells]; exact arr_one _ _) v ds.length (dcells ds) (by rw [hz1]; exact hown) m (by unfold maxLen; omega) (by omega) hbase (by decide) (by rw [hz1]; decide)
  rw [hcells, zeroCells_digs, ← dcells_append, hz1] at h2
  unfold Oper.wp execOp
  simp only [ho, resolve, invoke, builtin, Sem.run_bind, Sem.run_pure, Result.andThen_ok, List.map_toArray, List.map_cons, List.map_nil, hs, hx, hrun]
  exact hK _ _ (h v' w' (by rw [List.length_append, List.length_replicate]; exact h2) h3)
/-- append of some digests onto a row of digests of the call's own -/
theorem wpList_appendDs {w : World} {ops : Array Oper} {rest : List Oper} {o : Oper} {a : Act} {Q : Exit → Act → World → Prop} (hgd : o.guard = none) (s x : Operand)
    (ho : o.op = .call { callee := .builtin .append, args := #[s, x], argTypes := #[69, 69] })
    (base : Nat) (v : Value) (ds : List (List UInt8)) (hs : a.eval s = v) (hown : w.ownsRow base 43 32 v ds.length (dcells ds))
    (g o2 cap : Nat) (es : List (List UInt8)) (hx : a.eval x = .slice (some ⟨g, o2, none⟩) es.length cap) (hX : DX w (.slice (some ⟨g, o2, none⟩) es.length cap) es) (hl : ds.length + es.length ≤ 1000000000) (hbase : base ≤ w.heap.size)
    (h : ∀ v' w', w'.ownsRow base 43 32 v' (ds ++ es).length (dcells (ds ++ es)) → w.grownBy w' v.ownBlock → wpList Tryd.prog ops Q rest (a.put o.dst v') w') : wpList Tryd.prog ops Q (o :: rest) a w := by
  obtain ⟨i0, hi, hz0, hz1, hz2⟩ := info_parts (by kernel_rfl : (Tryd.prog.info? 43).map (fun i => (i.zero, i.size, i.bytes)) = some (some (.agg (arr 32 fun _ => 0)), 32, 32))
  refine wpList_append_own_at _ hgd s x _ ho base 43 i0 _ 32 32 Tryd.underlying69 hi hz0 hz1 hz2 (by show (arr 32 fun _ => 0).size = 32; exact arr_size _ _) (by decide) v _ _ hs hown ⟨g, o2, none⟩ es.length cap (dcells es) hx (dcells_length es) (fun j u hj => hX.cells j u hj) (dcells_one es) (by unfold maxLen; omega) (by omega) hbase ?_
  intro v' w' hown' hg _ _
  rw [← dcells_append] at hown'
  exact h v' w' (by rw [List.length_append]; exact hown') hg
end Go.Proofs.YteonmcconpfkjaaDoor

/- append of a slice of digests, nil let in, onto a row of digests of the call's own; one byte of a row of digests is stored. No condition. -/
namespace Go.Proofs.YteonmcconpfkjaaDoor
open Go Go.RowKit
theorem run_append_nilAt {P : Program} (w : World) (base : Nat) (t ty e : TypeId) (i : TypeInfo) (size : Nat) (ht : P.underlying t = some (.slice e)) (hi : P.info? e = some i) (v : Value) (n : Nat) (xs : List Value) (hown : w.ownsRow base e size v n xs) (A : Option Addr) (c : Nat) :
    (Builtin.append_ #[t, t] ty #[v, .slice A 0 c]).run P w = .ok v w := by
  have hl0 : ∀ (x : Addr), (loadCells x 0).run P w = .ok #[] w := fun x => by simpa using run_loadCells_list (P := P) w x [] (by simp)
  rcases hown.2 with ⟨rfl, h2⟩ | ⟨g, cap, cur, rfl, _, _, hnc, _⟩
  · cases A <;> simp [Builtin.append_, run_underlying ht, sizeOf, typeInfo, hi, Builtin.lenOf, Builtin.firstCells, hl0]
  · cases A <;> simp [Builtin.append_, run_underlying ht, sizeOf, typeInfo, hi, Builtin.lenOf, Builtin.firstCells, hnc, storeCells, hl0]
theorem wpList_appendDX {w : World} {ops : Array Oper} {rest : List Oper} {o : Oper} {a : Act} {Q : Exit → Act → World → Prop} (hgd : o.guard = none) (s x : Operand)
    (ho : o.op = .call { callee := .builtin .append, args := #[s, x], argTypes := #[69, 69] })
    (base : Nat) (v : Value) (ds : List (List UInt8)) (hs : a.eval s = v) (hown : w.ownsRow base 43 32 v ds.length (dcells ds))
    (A : Option Addr) (cap : Nat) (es : List (List UInt8)) (hx : a.eval x = .slice A es.length cap) (hX : DX w (.slice A es.length cap) es) (hl : ds.length + es.length ≤ 1000000000) (hbase : base ≤ w.heap.size)
    (h : ∀ v' w', w'.ownsRow base 43 32 v' (ds ++ es).length (dcells (ds ++ es)) → w.grownBy w' v.ownBlock → wpList Tryd.prog ops Q rest (a.put o.dst v') w') : wpList Tryd.prog ops Q (o :: rest) a w := by
  by_cases h0 : es.length = 0
  · have hnil : es = [] := List.length_eq_zero_iff.1 h0
    subst hnil
    obtain ⟨i0, hi, _, _, _⟩ := info_parts (by kernel_rfl : (Tryd.prog.info? 43).map (fun i => (i.zero, i.size, i.bytes)) = some (some (.agg (arr 32 fun _ => 0)), 32, 32))
    refine wpList_plain hgd fun K hK => ?_
    have hx0 : a.eval x = .slice A 0 cap := hx
    have hrun := run_append_nilAt (P := Tryd.prog) w base 69 o.type 43 i0 32 Tryd.underlying69 hi v ds.length (dcells ds) hown A cap
    unfold Oper.wp execOp
    simp only [ho, resolve, invoke, builtin, Sem.run_bind, Sem.run_pure, Result.andThen_ok, List.map_toArray, List.map_cons, List.map_nil, hs, hx0, hrun]
    exact hK _ _ (h v w (by rw [List.append_nil]; exact hown) (World.grownBy.refl w _))
  · obtain ⟨g, o2, rfl⟩ := hX.addr (by omega)
    exact wpList_appendDs hgd s x ho base v ds hs hown g o2 cap es hx hX hl hbase h
/-- one byte of one digest turned -/
def setB (ds : List (List UInt8)) (k j : Nat) (b : UInt8) : List (List UInt8) := ds.set k (((ds.getD k []).set j b))
theorem setB_len (ds : List (List UInt8)) (k j : Nat) (b : UInt8) : (setB ds k j b).length = ds.length := List.length_set
theorem setB_mem (ds : List (List UInt8)) (k j : Nat) (b : UInt8) (h : ∀ d ∈ ds, d.length = 32) (hk : k < ds.length) : ∀ d ∈ setB ds k j b, d.length = 32 := fun d hd =>
  (List.mem_or_eq_of_mem_set hd).elim (h d) (fun e => by rw [e, List.length_set, List.getD_eq_getElem?_getD, List.getElem?_eq_getElem hk]; exact h _ (List.getElem_mem _))
theorem dcells_setB (ds : List (List UInt8)) (k j : Nat) (b : UInt8) (hk : k < ds.length) (hj : j < 32) (hall : ∀ d ∈ ds, d.length = 32) : (dcells ds).set (k * 32 + j) (v8 b) = dcells (setB ds k j b) := by
  have hd32 : (ds.getD k []).length = 32 := by rw [List.getD_eq_getElem?_getD, List.getElem?_eq_getElem hk]; exact hall _ (List.getElem_mem _)
  apply List.ext_getElem?
  intro p
  by_cases hp : p < ds.length * 32
  · have e : p = (p / 32) * 32 + p % 32 := by omega
    have hq : p % 32 < 32 := Nat.mod_lt _ (by decide)
    rw [List.getElem?_set]
    have hR : (dcells (setB ds k j b))[p]? = (dat ((setB ds k j b).getD (p / 32) []))[p % 32]? := by
      conv => lhs; rw [e]
      exact dcells_at _ (p / 32) (by rw [setB_len]; omega) (p % 32) hq
    have hL : (dcells ds)[p]? = (dat (ds.getD (p / 32) []))[p % 32]? := by
      conv => lhs; rw [e]
      exact dcells_at _ (p / 32) (by omega) (p % 32) hq
    have hset : (setB ds k j b).getD (p / 32) [] = if k = p / 32 then (ds.getD k []).set j b else ds.getD (p / 32) [] := by
      unfold setB
      rw [List.getD_eq_getElem?_getD, List.getElem?_set]
      by_cases hkp : k = p / 32
      · rw [if_pos hkp, if_pos hkp, if_pos hk]; rfl
      · rw [if_neg hkp, if_neg hkp, ← List.getD_eq_getElem?_getD]
    rw [hR, hset]
    unfold dat
    by_cases hkp : k = p / 32
    · subst hkp
      rw [if_pos rfl, arr_at _ _ _ hq]
      by_cases hjp : j = p % 32
      · subst hjp
        rw [if_pos e.symm, if_pos (by rw [dcells_length]; omega), List.getD_eq_getElem?_getD, List.getElem?_set, if_pos rfl, if_pos (by rw [hd32]; exact hj)]; rfl
      · rw [if_neg (by omega), hL]
        unfold dat
        have hg : ∀ x : List UInt8, (x.set j b).getD (p % 32) 0 = x.getD (p % 32) 0 := fun x => by rw [List.getD_eq_getElem?_getD, List.getD_eq_getElem?_getD, List.getElem?_set, if_neg hjp]
        rw [arr_at _ _ _ hq, hg]
    · rw [if_neg hkp, if_neg (by omega), hL]; rfl
  · rw [List.getElem?_eq_none (by rw [List.length_set, dcells_length]; omega), List.getElem?_eq_none (by rw [dcells_length, setB_len]; omega)]
end Go.Proofs.YteonmcconpfkjaaDoor
