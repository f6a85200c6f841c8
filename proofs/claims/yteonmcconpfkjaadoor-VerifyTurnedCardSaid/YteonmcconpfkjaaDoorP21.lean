/- Texts that stand behind one another: VerN, ZerosD, ZerosE, VerU, MerkW. No condition. -/
import Derived.Test.YteonmcconpfkjaaDoorP11
import Derived.Test.YteonmcconpfkjaaDoorP5
import Derived.Test.YteonmcconpfkjaaDoorP4
/- Blocks of digests: made, copied into, one stored; deponentbook's Same at digests. No condition. -/
namespace Go.Proofs.YteonmcconpfkjaaDoor
open Go Go.RowKit
attribute [local irreducible] mixW
attribute [local go_sem] n8_lo n8_hi n64_lo n64_hi n32_lo n32_hi
def zeroD : List UInt8 := List.replicate 32 0
theorem zeroD_len : zeroD.length = 32 := by unfold zeroD; simp
theorem dat_zeroD : dat zeroD = arr 32 fun _ => 0 := by
  unfold dat
  apply arr_congr
  intro p hp
  unfold zeroD
  rw [List.getD_eq_getElem?_getD, List.getElem?_replicate, if_pos hp]; rfl
theorem zeros_at (N j : Nat) (hj : j < N * 32) : (dcells (List.replicate N zeroD))[j]? = some (.int .u8 0) := by
  have h1 : j = (j / 32) * 32 + j % 32 := by omega
  rw [h1, dcells_at _ (j / 32) (by rw [List.length_replicate]; omega) (j % 32) (Nat.mod_lt _ (by decide))]
  rw [List.getD_eq_getElem?_getD, List.getElem?_replicate, if_pos (by omega), Option.getD_some, dat_zeroD, arr_at _ _ _ (Nat.mod_lt _ (by decide))]; rfl
theorem made_digs (N : Nat) : madeCells (arr 32 fun _ => 0) (N * 32) = (dcells (List.replicate N zeroD)).toArray := by
  apply Array.ext_getElem?
  intro j
  by_cases hj : j < N * 32
  · have hR : (dcells (List.replicate N zeroD)).toArray[j]? = some (.int .u8 0) := by rw [List.getElem?_toArray]; exact zeros_at N j hj
    rw [hR]
    unfold madeCells
    rw [Array.getElem?_map, Array.getElem?_range, if_pos hj]
    have h32 : (arr 32 fun _ => (0 : UInt8)).size = 32 := arr_size _ _
    have hm : j % (arr 32 fun _ => (0 : UInt8)).size < (arr 32 fun _ => (0 : UInt8)).size := by rw [h32]; exact Nat.mod_lt _ (by decide)
    show some ((arr 32 fun _ => (0 : UInt8))[j % (arr 32 fun _ => (0 : UInt8)).size]!) = _
    rw [getElem!_pos (arr 32 fun _ => (0 : UInt8)) _ hm]
    have := arr_at 32 (fun _ => (0 : UInt8)) (j % (arr 32 fun _ => (0 : UInt8)).size) (by rw [h32] at hm ⊢; exact hm)
    rw [Array.getElem?_eq_getElem hm] at this
    injection this with this
    rw [this]; rfl
  · rw [Array.getElem?_eq_none (by rw [size_madeCells]; omega), Array.getElem?_eq_none (by simp [dcells_length]; omega)]
/-- make([]api.Digest, n) -/
theorem wpList_makeD {w : World} {ops : Array Oper} {rest : List Oper} {o : Oper} {a : Act} {Q : Exit → Act → World → Prop} (hgd : o.guard = none) (l c : Operand) (ho : o.op = Op.makeSlice 69 l c)
    (kl kc : IntKind) (n : Nat) (hl : a.eval l = .int kl (n : Int)) (hc : a.eval c = .int kc (n : Int)) (h63 : n ≤ 1000000000)
    (h : wpList Tryd.prog ops Q rest (a.put o.dst (.slice (some ⟨w.heap.size, 0, none⟩) n n)) (w.alloc (.cells (dcells (List.replicate n zeroD)).toArray 43))) : wpList Tryd.prog ops Q (o :: rest) a w := by
  obtain ⟨i0, hi, hz0, hz1, hz2⟩ := info_parts (by kernel_rfl : (Tryd.prog.info? 43).map (fun i => (i.zero, i.size, i.bytes)) = some (some (.agg (arr 32 fun _ => 0)), 32, 32))
  refine wpList_plain hgd fun K hK => ?_
  have hr := run_make (P := Tryd.prog) w 69 43 i0 (.agg (arr 32 fun _ => 0)) Tryd.underlying69 hi hz0 kl kc n n (by omega) (by omega) (by rw [hz2]; omega) (by omega)
  have hcells : (Value.agg (arr 32 fun _ => (0 : UInt8))).cells = arr 32 fun _ => 0 := rfl
  rw [Int.toNat_natCast, hz1, hcells, made_digs] at hr
  unfold Oper.wp
  simp [execOp, ho, hl, hc, hr, Result.andThen]
  exact hK _ _ h
/-- a copy of rows of some cells an element -/
theorem run_copy_rows {P : Program} (w : World) (dT sT ty elem : TypeId) (sz g o dLen dCap : Nat) (a : Addr) (sLen sCap : Nat) (cur : Array Value) (t : TypeId) (cs : List Value)
    (hu : P.underlying dT = some (.slice elem)) (hs : (P.info? elem).map (·.size) = some sz)
    (hg : w.heap[g]? = some (.cells cur t (0, 0))) (hn : cs.length = Nat.min sLen dLen * sz)
    (hsrc : ∀ j v, cs[j]? = some v → w.cell? (a.add j) = some v) (hfit : o + cs.length ≤ cur.size) (h1 : ∀ v ∈ cs, v.oneCell' = true) :
    (Builtin.copy_ #[dT, sT] ty #[.slice (some ⟨g, o, none⟩) dLen dCap, .slice (some a) sLen sCap]).run P w =
      .ok (goInt (Nat.min sLen dLen)) (w.setRow g (cur.toList.take o ++ cs ++ cur.toList.drop (o + cs.length)).toArray) := by
  have hl := run_loadCells_list (P := P) w a cs hsrc
  have hst := run_storeCells_at P g o t cs 0 cur w hg (by simpa using hfit) h1
  cases hq : P.info? elem with
  | none => simp [hq] at hs
  | some i =>
    have hi : i.size = sz := by simpa [hq] using hs
    simp [Builtin.copy_, run_underlying hu, Builtin.lenOf, Builtin.firstCells, sizeOf, typeInfo, hq, hi, ← hn, hl, hst]
theorem run_copy_zero {P : Program} (w : World) (dT sT ty elem : TypeId) (d a : Option Addr) (dLen dCap sLen sCap : Nat) (hu : P.underlying dT = some (.slice elem)) (sz : Nat) (hs : (P.info? elem).map (·.size) = some sz) (hn : Nat.min sLen dLen = 0) :
    (Builtin.copy_ #[dT, sT] ty #[.slice d dLen dCap, .slice a sLen sCap]).run P w = .ok (goInt 0) w := by
  cases hq : P.info? elem with
  | none => simp [hq] at hs
  | some i =>
    have hl : ∀ (x : Addr), (loadCells x 0).run P w = .ok #[] w := fun x => by simpa using run_loadCells_list (P := P) w x [] (by simp)
    cases d <;> cases a <;> simp [Builtin.copy_, run_underlying hu, Builtin.lenOf, Builtin.firstCells, sizeOf, typeInfo, hq, hn, storeCells, hl]
theorem dcells_append (a b : List (List UInt8)) : dcells (a ++ b) = dcells a ++ dcells b := by simp [dcells]
theorem dcells_one (l : List (List UInt8)) : ∀ v ∈ dcells l, v.oneCell' = true := by
  intro v hv
  unfold dcells at hv
  obtain ⟨cs, hcs, hv⟩ := List.mem_flatten.1 hv
  obtain ⟨d, _, rfl⟩ := List.mem_map.1 hcs
  exact arr_one _ _ v (by simpa [dat] using hv)
/-- a slice of digests reads, from its address on, all their cells -/
theorem DX.cells {w : World} {g o n cap : Nat} {ds : List (List UInt8)} (h : DX w (.slice (some ⟨g, o, none⟩) n cap) ds) (j : Nat) (v : Value) (hj : (dcells ds)[j]? = some v) : w.cell? ((⟨g, o, none⟩ : Addr).add j) = some v := by
  obtain ⟨A', cap', e, _, _, hh⟩ := h
  injection e with e1 e2 _
  subst e1
  have hjl : j < ds.length * 32 := by have := (List.getElem?_eq_some_iff.1 hj).1; rwa [dcells_length] at this
  obtain ⟨g2, o2, e3, _, hr⟩ := hh (j / 32) (by omega)
  injection e3 with e3
  injection e3 with e4 e5
  subst e4; subst e5
  have hd := dcells_at ds (j / 32) (by omega) (j % 32) (Nat.mod_lt _ (by decide))
  rw [show j / 32 * 32 + j % 32 = j by omega, hj] at hd
  have := hr (j % 32) v (by rw [Array.getElem?_toList]; exact hd.symm)
  have e : (⟨g, o, none⟩ : Addr).add j = ⟨g, o + j, none⟩ := by unfold Addr.add; split <;> simp_all
  rw [e, show o + j = o + j / 32 * 32 + j % 32 by omega]; exact this
theorem DX.addr {w : World} {A : Option Addr} {n cap : Nat} {ds : List (List UInt8)} (h : DX w (.slice A n cap) ds) (h0 : 0 < ds.length) : ∃ g o, A = some ⟨g, o, none⟩ := by
  obtain ⟨A', cap', e, _, _, hh⟩ := h
  injection e with e1 _ _
  subst e1
  obtain ⟨g, o, e, _⟩ := hh 0 h0
  exact ⟨g, o, e⟩
theorem wpList_copy_rows {P : Program} {w : World} {ops : Array Oper} {rest : List Oper} {o : Oper} {a : Act} {Q : Exit → Act → World → Prop} (hgd : o.guard = none) (d s : Operand) (dT sT : TypeId)
    (ho : o.op = .call { callee := .builtin .copy, args := #[d, s], argTypes := #[dT, sT] }) (elem : TypeId) (sz : Nat) (hu : P.underlying dT = some (.slice elem)) (hsz : (P.info? elem).map (·.size) = some sz)
    (g off dLen dCap : Nat) (ad : Addr) (sLen sCap : Nat) (hd : a.eval d = .slice (some ⟨g, off, none⟩) dLen dCap) (hs : a.eval s = .slice (some ad) sLen sCap)
    (cur : Array Value) (t : TypeId) (hg : w.heap[g]? = some (.cells cur t (0, 0))) (cs : List Value) (hn : cs.length = Nat.min sLen dLen * sz)
    (hsrc : ∀ j v, cs[j]? = some v → w.cell? (ad.add j) = some v) (hfit : off + cs.length ≤ cur.size) (h1 : ∀ v ∈ cs, v.oneCell' = true)
    (h : wpList P ops Q rest (a.put o.dst (goInt (Nat.min sLen dLen))) (w.setRow g (cur.toList.take off ++ cs ++ cur.toList.drop (off + cs.length)).toArray)) : wpList P ops Q (o :: rest) a w := by
  refine wpList_plain hgd fun K hK => ?_
  have hrun := run_copy_rows (P := P) w dT sT o.type elem sz g off dLen dCap ad sLen sCap cur t cs hu hsz hg hn hsrc hfit h1
  unfold Oper.wp
  simp only [execOp, ho, resolve, invoke, builtin, hd, hs, List.map_toArray, List.map_cons, List.map_nil, Sem.run_bind, Sem.run_pure, Result.andThen_ok, hrun]
  exact hK _ _ h
theorem wpList_copy_zero {P : Program} {w : World} {ops : Array Oper} {rest : List Oper} {o : Oper} {a : Act} {Q : Exit → Act → World → Prop} (hgd : o.guard = none) (d s : Operand) (dT sT : TypeId)
    (ho : o.op = .call { callee := .builtin .copy, args := #[d, s], argTypes := #[dT, sT] }) (elem : TypeId) (sz : Nat) (hu : P.underlying dT = some (.slice elem)) (hsz : (P.info? elem).map (·.size) = some sz)
    (dp sp : Option Addr) (dLen dCap sLen sCap : Nat) (hd : a.eval d = .slice dp dLen dCap) (hs : a.eval s = .slice sp sLen sCap) (hn : Nat.min sLen dLen = 0)
    (h : wpList P ops Q rest (a.put o.dst (goInt 0)) w) : wpList P ops Q (o :: rest) a w := by
  refine wpList_plain hgd fun K hK => ?_
  have hrun := run_copy_zero (P := P) w dT sT o.type elem dp sp dLen dCap sLen sCap hu sz hsz hn
  unfold Oper.wp
  simp only [execOp, ho, resolve, invoke, builtin, hd, hs, List.map_toArray, List.map_cons, List.map_nil, Sem.run_bind, Sem.run_pure, Result.andThen_ok, hrun]
  exact hK _ _ h
/-- copy of some digests into the head of a block of digests -/
theorem wpList_copyD {w : World} {ops : Array Oper} {rest : List Oper} {o : Oper} {a : Act} {Q : Exit → Act → World → Prop} (hgd : o.guard = none) (d s : Operand)
    (ho : o.op = .call { callee := .builtin .copy, args := #[d, s], argTypes := #[69, 69] })
    (g N n : Nat) (es : List (List UInt8)) (hN : es.length = N) (hd : a.eval d = .slice (some ⟨g, 0, none⟩) N n) (hg : Blk w g 43 (dcells es).toArray)
    (A : Option Addr) (cap : Nat) (ds : List (List UInt8)) (hs : a.eval s = .slice A ds.length cap) (hx : DX w (.slice A ds.length cap) ds) (hl : ds.length ≤ es.length)
    (h : ∀ w', Blk w' g 43 (dcells (ds ++ es.drop ds.length)).toArray → w.grownBy w' (some g) → wpList Tryd.prog ops Q rest (a.put o.dst (goInt ds.length)) w') : wpList Tryd.prog ops Q (o :: rest) a w := by
  subst hN
  have hmin : Nat.min ds.length es.length = ds.length := Nat.min_eq_left hl
  have hsz : (Tryd.prog.info? 43).map (·.size) = some 32 := by kernel_rfl
  by_cases h0 : ds.length = 0
  · refine wpList_copy_zero hgd d s _ _ ho 43 32 Tryd.underlying69 hsz _ A es.length n ds.length cap hd hs (by rw [hmin]; exact h0) ?_
    have hnil : ds = [] := List.length_eq_zero_iff.1 h0
    subst hnil
    exact h w (by simpa using hg) (World.grownBy.refl w _)
  · obtain ⟨gs, os, rfl⟩ := hx.addr (by omega)
    have hwhole : ((dcells es).toArray.toList.take 0 ++ dcells ds ++ (dcells es).toArray.toList.drop (0 + (dcells ds).length)).toArray = (dcells (ds ++ es.drop ds.length)).toArray := by
      have hl2 : List.drop (dcells ds).length (dcells es) = dcells (es.drop ds.length) := by
        obtain ⟨E1, E2, hE, hE1⟩ : ∃ E1 E2, es = E1 ++ E2 ∧ E1.length = ds.length := ⟨es.take ds.length, es.drop ds.length, (List.take_append_drop _ _).symm, by rw [List.length_take]; omega⟩
        have e2 : (dcells ds).length = (dcells E1).length := by rw [dcells_length, dcells_length, hE1]
        rw [e2, hE, ← hE1, List.drop_left, dcells_append, List.drop_left]
      rw [List.take_zero, List.nil_append, Nat.zero_add, dcells_append]
      show (dcells ds ++ List.drop (dcells ds).length (dcells es)).toArray = _
      rw [hl2]
    refine wpList_copy_rows hgd d s _ _ ho 43 32 Tryd.underlying69 hsz g 0 es.length n ⟨gs, os, none⟩ ds.length cap hd hs (dcells es).toArray 43 hg (dcells ds) (by rw [hmin, dcells_length]) (fun j v hj => hx.cells j v hj) (by rw [List.size_toArray, dcells_length, dcells_length]; omega) (dcells_one ds) ?_
    rw [hmin, hwhole]
    exact h (w.setRow g (dcells (ds ++ es.drop ds.length)).toArray) (setRow_heap w g _ _ _ _ hg) (only_setRow w g _)
theorem dcells_set (l : List (List UInt8)) (k : Nat) (hk : k < l.length) (m : List UInt8) : copied (dcells l).toArray (k * 32) (dat m).toList 32 = (dcells (l.set k m)).toArray := by
  obtain ⟨L1, x, L2, hl, hk1⟩ : ∃ L1 x L2, l = L1 ++ x :: L2 ∧ L1.length = k := ⟨l.take k, l[k], l.drop (k + 1), by rw [List.getElem_cons_drop, List.take_append_drop], by rw [List.length_take]; omega⟩
  subst hl
  subst hk1
  have hs : (L1 ++ x :: L2).set L1.length m = L1 ++ m :: L2 := by simp
  have hm : (dat m).toList.length = 32 := by rw [Array.length_toList, dat_size]
  have h4 : (dat x).toList.length = 32 := by rw [Array.length_toList, dat_size]
  have h2 : ∀ y, dcells (L1 ++ y :: L2) = dcells L1 ++ ((dat y).toList ++ dcells L2) := fun y => by simp [dcells]
  have h1 : (dcells L1).length = L1.length * 32 := dcells_length _
  rw [hs, h2, h2]
  unfold copied
  show (List.take (L1.length * 32) (dcells L1 ++ ((dat x).toList ++ dcells L2)) ++ (List.take 32 (dat m).toList ++ List.drop (L1.length * 32 + (List.take 32 (dat m).toList).length) (dcells L1 ++ ((dat x).toList ++ dcells L2)))).toArray = _
  rw [List.take_of_length_le (by omega : (dat m).toList.length ≤ 32), hm, ← h1, List.take_left]
  congr 3
  have h5 : (dcells L1).length + 32 = (dcells L1 ++ (dat x).toList).length := by rw [List.length_append, h4]
  rw [h5, ← List.append_assoc (dcells L1), List.drop_left]
/-- one digest of a block of digests is stored -/
theorem wpList_storeD {w : World} {ops : Array Oper} {rest : List Oper} {o : Oper} {a : Act} {Q : Exit → Act → World → Prop} (hgd : o.guard = none) (hdst : o.dst = none) (x y : Operand) (ho : o.op = .store 43 x y) (g k : Nat) (hx : a.eval x = .pointer (some ⟨g, k * 32, none⟩)) (m : List UInt8) (hy : a.eval y = .agg (dat m))
    (l : List (List UInt8)) (hk : k < l.length) (hg : Blk w g 43 (dcells l).toArray)
    (h : ∀ w', Blk w' g 43 (dcells (l.set k m)).toArray → w.grownBy w' (some g) → wpList Tryd.prog ops Q rest a w') : wpList Tryd.prog ops Q (o :: rest) a w :=
  wpList_storeB hgd hdst 43 x y ho g (k * 32) hx (dat m) hy 43 (dcells l).toArray hg (by rw [dat_size]; kernel_rfl) (by rw [dat_size, List.size_toArray, dcells_length]; omega) (arr_one _ _) fun w' h1 h2 => by
    rw [dat_size, dcells_set l k hk m] at h1
    exact h w' h1 h2
theorem DX.of_blk {w : World} {g : Nat} {ds : List (List UInt8)} (h : Blk w g 43 (dcells ds).toArray) (hl : ds.length ≤ 1000000000) : DX w (.slice (some ⟨g, 0, none⟩) ds.length ds.length) ds :=
  ⟨_, _, rfl, Nat.le_refl _, by omega, fun k hk => ⟨g, 0, rfl, h.lt, fun j v hj => by
    have hj32 : j < 32 := by
      have := (List.getElem?_eq_some_iff.1 hj).1
      rw [Array.length_toList, dat_size] at this; exact this
    rw [Nat.zero_add, h.cell, List.getElem?_toArray, dcells_at ds k hk j hj32, ← hj, Array.getElem?_toList]⟩⟩
set_option maxHeartbeats 400000 in
set_option maxRecDepth 100000 in
theorem sameX_any (u v : Value) (ds : List (List UInt8)) (hall : ∀ d ∈ ds, d.length = 32) (hn : ds.length ≤ 1000000000) (w : World) (hu : DX w u ds) (hv : DX w v ds) :
    Calls Tryd.prog 105 #[u, v] w fun e w' => e = .returned (.bool true) ∧ Below w.heap.size w w' := by
  have Hall := Lib.hid hall
  clear hall
  obtain ⟨A1, c1, rfl, x1, x2, h1⟩ := hu
  obtain ⟨A2, c2, rfl, y1, y2, h2⟩ := hv
  have H1 : Hid (DX w (.slice A1 ds.length c1) ds) := Lib.hid ⟨A1, c1, rfl, x1, x2, h1⟩
  have H2 : Hid (DX w (.slice A2 ds.length c2) ds) := Lib.hid ⟨A2, c2, rfl, y1, y2, h2⟩
  clear h1 h2 x1 x2 y1 y2
  have hne : ((ds.length : Int) != (ds.length : Int)) = false := by simp
  go_enter Tryd.func105, Tryd.ntmps105
  go_wp2_with fail
  go_loopw [5] (fun iv wr => ∃ k : Nat, k ≤ ds.length ∧ iv = .int .i64 k ∧ Below w.heap.size w wr) (fun iv _ => ds.length - (intOf iv).toNat)
  case atStart => exact ⟨0, by omega, rfl, Below.refl _ _⟩
  case round =>
    obtain ⟨k, hk, rfl, hbel⟩ := hrel
    by_cases hlt : k < ds.length
    case neg =>
      have hlt' : ¬ ((k : Int) < (ds.length : Int)) := by omega
      go_wp2_with fail
      go_ret
      exact ⟨rfl, hbel⟩
    have hlt' : (k : Int) < (ds.length : Int) := by omega
    obtain ⟨A1', c1', e1, _, _, hh1⟩ := H1.out.next hbel
    injection e1 with e1 _ e1c
    subst e1c
    obtain ⟨g1, o1, e3, hg1, hr1⟩ := hh1 k hlt
    rw [e3] at e1
    subst e1
    obtain ⟨A2', c2', e2, _, _, hh2⟩ := H2.out.next hbel
    injection e2 with e2 _ e2c
    subst e2c
    obtain ⟨g2, o2, e4, hg2, hr2⟩ := hh2 k hlt
    rw [e4] at e2
    subst e2
    clear hh1 hh2 e3 e4
    have hdl : (ds.getD k []).length = 32 := Hall.out _ (by rw [List.getD_eq_getElem?_getD, List.getElem?_eq_getElem hlt]; exact List.getElem_mem _)
    generalize ds.getD k [] = d at hr1 hr2 hdl
    have Hdl := Lib.hid hdl
    clear hdl
    go_wp2_with fail
    refine wp_region_mixP (.plain 0 <| .plain 1 <| .plain 2 <| .plain 3 <| .plain 4 <| .plain 5 <| .plain 6 <| .plain 7 <| .plain 8 <| .done) (by kernel_rfl) (by kernel_rfl) (fun W1 hb1 => ?_)
    replace hr1 := range_next hr1 hg1 hb1
    replace hr2 := range_next hr2 hg2 hb1
    replace hbel := hbel.trans (hb1.mono hbel.size)
    clear hb1
    iterate 9 (refine mix_plain rfl ?_; (first
      | (refine wpQuiet_loadMid rfl 43 (.tmp 19) rfl g1 (o1 + k * 32) rfl (dat d) _ (fun _ ⟨e, he⟩ => by rw [he]; exact range_plus hr1 e) Tryd.underlying43 rfl (by rw [dat_size]; kernel_rfl) ?_; simp only [Act.put, List.setIfInBounds_toArray, List.set_cons_zero, List.set_cons_succ])
      | (refine wpQuiet_loadMid rfl 43 (.tmp 23) rfl g2 (o2 + k * 32) rfl (dat d) _ (fun _ ⟨e, he⟩ => by rw [he]; exact range_plus hr2 e) Tryd.underlying43 rfl (by rw [dat_size]; kernel_rfl) ?_; simp only [Act.put, List.setIfInBounds_toArray, List.set_cons_zero, List.set_cons_succ])
      | (refine wpQuiet_neD rfl (.tmp 20) (.tmp 24) _ rfl d d rfl rfl Hdl.out Hdl.out true (decide_eq_true rfl) ?_; simp only [Act.put, List.setIfInBounds_toArray, List.set_cons_zero, List.set_cons_succ])
      | go_big_quiet_step (fail)); refine wpQuiet_nil ?_)
    refine mix_done ?_
    clear hr1 hr2
    go_wp2_with fail
    go_roundw
    case rel => exact ⟨k + 1, by omega, by go_num, hbel⟩
    case measure => simp [intOf]; omega
end Go.Proofs.YteonmcconpfkjaaDoor

/- append(s, make([]T, n)...) onto a row of the call's own, elements of any number of cells. No condition. -/
namespace Go.Proofs.YteonmcconpfkjaaDoor
open Go Go.RowKit
section
variable {P : Program}
theorem run_append_zeros_at (w : World) (base : Nat) (t ty e it : TypeId) (i : TypeInfo) (z : Value) (bytes : Nat) (k kk : IntKind) (ht : P.underlying t = some (.slice e)) (hit : P.underlying it = some (.int k)) (hi : P.info? e = some i) (hz : i.zero = some z)
    (hby : i.bytes = bytes) (hzs : z.cells.size = i.size) (h1z : ∀ u ∈ z.cells.toList, u.oneCell' = true)
    (v : Value) (n : Nat) (xs : List Value) (hown : w.ownsRow base e i.size v n xs) (m : Nat)
    (h63 : n + m ≤ maxLen) (hbytes : (n + m) * bytes ≤ 140737488355328) (hbase : base ≤ w.heap.size) (hpos : 0 < bytes) (hsz : 0 < i.size) :
    ∃ v' w', (Builtin.append_ #[t, it] ty #[v, .int kk (m : Int)]).run P w = .ok v' w' ∧ w'.ownsRow base e i.size v' (n + m) (xs ++ (Builtin.zeroCells z.cells m).toList) ∧ w.grownBy w' v.ownBlock := by
  subst hby
  have hsmall : n + m ≤ 9223372036854775807 := by simp only [maxLen] at h63; omega
  have hwrap : IntKind.i64.wrap (m : Int) = (m : Int) := IntWalk.i64_in _ (by omega)
  have hm0 : ¬ ((m : Int) < 0) := by omega
  have hmb : ¬ ((m : Int) * (i.bytes : Int) > 2 ^ 48) := by
    have h1 : m * i.bytes ≤ (n + m) * i.bytes := Nat.mul_le_mul_right _ (by omega)
    have h2 : m * i.bytes ≤ 281474976710656 := by omega
    have h3 : ((m * i.bytes : Nat) : Int) ≤ 281474976710656 := by omega
    rw [Int.natCast_mul] at h3
    omega
  have hmb' : ¬ (281474976710656 < (m : Int) * (i.bytes : Int)) := by simpa using hmb
  have hzl : (Builtin.zeroCells z.cells m).toList.length = m * i.size := by rw [Array.length_toList, size_zeroCells, hzs]
  have hlen : (xs ++ (Builtin.zeroCells z.cells m).toList).length = (n + m) * i.size := by rw [List.length_append, hown.1, hzl, Nat.add_mul]
  have h1 : ∀ u ∈ (Builtin.zeroCells z.cells m).toList, u.oneCell' = true := fun u hu => by
    unfold Builtin.zeroCells at hu
    rw [Array.toList_map, List.mem_map] at hu
    obtain ⟨j, _, rfl⟩ := hu
    have hlt : j % z.cells.size < z.cells.size := Nat.mod_lt _ (by omega)
    rw [getElem!_pos z.cells _ hlt]
    exact h1z _ (by simp)
  have hfits : ∀ old, old < n + m → Builtin.nextslicecap (n + m) old * i.bytes ≤ 281474976710656 := fun old ho => growslice_fits ho hbytes
  have grown : ∀ (old : Nat), old < n + m → ∀ (row : Option Nat),
      (w.drew.alloc (.cells (xs.toArray ++ Builtin.zeroCells z.cells m ++ Builtin.zeroCells z.cells (grownCap w (n + m) old e - (n + m))) e)).ownsRow base e i.size
        (.slice (some ⟨w.heap.size, 0, none⟩) (n + m) (grownCap w (n + m) old e)) (n + m) (xs ++ (Builtin.zeroCells z.cells m).toList) ∧
      w.grownBy (w.drew.alloc (.cells (xs.toArray ++ Builtin.zeroCells z.cells m ++ Builtin.zeroCells z.cells (grownCap w (n + m) old e - (n + m))) e)) row := by
    intro old ho row
    have hge := grownCap_ge w (n + m) old e
    have hcm : grownCap w (n + m) old e ≤ maxLen := grownCap_le_maxLen w (n + m) old e h63
    refine ⟨⟨hlen, .inr ⟨w.heap.size, _, _, rfl, hbase, heap_alloc_new w.drew _, hge, hcm, ?_, ?_⟩⟩, ⟨rfl, rfl, rfl, by simp, fun k hk _ => Below.heap_alloc w.drew _ k hk⟩⟩
    · simp only [Array.size_append, List.size_toArray, size_zeroCells, hzs, hown.1, ← Nat.add_mul]
      congr 1
      omega
    · simp only [Array.toList_append, List.append_assoc]
      rw [← List.append_assoc, ← hlen]
      exact List.take_left
  rcases hown.2 with ⟨rfl, rfl⟩ | ⟨g, cap, cur, rfl, hbg, hg, hnc, hcm, hcs, htake⟩
  · have hx : xs = [] := List.eq_nil_of_length_eq_zero (by simpa using hown.1)
    subst hx
    by_cases hm : m = 0
    · subst hm
      have hzn : (Builtin.zeroCells z.cells 0).toList = [] := List.eq_nil_of_length_eq_zero (by simpa using hzl)
      refine ⟨.slice none 0 0, w, ?_, by rw [hzn]; exact World.ownsRow_nil w base e i.size, World.grownBy.refl w _⟩
      have hw0 : IntKind.i64.wrap 0 = 0 := by decide
      simp [Builtin.append_, asInt, asIntOf, run_underlying ht, run_underlying hit, sizeOf, typeInfo, hi, hw0]
    · have hgr := grown 0 (by omega) (Value.ownBlock (.slice none 0 0))
      have hf := hfits 0 (by omega)
      simp only [Nat.zero_add, List.nil_append, Array.empty_append] at hgr hf ⊢
      refine ⟨_, _, ?_, hgr.1, hgr.2⟩
      have hf' : ¬ (281474976710656 < Builtin.nextslicecap m 0 * i.bytes) := by omega
      have h9 : ¬ (9223372036854775807 < (m : Int)) := by omega
      have hmz : m * i.size ≠ 0 := Nat.mul_ne_zero hm (by omega)
      simp [Builtin.append_, asInt, asIntOf, run_underlying ht, run_underlying hit, sizeOf, typeInfo, zeroValue, hi, hz, hwrap, hm0, hmb', hm, h9, hf', Question.forced, run_firstCells_none, newRow, grownCap]
      exact fun h0 => absurd h0 hmz
  · by_cases hroom : n + m ≤ cap
    · have hcur : cur.size = cap * i.size := hcs
      have hst := run_storeCells_at P g (n * i.size) e (Builtin.zeroCells z.cells m).toList 0 cur w hg (by rw [hzl, hcur, Nat.add_zero, ← Nat.add_mul]; exact Nat.mul_le_mul_right _ hroom) h1
      have hadd : (⟨g, 0, none⟩ : Addr).add (n * i.size) = ⟨g, n * i.size, none⟩ := by
        unfold Addr.add; split
        · rename_i h0; rw [h0]
        · simp
      refine ⟨.slice (some ⟨g, 0, none⟩) (n + m) cap, w.setRow g (cur.toList.take (n * i.size + 0) ++ (Builtin.zeroCells z.cells m).toList ++ cur.toList.drop (n * i.size + 0 + (Builtin.zeroCells z.cells m).toList.length)).toArray, ?_, ⟨hlen, .inr ⟨g, cap, _, rfl, hbg, setRow_heap w g cur _ e _ hg, hroom, hcm, ?_, ?_⟩⟩, only_setRow w g _⟩
      · by_cases hm : m = 0
        · subst hm
          have hw0 : IntKind.i64.wrap 0 = 0 := by decide
          have hzn : (Builtin.zeroCells z.cells 0).toList = [] := List.eq_nil_of_length_eq_zero (by simpa using hzl)
          have hroom0 : n ≤ cap := by omega
          rw [hzn]
          simp [Builtin.append_, asInt, asIntOf, run_underlying ht, run_underlying hit, sizeOf, typeInfo, hi, hw0, hroom0, storeCells]
          rw [setRow_self w g cur e (0, 0) hg]
        · rw [← hadd] at hst
          have hmz : m * i.size ≠ 0 := Nat.mul_ne_zero hm (by omega)
          have hst2 : Sem.run P (storeCells ((⟨g, 0, none⟩ : Addr).add (n * i.size)) (Builtin.zeroCells z.cells m).toList) w = _ := hst
          simp [Builtin.append_, asInt, asIntOf, run_underlying ht, run_underlying hit, sizeOf, typeInfo, zeroValue, hi, hz, hwrap, hm0, hmb', hm, hroom]
          rw [if_neg hmz, hst2]
          simp
      · simp only [List.size_toArray, List.length_append, List.length_take, List.length_drop, Array.length_toList, hzl] at *
        have := Nat.mul_le_mul_right i.size hroom
        rw [Nat.add_mul] at this
        omega
      · rw [Nat.add_zero, htake, ← hlen]
        exact List.take_left
    · have holds : ∀ j u, xs[j]? = some u → w.cell? ((⟨g, 0, none⟩ : Addr).add j) = some u := hown.cells (g := g) rfl
      have hgr := grown cap (by omega) (Value.ownBlock (.slice (some ⟨g, 0, none⟩) n cap))
      have hf' : ¬ (281474976710656 < Builtin.nextslicecap (n + m) cap * i.bytes) := by have := hfits cap (by omega); omega
      have h9 : ¬ (9223372036854775807 < ((n : Int) + (m : Int))) := by omega
      have hfo := run_firstCells_some (P := P) w.drew i.size n ⟨g, 0, none⟩ n cap xs hown.1 (by simpa using holds)
      have hm : m ≠ 0 := by omega
      refine ⟨_, _, ?_, hgr.1, hgr.2⟩
      simp [Builtin.append_, asInt, asIntOf, run_underlying ht, run_underlying hit, sizeOf, typeInfo, zeroValue, hi, hz, hwrap, hm0, hmb', hm, hroom, h9, hf', Question.forced, newRow, grownCap, hfo]
      exact fun h0 => absurd h0 (Nat.mul_ne_zero hm (by omega))
end
theorem zeroCells_digs (m : Nat) : (Builtin.zeroCells (arr 32 fun _ => 0) m).toList = dcells (List.replicate m zeroD) := by
  have h := made_digs m
  have e : Builtin.zeroCells (arr 32 fun _ => 0) m = madeCells (arr 32 fun _ => 0) (m * 32) := by
    unfold Builtin.zeroCells madeCells
    rw [arr_size]
  rw [e, h]
/-- append of some noughts, as digests -/
theorem wpList_appendZD {w : World} {ops : Array Oper} {rest : List Oper} {o : Oper} {a : Act} {Q : Exit → Act → World → Prop} (hgd : o.guard = none) (s x : Operand)
    (ho : o.op = .call { callee := .builtin .append, args := #[s, x], argTypes := #[69, 3] })
    (base : Nat) (v : Value) (ds : List (List UInt8)) (hs : a.eval s = v) (hown : w.ownsRow base 43 32 v ds.length (dcells ds)) (m : Nat) (hx : a.eval x = .int .i64 (m : Int)) (hl : ds.length + m ≤ 1000000000) (hbase : base ≤ w.heap.size)
    (h : ∀ v' w', w'.ownsRow base 43 32 v' (ds ++ List.replicate m zeroD).length (dcells (ds ++ List.replicate m zeroD)) → w.grownBy w' v.ownBlock → wpList Tryd.prog ops Q rest (a.put o.dst v') w') : wpList Tryd.prog ops Q (o :: rest) a w := by
  obtain ⟨i0, hi, hz0, hz1, hz2⟩ := info_parts (by kernel_rfl : (Tryd.prog.info? 43).map (fun i => (i.zero, i.size, i.bytes)) = some (some (.agg (arr 32 fun _ => 0)), 32, 32))
  have hcells : (Value.agg (arr 32 fun _ => (0 : UInt8))).cells = arr 32 fun _ => 0 := rfl
  refine wpList_plain hgd fun K hK => ?_
  obtain ⟨v', w', hrun, h2, h3⟩ := run_append_zeros_at (P := Tryd.prog) w base 69 o.type 43 3 i0 (.agg (arr 32 fun _ => 0)) 32 .i64 .i64 Tryd.underlying69 Tryd.underlying3 hi hz0 hz2 (by rw [hcells, hz1]; exact arr_size _ _) (by rw [hcells]; exact arr_one _ _) v ds.length (dcells ds) (by rw [hz1]; exact hown) m (by unfold maxLen; omega) (by omega) hbase (by decide) (by rw [hz1]; decide)
  rw [hcells, zeroCells_digs, ← dcells_append, hz1] at h2
  unfold Oper.wp execOp
  simp only [ho, resolve, invoke, builtin, Sem.run_bind, Sem.run_pure, Result.andThen_ok, List.map_toArray, List.map_cons, List.map_nil, hs, hx, hrun]
  exact hK _ _ (h v' w' (by rw [List.length_append, List.length_replicate]; exact h2) h3)
/-- append of some digests onto a row of digests of the call's own -/
theorem wpList_appendDs {w : World} {ops : Array Oper} {rest : List Oper} {o : Oper} {a : Act} {Q : Exit → Act → World → Prop} (hgd : o.guard = none) (s x : Operand)
    (ho : o.op = .call { callee := .builtin .append, args := #[s, x], argTypes := #[69, 69] })
    (base : Nat) (v : Value) (ds : List (List UInt8)) (hs : a.eval s = v) (hown : w.ownsRow base 43 32 v ds.length (dcells ds))
    (g o2 cap : Nat) (es : List (List UInt8)) (hx : a.eval x = .slice (some ⟨g, o2, none⟩) es.length cap) (hX : DX w (.slice (some ⟨g, o2, none⟩) es.length cap) es) (hl : ds.length + es.length ≤ 1000000000) (hbase : base ≤ w.heap.size)
    (h : ∀ v' w', w'.ownsRow base 43 32 v' (ds ++ es).length (dcells (ds ++ es)) → w.grownBy w' v.ownBlock → wpList Tryd.prog ops Q rest (a.put o.dst v') w') : wpList Tryd.prog ops Q (o :: rest) a w := by
  obtain ⟨i0, hi, hz0, hz1, hz2⟩ := info_parts (by kernel_rfl : (Tryd.prog.info? 43).map (fun i => (i.zero, i.size, i.bytes)) = some (some (.agg (arr 32 fun _ => 0)), 32, 32))
  refine wpList_append_own_at _ hgd s x _ ho base 43 i0 _ 32 32 Tryd.underlying69 hi hz0 hz1 hz2 (by show (arr 32 fun _ => 0).size = 32; exact arr_size _ _) (by decide) v _ _ hs hown ⟨g, o2, none⟩ es.length cap (dcells es) hx (dcells_length es) (fun j u hj => hX.cells j u hj) (dcells_one es) (by unfold maxLen; omega) (by omega) hbase ?_
  intro v' w' hown' hg _ _
  rw [← dcells_append] at hown'
  exact h v' w' (by rw [List.length_append]; exact hown') hg
end Go.Proofs.YteonmcconpfkjaaDoor

/- append of a slice of digests, nil let in, onto a row of digests of the call's own; one byte of a row of digests is stored. No condition. -/
namespace Go.Proofs.YteonmcconpfkjaaDoor
open Go Go.RowKit
theorem run_append_nilAt {P : Program} (w : World) (base : Nat) (t ty e : TypeId) (i : TypeInfo) (size : Nat) (ht : P.underlying t = some (.slice e)) (hi : P.info? e = some i) (v : Value) (n : Nat) (xs : List Value) (hown : w.ownsRow base e size v n xs) (A : Option Addr) (c : Nat) :
    (Builtin.append_ #[t, t] ty #[v, .slice A 0 c]).run P w = .ok v w := by
  have hl0 : ∀ (x : Addr), (loadCells x 0).run P w = .ok #[] w := fun x => by simpa using run_loadCells_list (P := P) w x [] (by simp)
  rcases hown.2 with ⟨rfl, h2⟩ | ⟨g, cap, cur, rfl, _, _, hnc, _⟩
  · cases A <;> simp [Builtin.append_, run_underlying ht, sizeOf, typeInfo, hi, Builtin.lenOf, Builtin.firstCells, hl0]
  · cases A <;> simp [Builtin.append_, run_underlying ht, sizeOf, typeInfo, hi, Builtin.lenOf, Builtin.firstCells, hnc, storeCells, hl0]
theorem wpList_appendDX {w : World} {ops : Array Oper} {rest : List Oper} {o : Oper} {a : Act} {Q : Exit → Act → World → Prop} (hgd : o.guard = none) (s x : Operand)
    (ho : o.op = .call { callee := .builtin .append, args := #[s, x], argTypes := #[69, 69] })
    (base : Nat) (v : Value) (ds : List (List UInt8)) (hs : a.eval s = v) (hown : w.ownsRow base 43 32 v ds.length (dcells ds))
    (A : Option Addr) (cap : Nat) (es : List (List UInt8)) (hx : a.eval x = .slice A es.length cap) (hX : DX w (.slice A es.length cap) es) (hl : ds.length + es.length ≤ 1000000000) (hbase : base ≤ w.heap.size)
    (h : ∀ v' w', w'.ownsRow base 43 32 v' (ds ++ es).length (dcells (ds ++ es)) → w.grownBy w' v.ownBlock → wpList Tryd.prog ops Q rest (a.put o.dst v') w') : wpList Tryd.prog ops Q (o :: rest) a w := by
  by_cases h0 : es.length = 0
  · have hnil : es = [] := List.length_eq_zero_iff.1 h0
    subst hnil
    obtain ⟨i0, hi, _, _, _⟩ := info_parts (by kernel_rfl : (Tryd.prog.info? 43).map (fun i => (i.zero, i.size, i.bytes)) = some (some (.agg (arr 32 fun _ => 0)), 32, 32))
    refine wpList_plain hgd fun K hK => ?_
    have hx0 : a.eval x = .slice A 0 cap := hx
    have hrun := run_append_nilAt (P := Tryd.prog) w base 69 o.type 43 i0 32 Tryd.underlying69 hi v ds.length (dcells ds) hown A cap
    unfold Oper.wp execOp
    simp only [ho, resolve, invoke, builtin, Sem.run_bind, Sem.run_pure, Result.andThen_ok, List.map_toArray, List.map_cons, List.map_nil, hs, hx0, hrun]
    exact hK _ _ (h v w (by rw [List.append_nil]; exact hown) (World.grownBy.refl w _))
  · obtain ⟨g, o2, rfl⟩ := hX.addr (by omega)
    exact wpList_appendDs hgd s x ho base v ds hs hown g o2 cap es hx hX hl hbase h
/-- one byte of one digest turned -/
def setB (ds : List (List UInt8)) (k j : Nat) (b : UInt8) : List (List UInt8) := ds.set k (((ds.getD k []).set j b))
theorem setB_len (ds : List (List UInt8)) (k j : Nat) (b : UInt8) : (setB ds k j b).length = ds.length := List.length_set
theorem setB_mem (ds : List (List UInt8)) (k j : Nat) (b : UInt8) (h : ∀ d ∈ ds, d.length = 32) (hk : k < ds.length) : ∀ d ∈ setB ds k j b, d.length = 32 := fun d hd =>
  (List.mem_or_eq_of_mem_set hd).elim (h d) (fun e => by rw [e, List.length_set, List.getD_eq_getElem?_getD, List.getElem?_eq_getElem hk]; exact h _ (List.getElem_mem _))
theorem dcells_setB (ds : List (List UInt8)) (k j : Nat) (b : UInt8) (hk : k < ds.length) (hj : j < 32) (hall : ∀ d ∈ ds, d.length = 32) : (dcells ds).set (k * 32 + j) (v8 b) = dcells (setB ds k j b) := by
  have hd32 : (ds.getD k []).length = 32 := by rw [List.getD_eq_getElem?_getD, List.getElem?_eq_getElem hk]; exact hall _ (List.getElem_mem _)
  apply List.ext_getElem?
  intro p
  by_cases hp : p < ds.length * 32
  · have e : p = (p / 32) * 32 + p % 32 := by omega
    have hq : p % 32 < 32 := Nat.mod_lt _ (by decide)
    rw [List.getElem?_set]
    have hR : (dcells (setB ds k j b))[p]? = (dat ((setB ds k j b).getD (p / 32) []))[p % 32]? := by
      conv => lhs; rw [e]
      exact dcells_at _ (p / 32) (by rw [setB_len]; omega) (p % 32) hq
    have hL : (dcells ds)[p]? = (dat (ds.getD (p / 32) []))[p % 32]? := by
      conv => lhs; rw [e]
      exact dcells_at _ (p / 32) (by omega) (p % 32) hq
    have hset : (setB ds k j b).getD (p / 32) [] = if k = p / 32 then (ds.getD k []).set j b else ds.getD (p / 32) [] := by
      unfold setB
      rw [List.getD_eq_getElem?_getD, List.getElem?_set]
      by_cases hkp : k = p / 32
      · rw [if_pos hkp, if_pos hkp, if_pos hk]; rfl
      · rw [if_neg hkp, if_neg hkp, ← List.getD_eq_getElem?_getD]
    rw [hR, hset]
    unfold dat
    by_cases hkp : k = p / 32
    · subst hkp
      rw [if_pos rfl, arr_at _ _ _ hq]
      by_cases hjp : j = p % 32
      · subst hjp
        rw [if_pos e.symm, if_pos (by rw [dcells_length]; omega), List.getD_eq_getElem?_getD, List.getElem?_set, if_pos rfl, if_pos (by rw [hd32]; exact hj)]; rfl
      · rw [if_neg (by omega), hL]
        unfold dat
        have hg : ∀ x : List UInt8, (x.set j b).getD (p % 32) 0 = x.getD (p % 32) 0 := fun x => by rw [List.getD_eq_getElem?_getD, List.getD_eq_getElem?_getD, List.getElem?_set, if_neg hjp]
        rw [arr_at _ _ _ hq, hg]
    · rw [if_neg hkp, if_neg (by omega), hL]; rfl
  · rw [List.getElem?_eq_none (by rw [List.length_set, dcells_length]; omega), List.getElem?_eq_none (by rw [dcells_length, setB_len]; omega)]
end Go.Proofs.YteonmcconpfkjaaDoor

/- One byte of a row of digests, or of a digest, stored. No condition. -/
namespace Go.Proofs.YteonmcconpfkjaaDoor
open Go Go.RowKit
theorem xor8_1 (x : UInt8) : bits .xor .u8 (n8 x) 1 = n8 (x ^^^ 1) := bits_xor8 x 1
theorem xor8_4 (x : UInt8) : bits .xor .u8 (n8 x) 4 = n8 (x ^^^ 4) := bits_xor8 x 4
theorem dat_at (d : List UInt8) (j : Nat) (hj : j < 32) : (dat d)[j]? = some (.int .u8 (n8 (d.getD j 0))) := arr_at 32 _ j hj
theorem dat_setB (d : List UInt8) (h : d.length = 32) (j : Nat) (hj : j < 32) (b : UInt8) : (dat d).setIfInBounds j (.int .u8 (n8 b)) = dat (d.set j b) := by
  have e1 := dat_eq d h
  have e2 := dat_eq (d.set j b) (by rw [List.length_set]; exact h)
  rw [e1, e2, List.map_set]
  simp [v8]
theorem ownD_set {w : World} {base : Nat} {A : Option Addr} {cap : Nat} {ds : List (List UInt8)} (h : w.ownsRow base 43 32 (.slice A ds.length cap) ds.length (dcells ds)) (hne : ds.length ≠ 0) (hall : ∀ d ∈ ds, d.length = 32) :
    ∃ g cur, A = some ⟨g, 0, none⟩ ∧ base ≤ g ∧ Blk w g 43 cur ∧ ds.length * 32 ≤ cur.size ∧ (∀ i j, i < ds.length → j < 32 → cur[i * 32 + j]? = some (.int .u8 (n8 ((ds.getD i []).getD j 0)))) ∧
      ∀ w' i j b, i < ds.length → j < 32 → Blk w' g 43 (cur.setIfInBounds (i * 32 + j) (.int .u8 (n8 b))) → w'.ownsRow base 43 32 (.slice A ds.length cap) (setB ds i j b).length (dcells (setB ds i j b)) := by
  rcases h.2 with ⟨_, h0⟩ | ⟨g, cap2, cur, hv, hB, hg, hc, hm, hs, ht⟩
  · exact (hne h0).elim
  · injection hv with e1 _ e3
    subst e1
    subst e3
    have hsz : ds.length * 32 ≤ cur.size := by rw [hs]; exact Nat.mul_le_mul_right _ hc
    refine ⟨g, cur, rfl, hB, hg, hsz, fun i j hi hj => ?_, fun w' i j b hi hj hb => ?_⟩
    · have h1 := dcells_at ds i hi j hj
      rw [← ht, List.getElem?_take_of_lt (by omega), dat_at _ j hj] at h1
      rw [← Array.getElem?_toList]; exact h1
    · rw [setB_len]
      refine ⟨by rw [dcells_length, setB_len], .inr ⟨g, cap, _, rfl, hB, hb, hc, hm, by rw [Array.size_setIfInBounds]; exact hs, ?_⟩⟩
      rw [Array.toList_setIfInBounds, List.take_set, ht]
      exact dcells_setB ds i j b hi hj hall
end Go.Proofs.YteonmcconpfkjaaDoor

/- The width of 32; the cells of a digest. No condition. -/
namespace Go.Proofs.YteonmcconpfkjaaDoor
open Go.RowKit
theorem kw32 : cutW 32 = 32 := by decide
theorem kw2 : cutW 2 = 2 := by decide
theorem dat_cell {w : World} {g : Nat} {t : TypeId} {d : List UInt8} (h : Blk w g t (dat d)) (j : Nat) (hj : j < 32) : w.cell? ⟨g, j, none⟩ = some (.int .u8 (n8 (d.getD j 0))) := by
  rw [h.cell]; exact arr_at _ _ _ hj
end Go.Proofs.YteonmcconpfkjaaDoor
