/- Texts that stand behind one another: CmpR, VerN, ZerosD, ZerosE, CmpF. No condition. -/
import Derived.Test.YtkogehkmldbhgaaDoorP6
import Derived.Test.YtkogehkmldbhgaaDoorP5
import Derived.Test.YtkogehkmldbhgaaDoorP13
import Derived.Test.YtkogehkmldbhgaaDoorP4
/- The stack of blocks, step by step, in plain Lean; regions that draw their order by a plan with two at a time and a forced tail. No condition. -/
namespace Go.Proofs.YtkogehkmldbhgaaDoor
open Go Go.RowKit
section
variable {nd : List UInt8 → List UInt8 → List UInt8}
theorem pushF_sum {a : Nat} : ∀ {st : List (Nat × List UInt8)} {p s : Nat} {d : List UInt8}, p = a + sumT st → a + sumT (pushF nd st p s d) = p + s
  | [], p, s, d, h => by
    have h : p = a := by simpa [sumT] using h
    subst h
    simp [pushF, sumT]
  | (t, c) :: st, p, s, d, h => by
    have h : p = a + (t + sumT st) := by simpa [sumT] using h
    unfold pushF
    split
    · rename_i hc
      rw [pushF_sum (a := a) (by omega)]; omega
    · show a + (s + (t + sumT st)) = p + s
      omega
theorem pushF_mem (hnd : ∀ x y, (nd x y).length = 32) : ∀ {st : List (Nat × List UInt8)} {p s : Nat} {d : List UInt8}, (∀ q ∈ st, q.2.length = 32) → d.length = 32 → ∀ q ∈ pushF nd st p s d, q.2.length = 32
  | [], p, s, d, _, hd => fun q hq => by rw [List.mem_singleton.1 hq]; exact hd
  | (t, c) :: st, p, s, d, h, hd => by
    unfold pushF
    split
    · exact pushF_mem hnd (fun q hq => h q (List.mem_cons_of_mem _ hq)) (hnd _ _)
    · intro q hq
      rcases List.mem_cons.1 hq with rfl | hq
      · exact hd
      · exact h q hq
theorem pushF_length : ∀ {st : List (Nat × List UInt8)} {p s : Nat} {d : List UInt8}, (pushF nd st p s d).length ≤ st.length + 1
  | [], _, _, _ => Nat.le_refl _
  | (t, c) :: st, p, s, d => by
    unfold pushF
    split
    · exact Nat.le_succ_of_le pushF_length
    · exact Nat.le_refl _
theorem joinF_snoc : ∀ (l : List (Nat × List UInt8)) (st : List (Nat × List UInt8)) (p s : Nat) (d : List UInt8), joinF nd st p (l ++ [(s, d)]) = pushF nd (joinF nd st p l) (p + sumT l) s d
  | [], st, p, s, d => rfl
  | (t, c) :: l, st, p, s, d => by
    show joinF nd (pushF nd st p t c) (p + t) (l ++ [(s, d)]) = pushF nd (joinF nd (pushF nd st p t c) (p + t) l) (p + sumT ((t, c) :: l)) s d
    rw [joinF_snoc, show p + t + sumT l = p + sumT ((t, c) :: l) by simp [sumT]; omega]
theorem joinF_sum {a : Nat} (l : List (Nat × List UInt8)) : ∀ {st : List (Nat × List UInt8)} {p : Nat}, p = a + sumT st → a + sumT (joinF nd st p l) = p + sumT l := by
  induction l with
  | nil => intro st p h; simp only [joinF]; simp [sumT] at h ⊢; exact h.symm
  | cons q l ih =>
    obtain ⟨t, c⟩ := q
    intro st p h
    show a + sumT (joinF nd (pushF nd st p t c) (p + t) l) = _
    rw [ih (pushF_sum h).symm]
    simp [sumT]; omega
theorem joinF_mem (hnd : ∀ x y, (nd x y).length = 32) : ∀ (l : List (Nat × List UInt8)) {st : List (Nat × List UInt8)} {p : Nat}, (∀ q ∈ st, q.2.length = 32) → (∀ q ∈ l, q.2.length = 32) → ∀ q ∈ joinF nd st p l, q.2.length = 32
  | [], _, _, h, _ => h
  | (t, c) :: l, st, p, h, hl => joinF_mem hnd l (pushF_mem hnd h (hl _ (List.mem_cons_self ..))) (fun q hq => hl q (List.mem_cons_of_mem _ hq))
theorem joinF_length : ∀ (l : List (Nat × List UInt8)) {st : List (Nat × List UInt8)} {p : Nat}, (joinF nd st p l).length ≤ st.length + l.length
  | [], _, _ => Nat.le_refl _
  | (t, c) :: l, st, p => by
    have h1 := joinF_length l (st := pushF nd st p t c) (p := p + t)
    have h2 := pushF_length (nd := nd) (st := st) (p := p) (s := t) (d := c)
    show (joinF nd (pushF nd st p t c) (p + t) l).length ≤ st.length + (l.length + 1)
    omega
end
theorem til_one : ∀ {l : List Nat} {a e : Nat}, Til a e l → ∀ s ∈ l, 1 ≤ s
  | [], _, _, _, _, h => by cases h
  | s :: l, a, e, ht, t, h => by
    obtain ⟨⟨k, hk⟩, _, hr⟩ := ht
    rcases List.mem_cons.1 h with rfl | h
    · rw [hk]; exact p2_pos k
    · exact til_one hr t h
theorem til_sum : ∀ {l : List Nat} {a e : Nat}, Til a e l → a + l.sum = e
  | [], _, _, h => by have h : _ = _ := h; simpa using h
  | s :: l, a, e, ht => by
    have := til_sum ht.2.2
    simp only [List.sum_cons]; omega
theorem sumT_append (l m : List (Nat × List UInt8)) : sumT (l ++ m) = sumT l + sumT m := by simp [sumT]
theorem sumT_take_le (l : List (Nat × List UInt8)) (k : Nat) : sumT (l.take k) ≤ sumT l := by
  have h := sumT_append (l.take k) (l.drop k)
  rw [List.take_append_drop] at h
  omega
theorem sumT_snoc (l : List (Nat × List UInt8)) (s : Nat) (d : List UInt8) : sumT (l ++ [(s, d)]) = sumT l + s := by simp [sumT]
theorem take_snoc {α : Type} (l : List α) (k : Nat) (h : k < l.length) : l.take (k + 1) = l.take k ++ [l[k]] := List.take_succ_eq_append_getElem h
section
variable {P : Program} {ops : Array Oper} {md : Region.Mode} {n : Nat}
def mixBU (md : Region.Mode) (ops : Array Oper) (n : Nat) : Plan → Array Bool → Bool
  | .done, listed => Region.seqB md ops (ops.size - n) n listed
  | .plain i p, listed => decide (i < n) && Region.free md ops listed i && (Region.ready md ops listed).contains i && ((ops[i]?).map plainOp).getD false && mixBU md ops n p (listed.setIfInBounds i true)
  | .only i p, listed => decide (i < n) && (Region.ready md ops listed == [i]) && mixBU md ops n p (listed.setIfInBounds i true)
  | .two i k p q, listed => decide (i < n) && decide (k < n) && (Region.ready md ops listed == [i, k]) && (p.len == q.len) && mixBU md ops n p (listed.setIfInBounds i true) && mixBU md ops n q (listed.setIfInBounds k true)
theorem wpAnyU_of_mix (hsel : Region.noSelect ops = true) (hs : Region.sinkB md ops n = true) (hc : Region.chainB md ops n = true) (hn : n < ops.size) (K : Act → World → Prop) :
    ∀ (p : Plan) (S : World → Prop) (listed : Array Bool) (a : Act) (w : World), HeadInv md ops n listed → mixBU md ops n p listed = true → S w → mixW P ops K p S a w →
    wpAnyT P md ops n (fun listed a w => Region.seqB md ops (ops.size - n) n listed = true ∧ K a w) p.len S listed a w
  | .done, S, listed, a, w, inv, hB, hS, h => ⟨hB, h⟩
  | .plain i p, S, listed, a, w, inv, hB, hS, h => by
    simp only [mixBU, Bool.and_eq_true, decide_eq_true_eq] at hB
    obtain ⟨⟨⟨⟨hin, hf⟩, hr⟩, hp⟩, hB⟩ := hB
    unfold mixW at h
    cases ho : ops[i]? with
    | none => rw [ho] at h; exact h.elim
    | some o =>
      rw [ho] at h hp
      obtain ⟨v, hy, hK⟩ := yieldsIf_of_quiet (by simpa using hp) h
      have hr' : i ∈ Region.ready md ops listed := by simpa using hr
      exact wpAnyT_first ho (Region.noSelect_spec hsel) hs hc hn hin (fun _ _ _ hL => seqB_ready hL.1) _ S listed a w inv (Region.free_spec ho hf) hr' hy hS (wpAnyU_of_mix hsel hs hc hn K p S _ _ w (inv.set hr' hin) hB hS hK)
  | .only i p, S, listed, a, w, inv, hB, hS, h => by
    simp only [mixBU, Bool.and_eq_true, beq_iff_eq, decide_eq_true_eq] at hB
    obtain ⟨⟨hin, hr⟩, hB⟩ := hB
    unfold mixW at h
    refine ⟨fun h0 => (by rw [hr] at h0; cases h0), fun j hj => ?_⟩
    rw [hr, List.mem_singleton] at hj
    subst hj
    refine ⟨hin, ?_⟩
    cases ho : ops[j]? with
    | none => rw [ho] at h; exact h.elim
    | some o =>
      rw [ho] at h
      exact wpOp_mono (fun a' w' ⟨S', h1, h2, h3⟩ => ⟨S', h1, h2, wpAnyU_of_mix hsel hs hc hn K p S' _ a' w' (inv.set (by rw [hr]; exact List.mem_singleton.2 rfl) hin) hB h2 h3⟩) (wpOp_of_listN ho h)
  | .two i k p q, S, listed, a, w, inv, hB, hS, h => by
    simp only [mixBU, Bool.and_eq_true, beq_iff_eq, decide_eq_true_eq] at hB
    obtain ⟨⟨⟨⟨⟨hin, hkn⟩, hr⟩, hl⟩, hB1⟩, hB2⟩ := hB
    unfold mixW at h
    refine ⟨fun h0 => (by rw [hr] at h0; cases h0), fun j hj => ?_⟩
    have hj0 := hj
    rw [hr] at hj
    rcases List.mem_cons.1 hj with rfl | hj
    · refine ⟨hin, ?_⟩
      cases ho : ops[j]? with
      | none => rw [ho] at h; exact h.1.elim
      | some o =>
        rw [ho] at h
        exact wpOp_mono (fun a' w' ⟨S', h1, h2, h3⟩ => ⟨S', h1, h2, wpAnyU_of_mix hsel hs hc hn K p S' _ a' w' (inv.set hj0 hin) hB1 h2 h3⟩) (wpOp_of_listN ho h.1)
    · rw [List.mem_singleton] at hj
      subst hj
      refine ⟨hkn, ?_⟩
      cases ho : ops[j]? with
      | none => rw [ho] at h; exact h.2.elim
      | some o =>
        rw [ho] at h
        show wpOp P ops _ _ (fun a' w' => ∃ S' : World → Prop, (∀ w, S' w → S w) ∧ S' w' ∧ wpAnyT P md ops n _ p.len S' _ a' w') a w
        rw [hl]
        exact wpOp_mono (fun a' w' ⟨S', h1, h2, h3⟩ => ⟨S', h1, h2, wpAnyU_of_mix hsel hs hc hn K q S' _ a' w' (inv.set hj0 hkn) hB2 h2 h3⟩) (wpOp_of_listN ho h.2)
end
/-- The Bool of a region by a plan, two at a time let in, with a forced tail from place n on. -/
def mixUB (ops : Array Oper) (n : Nat) (p : Plan) : Bool :=
  Region.noSelect ops && decide (n < ops.size) && Region.sinkB .any ops n && Region.chainB .any ops n && (p.len == n) && mixBU .any ops n p (Array.replicate ops.size false)
/-- A region that draws its order, by a plan, then a forced tail; at a class. -/
theorem wp_region_mixU {P : Program} {id : Nat} {Q : Exit → Act → World → Prop} {a : Act} {w : World} {l : List Oper} (n : Nat) (p : Plan) (S : World → Prop) (hm : P.follows .mixedOrders = true) (hB : mixUB l.toArray n p = true)
    (hS : S (w.drewN 1)) (h : mixW P l.toArray (fun a w => wpList P l.toArray Q (l.drop n) a w) p S a (w.drewN 1)) : (Code.region id l.toArray true).wp P Q a w := by
  simp only [mixUB, Bool.and_eq_true, beq_iff_eq, decide_eq_true_eq] at hB
  obtain ⟨⟨⟨⟨⟨hsel, hn⟩, hs⟩, hc⟩, hl⟩, hB⟩ := hB
  have inv0 : HeadInv .any l.toArray n (Array.replicate l.toArray.size false) :=
    ⟨by simp, fun j oj _ hl => (by rw [getD_replicate_false] at hl; cases hl), fun t _ ht => getD_in (by simpa using ht) (getD_replicate_false _ _)⟩
  have hdl : (l.drop n).length = l.toArray.size - n := by simp
  have H := wpAnyU_of_mix (P := P) hsel hs hc hn _ p S _ a (w.drewN 1) inv0 hB hS h
  refine wp_region_any hm ?_
  have := wpAny_of_T (Q := Q) (g := l.toArray.size - n) (fun listed a' w' hL => by
    have := wpAny_of_seq (md := .any) (Q' := Q) (l.drop n) n listed a' w' (fun j => by simp [List.getElem?_drop]) (by rw [hdl]; exact hL.1) hL.2
    rwa [hdl] at this) _ _ _ _ _ H
  rw [hl, show n + (l.toArray.size - n) = l.toArray.size by omega] at this
  exact this
end Go.Proofs.YtkogehkmldbhgaaDoor

/- Blocks of digests: made, copied into, one stored; deponentbook's Same at digests. No condition. -/
namespace Go.Proofs.YtkogehkmldbhgaaDoor
open Go Go.RowKit
attribute [local irreducible] mixW
attribute [local go_sem] n8_lo n8_hi n64_lo n64_hi n32_lo n32_hi
def zeroD : List UInt8 := List.replicate 32 0
theorem zeroD_len : zeroD.length = 32 := by unfold zeroD; simp
theorem dat_zeroD : dat zeroD = arr 32 fun _ => 0 := by
  unfold dat
  apply arr_congr
  intro p hp
  unfold zeroD
  rw [List.getD_eq_getElem?_getD, List.getElem?_replicate, if_pos hp]; rfl
theorem zeros_at (N j : Nat) (hj : j < N * 32) : (dcells (List.replicate N zeroD))[j]? = some (.int .u8 0) := by
  have h1 : j = (j / 32) * 32 + j % 32 := by omega
  rw [h1, dcells_at _ (j / 32) (by rw [List.length_replicate]; omega) (j % 32) (Nat.mod_lt _ (by decide))]
  rw [List.getD_eq_getElem?_getD, List.getElem?_replicate, if_pos (by omega), Option.getD_some, dat_zeroD, arr_at _ _ _ (Nat.mod_lt _ (by decide))]; rfl
theorem made_digs (N : Nat) : madeCells (arr 32 fun _ => 0) (N * 32) = (dcells (List.replicate N zeroD)).toArray := by
  apply Array.ext_getElem?
  intro j
  by_cases hj : j < N * 32
  · have hR : (dcells (List.replicate N zeroD)).toArray[j]? = some (.int .u8 0) := by rw [List.getElem?_toArray]; exact zeros_at N j hj
    rw [hR]
    unfold madeCells
    rw [Array.getElem?_map, Array.getElem?_range, if_pos hj]
    have h32 : (arr 32 fun _ => (0 : UInt8)).size = 32 := arr_size _ _
    have hm : j % (arr 32 fun _ => (0 : UInt8)).size < (arr 32 fun _ => (0 : UInt8)).size := by rw [h32]; exact Nat.mod_lt _ (by decide)
    show some ((arr 32 fun _ => (0 : UInt8))[j % (arr 32 fun _ => (0 : UInt8)).size]!) = _
    rw [getElem!_pos (arr 32 fun _ => (0 : UInt8)) _ hm]
    have := arr_at 32 (fun _ => (0 : UInt8)) (j % (arr 32 fun _ => (0 : UInt8)).size) (by rw [h32] at hm ⊢; exact hm)
    rw [Array.getElem?_eq_getElem hm] at this
    injection this with this
    rw [this]; rfl
  · rw [Array.getElem?_eq_none (by rw [size_madeCells]; omega), Array.getElem?_eq_none (by simp [dcells_length]; omega)]
/-- make([]api.Digest, n) -/
theorem wpList_makeD {w : World} {ops : Array Oper} {rest : List Oper} {o : Oper} {a : Act} {Q : Exit → Act → World → Prop} (hgd : o.guard = none) (l c : Operand) (ho : o.op = Op.makeSlice 29 l c)
    (kl kc : IntKind) (n : Nat) (hl : a.eval l = .int kl (n : Int)) (hc : a.eval c = .int kc (n : Int)) (h63 : n ≤ 1000000000)
    (h : wpList Tryd.prog ops Q rest (a.put o.dst (.slice (some ⟨w.heap.size, 0, none⟩) n n)) (w.alloc (.cells (dcells (List.replicate n zeroD)).toArray 43))) : wpList Tryd.prog ops Q (o :: rest) a w := by
  obtain ⟨i0, hi, hz0, hz1, hz2⟩ := info_parts (by kernel_rfl : (Tryd.prog.info? 43).map (fun i => (i.zero, i.size, i.bytes)) = some (some (.agg (arr 32 fun _ => 0)), 32, 32))
  refine wpList_plain hgd fun K hK => ?_
  have hr := run_make (P := Tryd.prog) w 29 43 i0 (.agg (arr 32 fun _ => 0)) Tryd.underlying29 hi hz0 kl kc n n (by omega) (by omega) (by rw [hz2]; omega) (by omega)
  have hcells : (Value.agg (arr 32 fun _ => (0 : UInt8))).cells = arr 32 fun _ => 0 := rfl
  rw [Int.toNat_natCast, hz1, hcells, made_digs] at hr
  unfold Oper.wp
  simp [execOp, ho, hl, hc, hr, Result.andThen]
  exact hK _ _ h
/-- a copy of rows of some cells an element -/
theorem run_copy_rows {P : Program} (w : World) (dT sT ty elem : TypeId) (sz g o dLen dCap : Nat) (a : Addr) (sLen sCap : Nat) (cur : Array Value) (t : TypeId) (cs : List Value)
    (hu : P.underlying dT = some (.slice elem)) (hs : (P.info? elem).map (·.size) = some sz)
    (hg : w.heap[g]? = some (.cells cur t (0, 0))) (hn : cs.length = Nat.min sLen dLen * sz)
    (hsrc : ∀ j v, cs[j]? = some v → w.cell? (a.add j) = some v) (hfit : o + cs.length ≤ cur.size) (h1 : ∀ v ∈ cs, v.oneCell' = true) :
    (Builtin.copy_ #[dT, sT] ty #[.slice (some ⟨g, o, none⟩) dLen dCap, .slice (some a) sLen sCap]).run P w =
      .ok (goInt (Nat.min sLen dLen)) (w.setRow g (cur.toList.take o ++ cs ++ cur.toList.drop (o + cs.length)).toArray) := by
  have hl := run_loadCells_list (P := P) w a cs hsrc
  have hst := run_storeCells_at P g o t cs 0 cur w hg (by simpa using hfit) h1
  cases hq : P.info? elem with
  | none => simp [hq] at hs
  | some i =>
    have hi : i.size = sz := by simpa [hq] using hs
    simp [Builtin.copy_, run_underlying hu, Builtin.lenOf, Builtin.firstCells, sizeOf, typeInfo, hq, hi, ← hn, hl, hst]
theorem run_copy_zero {P : Program} (w : World) (dT sT ty elem : TypeId) (d a : Option Addr) (dLen dCap sLen sCap : Nat) (hu : P.underlying dT = some (.slice elem)) (sz : Nat) (hs : (P.info? elem).map (·.size) = some sz) (hn : Nat.min sLen dLen = 0) :
    (Builtin.copy_ #[dT, sT] ty #[.slice d dLen dCap, .slice a sLen sCap]).run P w = .ok (goInt 0) w := by
  cases hq : P.info? elem with
  | none => simp [hq] at hs
  | some i =>
    have hl : ∀ (x : Addr), (loadCells x 0).run P w = .ok #[] w := fun x => by simpa using run_loadCells_list (P := P) w x [] (by simp)
    cases d <;> cases a <;> simp [Builtin.copy_, run_underlying hu, Builtin.lenOf, Builtin.firstCells, sizeOf, typeInfo, hq, hn, storeCells, hl]
theorem dcells_append (a b : List (List UInt8)) : dcells (a ++ b) = dcells a ++ dcells b := by simp [dcells]
theorem dcells_one (l : List (List UInt8)) : ∀ v ∈ dcells l, v.oneCell' = true := by
  intro v hv
  unfold dcells at hv
  obtain ⟨cs, hcs, hv⟩ := List.mem_flatten.1 hv
  obtain ⟨d, _, rfl⟩ := List.mem_map.1 hcs
  exact arr_one _ _ v (by simpa [dat] using hv)
/-- a slice of digests reads, from its address on, all their cells -/
theorem DX.cells {w : World} {g o n cap : Nat} {ds : List (List UInt8)} (h : DX w (.slice (some ⟨g, o, none⟩) n cap) ds) (j : Nat) (v : Value) (hj : (dcells ds)[j]? = some v) : w.cell? ((⟨g, o, none⟩ : Addr).add j) = some v := by
  obtain ⟨A', cap', e, _, _, hh⟩ := h
  injection e with e1 e2 _
  subst e1
  have hjl : j < ds.length * 32 := by have := (List.getElem?_eq_some_iff.1 hj).1; rwa [dcells_length] at this
  obtain ⟨g2, o2, e3, _, hr⟩ := hh (j / 32) (by omega)
  injection e3 with e3
  injection e3 with e4 e5
  subst e4; subst e5
  have hd := dcells_at ds (j / 32) (by omega) (j % 32) (Nat.mod_lt _ (by decide))
  rw [show j / 32 * 32 + j % 32 = j by omega, hj] at hd
  have := hr (j % 32) v (by rw [Array.getElem?_toList]; exact hd.symm)
  have e : (⟨g, o, none⟩ : Addr).add j = ⟨g, o + j, none⟩ := by unfold Addr.add; split <;> simp_all
  rw [e, show o + j = o + j / 32 * 32 + j % 32 by omega]; exact this
theorem DX.addr {w : World} {A : Option Addr} {n cap : Nat} {ds : List (List UInt8)} (h : DX w (.slice A n cap) ds) (h0 : 0 < ds.length) : ∃ g o, A = some ⟨g, o, none⟩ := by
  obtain ⟨A', cap', e, _, _, hh⟩ := h
  injection e with e1 _ _
  subst e1
  obtain ⟨g, o, e, _⟩ := hh 0 h0
  exact ⟨g, o, e⟩
theorem wpList_copy_rows {P : Program} {w : World} {ops : Array Oper} {rest : List Oper} {o : Oper} {a : Act} {Q : Exit → Act → World → Prop} (hgd : o.guard = none) (d s : Operand) (dT sT : TypeId)
    (ho : o.op = .call { callee := .builtin .copy, args := #[d, s], argTypes := #[dT, sT] }) (elem : TypeId) (sz : Nat) (hu : P.underlying dT = some (.slice elem)) (hsz : (P.info? elem).map (·.size) = some sz)
    (g off dLen dCap : Nat) (ad : Addr) (sLen sCap : Nat) (hd : a.eval d = .slice (some ⟨g, off, none⟩) dLen dCap) (hs : a.eval s = .slice (some ad) sLen sCap)
    (cur : Array Value) (t : TypeId) (hg : w.heap[g]? = some (.cells cur t (0, 0))) (cs : List Value) (hn : cs.length = Nat.min sLen dLen * sz)
    (hsrc : ∀ j v, cs[j]? = some v → w.cell? (ad.add j) = some v) (hfit : off + cs.length ≤ cur.size) (h1 : ∀ v ∈ cs, v.oneCell' = true)
    (h : wpList P ops Q rest (a.put o.dst (goInt (Nat.min sLen dLen))) (w.setRow g (cur.toList.take off ++ cs ++ cur.toList.drop (off + cs.length)).toArray)) : wpList P ops Q (o :: rest) a w := by
  refine wpList_plain hgd fun K hK => ?_
  have hrun := run_copy_rows (P := P) w dT sT o.type elem sz g off dLen dCap ad sLen sCap cur t cs hu hsz hg hn hsrc hfit h1
  unfold Oper.wp
  simp only [execOp, ho, resolve, invoke, builtin, hd, hs, List.map_toArray, List.map_cons, List.map_nil, Sem.run_bind, Sem.run_pure, Result.andThen_ok, hrun]
  exact hK _ _ h
theorem wpList_copy_zero {P : Program} {w : World} {ops : Array Oper} {rest : List Oper} {o : Oper} {a : Act} {Q : Exit → Act → World → Prop} (hgd : o.guard = none) (d s : Operand) (dT sT : TypeId)
    (ho : o.op = .call { callee := .builtin .copy, args := #[d, s], argTypes := #[dT, sT] }) (elem : TypeId) (sz : Nat) (hu : P.underlying dT = some (.slice elem)) (hsz : (P.info? elem).map (·.size) = some sz)
    (dp sp : Option Addr) (dLen dCap sLen sCap : Nat) (hd : a.eval d = .slice dp dLen dCap) (hs : a.eval s = .slice sp sLen sCap) (hn : Nat.min sLen dLen = 0)
    (h : wpList P ops Q rest (a.put o.dst (goInt 0)) w) : wpList P ops Q (o :: rest) a w := by
  refine wpList_plain hgd fun K hK => ?_
  have hrun := run_copy_zero (P := P) w dT sT o.type elem dp sp dLen dCap sLen sCap hu sz hsz hn
  unfold Oper.wp
  simp only [execOp, ho, resolve, invoke, builtin, hd, hs, List.map_toArray, List.map_cons, List.map_nil, Sem.run_bind, Sem.run_pure, Result.andThen_ok, hrun]
  exact hK _ _ h
/-- copy of some digests into the head of a block of digests -/
theorem wpList_copyD {w : World} {ops : Array Oper} {rest : List Oper} {o : Oper} {a : Act} {Q : Exit → Act → World → Prop} (hgd : o.guard = none) (d s : Operand)
    (ho : o.op = .call { callee := .builtin .copy, args := #[d, s], argTypes := #[29, 29] })
    (g N n : Nat) (es : List (List UInt8)) (hN : es.length = N) (hd : a.eval d = .slice (some ⟨g, 0, none⟩) N n) (hg : Blk w g 43 (dcells es).toArray)
    (A : Option Addr) (cap : Nat) (ds : List (List UInt8)) (hs : a.eval s = .slice A ds.length cap) (hx : DX w (.slice A ds.length cap) ds) (hl : ds.length ≤ es.length)
    (h : ∀ w', Blk w' g 43 (dcells (ds ++ es.drop ds.length)).toArray → w.grownBy w' (some g) → wpList Tryd.prog ops Q rest (a.put o.dst (goInt ds.length)) w') : wpList Tryd.prog ops Q (o :: rest) a w := by
  subst hN
  have hmin : Nat.min ds.length es.length = ds.length := Nat.min_eq_left hl
  have hsz : (Tryd.prog.info? 43).map (·.size) = some 32 := by kernel_rfl
  by_cases h0 : ds.length = 0
  · refine wpList_copy_zero hgd d s _ _ ho 43 32 Tryd.underlying29 hsz _ A es.length n ds.length cap hd hs (by rw [hmin]; exact h0) ?_
    have hnil : ds = [] := List.length_eq_zero_iff.1 h0
    subst hnil
    exact h w (by simpa using hg) (World.grownBy.refl w _)
  · obtain ⟨gs, os, rfl⟩ := hx.addr (by omega)
    have hwhole : ((dcells es).toArray.toList.take 0 ++ dcells ds ++ (dcells es).toArray.toList.drop (0 + (dcells ds).length)).toArray = (dcells (ds ++ es.drop ds.length)).toArray := by
      have hl2 : List.drop (dcells ds).length (dcells es) = dcells (es.drop ds.length) := by
        obtain ⟨E1, E2, hE, hE1⟩ : ∃ E1 E2, es = E1 ++ E2 ∧ E1.length = ds.length := ⟨es.take ds.length, es.drop ds.length, (List.take_append_drop _ _).symm, by rw [List.length_take]; omega⟩
        have e2 : (dcells ds).length = (dcells E1).length := by rw [dcells_length, dcells_length, hE1]
        rw [e2, hE, ← hE1, List.drop_left, dcells_append, List.drop_left]
      rw [List.take_zero, List.nil_append, Nat.zero_add, dcells_append]
      show (dcells ds ++ List.drop (dcells ds).length (dcells es)).toArray = _
      rw [hl2]
    refine wpList_copy_rows hgd d s _ _ ho 43 32 Tryd.underlying29 hsz g 0 es.length n ⟨gs, os, none⟩ ds.length cap hd hs (dcells es).toArray 43 hg (dcells ds) (by rw [hmin, dcells_length]) (fun j v hj => hx.cells j v hj) (by rw [List.size_toArray, dcells_length, dcells_length]; omega) (dcells_one ds) ?_
    rw [hmin, hwhole]
    exact h (w.setRow g (dcells (ds ++ es.drop ds.length)).toArray) (setRow_heap w g _ _ _ _ hg) (only_setRow w g _)
theorem dcells_set (l : List (List UInt8)) (k : Nat) (hk : k < l.length) (m : List UInt8) : copied (dcells l).toArray (k * 32) (dat m).toList 32 = (dcells (l.set k m)).toArray := by
  obtain ⟨L1, x, L2, hl, hk1⟩ : ∃ L1 x L2, l = L1 ++ x :: L2 ∧ L1.length = k := ⟨l.take k, l[k], l.drop (k + 1), by rw [List.getElem_cons_drop, List.take_append_drop], by rw [List.length_take]; omega⟩
  subst hl
  subst hk1
  have hs : (L1 ++ x :: L2).set L1.length m = L1 ++ m :: L2 := by simp
  have hm : (dat m).toList.length = 32 := by rw [Array.length_toList, dat_size]
  have h4 : (dat x).toList.length = 32 := by rw [Array.length_toList, dat_size]
  have h2 : ∀ y, dcells (L1 ++ y :: L2) = dcells L1 ++ ((dat y).toList ++ dcells L2) := fun y => by simp [dcells]
  have h1 : (dcells L1).length = L1.length * 32 := dcells_length _
  rw [hs, h2, h2]
  unfold copied
  show (List.take (L1.length * 32) (dcells L1 ++ ((dat x).toList ++ dcells L2)) ++ (List.take 32 (dat m).toList ++ List.drop (L1.length * 32 + (List.take 32 (dat m).toList).length) (dcells L1 ++ ((dat x).toList ++ dcells L2)))).toArray = _
  rw [List.take_of_length_le (by omega : (dat m).toList.length ≤ 32), hm, ← h1, List.take_left]
  congr 3
  have h5 : (dcells L1).length + 32 = (dcells L1 ++ (dat x).toList).length := by rw [List.length_append, h4]
  rw [h5, ← List.append_assoc (dcells L1), List.drop_left]
/-- one digest of a block of digests is stored -/
theorem wpList_storeD {w : World} {ops : Array Oper} {rest : List Oper} {o : Oper} {a : Act} {Q : Exit → Act → World → Prop} (hgd : o.guard = none) (hdst : o.dst = none) (x y : Operand) (ho : o.op = .store 43 x y) (g k : Nat) (hx : a.eval x = .pointer (some ⟨g, k * 32, none⟩)) (m : List UInt8) (hy : a.eval y = .agg (dat m))
    (l : List (List UInt8)) (hk : k < l.length) (hg : Blk w g 43 (dcells l).toArray)
    (h : ∀ w', Blk w' g 43 (dcells (l.set k m)).toArray → w.grownBy w' (some g) → wpList Tryd.prog ops Q rest a w') : wpList Tryd.prog ops Q (o :: rest) a w :=
  wpList_storeB hgd hdst 43 x y ho g (k * 32) hx (dat m) hy 43 (dcells l).toArray hg (by rw [dat_size]; kernel_rfl) (by rw [dat_size, List.size_toArray, dcells_length]; omega) (arr_one _ _) fun w' h1 h2 => by
    rw [dat_size, dcells_set l k hk m] at h1
    exact h w' h1 h2
theorem DX.of_blk {w : World} {g : Nat} {ds : List (List UInt8)} (h : Blk w g 43 (dcells ds).toArray) (hl : ds.length ≤ 1000000000) : DX w (.slice (some ⟨g, 0, none⟩) ds.length ds.length) ds :=
  ⟨_, _, rfl, Nat.le_refl _, by omega, fun k hk => ⟨g, 0, rfl, h.lt, fun j v hj => by
    have hj32 : j < 32 := by
      have := (List.getElem?_eq_some_iff.1 hj).1
      rw [Array.length_toList, dat_size] at this; exact this
    rw [Nat.zero_add, h.cell, List.getElem?_toArray, dcells_at ds k hk j hj32, ← hj, Array.getElem?_toList]⟩⟩
set_option maxHeartbeats 400000 in
set_option maxRecDepth 100000 in
theorem sameX_any (u v : Value) (ds : List (List UInt8)) (hall : ∀ d ∈ ds, d.length = 32) (hn : ds.length ≤ 1000000000) (w : World) (hu : DX w u ds) (hv : DX w v ds) :
    Calls Tryd.prog 40 #[u, v] w fun e w' => e = .returned (.bool true) ∧ Below w.heap.size w w' := by
  have Hall := Lib.hid hall
  clear hall
  obtain ⟨A1, c1, rfl, x1, x2, h1⟩ := hu
  obtain ⟨A2, c2, rfl, y1, y2, h2⟩ := hv
  have H1 : Hid (DX w (.slice A1 ds.length c1) ds) := Lib.hid ⟨A1, c1, rfl, x1, x2, h1⟩
  have H2 : Hid (DX w (.slice A2 ds.length c2) ds) := Lib.hid ⟨A2, c2, rfl, y1, y2, h2⟩
  clear h1 h2 x1 x2 y1 y2
  have hne : ((ds.length : Int) != (ds.length : Int)) = false := by simp
  go_enter Tryd.func40, Tryd.ntmps40
  go_wp2_with fail
  go_loopw [5] (fun iv wr => ∃ k : Nat, k ≤ ds.length ∧ iv = .int .i64 k ∧ Below w.heap.size w wr) (fun iv _ => ds.length - (intOf iv).toNat)
  case atStart => exact ⟨0, by omega, rfl, Below.refl _ _⟩
  case round =>
    obtain ⟨k, hk, rfl, hbel⟩ := hrel
    by_cases hlt : k < ds.length
    case neg =>
      have hlt' : ¬ ((k : Int) < (ds.length : Int)) := by omega
      go_wp2_with fail
      go_ret
      exact ⟨rfl, hbel⟩
    have hlt' : (k : Int) < (ds.length : Int) := by omega
    obtain ⟨A1', c1', e1, _, _, hh1⟩ := H1.out.next hbel
    injection e1 with e1 _ e1c
    subst e1c
    obtain ⟨g1, o1, e3, hg1, hr1⟩ := hh1 k hlt
    rw [e3] at e1
    subst e1
    obtain ⟨A2', c2', e2, _, _, hh2⟩ := H2.out.next hbel
    injection e2 with e2 _ e2c
    subst e2c
    obtain ⟨g2, o2, e4, hg2, hr2⟩ := hh2 k hlt
    rw [e4] at e2
    subst e2
    clear hh1 hh2 e3 e4
    have hdl : (ds.getD k []).length = 32 := Hall.out _ (by rw [List.getD_eq_getElem?_getD, List.getElem?_eq_getElem hlt]; exact List.getElem_mem _)
    generalize ds.getD k [] = d at hr1 hr2 hdl
    have Hdl := Lib.hid hdl
    clear hdl
    go_wp2_with fail
    refine wp_region_mixP (.plain 0 <| .plain 1 <| .plain 2 <| .plain 3 <| .plain 4 <| .plain 5 <| .plain 6 <| .plain 7 <| .plain 8 <| .done) (by kernel_rfl) (by kernel_rfl) (fun W1 hb1 => ?_)
    replace hr1 := range_next hr1 hg1 hb1
    replace hr2 := range_next hr2 hg2 hb1
    replace hbel := hbel.trans (hb1.mono hbel.size)
    clear hb1
    iterate 9 (refine mix_plain rfl ?_; (first
      | (refine wpQuiet_loadMid rfl 43 (.tmp 19) rfl g1 (o1 + k * 32) rfl (dat d) _ (fun _ ⟨e, he⟩ => by rw [he]; exact range_plus hr1 e) Tryd.underlying43 rfl (by rw [dat_size]; kernel_rfl) ?_; simp only [Act.put, List.setIfInBounds_toArray, List.set_cons_zero, List.set_cons_succ])
      | (refine wpQuiet_loadMid rfl 43 (.tmp 23) rfl g2 (o2 + k * 32) rfl (dat d) _ (fun _ ⟨e, he⟩ => by rw [he]; exact range_plus hr2 e) Tryd.underlying43 rfl (by rw [dat_size]; kernel_rfl) ?_; simp only [Act.put, List.setIfInBounds_toArray, List.set_cons_zero, List.set_cons_succ])
      | (refine wpQuiet_neD rfl (.tmp 20) (.tmp 24) _ rfl d d rfl rfl Hdl.out Hdl.out true (decide_eq_true rfl) ?_; simp only [Act.put, List.setIfInBounds_toArray, List.set_cons_zero, List.set_cons_succ])
      | go_big_quiet_step (fail)); refine wpQuiet_nil ?_)
    refine mix_done ?_
    clear hr1 hr2
    go_wp2_with fail
    go_roundw
    case rel => exact ⟨k + 1, by omega, by go_num, hbel⟩
    case measure => simp [intOf]; omega
end Go.Proofs.YtkogehkmldbhgaaDoor

/- append(s, make([]T, n)...) onto a row of the call's own, elements of any number of cells. No condition. -/
namespace Go.Proofs.YtkogehkmldbhgaaDoor
open Go Go.RowKit
section
variable {P : Program}
theorem run_append_zeros_at (w : World) (base : Nat) (t ty e it : TypeId) (i : TypeInfo) (z : Value) (bytes : Nat) (k kk : IntKind) (ht : P.underlying t = some (.slice e)) (hit : P.underlying it = some (.int k)) (hi : P.info? e = some i) (hz : i.zero = some z)
    (hby : i.bytes = bytes) (hzs : z.cells.size = i.size) (h1z : ∀ u ∈ z.cells.toList, u.oneCell' = true)
    (v : Value) (n : Nat) (xs : List Value) (hown : w.ownsRow base e i.size v n xs) (m : Nat)
    (h63 : n + m ≤ maxLen) (hbytes : (n + m) * bytes ≤ 140737488355328) (hbase : base ≤ w.heap.size) (hpos : 0 < bytes) (hsz : 0 < i.size) :
    ∃ v' w', (Builtin.append_ #[t, it] ty #[v, .int kk (m : Int)]).run P w = .ok v' w' ∧ w'.ownsRow base e i.size v' (n + m) (xs ++ (Builtin.zeroCells z.cells m).toList) ∧ w.grownBy w' v.ownBlock := by
  subst hby
  have hsmall : n + m ≤ 9223372036854775807 := by simp only [maxLen] at h63; omega
  have hwrap : IntKind.i64.wrap (m : Int) = (m : Int) := IntWalk.i64_in _ (by omega)
  have hm0 : ¬ ((m : Int) < 0) := by omega
  have hmb : ¬ ((m : Int) * (i.bytes : Int) > 2 ^ 48) := by
    have h1 : m * i.bytes ≤ (n + m) * i.bytes := Nat.mul_le_mul_right _ (by omega)
    have h2 : m * i.bytes ≤ 281474976710656 := by omega
    have h3 : ((m * i.bytes : Nat) : Int) ≤ 281474976710656 := by omega
    rw [Int.natCast_mul] at h3
    omega
  have hmb' : ¬ (281474976710656 < (m : Int) * (i.bytes : Int)) := by simpa using hmb
  have hzl : (Builtin.zeroCells z.cells m).toList.length = m * i.size := by rw [Array.length_toList, size_zeroCells, hzs]
  have hlen : (xs ++ (Builtin.zeroCells z.cells m).toList).length = (n + m) * i.size := by rw [List.length_append, hown.1, hzl, Nat.add_mul]
  have h1 : ∀ u ∈ (Builtin.zeroCells z.cells m).toList, u.oneCell' = true := fun u hu => by
    unfold Builtin.zeroCells at hu
    rw [Array.toList_map, List.mem_map] at hu
    obtain ⟨j, _, rfl⟩ := hu
    have hlt : j % z.cells.size < z.cells.size := Nat.mod_lt _ (by omega)
    rw [getElem!_pos z.cells _ hlt]
    exact h1z _ (by simp)
  have hfits : ∀ old, old < n + m → Builtin.nextslicecap (n + m) old * i.bytes ≤ 281474976710656 := fun old ho => growslice_fits ho hbytes
  have grown : ∀ (old : Nat), old < n + m → ∀ (row : Option Nat),
      (w.drew.alloc (.cells (xs.toArray ++ Builtin.zeroCells z.cells m ++ Builtin.zeroCells z.cells (grownCap w (n + m) old e - (n + m))) e)).ownsRow base e i.size
        (.slice (some ⟨w.heap.size, 0, none⟩) (n + m) (grownCap w (n + m) old e)) (n + m) (xs ++ (Builtin.zeroCells z.cells m).toList) ∧
      w.grownBy (w.drew.alloc (.cells (xs.toArray ++ Builtin.zeroCells z.cells m ++ Builtin.zeroCells z.cells (grownCap w (n + m) old e - (n + m))) e)) row := by
    intro old ho row
    have hge := grownCap_ge w (n + m) old e
    have hcm : grownCap w (n + m) old e ≤ maxLen := grownCap_le_maxLen w (n + m) old e h63
    refine ⟨⟨hlen, .inr ⟨w.heap.size, _, _, rfl, hbase, heap_alloc_new w.drew _, hge, hcm, ?_, ?_⟩⟩, ⟨rfl, rfl, rfl, by simp, fun k hk _ => Below.heap_alloc w.drew _ k hk⟩⟩
    · simp only [Array.size_append, List.size_toArray, size_zeroCells, hzs, hown.1, ← Nat.add_mul]
      congr 1
      omega
    · simp only [Array.toList_append, List.append_assoc]
      rw [← List.append_assoc, ← hlen]
      exact List.take_left
  rcases hown.2 with ⟨rfl, rfl⟩ | ⟨g, cap, cur, rfl, hbg, hg, hnc, hcm, hcs, htake⟩
  · have hx : xs = [] := List.eq_nil_of_length_eq_zero (by simpa using hown.1)
    subst hx
    by_cases hm : m = 0
    · subst hm
      have hzn : (Builtin.zeroCells z.cells 0).toList = [] := List.eq_nil_of_length_eq_zero (by simpa using hzl)
      refine ⟨.slice none 0 0, w, ?_, by rw [hzn]; exact World.ownsRow_nil w base e i.size, World.grownBy.refl w _⟩
      have hw0 : IntKind.i64.wrap 0 = 0 := by decide
      simp [Builtin.append_, asInt, asIntOf, run_underlying ht, run_underlying hit, sizeOf, typeInfo, hi, hw0]
    · have hgr := grown 0 (by omega) (Value.ownBlock (.slice none 0 0))
      have hf := hfits 0 (by omega)
      simp only [Nat.zero_add, List.nil_append, Array.empty_append] at hgr hf ⊢
      refine ⟨_, _, ?_, hgr.1, hgr.2⟩
      have hf' : ¬ (281474976710656 < Builtin.nextslicecap m 0 * i.bytes) := by omega
      have h9 : ¬ (9223372036854775807 < (m : Int)) := by omega
      have hmz : m * i.size ≠ 0 := Nat.mul_ne_zero hm (by omega)
      simp [Builtin.append_, asInt, asIntOf, run_underlying ht, run_underlying hit, sizeOf, typeInfo, zeroValue, hi, hz, hwrap, hm0, hmb', hm, h9, hf', Question.forced, run_firstCells_none, newRow, grownCap]
      exact fun h0 => absurd h0 hmz
  · by_cases hroom : n + m ≤ cap
    · have hcur : cur.size = cap * i.size := hcs
      have hst := run_storeCells_at P g (n * i.size) e (Builtin.zeroCells z.cells m).toList 0 cur w hg (by rw [hzl, hcur, Nat.add_zero, ← Nat.add_mul]; exact Nat.mul_le_mul_right _ hroom) h1
      have hadd : (⟨g, 0, none⟩ : Addr).add (n * i.size) = ⟨g, n * i.size, none⟩ := by
        unfold Addr.add; split
        · rename_i h0; rw [h0]
        · simp
      refine ⟨.slice (some ⟨g, 0, none⟩) (n + m) cap, w.setRow g (cur.toList.take (n * i.size + 0) ++ (Builtin.zeroCells z.cells m).toList ++ cur.toList.drop (n * i.size + 0 + (Builtin.zeroCells z.cells m).toList.length)).toArray, ?_, ⟨hlen, .inr ⟨g, cap, _, rfl, hbg, setRow_heap w g cur _ e _ hg, hroom, hcm, ?_, ?_⟩⟩, only_setRow w g _⟩
      · by_cases hm : m = 0
        · subst hm
          have hw0 : IntKind.i64.wrap 0 = 0 := by decide
          have hzn : (Builtin.zeroCells z.cells 0).toList = [] := List.eq_nil_of_length_eq_zero (by simpa using hzl)
          have hroom0 : n ≤ cap := by omega
          rw [hzn]
          simp [Builtin.append_, asInt, asIntOf, run_underlying ht, run_underlying hit, sizeOf, typeInfo, hi, hw0, hroom0, storeCells]
          rw [setRow_self w g cur e (0, 0) hg]
        · rw [← hadd] at hst
          have hmz : m * i.size ≠ 0 := Nat.mul_ne_zero hm (by omega)
          have hst2 : Sem.run P (storeCells ((⟨g, 0, none⟩ : Addr).add (n * i.size)) (Builtin.zeroCells z.cells m).toList) w = _ := hst
          simp [Builtin.append_, asInt, asIntOf, run_underlying ht, run_underlying hit, sizeOf, typeInfo, zeroValue, hi, hz, hwrap, hm0, hmb', hm, hroom]
          rw [if_neg hmz, hst2]
          simp
      · simp only [List.size_toArray, List.length_append, List.length_take, List.length_drop, Array.length_toList, hzl] at *
        have := Nat.mul_le_mul_right i.size hroom
        rw [Nat.add_mul] at this
        omega
      · rw [Nat.add_zero, htake, ← hlen]
        exact List.take_left
    · have holds : ∀ j u, xs[j]? = some u → w.cell? ((⟨g, 0, none⟩ : Addr).add j) = some u := hown.cells (g := g) rfl
      have hgr := grown cap (by omega) (Value.ownBlock (.slice (some ⟨g, 0, none⟩) n cap))
      have hf' : ¬ (281474976710656 < Builtin.nextslicecap (n + m) cap * i.bytes) := by have := hfits cap (by omega); omega
      have h9 : ¬ (9223372036854775807 < ((n : Int) + (m : Int))) := by omega
      have hfo := run_firstCells_some (P := P) w.drew i.size n ⟨g, 0, none⟩ n cap xs hown.1 (by simpa using holds)
      have hm : m ≠ 0 := by omega
      refine ⟨_, _, ?_, hgr.1, hgr.2⟩
      simp [Builtin.append_, asInt, asIntOf, run_underlying ht, run_underlying hit, sizeOf, typeInfo, zeroValue, hi, hz, hwrap, hm0, hmb', hm, hroom, h9, hf', Question.forced, newRow, grownCap, hfo]
      exact fun h0 => absurd h0 (Nat.mul_ne_zero hm (by omega))
end
theorem zeroCells_digs (m : Nat) : (Builtin.zeroCells (arr 32 fun _ => 0) m).toList = dcells (List.replicate m zeroD) := by
  have h := made_digs m
  have e : Builtin.zeroCells (arr 32 fun _ => 0) m = madeCells (arr 32 fun _ => 0) (m * 32) := by
    unfold Builtin.zeroCells madeCells
    rw [arr_size]
  rw [e, h]
/-- append of some noughts, as digests -/
theorem wpList_appendZD {w : World} {ops : Array Oper} {rest : List Oper} {o : Oper} {a : Act} {Q : Exit → Act → World → Prop} (hgd : o.guard = none) (s x : Operand)
    (ho : o.op = .call { callee := .builtin .append, args := #[s, x], argTypes := #[29, 3] })
    (base : Nat) (v : Value) (ds : List (List UInt8)) (hs : a.eval s = v) (hown : w.ownsRow base 43 32 v ds.length (dcells ds)) (m : Nat) (hx : a.eval x = .int .i64 (m : Int)) (hl : ds.length + m ≤ 1000000000) (hbase : base ≤ w.heap.size)
    (h : ∀ v' w', w'.ownsRow base 43 32 v' (ds ++ List.replicate m zeroD).length (dcells (ds ++ List.replicate m zeroD)) → w.grownBy w' v.ownBlock → wpList Tryd.prog ops Q rest (a.put o.dst v') w') : wpList Tryd.prog ops Q (o :: rest) a w := by
  obtain ⟨i0, hi, hz0, hz1, hz2⟩ := info_parts (by kernel_rfl : (Tryd.prog.info? 43).map (fun i => (i.zero, i.size, i.bytes)) = some (some (.agg (arr 32 fun _ => 0)), 32, 32))
  have hcells : (Value.agg (arr 32 fun _ => (0 : UInt8))).cells = arr 32 fun _ => 0 := rfl
  refine wpList_plain hgd fun K hK => ?_
  obtain ⟨v', w', hrun, h2, h3⟩ := run_append_zeros_at (P := Tryd.prog) w base 29 o.type 43 3 i0 (.agg (arr 32 fun _ => 0)) 32 .i64 .i64 Tryd.underlying29 Tryd.underlying3 hi hz0 hz2 (by rw [hcells, hz1]; exact arr_size _ _) (by rw [hcells]; exact arr_one _ _) v ds.length (dcells ds) (by rw [hz1]; exact hown) m (by unfold maxLen; omega) (by omega) hbase (by decide) (by rw [hz1]; decide)
  rw [hcells, zeroCells_digs, ← dcells_append, hz1] at h2
  unfold Oper.wp execOp
  simp only [ho, resolve, invoke, builtin, Sem.run_bind, Sem.run_pure, Result.andThen_ok, List.map_toArray, List.map_cons, List.map_nil, hs, hx, hrun]
  exact hK _ _ (h v' w' (by rw [List.length_append, List.length_replicate]; exact h2) h3)
/-- append of some digests onto a row of digests of the call's own -/
theorem wpList_appendDs {w : World} {ops : Array Oper} {rest : List Oper} {o : Oper} {a : Act} {Q : Exit → Act → World → Prop} (hgd : o.guard = none) (s x : Operand)
    (ho : o.op = .call { callee := .builtin .append, args := #[s, x], argTypes := #[29, 29] })
    (base : Nat) (v : Value) (ds : List (List UInt8)) (hs : a.eval s = v) (hown : w.ownsRow base 43 32 v ds.length (dcells ds))
    (g o2 cap : Nat) (es : List (List UInt8)) (hx : a.eval x = .slice (some ⟨g, o2, none⟩) es.length cap) (hX : DX w (.slice (some ⟨g, o2, none⟩) es.length cap) es) (hl : ds.length + es.length ≤ 1000000000) (hbase : base ≤ w.heap.size)
    (h : ∀ v' w', w'.ownsRow base 43 32 v' (ds ++ es).length (dcells (ds ++ es)) → w.grownBy w' v.ownBlock → wpList Tryd.prog ops Q rest (a.put o.dst v') w') : wpList Tryd.prog ops Q (o :: rest) a w := by
  obtain ⟨i0, hi, hz0, hz1, hz2⟩ := info_parts (by kernel_rfl : (Tryd.prog.info? 43).map (fun i => (i.zero, i.size, i.bytes)) = some (some (.agg (arr 32 fun _ => 0)), 32, 32))
  refine wpList_append_own_at _ hgd s x _ ho base 43 i0 _ 32 32 Tryd.underlying29 hi hz0 hz1 hz2 (by show (arr 32 fun _ => 0).size = 32; exact arr_size _ _) (by decide) v _ _ hs hown ⟨g, o2, none⟩ es.length cap (dcells es) hx (dcells_length es) (fun j u hj => hX.cells j u hj) (dcells_one es) (by unfold maxLen; omega) (by omega) hbase ?_
  intro v' w' hown' hg _ _
  rw [← dcells_append] at hown'
  exact h v' w' (by rw [List.length_append]; exact hown') hg
end Go.Proofs.YtkogehkmldbhgaaDoor

/- append of a slice of digests, nil let in, onto a row of digests of the call's own; one byte of a row of digests is stored. No condition. -/
namespace Go.Proofs.YtkogehkmldbhgaaDoor
open Go Go.RowKit
theorem run_append_nilAt {P : Program} (w : World) (base : Nat) (t ty e : TypeId) (i : TypeInfo) (size : Nat) (ht : P.underlying t = some (.slice e)) (hi : P.info? e = some i) (v : Value) (n : Nat) (xs : List Value) (hown : w.ownsRow base e size v n xs) (A : Option Addr) (c : Nat) :
    (Builtin.append_ #[t, t] ty #[v, .slice A 0 c]).run P w = .ok v w := by
  have hl0 : ∀ (x : Addr), (loadCells x 0).run P w = .ok #[] w := fun x => by simpa using run_loadCells_list (P := P) w x [] (by simp)
  rcases hown.2 with ⟨rfl, h2⟩ | ⟨g, cap, cur, rfl, _, _, hnc, _⟩
  · cases A <;> simp [Builtin.append_, run_underlying ht, sizeOf, typeInfo, hi, Builtin.lenOf, Builtin.firstCells, hl0]
  · cases A <;> simp [Builtin.append_, run_underlying ht, sizeOf, typeInfo, hi, Builtin.lenOf, Builtin.firstCells, hnc, storeCells, hl0]
theorem wpList_appendDX {w : World} {ops : Array Oper} {rest : List Oper} {o : Oper} {a : Act} {Q : Exit → Act → World → Prop} (hgd : o.guard = none) (s x : Operand)
    (ho : o.op = .call { callee := .builtin .append, args := #[s, x], argTypes := #[29, 29] })
    (base : Nat) (v : Value) (ds : List (List UInt8)) (hs : a.eval s = v) (hown : w.ownsRow base 43 32 v ds.length (dcells ds))
    (A : Option Addr) (cap : Nat) (es : List (List UInt8)) (hx : a.eval x = .slice A es.length cap) (hX : DX w (.slice A es.length cap) es) (hl : ds.length + es.length ≤ 1000000000) (hbase : base ≤ w.heap.size)
    (h : ∀ v' w', w'.ownsRow base 43 32 v' (ds ++ es).length (dcells (ds ++ es)) → w.grownBy w' v.ownBlock → wpList Tryd.prog ops Q rest (a.put o.dst v') w') : wpList Tryd.prog ops Q (o :: rest) a w := by
  by_cases h0 : es.length = 0
  · have hnil : es = [] := List.length_eq_zero_iff.1 h0
    subst hnil
    obtain ⟨i0, hi, _, _, _⟩ := info_parts (by kernel_rfl : (Tryd.prog.info? 43).map (fun i => (i.zero, i.size, i.bytes)) = some (some (.agg (arr 32 fun _ => 0)), 32, 32))
    refine wpList_plain hgd fun K hK => ?_
    have hx0 : a.eval x = .slice A 0 cap := hx
    have hrun := run_append_nilAt (P := Tryd.prog) w base 29 o.type 43 i0 32 Tryd.underlying29 hi v ds.length (dcells ds) hown A cap
    unfold Oper.wp execOp
    simp only [ho, resolve, invoke, builtin, Sem.run_bind, Sem.run_pure, Result.andThen_ok, List.map_toArray, List.map_cons, List.map_nil, hs, hx0, hrun]
    exact hK _ _ (h v w (by rw [List.append_nil]; exact hown) (World.grownBy.refl w _))
  · obtain ⟨g, o2, rfl⟩ := hX.addr (by omega)
    exact wpList_appendDs hgd s x ho base v ds hs hown g o2 cap es hx hX hl hbase h
/-- one byte of one digest turned -/
def setB (ds : List (List UInt8)) (k j : Nat) (b : UInt8) : List (List UInt8) := ds.set k (((ds.getD k []).set j b))
theorem setB_len (ds : List (List UInt8)) (k j : Nat) (b : UInt8) : (setB ds k j b).length = ds.length := List.length_set
theorem setB_mem (ds : List (List UInt8)) (k j : Nat) (b : UInt8) (h : ∀ d ∈ ds, d.length = 32) (hk : k < ds.length) : ∀ d ∈ setB ds k j b, d.length = 32 := fun d hd =>
  (List.mem_or_eq_of_mem_set hd).elim (h d) (fun e => by rw [e, List.length_set, List.getD_eq_getElem?_getD, List.getElem?_eq_getElem hk]; exact h _ (List.getElem_mem _))
theorem dcells_setB (ds : List (List UInt8)) (k j : Nat) (b : UInt8) (hk : k < ds.length) (hj : j < 32) (hall : ∀ d ∈ ds, d.length = 32) : (dcells ds).set (k * 32 + j) (v8 b) = dcells (setB ds k j b) := by
  have hd32 : (ds.getD k []).length = 32 := by rw [List.getD_eq_getElem?_getD, List.getElem?_eq_getElem hk]; exact hall _ (List.getElem_mem _)
  apply List.ext_getElem?
  intro p
  by_cases hp : p < ds.length * 32
  · have e : p = (p / 32) * 32 + p % 32 := by omega
    have hq : p % 32 < 32 := Nat.mod_lt _ (by decide)
    rw [List.getElem?_set]
    have hR : (dcells (setB ds k j b))[p]? = (dat ((setB ds k j b).getD (p / 32) []))[p % 32]? := by
      conv => lhs; rw [e]
      exact dcells_at _ (p / 32) (by rw [setB_len]; omega) (p % 32) hq
    have hL : (dcells ds)[p]? = (dat (ds.getD (p / 32) []))[p % 32]? := by
      conv => lhs; rw [e]
      exact dcells_at _ (p / 32) (by omega) (p % 32) hq
    have hset : (setB ds k j b).getD (p / 32) [] = if k = p / 32 then (ds.getD k []).set j b else ds.getD (p / 32) [] := by
      unfold setB
      rw [List.getD_eq_getElem?_getD, List.getElem?_set]
      by_cases hkp : k = p / 32
      · rw [if_pos hkp, if_pos hkp, if_pos hk]; rfl
      · rw [if_neg hkp, if_neg hkp, ← List.getD_eq_getElem?_getD]
    rw [hR, hset]
    unfold dat
    by_cases hkp : k = p / 32
    · subst hkp
      rw [if_pos rfl, arr_at _ _ _ hq]
      by_cases hjp : j = p % 32
      · subst hjp
        rw [if_pos e.symm, if_pos (by rw [dcells_length]; omega), List.getD_eq_getElem?_getD, List.getElem?_set, if_pos rfl, if_pos (by rw [hd32]; exact hj)]; rfl
      · rw [if_neg (by omega), hL]
        unfold dat
        have hg : ∀ x : List UInt8, (x.set j b).getD (p % 32) 0 = x.getD (p % 32) 0 := fun x => by rw [List.getD_eq_getElem?_getD, List.getD_eq_getElem?_getD, List.getElem?_set, if_neg hjp]
        rw [arr_at _ _ _ hq, hg]
    · rw [if_neg hkp, if_neg (by omega), hL]; rfl
  · rw [List.getElem?_eq_none (by rw [List.length_set, dcells_length]; omega), List.getElem?_eq_none (by rw [dcells_length, setB_len]; omega)]
end Go.Proofs.YtkogehkmldbhgaaDoor

/- Rows of the call's own: cut, appended to, apart; the library's Clone at digests. No condition. -/
namespace Go.Proofs.YtkogehkmldbhgaaDoor
open Go Go.RowKit
attribute [local irreducible] mixW
attribute [local go_sem] n8_lo n8_hi n64_lo n64_hi n32_lo n32_hi
theorem own_take {w : World} {base s n c m : Nat} {e : TypeId} {A : Option Addr} {xs : List Value} (h : w.ownsRow base e s (.slice A n c) m xs) (k : Nat) (hk : k ≤ m) : w.ownsRow base e s (.slice A k c) k (xs.take (k * s)) := by
  have hks : k * s ≤ m * s := Nat.mul_le_mul_right s hk
  refine ⟨by rw [List.length_take, h.1]; omega, ?_⟩
  rcases h.2 with ⟨hv, h0⟩ | ⟨g, cap, cur, hv, hbs, hh, h1, h2, h3, h4⟩
  · injection hv with e1 e2 e3
    subst e1; subst e3
    exact .inl ⟨by rw [show k = 0 by omega], by omega⟩
  · injection hv with e1 e2 e3
    subst e1; subst e3
    refine .inr ⟨g, c, cur, rfl, hbs, hh, by omega, h2, h3, ?_⟩
    rw [← h4, List.take_take, show min (k * s) (m * s) = k * s by omega]
theorem OwnU.cut {w : World} {base n c : Nat} {A : Option Addr} {ns : List Nat} (h : OwnU w base (.slice A n c) ns) (k : Nat) (hk : k ≤ ns.length) : OwnU w base (.slice A k c) (ns.take k) := by
  have hl : (ns.map nU).length = ns.length := List.length_map _
  have hl2 : ((ns.take k).map nU).length = k := by rw [List.length_map, List.length_take]; omega
  have := own_take h k (by omega)
  unfold OwnU
  rw [hl2]
  rw [Nat.mul_one, ← List.map_take] at this
  exact this
theorem own_cutD {w : World} {base n c : Nat} {A : Option Addr} {ds : List (List UInt8)} (h : w.ownsRow base 43 32 (.slice A n c) ds.length (dcells ds)) (k : Nat) (hk : k ≤ ds.length) : w.ownsRow base 43 32 (.slice A k c) (ds.take k).length (dcells (ds.take k)) := by
  have := own_take h k hk
  have e : (dcells ds).take (k * 32) = dcells (ds.take k) := by
    have h1 : dcells ds = dcells (ds.take k) ++ dcells (ds.drop k) := by rw [← dcells_append, List.take_append_drop]
    have h2 : (dcells (ds.take k)).length = k * 32 := by rw [dcells_length, List.length_take, show min k ds.length = k by omega]
    rw [h1, ← h2, List.take_left]
  rw [e] at this
  rw [List.length_take, show min k ds.length = k by omega]
  exact this
/-- rows of unlike elements lie apart -/
theorem own_apart {w : World} {b b' e e' s s' n n' : Nat} {v v' : Value} {xs xs' : List Value} (h : w.ownsRow b e s v n xs) (h' : w.ownsRow b' e' s' v' n' xs') (hne : e ≠ e') : ∀ g, v.ownBlock = some g → v'.ownBlock ≠ some g := by
  intro g h1 h2
  rcases h.2 with ⟨rfl, _⟩ | ⟨g1, cap, cur, rfl, _, hh, _⟩
  · cases h1
  · rcases h'.2 with ⟨rfl, _⟩ | ⟨g2, cap2, cur2, rfl, _, hh2, _⟩
    · cases h2
    · injection h1 with h1
      injection h2 with h2
      subst h1
      have e1 : g2 = g1 := h2
      subst e1
      rw [hh] at hh2
      injection hh2 with hh2
      injection hh2 with _ h3 _
      exact hne h3
/-- append of one word, out of a literal, onto a row of the call's own -/
theorem wpList_appendUl {w : World} {ops : Array Oper} {rest : List Oper} {o : Oper} {a : Act} {Q : Exit → Act → World → Prop} (hgd : o.guard = none) (s x : Operand)
    (ho : o.op = .call { callee := .builtin .append, args := #[s, x], argTypes := #[23, 23] })
    (base : Nat) (v : Value) (ns : List Nat) (hs : a.eval s = v) (hown : OwnU w base v ns) (A : Option Addr) (c : Nat) (ms : List Nat)
    (hx : a.eval x = .slice A ms.length c) (hr : Reads w w.heap.size A (ms.map nU)) (hlen : ns.length + ms.length ≤ 100000000000) (hbase : base ≤ w.heap.size)
    (h : ∀ v' w', OwnU w' base v' (ns ++ ms) → w.grownBy w' v.ownBlock → wpList Tryd.prog ops Q rest (a.put o.dst v') w') :
    wpList Tryd.prog ops Q (o :: rest) a w := by
  obtain ⟨i0, hi, hz0, hz1, hz2⟩ := info_parts (by kernel_rfl : (Tryd.prog.info? 22).map (fun i => (i.zero, i.size, i.bytes)) = some (some (.int .u64 0), 1, 8))
  have hl : (ns.map nU).length = ns.length := List.length_map _
  refine wpList_appendR hgd s x _ ho base 22 i0 _ 8 Tryd.underlying23 hi hz0 hz1 hz2 rfl v (ns.map nU) hs hown w.heap.size A ms.length c (ms.map nU) hx hr (List.length_map _) (nU_one ms) (by unfold maxLen; omega) (by omega) hbase ?_
  intro v' w' hown' hg hat
  rw [← List.map_append] at hown'
  exact h v' w' hown' hg
set_option maxRecDepth 100000 in
/-- slices.Clone of digests -/
theorem cloneD_any (u : Value) (ds : List (List UInt8)) (w : World) (hu : DX w u ds) (hl : ds.length ≤ 1000000) :
    Calls Tryd.prog 57 #[u] w fun e w' => ∃ v, e = .returned v ∧ w'.ownsRow w.heap.size 43 32 v ds.length (dcells ds) ∧ Below w.heap.size w w' := by
  obtain ⟨A, c, rfl, h1, h2, hr⟩ := hu
  cases A with
  | none =>
    have hb : ds = [] := by
      cases ds with
      | nil => rfl
      | cons x xs => obtain ⟨_, _, e, _⟩ := hr 0 (by simp); cases e
    subst hb
    have hnil : ∀ w, (binOp .eql 29 (.slice none 0 c) (.slice none 0 0)).run Tryd.prog w = .ok (.bool true) w := fun w => by rw [Lib.run_eql_slice_nil (P := Tryd.prog) w 29 43 none 0 c 0 0 Tryd.underlying29]; rfl
    go_enter Tryd.func57, Tryd.ntmps57
    go_wp2
    go_ret
    exact ⟨_, rfl, World.ownsRow_nil _ _ _ _, Below.refl _ _⟩
  | some A =>
    have hX : DX w (.slice (some A) ds.length c) ds := ⟨some A, c, rfl, h1, h2, hr⟩
    have hb1 := below_new1 w (Obj.cells #[] 43)
    have hoe : (w.alloc (Obj.cells #[] 43)).ownsRow w.heap.size 43 32 (.slice (some ⟨w.heap.size, 0, none⟩) 0 0) ([] : List (List UInt8)).length (dcells []) := ⟨rfl, .inr ⟨w.heap.size, 0, #[], rfl, Nat.le_refl _, heap_alloc_new w _, Nat.le_refl _, by decide, rfl, rfl⟩⟩
    have hX2 := hX.next hb1
    clear hr hX
    have hnil : ∀ w, (binOp .eql 29 (.slice (some A) ds.length c) (.slice none 0 0)).run Tryd.prog w = .ok (.bool false) w := fun w => by rw [Lib.run_eql_slice_nil (P := Tryd.prog) w 29 43 (some A) _ c 0 0 Tryd.underlying29]; rfl
    go_enter Tryd.func57, Tryd.ntmps57
    go_wp2_with (first
      | (at_builtin; refine wpList_appendDX rfl (.tmp 5) (.tmp 6) rfl w.heap.size _ [] rfl hoe (some A) c ds rfl hX2 (by simp; omega) hb1.size ?_; intro u1 w1 hown1 hg1))
    have hb2 := below_own hb1 hoe hg1 hb1.size
    rw [List.nil_append] at hown1
    go_ret
    exact ⟨_, rfl, hown1, hb2⟩
end Go.Proofs.YtkogehkmldbhgaaDoor
