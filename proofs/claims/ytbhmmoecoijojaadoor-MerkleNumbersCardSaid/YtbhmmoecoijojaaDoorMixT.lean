/- A region that draws its order, by a plan, with a forced tail: what stands last (a store, mostly) waits for all else, and is walked in its order behind it. No condition. -/
import Derived.Test.YtbhmmoecoijojaaDoorMix
namespace Go.Proofs.YtbhmmoecoijojaaDoor
open Go Go.RowKit
def Never : Exit → Act → World → Prop := fun _ _ _ => False
theorem never_out : ¬ LetsOut Never := fun ⟨_, _, h⟩ => h
section
variable {P : Program} {ops : Array Oper} {md : Region.Mode} {Q : Exit → Act → World → Prop} {S : World → Prop} {n : Nat} {L : Array Bool → Act → World → Prop}
theorem wpOp_never {i : Nat} {K : Act → World → Prop} {a : Act} {w : World} (h : wpOp P ops Never i K a w) : wpOp P ops Q i K a w := by
  unfold wpOp at *
  split
  · rename_i ho; simp only [ho] at h; exact h
  · rename_i o ho
    simp only [ho] at h
    split
    · rename_i hw
      simp only [hw, if_true] at h
      rcases h with h | h
      · refine .inl ?_
        unfold Oper.wp at *
        generalize (execOp a.eval o).run P w = r at *
        cases r with
        | ok n w' =>
          cases n <;> simp only [Oper.upon] at h ⊢ <;>
            first
              | exact h
              | exact Calls.mono h (fun e w'' he => by cases e <;> first | exact he | exact (he : False).elim | exact (never_out he).elim)
              | exact Rows.mono h (fun _ _ he => he)
        | halt x w' => cases x <;> simp only [Oper.upon] at h ⊢ <;> first | exact h | exact (h : False).elim
      · exact (never_out h.2).elim
    · rename_i hw; simp only [hw] at h; exact h
def wpAnyT (P : Program) (md : Region.Mode) (ops : Array Oper) (n : Nat) (L : Array Bool → Act → World → Prop) : Nat → (World → Prop) → Array Bool → Act → World → Prop
  | 0, _, listed, a, w => L listed a w
  | fuel + 1, S, listed, a, w =>
    Region.ready md ops listed ≠ [] ∧
    ∀ i ∈ Region.ready md ops listed, i < n ∧ wpOp P ops Never i (fun a' w' => ∃ S' : World → Prop, (∀ w, S' w → S w) ∧ S' w' ∧ wpAnyT P md ops n L fuel S' (listed.setIfInBounds i true) a' w') a w
theorem wpAny_of_T {g : Nat} (hL : ∀ listed a w, L listed a w → wpAny P md ops Q g listed a w) : ∀ (fuel : Nat) (S : World → Prop) (listed : Array Bool) (a : Act) (w : World), wpAnyT P md ops n L fuel S listed a w → wpAny P md ops Q (fuel + g) listed a w
  | 0, _, _, _, _, h => by rw [Nat.zero_add]; exact hL _ _ _ h
  | fuel + 1, _, _, _, _, h => by
    rw [show fuel + 1 + g = (fuel + g) + 1 by omega]
    exact ⟨fun h0 => absurd h0 h.1, fun i hi => wpOp_never (wpOp_mono (fun a' w' ⟨_, _, _, h'⟩ => wpAny_of_T hL fuel _ _ a' w' h') (h.2 i hi).2)⟩
theorem wpAnyT_first {i : Nat} {oi : Oper} {v : Value} (hi : ops[i]? = some oi) (hsel : ∀ (j : Nat) (o : Oper) cs b, ops[j]? = some o → o.op ≠ .select cs b)
    (hs : Region.sinkB md ops n = true) (hc : Region.chainB md ops n = true) (hn : n < ops.size) (hin : i < n)
    (hdone : ∀ listed a w, L listed a w → ∀ j ∈ Region.ready md ops listed, n ≤ j) :
    ∀ (fuel : Nat) (S : World → Prop) (listed : Array Bool) (a : Act) (w : World), HeadInv md ops n listed →
      (∀ j oj, ops[j]? = some oj → j ≠ i → listed.getD j true = false → (∀ e ∈ oj.after, Region.binds md e = true → e.on ≠ i) → oi.apart ops oj = true) →
      i ∈ Region.ready md ops listed → YieldsIf P ops S oi v a → S w →
      wpAnyT P md ops n L fuel S (listed.setIfInBounds i true) (a.put oi.dst v) w → wpAnyT P md ops n L (fuel + 1) S listed a w := by
  intro fuel
  induction fuel with
  | zero =>
    intro S listed a w inv _ hr hy hS H
    have hun := (mem_ready.1 hr).1
    refine ⟨fun h => (by rw [h] at hr; cases hr), fun j hj => ?_⟩
    have hjn : j < n := by
      rcases Nat.lt_or_ge j n with h | h
      · exact h
      · exact absurd hj (tail_waits hs hc hn inv _ i rfl hin hun j h)
    refine ⟨hjn, ?_⟩
    by_cases hji : j = i
    · subst hji; exact hy.wpOp hi hS ⟨S, fun _ h => h, hS, H⟩
    · have := hdone _ _ _ H j (ready_mono hj hji)
      omega
  | succ fuel ih =>
    intro S listed a w inv hfree hr hy hS H
    have hun := (mem_ready.1 hr).1
    refine ⟨fun h => (by rw [h] at hr; cases hr), fun j hj => ?_⟩
    have hjn : j < n := by
      rcases Nat.lt_or_ge j n with h | h
      · exact h
      · exact absurd hj (tail_waits hs hc hn inv _ i rfl hin hun j h)
    refine ⟨hjn, ?_⟩
    by_cases hji : j = i
    · subst hji; exact hy.wpOp hi hS ⟨S, fun _ h => h, hS, H⟩
    · have h1 := (H.2 j (ready_mono hj hji)).2
      obtain ⟨hjun, oj, hoj, hall⟩ := mem_ready.1 hj
      have hnot : ∀ e ∈ oj.after, Region.binds md e = true → e.on ≠ i := fun e he hb heq => by
        have h1 := hall e he hb
        rw [heq, getD_both hun] at h1
        cases h1
      have h2 := wpOp_putIf hoj (hfree j oj hoj hji hjun hnot) (fun cs b => hsel i oi cs b hi) (fun cs b => hsel j oj cs b hoj) (fun _ _ _ h => h) hy h1
      have hfree' : ∀ k ok, ops[k]? = some ok → k ≠ i → (listed.setIfInBounds j true).getD k true = false →
          (∀ e ∈ ok.after, Region.binds md e = true → e.on ≠ i) → oi.apart ops ok = true := fun k ok hk hki hun hno => by
        refine hfree k ok hk hki ?_ hno
        by_cases hjk : j = k
        · subst hjk; exact hjun
        · rw [getD_set_ne true hjk] at hun; exact hun
      refine wpOp_mono (fun a' w' ⟨h3, S', h4, h5, h6⟩ => ⟨S', h4, h5, ih S' (listed.setIfInBounds j true) a' w' (inv.set hj hjn) hfree' (ready_mono hr (Ne.symm hji)) (yieldsIf_less h3 h4) h5 ?_⟩) h2
      rw [Array.setIfInBounds_comm _ _ hji]
      exact h6
def mixBT (md : Region.Mode) (ops : Array Oper) (n : Nat) : Plan → Array Bool → Bool
  | .done, listed => Region.seqB md ops (ops.size - n) n listed
  | .plain i p, listed => decide (i < n) && Region.free md ops listed i && (Region.ready md ops listed).contains i && ((ops[i]?).map plainOp).getD false && mixBT md ops n p (listed.setIfInBounds i true)
  | .only i p, listed => decide (i < n) && (Region.ready md ops listed == [i]) && mixBT md ops n p (listed.setIfInBounds i true)
  | .two _ _ _ _, _ => false
theorem wpOp_of_listN {i : Nat} {o : Oper} (ho : ops[i]? = some o) {K : Act → World → Prop} {a : Act} {w : World} (h : wpList P ops (OnlyK K) [o] a w) : wpOp P ops Never i K a w := by
  have h1 := wpOp_of_list (Q := fun _ _ _ => False) ho h
  unfold wpOp at *
  simp only [ho] at h1 ⊢
  split
  · rename_i hw
    simp only [hw, if_true] at h1
    rcases h1 with h1 | h1
    · refine .inl ?_
      unfold Oper.wp at *
      generalize (execOp a.eval o).run P w = r at *
      cases r with
      | ok n w' =>
        cases n <;> simp only [Oper.upon] at h1 ⊢ <;>
          first
            | exact h1
            | exact Calls.mono h1 (fun e w'' he => by cases e <;> first | exact he | exact (he : False).elim | exact (onlyK_out he).elim)
            | exact Rows.mono h1 (fun _ _ he => he)
      | halt x w' => cases x <;> simp only [Oper.upon] at h1 ⊢ <;> first | exact h1 | exact (h1 : False).elim
    · exact (onlyK_out h1.2).elim
  · rename_i hw; simp only [hw] at h1; exact h1
theorem wpAnyT_of_mix (hsel : Region.noSelect ops = true) (hs : Region.sinkB md ops n = true) (hc : Region.chainB md ops n = true) (hn : n < ops.size) (K : Act → World → Prop) :
    ∀ (p : Plan) (S : World → Prop) (listed : Array Bool) (a : Act) (w : World), HeadInv md ops n listed → mixBT md ops n p listed = true → S w → mixW P ops K p S a w →
    wpAnyT P md ops n (fun listed a w => Region.seqB md ops (ops.size - n) n listed = true ∧ K a w) p.len S listed a w
  | .done, S, listed, a, w, inv, hB, hS, h => ⟨hB, h⟩
  | .plain i p, S, listed, a, w, inv, hB, hS, h => by
    simp only [mixBT, Bool.and_eq_true, decide_eq_true_eq] at hB
    obtain ⟨⟨⟨⟨hin, hf⟩, hr⟩, hp⟩, hB⟩ := hB
    unfold mixW at h
    cases ho : ops[i]? with
    | none => rw [ho] at h; exact h.elim
    | some o =>
      rw [ho] at h hp
      obtain ⟨v, hy, hK⟩ := yieldsIf_of_quiet (by simpa using hp) h
      have hr' : i ∈ Region.ready md ops listed := by simpa using hr
      exact wpAnyT_first ho (Region.noSelect_spec hsel) hs hc hn hin (fun _ _ _ hL => seqB_ready hL.1) _ S listed a w inv (Region.free_spec ho hf) hr' hy hS (wpAnyT_of_mix hsel hs hc hn K p S _ _ w (inv.set hr' hin) hB hS hK)
  | .only i p, S, listed, a, w, inv, hB, hS, h => by
    simp only [mixBT, Bool.and_eq_true, beq_iff_eq, decide_eq_true_eq] at hB
    obtain ⟨⟨hin, hr⟩, hB⟩ := hB
    unfold mixW at h
    refine ⟨fun h0 => (by rw [hr] at h0; cases h0), fun j hj => ?_⟩
    rw [hr, List.mem_singleton] at hj
    subst hj
    refine ⟨hin, ?_⟩
    cases ho : ops[j]? with
    | none => rw [ho] at h; exact h.elim
    | some o =>
      rw [ho] at h
      exact wpOp_mono (fun a' w' ⟨S', h1, h2, h3⟩ => ⟨S', h1, h2, wpAnyT_of_mix hsel hs hc hn K p S' _ a' w' (inv.set (by rw [hr]; exact List.mem_singleton.2 rfl) hin) hB h2 h3⟩) (wpOp_of_listN ho h)
  | .two _ _ _ _, S, listed, a, w, inv, hB, hS, h => by cases hB
end
/-- The Bool of a region by a plan with a forced tail from place n on. -/
def mixTB (ops : Array Oper) (n : Nat) (p : Plan) : Bool :=
  Region.noSelect ops && decide (n < ops.size) && Region.sinkB .any ops n && Region.chainB .any ops n && (p.len == n) && mixBT .any ops n p (Array.replicate ops.size false)
/-- A region that draws its order, by a plan, then a forced tail; at a class. -/
theorem wp_region_mixS {P : Program} {id : Nat} {Q : Exit → Act → World → Prop} {a : Act} {w : World} {l : List Oper} (n : Nat) (p : Plan) (S : World → Prop) (hm : P.follows .mixedOrders = true) (hB : mixTB l.toArray n p = true)
    (hS : S (w.drewN 1)) (h : mixW P l.toArray (fun a w => wpList P l.toArray Q (l.drop n) a w) p S a (w.drewN 1)) : (Code.region id l.toArray true).wp P Q a w := by
  simp only [mixTB, Bool.and_eq_true, beq_iff_eq, decide_eq_true_eq] at hB
  obtain ⟨⟨⟨⟨⟨hsel, hn⟩, hs⟩, hc⟩, hl⟩, hB⟩ := hB
  have inv0 : HeadInv .any l.toArray n (Array.replicate l.toArray.size false) :=
    ⟨by simp, fun j oj _ hl => (by rw [getD_replicate_false] at hl; cases hl), fun t _ ht => getD_in (by simpa using ht) (getD_replicate_false _ _)⟩
  have hdl : (l.drop n).length = l.toArray.size - n := by simp
  have H := wpAnyT_of_mix (P := P) hsel hs hc hn _ p S _ a (w.drewN 1) inv0 hB hS h
  refine wp_region_any hm ?_
  have := wpAny_of_T (Q := Q) (g := l.toArray.size - n) (fun listed a' w' hL => by
    have := wpAny_of_seq (md := .any) (Q' := Q) (l.drop n) n listed a' w' (fun j => by simp [List.getElem?_drop]) (by rw [hdl]; exact hL.1) hL.2
    rwa [hdl] at this) _ _ _ _ _ H
  rw [hl, show n + (l.toArray.size - n) = l.toArray.size by omega] at this
  exact this
/-- A region that draws its order, by a plan, then a forced tail. -/
theorem wp_region_mixT {P : Program} {id : Nat} {Q : Exit → Act → World → Prop} {a : Act} {w : World} {l : List Oper} (n : Nat) (p : Plan) (hm : P.follows .mixedOrders = true) (hB : mixTB l.toArray n p = true)
    (h : ∀ W, Below w.heap.size w W → mixW P l.toArray (fun a w => wpList P l.toArray Q (l.drop n) a w) p (fun v => ∃ e, v = plus W e) a W) : (Code.region id l.toArray true).wp P Q a w :=
  wp_region_mixS n p _ hm hB (in_plus (w := w.drewN 1)) (h (w.drewN 1) (below_drewN (Below.refl _ w) 1))
end Go.Proofs.YtbhmmoecoijojaaDoor
