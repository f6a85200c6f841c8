/- Texts that stand behind one another: MixR, Cln, Cpy1, StI, WrtB. No condition. -/
import Derived.Test.YtcdkadidkkbhpaaDoorS19
import Derived.Test.YtcdkadidkkbhpaaDoorS13
import Derived.Test.YtcdkadidkkbhpaaDoorS16
import Derived.Test.YtcdkadidkkbhpaaDoorS20
/- MIX, where the class of worlds may turn: an operation that stands behind all loads so far (a store, mostly) may write what they read. No condition. -/
namespace Go.Proofs.YtcdkadidkkbhpaaDoor
open Go Go.RowKit
/-- operations that look at no world -/
def pureOp (o : Oper) : Bool :=
  match o.op with
  | .move _ | .assign _ | .fieldAddr _ _ _ | .nilCheck _ | .extract _ _ | .makeFunc _ _ _ | .pick _ _ _ => true
  | _ => false
def loadOp (o : Oper) : Bool := plainOp o && !pureOp o
/-- How a region is walked. -/
inductive PlanR where
  | done
  | pure (i : Nat) (p : PlanR)
  | plain (i : Nat) (p : PlanR)
  | only (i : Nat) (p : PlanR)
  | turn (i : Nat) (p : PlanR)
  | more (i : Nat) (p q : PlanR)
section
variable {P : Program} {ops : Array Oper} {md : Region.Mode} {Q : Exit → Act → World → Prop} {S : World → Prop}
/-- operation i waits for all loads that are listed -/
def Sealed (md : Region.Mode) (ops : Array Oper) (i : Nat) (listed : Array Bool) : Prop :=
  ∀ m om, ops[m]? = some om → loadOp om = true → listed.getD m false = true → ∃ o, ops[i]? = some o ∧ ∃ e ∈ o.after, Region.binds md e = true ∧ e.on = m
def sealedB (md : Region.Mode) (ops : Array Oper) (i : Nat) (listed : Array Bool) : Bool :=
  (List.range ops.size).all fun m => match ops[m]? with
    | none => true
    | some om => !loadOp om || !(listed.getD m false) || (match ops[i]? with
      | none => false
      | some o => o.after.toList.any fun e => Region.binds md e && e.on == m)
theorem sealedB_spec {i : Nat} {listed : Array Bool} (h : sealedB md ops i listed = true) : Sealed md ops i listed := by
  intro m om hm hl hli
  unfold sealedB at h
  have hms : m < ops.size := by
    rcases Nat.lt_or_ge m ops.size with h' | h'
    · exact h'
    · rw [Array.getElem?_eq_none h'] at hm; cases hm
  have h1 := List.all_eq_true.1 h m (List.mem_range.2 hms)
  rw [hm] at h1
  simp only [hl, hli, Bool.not_true, Bool.false_or] at h1
  cases ho : ops[i]? with
  | none => rw [ho] at h1; cases h1
  | some o =>
    rw [ho] at h1
    obtain ⟨e, he, hb⟩ := List.any_eq_true.1 h1
    simp only [Bool.and_eq_true, beq_iff_eq] at hb
    exact ⟨o, rfl, e, by simpa using he, hb.1, hb.2⟩
def wpAnyR (P : Program) (md : Region.Mode) (ops : Array Oper) (Q : Exit → Act → World → Prop) : Nat → (World → Prop) → Array Bool → Act → World → Prop
  | 0, _, listed, a, w => Region.ready md ops listed = [] ∧ Q .normal a w
  | fuel + 1, S, listed, a, w =>
    (Region.ready md ops listed = [] → Q .normal a w) ∧
    ∀ i ∈ Region.ready md ops listed, wpOp P ops Q i (fun a' w' => ∃ S' : World → Prop, ((∀ w, S' w → S w) ∨ Sealed md ops i listed) ∧ S' w' ∧ wpAnyR P md ops Q fuel S' (listed.setIfInBounds i true) a' w') a w
theorem wpAny_of_R : ∀ (fuel : Nat) (S : World → Prop) (listed : Array Bool) (a : Act) (w : World), wpAnyR P md ops Q fuel S listed a w → wpAny P md ops Q fuel listed a w
  | 0, _, _, _, _, h => h
  | fuel + 1, _, _, _, _, h => ⟨h.1, fun i hi => wpOp_mono (fun a' w' ⟨_, _, _, h'⟩ => wpAny_of_R fuel _ _ a' w' h') (h.2 i hi)⟩
theorem sealed_less {i j : Nat} {listed : Array Bool} (h : Sealed md ops j (listed.setIfInBounds i true)) : Sealed md ops j listed := fun m om h1 h2 h3 => h m om h1 h2 (getD_set_true h3)
theorem getD_set_self {i : Nat} {listed : Array Bool} (h : listed.getD i true = false) : (listed.setIfInBounds i true).getD i false = true := by
  have hlt : i < listed.size := by
    rcases Nat.lt_or_ge i listed.size with h' | h'
    · exact h'
    · simp [Array.getElem?_eq_none h'] at h
  simp [hlt]
theorem wpAnyR_first {i : Nat} {oi : Oper} {v : Value} (hi : ops[i]? = some oi) (hsel : ∀ (j : Nat) (o : Oper) cs b, ops[j]? = some o → o.op ≠ .select cs b)
    (hQ : ∀ c a w, Q (.panic c) (a.put oi.dst v) w → Q (.panic c) a w) :
    ∀ (fuel : Nat) (S T : World → Prop) (listed : Array Bool) (a : Act) (w : World), (∀ w, S w → T w) → ((∀ w, T w) ∨ loadOp oi = true) →
      (∀ j oj, ops[j]? = some oj → j ≠ i → listed.getD j true = false → (∀ e ∈ oj.after, Region.binds md e = true → e.on ≠ i) → oi.apart ops oj = true) →
      i ∈ Region.ready md ops listed → YieldsIf P ops T oi v a → S w →
      wpAnyR P md ops Q fuel S (listed.setIfInBounds i true) (a.put oi.dst v) w → wpAnyR P md ops Q (fuel + 1) S listed a w := by
  intro fuel
  induction fuel with
  | zero =>
    intro S T listed a w hST _ _ hr hy hS H
    refine ⟨fun h => (by rw [h] at hr; cases hr), fun j hj => ?_⟩
    by_cases hji : j = i
    · subst hji; exact hy.wpOp hi (hST _ hS) ⟨S, .inl fun _ h => h, hS, H⟩
    · have := ready_mono hj hji
      rw [H.1] at this
      cases this
  | succ fuel ih =>
    intro S T listed a w hST hpl hfree hr hy hS H
    refine ⟨fun h => (by rw [h] at hr; cases hr), fun j hj => ?_⟩
    by_cases hji : j = i
    · subst hji; exact hy.wpOp hi (hST _ hS) ⟨S, .inl fun _ h => h, hS, H⟩
    · have h1 := H.2 j (ready_mono hj hji)
      obtain ⟨hjun, oj, hoj, hall⟩ := mem_ready.1 hj
      have hun := (mem_ready.1 hr).1
      have hnot : ∀ e ∈ oj.after, Region.binds md e = true → e.on ≠ i := fun e he hb heq => by
        have h1 := hall e he hb
        rw [heq, getD_both hun] at h1
        cases h1
      have h2 := wpOp_putIf hoj (hfree j oj hoj hji hjun hnot) (fun cs b => hsel i oi cs b hi) (fun cs b => hsel j oj cs b hoj) hQ hy h1
      have hfree' : ∀ k ok, ops[k]? = some ok → k ≠ i → (listed.setIfInBounds j true).getD k true = false →
          (∀ e ∈ ok.after, Region.binds md e = true → e.on ≠ i) → oi.apart ops ok = true := fun k ok hk hki hun hno => by
        refine hfree k ok hk hki ?_ hno
        by_cases hjk : j = k
        · subst hjk; exact hjun
        · rw [getD_set_ne true hjk] at hun; exact hun
      refine wpOp_mono (fun a' w' ⟨h3, S', h4, h5, h6⟩ => ?_) h2
      have h6' : wpAnyR P md ops Q fuel S' ((listed.setIfInBounds j true).setIfInBounds i true) (a'.put oi.dst v) w' := by
        rw [Array.setIfInBounds_comm _ _ hji]; exact h6
      rcases hpl with hT | hpl
      · exact ⟨S', h4.imp id sealed_less, h5, ih S' T (listed.setIfInBounds j true) a' w' (fun w _ => hT w) (.inl hT) hfree' (ready_mono hr (Ne.symm hji)) h3 h5 h6'⟩
      · rcases h4 with h4 | h4
        · exact ⟨S', .inl h4, h5, ih S' T (listed.setIfInBounds j true) a' w' (fun w hw => hST w (h4 w hw)) (.inr hpl) hfree' (ready_mono hr (Ne.symm hji)) h3 h5 h6'⟩
        · exfalso
          obtain ⟨o, ho, e, he, hb, hon⟩ := h4 i oi hi hpl (getD_set_self hun)
          rw [hoj] at ho
          injection ho with ho
          subst ho
          exact hnot e he hb hon
/-- the goal of a walk by a plan -/
def mixWR (P : Program) (ops : Array Oper) (K : Act → World → Prop) : PlanR → (World → Prop) → Act → World → Prop
  | .done, _, a, w => K a w
  | .pure i p, S, a, w => match ops[i]? with
    | none => False
    | some o => wpQuiet P ops (fun _ => True) (fun a' => mixWR P ops K p S a' w) [o] a
  | .plain i p, S, a, w => match ops[i]? with
    | none => False
    | some o => wpQuiet P ops S (fun a' => mixWR P ops K p S a' w) [o] a
  | .only i p, S, a, w => match ops[i]? with
    | none => False
    | some o => wpList P ops (OnlyK fun a' w' => ∃ S' : World → Prop, (∀ w, S' w → S w) ∧ S' w' ∧ mixWR P ops K p S' a' w') [o] a w
  | .turn i p, _, a, w => match ops[i]? with
    | none => False
    | some o => wpList P ops (OnlyK fun a' w' => ∃ S' : World → Prop, S' w' ∧ mixWR P ops K p S' a' w') [o] a w
  | .more i p q, S, a, w => (match ops[i]? with
    | none => False
    | some o => wpList P ops (OnlyK fun a' w' => ∃ S' : World → Prop, (∀ w, S' w → S w) ∧ S' w' ∧ mixWR P ops K p S' a' w') [o] a w) ∧ mixWR P ops K q S a w
def PlanR.len : PlanR → Nat
  | .done => 0
  | .pure _ p => p.len + 1
  | .plain _ p => p.len + 1
  | .only _ p => p.len + 1
  | .turn _ p => p.len + 1
  | .more _ p _ => p.len + 1
def mixBR (md : Region.Mode) (ops : Array Oper) : PlanR → List Nat → Array Bool → Bool
  | .done, ex, listed => ex.isEmpty && (Region.ready md ops listed).isEmpty
  | .pure i p, ex, listed => ex.isEmpty && Region.free md ops listed i && (Region.ready md ops listed).contains i && ((ops[i]?).map plainOp).getD false && mixBR md ops p [] (listed.setIfInBounds i true)
  | .plain i p, ex, listed => ex.isEmpty && Region.free md ops listed i && (Region.ready md ops listed).contains i && ((ops[i]?).map loadOp).getD false && mixBR md ops p [] (listed.setIfInBounds i true)
  | .only i p, ex, listed => (Region.ready md ops listed).contains i && ((Region.ready md ops listed).all fun j => j == i || ex.contains j) && mixBR md ops p [] (listed.setIfInBounds i true)
  | .turn i p, ex, listed => ex.isEmpty && (Region.ready md ops listed == [i]) && sealedB md ops i listed && mixBR md ops p [] (listed.setIfInBounds i true)
  | .more i p q, ex, listed => (q.len == p.len + 1) && mixBR md ops p [] (listed.setIfInBounds i true) && mixBR md ops q (i :: ex) listed
theorem loadOp_plain {o : Oper} (h : loadOp o = true) : plainOp o = true := by
  unfold loadOp at h
  simp only [Bool.and_eq_true] at h
  exact h.1
theorem wpAnyR_of_mix (hsel : Region.noSelect ops = true) : ∀ (p : PlanR) (ex : List Nat) (S : World → Prop) (listed : Array Bool) (a : Act) (w : World), mixBR md ops p ex listed = true →
    (∀ j ∈ ex, wpOp P ops (OnlyK (Q .normal)) j (fun a' w' => ∃ S' : World → Prop, ((∀ w, S' w → S w) ∨ Sealed md ops j listed) ∧ S' w' ∧ wpAnyR P md ops (OnlyK (Q .normal)) (p.len - 1) S' (listed.setIfInBounds j true) a' w') a w) →
    S w → mixWR P ops (Q .normal) p S a w → wpAnyR P md ops (OnlyK (Q .normal)) p.len S listed a w
  | .done, ex, S, listed, a, w, hB, hx, hS, h => by
    simp only [mixBR, Bool.and_eq_true] at hB
    exact ⟨by simpa using hB.2, h⟩
  | .pure i p, ex, S, listed, a, w, hB, hx, hS, h => by
    simp only [mixBR, Bool.and_eq_true] at hB
    obtain ⟨⟨⟨⟨he, hf⟩, hr⟩, hp⟩, hB⟩ := hB
    unfold mixWR at h
    cases ho : ops[i]? with
    | none => rw [ho] at h; exact h.elim
    | some o =>
      rw [ho] at h hp
      obtain ⟨v, hy, hK⟩ := yieldsIf_of_quiet (by simpa using hp) h
      exact wpAnyR_first ho (Region.noSelect_spec hsel) (fun _ _ _ h => h) _ S (fun _ => True) listed a w (fun _ _ => trivial) (.inl fun _ => trivial) (Region.free_spec ho hf) (by simpa using hr) hy hS (wpAnyR_of_mix hsel p [] S _ _ w hB (fun j hj => by cases hj) hS hK)
  | .plain i p, ex, S, listed, a, w, hB, hx, hS, h => by
    simp only [mixBR, Bool.and_eq_true] at hB
    obtain ⟨⟨⟨⟨he, hf⟩, hr⟩, hp⟩, hB⟩ := hB
    unfold mixWR at h
    cases ho : ops[i]? with
    | none => rw [ho] at h; exact h.elim
    | some o =>
      rw [ho] at h hp
      have hp' : loadOp o = true := by simpa using hp
      obtain ⟨v, hy, hK⟩ := yieldsIf_of_quiet (loadOp_plain hp') h
      exact wpAnyR_first ho (Region.noSelect_spec hsel) (fun _ _ _ h => h) _ S S listed a w (fun _ h => h) (.inr hp') (Region.free_spec ho hf) (by simpa using hr) hy hS (wpAnyR_of_mix hsel p [] S _ _ w hB (fun j hj => by cases hj) hS hK)
  | .only i p, ex, S, listed, a, w, hB, hx, hS, h => by
    simp only [mixBR, Bool.and_eq_true] at hB
    obtain ⟨⟨hc, hr⟩, hB⟩ := hB
    unfold mixWR at h
    have hi : wpOp P ops (OnlyK (Q .normal)) i (fun a' w' => ∃ S' : World → Prop, ((∀ w, S' w → S w) ∨ Sealed md ops i listed) ∧ S' w' ∧ wpAnyR P md ops (OnlyK (Q .normal)) p.len S' (listed.setIfInBounds i true) a' w') a w := by
      cases ho : ops[i]? with
      | none => rw [ho] at h; exact h.elim
      | some o =>
        rw [ho] at h
        exact wpOp_mono (fun a' w' ⟨S', h1, h2, h3⟩ => ⟨S', .inl h1, h2, wpAnyR_of_mix hsel p [] S' _ a' w' hB (fun j hj => by cases hj) h2 h3⟩) (wpOp_of_list ho h)
    refine ⟨fun h0 => (by rw [h0] at hc; simp at hc), fun j hj => ?_⟩
    have := List.all_eq_true.1 hr j hj
    simp only [Bool.or_eq_true, beq_iff_eq] at this
    rcases this with rfl | hc
    · exact hi
    · exact hx j (by simpa using hc)
  | .turn i p, ex, S, listed, a, w, hB, hx, hS, h => by
    simp only [mixBR, Bool.and_eq_true, beq_iff_eq] at hB
    obtain ⟨⟨⟨_, hr⟩, hse⟩, hB⟩ := hB
    unfold mixWR at h
    refine ⟨fun h0 => (by rw [hr] at h0; cases h0), fun j hj => ?_⟩
    rw [hr, List.mem_singleton] at hj
    subst hj
    cases ho : ops[j]? with
    | none => rw [ho] at h; exact h.elim
    | some o =>
      rw [ho] at h
      exact wpOp_mono (fun a' w' ⟨S', h2, h3⟩ => ⟨S', .inr (sealedB_spec hse), h2, wpAnyR_of_mix hsel p [] S' _ a' w' hB (fun j hj => by cases hj) h2 h3⟩) (wpOp_of_list ho h)
  | .more i p q, ex, S, listed, a, w, hB, hx, hS, h => by
    simp only [mixBR, Bool.and_eq_true, beq_iff_eq] at hB
    obtain ⟨⟨hl, hB1⟩, hB2⟩ := hB
    unfold mixWR at h
    have hi : wpOp P ops (OnlyK (Q .normal)) i (fun a' w' => ∃ S' : World → Prop, ((∀ w, S' w → S w) ∨ Sealed md ops i listed) ∧ S' w' ∧ wpAnyR P md ops (OnlyK (Q .normal)) p.len S' (listed.setIfInBounds i true) a' w') a w := by
      cases ho : ops[i]? with
      | none => rw [ho] at h; exact h.1.elim
      | some o =>
        rw [ho] at h
        exact wpOp_mono (fun a' w' ⟨S', h1, h2, h3⟩ => ⟨S', .inl h1, h2, wpAnyR_of_mix hsel p [] S' _ a' w' hB1 (fun j hj => by cases hj) h2 h3⟩) (wpOp_of_list ho h.1)
    have hq := wpAnyR_of_mix hsel q (i :: ex) S listed a w hB2 (fun j hj => by
      rw [hl, Nat.add_sub_cancel]
      rcases List.mem_cons.1 hj with rfl | hj
      · exact hi
      · exact hx j hj) hS h.2
    rw [hl] at hq
    exact hq
/-- A region that draws its order, walked by such a plan. -/
theorem wp_region_mixR {id : Nat} {a : Act} {w : World} {l : List Oper} (p : PlanR) (S : World → Prop) (hm : P.follows .mixedOrders = true)
    (hB : (Region.noSelect l.toArray && (p.len == l.length) && mixBR .any l.toArray p [] (Array.replicate l.length false)) = true) (hS : S (w.drewN 1))
    (h : mixWR P l.toArray (Q .normal) p S a (w.drewN 1)) : (Code.region id l.toArray true).wp P Q a w := by
  simp only [Bool.and_eq_true, beq_iff_eq] at hB
  obtain ⟨⟨hs, hl⟩, hB⟩ := hB
  refine Code.wp_mono (Q := OnlyK (Q .normal)) onlyK_imp (wp_region_any hm ?_)
  have := wpAny_of_R _ _ _ _ _ (wpAnyR_of_mix (P := P) (Q := Q) hs p [] S _ a _ hB (fun j hj => by cases hj) hS h)
  rw [hl] at this
  exact this
section
variable {l : List Oper} {K : Act → World → Prop} {p q : PlanR} {i : Nat} {o : Oper} {a : Act} {w : World}
theorem mixR_done (h : K a w) : mixWR P l.toArray K .done S a w := h
theorem mixR_pure (ho : opAt l i = some o) (h : wpQuiet P l.toArray (fun _ => True) (fun a' => mixWR P l.toArray K p S a' w) [o] a) : mixWR P l.toArray K (.pure i p) S a w := by
  unfold mixWR; rw [opAt_eq, ho]; exact h
theorem mixR_plain (ho : opAt l i = some o) (h : wpQuiet P l.toArray S (fun a' => mixWR P l.toArray K p S a' w) [o] a) : mixWR P l.toArray K (.plain i p) S a w := by
  unfold mixWR; rw [opAt_eq, ho]; exact h
theorem mixR_only (ho : opAt l i = some o) (h : ∀ K' : Act → World → Prop, (∀ a' w', S w' → mixWR P l.toArray K p S a' w' → K' a' w') → wpList P l.toArray (OnlyK K') [o] a w) : mixWR P l.toArray K (.only i p) S a w := by
  unfold mixWR; rw [opAt_eq, ho]
  exact h _ fun a' w' hS h' => ⟨S, fun _ h => h, hS, h'⟩
theorem mixR_turn (S' : World → Prop) (ho : opAt l i = some o) (h : ∀ K' : Act → World → Prop, (∀ a' w', S' w' → mixWR P l.toArray K p S' a' w' → K' a' w') → wpList P l.toArray (OnlyK K') [o] a w) : mixWR P l.toArray K (.turn i p) S a w := by
  unfold mixWR; rw [opAt_eq, ho]
  exact h _ fun a' w' hS h' => ⟨S', hS, h'⟩
theorem mixR_more (ho : opAt l i = some o) (h : ∀ K' : Act → World → Prop, (∀ a' w', S w' → mixWR P l.toArray K p S a' w' → K' a' w') → wpList P l.toArray (OnlyK K') [o] a w) (h' : mixWR P l.toArray K q S a w) : mixWR P l.toArray K (.more i p q) S a w := by
  unfold mixWR; rw [opAt_eq, ho]
  exact ⟨h _ fun a' w' hS h' => ⟨S, fun _ h => h, hS, h'⟩, h'⟩
/-- the world at a place of such a plan, by what is known of it -/
theorem mixR_at (R : World → Prop) (hR : R w) (h : ∀ W, R W → mixWR P l.toArray K p S a W) : mixWR P l.toArray K p S a w := h w hR
end
end
end Go.Proofs.YtcdkadidkkbhpaaDoor

/- The walks of slices.Clone at rows of structs, numbers and texts. No condition. -/
namespace Go.Proofs.YtcdkadidkkbhpaaDoor
open Go Go.RowKit
theorem own_emptyX (w : World) (base sz : Nat) (e : TypeId) (hb : base ≤ w.heap.size) : (w.alloc (.cells #[] e)).ownsRow base e sz (.slice (some ⟨w.heap.size, 0, none⟩) 0 0) 0 [] :=
  ⟨by simp, .inr ⟨w.heap.size, 0, #[], rfl, hb, heap_alloc_new _ _, Nat.le_refl _, by decide, by simp, by simp⟩⟩
/-- append of rows that are read, onto a new row that has none -/
theorem wpList_cloneRow {P : Program} {wr : World} {ops : Array Oper} {rest : List Oper} {o : Oper} {a : Act} {Q : Exit → Act → World → Prop} (hgd : o.guard = none) (s x : Operand) (t : TypeId)
    (ho : o.op = .call { callee := .builtin .append, args := #[s, x], argTypes := #[t, t] })
    (e : TypeId) (z : Value) (size bytes : Nat) (ht : P.underlying t = some (.slice e)) (hi : (P.info? e).map (fun i => (i.zero, i.size, i.bytes)) = some (some z, size, bytes)) (hzs : z.cells.size = size) (hsz : 0 < size) (hby : bytes ≤ 1000)
    (hs : a.eval s = .slice (some ⟨wr.heap.size, 0, none⟩) 0 0)
    (A : Addr) (m c : Nat) (hx : a.eval x = .slice (some A) m c) (xs : List Value) (hl : xs.length = m * size) (hr : Reads wr wr.heap.size (some A) xs) (h1 : ∀ u ∈ xs, u.oneCell' = true) (hm : m ≤ 100000000)
    (h : ∀ v' w', w'.ownsRow wr.heap.size e size v' m xs → Below wr.heap.size wr w' → wpList P ops Q rest (a.put o.dst v') w') :
    wpList P ops Q (o :: rest) a (wr.alloc (.cells #[] e)) := by
  obtain ⟨i0, hi, hz0, hz1, hz2⟩ := info_parts hi
  have hb1 := below_new1 wr (Obj.cells #[] e)
  have hoe := own_emptyX wr wr.heap.size size e (Nat.le_refl _)
  refine wpList_append_own_at _ hgd s x t ho wr.heap.size e i0 z size bytes ht hi hz0 hz1 hz2 hzs hsz _ 0 [] hs hoe A m c xs hx hl ?_ h1 (by unfold maxLen; omega) (by have h2 : (0 + m) * bytes ≤ 100000000 * 1000 := Nat.mul_le_mul (by omega) hby; omega) hb1.size ?_
  · intro j u hj
    have hlt : 0 < xs.length := by have := (List.getElem?_eq_some_iff.1 hj).1; omega
    obtain ⟨b, off, e2, _, hc⟩ := (hr.below hb1) hlt
    injection e2 with e2
    subst e2
    have hc2 := hc j u hj
    unfold Addr.add
    split
    · rename_i e3; subst e3; exact hc2
    · exact hc2
  · intro v' w' hown hg _ _
    rw [Nat.zero_add, List.nil_append] at hown
    exact h v' w' hown (below_own hb1 hoe hg hb1.size)
theorem flat_one {cs : List (Array Value)} (h : ∀ c ∈ cs, ∀ u ∈ c.toList, u.oneCell' = true) : ∀ u ∈ flat cs, u.oneCell' = true := by
  intro u hu
  unfold flat at hu
  obtain ⟨l, hl, hu⟩ := List.mem_flatten.1 hu
  obtain ⟨c, hc, rfl⟩ := List.mem_map.1 hl
  exact h c hc u hu
/-- an own row with none in it, at other bounds -/
theorem own_noneX (w : World) (base : Nat) (e : TypeId) (sz : Nat) : w.ownsRow base e sz (.slice none 0 0) 0 [] := World.ownsRow_nil _ _ _ _
set_option maxRecDepth 100000 in
theorem cloneTen_any (v : Value) (cs : List (Array Value)) (w : World) (h : RX w w.heap.size 6 v cs) (h1 : ∀ c ∈ cs, ∀ u ∈ c.toList, u.oneCell' = true) (hl : cs.length ≤ 1000000) :
    Calls Tryd.prog 26 #[v] w fun e w' => ∃ v', e = .returned v' ∧ w'.ownsRow w.heap.size 73 6 v' cs.length (flat cs) ∧ Below w.heap.size w w' := by
  obtain ⟨A, c, rfl, _, _, hsz, hr⟩ := h
  have hfl := flat_len 6 cs hsz
  cases A with
  | none =>
    have hb : cs = [] := by
      cases cs with
      | nil => rfl
      | cons x xs => obtain ⟨_, _, e, _⟩ := hr (by rw [hfl, List.length_cons]; omega); cases e
    subst hb
    have hnil : ∀ w, (binOp .eql 28 (.slice none 0 c) (.slice none 0 0)).run Tryd.prog w = .ok (.bool true) w := fun w => by rw [Lib.run_eql_slice_nil (P := Tryd.prog) w 28 73 none 0 c 0 0 Tryd.underlying28]; rfl
    clear hfl
    go_enter Tryd.func26, Tryd.ntmps26
    go_wp2
    go_ret
    exact ⟨_, rfl, World.ownsRow_nil _ _ _ _, Below.refl _ _⟩
  | some A =>
    obtain ⟨N, hN⟩ : ∃ N, cs.length = N := ⟨_, rfl⟩
    have HR := Lib.hid (And.intro hr (And.intro (flat_one h1) hfl))
    have HN := Lib.hid hN
    rw [hN] at hl ⊢
    have hnil : ∀ w, (binOp .eql 28 (.slice (some A) N c) (.slice none 0 0)).run Tryd.prog w = .ok (.bool false) w := fun w => by rw [Lib.run_eql_slice_nil (P := Tryd.prog) w 28 73 (some A) _ c 0 0 Tryd.underlying28]; rfl
    clear hr hfl h1 hsz hN
    go_enter Tryd.func26, Tryd.ntmps26
    go_wp2_with (first
      | (at_builtin; refine wpList_cloneRow rfl (.tmp 5) (.tmp 6) 28 rfl 73 (.agg (tenC zeroTen)) 6 24 Tryd.underlying28 (by kernel_rfl) (rfl) (by decide) (by decide) rfl A N c rfl (flat cs) (by rw [HR.out.2.2, HN.out]) HR.out.1 HR.out.2.1 (by omega) ?_; intro u1 w1 hown1 hb2; have HO := Lib.hid (And.intro hown1 hb2); clear hown1 hb2))
    go_ret
    exact ⟨_, rfl, HO.out.1, HO.out.2⟩
set_option maxRecDepth 100000 in
theorem cloneGra_any (v : Value) (cs : List (Array Value)) (w : World) (h : RX w w.heap.size 4 v cs) (h1 : ∀ c ∈ cs, ∀ u ∈ c.toList, u.oneCell' = true) (hl : cs.length ≤ 1000000) :
    Calls Tryd.prog 27 #[v] w fun e w' => ∃ v', e = .returned v' ∧ w'.ownsRow w.heap.size 67 4 v' cs.length (flat cs) ∧ Below w.heap.size w w' := by
  obtain ⟨A, c, rfl, _, _, hsz, hr⟩ := h
  have hfl := flat_len 4 cs hsz
  cases A with
  | none =>
    have hb : cs = [] := by
      cases cs with
      | nil => rfl
      | cons x xs => obtain ⟨_, _, e, _⟩ := hr (by rw [hfl, List.length_cons]; omega); cases e
    subst hb
    have hnil : ∀ w, (binOp .eql 30 (.slice none 0 c) (.slice none 0 0)).run Tryd.prog w = .ok (.bool true) w := fun w => by rw [Lib.run_eql_slice_nil (P := Tryd.prog) w 30 67 none 0 c 0 0 Tryd.underlying30]; rfl
    clear hfl
    go_enter Tryd.func27, Tryd.ntmps27
    go_wp2
    go_ret
    exact ⟨_, rfl, World.ownsRow_nil _ _ _ _, Below.refl _ _⟩
  | some A =>
    obtain ⟨N, hN⟩ : ∃ N, cs.length = N := ⟨_, rfl⟩
    have HR := Lib.hid (And.intro hr (And.intro (flat_one h1) hfl))
    have HN := Lib.hid hN
    rw [hN] at hl ⊢
    have hnil : ∀ w, (binOp .eql 30 (.slice (some A) N c) (.slice none 0 0)).run Tryd.prog w = .ok (.bool false) w := fun w => by rw [Lib.run_eql_slice_nil (P := Tryd.prog) w 30 67 (some A) _ c 0 0 Tryd.underlying30]; rfl
    clear hr hfl h1 hsz hN
    go_enter Tryd.func27, Tryd.ntmps27
    go_wp2_with (first
      | (at_builtin; refine wpList_cloneRow rfl (.tmp 5) (.tmp 6) 30 rfl 67 (.agg (graC ⟨0, 0, 0, false⟩)) 4 32 Tryd.underlying30 (by kernel_rfl) (rfl) (by decide) (by decide) rfl A N c rfl (flat cs) (by rw [HR.out.2.2, HN.out]) HR.out.1 HR.out.2.1 (by omega) ?_; intro u1 w1 hown1 hb2; have HO := Lib.hid (And.intro hown1 hb2); clear hown1 hb2))
    go_ret
    exact ⟨_, rfl, HO.out.1, HO.out.2⟩
set_option maxRecDepth 100000 in
theorem cloneTre_any (v : Value) (cs : List (Array Value)) (w : World) (h : RX w w.heap.size 75 v cs) (h1 : ∀ c ∈ cs, ∀ u ∈ c.toList, u.oneCell' = true) (hl : cs.length ≤ 1000000) :
    Calls Tryd.prog 28 #[v] w fun e w' => ∃ v', e = .returned v' ∧ w'.ownsRow w.heap.size 49 75 v' cs.length (flat cs) ∧ Below w.heap.size w w' := by
  obtain ⟨A, c, rfl, _, _, hsz, hr⟩ := h
  have hfl := flat_len 75 cs hsz
  cases A with
  | none =>
    have hb : cs = [] := by
      cases cs with
      | nil => rfl
      | cons x xs => obtain ⟨_, _, e, _⟩ := hr (by rw [hfl, List.length_cons]; omega); cases e
    subst hb
    have hnil : ∀ w, (binOp .eql 29 (.slice none 0 c) (.slice none 0 0)).run Tryd.prog w = .ok (.bool true) w := fun w => by rw [Lib.run_eql_slice_nil (P := Tryd.prog) w 29 49 none 0 c 0 0 Tryd.underlying29]; rfl
    clear hfl
    go_enter Tryd.func28, Tryd.ntmps28
    go_wp2
    go_ret
    exact ⟨_, rfl, World.ownsRow_nil _ _ _ _, Below.refl _ _⟩
  | some A =>
    obtain ⟨N, hN⟩ : ∃ N, cs.length = N := ⟨_, rfl⟩
    have HR := Lib.hid (And.intro hr (And.intro (flat_one h1) hfl))
    have HN := Lib.hid hN
    rw [hN] at hl ⊢
    have hnil : ∀ w, (binOp .eql 29 (.slice (some A) N c) (.slice none 0 0)).run Tryd.prog w = .ok (.bool false) w := fun w => by rw [Lib.run_eql_slice_nil (P := Tryd.prog) w 29 49 (some A) _ c 0 0 Tryd.underlying29]; rfl
    clear hr hfl h1 hsz hN
    go_enter Tryd.func28, Tryd.ntmps28
    go_wp2_with (first
      | (at_builtin; refine wpList_cloneRow rfl (.tmp 5) (.tmp 6) 29 rfl 49 (.agg (treC ⟨0, 0, 0, 0, [], [], [], zeroHead, []⟩ (.slice none 0 0) (.slice none 0 0) (.slice none 0 0))) 75 200 Tryd.underlying29 (by kernel_rfl) (by show (treC _ _ _ _).size = 75; exact treC_size _ _ _ _) (by decide) (by decide) rfl A N c rfl (flat cs) (by rw [HR.out.2.2, HN.out]) HR.out.1 HR.out.2.1 (by omega) ?_; intro u1 w1 hown1 hb2; have HO := Lib.hid (And.intro hown1 hb2); clear hown1 hb2))
    go_ret
    exact ⟨_, rfl, HO.out.1, HO.out.2⟩
set_option maxRecDepth 100000 in
theorem cloneW2_any (v : Value) (xs : List UInt32) (w : World) (h : WSl w w.heap.size v xs) (hl : xs.length ≤ 1000000) :
    Calls Tryd.prog 29 #[v] w fun e w' => ∃ v', e = .returned v' ∧ w'.ownsRow w.heap.size 22 1 v' xs.length (xs.map v32) ∧ Below w.heap.size w w' := by
  obtain ⟨A, c, rfl, _, _, hr⟩ := h
  cases A with
  | none =>
    have hb : xs = [] := by
      cases xs with
      | nil => rfl
      | cons x xs => obtain ⟨_, _, e, _⟩ := hr (by simp); cases e
    subst hb
    have hnil : ∀ w, (binOp .eql 47 (.slice none 0 c) (.slice none 0 0)).run Tryd.prog w = .ok (.bool true) w := fun w => by rw [Lib.run_eql_slice_nil (P := Tryd.prog) w 47 22 none 0 c 0 0 Tryd.underlying47]; rfl
    go_enter Tryd.func29, Tryd.ntmps29
    go_wp2
    go_ret
    exact ⟨_, rfl, World.ownsRow_nil _ _ _ _, Below.refl _ _⟩
  | some A =>
    have hone : ∀ u ∈ xs.map v32, u.oneCell' = true := fun u hu => by obtain ⟨n, _, rfl⟩ := List.mem_map.1 hu; rfl
    obtain ⟨N, hN⟩ : ∃ N, xs.length = N := ⟨_, rfl⟩
    have HR := Lib.hid (And.intro hr hone)
    have HN := Lib.hid hN
    rw [hN] at hl ⊢
    have hnil : ∀ w, (binOp .eql 47 (.slice (some A) N c) (.slice none 0 0)).run Tryd.prog w = .ok (.bool false) w := fun w => by rw [Lib.run_eql_slice_nil (P := Tryd.prog) w 47 22 (some A) _ c 0 0 Tryd.underlying47]; rfl
    clear hr hone hN
    go_enter Tryd.func29, Tryd.ntmps29
    go_wp2_with (first
      | (at_builtin; refine wpList_cloneRow rfl (.tmp 5) (.tmp 6) 47 rfl 22 (.int .u32 0) 1 4 Tryd.underlying47 (by kernel_rfl) rfl (by decide) (by decide) rfl A N c rfl (xs.map v32) (by rw [List.length_map, HN.out, Nat.mul_one]) HR.out.1 HR.out.2 (by omega) ?_; intro u1 w1 hown1 hb2; have HO := Lib.hid (And.intro hown1 hb2); clear hown1 hb2))
    go_ret
    exact ⟨_, rfl, HO.out.1, HO.out.2⟩
theorem SSl.one_ {w : World} {B : Nat} {vs : List Value} {ls : List (List UInt8)} (hl : vs.length = ls.length) (h : ∀ i, i < ls.length → BSl w B (vs.getD i undef) (ls.getD i [])) : ∀ u ∈ vs, u.oneCell' = true := by
  intro u hu
  obtain ⟨i, hi, rfl⟩ := List.mem_iff_getElem.1 hu
  obtain ⟨A, c, e, _⟩ := h i (by omega)
  rw [List.getD_eq_getElem?_getD, List.getElem?_eq_getElem hi, Option.getD_some] at e
  rw [e]; rfl
set_option maxRecDepth 100000 in
theorem cloneSS_any (A : Option Addr) (c : Nat) (vs : List Value) (w : World) (hr : Reads w w.heap.size A vs) (h1 : ∀ u ∈ vs, u.oneCell' = true) (hl : vs.length ≤ 1000000) :
    Calls Tryd.prog 24 #[.slice A vs.length c] w fun e w' => ∃ v', e = .returned v' ∧ w'.ownsRow w.heap.size 23 1 v' vs.length vs ∧ Below w.heap.size w w' := by
  cases A with
  | none =>
    have hb : vs = [] := by
      cases vs with
      | nil => rfl
      | cons x xs => obtain ⟨_, _, e, _⟩ := hr (by simp); cases e
    subst hb
    have hnil : ∀ w, (binOp .eql 46 (.slice none 0 c) (.slice none 0 0)).run Tryd.prog w = .ok (.bool true) w := fun w => by rw [Lib.run_eql_slice_nil (P := Tryd.prog) w 46 23 none 0 c 0 0 Tryd.underlying46]; rfl
    go_enter Tryd.func24, Tryd.ntmps24
    go_wp2
    go_ret
    exact ⟨_, rfl, World.ownsRow_nil _ _ _ _, Below.refl _ _⟩
  | some A =>
    obtain ⟨N, hN⟩ : ∃ N, vs.length = N := ⟨_, rfl⟩
    have HR := Lib.hid (And.intro hr h1)
    have HN := Lib.hid hN
    rw [hN] at hl ⊢
    have hnil : ∀ w, (binOp .eql 46 (.slice (some A) N c) (.slice none 0 0)).run Tryd.prog w = .ok (.bool false) w := fun w => by rw [Lib.run_eql_slice_nil (P := Tryd.prog) w 46 23 (some A) _ c 0 0 Tryd.underlying46]; rfl
    clear hr h1 hN
    go_enter Tryd.func24, Tryd.ntmps24
    go_wp2_with (first
      | (at_builtin; refine wpList_cloneRow rfl (.tmp 5) (.tmp 6) 46 rfl 23 (.slice none 0 0) 1 24 Tryd.underlying46 (by kernel_rfl) rfl (by decide) (by decide) rfl A N c rfl vs (by rw [HN.out, Nat.mul_one]) HR.out.1 HR.out.2 (by omega) ?_; intro u1 w1 hown1 hb2; have HO := Lib.hid (And.intro hown1 hb2); clear hown1 hb2))
    go_ret
    exact ⟨_, rfl, HO.out.1, HO.out.2⟩
end Go.Proofs.YtcdkadidkkbhpaaDoor

/- The walk of state.Copy's inner function: a list of texts in new memory. No condition. -/
namespace Go.Proofs.YtcdkadidkkbhpaaDoor
open Go Go.RowKit
/-- one cell of a row of the call's own is written -/
theorem own_set1 {w w' : World} {base g n cap : Nat} {e : TypeId} {xs : List Value} {cur : Array Value} (h : w.ownsRow base e 1 (.slice (some ⟨g, 0, none⟩) n cap) n xs) (hb : Blk w g e cur) (k : Nat) (u : Value) (hb' : Blk w' g e (cur.setIfInBounds k u)) : w'.ownsRow base e 1 (.slice (some ⟨g, 0, none⟩) n cap) n (xs.set k u) := by
  refine ⟨by rw [List.length_set]; exact h.1, ?_⟩
  rcases h.2 with ⟨e1, _⟩ | ⟨g', cap', cur', e1, hB, hg, h1, h2, h3, h4⟩
  · cases e1
  · injection e1 with e1 _ e3
    injection e1 with e1
    injection e1 with e1
    subst e1; subst e3
    have hcc : cur' = cur := by
      have hh : some (Obj.cells cur' e (0, 0)) = some (Obj.cells cur e (0, 0)) := hg.symm.trans hb
      injection hh with hh
      injection hh
    subst hcc
    refine .inr ⟨g, cap, _, rfl, hB, hb', h1, h2, by rw [Array.size_setIfInBounds]; exact h3, ?_⟩
    rw [Array.toList_setIfInBounds, List.take_set, h4]
theorem own_shape {w : World} {base n : Nat} {e : TypeId} {sz : Nat} {v : Value} {xs : List Value} (h : w.ownsRow base e sz v n xs) (hn : 0 < n) : ∃ g cap cur, v = .slice (some ⟨g, 0, none⟩) n cap ∧ base ≤ g ∧ Blk w g e cur ∧ n ≤ cap ∧ cap ≤ maxLen ∧ cur.size = cap * sz ∧ cur.toList.take (n * sz) = xs := by
  rcases h.2 with ⟨_, h0⟩ | ⟨g, cap, cur, e1, h1, h2, h3, h4, h5, h6⟩
  · omega
  · exact ⟨g, cap, cur, e1, h1, h2, h3, h4, h5, h6⟩
theorem own_slice2 {w : World} {base n : Nat} {e : TypeId} {sz : Nat} {v : Value} {xs : List Value} (h : w.ownsRow base e sz v n xs) : ∃ A c, v = .slice A n c := by
  rcases h.2 with ⟨e1, h0⟩ | ⟨g, cap, cur, e1, _⟩
  · exact ⟨none, 0, by rw [e1, h0]⟩
  · exact ⟨_, _, e1⟩
/-- what the loop of Copy's inner function holds -/
def Cp1 (w : World) (v : Value) (vs : List Value) (ls : List (List UInt8)) (k : Nat) (W : World) : Prop :=
  Below w.heap.size w W ∧ ∃ us, us.length = ls.length ∧ W.ownsRow w.heap.size 23 1 v ls.length us ∧ (∀ i, i < k → W.ownsRow w.heap.size 5 1 (us.getD i undef) (ls.getD i []).length ((ls.getD i []).map v8)) ∧ ∀ i, k ≤ i → us.getD i undef = vs.getD i undef
theorem getD_set_eq {α : Type} (l : List α) (i : Nat) (x d : α) (h : i < l.length) : (l.set i x).getD i d = x := by
  rw [List.getD_eq_getElem?_getD, List.getElem?_set, if_pos rfl, if_pos h]; rfl
theorem getD_set_neq {α : Type} (l : List α) (i j : Nat) (x d : α) (h : i ≠ j) : (l.set i x).getD j d = l.getD j d := by
  rw [List.getD_eq_getElem?_getD, List.getD_eq_getElem?_getD, List.getElem?_set, if_neg h]
/-- one text more is copied -/
theorem Cp1.step {w W W2 W3 : World} {g cap k : Nat} {vs : List Value} {ls : List (List UInt8)} {u : Value} {cur : Array Value} (h : Cp1 w (.slice (some ⟨g, 0, none⟩) ls.length cap) vs ls k W) (hk : k < ls.length) (hb : Below W.heap.size W W2) (hu : W2.ownsRow W.heap.size 5 1 u (ls.getD k []).length ((ls.getD k []).map v8))
    (hc : Blk W2 g 23 cur) (hc3 : Blk W3 g 23 (cur.setIfInBounds k u)) (hg : W2.grownBy W3 (some g)) : Cp1 w (.slice (some ⟨g, 0, none⟩) ls.length cap) vs ls (k + 1) W3 := by
  obtain ⟨h0, us, hl, ho, h1, h2⟩ := h
  have ho2 := own_below ho hb
  have ho3 := own_set1 ho2 hc k u hc3
  have hu' : W2.ownsRow w.heap.size 5 1 u (ls.getD k []).length ((ls.getD k []).map v8) := by
    refine ⟨hu.1, ?_⟩
    rcases hu.2 with h' | ⟨g', cap', cur', e1, hB, hrest⟩
    · exact .inl h'
    · exact .inr ⟨g', cap', cur', e1, Nat.le_trans h0.size hB, hrest⟩
  have key : ∀ x n ys, W2.ownsRow w.heap.size 5 1 x n ys → W3.ownsRow w.heap.size 5 1 x n ys := fun x n ys hx => own_grown hx hg (fun g2 h2 e2 => by injection e2 with e2; subst e2; exact own_ne hc hx (by decide) h2)
  refine ⟨(h0.trans (hb.mono h0.size)).grown hg (Nat.le_trans h0.size hb.size) (fun g2 e2 => by injection e2 with e2; subst e2; exact own_ge ho _ rfl), us.set k u, by rw [List.length_set]; exact hl, ho3, fun i hi => ?_, fun i hi => ?_⟩
  · by_cases hik : i = k
    · subst hik
      rw [getD_set_eq _ _ _ _ (by omega)]
      exact key _ _ _ hu'
    · rw [getD_set_neq _ _ _ _ _ (fun e => hik e.symm)]
      exact key _ _ _ (own_below (h1 i (by omega)) hb)
  · rw [getD_set_neq _ _ _ _ _ (by omega)]
    exact h2 i (by omega)
set_option maxHeartbeats 1000000 in
set_option maxRecDepth 100000 in
theorem copy1_any (v : Value) (ls : List (List UInt8)) (w : World) (h : SSl w w.heap.size v ls) (hn : ls.length ≤ 1000000) (hle : ∀ b ∈ ls, b.length ≤ 1000000) :
    Calls Tryd.prog 23 #[v] w fun e w' => ∃ v' vs, e = .returned v' ∧ Own2 w' w.heap.size v' vs ls ∧ Below w.heap.size w w' := by
  obtain ⟨A, c, vs, rfl, _, _, hr, hvl, hel⟩ := h
  have m := cloneSS_any A c vs w hr (SSl.one_ hvl hel) (by omega)
  have HV := Lib.hid (And.intro hvl (And.intro hel hle))
  rw [hvl] at m
  clear hr hvl hel hle
  go_enter Tryd.func23, Tryd.ntmps23
  go_upto_region 2 with (first
    | (refine m.mono ?_; clear m; rintro e w1 ⟨v1, rfl, ho1, hb1⟩; have H1 := Lib.hid (show Cp1 w v1 vs ls 0 w1 from ⟨hb1, vs, HV.out.1, ho1, fun i hi => absurd hi (Nat.not_lt_zero _), fun i _ => rfl⟩); obtain ⟨A1, c1, hv1⟩ := own_slice2 ho1; clear ho1 hb1; subst hv1))
  go_wp2_with fail
  go_loopg [4, 9] (ls.length + 1) (fun gk iv jv wr => ∃ k : Nat, ls.length + 1 ≤ k + gk ∧ k ≤ ls.length ∧ jv = .int .i64 (k : Int) ∧ Cp1 w (.slice A1 ls.length c1) vs ls k wr)
  case atStart => exact ⟨0, by omega, by omega, rfl, H1.out⟩
  case round =>
    clear H1
    obtain ⟨k, hk, hkn, rfl, hC⟩ := hrel
    have HX := Lib.hid (And.intro hk hC)
    clear hk hC
    by_cases hlt : k < ls.length
    · have hki : (k : Int) < (ls.length : Int) := by omega
      have hgk : 0 < gk := by have := HX.out.1; omega
      obtain ⟨us, hul, hou, hu1, hu2⟩ := HX.out.2.2
      obtain ⟨g, cap, cur, ev, hgB, hgb, hnc, hcm, hcs, hct⟩ := own_shape hou (by omega)
      injection ev with ev _ ec
      subst ev; subst ec
      have hsz : k < cur.size := by omega
      have hck : cur[k]? = some (vs.getD k undef) := by
        have e1 : us[k]? = cur[k]? := by
          rw [← hct, List.getElem?_take, if_pos (by omega)]; simp
        rw [← e1, ← hu2 k (Nat.le_refl _), List.getD_eq_getElem?_getD, List.getElem?_eq_getElem (show k < us.length by omega)]; rfl
      have cu : wr.cell? ⟨g, k, none⟩ = some (vs.getD k undef) := (hgb.cell k).trans hck
      have hu := (HV.out.2.1 k hlt).below HX.out.2.1
      have m := clone_any (vs.getD k undef) (ls.getD k []) wr (BSl.more hu HX.out.2.1.size) (by
        have : ls.getD k [] ∈ ls := by rw [List.getD_eq_getElem?_getD, List.getElem?_eq_getElem hlt]; exact List.getElem_mem _
        have := HV.out.2.2 _ this
        omega)
      have Hcur := Lib.hid (And.intro hgb hsz)
      generalize vs.getD k undef = x at m hu cu
      obtain ⟨Ax, cx, hxe⟩ : ∃ A c, x = .slice A (ls.getD k []).length c := by obtain ⟨A, c, e, _⟩ := hu; exact ⟨A, c, e⟩
      subst hxe
      clear hul hou hu1 hu2 hgb hct hck hu us hsz
      have step : ∀ (W2 W3 : World) (u : Value) (cur2 : Array Value), Below wr.heap.size wr W2 → W2.ownsRow wr.heap.size 5 1 u (ls.getD k []).length ((ls.getD k []).map v8) → Blk W2 g 23 cur2 → Blk W3 g 23 (cur2.setIfInBounds k u) → W2.grownBy W3 (some g) → Cp1 w (.slice (some ⟨g, 0, none⟩) ls.length c1) vs ls (k + 1) W3 := fun W2 W3 u cur2 a1 a2 a3 a4 a5 => HX.out.2.step hlt a1 a2 a3 a4 a5
      rw [List.length_map] at m
      have HS := Lib.hid step
      clear step
      generalize ls.getD k [] = bk at m HS cu ⊢
      go_wp2_with (first
        | (refine m.mono ?_; clear m; rintro e w2 ⟨u2, rfl, ho2, hb2⟩; have hb3 := Hcur.out.1.below hb2 Hcur.out.1.lt; have H2 := Lib.hid (And.intro ho2 hb2); obtain ⟨A2, c2, he2⟩ := own_slice2 ho2; subst he2; clear ho2 hb2)
        | (refine wpList_store1 rfl rfl _ (.tmp 19) (.tmp 18) rfl g k rfl (.slice A2 bk.length c2) rfl _ _ hb3 (by kernel_rfl) Hcur.out.2 rfl rfl ?_; intro w3 hb4 hg4; have H3 := Lib.hid (HS.out _ _ _ _ H2.out.2 H2.out.1 hb3 hb4 hg4); clear hb4 hg4))
      clear cu hb3
      go_roundg (gk - 1)
      case measure => omega
      case rel => exact ⟨k + 1, by have := HX.out.1; omega, by omega, by go_num, H3.out⟩
    · obtain rfl : k = ls.length := by omega
      clear hlt
      go_wp2_with fail
      go_ret
      obtain ⟨hb, us, hul, hou, hu1, _⟩ := HX.out.2
      exact ⟨_, us, rfl, ⟨hul, by rw [hul]; exact hou, hu1⟩, hb⟩
end Go.Proofs.YtcdkadidkkbhpaaDoor

/- Chapter 19's states whose rows are the call's own and lie apart, tree by tree. No condition. -/
namespace Go.Proofs.YtcdkadidkkbhpaaDoor
open Go Go.RowKit
/-- a row lies below block hi -/
def Lt (v : Value) (hi : Nat) : Prop := ∀ g, v.ownBlock = some g → g < hi
theorem Lt.of_own {w : World} {base n sz : Nat} {e : TypeId} {v : Value} {xs : List Value} (h : w.ownsRow base e sz v n xs) : Lt v w.heap.size := own_lt h
theorem Lt.more {v : Value} {a b : Nat} (h : Lt v a) (hab : a ≤ b) : Lt v b := fun g hg => Nat.lt_of_lt_of_le (h g hg) hab
/-- a tree's cells, its rows of the call's own, in the blocks from lo to hi, the lists apart -/
def TreI (w : World) (lo hi : Nat) (c : Array Value) (t : TreL) : Prop :=
  ∃ d l q b1 b2 vs us, c = treC t d l q ∧ lo ≤ b1 ∧ b1 ≤ b2 ∧ b2 ≤ hi ∧ w.ownsRow lo 22 1 d t.draws.length (t.draws.map v32) ∧ Lt d b1 ∧ Own2 w b1 l vs t.leaves ∧ Lt l b2 ∧ (∀ x ∈ vs, Lt x b2) ∧ Own2 w b2 q us t.queue ∧ Lt q hi ∧ ∀ x ∈ us, Lt x hi
/-- a state's value, its rows of the call's own and apart -/
def StI (TT RT GT : TypeId) (w : World) (B : Nat) (v : Value) (s : StaL) : Prop := ∃ (t r g : Value) (cs : List (Array Value)) (lo : Nat → Nat), v = .agg (staC s t r g) ∧ w.ownsRow B TT 6 t (s.tenants.map tenC).length (flat (s.tenants.map tenC)) ∧ w.ownsRow B RT 75 r cs.length (flat cs) ∧ cs.length = s.trees.length ∧ B ≤ lo 0 ∧ (∀ i j, i ≤ j → lo i ≤ lo j) ∧ (∀ k, k < s.trees.length → TreI w (lo k) (lo (k + 1)) (cs.getD k #[]) (s.trees.getD k zeroTre)) ∧ w.ownsRow B GT 4 g (s.grants.map graC).length (flat (s.grants.map graC))
section
variable {w w' : World} {lo hi B : Nat} {c : Array Value} {t : TreL}
theorem Own2.base {v : Value} {vs : List Value} {ls : List (List UInt8)} (h : Own2 w B v vs ls) {b : Nat} (hb : b ≤ B) : Own2 w b v vs ls := ⟨h.len, own_baseR h.row hb, fun i hi => own_baseR (h.el i hi) hb⟩
theorem TreI.treO (h : TreI w lo hi c t) (hB : B ≤ lo) : TreO w B c t := by
  obtain ⟨d, l, q, b1, b2, vs, us, e, h1, h2, h3, k1, _, k2, _, _, k3, _⟩ := h
  exact ⟨d, l, q, e, own_baseR k1 hB, ⟨vs, k2.base (by omega)⟩, ⟨us, k3.base (by omega)⟩⟩
theorem TreI.below (h : TreI w lo hi c t) (hb : Below w.heap.size w w') : TreI w' lo hi c t := by
  obtain ⟨d, l, q, b1, b2, vs, us, e, h1, h2, h3, k1, m1, k2, m2, m3, k3, m4⟩ := h
  exact ⟨d, l, q, b1, b2, vs, us, e, h1, h2, h3, own_below k1 hb, m1, k2.below hb, m2, m3, k3.below hb, m4⟩
theorem TreI.typed {g : Nat} {ty : TypeId} {cs : Array Value} (h : TreI w lo hi c t) (hg : w.grownBy w' (some g)) (hk : Blk w g ty cs) (h1 : ty ≠ 5) (h2 : ty ≠ 23) (h3 : ty ≠ 22) : TreI w' lo hi c t := by
  obtain ⟨d, l, q, b1, b2, vs, us, e, q1, q2, q3, k1, m1, k2, m2, m3, k3, m4⟩ := h
  exact ⟨d, l, q, b1, b2, vs, us, e, q1, q2, q3, own_typed k1 hg hk h3, m1, k2.typed hg hk h1 h2, m2, m3, k3.typed hg hk h1 h2, m4⟩
theorem TreI.size (h : TreI w lo hi c t) : c.size = 75 := by
  obtain ⟨d, l, q, b1, b2, vs, us, e, _⟩ := h
  rw [e, treC_size]
variable {TT RT GT : TypeId} {v : Value} {s : StaL}
theorem StI.sto (h : StI TT RT GT w B v s) : StO TT RT GT w B v s := by
  obtain ⟨t, r, g, cs, lo, e, h1, h2, hl, hB, hm, h3, h4⟩ := h
  exact ⟨t, r, g, cs, e, h1, h2, hl, fun k hk => (h3 k hk).treO (Nat.le_trans hB (hm 0 k (Nat.zero_le _))), h4⟩
theorem StI.sta (h : StI TT RT GT w B v s) : Sta w w.heap.size v s := h.sto.sta
theorem StI.below (h : StI TT RT GT w B v s) (hb : Below w.heap.size w w') : StI TT RT GT w' B v s := by
  obtain ⟨t, r, g, cs, lo, e, h1, h2, hl, hB, hm, h3, h4⟩ := h
  exact ⟨t, r, g, cs, lo, e, own_below h1 hb, own_below h2 hb, hl, hB, hm, fun k hk => (h3 k hk).below hb, own_below h4 hb⟩
theorem StI.typed {g : Nat} {ty : TypeId} {cs : Array Value} (h : StI TT RT GT w B v s) (hg : w.grownBy w' (some g)) (hk : Blk w g ty cs) (h1 : ty ≠ 5) (h2 : ty ≠ 23) (h3 : ty ≠ 22) (h4 : ty ≠ TT) (h5 : ty ≠ RT) (h6 : ty ≠ GT) : StI TT RT GT w' B v s := by
  obtain ⟨t, r, g', cs', lo, e, k1, k2, hl, hB, hm, k3, k4⟩ := h
  exact ⟨t, r, g', cs', lo, e, own_typed k1 hg hk h4, own_typed k2 hg hk h5, hl, hB, hm, fun k hk' => (k3 k hk').typed hg hk h1 h2 h3, own_typed k4 hg hk h6⟩
end
/-- what the loop of Copy holds: the row of trees, the first k of them copied -/
def CpT (w : World) (r : Value) (cs0 : List (Array Value)) (ts : List TreL) (k : Nat) (W : World) : Prop :=
  Below w.heap.size w W ∧ ∃ (cs : List (Array Value)) (lo : Nat → Nat), cs.length = ts.length ∧ (∀ c ∈ cs, c.size = 75) ∧ W.ownsRow w.heap.size 49 75 r cs.length (flat cs) ∧ w.heap.size ≤ lo 0 ∧ (∀ i j, i ≤ j → lo i ≤ lo j) ∧ lo k ≤ W.heap.size ∧ (∀ j, j < k → TreI W (lo j) (lo (j + 1)) (cs.getD j #[]) (ts.getD j zeroTre)) ∧ ∀ j, k ≤ j → cs.getD j #[] = cs0.getD j #[]
theorem patch_4 (t : TreL) (d l q d' : Value) : patch (treC t d l q) 4 [d'] = treC t d' l q := by
  unfold patch treC
  apply Array.toList_inj.1
  rw [Array.toList_append, Array.toList_append]
  simp
theorem patch_5 (t : TreL) (d l q l' : Value) : patch (treC t d l q) 5 [l'] = treC t d l' q := by
  unfold patch treC
  apply Array.toList_inj.1
  rw [Array.toList_append, Array.toList_append]
  simp
theorem patch_6 (t : TreL) (d l q q' : Value) : patch (treC t d l q) 6 [q'] = treC t d l q' := by
  unfold patch treC
  apply Array.toList_inj.1
  rw [Array.toList_append, Array.toList_append]
  simp
/-- one tree more is copied: W1 behind its draws, W2 behind its leaves, W3 behind its queue; then its cells are written -/
theorem CpT.step {w W W1 W2 W3 : World} {g n cap k : Nat} {cs0 : List (Array Value)} {ts : List TreL} {t : TreL} {d l q d' l' q' : Value} {vs us : List Value}
    (hW : CpT w (.slice (some ⟨g, 0, none⟩) n cap) cs0 ts k W) (hk : k < ts.length) (ht : ts.getD k zeroTre = t) (hc0 : cs0.getD k #[] = treC t d l q)
    (b1 : Below W.heap.size W W1) (o1 : W1.ownsRow W.heap.size 22 1 d' t.draws.length (t.draws.map v32))
    (b2 : Below W1.heap.size W1 W2) (o2 : Own2 W2 W1.heap.size l' vs t.leaves) (b3 : Below W2.heap.size W2 W3) (o3 : Own2 W3 W2.heap.size q' us t.queue) :
    (∃ cs, cs.length = ts.length ∧ (∀ c ∈ cs, c.size = 75) ∧ cs.getD k #[] = treC t d l q ∧ W3.ownsRow w.heap.size 49 75 (.slice (some ⟨g, 0, none⟩) n cap) cs.length (flat cs) ∧
      ∀ (W4 : World) (cur : Array Value), Blk W3 g 49 cur → W4.ownsRow w.heap.size 49 75 (.slice (some ⟨g, 0, none⟩) n cap) (cs.set k (treC t d' l' q')).length (flat (cs.set k (treC t d' l' q'))) → W3.grownBy W4 (some g) → CpT w (.slice (some ⟨g, 0, none⟩) n cap) cs0 ts (k + 1) W4) := by
  obtain ⟨h0, cs, lo, hl, hsz, ho, hlo, hm, hle, h1, h2⟩ := hW
  have b13 : Below W1.heap.size W1 W3 := b2.trans (b3.mono b2.size)
  have b03 : Below W.heap.size W W3 := b1.trans (b13.mono b1.size)
  refine ⟨cs, hl, hsz, by rw [h2 k (Nat.le_refl _), hc0], own_below ho b03, fun W4 cur hcur ho4 hg => ?_⟩
  have hwg : w.heap.size ≤ g := own_ge ho g rfl
  refine ⟨(h0.trans (b03.mono h0.size)).grown hg (Nat.le_trans h0.size b03.size) (fun g2 e2 => by injection e2 with e2; subst e2; exact hwg), cs.set k (treC t d' l' q'), fun i => if i ≤ k then lo i else W3.heap.size, by rw [List.length_set]; exact hl, fun c hc => ?_, ho4, by simp; exact hlo, fun i j hij => ?_, ?_, fun j hj => ?_, fun j hj => ?_⟩
  · rcases List.mem_or_eq_of_mem_set hc with hc | hc
    · exact hsz c hc
    · rw [hc, treC_size]
  · by_cases hj : j ≤ k
    · simp only [show i ≤ k by omega, hj, if_true]; exact hm i j hij
    · by_cases hi : i ≤ k
      · simp only [hi, hj, if_true, if_false]
        have := hm i k hi
        have := b03.size
        omega
      · simp only [hi, hj, if_false]; exact Nat.le_refl _
  · simp only [show ¬ k + 1 ≤ k by omega, if_false]
    exact hg.size
  · by_cases hjk : j = k
    · subst hjk
      simp only [Nat.le_refl, if_true, show ¬ j + 1 ≤ j by omega, if_false]
      rw [getD_set_eq _ _ _ _ (by omega), ht]
      have k1 := own_baseR (own_below o1 b13) hle
      have k2 := o2.below b3
      refine ⟨d', l', q', W1.heap.size, W2.heap.size, vs, us, rfl, by have := b1.size; omega, b2.size, b3.size, own_typed k1 hg hcur (by decide), Lt.of_own o1, k2.typed hg hcur (by decide) (by decide), Lt.of_own o2.row, fun x hx => ?_, o3.typed hg hcur (by decide) (by decide), Lt.of_own o3.row, fun x hx => ?_⟩
      · obtain ⟨i, hi, rfl⟩ := List.mem_iff_getElem.1 hx
        have he := o2.el i (by rw [← o2.len]; exact hi)
        rw [List.getD_eq_getElem?_getD, List.getElem?_eq_getElem hi] at he
        exact Lt.of_own he
      · obtain ⟨i, hi, rfl⟩ := List.mem_iff_getElem.1 hx
        have he := o3.el i (by rw [← o3.len]; exact hi)
        rw [List.getD_eq_getElem?_getD, List.getElem?_eq_getElem hi] at he
        exact Lt.of_own he
    · simp only [show j ≤ k by omega, show j + 1 ≤ k by omega, if_true]
      rw [getD_set_neq _ _ _ _ _ (fun e => hjk e.symm)]
      exact ((h1 j (by omega)).below b03).typed hg hcur (by decide) (by decide) (by decide)
  · rw [getD_set_neq _ _ _ _ _ (by omega)]
    exact h2 j (by omega)
end Go.Proofs.YtcdkadidkkbhpaaDoor

/- The walk of codec's Writer.Bytes with an exact frame. No condition. -/
namespace Go.Proofs.YtcdkadidkkbhpaaDoor
open Go Go.RowKit
attribute [local irreducible] mixW
attribute [local go_sem] n8_lo n8_hi n64_lo n64_hi
/-- a text as it is written: its length in two bytes, then itself -/
def txtB (xs : List UInt8) : List UInt8 := numB (UInt64.ofNat (xs.length % 65536)) 2 ++ xs.take (xs.length % 65536)
theorem bsl_reads {w : World} {B n c : Nat} {A : Option Addr} {bs : List UInt8} (h : BSl w B (.slice A n c) bs) : Reads w B A (bs.map v8) := by
  obtain ⟨A', c', e, _, _, hr⟩ := h
  injection e with e
  subst e
  exact hr
theorem run_cut_h {P : Program} {t e : TypeId} {A : Option Addr} {len cap : Nat} (ht : P.underlying t = some (.slice e)) (hs : (P.info? e).map (·.size) = some 1) (hi : Nat) (h2 : hi ≤ cap) (w : World) :
    (Instr.sliceAt t (.slice A len cap) none (some (.int .i64 hi)) none).run P w = .ok (.slice A hi cap) w := by
  obtain ⟨i, hi1, hi2⟩ : ∃ i, P.info? e = some i ∧ i.size = 1 := by
    cases hq : P.info? e with
    | none => rw [hq] at hs; cases hs
    | some i => rw [hq] at hs; exact ⟨i, rfl, by simpa using hs⟩
  have a2 : (hi : Int) ≤ (cap : Int) := by omega
  simp [Instr.sliceAt, Instr.slice, run_underlying ht, Instr.sliceBounds, run_sliceBound, hi1, hi2, sizeOf, typeInfo, a2]
  intro _
  cases A with
  | none => rfl
  | some x => simp [Addr.add]
theorem wpQuiet_cutH {P : Program} {ops : Array Oper} {C : World → Prop} {K : Act → Prop} {a : Act} {o : Oper} {rest : List Oper} (hw : Region.wanted o (yielded ops a.tmps) = true) (t : TypeId) (x h : Operand) (ho : o.op = .slice t x none (some h) none) (e : TypeId) (ht : P.underlying t = some (.slice e)) (hs : (P.info? e).map (·.size) = some 1)
    (A : Option Addr) (len cap hi : Nat) (hx : a.eval x = .slice A len cap) (hh : a.eval h = .int .i64 hi) (h2 : hi ≤ cap)
    (hk : wpQuiet P ops C K rest (a.put o.dst (.slice A hi cap))) : wpQuiet P ops C K (o :: rest) a :=
  wpQuiet_wanted hw _ (fun w _ => by
    unfold Oper.quietAt execOp
    simp only [ho, Option.map_some, Option.map_none, hx, hh, Sem.run_bind, run_cut_h ht hs hi h2, Result.andThen_ok, Sem.run_pure]
    exact ⟨rfl, rfl⟩) hk
theorem i64_and65535 (n : Int) : bits .and .i64 n 65535 = n % 65536 := by
  have h : (BitVec.ofInt 64 65535).toNat = 2 ^ 16 - 1 := by decide
  have key : (BitVec.ofInt 64 n &&& BitVec.ofInt 64 65535).toNat = (n % ((2 ^ 64 : Nat) : Int)).toNat % 2 ^ 16 := by
    rw [BitVec.toNat_and, BitVec.toNat_ofInt, h, Nat.and_two_pow_sub_one_eq_mod]
  show IntKind.i64.wrap ((BitVec.ofInt 64 n &&& BitVec.ofInt 64 65535).toNat : Nat) = n % 65536
  rw [key, IntKind.wrap_i64]
  omega
set_option maxHeartbeats 1000000 in
set_option maxRecDepth 100000 in
theorem wbytes_two (g : Nat) (v0 : Value) (bs : List UInt8) (A : Option Addr) (cap : Nat) (xs : List UInt8) (w : World) (B : Nat) (hW : Wr w B g v0 bs) (hB : B ≤ w.heap.size) (hu : BSl w w.heap.size (.slice A xs.length cap) xs)
    (hap : 0 < xs.length → ∀ b o, A = some ⟨b, o, none⟩ → b ≠ g ∧ some b ≠ v0.ownBlock) (hl : bs.length ≤ 140737488289728) :
    Calls Tryd.prog 42 #[.pointer (some ⟨g, 0, none⟩), .slice A xs.length cap] w fun e w' => e = .returned (.tuple #[]) ∧ ∃ u, Wr w' B g u (bs ++ txtB xs) ∧ Two w w' g v0 u := by
  obtain ⟨m, hm⟩ : ∃ m, xs.length % 65536 = m := ⟨_, rfl⟩
  have Ht : Hid (txtB xs = numB (UInt64.ofNat m) 2 ++ xs.take m) := Lib.hid (by rw [← hm]; rfl)
  have hand : bits .and .i64 (xs.length : Int) 65535 = (m : Int) := by rw [i64_and65535]; omega
  have hm1 : m ≤ 65535 := by omega
  have hm2 : m ≤ xs.length := by rw [← hm]; exact Nat.mod_le _ _
  have Hc : Hid ((m : Int) = n64 (UInt64.ofNat m)) := Lib.hid (by unfold n64; rw [UInt64.toNat_ofNat_of_lt' (by show _ < 18446744073709551616; omega)])
  have hrd := bsl_reads hu
  have hxc : xs.length ≤ cap := by obtain ⟨_, _, e, h, _⟩ := hu; injection e with _ _ e; subst e; exact h
  have hxl : cap ≤ 9223372036854775807 := by obtain ⟨_, _, e, _, h, _⟩ := hu; injection e with _ _ e; subst e; exact h
  obtain ⟨L, hL⟩ : ∃ L, xs.length = L := ⟨_, rfl⟩
  have HW := Lib.hid hW
  have HR := Lib.hid hrd
  have Hap := Lib.hid (show 0 < (xs.map v8).length → ∀ b o, A = some ⟨b, o, none⟩ → b ≠ g ∧ some b ≠ v0.ownBlock from fun h => hap (by rw [List.length_map] at h; exact h))
  have HL := Lib.hid hL
  rw [hL] at hand hm2 hxc ⊢
  clear hW hu hrd hap hm hL
  go_enter Tryd.func42, Tryd.ntmps42
  go_wp2_with fail
  have h2 : (numB (UInt64.ofNat m) 2).length = 2 := numB_length _ _
  rw [show Value.int IntKind.u64 (m : Int) = .int .u64 (n64 (UInt64.ofNat m)) from by rw [← Hc.out]]
  refine (number_two g v0 bs (UInt64.ofNat m) 2 (by decide) w B HW.out hB (by omega)).mono ?_
  rintro e w1 ⟨rfl, v, hW1, ht1⟩
  rw [show clamp8 2 = 2 from rfl] at hW1
  have hr1 := ht1.reads HR.out Hap.out
  have hB1 : B ≤ w1.heap.size := Nat.le_trans hB ht1.size
  have hl1 : (bs ++ numB (UInt64.ofNat m) 2).length ≤ 140737488289730 := by rw [List.length_append]; omega
  generalize hq : bs ++ numB (UInt64.ofNat m) 2 = bs1 at hW1 hl1
  have Hq := Lib.hid hq
  have hne := hW1.ne
  obtain ⟨hg, hblk, hown⟩ := hW1
  have HT1 := Lib.hid ht1
  have HR1 := Lib.hid hr1
  have Hc' := Lib.hid hown
  clear hown ht1 hr1 hq h2
  go_wp2_with fail
  refine wp_region_mixS 11 (.plain 0 <| .plain 1 <| .plain 2 <| .plain 3 <| .plain 4 <| .plain 5 <| .plain 6 <| .plain 7 <| .only 8 <| .plain 9 <| .plain 10 <| .done) (fun w' => w'.cell? ⟨g, 0, none⟩ = some v) (by kernel_rfl) (by kernel_rfl) ((hblk.drewN 1).cell 0) ?_
  have hblkD := hblk.drewN 1
  have hownD : (w1.drewN 1).ownsRow B 5 1 v (bs1.map v8).length (bs1.map v8) := Hc'.out
  have HT1D := Lib.hid (HT1.out.drewN 1)
  have HR1D := Lib.hid (HR1.out.drewN 1)
  have hBD : B ≤ (w1.drewN 1).heap.size := hB1
  clear hblk HT1 HR1 Hc'
  generalize w1.drewN 1 = wd at hblkD hownD HT1D HR1D hBD ⊢
  have HO := Lib.hid hownD
  clear hownD
  iterate 8 (refine mix_plain rfl ?_; (first
    | (refine wpQuiet_nilCheck rfl (.tmp 13) rfl _ rfl ?_; simp only [Act.put, List.setIfInBounds_toArray, List.set_cons_zero, List.set_cons_succ])
    | (refine wpQuiet_load1 rfl _ (.tmp 15) rfl _ rfl _ Tryd.underlying23 rfl v (fun _ h => h) ?_; simp only [Act.put, List.setIfInBounds_toArray, List.set_cons_zero, List.set_cons_succ])
    | (refine wpQuiet_cutH rfl 23 (.tmp 17) (.tmp 18) rfl 5 Tryd.underlying23 (by kernel_rfl) A L cap m rfl rfl (Nat.le_trans hm2 hxc) ?_; simp only [Act.put, List.setIfInBounds_toArray, List.set_cons_zero, List.set_cons_succ])
    | go_big_quiet_step ((intro _; rfl))
    | go_big_quiet_step (fail)); refine wpQuiet_nil ?_)
  refine mix_only_in rfl (fun K hK => ?_)
  obtain ⟨i0, hi, hz0, hz1, hz2⟩ := info_parts (by kernel_rfl : (Tryd.prog.info? 5).map (fun i => (i.zero, i.size, i.bytes)) = some (some (.int .u8 0), 1, 1))
  have hrd2 : Reads wd w1.heap.size A ((xs.take m).map v8) := by rw [List.map_take]; exact HR1D.out.take m
  have hlm : ((xs.take m).map v8).length = m := by rw [List.length_map, List.length_take, HL.out]; omega
  have hl2 : (bs1.map v8).length + m ≤ 140737488355265 := by rw [List.length_map]; omega
  have HL2 := Lib.hid (And.intro hl2 (And.intro hrd2 hlm))
  clear hl2 hrd2 hlm
  refine wpList_appendR rfl (.tmp 16) (.tmp 19) _ rfl B 5 i0 _ 1 Tryd.underlying23 hi hz0 hz1 hz2 rfl v _ rfl HO.out w1.heap.size A m cap ((xs.take m).map v8) rfl HL2.out.2.1 HL2.out.2.2 (oneCell_v8 _) (by have := HL2.out.1; unfold maxLen; omega) (by have := HL2.out.1; omega) hBD ?_
  intro v' w2 hown2 hg2 hat2
  simp only [Act.put, List.setIfInBounds_toArray, List.set_cons_zero, List.set_cons_succ]
  have hneg : some g ≠ v.ownBlock := fun e => hne e.symm
  have hblk2 := hblkD.grown hg2 hneg
  have HT2 := Lib.hid (HT1D.out.app hg2 hat2)
  rw [← List.map_append] at hown2
  have hne2 : v'.ownBlock ≠ some g := own_ne hblk2 hown2 (by decide)
  refine hK _ _ (hblk2.cell 0) ?_
  clear hK K hblkD hg2 hat2 hneg HO
  iterate 2 (refine mix_plain rfl ?_; (first
    | (refine wpQuiet_nilCheck rfl (.tmp 12) rfl _ rfl ?_; simp only [Act.put, List.setIfInBounds_toArray, List.set_cons_zero, List.set_cons_succ])
    | go_big_quiet_step ((intro _; rfl))
    | go_big_quiet_step (fail)); refine wpQuiet_nil ?_)
  refine mix_done ?_
  simp only [List.drop_succ_cons, List.drop_zero]
  have hv1 : v'.cells = #[v'] ∧ v'.oneCell' = true := by
    rcases hown2.2 with ⟨rfl, _⟩ | ⟨g', cap', cur, rfl, _⟩ <;> exact ⟨rfl, rfl⟩
  refine wpList_store1 rfl rfl _ (.tmp 22) (.tmp 20) rfl g 0 rfl v' rfl _ _ hblk2 (by kernel_rfl) (by simp) hv1.1 hv1.2 ?_
  intro w3 hblk3 hon3
  have hown3 := own_grown hown2 hon3 (fun g' hg' e => by injection e with e; subst e; exact hne2 hg')
  have HT3 := Lib.hid (HT2.out.store hon3)
  have e3 : (#[v] : Array Value).setIfInBounds 0 v' = #[v'] := by simp
  rw [e3] at hblk3
  have hbs : bs1 ++ xs.take m = bs ++ txtB xs := by rw [Ht.out, ← Hq.out, List.append_assoc]
  rw [hbs] at hown3
  have HF := Lib.hid (And.intro hblk3 hown3)
  clear hblk2 hown2 hon3 hv1 e3 HT2 hblk3 hown3 hbs
  go_wp2
  exact bodyPost_end (results_none rfl _ _ _) rfl ⟨rfl, v', ⟨hg, HF.out.1, HF.out.2⟩, HT3.out⟩
end Go.Proofs.YtcdkadidkkbhpaaDoor
