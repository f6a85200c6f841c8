/- Texts that stand behind one another: Mix, MixS, MixT, Cut, Merkle. No condition. -/
import Derived.Test.YteonmcconpfkjaaDoorP3
import Derived.OrdersHeld
/- A region that draws its order: plain operations have one value in every world of a class and are taken as soon as they may come up; what is left comes up alone (or two at a time) and is walked by itself. No condition. -/
namespace Go.Proofs.YteonmcconpfkjaaDoor
open Go Go.RowKit
/-- No way out but K. -/
def OnlyK (K : Act → World → Prop) : Exit → Act → World → Prop
  | .normal, a, w => K a w
  | _, _, _ => False
theorem onlyK_imp {Q : Exit → Act → World → Prop} : ∀ (e : Exit) (a : Act) (w : World), OnlyK (Q .normal) e a w → Q e a w := fun e a w h => by
  cases e <;> first | exact h | exact (h : False).elim
theorem onlyK_out {K : Act → World → Prop} : ¬ LetsOut (OnlyK K) := fun ⟨_, _, h⟩ => h
/-- operations that yield a value and touch nothing -/
def plainOp (o : Oper) : Bool :=
  match o.op with
  | .move _ | .assign _ | .load _ _ | .binOp _ _ _ _ _ | .unOp _ _ _ | .convert _ _ _ | .slice _ _ _ _ _ | .fieldAddr _ _ _ | .field _ _ _ | .indexAddr _ _ _ | .index _ _ _ | .extract _ _ | .build _ _ | .makeFunc _ _ _ | .pick _ _ _ | .makeInterface _ _ | .nilCheck _ => true
  | .call c => match c.callee with
    | .builtin .len | .builtin .cap | .builtin .min | .builtin .max => true
    | _ => false
  | _ => false
/-- How a region is walked. -/
inductive Plan where
  | done
  | plain (i : Nat) (p : Plan)
  | only (i : Nat) (p : Plan)
  | two (i j : Nat) (p q : Plan)
section
variable {P : Program} {ops : Array Oper} {md : Region.Mode} {Q : Exit → Act → World → Prop} {S : World → Prop}
theorem run_value_only {s : Sem Value} {w w' : World} {n : Next} (h : (do pure (Next.value (← s)) : Sem Next).run P w = .ok n w') : ∃ v, n = .value v := by
  simp only [Sem.run_bind] at h
  generalize s.run P w = r at h
  cases r with
  | ok x w1 =>
    rw [Result.andThen_ok, Sem.run_pure] at h
    injection h with h1 h2
    exact ⟨x, h1.symm⟩
  | halt x w1 => cases h
theorem run_bind_only {α : Type} {s : Sem α} {f : α → Sem Next} {w w' : World} {n : Next} (hf : ∀ x w1 w2 n, (f x).run P w1 = .ok n w2 → ∃ v, n = .value v) (h : (s >>= f).run P w = .ok n w') : ∃ v, n = .value v := by
  rw [Sem.run_bind] at h
  generalize s.run P w = r at h
  cases r with
  | ok x w1 => rw [Result.andThen_ok] at h; exact hf _ _ _ _ h
  | halt x w1 => cases h
theorem plain_value {o : Oper} (hp : plainOp o = true) {a : Act} {w w' : World} {n : Next} (h : (execOp a.eval o).run P w = .ok n w') : ∃ v, n = .value v := by
  unfold plainOp at hp
  unfold execOp at h
  split at hp <;> rename_i ho <;> simp only [ho] at h <;> try exact run_value_only h
  · rw [Sem.run_pure] at h; injection h with h1 _; exact ⟨_, h1.symm⟩
  · rw [Sem.run_pure] at h; injection h with h1 _; exact ⟨_, h1.symm⟩
  · simp only [Sem.run_bind] at h
    generalize (asBool _).run P w = r at h
    cases r with
    | ok x w1 => rw [Result.andThen_ok, Sem.run_pure] at h; injection h with h1 _; exact ⟨_, h1.symm⟩
    | halt x w1 => cases h
  · generalize a.eval _ = x at h
    split at h
    · simp [runtimePanic] at h
    · simp [runtimePanic] at h
    · simp [runtimePanic] at h
    · split at h
      · simp [runtimePanic] at h
      · refine run_bind_only (fun x w1 w2 n h => run_bind_only (fun b w3 w4 n h => ?_) h) h
        split at h
        · exact run_bind_only (fun _ w5 w6 n h => by rw [Sem.run_pure] at h; injection h with h1 _; exact ⟨_, h1.symm⟩) h
        · rw [Sem.run_pure] at h; injection h with h1 _; exact ⟨_, h1.symm⟩
      · rw [Sem.run_pure] at h; injection h with h1 _; exact ⟨_, h1.symm⟩
    · rw [Sem.run_pure] at h; injection h with h1 _; exact ⟨_, h1.symm⟩
  · split at hp
    · rename_i hc
      simp only [resolve, hc, Sem.run_bind, Sem.run_pure, Result.andThen_ok, invoke, builtin] at h
      exact run_value_only (by simpa only [Sem.run_bind, Sem.run_pure] using h)
    · rename_i hc
      simp only [resolve, hc, Sem.run_bind, Sem.run_pure, Result.andThen_ok, invoke, builtin] at h
      exact run_value_only (by simpa only [Sem.run_bind, Sem.run_pure] using h)
    · rename_i hc
      simp only [resolve, hc, Sem.run_bind, Sem.run_pure, Result.andThen_ok, invoke, builtin] at h
      exact run_value_only (by simpa only [Sem.run_bind, Sem.run_pure] using h)
    · rename_i hc
      simp only [resolve, hc, Sem.run_bind, Sem.run_pure, Result.andThen_ok, invoke, builtin] at h
      exact run_value_only (by simpa only [Sem.run_bind, Sem.run_pure] using h)
    · cases hp
  · cases hp
/-- Whatever order is picked from here on; behind each operation the class may shrink. -/
def wpAnyM (P : Program) (md : Region.Mode) (ops : Array Oper) (Q : Exit → Act → World → Prop) : Nat → (World → Prop) → Array Bool → Act → World → Prop
  | 0, _, listed, a, w => Region.ready md ops listed = [] ∧ Q .normal a w
  | fuel + 1, S, listed, a, w =>
    (Region.ready md ops listed = [] → Q .normal a w) ∧
    ∀ i ∈ Region.ready md ops listed, wpOp P ops Q i (fun a' w' => ∃ S' : World → Prop, (∀ w, S' w → S w) ∧ S' w' ∧ wpAnyM P md ops Q fuel S' (listed.setIfInBounds i true) a' w') a w
theorem wpAny_of_mix : ∀ (fuel : Nat) (S : World → Prop) (listed : Array Bool) (a : Act) (w : World), wpAnyM P md ops Q fuel S listed a w → wpAny P md ops Q fuel listed a w
  | 0, _, _, _, _, h => h
  | fuel + 1, _, _, _, _, h => ⟨h.1, fun i hi => wpOp_mono (fun a' w' ⟨_, _, _, h'⟩ => wpAny_of_mix fuel _ _ a' w' h') (h.2 i hi)⟩
theorem yieldsIf_less {S' : World → Prop} {o : Oper} {v : Value} {a : Act} (h : YieldsIf P ops S o v a) (hS : ∀ w, S' w → S w) : YieldsIf P ops S' o v a :=
  h.imp (fun ⟨h1, h2⟩ => ⟨h1, fun w hw => h2 w (hS w hw)⟩) id
theorem wpAnyM_first {i : Nat} {oi : Oper} {v : Value} (hi : ops[i]? = some oi) (hsel : ∀ (j : Nat) (o : Oper) cs b, ops[j]? = some o → o.op ≠ .select cs b)
    (hQ : ∀ c a w, Q (.panic c) (a.put oi.dst v) w → Q (.panic c) a w) :
    ∀ (fuel : Nat) (S : World → Prop) (listed : Array Bool) (a : Act) (w : World),
      (∀ j oj, ops[j]? = some oj → j ≠ i → listed.getD j true = false → (∀ e ∈ oj.after, Region.binds md e = true → e.on ≠ i) → oi.apart ops oj = true) →
      i ∈ Region.ready md ops listed → YieldsIf P ops S oi v a → S w →
      wpAnyM P md ops Q fuel S (listed.setIfInBounds i true) (a.put oi.dst v) w → wpAnyM P md ops Q (fuel + 1) S listed a w := by
  intro fuel
  induction fuel with
  | zero =>
    intro S listed a w _ hr hy hS H
    refine ⟨fun h => (by rw [h] at hr; cases hr), fun j hj => ?_⟩
    by_cases hji : j = i
    · subst hji; exact hy.wpOp hi hS ⟨S, fun _ h => h, hS, H⟩
    · have := ready_mono hj hji
      rw [H.1] at this
      cases this
  | succ fuel ih =>
    intro S listed a w hfree hr hy hS H
    refine ⟨fun h => (by rw [h] at hr; cases hr), fun j hj => ?_⟩
    by_cases hji : j = i
    · subst hji; exact hy.wpOp hi hS ⟨S, fun _ h => h, hS, H⟩
    · have h1 := H.2 j (ready_mono hj hji)
      obtain ⟨hjun, oj, hoj, hall⟩ := mem_ready.1 hj
      have hnot : ∀ e ∈ oj.after, Region.binds md e = true → e.on ≠ i := fun e he hb heq => by
        have h1 := hall e he hb
        have h0 := (mem_ready.1 hr).1
        rw [heq] at h1
        rcases Nat.lt_or_ge i listed.size with h' | h'
        · simp [h'] at h0 h1; rw [h0] at h1; cases h1
        · simp [Array.getElem?_eq_none h'] at h1
      have h2 := wpOp_putIf hoj (hfree j oj hoj hji hjun hnot) (fun cs b => hsel i oi cs b hi) (fun cs b => hsel j oj cs b hoj) hQ hy h1
      have hfree' : ∀ k ok, ops[k]? = some ok → k ≠ i → (listed.setIfInBounds j true).getD k true = false →
          (∀ e ∈ ok.after, Region.binds md e = true → e.on ≠ i) → oi.apart ops ok = true := fun k ok hk hki hun hno => by
        refine hfree k ok hk hki ?_ hno
        by_cases hjk : j = k
        · subst hjk; exact hjun
        · rw [getD_set_ne true hjk] at hun; exact hun
      refine wpOp_mono (fun a' w' ⟨h3, S', h4, h5, h6⟩ => ⟨S', h4, h5, ih S' (listed.setIfInBounds j true) a' w' hfree' (ready_mono hr (Ne.symm hji)) (yieldsIf_less h3 h4) h5 ?_⟩) h2
      rw [Array.setIfInBounds_comm _ _ hji]
      exact h6
/-- the goal of a walk by a plan -/
def mixW (P : Program) (ops : Array Oper) (K : Act → World → Prop) : Plan → (World → Prop) → Act → World → Prop
  | .done, _, a, w => K a w
  | .plain i p, S, a, w => match ops[i]? with
    | none => False
    | some o => wpQuiet P ops S (fun a' => mixW P ops K p S a' w) [o] a
  | .only i p, S, a, w => match ops[i]? with
    | none => False
    | some o => wpList P ops (OnlyK fun a' w' => ∃ S' : World → Prop, (∀ w, S' w → S w) ∧ S' w' ∧ mixW P ops K p S' a' w') [o] a w
  | .two i j p q, S, a, w => (match ops[i]? with
    | none => False
    | some o => wpList P ops (OnlyK fun a' w' => ∃ S' : World → Prop, (∀ w, S' w → S w) ∧ S' w' ∧ mixW P ops K p S' a' w') [o] a w) ∧ (match ops[j]? with
    | none => False
    | some o => wpList P ops (OnlyK fun a' w' => ∃ S' : World → Prop, (∀ w, S' w → S w) ∧ S' w' ∧ mixW P ops K q S' a' w') [o] a w)
def Plan.len : Plan → Nat
  | .done => 0
  | .plain _ p => p.len + 1
  | .only _ p => p.len + 1
  | .two _ _ p _ => p.len + 1
def mixB (md : Region.Mode) (ops : Array Oper) : Plan → Array Bool → Bool
  | .done, listed => (Region.ready md ops listed).isEmpty
  | .plain i p, listed => Region.free md ops listed i && (Region.ready md ops listed).contains i && ((ops[i]?).map plainOp).getD false && mixB md ops p (listed.setIfInBounds i true)
  | .only i p, listed => (Region.ready md ops listed == [i]) && mixB md ops p (listed.setIfInBounds i true)
  | .two i j p q, listed => (Region.ready md ops listed == [i, j]) && (p.len == q.len) && mixB md ops p (listed.setIfInBounds i true) && mixB md ops q (listed.setIfInBounds j true)
theorem wpOp_of_list {i : Nat} {o : Oper} (ho : ops[i]? = some o) {K : Act → World → Prop} {a : Act} {w : World} (h : wpList P ops (OnlyK K) [o] a w) : wpOp P ops (OnlyK (Q .normal)) i K a w := by
  unfold wpOp
  simp only [ho]
  unfold wpList at h
  split
  · rename_i hw
    rw [if_pos hw] at h
    rcases h with h | h
    · refine .inl ?_
      unfold Oper.wp at *
      generalize (execOp a.eval o).run P w = r at *
      cases r with
      | ok n w' =>
        cases n <;> simp only [Oper.upon] at h ⊢ <;>
          first
            | exact h
            | exact Calls.mono h (fun e w'' he => by cases e <;> first | exact he | exact (he : False).elim | exact (onlyK_out he).elim)
            | exact Rows.mono h (fun _ _ he => he)
      | halt x w' => cases x <;> simp only [Oper.upon] at h ⊢ <;> first | exact h | exact (h : False).elim
    · exact (onlyK_out h.2).elim
  · rename_i hw
    rw [if_neg hw] at h
    exact h
theorem yieldsIf_of_quiet {o : Oper} (hp : plainOp o = true) {K : Act → Prop} {a : Act} (h : wpQuiet P ops S K [o] a) : ∃ v, YieldsIf P ops S o v a ∧ K (a.put o.dst v) := by
  unfold wpQuiet at h
  split at h
  · rename_i hw
    obtain ⟨v, h1, h2⟩ := h
    refine ⟨v, .inl ⟨hw, fun w hS => ?_⟩, h2⟩
    have h3 := h1 w hS
    unfold Oper.quietAt at h3
    generalize hr : (execOp a.eval o).run P w = r at h3
    cases r with
    | ok n w' =>
      obtain ⟨u, rfl⟩ := plain_value hp hr
      simp only [Oper.quietUpon] at h3
      rw [h3.1, h3.2]
    | halt x w' => exact h3.elim
  · rename_i hw
    exact ⟨undef, .inr ⟨by simpa using hw, rfl⟩, h⟩
theorem wpAnyM_of_mix (hsel : Region.noSelect ops = true) : ∀ (p : Plan) (S : World → Prop) (listed : Array Bool) (a : Act) (w : World), mixB md ops p listed = true → S w → mixW P ops (Q .normal) p S a w →
    wpAnyM P md ops (OnlyK (Q .normal)) p.len S listed a w
  | .done, S, listed, a, w, hB, hS, h => ⟨by simpa [mixB] using hB, h⟩
  | .plain i p, S, listed, a, w, hB, hS, h => by
    simp only [mixB, Bool.and_eq_true] at hB
    obtain ⟨⟨⟨hf, hr⟩, hp⟩, hB⟩ := hB
    unfold mixW at h
    cases ho : ops[i]? with
    | none => rw [ho] at h; exact h.elim
    | some o =>
      rw [ho] at h hp
      obtain ⟨v, hy, hK⟩ := yieldsIf_of_quiet (by simpa using hp) h
      exact wpAnyM_first ho (Region.noSelect_spec hsel) (fun _ _ _ h => h) _ S listed a w (Region.free_spec ho hf) (by simpa using hr) hy hS (wpAnyM_of_mix hsel p S _ _ w hB hS hK)
  | .only i p, S, listed, a, w, hB, hS, h => by
    simp only [mixB, Bool.and_eq_true, beq_iff_eq] at hB
    obtain ⟨hr, hB⟩ := hB
    unfold mixW at h
    refine ⟨fun h0 => (by rw [hr] at h0; cases h0), fun j hj => ?_⟩
    rw [hr, List.mem_singleton] at hj
    subst hj
    cases ho : ops[j]? with
    | none => rw [ho] at h; exact h.elim
    | some o =>
      rw [ho] at h
      exact wpOp_mono (fun a' w' ⟨S', h1, h2, h3⟩ => ⟨S', h1, h2, wpAnyM_of_mix hsel p S' _ a' w' hB h2 h3⟩) (wpOp_of_list ho h)
  | .two i k p q, S, listed, a, w, hB, hS, h => by
    simp only [mixB, Bool.and_eq_true, beq_iff_eq] at hB
    obtain ⟨⟨⟨hr, hl⟩, hB1⟩, hB2⟩ := hB
    unfold mixW at h
    refine ⟨fun h0 => (by rw [hr] at h0; cases h0), fun j hj => ?_⟩
    rw [hr] at hj
    rcases List.mem_cons.1 hj with rfl | hj
    · cases ho : ops[j]? with
      | none => rw [ho] at h; exact h.1.elim
      | some o =>
        rw [ho] at h
        exact wpOp_mono (fun a' w' ⟨S', h1, h2, h3⟩ => ⟨S', h1, h2, wpAnyM_of_mix hsel p S' _ a' w' hB1 h2 h3⟩) (wpOp_of_list ho h.1)
    · rw [List.mem_singleton] at hj
      subst hj
      cases ho : ops[j]? with
      | none => rw [ho] at h; exact h.2.elim
      | some o =>
        rw [ho] at h
        show wpOp P ops _ _ (fun a' w' => ∃ S' : World → Prop, (∀ w, S' w → S w) ∧ S' w' ∧ wpAnyM P md ops (OnlyK (Q .normal)) p.len S' _ a' w') a w
        rw [hl]
        exact wpOp_mono (fun a' w' ⟨S', h1, h2, h3⟩ => ⟨S', h1, h2, wpAnyM_of_mix hsel q S' _ a' w' hB2 h2 h3⟩) (wpOp_of_list ho h.2)
/-- A region that draws its order, walked by a plan: the Bool is closed. -/
theorem wp_region_mix {id : Nat} {a : Act} {w : World} {l : List Oper} (p : Plan) (S : World → Prop) (hm : P.follows .mixedOrders = true)
    (hB : (Region.noSelect l.toArray && (p.len == l.length) && mixB .any l.toArray p (Array.replicate l.length false)) = true) (hS : S (w.drewN 1))
    (h : mixW P l.toArray (Q .normal) p S a (w.drewN 1)) : (Code.region id l.toArray true).wp P Q a w := by
  simp only [Bool.and_eq_true, beq_iff_eq] at hB
  obtain ⟨⟨hs, hl⟩, hB⟩ := hB
  refine Code.wp_mono (Q := OnlyK (Q .normal)) onlyK_imp (wp_region_any hm ?_)
  have := wpAny_of_mix _ _ _ _ _ (wpAnyM_of_mix (P := P) (Q := Q) hs p S _ a _ hB hS h)
  rw [hl] at this
  exact this
theorem in_plus {w : World} : (fun v => ∃ e, v = plus w e) w := ⟨⟨#[], w.drawn⟩, by simp [plus]⟩
/-- The same, where all but the plain operations only make memory. -/
theorem wp_region_mixP {id : Nat} {a : Act} {w : World} {l : List Oper} (p : Plan) (hm : P.follows .mixedOrders = true)
    (hB : (Region.noSelect l.toArray && (p.len == l.length) && mixB .any l.toArray p (Array.replicate l.length false)) = true)
    (h : ∀ W, Below w.heap.size w W → mixW P l.toArray (Q .normal) p (fun v => ∃ e, v = plus W e) a W) : (Code.region id l.toArray true).wp P Q a w :=
  wp_region_mix p (fun v => ∃ e, v = plus (w.drewN 1) e) hm hB (in_plus (w := w.drewN 1)) (h _ (below_drewN (Below.refl _ w) 1))
/-- the operation at a place, as the walk reads it -/
def opAt : List Oper → Nat → Option Oper
  | [], _ => none
  | o :: _, 0 => some o
  | _ :: l, n + 1 => opAt l n
theorem opAt_eq : ∀ (l : List Oper) (i : Nat), l.toArray[i]? = opAt l i
  | [], i => by simp [opAt]
  | o :: l, 0 => by simp [opAt]
  | o :: l, n + 1 => by have := opAt_eq l n; simp only [List.getElem?_toArray] at this; simp [opAt, this]
section
variable {l : List Oper} {K : Act → World → Prop} {p q : Plan} {i j : Nat} {o o' : Oper} {a : Act} {w : World}
theorem mix_done (h : K a w) : mixW P l.toArray K .done S a w := h
theorem mix_plain (ho : opAt l i = some o) (h : wpQuiet P l.toArray S (fun a' => mixW P l.toArray K p S a' w) [o] a) : mixW P l.toArray K (.plain i p) S a w := by
  unfold mixW; rw [opAt_eq, ho]; exact h
/-- behind an operation that makes memory alone, the class is what lies behind it -/
theorem mix_only (ho : opAt l i = some o) (h : ∀ K' : Act → World → Prop, (∀ a' w', Below w.heap.size w w' → mixW P l.toArray K p (fun v => ∃ e, v = plus w' e) a' w' → K' a' w') → wpList P l.toArray (OnlyK K') [o] a w) :
    mixW P l.toArray K (.only i p) (fun v => ∃ e, v = plus w e) a w := by
  unfold mixW; rw [opAt_eq, ho]
  refine h _ fun a' w' hb' h' => ⟨_, fun v hv => ?_, in_plus, h'⟩
  obtain ⟨e, rfl⟩ := hv
  exact below_plus (hb'.trans ((plus_below w' e).mono hb'.size))
/-- the same at any class -/
theorem mix_only_in (ho : opAt l i = some o) (h : ∀ K' : Act → World → Prop, (∀ a' w', S w' → mixW P l.toArray K p S a' w' → K' a' w') → wpList P l.toArray (OnlyK K') [o] a w) : mixW P l.toArray K (.only i p) S a w := by
  unfold mixW; rw [opAt_eq, ho]
  exact h _ fun a' w' hS h' => ⟨S, fun _ h => h, hS, h'⟩
theorem mix_two_in (ho : opAt l i = some o) (ho' : opAt l j = some o')
    (h : ∀ K' : Act → World → Prop, (∀ a' w', S w' → mixW P l.toArray K p S a' w' → K' a' w') → wpList P l.toArray (OnlyK K') [o] a w)
    (h' : ∀ K' : Act → World → Prop, (∀ a' w', S w' → mixW P l.toArray K q S a' w' → K' a' w') → wpList P l.toArray (OnlyK K') [o'] a w) :
    mixW P l.toArray K (.two i j p q) S a w := by
  unfold mixW; rw [opAt_eq l i, opAt_eq l j, ho, ho']
  exact ⟨h _ fun a' w' hS h' => ⟨S, fun _ h => h, hS, h'⟩, h' _ fun a' w' hS h' => ⟨S, fun _ h => h, hS, h'⟩⟩
/-- the class at an elder world W; behind the operation it is what lies behind the world at hand -/
theorem mix_only_to {W : World} (ho : opAt l i = some o) (h : ∀ K' : Act → World → Prop, (∀ a' w', Below W.heap.size W w' → mixW P l.toArray K p (fun v => ∃ e, v = plus w' e) a' w' → K' a' w') → wpList P l.toArray (OnlyK K') [o] a w) :
    mixW P l.toArray K (.only i p) (fun v => ∃ e, v = plus W e) a w := by
  unfold mixW; rw [opAt_eq, ho]
  refine h _ fun a' w' hb' h' => ⟨_, fun v hv => ?_, in_plus, h'⟩
  obtain ⟨e, rfl⟩ := hv
  exact below_plus (hb'.trans ((plus_below w' e).mono hb'.size))
theorem mix_two (ho : opAt l i = some o) (ho' : opAt l j = some o')
    (h : ∀ K' : Act → World → Prop, (∀ a' w', Below w.heap.size w w' → mixW P l.toArray K p (fun v => ∃ e, v = plus w' e) a' w' → K' a' w') → wpList P l.toArray (OnlyK K') [o] a w)
    (h' : ∀ K' : Act → World → Prop, (∀ a' w', Below w.heap.size w w' → mixW P l.toArray K q (fun v => ∃ e, v = plus w' e) a' w' → K' a' w') → wpList P l.toArray (OnlyK K') [o'] a w) :
    mixW P l.toArray K (.two i j p q) (fun v => ∃ e, v = plus w e) a w := by
  have h1 := mix_only (p := p) ho h
  have h2 := mix_only (p := q) ho' h'
  unfold mixW at h1 h2 ⊢
  rw [opAt_eq l i, ho] at h1; rw [opAt_eq l j, ho'] at h2
  rw [opAt_eq l i, opAt_eq l j, ho, ho']
  exact ⟨h1, h2⟩
end
end
end Go.Proofs.YteonmcconpfkjaaDoor

/- MIX: an operation whose guard does not hold is skipped. No condition. -/
namespace Go.Proofs.YteonmcconpfkjaaDoor
open Go Go.RowKit
section
variable {P : Program} {S : World → Prop} {l : List Oper} {K : Act → World → Prop} {p q : Plan} {i j : Nat} {o o' : Oper} {a : Act} {w : World}
theorem mix_skip (ho : opAt l i = some o) (hw : Region.wanted o (yielded l.toArray a.tmps) = false) (h : mixW P l.toArray K p S (a.put o.dst undef) w) : mixW P l.toArray K (.plain i p) S a w := by
  refine mix_plain ho ?_
  unfold wpQuiet
  rw [if_neg (by simp [hw])]
  exact h
/-- an operation whose guard holds is walked as one without a guard -/
theorem wpList_unguard {ops : Array Oper} {rest : List Oper} {Q : Exit → Act → World → Prop} (hw : Region.wanted o (yielded ops a.tmps) = true) (h : wpList P ops Q ({ o with guard := none } :: rest) a w) : wpList P ops Q (o :: rest) a w := by
  unfold wpList at h ⊢
  rw [if_pos hw]
  rw [if_pos (by simp [Region.wanted])] at h
  exact h
end
/-- the world at a call, by what is known of it -/
theorem calls_at {P : Program} {f : FuncId} {args : Array Value} {w : World} {R' : Ending → World → Prop} (R : World → Prop) (hR : R w) (h : ∀ W, R W → Calls P f args W R') : Calls P f args w R' := h w hR
theorem wpList_loadW {P : Program} {w : World} {ops : Array Oper} {rest : List Oper} {o : Oper} {a : Act} {Q : Exit → Act → World → Prop} (hw : Region.wanted o (yielded ops a.tmps) = true) (ty : TypeId) (x : Operand) (ho : o.op = .load ty x) (g : Nat) (hx : a.eval x = .pointer (some ⟨g, 0, none⟩)) (t : TypeId) (cs : Array Value) (d : TypeDesc)
    (hg : Blk w g t cs) (hu : P.underlying ty = some d) (hd : (match d with | .struct _ | .array _ _ => true | _ => false) = true) (hi : (P.info? ty).map (·.size) = some cs.size)
    (h : wpList P ops Q rest (a.put o.dst (.agg cs)) w) : wpList P ops Q (o :: rest) a w :=
  wpList_step fun K hK => by
    simp only [hw, if_true]
    unfold Oper.wp execOp
    simp only [ho, hx, Instr.loadAt, Instr.sureAddr, Sem.run_bind, Sem.run_pure, Result.andThen_ok, run_loadVar_row w g t ty cs _ d hg hu hd hi]
    exact hK _ _ h
theorem below_plusN {B : Nat} {W V : World} (h : Hid (B = W.heap.size)) (hb : Below B W V) : ∃ e, V = plus W e := below_plus (h.out ▸ hb)
theorem below_sizeN {B : Nat} {W V : World} (h : Hid (B = W.heap.size)) (hb : Below B W V) : B ≤ V.heap.size := by have := hb.size; have := h.out; omega
end Go.Proofs.YteonmcconpfkjaaDoor

/- A region that draws its order, by a plan, with a forced tail: what stands last (a store, mostly) waits for all else, and is walked in its order behind it. No condition. -/
namespace Go.Proofs.YteonmcconpfkjaaDoor
open Go Go.RowKit
def Never : Exit → Act → World → Prop := fun _ _ _ => False
theorem never_out : ¬ LetsOut Never := fun ⟨_, _, h⟩ => h
section
variable {P : Program} {ops : Array Oper} {md : Region.Mode} {Q : Exit → Act → World → Prop} {S : World → Prop} {n : Nat} {L : Array Bool → Act → World → Prop}
theorem wpOp_never {i : Nat} {K : Act → World → Prop} {a : Act} {w : World} (h : wpOp P ops Never i K a w) : wpOp P ops Q i K a w := by
  unfold wpOp at *
  split
  · rename_i ho; simp only [ho] at h; exact h
  · rename_i o ho
    simp only [ho] at h
    split
    · rename_i hw
      simp only [hw, if_true] at h
      rcases h with h | h
      · refine .inl ?_
        unfold Oper.wp at *
        generalize (execOp a.eval o).run P w = r at *
        cases r with
        | ok n w' =>
          cases n <;> simp only [Oper.upon] at h ⊢ <;>
            first
              | exact h
              | exact Calls.mono h (fun e w'' he => by cases e <;> first | exact he | exact (he : False).elim | exact (never_out he).elim)
              | exact Rows.mono h (fun _ _ he => he)
        | halt x w' => cases x <;> simp only [Oper.upon] at h ⊢ <;> first | exact h | exact (h : False).elim
      · exact (never_out h.2).elim
    · rename_i hw; simp only [hw] at h; exact h
def wpAnyT (P : Program) (md : Region.Mode) (ops : Array Oper) (n : Nat) (L : Array Bool → Act → World → Prop) : Nat → (World → Prop) → Array Bool → Act → World → Prop
  | 0, _, listed, a, w => L listed a w
  | fuel + 1, S, listed, a, w =>
    Region.ready md ops listed ≠ [] ∧
    ∀ i ∈ Region.ready md ops listed, i < n ∧ wpOp P ops Never i (fun a' w' => ∃ S' : World → Prop, (∀ w, S' w → S w) ∧ S' w' ∧ wpAnyT P md ops n L fuel S' (listed.setIfInBounds i true) a' w') a w
theorem wpAny_of_T {g : Nat} (hL : ∀ listed a w, L listed a w → wpAny P md ops Q g listed a w) : ∀ (fuel : Nat) (S : World → Prop) (listed : Array Bool) (a : Act) (w : World), wpAnyT P md ops n L fuel S listed a w → wpAny P md ops Q (fuel + g) listed a w
  | 0, _, _, _, _, h => by rw [Nat.zero_add]; exact hL _ _ _ h
  | fuel + 1, _, _, _, _, h => by
    rw [show fuel + 1 + g = (fuel + g) + 1 by omega]
    exact ⟨fun h0 => absurd h0 h.1, fun i hi => wpOp_never (wpOp_mono (fun a' w' ⟨_, _, _, h'⟩ => wpAny_of_T hL fuel _ _ a' w' h') (h.2 i hi).2)⟩
theorem wpAnyT_first {i : Nat} {oi : Oper} {v : Value} (hi : ops[i]? = some oi) (hsel : ∀ (j : Nat) (o : Oper) cs b, ops[j]? = some o → o.op ≠ .select cs b)
    (hs : Region.sinkB md ops n = true) (hc : Region.chainB md ops n = true) (hn : n < ops.size) (hin : i < n)
    (hdone : ∀ listed a w, L listed a w → ∀ j ∈ Region.ready md ops listed, n ≤ j) :
    ∀ (fuel : Nat) (S : World → Prop) (listed : Array Bool) (a : Act) (w : World), HeadInv md ops n listed →
      (∀ j oj, ops[j]? = some oj → j ≠ i → listed.getD j true = false → (∀ e ∈ oj.after, Region.binds md e = true → e.on ≠ i) → oi.apart ops oj = true) →
      i ∈ Region.ready md ops listed → YieldsIf P ops S oi v a → S w →
      wpAnyT P md ops n L fuel S (listed.setIfInBounds i true) (a.put oi.dst v) w → wpAnyT P md ops n L (fuel + 1) S listed a w := by
  intro fuel
  induction fuel with
  | zero =>
    intro S listed a w inv _ hr hy hS H
    have hun := (mem_ready.1 hr).1
    refine ⟨fun h => (by rw [h] at hr; cases hr), fun j hj => ?_⟩
    have hjn : j < n := by
      rcases Nat.lt_or_ge j n with h | h
      · exact h
      · exact absurd hj (tail_waits hs hc hn inv _ i rfl hin hun j h)
    refine ⟨hjn, ?_⟩
    by_cases hji : j = i
    · subst hji; exact hy.wpOp hi hS ⟨S, fun _ h => h, hS, H⟩
    · have := hdone _ _ _ H j (ready_mono hj hji)
      omega
  | succ fuel ih =>
    intro S listed a w inv hfree hr hy hS H
    have hun := (mem_ready.1 hr).1
    refine ⟨fun h => (by rw [h] at hr; cases hr), fun j hj => ?_⟩
    have hjn : j < n := by
      rcases Nat.lt_or_ge j n with h | h
      · exact h
      · exact absurd hj (tail_waits hs hc hn inv _ i rfl hin hun j h)
    refine ⟨hjn, ?_⟩
    by_cases hji : j = i
    · subst hji; exact hy.wpOp hi hS ⟨S, fun _ h => h, hS, H⟩
    · have h1 := (H.2 j (ready_mono hj hji)).2
      obtain ⟨hjun, oj, hoj, hall⟩ := mem_ready.1 hj
      have hnot : ∀ e ∈ oj.after, Region.binds md e = true → e.on ≠ i := fun e he hb heq => by
        have h1 := hall e he hb
        rw [heq, getD_both hun] at h1
        cases h1
      have h2 := wpOp_putIf hoj (hfree j oj hoj hji hjun hnot) (fun cs b => hsel i oi cs b hi) (fun cs b => hsel j oj cs b hoj) (fun _ _ _ h => h) hy h1
      have hfree' : ∀ k ok, ops[k]? = some ok → k ≠ i → (listed.setIfInBounds j true).getD k true = false →
          (∀ e ∈ ok.after, Region.binds md e = true → e.on ≠ i) → oi.apart ops ok = true := fun k ok hk hki hun hno => by
        refine hfree k ok hk hki ?_ hno
        by_cases hjk : j = k
        · subst hjk; exact hjun
        · rw [getD_set_ne true hjk] at hun; exact hun
      refine wpOp_mono (fun a' w' ⟨h3, S', h4, h5, h6⟩ => ⟨S', h4, h5, ih S' (listed.setIfInBounds j true) a' w' (inv.set hj hjn) hfree' (ready_mono hr (Ne.symm hji)) (yieldsIf_less h3 h4) h5 ?_⟩) h2
      rw [Array.setIfInBounds_comm _ _ hji]
      exact h6
def mixBT (md : Region.Mode) (ops : Array Oper) (n : Nat) : Plan → Array Bool → Bool
  | .done, listed => Region.seqB md ops (ops.size - n) n listed
  | .plain i p, listed => decide (i < n) && Region.free md ops listed i && (Region.ready md ops listed).contains i && ((ops[i]?).map plainOp).getD false && mixBT md ops n p (listed.setIfInBounds i true)
  | .only i p, listed => decide (i < n) && (Region.ready md ops listed == [i]) && mixBT md ops n p (listed.setIfInBounds i true)
  | .two _ _ _ _, _ => false
theorem wpOp_of_listN {i : Nat} {o : Oper} (ho : ops[i]? = some o) {K : Act → World → Prop} {a : Act} {w : World} (h : wpList P ops (OnlyK K) [o] a w) : wpOp P ops Never i K a w := by
  have h1 := wpOp_of_list (Q := fun _ _ _ => False) ho h
  unfold wpOp at *
  simp only [ho] at h1 ⊢
  split
  · rename_i hw
    simp only [hw, if_true] at h1
    rcases h1 with h1 | h1
    · refine .inl ?_
      unfold Oper.wp at *
      generalize (execOp a.eval o).run P w = r at *
      cases r with
      | ok n w' =>
        cases n <;> simp only [Oper.upon] at h1 ⊢ <;>
          first
            | exact h1
            | exact Calls.mono h1 (fun e w'' he => by cases e <;> first | exact he | exact (he : False).elim | exact (onlyK_out he).elim)
            | exact Rows.mono h1 (fun _ _ he => he)
      | halt x w' => cases x <;> simp only [Oper.upon] at h1 ⊢ <;> first | exact h1 | exact (h1 : False).elim
    · exact (onlyK_out h1.2).elim
  · rename_i hw; simp only [hw] at h1; exact h1
theorem wpAnyT_of_mix (hsel : Region.noSelect ops = true) (hs : Region.sinkB md ops n = true) (hc : Region.chainB md ops n = true) (hn : n < ops.size) (K : Act → World → Prop) :
    ∀ (p : Plan) (S : World → Prop) (listed : Array Bool) (a : Act) (w : World), HeadInv md ops n listed → mixBT md ops n p listed = true → S w → mixW P ops K p S a w →
    wpAnyT P md ops n (fun listed a w => Region.seqB md ops (ops.size - n) n listed = true ∧ K a w) p.len S listed a w
  | .done, S, listed, a, w, inv, hB, hS, h => ⟨hB, h⟩
  | .plain i p, S, listed, a, w, inv, hB, hS, h => by
    simp only [mixBT, Bool.and_eq_true, decide_eq_true_eq] at hB
    obtain ⟨⟨⟨⟨hin, hf⟩, hr⟩, hp⟩, hB⟩ := hB
    unfold mixW at h
    cases ho : ops[i]? with
    | none => rw [ho] at h; exact h.elim
    | some o =>
      rw [ho] at h hp
      obtain ⟨v, hy, hK⟩ := yieldsIf_of_quiet (by simpa using hp) h
      have hr' : i ∈ Region.ready md ops listed := by simpa using hr
      exact wpAnyT_first ho (Region.noSelect_spec hsel) hs hc hn hin (fun _ _ _ hL => seqB_ready hL.1) _ S listed a w inv (Region.free_spec ho hf) hr' hy hS (wpAnyT_of_mix hsel hs hc hn K p S _ _ w (inv.set hr' hin) hB hS hK)
  | .only i p, S, listed, a, w, inv, hB, hS, h => by
    simp only [mixBT, Bool.and_eq_true, beq_iff_eq, decide_eq_true_eq] at hB
    obtain ⟨⟨hin, hr⟩, hB⟩ := hB
    unfold mixW at h
    refine ⟨fun h0 => (by rw [hr] at h0; cases h0), fun j hj => ?_⟩
    rw [hr, List.mem_singleton] at hj
    subst hj
    refine ⟨hin, ?_⟩
    cases ho : ops[j]? with
    | none => rw [ho] at h; exact h.elim
    | some o =>
      rw [ho] at h
      exact wpOp_mono (fun a' w' ⟨S', h1, h2, h3⟩ => ⟨S', h1, h2, wpAnyT_of_mix hsel hs hc hn K p S' _ a' w' (inv.set (by rw [hr]; exact List.mem_singleton.2 rfl) hin) hB h2 h3⟩) (wpOp_of_listN ho h)
  | .two _ _ _ _, S, listed, a, w, inv, hB, hS, h => by cases hB
end
/-- The Bool of a region by a plan with a forced tail from place n on. -/
def mixTB (ops : Array Oper) (n : Nat) (p : Plan) : Bool :=
  Region.noSelect ops && decide (n < ops.size) && Region.sinkB .any ops n && Region.chainB .any ops n && (p.len == n) && mixBT .any ops n p (Array.replicate ops.size false)
/-- A region that draws its order, by a plan, then a forced tail; at a class. -/
theorem wp_region_mixS {P : Program} {id : Nat} {Q : Exit → Act → World → Prop} {a : Act} {w : World} {l : List Oper} (n : Nat) (p : Plan) (S : World → Prop) (hm : P.follows .mixedOrders = true) (hB : mixTB l.toArray n p = true)
    (hS : S (w.drewN 1)) (h : mixW P l.toArray (fun a w => wpList P l.toArray Q (l.drop n) a w) p S a (w.drewN 1)) : (Code.region id l.toArray true).wp P Q a w := by
  simp only [mixTB, Bool.and_eq_true, beq_iff_eq, decide_eq_true_eq] at hB
  obtain ⟨⟨⟨⟨⟨hsel, hn⟩, hs⟩, hc⟩, hl⟩, hB⟩ := hB
  have inv0 : HeadInv .any l.toArray n (Array.replicate l.toArray.size false) :=
    ⟨by simp, fun j oj _ hl => (by rw [getD_replicate_false] at hl; cases hl), fun t _ ht => getD_in (by simpa using ht) (getD_replicate_false _ _)⟩
  have hdl : (l.drop n).length = l.toArray.size - n := by simp
  have H := wpAnyT_of_mix (P := P) hsel hs hc hn _ p S _ a (w.drewN 1) inv0 hB hS h
  refine wp_region_any hm ?_
  have := wpAny_of_T (Q := Q) (g := l.toArray.size - n) (fun listed a' w' hL => by
    have := wpAny_of_seq (md := .any) (Q' := Q) (l.drop n) n listed a' w' (fun j => by simp [List.getElem?_drop]) (by rw [hdl]; exact hL.1) hL.2
    rwa [hdl] at this) _ _ _ _ _ H
  rw [hl, show n + (l.toArray.size - n) = l.toArray.size by omega] at this
  exact this
/-- A region that draws its order, by a plan, then a forced tail. -/
theorem wp_region_mixT {P : Program} {id : Nat} {Q : Exit → Act → World → Prop} {a : Act} {w : World} {l : List Oper} (n : Nat) (p : Plan) (hm : P.follows .mixedOrders = true) (hB : mixTB l.toArray n p = true)
    (h : ∀ W, Below w.heap.size w W → mixW P l.toArray (fun a w => wpList P l.toArray Q (l.drop n) a w) p (fun v => ∃ e, v = plus W e) a W) : (Code.region id l.toArray true).wp P Q a w :=
  wp_region_mixS n p _ hm hB (in_plus (w := w.drewN 1)) (h (w.drewN 1) (below_drewN (Below.refl _ w) 1))
end Go.Proofs.YteonmcconpfkjaaDoor

/- Cuts of slices whose elements are one cell each: the value under one name, in a quiet walk and in a forced one; what a cut of bytes reads. No condition. -/
namespace Go.Proofs.YteonmcconpfkjaaDoor
open Go Go.RowKit
/-- a cut, as the model makes it -/
def cutV (A : Option Addr) (cap lo hi : Nat) : Value := .slice (if cap = lo then A else A.map (·.add lo)) (hi - lo) (cap - lo)
section
variable {P : Program} {t e : TypeId} {A : Option Addr} {len cap : Nat}
theorem run_cut_lh (ht : P.underlying t = some (.slice e)) (hs : (P.info? e).map (·.size) = some 1) (lo hi : Nat) (h1 : lo ≤ hi) (h2 : hi ≤ cap) (w : World) :
    (Instr.sliceAt t (.slice A len cap) (some (.int .i64 lo)) (some (.int .i64 hi)) none).run P w = .ok (cutV A cap lo hi) w := by
  obtain ⟨i, hi1, hi2⟩ : ∃ i, P.info? e = some i ∧ i.size = 1 := by
    cases hq : P.info? e with
    | none => rw [hq] at hs; cases hs
    | some i => rw [hq] at hs; exact ⟨i, rfl, by simpa using hs⟩
  have a1 : (lo : Int) ≤ (hi : Int) := by omega
  have a2 : (hi : Int) ≤ (cap : Int) := by omega
  simp [Instr.sliceAt, Instr.slice, run_underlying ht, Instr.sliceBounds, run_sliceBound, cutV, hi1, hi2, sizeOf, typeInfo, a1, a2]
theorem run_cut_l (ht : P.underlying t = some (.slice e)) (hs : (P.info? e).map (·.size) = some 1) (lo : Nat) (h1 : lo ≤ len) (w : World) :
    (Instr.sliceAt t (.slice A len cap) (some (.int .i64 lo)) none none).run P w = .ok (cutV A cap lo len) w := by
  obtain ⟨i, hi1, hi2⟩ : ∃ i, P.info? e = some i ∧ i.size = 1 := by
    cases hq : P.info? e with
    | none => rw [hq] at hs; cases hs
    | some i => rw [hq] at hs; exact ⟨i, rfl, by simpa using hs⟩
  have a1 : (lo : Int) ≤ (len : Int) := by omega
  simp [Instr.sliceAt, Instr.slice, run_underlying ht, Instr.sliceBounds, run_sliceBound, cutV, hi1, hi2, sizeOf, typeInfo, a1]
section
variable {ops : Array Oper} {C : World → Prop} {K : Act → Prop} {a : Act} {o : Oper} {rest : List Oper}
theorem wpQuiet_cutLH (hw : Region.wanted o (yielded ops a.tmps) = true) (t : TypeId) (x l h : Operand) (ho : o.op = .slice t x (some l) (some h) none) (e : TypeId) (ht : P.underlying t = some (.slice e)) (hs : (P.info? e).map (·.size) = some 1)
    (A : Option Addr) (len cap lo hi : Nat) (hx : a.eval x = .slice A len cap) (hl : a.eval l = .int .i64 lo) (hh : a.eval h = .int .i64 hi) (h1 : lo ≤ hi) (h2 : hi ≤ cap)
    (hk : wpQuiet P ops C K rest (a.put o.dst (cutV A cap lo hi))) : wpQuiet P ops C K (o :: rest) a :=
  wpQuiet_wanted hw _ (fun w _ => by
    unfold Oper.quietAt execOp
    simp only [ho, Option.map_some, Option.map_none, hx, hl, hh, Sem.run_bind, run_cut_lh ht hs lo hi h1 h2, Result.andThen_ok, Sem.run_pure]
    exact ⟨rfl, rfl⟩) hk
theorem wpQuiet_cutL (hw : Region.wanted o (yielded ops a.tmps) = true) (t : TypeId) (x l : Operand) (ho : o.op = .slice t x (some l) none none) (e : TypeId) (ht : P.underlying t = some (.slice e)) (hs : (P.info? e).map (·.size) = some 1)
    (A : Option Addr) (len cap lo : Nat) (hx : a.eval x = .slice A len cap) (hl : a.eval l = .int .i64 lo) (h1 : lo ≤ len)
    (hk : wpQuiet P ops C K rest (a.put o.dst (cutV A cap lo len))) : wpQuiet P ops C K (o :: rest) a :=
  wpQuiet_wanted hw _ (fun w _ => by
    unfold Oper.quietAt execOp
    simp only [ho, Option.map_some, Option.map_none, hx, hl, Sem.run_bind, run_cut_l ht hs lo h1, Result.andThen_ok, Sem.run_pure]
    exact ⟨rfl, rfl⟩) hk
theorem wpList_cutLH {w : World} {Q : Exit → Act → World → Prop} (hg : o.guard = none) (t : TypeId) (x l h : Operand) (ho : o.op = .slice t x (some l) (some h) none) (e : TypeId) (ht : P.underlying t = some (.slice e)) (hs : (P.info? e).map (·.size) = some 1)
    (A : Option Addr) (len cap lo hi : Nat) (hx : a.eval x = .slice A len cap) (hl : a.eval l = .int .i64 lo) (hh : a.eval h = .int .i64 hi) (h1 : lo ≤ hi) (h2 : hi ≤ cap)
    (hk : wpList P ops Q rest (a.put o.dst (cutV A cap lo hi)) w) : wpList P ops Q (o :: rest) a w :=
  wpList_plain hg fun K hK => by
    unfold Oper.wp execOp
    simp only [ho, Option.map_some, Option.map_none, hx, hl, hh, Sem.run_bind, run_cut_lh ht hs lo hi h1 h2, Result.andThen_ok, Sem.run_pure]
    exact hK _ _ hk
theorem wpList_cutL {w : World} {Q : Exit → Act → World → Prop} (hg : o.guard = none) (t : TypeId) (x l : Operand) (ho : o.op = .slice t x (some l) none none) (e : TypeId) (ht : P.underlying t = some (.slice e)) (hs : (P.info? e).map (·.size) = some 1)
    (A : Option Addr) (len cap lo : Nat) (hx : a.eval x = .slice A len cap) (hl : a.eval l = .int .i64 lo) (h1 : lo ≤ len)
    (hk : wpList P ops Q rest (a.put o.dst (cutV A cap lo len)) w) : wpList P ops Q (o :: rest) a w :=
  wpList_plain hg fun K hK => by
    unfold Oper.wp execOp
    simp only [ho, Option.map_some, Option.map_none, hx, hl, Sem.run_bind, run_cut_l ht hs lo h1, Result.andThen_ok, Sem.run_pure]
    exact hK _ _ hk
end
end
theorem wpQuiet_nilCheck {P : Program} {ops : Array Oper} {C : World → Prop} {K : Act → Prop} {a : Act} {o : Oper} {rest : List Oper} (hw : Region.wanted o (yielded ops a.tmps) = true) (x : Operand) (ho : o.op = .nilCheck x) (p : Addr) (hx : a.eval x = .pointer (some p))
    (hk : wpQuiet P ops C K rest (a.put o.dst (.pointer (some p)))) : wpQuiet P ops C K (o :: rest) a :=
  wpQuiet_wanted hw _ (fun w _ => by
    unfold Oper.quietAt execOp
    simp only [ho, hx, Sem.run_pure]
    exact ⟨rfl, rfl⟩) hk
/-- a cell is read, at any class that tells it -/
theorem wpQuiet_load1 {P : Program} {ops : Array Oper} {C : World → Prop} {K : Act → Prop} {a : Act} {o : Oper} {rest : List Oper} (hw : Region.wanted o (yielded ops a.tmps) = true) (ty : TypeId) (x : Operand) (ho : o.op = .load ty x) (p : Addr) (hx : a.eval x = .pointer (some p))
    (d : TypeDesc) (hu : P.underlying ty = some d) (hd : (match d with | .struct _ | .array _ _ => false | _ => true) = true) (v : Value) (hS : ∀ w, C w → w.cell? p = some v)
    (hk : wpQuiet P ops C K rest (a.put o.dst v)) : wpQuiet P ops C K (o :: rest) a :=
  wpQuiet_wanted hw _ (fun w hC => by
    have hc := hS w hC
    unfold Oper.quietAt execOp
    have ha : (isAgg ty).run P w = .ok false w := by
      cases d <;> simp_all [isAgg, run_underlying hu]
    simp only [ho, hx, Instr.loadAt, Instr.sureAddr, Sem.run_bind, Sem.run_pure, Result.andThen_ok, loadVar, ha]
    simp [hc, Oper.quietUpon]) hk
theorem cut_b {w : World} {B : Nat} {A : Option Addr} {len cap : Nat} {bs : List UInt8} (h : BSl w B (.slice A len cap) bs) (lo hi : Nat) (h1 : lo ≤ hi) (h2 : hi ≤ len) : BSl w B (cutV A cap lo hi) ((bs.take hi).drop lo) := by
  obtain ⟨A', cap', e1, hc1, hc2, hr⟩ := h
  injection e1 with e1 e2 e3
  subst e1; subst e3
  have hl : ((bs.take hi).drop lo).length = hi - lo := by simp; omega
  refine ⟨_, cap - lo, by unfold cutV; rw [hl], by omega, by omega, ?_⟩
  have := (hr.take hi).cut (k := lo) (cap := cap) (by simp; omega) (by simp; omega)
  rw [← List.map_take, ← List.map_drop] at this
  exact this
/-- the head of a slice of bytes -/
theorem head_b {w : World} {B : Nat} {A : Option Addr} {len cap : Nat} {bs : List UInt8} (h : BSl w B (.slice A len cap) bs) (hi : Nat) (h2 : hi ≤ len) : BSl w B (.slice A hi cap) (bs.take hi) := by
  obtain ⟨A', cap', e1, hc1, hc2, hr⟩ := h
  injection e1 with e1 e2 e3
  subst e1; subst e3
  have hl : (bs.take hi).length = hi := by simp; omega
  refine ⟨_, cap, by rw [hl], by omega, by omega, ?_⟩
  have := hr.take hi
  rw [← List.map_take] at this
  exact this
theorem take_b {w : World} {B : Nat} {A : Option Addr} {cap : Nat} {bs : List UInt8} (h : BSl w B (.slice A bs.length cap) bs) (k : Nat) : BSl w B (.slice A (bs.take k).length cap) (bs.take k) := by
  obtain ⟨A', cap', e1, hc1, hc2, hr⟩ := h
  injection e1 with e1 e2 e3
  subst e1; subst e3
  refine ⟨_, cap, rfl, by rw [List.length_take]; omega, hc2, ?_⟩
  rw [List.map_take]; exact hr.take k
/-- the world behind a point of a walk by plan -/
theorem mix_at {P : Program} {ops : Array Oper} {K : Act → World → Prop} {p : Plan} {a : Act} {w : World} (R : World → Prop) (hR : R w) (h : ∀ W, R W → mixW P ops K p (fun v => ∃ e, v = plus W e) a W) : mixW P ops K p (fun v => ∃ e, v = plus w e) a w := h w hR
end Go.Proofs.YteonmcconpfkjaaDoor

/- The walks of merkle's cut, sum, Leaf and Node. No condition. -/
namespace Go.Proofs.YteonmcconpfkjaaDoor
open Go.RowKit
attribute [local irreducible] mixW
attribute [local go_sem] n8_lo n8_hi n64_lo n64_hi n32_lo n32_hi
/-- a width that may be -/
def cutW (w : Int) : Nat := if w < 1 ∨ 32 < w then 32 else w.toNat
theorem cutW_lo (w : Int) : 1 ≤ cutW w := by unfold cutW; split <;> omega
theorem cutW_hi (w : Int) : cutW w ≤ 32 := by unfold cutW; split <;> omega
theorem cutm_any (x : Int) (w : World) : Calls Tryd.prog 163 #[.int .i64 x] w fun e w' => e = .returned (.int .i64 (cutW x)) ∧ w = w' := by
  by_cases h1 : x < 1
  · have Hd := Lib.hid (show cutW x = 32 from if_pos (.inl h1))
    go_enter Tryd.func163, Tryd.ntmps163
    go_wp2
    go_ret
    exact ⟨by rw [Hd.out]; rfl, rfl⟩
  · by_cases h2 : 32 < x
    · have Hd := Lib.hid (show cutW x = 32 from if_pos (.inr h2))
      go_enter Tryd.func163, Tryd.ntmps163
      go_wp2
      go_ret
      exact ⟨by rw [Hd.out]; rfl, rfl⟩
    · have h3 : (cutW x : Int) = x := by unfold cutW; rw [if_neg (by omega)]; omega
      have Hd := Lib.hid h3
      clear h3
      go_enter Tryd.func163, Tryd.ntmps163
      go_wp2
      go_ret
      exact ⟨by rw [Hd.out]; rfl, rfl⟩
/-- a text's hash, cut -/
def sumM (n : Nat) (b : List UInt8) : List UInt8 := cutL (sha b) (n : Int)
theorem sumM_length (n : Nat) (b : List UInt8) : (sumM n b).length = 32 := cutL_length _ _ (sha_length b)
def leafM (n : Nat) (b : List UInt8) : List UInt8 := sumM n (0 :: b)
def nodeM (n : Nat) (x y : List UInt8) : List UInt8 := sumM n (1 :: (x.take n ++ y.take n))
set_option maxRecDepth 100000 in
theorem msum_any (x : Int) (v : Value) (b : List UInt8) (w : World) (hv : BSl w w.heap.size v b) (hl : b.length ≤ 140737488355264) (hG : Glob w) :
    Calls Tryd.prog 156 #[.int .i64 x, v] w fun e w' => e = .returned (.agg (dat (sumM (cutW x) b))) ∧ Below w.heap.size w w' := by
  have hD := Blk.new w 43 (arr 32 fun _ => 0)
  have hb0 := below_new1 w (Obj.cells (arr 32 fun _ => 0) 43)
  go_enter Tryd.func156, Tryd.ntmps156
  go_wp2_with fail
  refine calls_at (fun W => Blk W w.heap.size 43 (arr 32 fun _ => 0) ∧ Below w.heap.size w W) ⟨hD, hb0⟩ ?_
  clear hD hb0
  rintro W ⟨hD, hbel⟩
  refine (sum_b v b W (hv.next hbel) (by omega) (hG.next hbel)).mono ?_
  rintro e w1 ⟨rfl, hb1⟩
  replace hD := hD.below hb1 hD.lt
  replace hbel := hbel.trans (hb1.mono hbel.size)
  clear hb1
  go_wp2_with fail
  refine (cutm_any x w1).mono ?_
  rintro e _ ⟨rfl, rfl⟩
  go_wp2_with fail
  refine (cut_any (sha b) (sha_length b) (cutW x) w1).mono ?_
  rintro e w2 ⟨rfl, hb1⟩
  replace hD := hD.below hb1 hD.lt
  replace hbel := hbel.trans (hb1.mono hbel.size)
  clear hb1
  go_wp2_with (first
    | (refine wpList_storeDat rfl rfl 43 (.tmp 4) (.tmp 9) rfl w.heap.size rfl _ _ rfl _ hD (by kernel_rfl) ?_; intro w10 hD10 hon10))
  have hb10 := below_only hbel hon10 (Nat.le_refl _) hbel.size
  exact bodyPost_ret (results_cell_row (p := 4) (ty := 43) rfl _ _ w.heap.size _ _ _ _ rfl hD10 Tryd.underlying43 rfl (by rw [dat_size]; kernel_rfl)) rfl ⟨rfl, hb10⟩
set_option maxRecDepth 100000 in
theorem mleaf_any (x : Int) (v : Value) (b : List UInt8) (w : World) (hv : BSl w w.heap.size v b) (hl : b.length ≤ 140737488355200) (hG : Glob w) :
    Calls Tryd.prog 107 #[.int .i64 x, v] w fun e w' => e = .returned (.agg (dat (leafM (cutW x) b))) ∧ Below w.heap.size w w' := by
  obtain ⟨A, c, rfl, h1, h2, hrd⟩ := hv
  have hv : BSl w w.heap.size (.slice A b.length c) b := ⟨A, c, rfl, h1, h2, hrd⟩
  clear hrd h1 h2
  obtain ⟨m, hm⟩ : ∃ m, b.length = m := ⟨_, rfl⟩
  have Hm := Lib.hid hm
  rw [hm] at hv hl ⊢
  clear hm
  have hD := (Blk.new w 43 (arr 32 fun _ => 0)).alloc (Obj.cells #[.int .u8 0] 5)
  have hK := Blk.new2 w (Obj.cells (arr 32 fun _ => 0) 43) 5 #[.int .u8 0]
  have hb2 := (below_new1 w (Obj.cells (arr 32 fun _ => 0) 43)).alloc (by simp) (Obj.cells #[.int .u8 0] 5)
  have hS0 := Blk.new3 w (Obj.cells (arr 32 fun _ => 0) 43) (Obj.cells #[.int .u8 0] 5) 22 #[.slice (some ⟨w.heap.size + 1, 0, none⟩) 1 1, .slice A m c]
  have hD3 := hD.alloc (Obj.cells #[.slice (some ⟨w.heap.size + 1, 0, none⟩) 1 1, .slice A m c] 22)
  have hK3 := hK.alloc (Obj.cells #[.slice (some ⟨w.heap.size + 1, 0, none⟩) 1 1, .slice A m c] 22)
  have hb3 := hb2.alloc hb2.size (Obj.cells #[.slice (some ⟨w.heap.size + 1, 0, none⟩) 1 1, .slice A m c] 22)
  clear hD hK hb2
  go_enter Tryd.func107, Tryd.ntmps107
  go_wp2_with fail
  refine calls_at (fun W => Blk W w.heap.size 43 (arr 32 fun _ => 0) ∧ Blk W (w.heap.size + 1) 5 #[.int .u8 0] ∧ Blk W (w.heap.size + 2) 22 #[.slice (some ⟨w.heap.size + 1, 0, none⟩) 1 1, .slice A m c] ∧ Below w.heap.size w W) ⟨hD3, hK3, hS0, hb3⟩ ?_
  clear hD3 hK3 hS0 hb3
  rintro W ⟨hD, hK, hS, hbel⟩
  have hk : BSl W W.heap.size (.slice (some ⟨w.heap.size + 1, 0, none⟩) 1 1) [0] := ⟨_, 1, rfl, by decide, by decide, (by have h0 := Reads.of_blk hK hK.lt 0; simpa using h0 : Reads W W.heap.size (some ⟨w.heap.size + 1, 0, none⟩) [Value.int .u8 0])⟩
  have hSS := SSl.two hS _ hS.lt hk (hv.next hbel)
  refine (join_any _ _ W hSS (by have := Hm.out; simp; omega)).mono ?_
  rintro e w1 ⟨u, rfl, hown, hb1⟩
  have hfl : ([[(0 : UInt8)], b] : List (List UInt8)).flatten = 0 :: b := by simp
  rw [hfl] at hown
  have hB := BSl.of_own hown
  replace hD := hD.below hb1 hD.lt
  replace hbel := hbel.trans (hb1.mono hbel.size)
  clear hb1 hown hS hK hk hSS hfl
  go_wp2_with fail
  refine (msum_any x u (0 :: b) w1 hB (by have := Hm.out; simp; omega) (hG.next hbel)).mono ?_
  rintro e w2 ⟨rfl, hb1⟩
  replace hD := hD.below hb1 hD.lt
  replace hbel := hbel.trans (hb1.mono hbel.size)
  clear hb1 hB
  go_wp2_with (first
    | (refine wpList_storeDat rfl rfl 43 (.tmp 4) (.tmp 10) rfl w.heap.size rfl _ _ rfl _ hD (by kernel_rfl) ?_; intro w10 hD10 hon10))
  have hb10 := below_only hbel hon10 (Nat.le_refl _) hbel.size
  exact bodyPost_ret (results_cell_row (p := 4) (ty := 43) rfl _ _ w.heap.size _ _ _ _ rfl hD10 Tryd.underlying43 rfl (by rw [dat_size]; kernel_rfl)) rfl ⟨rfl, hb10⟩
theorem dat_take {w : World} {g n : Nat} {d : List UInt8} (h : Blk w g 43 (dat d)) (hl : d.length = 32) (hn : n ≤ 32) : BSl w w.heap.size (.slice (some ⟨g, 0, none⟩) n 32) (d.take n) :=
  head_b (BSl.of_dat h w.heap.size h.lt hl) n hn
set_option maxHeartbeats 400000 in
set_option maxRecDepth 100000 in
theorem mnode_any (x : Int) (p q : List UInt8) (hp : p.length = 32) (hq : q.length = 32) (w : World) (hG : Glob w) :
    Calls Tryd.prog 120 #[.int .i64 x, .agg (dat p), .agg (dat q)] w fun e w' => e = .returned (.agg (dat (nodeM (cutW x) p q))) ∧ Below w.heap.size w w' := by
  have hP := ((Blk.new w 43 (dat p)).alloc (Obj.cells (dat q) 43)).alloc (Obj.cells (arr 32 fun _ => 0) 43)
  have hQ := (Blk.new2 w (Obj.cells (dat p) 43) 43 (dat q)).alloc (Obj.cells (arr 32 fun _ => 0) 43)
  have hD := Blk.new3 w (Obj.cells (dat p) 43) (Obj.cells (dat q) 43) 43 (arr 32 fun _ => 0)
  have hb3 := below_new3 w (Obj.cells (dat p) 43) (Obj.cells (dat q) 43) (Obj.cells (arr 32 fun _ => 0) 43)
  have Hp := Lib.hid hp
  have Hq := Lib.hid hq
  clear hp hq
  go_enter Tryd.func120, Tryd.ntmps120
  go_wp2_with fail
  refine calls_at (fun W => Blk W w.heap.size 43 (dat p) ∧ Blk W (w.heap.size + 1) 43 (dat q) ∧ Blk W (w.heap.size + 2) 43 (arr 32 fun _ => 0) ∧ Below w.heap.size w W) ⟨hP, hQ, hD, hb3⟩ ?_
  clear hP hQ hD hb3
  rintro W ⟨hP, hQ, hD, hbel⟩
  refine (cutm_any x W).mono ?_
  rintro e _ ⟨rfl, rfl⟩
  have hn1 := cutW_lo x
  have hn2 := cutW_hi x
  obtain ⟨n, hn⟩ : ∃ n, cutW x = n := ⟨_, rfl⟩
  rw [hn] at hn1 hn2 ⊢
  have Hn := Lib.hid hn
  clear hn
  go_wp2_with fail
  have i1 : (n : Int) ≤ 32 := by omega
  refine wp_region_mixT 9 (.plain 0 <| .plain 2 <| .plain 3 <| .plain 4 <| .plain 5 <| .only 1 <| .only 6 <| .only 7 <| .only 8 <| .done) (by kernel_rfl) (by kernel_rfl) (fun W1 hb1 => ?_)
  replace hP := hP.below hb1 hP.lt
  replace hQ := hQ.below hb1 hQ.lt
  replace hD := hD.below hb1 hD.lt
  replace hbel := hbel.trans (hb1.mono hbel.size)
  clear hb1
  iterate 5 (refine mix_plain rfl ?_; go_big_quiet_step (fail); refine wpQuiet_nil ?_)
  refine mix_only rfl (fun K hK => ?_)
  go_wp2_with fail
  refine hK _ _ (below_new1 W1 _) ?_
  clear hK K
  have hb1 := below_new1 W1 (Obj.cells #[.int .u8 1] 5)
  refine mix_at (fun W => Blk W W1.heap.size 5 #[.int .u8 1] ∧ Blk W w.heap.size 43 (dat p) ∧ Blk W (w.heap.size + 1) 43 (dat q) ∧ Blk W (w.heap.size + 2) 43 (arr 32 fun _ => 0) ∧ Below w.heap.size w W) ⟨Blk.new W1 5 #[.int .u8 1], hP.below hb1 hP.lt, hQ.below hb1 hQ.lt, hD.below hb1 hD.lt, hbel.trans (hb1.mono hbel.size)⟩ ?_
  clear hb1 hP hQ hD hbel
  rintro W2 ⟨hK1, hP, hQ, hD, hbel⟩
  generalize W1.heap.size = g1 at hK1 ⊢
  refine mix_only rfl (fun K hK => ?_)
  go_wp2_with fail
  refine hK _ _ (below_new1 W2 _) ?_
  clear hK K
  have hb1 := below_new1 W2 (Obj.cells #[.slice (some ⟨g1, 0, none⟩) 1 1, .slice (some ⟨w.heap.size, 0, none⟩) n 32, .slice (some ⟨w.heap.size + 1, 0, none⟩) n 32] 22)
  refine mix_at (fun W => Blk W W2.heap.size 22 #[.slice (some ⟨g1, 0, none⟩) 1 1, .slice (some ⟨w.heap.size, 0, none⟩) n 32, .slice (some ⟨w.heap.size + 1, 0, none⟩) n 32] ∧ Blk W g1 5 #[.int .u8 1] ∧ Blk W w.heap.size 43 (dat p) ∧ Blk W (w.heap.size + 1) 43 (dat q) ∧ Blk W (w.heap.size + 2) 43 (arr 32 fun _ => 0) ∧ Below w.heap.size w W) ⟨Blk.new W2 _ _, hK1.below hb1 hK1.lt, hP.below hb1 hP.lt, hQ.below hb1 hQ.lt, hD.below hb1 hD.lt, hbel.trans (hb1.mono hbel.size)⟩ ?_
  clear hb1 hK1 hP hQ hD hbel
  rintro W3 ⟨hS, hK1, hP, hQ, hD, hbel⟩
  generalize W2.heap.size = g2 at hS ⊢
  have hk : BSl W3 W3.heap.size (.slice (some ⟨g1, 0, none⟩) 1 1) [1] := ⟨_, 1, rfl, by decide, by decide, (by have h0 := Reads.of_blk hK1 hK1.lt 0; simpa using h0 : Reads W3 W3.heap.size (some ⟨g1, 0, none⟩) [Value.int .u8 1])⟩
  have hSS := SSl.three hS _ hS.lt hk (dat_take hP Hp.out hn2) (dat_take hQ Hq.out hn2)
  have hll : (p.take n).length ≤ 32 ∧ (q.take n).length ≤ 32 := by rw [List.length_take, List.length_take]; omega
  refine mix_only rfl (fun K hK => ?_)
  go_wp2_with fail
  refine (join_any _ _ W3 hSS (by simp only [List.flatten_cons, List.flatten_nil, List.append_nil, List.length_append, List.length_cons, List.length_nil]; omega)).mono ?_
  rintro e W4 ⟨u, rfl, hown, hb1⟩
  have hfl : ([[(1 : UInt8)], p.take n, q.take n] : List (List UInt8)).flatten = 1 :: (p.take n ++ q.take n) := by simp
  rw [hfl] at hown
  have hB := BSl.of_own hown
  go_wp2_with fail
  refine hK _ _ hb1 ?_
  clear hK K hown hfl
  replace hD := hD.below hb1 hD.lt
  replace hbel := hbel.trans (hb1.mono hbel.size)
  clear hb1 hS hK1 hP hQ hk hSS
  refine mix_only rfl (fun K hK => ?_)
  go_wp2_with fail
  refine (msum_any x u _ W4 hB (by simp only [List.length_cons, List.length_append]; omega) (hG.next hbel)).mono ?_
  rintro e W5 ⟨rfl, hb1⟩
  go_wp2_with fail
  refine hK _ _ hb1 ?_
  clear hK K
  replace hD := hD.below hb1 hD.lt
  replace hbel := hbel.trans (hb1.mono hbel.size)
  clear hb1 hB
  refine mix_done ?_
  simp only [List.drop_succ_cons, List.drop_zero]
  refine wpList_storeDat rfl rfl 43 (.tmp 6) (.tmp 18) rfl (w.heap.size + 2) rfl _ _ rfl _ hD (by kernel_rfl) ?_
  intro w10 hD10 hon10
  have hb10 := below_only hbel hon10 (by omega) hbel.size
  go_wp2
  refine bodyPost_ret (results_cell_row (p := 6) (ty := 43) rfl _ _ (w.heap.size + 2) _ _ _ _ rfl hD10 Tryd.underlying43 rfl (by rw [dat_size]; kernel_rfl)) rfl ⟨?_, hb10⟩
  rw [Hn.out]; rfl
end Go.Proofs.YteonmcconpfkjaaDoor
