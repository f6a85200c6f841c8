/- Texts that stand behind one another: RefGa, OwnT, Mix, MixS, Cut. No condition. -/
import Derived.Test.YtcgbokgedfekkaaDoorU10
import Derived.Test.YtcgbokgedfekkaaDoorU7
import Derived.OrdersHeld
/- Rows of the call's own: append of bytes; rows that are apart. No condition. -/
namespace Go.Proofs.YtcgbokgedfekkaaDoor
open Go.RowKit
/-- append of one byte, out of a slice literal, onto a row of the call's own -/
theorem wpList_append1 {wr : World} {ops : Array Oper} {rest : List Oper} {o : Oper} {a : Act} {Q : Exit → Act → World → Prop} (hgd : o.guard = none) (s x : Operand)
    (ho : o.op = .call { callee := .builtin .append, args := #[s, x], argTypes := #[46, 46] })
    (base : Nat) (v : Value) (xs : List Value) (hs : a.eval s = v) (hown : wr.ownsRow base 5 1 v xs.length xs) (u : Value) (hu : u.oneCell' = true)
    (hx : a.eval x = .slice (some ⟨wr.heap.size, 0, none⟩) 1 1) (hlen : xs.length + 1 ≤ 140737488355328) (hbase : base ≤ wr.heap.size) (w0 : World) (hbel : Below base w0 wr)
    (h : ∀ v' w', w'.ownsRow base 5 1 v' (xs ++ [u]).length (xs ++ [u]) → Below base w0 w' → wpList Tryd.prog ops Q rest (a.put o.dst v') w') :
    wpList Tryd.prog ops Q (o :: rest) a (wr.alloc (Obj.cells #[u] 5)) := by
  obtain ⟨i0, hi, hz0, hz1, hz2⟩ := info_parts (by kernel_rfl : (Tryd.prog.info? 5).map (fun i => (i.zero, i.size, i.bytes)) = some (some (.int .u8 0), 1, 1))
  have hbt : base ≤ (wr.alloc (Obj.cells #[u] 5)).heap.size := Nat.le_trans hbase (below_new1 wr _).size
  refine wpList_appendR hgd s x _ ho base 5 i0 _ 1 Tryd.underlying46 hi hz0 hz1 hz2 rfl v xs hs (own_below hown (below_new1 wr _)) (wr.heap.size + 1) (some ⟨wr.heap.size, 0, none⟩) 1 1 [u] hx (show Reads (wr.alloc (Obj.cells #[u] 5)) (wr.heap.size + 1) (some ⟨wr.heap.size, 0, none⟩) [u] from Reads.of_blk (Blk.new wr 5 #[u]) (by omega) 0) rfl (fun u' hu' => by rw [List.mem_singleton] at hu'; subst hu'; exact hu) (by unfold maxLen; omega) (by omega) hbt ?_
  intro v' w' hown' hg hat
  exact h v' w' hown' (below_own (hbel.trans ((below_new1 wr _).mono hbase)) (own_below hown (below_new1 wr _)) hg hbt)
theorem own_grown {w w' : World} {base : Nat} {e : TypeId} {size n : Nat} {v : Value} {xs : List Value} {row : Option Nat} (h : w.ownsRow base e size v n xs) (hg : w.grownBy w' row) (hne : ∀ g, v.ownBlock = some g → row ≠ some g) : w'.ownsRow base e size v n xs := by
  refine ⟨h.1, ?_⟩
  rcases h.2 with h0 | ⟨g, cap, cur, hv, hbs, hh, hrest⟩
  · exact .inl h0
  · exact .inr ⟨g, cap, cur, hv, hbs, Blk.grown (show Blk w g e cur from hh) hg (hne g (by rw [hv]; rfl)).symm, hrest⟩
theorem own_lt {w : World} {base : Nat} {e : TypeId} {size n : Nat} {v : Value} {xs : List Value} (h : w.ownsRow base e size v n xs) : ∀ g, v.ownBlock = some g → g < w.heap.size := by
  intro g hg
  rcases h.2 with ⟨rfl, _⟩ | ⟨g', cap, cur, hv, hbs, hh, hrest⟩
  · cases hg
  · rw [hv] at hg; cases hg; exact Blk.lt (show Blk w g' e cur from hh)
/-- two rows lie apart -/
def Apart (u v : Value) : Prop := ∀ g, u.ownBlock = some g → v.ownBlock ≠ some g
theorem Apart.symm {u v : Value} (h : Apart u v) : Apart v u := fun g h1 h2 => h g h2 h1
theorem own_cell {w : World} {base g off n cap m : Nat} {e : TypeId} {xs : List Value} (h : w.ownsRow base e 1 (.slice (some ⟨g, off, none⟩) n cap) m xs) (j : Nat) (u : Value) (hj : xs[j]? = some u) : w.cell? ⟨g, off + j, none⟩ = some u := by
  obtain ⟨A, c, he, _, _, hr⟩ := Reads.own h
  injection he with he _ _
  subst he
  obtain ⟨b, o, he2, _, hc⟩ := hr (by cases xs with | nil => simp at hj | cons a l => simp)
  injection he2 with he2
  injection he2 with e1 e2 _
  subst e1; subst e2
  exact hc j u hj
/-- append of one byte, with what it leaves of the other rows -/
theorem wpList_append1D {wr : World} {ops : Array Oper} {rest : List Oper} {o : Oper} {a : Act} {Q : Exit → Act → World → Prop} (hgd : o.guard = none) (s x : Operand)
    (ho : o.op = .call { callee := .builtin .append, args := #[s, x], argTypes := #[46, 46] })
    (base : Nat) (v : Value) (xs : List Value) (hs : a.eval s = v) (hown : wr.ownsRow base 5 1 v xs.length xs) (u : Value) (hu : u.oneCell' = true)
    (hx : a.eval x = .slice (some ⟨wr.heap.size, 0, none⟩) 1 1) (hlen : xs.length + 1 ≤ 140737488355328) (hbase : base ≤ wr.heap.size) (w0 : World) (hbel : Below base w0 wr)
    (h : ∀ v' w', w'.ownsRow base 5 1 v' (xs ++ [u]).length (xs ++ [u]) → Below base w0 w' → (∀ v2 n2 ys, wr.ownsRow base 5 1 v2 n2 ys → Apart v v2 → w'.ownsRow base 5 1 v2 n2 ys ∧ Apart v' v2) → wpList Tryd.prog ops Q rest (a.put o.dst v') w') :
    wpList Tryd.prog ops Q (o :: rest) a (wr.alloc (Obj.cells #[u] 5)) := by
  obtain ⟨i0, hi, hz0, hz1, hz2⟩ := info_parts (by kernel_rfl : (Tryd.prog.info? 5).map (fun i => (i.zero, i.size, i.bytes)) = some (some (.int .u8 0), 1, 1))
  have hbt : base ≤ (wr.alloc (Obj.cells #[u] 5)).heap.size := Nat.le_trans hbase (below_new1 wr _).size
  refine wpList_appendR hgd s x _ ho base 5 i0 _ 1 Tryd.underlying46 hi hz0 hz1 hz2 rfl v xs hs (own_below hown (below_new1 wr _)) (wr.heap.size + 1) (some ⟨wr.heap.size, 0, none⟩) 1 1 [u] hx (show Reads (wr.alloc (Obj.cells #[u] 5)) (wr.heap.size + 1) (some ⟨wr.heap.size, 0, none⟩) [u] from Reads.of_blk (Blk.new wr 5 #[u]) (by omega) 0) rfl (fun u' hu' => by rw [List.mem_singleton] at hu'; subst hu'; exact hu) (by unfold maxLen; omega) (by omega) hbt ?_
  intro v' w' hown' hg hat
  refine h v' w' hown' (below_own (hbel.trans ((below_new1 wr _).mono hbase)) (own_below hown (below_new1 wr _)) hg hbt) ?_
  intro v2 n2 ys h2 hap
  refine ⟨own_grown (own_below h2 (below_new1 wr _)) hg (fun g hg2 hg1 => hap g hg1 hg2), fun g hg1 hg2 => ?_⟩
  rcases hat with hat | hat
  · exact hap g (by rw [← hat]; exact hg1) hg2
  · have := own_lt h2 g hg2
    rw [hat] at hg1
    injection hg1 with hg1
    have hs2 : (wr.alloc (Obj.cells #[u] 5)).heap.size = wr.heap.size + 1 := by simp
    omega
/-- append of a slice that is read, onto a row of the call's own -/
theorem wpList_appendS {wr : World} {ops : Array Oper} {rest : List Oper} {o : Oper} {a : Act} {Q : Exit → Act → World → Prop} (hgd : o.guard = none) (s x : Operand)
    (ho : o.op = .call { callee := .builtin .append, args := #[s, x], argTypes := #[46, 46] })
    (base : Nat) (v : Value) (xs bs : List UInt8) (hs : a.eval s = v) (hown : wr.ownsRow base 5 1 v (xs.map v8).length (xs.map v8))
    (B : Nat) (A : Option Addr) (m c : Nat) (hx : a.eval x = .slice A m c) (hm : bs.length = m) (hr : Reads wr B A (bs.map v8)) (hlen : xs.length + bs.length ≤ 140737488355328) (hbase : base ≤ wr.heap.size) (w0 : World) (hbel : Below base w0 wr)
    (h : ∀ v' w', w'.ownsRow base 5 1 v' ((xs ++ bs).map v8).length ((xs ++ bs).map v8) → Below base w0 w' → wpList Tryd.prog ops Q rest (a.put o.dst v') w') :
    wpList Tryd.prog ops Q (o :: rest) a wr := by
  obtain ⟨i0, hi, hz0, hz1, hz2⟩ := info_parts (by kernel_rfl : (Tryd.prog.info? 5).map (fun i => (i.zero, i.size, i.bytes)) = some (some (.int .u8 0), 1, 1))
  refine wpList_appendR hgd s x _ ho base 5 i0 _ 1 Tryd.underlying46 hi hz0 hz1 hz2 rfl v (xs.map v8) hs hown B A m c (bs.map v8) hx hr (by rw [List.length_map]; exact hm) (oneCell_v8 _) (by unfold maxLen; rw [List.length_map]; omega) (by rw [List.length_map]; omega) hbase ?_
  intro v' w' hown' hg hat
  rw [← List.map_append] at hown'
  exact h v' w' hown' (below_own hbel hown hg hbase)
/-- append of a slice that is read, with what it leaves of the other rows -/
theorem wpList_appendSD {wr : World} {ops : Array Oper} {rest : List Oper} {o : Oper} {a : Act} {Q : Exit → Act → World → Prop} (hgd : o.guard = none) (s x : Operand)
    (ho : o.op = .call { callee := .builtin .append, args := #[s, x], argTypes := #[46, 46] })
    (base : Nat) (v : Value) (xs bs : List UInt8) (hs : a.eval s = v) (hown : wr.ownsRow base 5 1 v (xs.map v8).length (xs.map v8))
    (B : Nat) (A : Option Addr) (m c : Nat) (hx : a.eval x = .slice A m c) (hm : bs.length = m) (hr : Reads wr B A (bs.map v8)) (hlen : xs.length + bs.length ≤ 140737488355328) (hbase : base ≤ wr.heap.size) (w0 : World) (hbel : Below base w0 wr)
    (h : ∀ v' w', w'.ownsRow base 5 1 v' ((xs ++ bs).map v8).length ((xs ++ bs).map v8) → Below base w0 w' → (∀ v2 n2 ys, wr.ownsRow base 5 1 v2 n2 ys → Apart v v2 → w'.ownsRow base 5 1 v2 n2 ys ∧ Apart v' v2) → wpList Tryd.prog ops Q rest (a.put o.dst v') w') :
    wpList Tryd.prog ops Q (o :: rest) a wr := by
  obtain ⟨i0, hi, hz0, hz1, hz2⟩ := info_parts (by kernel_rfl : (Tryd.prog.info? 5).map (fun i => (i.zero, i.size, i.bytes)) = some (some (.int .u8 0), 1, 1))
  refine wpList_appendR hgd s x _ ho base 5 i0 _ 1 Tryd.underlying46 hi hz0 hz1 hz2 rfl v (xs.map v8) hs hown B A m c (bs.map v8) hx hr (by rw [List.length_map]; exact hm) (oneCell_v8 _) (by unfold maxLen; rw [List.length_map]; omega) (by rw [List.length_map]; omega) hbase ?_
  intro v' w' hown' hg hat
  rw [← List.map_append] at hown'
  refine h v' w' hown' (below_own hbel hown hg hbase) fun v2 n2 ys h2 hap => ⟨own_grown h2 hg (fun g hg2 hg1 => hap g hg1 hg2), fun g hg1 hg2 => ?_⟩
  rcases hat with hat | hat
  · exact hap g (by rw [← hat]; exact hg1) hg2
  · have := own_lt h2 g hg2
    rw [hat] at hg1
    injection hg1 with hg1
    omega
theorem own_emptyB (w : World) (base : Nat) (hb : base ≤ w.heap.size) : (w.alloc (.cells #[] 5)).ownsRow base 5 1 (.slice (some ⟨w.heap.size, 0, none⟩) 0 0) (([] : List UInt8).map v8).length (([] : List UInt8).map v8) :=
  own_empty w base 5 hb
theorem own_slice {w : World} {base s n : Nat} {e : TypeId} {v : Value} {xs : List Value} (h : w.ownsRow base e s v n xs) : ∃ A c, v = .slice A n c := by
  rcases h.2 with ⟨rfl, h0⟩ | ⟨g, cap, cur, e, _⟩
  · exact ⟨none, 0, by rw [h0]⟩
  · exact ⟨_, cap, e⟩
theorem own_diff {w : World} {base s n g : Nat} {e t : TypeId} {v : Value} {xs : List Value} {cs : Array Value} (h : w.ownsRow base e s v n xs) (hg : Blk w g t cs) (ht : t ≠ e) : ∀ g', v.ownBlock = some g' → some g ≠ some g' := by
  intro g' h1 h2
  injection h2 with h2
  subst h2
  rcases h.2 with ⟨rfl, _⟩ | ⟨b, cap, cur, rfl, _, hb, _⟩
  · cases h1
  · have e3 : b = g := by injection h1
    subst e3
    unfold Blk at hg
    rw [hg] at hb
    injection hb with hb
    injection hb with _ hb
    exact ht hb
end Go.Proofs.YtcgbokgedfekkaaDoor

/- A row of the call's own stays when a block of another type is written. No condition. -/
namespace Go.Proofs.YtcgbokgedfekkaaDoor
open Go Go.RowKit
variable {w w' : World}
theorem own_typed {base k : Nat} {e t : TypeId} {size n : Nat} {v : Value} {xs : List Value} {cs : Array Value} (h : w.ownsRow base e size v n xs) (hg : w.grownBy w' (some k)) (hk : Blk w k t cs) (ht : t ≠ e) : w'.ownsRow base e size v n xs := by
  refine own_grown h hg (fun q hq e2 => ?_)
  injection e2 with e2
  subst e2
  rcases h.2 with ⟨rfl, _⟩ | ⟨g', cap, cur, rfl, _, hh, _⟩
  · cases hq
  · cases hq
    have : some (Obj.cells _ _ _) = some (Obj.cells _ _ _) := hk.symm.trans hh
    injection this with this
    injection this with _ h3 _
    exact ht h3
theorem own_baseR {w : World} {b b' s n : Nat} {e : TypeId} {v : Value} {xs : List Value} (h : w.ownsRow b' e s v n xs) (hb : b ≤ b') : w.ownsRow b e s v n xs := by
  refine ⟨h.1, ?_⟩
  rcases h.2 with h0 | ⟨g', cap, cur, h1, h2, h3⟩
  · exact .inl h0
  · exact .inr ⟨g', cap, cur, h1, Nat.le_trans hb h2, h3⟩
end Go.Proofs.YtcgbokgedfekkaaDoor

/- A region that draws its order: plain operations have one value in every world of a class and are taken as soon as they may come up; what is left comes up alone (or two at a time) and is walked by itself. No condition. -/
namespace Go.Proofs.YtcgbokgedfekkaaDoor
open Go Go.RowKit
/-- No way out but K. -/
def OnlyK (K : Act → World → Prop) : Exit → Act → World → Prop
  | .normal, a, w => K a w
  | _, _, _ => False
theorem onlyK_imp {Q : Exit → Act → World → Prop} : ∀ (e : Exit) (a : Act) (w : World), OnlyK (Q .normal) e a w → Q e a w := fun e a w h => by
  cases e <;> first | exact h | exact (h : False).elim
theorem onlyK_out {K : Act → World → Prop} : ¬ LetsOut (OnlyK K) := fun ⟨_, _, h⟩ => h
/-- operations that yield a value and touch nothing -/
def plainOp (o : Oper) : Bool :=
  match o.op with
  | .move _ | .assign _ | .load _ _ | .binOp _ _ _ _ _ | .unOp _ _ _ | .convert _ _ _ | .slice _ _ _ _ _ | .fieldAddr _ _ _ | .field _ _ _ | .indexAddr _ _ _ | .index _ _ _ | .extract _ _ | .build _ _ | .makeFunc _ _ _ | .pick _ _ _ | .makeInterface _ _ | .nilCheck _ => true
  | .call c => match c.callee with
    | .builtin .len | .builtin .cap | .builtin .min | .builtin .max => true
    | _ => false
  | _ => false
/-- How a region is walked. -/
inductive Plan where
  | done
  | plain (i : Nat) (p : Plan)
  | only (i : Nat) (p : Plan)
  | two (i j : Nat) (p q : Plan)
section
variable {P : Program} {ops : Array Oper} {md : Region.Mode} {Q : Exit → Act → World → Prop} {S : World → Prop}
theorem run_value_only {s : Sem Value} {w w' : World} {n : Next} (h : (do pure (Next.value (← s)) : Sem Next).run P w = .ok n w') : ∃ v, n = .value v := by
  simp only [Sem.run_bind] at h
  generalize s.run P w = r at h
  cases r with
  | ok x w1 =>
    rw [Result.andThen_ok, Sem.run_pure] at h
    injection h with h1 h2
    exact ⟨x, h1.symm⟩
  | halt x w1 => cases h
theorem run_bind_only {α : Type} {s : Sem α} {f : α → Sem Next} {w w' : World} {n : Next} (hf : ∀ x w1 w2 n, (f x).run P w1 = .ok n w2 → ∃ v, n = .value v) (h : (s >>= f).run P w = .ok n w') : ∃ v, n = .value v := by
  rw [Sem.run_bind] at h
  generalize s.run P w = r at h
  cases r with
  | ok x w1 => rw [Result.andThen_ok] at h; exact hf _ _ _ _ h
  | halt x w1 => cases h
theorem plain_value {o : Oper} (hp : plainOp o = true) {a : Act} {w w' : World} {n : Next} (h : (execOp a.eval o).run P w = .ok n w') : ∃ v, n = .value v := by
  unfold plainOp at hp
  unfold execOp at h
  split at hp <;> rename_i ho <;> simp only [ho] at h <;> try exact run_value_only h
  · rw [Sem.run_pure] at h; injection h with h1 _; exact ⟨_, h1.symm⟩
  · rw [Sem.run_pure] at h; injection h with h1 _; exact ⟨_, h1.symm⟩
  · simp only [Sem.run_bind] at h
    generalize (asBool _).run P w = r at h
    cases r with
    | ok x w1 => rw [Result.andThen_ok, Sem.run_pure] at h; injection h with h1 _; exact ⟨_, h1.symm⟩
    | halt x w1 => cases h
  · generalize a.eval _ = x at h
    split at h
    · simp [runtimePanic] at h
    · simp [runtimePanic] at h
    · simp [runtimePanic] at h
    · split at h
      · simp [runtimePanic] at h
      · refine run_bind_only (fun x w1 w2 n h => run_bind_only (fun b w3 w4 n h => ?_) h) h
        split at h
        · exact run_bind_only (fun _ w5 w6 n h => by rw [Sem.run_pure] at h; injection h with h1 _; exact ⟨_, h1.symm⟩) h
        · rw [Sem.run_pure] at h; injection h with h1 _; exact ⟨_, h1.symm⟩
      · rw [Sem.run_pure] at h; injection h with h1 _; exact ⟨_, h1.symm⟩
    · rw [Sem.run_pure] at h; injection h with h1 _; exact ⟨_, h1.symm⟩
  · split at hp
    · rename_i hc
      simp only [resolve, hc, Sem.run_bind, Sem.run_pure, Result.andThen_ok, invoke, builtin] at h
      exact run_value_only (by simpa only [Sem.run_bind, Sem.run_pure] using h)
    · rename_i hc
      simp only [resolve, hc, Sem.run_bind, Sem.run_pure, Result.andThen_ok, invoke, builtin] at h
      exact run_value_only (by simpa only [Sem.run_bind, Sem.run_pure] using h)
    · rename_i hc
      simp only [resolve, hc, Sem.run_bind, Sem.run_pure, Result.andThen_ok, invoke, builtin] at h
      exact run_value_only (by simpa only [Sem.run_bind, Sem.run_pure] using h)
    · rename_i hc
      simp only [resolve, hc, Sem.run_bind, Sem.run_pure, Result.andThen_ok, invoke, builtin] at h
      exact run_value_only (by simpa only [Sem.run_bind, Sem.run_pure] using h)
    · cases hp
  · cases hp
/-- Whatever order is picked from here on; behind each operation the class may shrink. -/
def wpAnyM (P : Program) (md : Region.Mode) (ops : Array Oper) (Q : Exit → Act → World → Prop) : Nat → (World → Prop) → Array Bool → Act → World → Prop
  | 0, _, listed, a, w => Region.ready md ops listed = [] ∧ Q .normal a w
  | fuel + 1, S, listed, a, w =>
    (Region.ready md ops listed = [] → Q .normal a w) ∧
    ∀ i ∈ Region.ready md ops listed, wpOp P ops Q i (fun a' w' => ∃ S' : World → Prop, (∀ w, S' w → S w) ∧ S' w' ∧ wpAnyM P md ops Q fuel S' (listed.setIfInBounds i true) a' w') a w
theorem wpAny_of_mix : ∀ (fuel : Nat) (S : World → Prop) (listed : Array Bool) (a : Act) (w : World), wpAnyM P md ops Q fuel S listed a w → wpAny P md ops Q fuel listed a w
  | 0, _, _, _, _, h => h
  | fuel + 1, _, _, _, _, h => ⟨h.1, fun i hi => wpOp_mono (fun a' w' ⟨_, _, _, h'⟩ => wpAny_of_mix fuel _ _ a' w' h') (h.2 i hi)⟩
theorem yieldsIf_less {S' : World → Prop} {o : Oper} {v : Value} {a : Act} (h : YieldsIf P ops S o v a) (hS : ∀ w, S' w → S w) : YieldsIf P ops S' o v a :=
  h.imp (fun ⟨h1, h2⟩ => ⟨h1, fun w hw => h2 w (hS w hw)⟩) id
theorem wpAnyM_first {i : Nat} {oi : Oper} {v : Value} (hi : ops[i]? = some oi) (hsel : ∀ (j : Nat) (o : Oper) cs b, ops[j]? = some o → o.op ≠ .select cs b)
    (hQ : ∀ c a w, Q (.panic c) (a.put oi.dst v) w → Q (.panic c) a w) :
    ∀ (fuel : Nat) (S : World → Prop) (listed : Array Bool) (a : Act) (w : World),
      (∀ j oj, ops[j]? = some oj → j ≠ i → listed.getD j true = false → (∀ e ∈ oj.after, Region.binds md e = true → e.on ≠ i) → oi.apart ops oj = true) →
      i ∈ Region.ready md ops listed → YieldsIf P ops S oi v a → S w →
      wpAnyM P md ops Q fuel S (listed.setIfInBounds i true) (a.put oi.dst v) w → wpAnyM P md ops Q (fuel + 1) S listed a w := by
  intro fuel
  induction fuel with
  | zero =>
    intro S listed a w _ hr hy hS H
    refine ⟨fun h => (by rw [h] at hr; cases hr), fun j hj => ?_⟩
    by_cases hji : j = i
    · subst hji; exact hy.wpOp hi hS ⟨S, fun _ h => h, hS, H⟩
    · have := ready_mono hj hji
      rw [H.1] at this
      cases this
  | succ fuel ih =>
    intro S listed a w hfree hr hy hS H
    refine ⟨fun h => (by rw [h] at hr; cases hr), fun j hj => ?_⟩
    by_cases hji : j = i
    · subst hji; exact hy.wpOp hi hS ⟨S, fun _ h => h, hS, H⟩
    · have h1 := H.2 j (ready_mono hj hji)
      obtain ⟨hjun, oj, hoj, hall⟩ := mem_ready.1 hj
      have hnot : ∀ e ∈ oj.after, Region.binds md e = true → e.on ≠ i := fun e he hb heq => by
        have h1 := hall e he hb
        have h0 := (mem_ready.1 hr).1
        rw [heq] at h1
        rcases Nat.lt_or_ge i listed.size with h' | h'
        · simp [h'] at h0 h1; rw [h0] at h1; cases h1
        · simp [Array.getElem?_eq_none h'] at h1
      have h2 := wpOp_putIf hoj (hfree j oj hoj hji hjun hnot) (fun cs b => hsel i oi cs b hi) (fun cs b => hsel j oj cs b hoj) hQ hy h1
      have hfree' : ∀ k ok, ops[k]? = some ok → k ≠ i → (listed.setIfInBounds j true).getD k true = false →
          (∀ e ∈ ok.after, Region.binds md e = true → e.on ≠ i) → oi.apart ops ok = true := fun k ok hk hki hun hno => by
        refine hfree k ok hk hki ?_ hno
        by_cases hjk : j = k
        · subst hjk; exact hjun
        · rw [getD_set_ne true hjk] at hun; exact hun
      refine wpOp_mono (fun a' w' ⟨h3, S', h4, h5, h6⟩ => ⟨S', h4, h5, ih S' (listed.setIfInBounds j true) a' w' hfree' (ready_mono hr (Ne.symm hji)) (yieldsIf_less h3 h4) h5 ?_⟩) h2
      rw [Array.setIfInBounds_comm _ _ hji]
      exact h6
/-- the goal of a walk by a plan -/
def mixW (P : Program) (ops : Array Oper) (K : Act → World → Prop) : Plan → (World → Prop) → Act → World → Prop
  | .done, _, a, w => K a w
  | .plain i p, S, a, w => match ops[i]? with
    | none => False
    | some o => wpQuiet P ops S (fun a' => mixW P ops K p S a' w) [o] a
  | .only i p, S, a, w => match ops[i]? with
    | none => False
    | some o => wpList P ops (OnlyK fun a' w' => ∃ S' : World → Prop, (∀ w, S' w → S w) ∧ S' w' ∧ mixW P ops K p S' a' w') [o] a w
  | .two i j p q, S, a, w => (match ops[i]? with
    | none => False
    | some o => wpList P ops (OnlyK fun a' w' => ∃ S' : World → Prop, (∀ w, S' w → S w) ∧ S' w' ∧ mixW P ops K p S' a' w') [o] a w) ∧ (match ops[j]? with
    | none => False
    | some o => wpList P ops (OnlyK fun a' w' => ∃ S' : World → Prop, (∀ w, S' w → S w) ∧ S' w' ∧ mixW P ops K q S' a' w') [o] a w)
def Plan.len : Plan → Nat
  | .done => 0
  | .plain _ p => p.len + 1
  | .only _ p => p.len + 1
  | .two _ _ p _ => p.len + 1
def mixB (md : Region.Mode) (ops : Array Oper) : Plan → Array Bool → Bool
  | .done, listed => (Region.ready md ops listed).isEmpty
  | .plain i p, listed => Region.free md ops listed i && (Region.ready md ops listed).contains i && ((ops[i]?).map plainOp).getD false && mixB md ops p (listed.setIfInBounds i true)
  | .only i p, listed => (Region.ready md ops listed == [i]) && mixB md ops p (listed.setIfInBounds i true)
  | .two i j p q, listed => (Region.ready md ops listed == [i, j]) && (p.len == q.len) && mixB md ops p (listed.setIfInBounds i true) && mixB md ops q (listed.setIfInBounds j true)
theorem wpOp_of_list {i : Nat} {o : Oper} (ho : ops[i]? = some o) {K : Act → World → Prop} {a : Act} {w : World} (h : wpList P ops (OnlyK K) [o] a w) : wpOp P ops (OnlyK (Q .normal)) i K a w := by
  unfold wpOp
  simp only [ho]
  unfold wpList at h
  split
  · rename_i hw
    rw [if_pos hw] at h
    rcases h with h | h
    · refine .inl ?_
      unfold Oper.wp at *
      generalize (execOp a.eval o).run P w = r at *
      cases r with
      | ok n w' =>
        cases n <;> simp only [Oper.upon] at h ⊢ <;>
          first
            | exact h
            | exact Calls.mono h (fun e w'' he => by cases e <;> first | exact he | exact (he : False).elim | exact (onlyK_out he).elim)
            | exact Rows.mono h (fun _ _ he => he)
      | halt x w' => cases x <;> simp only [Oper.upon] at h ⊢ <;> first | exact h | exact (h : False).elim
    · exact (onlyK_out h.2).elim
  · rename_i hw
    rw [if_neg hw] at h
    exact h
theorem yieldsIf_of_quiet {o : Oper} (hp : plainOp o = true) {K : Act → Prop} {a : Act} (h : wpQuiet P ops S K [o] a) : ∃ v, YieldsIf P ops S o v a ∧ K (a.put o.dst v) := by
  unfold wpQuiet at h
  split at h
  · rename_i hw
    obtain ⟨v, h1, h2⟩ := h
    refine ⟨v, .inl ⟨hw, fun w hS => ?_⟩, h2⟩
    have h3 := h1 w hS
    unfold Oper.quietAt at h3
    generalize hr : (execOp a.eval o).run P w = r at h3
    cases r with
    | ok n w' =>
      obtain ⟨u, rfl⟩ := plain_value hp hr
      simp only [Oper.quietUpon] at h3
      rw [h3.1, h3.2]
    | halt x w' => exact h3.elim
  · rename_i hw
    exact ⟨undef, .inr ⟨by simpa using hw, rfl⟩, h⟩
theorem wpAnyM_of_mix (hsel : Region.noSelect ops = true) : ∀ (p : Plan) (S : World → Prop) (listed : Array Bool) (a : Act) (w : World), mixB md ops p listed = true → S w → mixW P ops (Q .normal) p S a w →
    wpAnyM P md ops (OnlyK (Q .normal)) p.len S listed a w
  | .done, S, listed, a, w, hB, hS, h => ⟨by simpa [mixB] using hB, h⟩
  | .plain i p, S, listed, a, w, hB, hS, h => by
    simp only [mixB, Bool.and_eq_true] at hB
    obtain ⟨⟨⟨hf, hr⟩, hp⟩, hB⟩ := hB
    unfold mixW at h
    cases ho : ops[i]? with
    | none => rw [ho] at h; exact h.elim
    | some o =>
      rw [ho] at h hp
      obtain ⟨v, hy, hK⟩ := yieldsIf_of_quiet (by simpa using hp) h
      exact wpAnyM_first ho (Region.noSelect_spec hsel) (fun _ _ _ h => h) _ S listed a w (Region.free_spec ho hf) (by simpa using hr) hy hS (wpAnyM_of_mix hsel p S _ _ w hB hS hK)
  | .only i p, S, listed, a, w, hB, hS, h => by
    simp only [mixB, Bool.and_eq_true, beq_iff_eq] at hB
    obtain ⟨hr, hB⟩ := hB
    unfold mixW at h
    refine ⟨fun h0 => (by rw [hr] at h0; cases h0), fun j hj => ?_⟩
    rw [hr, List.mem_singleton] at hj
    subst hj
    cases ho : ops[j]? with
    | none => rw [ho] at h; exact h.elim
    | some o =>
      rw [ho] at h
      exact wpOp_mono (fun a' w' ⟨S', h1, h2, h3⟩ => ⟨S', h1, h2, wpAnyM_of_mix hsel p S' _ a' w' hB h2 h3⟩) (wpOp_of_list ho h)
  | .two i k p q, S, listed, a, w, hB, hS, h => by
    simp only [mixB, Bool.and_eq_true, beq_iff_eq] at hB
    obtain ⟨⟨⟨hr, hl⟩, hB1⟩, hB2⟩ := hB
    unfold mixW at h
    refine ⟨fun h0 => (by rw [hr] at h0; cases h0), fun j hj => ?_⟩
    rw [hr] at hj
    rcases List.mem_cons.1 hj with rfl | hj
    · cases ho : ops[j]? with
      | none => rw [ho] at h; exact h.1.elim
      | some o =>
        rw [ho] at h
        exact wpOp_mono (fun a' w' ⟨S', h1, h2, h3⟩ => ⟨S', h1, h2, wpAnyM_of_mix hsel p S' _ a' w' hB1 h2 h3⟩) (wpOp_of_list ho h.1)
    · rw [List.mem_singleton] at hj
      subst hj
      cases ho : ops[j]? with
      | none => rw [ho] at h; exact h.2.elim
      | some o =>
        rw [ho] at h
        show wpOp P ops _ _ (fun a' w' => ∃ S' : World → Prop, (∀ w, S' w → S w) ∧ S' w' ∧ wpAnyM P md ops (OnlyK (Q .normal)) p.len S' _ a' w') a w
        rw [hl]
        exact wpOp_mono (fun a' w' ⟨S', h1, h2, h3⟩ => ⟨S', h1, h2, wpAnyM_of_mix hsel q S' _ a' w' hB2 h2 h3⟩) (wpOp_of_list ho h.2)
/-- A region that draws its order, walked by a plan: the Bool is closed. -/
theorem wp_region_mix {id : Nat} {a : Act} {w : World} {l : List Oper} (p : Plan) (S : World → Prop) (hm : P.follows .mixedOrders = true)
    (hB : (Region.noSelect l.toArray && (p.len == l.length) && mixB .any l.toArray p (Array.replicate l.length false)) = true) (hS : S (w.drewN 1))
    (h : mixW P l.toArray (Q .normal) p S a (w.drewN 1)) : (Code.region id l.toArray true).wp P Q a w := by
  simp only [Bool.and_eq_true, beq_iff_eq] at hB
  obtain ⟨⟨hs, hl⟩, hB⟩ := hB
  refine Code.wp_mono (Q := OnlyK (Q .normal)) onlyK_imp (wp_region_any hm ?_)
  have := wpAny_of_mix _ _ _ _ _ (wpAnyM_of_mix (P := P) (Q := Q) hs p S _ a _ hB hS h)
  rw [hl] at this
  exact this
theorem in_plus {w : World} : (fun v => ∃ e, v = plus w e) w := ⟨⟨#[], w.drawn⟩, by simp [plus]⟩
/-- The same, where all but the plain operations only make memory. -/
theorem wp_region_mixP {id : Nat} {a : Act} {w : World} {l : List Oper} (p : Plan) (hm : P.follows .mixedOrders = true)
    (hB : (Region.noSelect l.toArray && (p.len == l.length) && mixB .any l.toArray p (Array.replicate l.length false)) = true)
    (h : ∀ W, Below w.heap.size w W → mixW P l.toArray (Q .normal) p (fun v => ∃ e, v = plus W e) a W) : (Code.region id l.toArray true).wp P Q a w :=
  wp_region_mix p (fun v => ∃ e, v = plus (w.drewN 1) e) hm hB (in_plus (w := w.drewN 1)) (h _ (below_drewN (Below.refl _ w) 1))
/-- the operation at a place, as the walk reads it -/
def opAt : List Oper → Nat → Option Oper
  | [], _ => none
  | o :: _, 0 => some o
  | _ :: l, n + 1 => opAt l n
theorem opAt_eq : ∀ (l : List Oper) (i : Nat), l.toArray[i]? = opAt l i
  | [], i => by simp [opAt]
  | o :: l, 0 => by simp [opAt]
  | o :: l, n + 1 => by have := opAt_eq l n; simp only [List.getElem?_toArray] at this; simp [opAt, this]
section
variable {l : List Oper} {K : Act → World → Prop} {p q : Plan} {i j : Nat} {o o' : Oper} {a : Act} {w : World}
theorem mix_done (h : K a w) : mixW P l.toArray K .done S a w := h
theorem mix_plain (ho : opAt l i = some o) (h : wpQuiet P l.toArray S (fun a' => mixW P l.toArray K p S a' w) [o] a) : mixW P l.toArray K (.plain i p) S a w := by
  unfold mixW; rw [opAt_eq, ho]; exact h
/-- behind an operation that makes memory alone, the class is what lies behind it -/
theorem mix_only (ho : opAt l i = some o) (h : ∀ K' : Act → World → Prop, (∀ a' w', Below w.heap.size w w' → mixW P l.toArray K p (fun v => ∃ e, v = plus w' e) a' w' → K' a' w') → wpList P l.toArray (OnlyK K') [o] a w) :
    mixW P l.toArray K (.only i p) (fun v => ∃ e, v = plus w e) a w := by
  unfold mixW; rw [opAt_eq, ho]
  refine h _ fun a' w' hb' h' => ⟨_, fun v hv => ?_, in_plus, h'⟩
  obtain ⟨e, rfl⟩ := hv
  exact below_plus (hb'.trans ((plus_below w' e).mono hb'.size))
/-- the same at any class -/
theorem mix_only_in (ho : opAt l i = some o) (h : ∀ K' : Act → World → Prop, (∀ a' w', S w' → mixW P l.toArray K p S a' w' → K' a' w') → wpList P l.toArray (OnlyK K') [o] a w) : mixW P l.toArray K (.only i p) S a w := by
  unfold mixW; rw [opAt_eq, ho]
  exact h _ fun a' w' hS h' => ⟨S, fun _ h => h, hS, h'⟩
theorem mix_two_in (ho : opAt l i = some o) (ho' : opAt l j = some o')
    (h : ∀ K' : Act → World → Prop, (∀ a' w', S w' → mixW P l.toArray K p S a' w' → K' a' w') → wpList P l.toArray (OnlyK K') [o] a w)
    (h' : ∀ K' : Act → World → Prop, (∀ a' w', S w' → mixW P l.toArray K q S a' w' → K' a' w') → wpList P l.toArray (OnlyK K') [o'] a w) :
    mixW P l.toArray K (.two i j p q) S a w := by
  unfold mixW; rw [opAt_eq l i, opAt_eq l j, ho, ho']
  exact ⟨h _ fun a' w' hS h' => ⟨S, fun _ h => h, hS, h'⟩, h' _ fun a' w' hS h' => ⟨S, fun _ h => h, hS, h'⟩⟩
/-- the class at an elder world W; behind the operation it is what lies behind the world at hand -/
theorem mix_only_to {W : World} (ho : opAt l i = some o) (h : ∀ K' : Act → World → Prop, (∀ a' w', Below W.heap.size W w' → mixW P l.toArray K p (fun v => ∃ e, v = plus w' e) a' w' → K' a' w') → wpList P l.toArray (OnlyK K') [o] a w) :
    mixW P l.toArray K (.only i p) (fun v => ∃ e, v = plus W e) a w := by
  unfold mixW; rw [opAt_eq, ho]
  refine h _ fun a' w' hb' h' => ⟨_, fun v hv => ?_, in_plus, h'⟩
  obtain ⟨e, rfl⟩ := hv
  exact below_plus (hb'.trans ((plus_below w' e).mono hb'.size))
theorem mix_two (ho : opAt l i = some o) (ho' : opAt l j = some o')
    (h : ∀ K' : Act → World → Prop, (∀ a' w', Below w.heap.size w w' → mixW P l.toArray K p (fun v => ∃ e, v = plus w' e) a' w' → K' a' w') → wpList P l.toArray (OnlyK K') [o] a w)
    (h' : ∀ K' : Act → World → Prop, (∀ a' w', Below w.heap.size w w' → mixW P l.toArray K q (fun v => ∃ e, v = plus w' e) a' w' → K' a' w') → wpList P l.toArray (OnlyK K') [o'] a w) :
    mixW P l.toArray K (.two i j p q) (fun v => ∃ e, v = plus w e) a w := by
  have h1 := mix_only (p := p) ho h
  have h2 := mix_only (p := q) ho' h'
  unfold mixW at h1 h2 ⊢
  rw [opAt_eq l i, ho] at h1; rw [opAt_eq l j, ho'] at h2
  rw [opAt_eq l i, opAt_eq l j, ho, ho']
  exact ⟨h1, h2⟩
end
end
end Go.Proofs.YtcgbokgedfekkaaDoor

/- MIX: an operation whose guard does not hold is skipped. No condition. -/
namespace Go.Proofs.YtcgbokgedfekkaaDoor
open Go Go.RowKit
section
variable {P : Program} {S : World → Prop} {l : List Oper} {K : Act → World → Prop} {p q : Plan} {i j : Nat} {o o' : Oper} {a : Act} {w : World}
theorem mix_skip (ho : opAt l i = some o) (hw : Region.wanted o (yielded l.toArray a.tmps) = false) (h : mixW P l.toArray K p S (a.put o.dst undef) w) : mixW P l.toArray K (.plain i p) S a w := by
  refine mix_plain ho ?_
  unfold wpQuiet
  rw [if_neg (by simp [hw])]
  exact h
/-- an operation whose guard holds is walked as one without a guard -/
theorem wpList_unguard {ops : Array Oper} {rest : List Oper} {Q : Exit → Act → World → Prop} (hw : Region.wanted o (yielded ops a.tmps) = true) (h : wpList P ops Q ({ o with guard := none } :: rest) a w) : wpList P ops Q (o :: rest) a w := by
  unfold wpList at h ⊢
  rw [if_pos hw]
  rw [if_pos (by simp [Region.wanted])] at h
  exact h
end
/-- the world at a call, by what is known of it -/
theorem calls_at {P : Program} {f : FuncId} {args : Array Value} {w : World} {R' : Ending → World → Prop} (R : World → Prop) (hR : R w) (h : ∀ W, R W → Calls P f args W R') : Calls P f args w R' := h w hR
theorem wpList_loadW {P : Program} {w : World} {ops : Array Oper} {rest : List Oper} {o : Oper} {a : Act} {Q : Exit → Act → World → Prop} (hw : Region.wanted o (yielded ops a.tmps) = true) (ty : TypeId) (x : Operand) (ho : o.op = .load ty x) (g : Nat) (hx : a.eval x = .pointer (some ⟨g, 0, none⟩)) (t : TypeId) (cs : Array Value) (d : TypeDesc)
    (hg : Blk w g t cs) (hu : P.underlying ty = some d) (hd : (match d with | .struct _ | .array _ _ => true | _ => false) = true) (hi : (P.info? ty).map (·.size) = some cs.size)
    (h : wpList P ops Q rest (a.put o.dst (.agg cs)) w) : wpList P ops Q (o :: rest) a w :=
  wpList_step fun K hK => by
    simp only [hw, if_true]
    unfold Oper.wp execOp
    simp only [ho, hx, Instr.loadAt, Instr.sureAddr, Sem.run_bind, Sem.run_pure, Result.andThen_ok, run_loadVar_row w g t ty cs _ d hg hu hd hi]
    exact hK _ _ h
theorem below_plusN {B : Nat} {W V : World} (h : Hid (B = W.heap.size)) (hb : Below B W V) : ∃ e, V = plus W e := below_plus (h.out ▸ hb)
theorem below_sizeN {B : Nat} {W V : World} (h : Hid (B = W.heap.size)) (hb : Below B W V) : B ≤ V.heap.size := by have := hb.size; have := h.out; omega
end Go.Proofs.YtcgbokgedfekkaaDoor

/- Cuts of slices whose elements are one cell each: the value under one name, in a quiet walk and in a forced one; what a cut of bytes reads. No condition. -/
namespace Go.Proofs.YtcgbokgedfekkaaDoor
open Go Go.RowKit
/-- a cut, as the model makes it -/
def cutV (A : Option Addr) (cap lo hi : Nat) : Value := .slice (if cap = lo then A else A.map (·.add lo)) (hi - lo) (cap - lo)
section
variable {P : Program} {t e : TypeId} {A : Option Addr} {len cap : Nat}
theorem run_cut_lh (ht : P.underlying t = some (.slice e)) (hs : (P.info? e).map (·.size) = some 1) (lo hi : Nat) (h1 : lo ≤ hi) (h2 : hi ≤ cap) (w : World) :
    (Instr.sliceAt t (.slice A len cap) (some (.int .i64 lo)) (some (.int .i64 hi)) none).run P w = .ok (cutV A cap lo hi) w := by
  obtain ⟨i, hi1, hi2⟩ : ∃ i, P.info? e = some i ∧ i.size = 1 := by
    cases hq : P.info? e with
    | none => rw [hq] at hs; cases hs
    | some i => rw [hq] at hs; exact ⟨i, rfl, by simpa using hs⟩
  have a1 : (lo : Int) ≤ (hi : Int) := by omega
  have a2 : (hi : Int) ≤ (cap : Int) := by omega
  simp [Instr.sliceAt, Instr.slice, run_underlying ht, Instr.sliceBounds, run_sliceBound, cutV, hi1, hi2, sizeOf, typeInfo, a1, a2]
theorem run_cut_l (ht : P.underlying t = some (.slice e)) (hs : (P.info? e).map (·.size) = some 1) (lo : Nat) (h1 : lo ≤ len) (w : World) :
    (Instr.sliceAt t (.slice A len cap) (some (.int .i64 lo)) none none).run P w = .ok (cutV A cap lo len) w := by
  obtain ⟨i, hi1, hi2⟩ : ∃ i, P.info? e = some i ∧ i.size = 1 := by
    cases hq : P.info? e with
    | none => rw [hq] at hs; cases hs
    | some i => rw [hq] at hs; exact ⟨i, rfl, by simpa using hs⟩
  have a1 : (lo : Int) ≤ (len : Int) := by omega
  simp [Instr.sliceAt, Instr.slice, run_underlying ht, Instr.sliceBounds, run_sliceBound, cutV, hi1, hi2, sizeOf, typeInfo, a1]
section
variable {ops : Array Oper} {C : World → Prop} {K : Act → Prop} {a : Act} {o : Oper} {rest : List Oper}
theorem wpQuiet_cutLH (hw : Region.wanted o (yielded ops a.tmps) = true) (t : TypeId) (x l h : Operand) (ho : o.op = .slice t x (some l) (some h) none) (e : TypeId) (ht : P.underlying t = some (.slice e)) (hs : (P.info? e).map (·.size) = some 1)
    (A : Option Addr) (len cap lo hi : Nat) (hx : a.eval x = .slice A len cap) (hl : a.eval l = .int .i64 lo) (hh : a.eval h = .int .i64 hi) (h1 : lo ≤ hi) (h2 : hi ≤ cap)
    (hk : wpQuiet P ops C K rest (a.put o.dst (cutV A cap lo hi))) : wpQuiet P ops C K (o :: rest) a :=
  wpQuiet_wanted hw _ (fun w _ => by
    unfold Oper.quietAt execOp
    simp only [ho, Option.map_some, Option.map_none, hx, hl, hh, Sem.run_bind, run_cut_lh ht hs lo hi h1 h2, Result.andThen_ok, Sem.run_pure]
    exact ⟨rfl, rfl⟩) hk
theorem wpQuiet_cutL (hw : Region.wanted o (yielded ops a.tmps) = true) (t : TypeId) (x l : Operand) (ho : o.op = .slice t x (some l) none none) (e : TypeId) (ht : P.underlying t = some (.slice e)) (hs : (P.info? e).map (·.size) = some 1)
    (A : Option Addr) (len cap lo : Nat) (hx : a.eval x = .slice A len cap) (hl : a.eval l = .int .i64 lo) (h1 : lo ≤ len)
    (hk : wpQuiet P ops C K rest (a.put o.dst (cutV A cap lo len))) : wpQuiet P ops C K (o :: rest) a :=
  wpQuiet_wanted hw _ (fun w _ => by
    unfold Oper.quietAt execOp
    simp only [ho, Option.map_some, Option.map_none, hx, hl, Sem.run_bind, run_cut_l ht hs lo h1, Result.andThen_ok, Sem.run_pure]
    exact ⟨rfl, rfl⟩) hk
theorem wpList_cutLH {w : World} {Q : Exit → Act → World → Prop} (hg : o.guard = none) (t : TypeId) (x l h : Operand) (ho : o.op = .slice t x (some l) (some h) none) (e : TypeId) (ht : P.underlying t = some (.slice e)) (hs : (P.info? e).map (·.size) = some 1)
    (A : Option Addr) (len cap lo hi : Nat) (hx : a.eval x = .slice A len cap) (hl : a.eval l = .int .i64 lo) (hh : a.eval h = .int .i64 hi) (h1 : lo ≤ hi) (h2 : hi ≤ cap)
    (hk : wpList P ops Q rest (a.put o.dst (cutV A cap lo hi)) w) : wpList P ops Q (o :: rest) a w :=
  wpList_plain hg fun K hK => by
    unfold Oper.wp execOp
    simp only [ho, Option.map_some, Option.map_none, hx, hl, hh, Sem.run_bind, run_cut_lh ht hs lo hi h1 h2, Result.andThen_ok, Sem.run_pure]
    exact hK _ _ hk
theorem wpList_cutL {w : World} {Q : Exit → Act → World → Prop} (hg : o.guard = none) (t : TypeId) (x l : Operand) (ho : o.op = .slice t x (some l) none none) (e : TypeId) (ht : P.underlying t = some (.slice e)) (hs : (P.info? e).map (·.size) = some 1)
    (A : Option Addr) (len cap lo : Nat) (hx : a.eval x = .slice A len cap) (hl : a.eval l = .int .i64 lo) (h1 : lo ≤ len)
    (hk : wpList P ops Q rest (a.put o.dst (cutV A cap lo len)) w) : wpList P ops Q (o :: rest) a w :=
  wpList_plain hg fun K hK => by
    unfold Oper.wp execOp
    simp only [ho, Option.map_some, Option.map_none, hx, hl, Sem.run_bind, run_cut_l ht hs lo h1, Result.andThen_ok, Sem.run_pure]
    exact hK _ _ hk
end
end
theorem wpQuiet_nilCheck {P : Program} {ops : Array Oper} {C : World → Prop} {K : Act → Prop} {a : Act} {o : Oper} {rest : List Oper} (hw : Region.wanted o (yielded ops a.tmps) = true) (x : Operand) (ho : o.op = .nilCheck x) (p : Addr) (hx : a.eval x = .pointer (some p))
    (hk : wpQuiet P ops C K rest (a.put o.dst (.pointer (some p)))) : wpQuiet P ops C K (o :: rest) a :=
  wpQuiet_wanted hw _ (fun w _ => by
    unfold Oper.quietAt execOp
    simp only [ho, hx, Sem.run_pure]
    exact ⟨rfl, rfl⟩) hk
/-- a cell is read, at any class that tells it -/
theorem wpQuiet_load1 {P : Program} {ops : Array Oper} {C : World → Prop} {K : Act → Prop} {a : Act} {o : Oper} {rest : List Oper} (hw : Region.wanted o (yielded ops a.tmps) = true) (ty : TypeId) (x : Operand) (ho : o.op = .load ty x) (p : Addr) (hx : a.eval x = .pointer (some p))
    (d : TypeDesc) (hu : P.underlying ty = some d) (hd : (match d with | .struct _ | .array _ _ => false | _ => true) = true) (v : Value) (hS : ∀ w, C w → w.cell? p = some v)
    (hk : wpQuiet P ops C K rest (a.put o.dst v)) : wpQuiet P ops C K (o :: rest) a :=
  wpQuiet_wanted hw _ (fun w hC => by
    have hc := hS w hC
    unfold Oper.quietAt execOp
    have ha : (isAgg ty).run P w = .ok false w := by
      cases d <;> simp_all [isAgg, run_underlying hu]
    simp only [ho, hx, Instr.loadAt, Instr.sureAddr, Sem.run_bind, Sem.run_pure, Result.andThen_ok, loadVar, ha]
    simp [hc, Oper.quietUpon]) hk
theorem cut_b {w : World} {B : Nat} {A : Option Addr} {len cap : Nat} {bs : List UInt8} (h : BSl w B (.slice A len cap) bs) (lo hi : Nat) (h1 : lo ≤ hi) (h2 : hi ≤ len) : BSl w B (cutV A cap lo hi) ((bs.take hi).drop lo) := by
  obtain ⟨A', cap', e1, hc1, hc2, hr⟩ := h
  injection e1 with e1 e2 e3
  subst e1; subst e3
  have hl : ((bs.take hi).drop lo).length = hi - lo := by simp; omega
  refine ⟨_, cap - lo, by unfold cutV; rw [hl], by omega, by omega, ?_⟩
  have := (hr.take hi).cut (k := lo) (cap := cap) (by simp; omega) (by simp; omega)
  rw [← List.map_take, ← List.map_drop] at this
  exact this
/-- the head of a slice of bytes -/
theorem head_b {w : World} {B : Nat} {A : Option Addr} {len cap : Nat} {bs : List UInt8} (h : BSl w B (.slice A len cap) bs) (hi : Nat) (h2 : hi ≤ len) : BSl w B (.slice A hi cap) (bs.take hi) := by
  obtain ⟨A', cap', e1, hc1, hc2, hr⟩ := h
  injection e1 with e1 e2 e3
  subst e1; subst e3
  have hl : (bs.take hi).length = hi := by simp; omega
  refine ⟨_, cap, by rw [hl], by omega, by omega, ?_⟩
  have := hr.take hi
  rw [← List.map_take] at this
  exact this
theorem take_b {w : World} {B : Nat} {A : Option Addr} {cap : Nat} {bs : List UInt8} (h : BSl w B (.slice A bs.length cap) bs) (k : Nat) : BSl w B (.slice A (bs.take k).length cap) (bs.take k) := by
  obtain ⟨A', cap', e1, hc1, hc2, hr⟩ := h
  injection e1 with e1 e2 e3
  subst e1; subst e3
  refine ⟨_, cap, rfl, by rw [List.length_take]; omega, hc2, ?_⟩
  rw [List.map_take]; exact hr.take k
/-- the world behind a point of a walk by plan -/
theorem mix_at {P : Program} {ops : Array Oper} {K : Act → World → Prop} {p : Plan} {a : Act} {w : World} (R : World → Prop) (hR : R w) (h : ∀ W, R W → mixW P ops K p (fun v => ∃ e, v = plus W e) a W) : mixW P ops K p (fun v => ∃ e, v = plus w e) a w := h w hR
end Go.Proofs.YtcgbokgedfekkaaDoor
