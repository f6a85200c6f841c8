/- Texts that stand behind one another: RefC, Mix, MixS, MixT, Cut. No condition. -/
import Derived.Test.YtkogehkmldbhgaaDoorP4
import Derived.OrdersHeld
/- The walks of the reference's primes, New. No condition. -/
namespace Go.Proofs.YtkogehkmldbhgaaDoor
open Go.RowKit
/-- the k-th number that is tried -/
def pN (k : Nat) : UInt64 := UInt64.ofNat (k + 2)
theorem pN_val (k : Nat) (h : k ≤ 1000) : n64 (pN k) = (k : Int) + 2 := by
  unfold n64 pN; rw [UInt64.toNat_ofNat_of_lt' (by show _ < 18446744073709551616; omega)]; omega
theorem pN_nz (k : Nat) (h : k ≤ 1000) : pN k ≠ 0 := fun e => by
  have h1 := pN_val k h
  rw [e] at h1
  have h2 : n64 0 = 0 := rfl
  omega
/-- the primes below k + 2 -/
def pl : Nat → List UInt64
  | 0 => []
  | k + 1 => if (pl k).all (fun q => pN k % q != 0) then pl k ++ [pN k] else pl k
theorem pl_mono : ∀ (k d : Nat), (pl k).length ≤ (pl (k + d)).length
  | k, 0 => Nat.le_refl _
  | k, d + 1 => Nat.le_trans (pl_mono k d) (by
      show (pl (k + d)).length ≤ (pl (k + d + 1)).length
      rw [pl]; split
      · simp
      · exact Nat.le_refl _)
theorem pl_succ (k : Nat) : pl (k + 1) = if (pl k).all (fun q => pN k % q != 0) then pl k ++ [pN k] else pl k := rfl
theorem pl_309 : (pl 309).length = 63 := by decide +kernel
theorem pl_310 : pl 310 = primeL := by decide +kernel
theorem pl_lt (k : Nat) (h : k < 310) : (pl k).length < 64 := by
  have := pl_mono k (309 - k)
  rw [show k + (309 - k) = 309 by omega, pl_309] at this; omega
theorem pl_nz : ∀ k, k ≤ 310 → ∀ x ∈ pl k, x ≠ 0
  | 0, _, _, h => by simp [pl] at h
  | k + 1, hk, x, h => by
    rw [pl] at h
    split at h
    · rcases List.mem_append.1 h with h | h
      · exact pl_nz k (by omega) x h
      · rw [List.mem_singleton] at h
        subst h
        exact pN_nz k (by omega)
    · exact pl_nz k (by omega) x h
/-- the inner loop's flag -/
def isP (l : List UInt64) (p : UInt64) : Nat → Bool
  | 0 => true
  | i + 1 => isP l p i && p % l.getD i 0 != 0
theorem isP_all (l : List UInt64) (p : UInt64) : ∀ i, i ≤ l.length → isP l p i = (l.take i).all (fun q => p % q != 0)
  | 0, _ => by simp [isP]
  | i + 1, h => by
    rw [isP, isP_all l p i (by omega), List.take_succ_eq_append_getElem (by omega), List.all_append, List.getD_eq_getElem?_getD, List.getElem?_eq_getElem (by omega)]
    simp
theorem wrap_mod64 (x y : UInt64) : IntKind.u64.wrap ((n64 x).tmod (n64 y)) = n64 (x % y) := by
  rw [wrap_u64', Int.tmod_eq_emod_of_nonneg (n64_lo _)]
  unfold n64
  rw [UInt64.toNat_mod]
  have := Nat.mod_le x.toNat y.toNat
  have := x.toNat_lt
  omega
theorem tmod64 (x y : UInt64) : (n64 x).tmod (n64 y) = n64 (x % y) := by
  rw [Int.tmod_eq_emod_of_nonneg (n64_lo _)]
  unfold n64
  rw [UInt64.toNat_mod]; rfl
theorem n64_bne0 (z : UInt64) : (n64 z != 0) = (z != 0) := by
  by_cases h : z = 0
  · subst h; rfl
  · have : n64 z ≠ 0 := fun e => h (n64_inj (by rw [e]; rfl))
    rw [bne_iff_ne.2 this, bne_iff_ne.2 h]
theorem Reads.own {w : World} {base : Nat} {e : TypeId} {n : Nat} {v : Value} {xs : List Value} (h : w.ownsRow base e 1 v n xs) : ∃ A cap, v = .slice A n cap ∧ n ≤ cap ∧ cap ≤ 9223372036854775807 ∧ Reads w w.heap.size A xs := by
  rcases h.2 with ⟨rfl, h0⟩ | ⟨g, cap, cur, hv, _, _, hnc, hcap, _, _⟩
  · subst h0
    have : xs = [] := List.eq_nil_of_length_eq_zero (by have := h.1; omega)
    subst this
    exact ⟨none, 0, rfl, Nat.le_refl _, by decide, Reads.nil_⟩
  · subst hv
    exact ⟨_, cap, rfl, hnc, hcap, Reads.of_own h⟩
theorem own_none (w : World) (base : Nat) (e : TypeId) : w.ownsRow base e 1 (.slice none 0 0) ([] : List Value).length [] := ⟨rfl, .inl ⟨rfl, rfl⟩⟩
attribute [local go_sem] and64_c wrap_n64 wrap_mod64 wrap_add64 wrap_sub64 n64_lo n64_hi
theorem own_below {w w' : World} {base : Nat} {e : TypeId} {size n : Nat} {v : Value} {xs : List Value} (h : w.ownsRow base e size v n xs) (hb : Below w.heap.size w w') : w'.ownsRow base e size v n xs := by
  refine ⟨h.1, ?_⟩
  rcases h.2 with h0 | ⟨g, cap, cur, hv, hbs, hh, hrest⟩
  · exact .inl h0
  · exact .inr ⟨g, cap, cur, hv, hbs, Blk.below (show Blk w g e cur from hh) hb (Blk.lt (show Blk w g e cur from hh)), hrest⟩
set_option maxRecDepth 100000 in
theorem primes_any (w : World) :
    Calls Tryd.prog 55 #[.int .i64 64] w fun e w' => ∃ v, e = .returned v ∧ w'.ownsRow w.heap.size 22 1 v 64 (primeL.map v64) ∧ Below w.heap.size w w' := by
  obtain ⟨i0, hi, hz0, hz1, hz2⟩ := info_parts (by kernel_rfl : (Tryd.prog.info? 22).map (fun i => (i.zero, i.size, i.bytes)) = some (some (.int .u64 0), 1, 8))
  go_enter Tryd.func55, Tryd.ntmps55
  go_wp2
  go_loopw [3, 4] (fun v p wr => ∃ k : Nat, k ≤ 310 ∧ wr.ownsRow w.heap.size 22 1 v ((pl k).map v64).length ((pl k).map v64) ∧ p = .int .u64 (n64 (pN k)) ∧ Below w.heap.size w wr) (fun _ p _ => 400 - (intOf p).toNat)
  case atStart => exact ⟨0, by omega, own_none _ _ _, rfl, Below.refl _ _⟩
  case round =>
    obtain ⟨k, hk, hown, rfl, hbel⟩ := hrel
    obtain ⟨A, cap, rfl, hc1, hc2, hr⟩ := Reads.own hown
    rw [List.length_map] at *
    by_cases hlt : k < 310
    · have hl := pl_lt k hlt
      have hnz := pl_nz k (by omega)
      have hpl := pl_succ k
      have hall := isP_all (pl k) (pN k) (pl k).length (Nat.le_refl _)
      rw [List.take_length] at hall
      rw [← hall] at hpl
      have hpb := pN_val k (by omega)
      have hpb' := pN_val (k + 1) (by omega)
      have hnx : n64 (pN k) + 1 = n64 (pN (k + 1)) := by rw [hpb, hpb']; omega
      clear hall
      have Hpl := Lib.hid hpl
      have Hpb := Lib.hid (And.intro hpb hpb')
      clear hpl hpb hpb'
      go_wp2_with fail
      go_loopw [5, 6] (fun b iv wr' => ∃ i : Nat, i ≤ (pl k).length ∧ iv = .int .i64 i ∧ b = .bool (isP (pl k) (pN k) i) ∧ wr' = wr) (fun _ iv _ => (pl k).length - (intOf iv).toNat)
      case atStart => exact ⟨0, by omega, rfl, rfl, rfl⟩
      case round =>
        obtain ⟨i, hil, rfl, rfl, rfl⟩ := hrel
        by_cases hi' : i < (pl k).length
        · obtain ⟨g, off, rfl, hg, hc⟩ := hr (by rw [List.length_map]; omega)
          have cq := hc i _ (v64_at (pl k) i hi')
          have hq0 : n64 ((pl k).getD i 0) ≠ 0 := by
            have h9 := hnz ((pl k).getD i 0) (by rw [List.getD_eq_getElem?_getD, List.getElem?_eq_getElem hi']; exact List.getElem_mem _)
            intro e; exact h9 (n64_inj (by rw [e]; rfl))
          have e1 : isP (pl k) (pN k) (i + 1) = (isP (pl k) (pN k) i && (pN k % (pl k).getD i 0 != 0)) := rfl
          have He := Lib.hid e1
          clear e1 hc hnz hown hr
          generalize hqq : (pl k).getD i 0 = q at *
          have Hqq := Lib.hid hqq
          clear hqq
          cases hb : isP (pl k) (pN k) i with
          | true =>
            have Hb := Lib.hid hb
            clear hb
            go_wp2_with fail
            go_roundw
            case rel =>
              refine ⟨i + 1, by omega, by go_num, ?_, by trivial⟩
              rw [He.out, Hb.out, tmod64, n64_bne0, Bool.true_and]
            case measure => simp [intOf]; omega
          | false =>
            have Hb := Lib.hid hb
            clear hb
            go_wp2_with fail
            go_roundw
            case rel => exact ⟨i + 1, by omega, by go_num, by rw [He.out, Hb.out]; rfl, by trivial⟩
            case measure => simp [intOf]; omega
        · have ei : i = (pl k).length := by omega
          subst ei
          have s1 := Lib.hid (show ((pl k).map v64).length + 1 ≤ maxLen by unfold maxLen; simp; omega)
          have s2 := Lib.hid (show (((pl k).map v64).length + 1) * 8 ≤ 140737488355328 by simp; omega)
          have hownA : wr.ownsRow w.heap.size 22 1 (.slice A (pl k).length cap) ((pl k).map v64).length ((pl k).map v64) := by rw [List.length_map]; exact hown
          clear hown
          cases hb : isP (pl k) (pN k) (pl k).length with
          | true =>
            have e2 := Hpl.out
            rw [hb, if_pos rfl] at e2
            have He := Lib.hid e2
            have Hb := Lib.hid hb
            clear hb e2
            go_wp2_with (first
              | (at_builtin; refine wpList_appendR rfl (.tmp 30) (.tmp 32) _ rfl w.heap.size 22 i0 _ 8 Tryd.underlying23 hi hz0 hz1 hz2 rfl _ _ rfl (own_below hownA (below_new1 wr _)) (wr.heap.size + 1) (some ⟨wr.heap.size, 0, none⟩) 1 1 [v64 (pN k)] rfl (show Reads (wr.alloc (Obj.cells #[v64 (pN k)] 22)) (wr.heap.size + 1) (some ⟨wr.heap.size, 0, none⟩) [v64 (pN k)] from Reads.of_blk (Blk.new wr 22 #[v64 (pN k)]) (by omega) 0) rfl (fun u hu => by rw [List.mem_singleton] at hu; subst hu; rfl) s1.out s2.out (Nat.le_trans hbel.size (below_new1 wr _).size) ?_; intro u1 w1 hown1 hg1 hat1; have hb1 := below_own (hbel.trans ((below_new1 wr _).mono hbel.size)) (own_below hownA (below_new1 wr _)) hg1 (Nat.le_trans hbel.size (below_new1 wr _).size)))
            go_roundw
            case rel =>
              refine ⟨k + 1, by omega, ?_, rfl, hb1⟩
              rw [He.out, List.map_append]; exact hown1
            case measure => have := Hpb.out; simp only [intOf]; omega
          | false =>
            have e2 := Hpl.out
            rw [hb, if_neg (by simp)] at e2
            have He := Lib.hid e2
            have Hb := Lib.hid hb
            clear hb e2
            go_wp2_with fail
            go_roundw
            case rel =>
              refine ⟨k + 1, by omega, ?_, rfl, hbel⟩
              rw [He.out]; exact hownA
            case measure => have := Hpb.out; simp only [intOf]; omega
    · have ek : k = 310 := by omega
      subst ek
      rw [pl_310] at *
      have hpl : primeL.length = 64 := rfl
      rw [hpl] at *
      clear hpl
      go_wp2
      go_ret
      exact ⟨_, rfl, hown, hbel⟩
theorem arr_table : (List.replicate 72 (Value.int .u32 0)).toArray = (((List.replicate 64 (0 : UInt32)) ++ (List.replicate 8 (0 : UInt32))).map v32).toArray := by rfl
end Go.Proofs.YtkogehkmldbhgaaDoor

/- A region that draws its order: plain operations have one value in every world of a class and are taken as soon as they may come up; what is left comes up alone (or two at a time) and is walked by itself. No condition. -/
namespace Go.Proofs.YtkogehkmldbhgaaDoor
open Go Go.RowKit
/-- No way out but K. -/
def OnlyK (K : Act → World → Prop) : Exit → Act → World → Prop
  | .normal, a, w => K a w
  | _, _, _ => False
theorem onlyK_imp {Q : Exit → Act → World → Prop} : ∀ (e : Exit) (a : Act) (w : World), OnlyK (Q .normal) e a w → Q e a w := fun e a w h => by
  cases e <;> first | exact h | exact (h : False).elim
theorem onlyK_out {K : Act → World → Prop} : ¬ LetsOut (OnlyK K) := fun ⟨_, _, h⟩ => h
/-- operations that yield a value and touch nothing -/
def plainOp (o : Oper) : Bool :=
  match o.op with
  | .move _ | .assign _ | .load _ _ | .binOp _ _ _ _ _ | .unOp _ _ _ | .convert _ _ _ | .slice _ _ _ _ _ | .fieldAddr _ _ _ | .field _ _ _ | .indexAddr _ _ _ | .index _ _ _ | .extract _ _ | .build _ _ | .makeFunc _ _ _ | .pick _ _ _ | .makeInterface _ _ | .nilCheck _ => true
  | .call c => match c.callee with
    | .builtin .len | .builtin .cap | .builtin .min | .builtin .max => true
    | _ => false
  | _ => false
/-- How a region is walked. -/
inductive Plan where
  | done
  | plain (i : Nat) (p : Plan)
  | only (i : Nat) (p : Plan)
  | two (i j : Nat) (p q : Plan)
section
variable {P : Program} {ops : Array Oper} {md : Region.Mode} {Q : Exit → Act → World → Prop} {S : World → Prop}
theorem run_value_only {s : Sem Value} {w w' : World} {n : Next} (h : (do pure (Next.value (← s)) : Sem Next).run P w = .ok n w') : ∃ v, n = .value v := by
  simp only [Sem.run_bind] at h
  generalize s.run P w = r at h
  cases r with
  | ok x w1 =>
    rw [Result.andThen_ok, Sem.run_pure] at h
    injection h with h1 h2
    exact ⟨x, h1.symm⟩
  | halt x w1 => cases h
theorem run_bind_only {α : Type} {s : Sem α} {f : α → Sem Next} {w w' : World} {n : Next} (hf : ∀ x w1 w2 n, (f x).run P w1 = .ok n w2 → ∃ v, n = .value v) (h : (s >>= f).run P w = .ok n w') : ∃ v, n = .value v := by
  rw [Sem.run_bind] at h
  generalize s.run P w = r at h
  cases r with
  | ok x w1 => rw [Result.andThen_ok] at h; exact hf _ _ _ _ h
  | halt x w1 => cases h
theorem plain_value {o : Oper} (hp : plainOp o = true) {a : Act} {w w' : World} {n : Next} (h : (execOp a.eval o).run P w = .ok n w') : ∃ v, n = .value v := by
  unfold plainOp at hp
  unfold execOp at h
  split at hp <;> rename_i ho <;> simp only [ho] at h <;> try exact run_value_only h
  · rw [Sem.run_pure] at h; injection h with h1 _; exact ⟨_, h1.symm⟩
  · rw [Sem.run_pure] at h; injection h with h1 _; exact ⟨_, h1.symm⟩
  · simp only [Sem.run_bind] at h
    generalize (asBool _).run P w = r at h
    cases r with
    | ok x w1 => rw [Result.andThen_ok, Sem.run_pure] at h; injection h with h1 _; exact ⟨_, h1.symm⟩
    | halt x w1 => cases h
  · generalize a.eval _ = x at h
    split at h
    · simp [runtimePanic] at h
    · simp [runtimePanic] at h
    · simp [runtimePanic] at h
    · split at h
      · simp [runtimePanic] at h
      · refine run_bind_only (fun x w1 w2 n h => run_bind_only (fun b w3 w4 n h => ?_) h) h
        split at h
        · exact run_bind_only (fun _ w5 w6 n h => by rw [Sem.run_pure] at h; injection h with h1 _; exact ⟨_, h1.symm⟩) h
        · rw [Sem.run_pure] at h; injection h with h1 _; exact ⟨_, h1.symm⟩
      · rw [Sem.run_pure] at h; injection h with h1 _; exact ⟨_, h1.symm⟩
    · rw [Sem.run_pure] at h; injection h with h1 _; exact ⟨_, h1.symm⟩
  · split at hp
    · rename_i hc
      simp only [resolve, hc, Sem.run_bind, Sem.run_pure, Result.andThen_ok, invoke, builtin] at h
      exact run_value_only (by simpa only [Sem.run_bind, Sem.run_pure] using h)
    · rename_i hc
      simp only [resolve, hc, Sem.run_bind, Sem.run_pure, Result.andThen_ok, invoke, builtin] at h
      exact run_value_only (by simpa only [Sem.run_bind, Sem.run_pure] using h)
    · rename_i hc
      simp only [resolve, hc, Sem.run_bind, Sem.run_pure, Result.andThen_ok, invoke, builtin] at h
      exact run_value_only (by simpa only [Sem.run_bind, Sem.run_pure] using h)
    · rename_i hc
      simp only [resolve, hc, Sem.run_bind, Sem.run_pure, Result.andThen_ok, invoke, builtin] at h
      exact run_value_only (by simpa only [Sem.run_bind, Sem.run_pure] using h)
    · cases hp
  · cases hp
/-- Whatever order is picked from here on; behind each operation the class may shrink. -/
def wpAnyM (P : Program) (md : Region.Mode) (ops : Array Oper) (Q : Exit → Act → World → Prop) : Nat → (World → Prop) → Array Bool → Act → World → Prop
  | 0, _, listed, a, w => Region.ready md ops listed = [] ∧ Q .normal a w
  | fuel + 1, S, listed, a, w =>
    (Region.ready md ops listed = [] → Q .normal a w) ∧
    ∀ i ∈ Region.ready md ops listed, wpOp P ops Q i (fun a' w' => ∃ S' : World → Prop, (∀ w, S' w → S w) ∧ S' w' ∧ wpAnyM P md ops Q fuel S' (listed.setIfInBounds i true) a' w') a w
theorem wpAny_of_mix : ∀ (fuel : Nat) (S : World → Prop) (listed : Array Bool) (a : Act) (w : World), wpAnyM P md ops Q fuel S listed a w → wpAny P md ops Q fuel listed a w
  | 0, _, _, _, _, h => h
  | fuel + 1, _, _, _, _, h => ⟨h.1, fun i hi => wpOp_mono (fun a' w' ⟨_, _, _, h'⟩ => wpAny_of_mix fuel _ _ a' w' h') (h.2 i hi)⟩
theorem yieldsIf_less {S' : World → Prop} {o : Oper} {v : Value} {a : Act} (h : YieldsIf P ops S o v a) (hS : ∀ w, S' w → S w) : YieldsIf P ops S' o v a :=
  h.imp (fun ⟨h1, h2⟩ => ⟨h1, fun w hw => h2 w (hS w hw)⟩) id
theorem wpAnyM_first {i : Nat} {oi : Oper} {v : Value} (hi : ops[i]? = some oi) (hsel : ∀ (j : Nat) (o : Oper) cs b, ops[j]? = some o → o.op ≠ .select cs b)
    (hQ : ∀ c a w, Q (.panic c) (a.put oi.dst v) w → Q (.panic c) a w) :
    ∀ (fuel : Nat) (S : World → Prop) (listed : Array Bool) (a : Act) (w : World),
      (∀ j oj, ops[j]? = some oj → j ≠ i → listed.getD j true = false → (∀ e ∈ oj.after, Region.binds md e = true → e.on ≠ i) → oi.apart ops oj = true) →
      i ∈ Region.ready md ops listed → YieldsIf P ops S oi v a → S w →
      wpAnyM P md ops Q fuel S (listed.setIfInBounds i true) (a.put oi.dst v) w → wpAnyM P md ops Q (fuel + 1) S listed a w := by
  intro fuel
  induction fuel with
  | zero =>
    intro S listed a w _ hr hy hS H
    refine ⟨fun h => (by rw [h] at hr; cases hr), fun j hj => ?_⟩
    by_cases hji : j = i
    · subst hji; exact hy.wpOp hi hS ⟨S, fun _ h => h, hS, H⟩
    · have := ready_mono hj hji
      rw [H.1] at this
      cases this
  | succ fuel ih =>
    intro S listed a w hfree hr hy hS H
    refine ⟨fun h => (by rw [h] at hr; cases hr), fun j hj => ?_⟩
    by_cases hji : j = i
    · subst hji; exact hy.wpOp hi hS ⟨S, fun _ h => h, hS, H⟩
    · have h1 := H.2 j (ready_mono hj hji)
      obtain ⟨hjun, oj, hoj, hall⟩ := mem_ready.1 hj
      have hnot : ∀ e ∈ oj.after, Region.binds md e = true → e.on ≠ i := fun e he hb heq => by
        have h1 := hall e he hb
        have h0 := (mem_ready.1 hr).1
        rw [heq] at h1
        rcases Nat.lt_or_ge i listed.size with h' | h'
        · simp [h'] at h0 h1; rw [h0] at h1; cases h1
        · simp [Array.getElem?_eq_none h'] at h1
      have h2 := wpOp_putIf hoj (hfree j oj hoj hji hjun hnot) (fun cs b => hsel i oi cs b hi) (fun cs b => hsel j oj cs b hoj) hQ hy h1
      have hfree' : ∀ k ok, ops[k]? = some ok → k ≠ i → (listed.setIfInBounds j true).getD k true = false →
          (∀ e ∈ ok.after, Region.binds md e = true → e.on ≠ i) → oi.apart ops ok = true := fun k ok hk hki hun hno => by
        refine hfree k ok hk hki ?_ hno
        by_cases hjk : j = k
        · subst hjk; exact hjun
        · rw [getD_set_ne true hjk] at hun; exact hun
      refine wpOp_mono (fun a' w' ⟨h3, S', h4, h5, h6⟩ => ⟨S', h4, h5, ih S' (listed.setIfInBounds j true) a' w' hfree' (ready_mono hr (Ne.symm hji)) (yieldsIf_less h3 h4) h5 ?_⟩) h2
      rw [Array.setIfInBounds_comm _ _ hji]
      exact h6
/-- the goal of a walk by a plan -/
def mixW (P : Program) (ops : Array Oper) (K : Act → World → Prop) : Plan → (World → Prop) → Act → World → Prop
  | .done, _, a, w => K a w
  | .plain i p, S, a, w => match ops[i]? with
    | none => False
    | some o => wpQuiet P ops S (fun a' => mixW P ops K p S a' w) [o] a
  | .only i p, S, a, w => match ops[i]? with
    | none => False
    | some o => wpList P ops (OnlyK fun a' w' => ∃ S' : World → Prop, (∀ w, S' w → S w) ∧ S' w' ∧ mixW P ops K p S' a' w') [o] a w
  | .two i j p q, S, a, w => (match ops[i]? with
    | none => False
    | some o => wpList P ops (OnlyK fun a' w' => ∃ S' : World → Prop, (∀ w, S' w → S w) ∧ S' w' ∧ mixW P ops K p S' a' w') [o] a w) ∧ (match ops[j]? with
    | none => False
    | some o => wpList P ops (OnlyK fun a' w' => ∃ S' : World → Prop, (∀ w, S' w → S w) ∧ S' w' ∧ mixW P ops K q S' a' w') [o] a w)
def Plan.len : Plan → Nat
  | .done => 0
  | .plain _ p => p.len + 1
  | .only _ p => p.len + 1
  | .two _ _ p _ => p.len + 1
def mixB (md : Region.Mode) (ops : Array Oper) : Plan → Array Bool → Bool
  | .done, listed => (Region.ready md ops listed).isEmpty
  | .plain i p, listed => Region.free md ops listed i && (Region.ready md ops listed).contains i && ((ops[i]?).map plainOp).getD false && mixB md ops p (listed.setIfInBounds i true)
  | .only i p, listed => (Region.ready md ops listed == [i]) && mixB md ops p (listed.setIfInBounds i true)
  | .two i j p q, listed => (Region.ready md ops listed == [i, j]) && (p.len == q.len) && mixB md ops p (listed.setIfInBounds i true) && mixB md ops q (listed.setIfInBounds j true)
theorem wpOp_of_list {i : Nat} {o : Oper} (ho : ops[i]? = some o) {K : Act → World → Prop} {a : Act} {w : World} (h : wpList P ops (OnlyK K) [o] a w) : wpOp P ops (OnlyK (Q .normal)) i K a w := by
  unfold wpOp
  simp only [ho]
  unfold wpList at h
  split
  · rename_i hw
    rw [if_pos hw] at h
    rcases h with h | h
    · refine .inl ?_
      unfold Oper.wp at *
      generalize (execOp a.eval o).run P w = r at *
      cases r with
      | ok n w' =>
        cases n <;> simp only [Oper.upon] at h ⊢ <;>
          first
            | exact h
            | exact Calls.mono h (fun e w'' he => by cases e <;> first | exact he | exact (he : False).elim | exact (onlyK_out he).elim)
            | exact Rows.mono h (fun _ _ he => he)
      | halt x w' => cases x <;> simp only [Oper.upon] at h ⊢ <;> first | exact h | exact (h : False).elim
    · exact (onlyK_out h.2).elim
  · rename_i hw
    rw [if_neg hw] at h
    exact h
theorem yieldsIf_of_quiet {o : Oper} (hp : plainOp o = true) {K : Act → Prop} {a : Act} (h : wpQuiet P ops S K [o] a) : ∃ v, YieldsIf P ops S o v a ∧ K (a.put o.dst v) := by
  unfold wpQuiet at h
  split at h
  · rename_i hw
    obtain ⟨v, h1, h2⟩ := h
    refine ⟨v, .inl ⟨hw, fun w hS => ?_⟩, h2⟩
    have h3 := h1 w hS
    unfold Oper.quietAt at h3
    generalize hr : (execOp a.eval o).run P w = r at h3
    cases r with
    | ok n w' =>
      obtain ⟨u, rfl⟩ := plain_value hp hr
      simp only [Oper.quietUpon] at h3
      rw [h3.1, h3.2]
    | halt x w' => exact h3.elim
  · rename_i hw
    exact ⟨undef, .inr ⟨by simpa using hw, rfl⟩, h⟩
theorem wpAnyM_of_mix (hsel : Region.noSelect ops = true) : ∀ (p : Plan) (S : World → Prop) (listed : Array Bool) (a : Act) (w : World), mixB md ops p listed = true → S w → mixW P ops (Q .normal) p S a w →
    wpAnyM P md ops (OnlyK (Q .normal)) p.len S listed a w
  | .done, S, listed, a, w, hB, hS, h => ⟨by simpa [mixB] using hB, h⟩
  | .plain i p, S, listed, a, w, hB, hS, h => by
    simp only [mixB, Bool.and_eq_true] at hB
    obtain ⟨⟨⟨hf, hr⟩, hp⟩, hB⟩ := hB
    unfold mixW at h
    cases ho : ops[i]? with
    | none => rw [ho] at h; exact h.elim
    | some o =>
      rw [ho] at h hp
      obtain ⟨v, hy, hK⟩ := yieldsIf_of_quiet (by simpa using hp) h
      exact wpAnyM_first ho (Region.noSelect_spec hsel) (fun _ _ _ h => h) _ S listed a w (Region.free_spec ho hf) (by simpa using hr) hy hS (wpAnyM_of_mix hsel p S _ _ w hB hS hK)
  | .only i p, S, listed, a, w, hB, hS, h => by
    simp only [mixB, Bool.and_eq_true, beq_iff_eq] at hB
    obtain ⟨hr, hB⟩ := hB
    unfold mixW at h
    refine ⟨fun h0 => (by rw [hr] at h0; cases h0), fun j hj => ?_⟩
    rw [hr, List.mem_singleton] at hj
    subst hj
    cases ho : ops[j]? with
    | none => rw [ho] at h; exact h.elim
    | some o =>
      rw [ho] at h
      exact wpOp_mono (fun a' w' ⟨S', h1, h2, h3⟩ => ⟨S', h1, h2, wpAnyM_of_mix hsel p S' _ a' w' hB h2 h3⟩) (wpOp_of_list ho h)
  | .two i k p q, S, listed, a, w, hB, hS, h => by
    simp only [mixB, Bool.and_eq_true, beq_iff_eq] at hB
    obtain ⟨⟨⟨hr, hl⟩, hB1⟩, hB2⟩ := hB
    unfold mixW at h
    refine ⟨fun h0 => (by rw [hr] at h0; cases h0), fun j hj => ?_⟩
    rw [hr] at hj
    rcases List.mem_cons.1 hj with rfl | hj
    · cases ho : ops[j]? with
      | none => rw [ho] at h; exact h.1.elim
      | some o =>
        rw [ho] at h
        exact wpOp_mono (fun a' w' ⟨S', h1, h2, h3⟩ => ⟨S', h1, h2, wpAnyM_of_mix hsel p S' _ a' w' hB1 h2 h3⟩) (wpOp_of_list ho h.1)
    · rw [List.mem_singleton] at hj
      subst hj
      cases ho : ops[j]? with
      | none => rw [ho] at h; exact h.2.elim
      | some o =>
        rw [ho] at h
        show wpOp P ops _ _ (fun a' w' => ∃ S' : World → Prop, (∀ w, S' w → S w) ∧ S' w' ∧ wpAnyM P md ops (OnlyK (Q .normal)) p.len S' _ a' w') a w
        rw [hl]
        exact wpOp_mono (fun a' w' ⟨S', h1, h2, h3⟩ => ⟨S', h1, h2, wpAnyM_of_mix hsel q S' _ a' w' hB2 h2 h3⟩) (wpOp_of_list ho h.2)
/-- A region that draws its order, walked by a plan: the Bool is closed. -/
theorem wp_region_mix {id : Nat} {a : Act} {w : World} {l : List Oper} (p : Plan) (S : World → Prop) (hm : P.follows .mixedOrders = true)
    (hB : (Region.noSelect l.toArray && (p.len == l.length) && mixB .any l.toArray p (Array.replicate l.length false)) = true) (hS : S (w.drewN 1))
    (h : mixW P l.toArray (Q .normal) p S a (w.drewN 1)) : (Code.region id l.toArray true).wp P Q a w := by
  simp only [Bool.and_eq_true, beq_iff_eq] at hB
  obtain ⟨⟨hs, hl⟩, hB⟩ := hB
  refine Code.wp_mono (Q := OnlyK (Q .normal)) onlyK_imp (wp_region_any hm ?_)
  have := wpAny_of_mix _ _ _ _ _ (wpAnyM_of_mix (P := P) (Q := Q) hs p S _ a _ hB hS h)
  rw [hl] at this
  exact this
theorem in_plus {w : World} : (fun v => ∃ e, v = plus w e) w := ⟨⟨#[], w.drawn⟩, by simp [plus]⟩
/-- The same, where all but the plain operations only make memory. -/
theorem wp_region_mixP {id : Nat} {a : Act} {w : World} {l : List Oper} (p : Plan) (hm : P.follows .mixedOrders = true)
    (hB : (Region.noSelect l.toArray && (p.len == l.length) && mixB .any l.toArray p (Array.replicate l.length false)) = true)
    (h : ∀ W, Below w.heap.size w W → mixW P l.toArray (Q .normal) p (fun v => ∃ e, v = plus W e) a W) : (Code.region id l.toArray true).wp P Q a w :=
  wp_region_mix p (fun v => ∃ e, v = plus (w.drewN 1) e) hm hB (in_plus (w := w.drewN 1)) (h _ (below_drewN (Below.refl _ w) 1))
/-- the operation at a place, as the walk reads it -/
def opAt : List Oper → Nat → Option Oper
  | [], _ => none
  | o :: _, 0 => some o
  | _ :: l, n + 1 => opAt l n
theorem opAt_eq : ∀ (l : List Oper) (i : Nat), l.toArray[i]? = opAt l i
  | [], i => by simp [opAt]
  | o :: l, 0 => by simp [opAt]
  | o :: l, n + 1 => by have := opAt_eq l n; simp only [List.getElem?_toArray] at this; simp [opAt, this]
section
variable {l : List Oper} {K : Act → World → Prop} {p q : Plan} {i j : Nat} {o o' : Oper} {a : Act} {w : World}
theorem mix_done (h : K a w) : mixW P l.toArray K .done S a w := h
theorem mix_plain (ho : opAt l i = some o) (h : wpQuiet P l.toArray S (fun a' => mixW P l.toArray K p S a' w) [o] a) : mixW P l.toArray K (.plain i p) S a w := by
  unfold mixW; rw [opAt_eq, ho]; exact h
/-- behind an operation that makes memory alone, the class is what lies behind it -/
theorem mix_only (ho : opAt l i = some o) (h : ∀ K' : Act → World → Prop, (∀ a' w', Below w.heap.size w w' → mixW P l.toArray K p (fun v => ∃ e, v = plus w' e) a' w' → K' a' w') → wpList P l.toArray (OnlyK K') [o] a w) :
    mixW P l.toArray K (.only i p) (fun v => ∃ e, v = plus w e) a w := by
  unfold mixW; rw [opAt_eq, ho]
  refine h _ fun a' w' hb' h' => ⟨_, fun v hv => ?_, in_plus, h'⟩
  obtain ⟨e, rfl⟩ := hv
  exact below_plus (hb'.trans ((plus_below w' e).mono hb'.size))
/-- the same at any class -/
theorem mix_only_in (ho : opAt l i = some o) (h : ∀ K' : Act → World → Prop, (∀ a' w', S w' → mixW P l.toArray K p S a' w' → K' a' w') → wpList P l.toArray (OnlyK K') [o] a w) : mixW P l.toArray K (.only i p) S a w := by
  unfold mixW; rw [opAt_eq, ho]
  exact h _ fun a' w' hS h' => ⟨S, fun _ h => h, hS, h'⟩
theorem mix_two_in (ho : opAt l i = some o) (ho' : opAt l j = some o')
    (h : ∀ K' : Act → World → Prop, (∀ a' w', S w' → mixW P l.toArray K p S a' w' → K' a' w') → wpList P l.toArray (OnlyK K') [o] a w)
    (h' : ∀ K' : Act → World → Prop, (∀ a' w', S w' → mixW P l.toArray K q S a' w' → K' a' w') → wpList P l.toArray (OnlyK K') [o'] a w) :
    mixW P l.toArray K (.two i j p q) S a w := by
  unfold mixW; rw [opAt_eq l i, opAt_eq l j, ho, ho']
  exact ⟨h _ fun a' w' hS h' => ⟨S, fun _ h => h, hS, h'⟩, h' _ fun a' w' hS h' => ⟨S, fun _ h => h, hS, h'⟩⟩
/-- the class at an elder world W; behind the operation it is what lies behind the world at hand -/
theorem mix_only_to {W : World} (ho : opAt l i = some o) (h : ∀ K' : Act → World → Prop, (∀ a' w', Below W.heap.size W w' → mixW P l.toArray K p (fun v => ∃ e, v = plus w' e) a' w' → K' a' w') → wpList P l.toArray (OnlyK K') [o] a w) :
    mixW P l.toArray K (.only i p) (fun v => ∃ e, v = plus W e) a w := by
  unfold mixW; rw [opAt_eq, ho]
  refine h _ fun a' w' hb' h' => ⟨_, fun v hv => ?_, in_plus, h'⟩
  obtain ⟨e, rfl⟩ := hv
  exact below_plus (hb'.trans ((plus_below w' e).mono hb'.size))
theorem mix_two (ho : opAt l i = some o) (ho' : opAt l j = some o')
    (h : ∀ K' : Act → World → Prop, (∀ a' w', Below w.heap.size w w' → mixW P l.toArray K p (fun v => ∃ e, v = plus w' e) a' w' → K' a' w') → wpList P l.toArray (OnlyK K') [o] a w)
    (h' : ∀ K' : Act → World → Prop, (∀ a' w', Below w.heap.size w w' → mixW P l.toArray K q (fun v => ∃ e, v = plus w' e) a' w' → K' a' w') → wpList P l.toArray (OnlyK K') [o'] a w) :
    mixW P l.toArray K (.two i j p q) (fun v => ∃ e, v = plus w e) a w := by
  have h1 := mix_only (p := p) ho h
  have h2 := mix_only (p := q) ho' h'
  unfold mixW at h1 h2 ⊢
  rw [opAt_eq l i, ho] at h1; rw [opAt_eq l j, ho'] at h2
  rw [opAt_eq l i, opAt_eq l j, ho, ho']
  exact ⟨h1, h2⟩
end
end
end Go.Proofs.YtkogehkmldbhgaaDoor

/- MIX: an operation whose guard does not hold is skipped. No condition. -/
namespace Go.Proofs.YtkogehkmldbhgaaDoor
open Go Go.RowKit
section
variable {P : Program} {S : World → Prop} {l : List Oper} {K : Act → World → Prop} {p q : Plan} {i j : Nat} {o o' : Oper} {a : Act} {w : World}
theorem mix_skip (ho : opAt l i = some o) (hw : Region.wanted o (yielded l.toArray a.tmps) = false) (h : mixW P l.toArray K p S (a.put o.dst undef) w) : mixW P l.toArray K (.plain i p) S a w := by
  refine mix_plain ho ?_
  unfold wpQuiet
  rw [if_neg (by simp [hw])]
  exact h
/-- an operation whose guard holds is walked as one without a guard -/
theorem wpList_unguard {ops : Array Oper} {rest : List Oper} {Q : Exit → Act → World → Prop} (hw : Region.wanted o (yielded ops a.tmps) = true) (h : wpList P ops Q ({ o with guard := none } :: rest) a w) : wpList P ops Q (o :: rest) a w := by
  unfold wpList at h ⊢
  rw [if_pos hw]
  rw [if_pos (by simp [Region.wanted])] at h
  exact h
end
/-- the world at a call, by what is known of it -/
theorem calls_at {P : Program} {f : FuncId} {args : Array Value} {w : World} {R' : Ending → World → Prop} (R : World → Prop) (hR : R w) (h : ∀ W, R W → Calls P f args W R') : Calls P f args w R' := h w hR
theorem wpList_loadW {P : Program} {w : World} {ops : Array Oper} {rest : List Oper} {o : Oper} {a : Act} {Q : Exit → Act → World → Prop} (hw : Region.wanted o (yielded ops a.tmps) = true) (ty : TypeId) (x : Operand) (ho : o.op = .load ty x) (g : Nat) (hx : a.eval x = .pointer (some ⟨g, 0, none⟩)) (t : TypeId) (cs : Array Value) (d : TypeDesc)
    (hg : Blk w g t cs) (hu : P.underlying ty = some d) (hd : (match d with | .struct _ | .array _ _ => true | _ => false) = true) (hi : (P.info? ty).map (·.size) = some cs.size)
    (h : wpList P ops Q rest (a.put o.dst (.agg cs)) w) : wpList P ops Q (o :: rest) a w :=
  wpList_step fun K hK => by
    simp only [hw, if_true]
    unfold Oper.wp execOp
    simp only [ho, hx, Instr.loadAt, Instr.sureAddr, Sem.run_bind, Sem.run_pure, Result.andThen_ok, run_loadVar_row w g t ty cs _ d hg hu hd hi]
    exact hK _ _ h
theorem below_plusN {B : Nat} {W V : World} (h : Hid (B = W.heap.size)) (hb : Below B W V) : ∃ e, V = plus W e := below_plus (h.out ▸ hb)
theorem below_sizeN {B : Nat} {W V : World} (h : Hid (B = W.heap.size)) (hb : Below B W V) : B ≤ V.heap.size := by have := hb.size; have := h.out; omega
end Go.Proofs.YtkogehkmldbhgaaDoor

/- A region that draws its order, by a plan, with a forced tail: what stands last (a store, mostly) waits for all else, and is walked in its order behind it. No condition. -/
namespace Go.Proofs.YtkogehkmldbhgaaDoor
open Go Go.RowKit
def Never : Exit → Act → World → Prop := fun _ _ _ => False
theorem never_out : ¬ LetsOut Never := fun ⟨_, _, h⟩ => h
section
variable {P : Program} {ops : Array Oper} {md : Region.Mode} {Q : Exit → Act → World → Prop} {S : World → Prop} {n : Nat} {L : Array Bool → Act → World → Prop}
theorem wpOp_never {i : Nat} {K : Act → World → Prop} {a : Act} {w : World} (h : wpOp P ops Never i K a w) : wpOp P ops Q i K a w := by
  unfold wpOp at *
  split
  · rename_i ho; simp only [ho] at h; exact h
  · rename_i o ho
    simp only [ho] at h
    split
    · rename_i hw
      simp only [hw, if_true] at h
      rcases h with h | h
      · refine .inl ?_
        unfold Oper.wp at *
        generalize (execOp a.eval o).run P w = r at *
        cases r with
        | ok n w' =>
          cases n <;> simp only [Oper.upon] at h ⊢ <;>
            first
              | exact h
              | exact Calls.mono h (fun e w'' he => by cases e <;> first | exact he | exact (he : False).elim | exact (never_out he).elim)
              | exact Rows.mono h (fun _ _ he => he)
        | halt x w' => cases x <;> simp only [Oper.upon] at h ⊢ <;> first | exact h | exact (h : False).elim
      · exact (never_out h.2).elim
    · rename_i hw; simp only [hw] at h; exact h
def wpAnyT (P : Program) (md : Region.Mode) (ops : Array Oper) (n : Nat) (L : Array Bool → Act → World → Prop) : Nat → (World → Prop) → Array Bool → Act → World → Prop
  | 0, _, listed, a, w => L listed a w
  | fuel + 1, S, listed, a, w =>
    Region.ready md ops listed ≠ [] ∧
    ∀ i ∈ Region.ready md ops listed, i < n ∧ wpOp P ops Never i (fun a' w' => ∃ S' : World → Prop, (∀ w, S' w → S w) ∧ S' w' ∧ wpAnyT P md ops n L fuel S' (listed.setIfInBounds i true) a' w') a w
theorem wpAny_of_T {g : Nat} (hL : ∀ listed a w, L listed a w → wpAny P md ops Q g listed a w) : ∀ (fuel : Nat) (S : World → Prop) (listed : Array Bool) (a : Act) (w : World), wpAnyT P md ops n L fuel S listed a w → wpAny P md ops Q (fuel + g) listed a w
  | 0, _, _, _, _, h => by rw [Nat.zero_add]; exact hL _ _ _ h
  | fuel + 1, _, _, _, _, h => by
    rw [show fuel + 1 + g = (fuel + g) + 1 by omega]
    exact ⟨fun h0 => absurd h0 h.1, fun i hi => wpOp_never (wpOp_mono (fun a' w' ⟨_, _, _, h'⟩ => wpAny_of_T hL fuel _ _ a' w' h') (h.2 i hi).2)⟩
theorem wpAnyT_first {i : Nat} {oi : Oper} {v : Value} (hi : ops[i]? = some oi) (hsel : ∀ (j : Nat) (o : Oper) cs b, ops[j]? = some o → o.op ≠ .select cs b)
    (hs : Region.sinkB md ops n = true) (hc : Region.chainB md ops n = true) (hn : n < ops.size) (hin : i < n)
    (hdone : ∀ listed a w, L listed a w → ∀ j ∈ Region.ready md ops listed, n ≤ j) :
    ∀ (fuel : Nat) (S : World → Prop) (listed : Array Bool) (a : Act) (w : World), HeadInv md ops n listed →
      (∀ j oj, ops[j]? = some oj → j ≠ i → listed.getD j true = false → (∀ e ∈ oj.after, Region.binds md e = true → e.on ≠ i) → oi.apart ops oj = true) →
      i ∈ Region.ready md ops listed → YieldsIf P ops S oi v a → S w →
      wpAnyT P md ops n L fuel S (listed.setIfInBounds i true) (a.put oi.dst v) w → wpAnyT P md ops n L (fuel + 1) S listed a w := by
  intro fuel
  induction fuel with
  | zero =>
    intro S listed a w inv _ hr hy hS H
    have hun := (mem_ready.1 hr).1
    refine ⟨fun h => (by rw [h] at hr; cases hr), fun j hj => ?_⟩
    have hjn : j < n := by
      rcases Nat.lt_or_ge j n with h | h
      · exact h
      · exact absurd hj (tail_waits hs hc hn inv _ i rfl hin hun j h)
    refine ⟨hjn, ?_⟩
    by_cases hji : j = i
    · subst hji; exact hy.wpOp hi hS ⟨S, fun _ h => h, hS, H⟩
    · have := hdone _ _ _ H j (ready_mono hj hji)
      omega
  | succ fuel ih =>
    intro S listed a w inv hfree hr hy hS H
    have hun := (mem_ready.1 hr).1
    refine ⟨fun h => (by rw [h] at hr; cases hr), fun j hj => ?_⟩
    have hjn : j < n := by
      rcases Nat.lt_or_ge j n with h | h
      · exact h
      · exact absurd hj (tail_waits hs hc hn inv _ i rfl hin hun j h)
    refine ⟨hjn, ?_⟩
    by_cases hji : j = i
    · subst hji; exact hy.wpOp hi hS ⟨S, fun _ h => h, hS, H⟩
    · have h1 := (H.2 j (ready_mono hj hji)).2
      obtain ⟨hjun, oj, hoj, hall⟩ := mem_ready.1 hj
      have hnot : ∀ e ∈ oj.after, Region.binds md e = true → e.on ≠ i := fun e he hb heq => by
        have h1 := hall e he hb
        rw [heq, getD_both hun] at h1
        cases h1
      have h2 := wpOp_putIf hoj (hfree j oj hoj hji hjun hnot) (fun cs b => hsel i oi cs b hi) (fun cs b => hsel j oj cs b hoj) (fun _ _ _ h => h) hy h1
      have hfree' : ∀ k ok, ops[k]? = some ok → k ≠ i → (listed.setIfInBounds j true).getD k true = false →
          (∀ e ∈ ok.after, Region.binds md e = true → e.on ≠ i) → oi.apart ops ok = true := fun k ok hk hki hun hno => by
        refine hfree k ok hk hki ?_ hno
        by_cases hjk : j = k
        · subst hjk; exact hjun
        · rw [getD_set_ne true hjk] at hun; exact hun
      refine wpOp_mono (fun a' w' ⟨h3, S', h4, h5, h6⟩ => ⟨S', h4, h5, ih S' (listed.setIfInBounds j true) a' w' (inv.set hj hjn) hfree' (ready_mono hr (Ne.symm hji)) (yieldsIf_less h3 h4) h5 ?_⟩) h2
      rw [Array.setIfInBounds_comm _ _ hji]
      exact h6
def mixBT (md : Region.Mode) (ops : Array Oper) (n : Nat) : Plan → Array Bool → Bool
  | .done, listed => Region.seqB md ops (ops.size - n) n listed
  | .plain i p, listed => decide (i < n) && Region.free md ops listed i && (Region.ready md ops listed).contains i && ((ops[i]?).map plainOp).getD false && mixBT md ops n p (listed.setIfInBounds i true)
  | .only i p, listed => decide (i < n) && (Region.ready md ops listed == [i]) && mixBT md ops n p (listed.setIfInBounds i true)
  | .two _ _ _ _, _ => false
theorem wpOp_of_listN {i : Nat} {o : Oper} (ho : ops[i]? = some o) {K : Act → World → Prop} {a : Act} {w : World} (h : wpList P ops (OnlyK K) [o] a w) : wpOp P ops Never i K a w := by
  have h1 := wpOp_of_list (Q := fun _ _ _ => False) ho h
  unfold wpOp at *
  simp only [ho] at h1 ⊢
  split
  · rename_i hw
    simp only [hw, if_true] at h1
    rcases h1 with h1 | h1
    · refine .inl ?_
      unfold Oper.wp at *
      generalize (execOp a.eval o).run P w = r at *
      cases r with
      | ok n w' =>
        cases n <;> simp only [Oper.upon] at h1 ⊢ <;>
          first
            | exact h1
            | exact Calls.mono h1 (fun e w'' he => by cases e <;> first | exact he | exact (he : False).elim | exact (onlyK_out he).elim)
            | exact Rows.mono h1 (fun _ _ he => he)
      | halt x w' => cases x <;> simp only [Oper.upon] at h1 ⊢ <;> first | exact h1 | exact (h1 : False).elim
    · exact (onlyK_out h1.2).elim
  · rename_i hw; simp only [hw] at h1; exact h1
theorem wpAnyT_of_mix (hsel : Region.noSelect ops = true) (hs : Region.sinkB md ops n = true) (hc : Region.chainB md ops n = true) (hn : n < ops.size) (K : Act → World → Prop) :
    ∀ (p : Plan) (S : World → Prop) (listed : Array Bool) (a : Act) (w : World), HeadInv md ops n listed → mixBT md ops n p listed = true → S w → mixW P ops K p S a w →
    wpAnyT P md ops n (fun listed a w => Region.seqB md ops (ops.size - n) n listed = true ∧ K a w) p.len S listed a w
  | .done, S, listed, a, w, inv, hB, hS, h => ⟨hB, h⟩
  | .plain i p, S, listed, a, w, inv, hB, hS, h => by
    simp only [mixBT, Bool.and_eq_true, decide_eq_true_eq] at hB
    obtain ⟨⟨⟨⟨hin, hf⟩, hr⟩, hp⟩, hB⟩ := hB
    unfold mixW at h
    cases ho : ops[i]? with
    | none => rw [ho] at h; exact h.elim
    | some o =>
      rw [ho] at h hp
      obtain ⟨v, hy, hK⟩ := yieldsIf_of_quiet (by simpa using hp) h
      have hr' : i ∈ Region.ready md ops listed := by simpa using hr
      exact wpAnyT_first ho (Region.noSelect_spec hsel) hs hc hn hin (fun _ _ _ hL => seqB_ready hL.1) _ S listed a w inv (Region.free_spec ho hf) hr' hy hS (wpAnyT_of_mix hsel hs hc hn K p S _ _ w (inv.set hr' hin) hB hS hK)
  | .only i p, S, listed, a, w, inv, hB, hS, h => by
    simp only [mixBT, Bool.and_eq_true, beq_iff_eq, decide_eq_true_eq] at hB
    obtain ⟨⟨hin, hr⟩, hB⟩ := hB
    unfold mixW at h
    refine ⟨fun h0 => (by rw [hr] at h0; cases h0), fun j hj => ?_⟩
    rw [hr, List.mem_singleton] at hj
    subst hj
    refine ⟨hin, ?_⟩
    cases ho : ops[j]? with
    | none => rw [ho] at h; exact h.elim
    | some o =>
      rw [ho] at h
      exact wpOp_mono (fun a' w' ⟨S', h1, h2, h3⟩ => ⟨S', h1, h2, wpAnyT_of_mix hsel hs hc hn K p S' _ a' w' (inv.set (by rw [hr]; exact List.mem_singleton.2 rfl) hin) hB h2 h3⟩) (wpOp_of_listN ho h)
  | .two _ _ _ _, S, listed, a, w, inv, hB, hS, h => by cases hB
end
/-- The Bool of a region by a plan with a forced tail from place n on. -/
def mixTB (ops : Array Oper) (n : Nat) (p : Plan) : Bool :=
  Region.noSelect ops && decide (n < ops.size) && Region.sinkB .any ops n && Region.chainB .any ops n && (p.len == n) && mixBT .any ops n p (Array.replicate ops.size false)
/-- A region that draws its order, by a plan, then a forced tail; at a class. -/
theorem wp_region_mixS {P : Program} {id : Nat} {Q : Exit → Act → World → Prop} {a : Act} {w : World} {l : List Oper} (n : Nat) (p : Plan) (S : World → Prop) (hm : P.follows .mixedOrders = true) (hB : mixTB l.toArray n p = true)
    (hS : S (w.drewN 1)) (h : mixW P l.toArray (fun a w => wpList P l.toArray Q (l.drop n) a w) p S a (w.drewN 1)) : (Code.region id l.toArray true).wp P Q a w := by
  simp only [mixTB, Bool.and_eq_true, beq_iff_eq, decide_eq_true_eq] at hB
  obtain ⟨⟨⟨⟨⟨hsel, hn⟩, hs⟩, hc⟩, hl⟩, hB⟩ := hB
  have inv0 : HeadInv .any l.toArray n (Array.replicate l.toArray.size false) :=
    ⟨by simp, fun j oj _ hl => (by rw [getD_replicate_false] at hl; cases hl), fun t _ ht => getD_in (by simpa using ht) (getD_replicate_false _ _)⟩
  have hdl : (l.drop n).length = l.toArray.size - n := by simp
  have H := wpAnyT_of_mix (P := P) hsel hs hc hn _ p S _ a (w.drewN 1) inv0 hB hS h
  refine wp_region_any hm ?_
  have := wpAny_of_T (Q := Q) (g := l.toArray.size - n) (fun listed a' w' hL => by
    have := wpAny_of_seq (md := .any) (Q' := Q) (l.drop n) n listed a' w' (fun j => by simp [List.getElem?_drop]) (by rw [hdl]; exact hL.1) hL.2
    rwa [hdl] at this) _ _ _ _ _ H
  rw [hl, show n + (l.toArray.size - n) = l.toArray.size by omega] at this
  exact this
/-- A region that draws its order, by a plan, then a forced tail. -/
theorem wp_region_mixT {P : Program} {id : Nat} {Q : Exit → Act → World → Prop} {a : Act} {w : World} {l : List Oper} (n : Nat) (p : Plan) (hm : P.follows .mixedOrders = true) (hB : mixTB l.toArray n p = true)
    (h : ∀ W, Below w.heap.size w W → mixW P l.toArray (fun a w => wpList P l.toArray Q (l.drop n) a w) p (fun v => ∃ e, v = plus W e) a W) : (Code.region id l.toArray true).wp P Q a w :=
  wp_region_mixS n p _ hm hB (in_plus (w := w.drewN 1)) (h (w.drewN 1) (below_drewN (Below.refl _ w) 1))
end Go.Proofs.YtkogehkmldbhgaaDoor

/- Cuts of slices whose elements are one cell each: the value under one name, in a quiet walk and in a forced one; what a cut of bytes reads. No condition. -/
namespace Go.Proofs.YtkogehkmldbhgaaDoor
open Go Go.RowKit
/-- a cut, as the model makes it -/
def cutV (A : Option Addr) (cap lo hi : Nat) : Value := .slice (if cap = lo then A else A.map (·.add lo)) (hi - lo) (cap - lo)
section
variable {P : Program} {t e : TypeId} {A : Option Addr} {len cap : Nat}
theorem run_cut_lh (ht : P.underlying t = some (.slice e)) (hs : (P.info? e).map (·.size) = some 1) (lo hi : Nat) (h1 : lo ≤ hi) (h2 : hi ≤ cap) (w : World) :
    (Instr.sliceAt t (.slice A len cap) (some (.int .i64 lo)) (some (.int .i64 hi)) none).run P w = .ok (cutV A cap lo hi) w := by
  obtain ⟨i, hi1, hi2⟩ : ∃ i, P.info? e = some i ∧ i.size = 1 := by
    cases hq : P.info? e with
    | none => rw [hq] at hs; cases hs
    | some i => rw [hq] at hs; exact ⟨i, rfl, by simpa using hs⟩
  have a1 : (lo : Int) ≤ (hi : Int) := by omega
  have a2 : (hi : Int) ≤ (cap : Int) := by omega
  simp [Instr.sliceAt, Instr.slice, run_underlying ht, Instr.sliceBounds, run_sliceBound, cutV, hi1, hi2, sizeOf, typeInfo, a1, a2]
theorem run_cut_l (ht : P.underlying t = some (.slice e)) (hs : (P.info? e).map (·.size) = some 1) (lo : Nat) (h1 : lo ≤ len) (w : World) :
    (Instr.sliceAt t (.slice A len cap) (some (.int .i64 lo)) none none).run P w = .ok (cutV A cap lo len) w := by
  obtain ⟨i, hi1, hi2⟩ : ∃ i, P.info? e = some i ∧ i.size = 1 := by
    cases hq : P.info? e with
    | none => rw [hq] at hs; cases hs
    | some i => rw [hq] at hs; exact ⟨i, rfl, by simpa using hs⟩
  have a1 : (lo : Int) ≤ (len : Int) := by omega
  simp [Instr.sliceAt, Instr.slice, run_underlying ht, Instr.sliceBounds, run_sliceBound, cutV, hi1, hi2, sizeOf, typeInfo, a1]
section
variable {ops : Array Oper} {C : World → Prop} {K : Act → Prop} {a : Act} {o : Oper} {rest : List Oper}
theorem wpQuiet_cutLH (hw : Region.wanted o (yielded ops a.tmps) = true) (t : TypeId) (x l h : Operand) (ho : o.op = .slice t x (some l) (some h) none) (e : TypeId) (ht : P.underlying t = some (.slice e)) (hs : (P.info? e).map (·.size) = some 1)
    (A : Option Addr) (len cap lo hi : Nat) (hx : a.eval x = .slice A len cap) (hl : a.eval l = .int .i64 lo) (hh : a.eval h = .int .i64 hi) (h1 : lo ≤ hi) (h2 : hi ≤ cap)
    (hk : wpQuiet P ops C K rest (a.put o.dst (cutV A cap lo hi))) : wpQuiet P ops C K (o :: rest) a :=
  wpQuiet_wanted hw _ (fun w _ => by
    unfold Oper.quietAt execOp
    simp only [ho, Option.map_some, Option.map_none, hx, hl, hh, Sem.run_bind, run_cut_lh ht hs lo hi h1 h2, Result.andThen_ok, Sem.run_pure]
    exact ⟨rfl, rfl⟩) hk
theorem wpQuiet_cutL (hw : Region.wanted o (yielded ops a.tmps) = true) (t : TypeId) (x l : Operand) (ho : o.op = .slice t x (some l) none none) (e : TypeId) (ht : P.underlying t = some (.slice e)) (hs : (P.info? e).map (·.size) = some 1)
    (A : Option Addr) (len cap lo : Nat) (hx : a.eval x = .slice A len cap) (hl : a.eval l = .int .i64 lo) (h1 : lo ≤ len)
    (hk : wpQuiet P ops C K rest (a.put o.dst (cutV A cap lo len))) : wpQuiet P ops C K (o :: rest) a :=
  wpQuiet_wanted hw _ (fun w _ => by
    unfold Oper.quietAt execOp
    simp only [ho, Option.map_some, Option.map_none, hx, hl, Sem.run_bind, run_cut_l ht hs lo h1, Result.andThen_ok, Sem.run_pure]
    exact ⟨rfl, rfl⟩) hk
theorem wpList_cutLH {w : World} {Q : Exit → Act → World → Prop} (hg : o.guard = none) (t : TypeId) (x l h : Operand) (ho : o.op = .slice t x (some l) (some h) none) (e : TypeId) (ht : P.underlying t = some (.slice e)) (hs : (P.info? e).map (·.size) = some 1)
    (A : Option Addr) (len cap lo hi : Nat) (hx : a.eval x = .slice A len cap) (hl : a.eval l = .int .i64 lo) (hh : a.eval h = .int .i64 hi) (h1 : lo ≤ hi) (h2 : hi ≤ cap)
    (hk : wpList P ops Q rest (a.put o.dst (cutV A cap lo hi)) w) : wpList P ops Q (o :: rest) a w :=
  wpList_plain hg fun K hK => by
    unfold Oper.wp execOp
    simp only [ho, Option.map_some, Option.map_none, hx, hl, hh, Sem.run_bind, run_cut_lh ht hs lo hi h1 h2, Result.andThen_ok, Sem.run_pure]
    exact hK _ _ hk
theorem wpList_cutL {w : World} {Q : Exit → Act → World → Prop} (hg : o.guard = none) (t : TypeId) (x l : Operand) (ho : o.op = .slice t x (some l) none none) (e : TypeId) (ht : P.underlying t = some (.slice e)) (hs : (P.info? e).map (·.size) = some 1)
    (A : Option Addr) (len cap lo : Nat) (hx : a.eval x = .slice A len cap) (hl : a.eval l = .int .i64 lo) (h1 : lo ≤ len)
    (hk : wpList P ops Q rest (a.put o.dst (cutV A cap lo len)) w) : wpList P ops Q (o :: rest) a w :=
  wpList_plain hg fun K hK => by
    unfold Oper.wp execOp
    simp only [ho, Option.map_some, Option.map_none, hx, hl, Sem.run_bind, run_cut_l ht hs lo h1, Result.andThen_ok, Sem.run_pure]
    exact hK _ _ hk
end
end
theorem wpQuiet_nilCheck {P : Program} {ops : Array Oper} {C : World → Prop} {K : Act → Prop} {a : Act} {o : Oper} {rest : List Oper} (hw : Region.wanted o (yielded ops a.tmps) = true) (x : Operand) (ho : o.op = .nilCheck x) (p : Addr) (hx : a.eval x = .pointer (some p))
    (hk : wpQuiet P ops C K rest (a.put o.dst (.pointer (some p)))) : wpQuiet P ops C K (o :: rest) a :=
  wpQuiet_wanted hw _ (fun w _ => by
    unfold Oper.quietAt execOp
    simp only [ho, hx, Sem.run_pure]
    exact ⟨rfl, rfl⟩) hk
/-- a cell is read, at any class that tells it -/
theorem wpQuiet_load1 {P : Program} {ops : Array Oper} {C : World → Prop} {K : Act → Prop} {a : Act} {o : Oper} {rest : List Oper} (hw : Region.wanted o (yielded ops a.tmps) = true) (ty : TypeId) (x : Operand) (ho : o.op = .load ty x) (p : Addr) (hx : a.eval x = .pointer (some p))
    (d : TypeDesc) (hu : P.underlying ty = some d) (hd : (match d with | .struct _ | .array _ _ => false | _ => true) = true) (v : Value) (hS : ∀ w, C w → w.cell? p = some v)
    (hk : wpQuiet P ops C K rest (a.put o.dst v)) : wpQuiet P ops C K (o :: rest) a :=
  wpQuiet_wanted hw _ (fun w hC => by
    have hc := hS w hC
    unfold Oper.quietAt execOp
    have ha : (isAgg ty).run P w = .ok false w := by
      cases d <;> simp_all [isAgg, run_underlying hu]
    simp only [ho, hx, Instr.loadAt, Instr.sureAddr, Sem.run_bind, Sem.run_pure, Result.andThen_ok, loadVar, ha]
    simp [hc, Oper.quietUpon]) hk
theorem cut_b {w : World} {B : Nat} {A : Option Addr} {len cap : Nat} {bs : List UInt8} (h : BSl w B (.slice A len cap) bs) (lo hi : Nat) (h1 : lo ≤ hi) (h2 : hi ≤ len) : BSl w B (cutV A cap lo hi) ((bs.take hi).drop lo) := by
  obtain ⟨A', cap', e1, hc1, hc2, hr⟩ := h
  injection e1 with e1 e2 e3
  subst e1; subst e3
  have hl : ((bs.take hi).drop lo).length = hi - lo := by simp; omega
  refine ⟨_, cap - lo, by unfold cutV; rw [hl], by omega, by omega, ?_⟩
  have := (hr.take hi).cut (k := lo) (cap := cap) (by simp; omega) (by simp; omega)
  rw [← List.map_take, ← List.map_drop] at this
  exact this
/-- the head of a slice of bytes -/
theorem head_b {w : World} {B : Nat} {A : Option Addr} {len cap : Nat} {bs : List UInt8} (h : BSl w B (.slice A len cap) bs) (hi : Nat) (h2 : hi ≤ len) : BSl w B (.slice A hi cap) (bs.take hi) := by
  obtain ⟨A', cap', e1, hc1, hc2, hr⟩ := h
  injection e1 with e1 e2 e3
  subst e1; subst e3
  have hl : (bs.take hi).length = hi := by simp; omega
  refine ⟨_, cap, by rw [hl], by omega, by omega, ?_⟩
  have := hr.take hi
  rw [← List.map_take] at this
  exact this
theorem take_b {w : World} {B : Nat} {A : Option Addr} {cap : Nat} {bs : List UInt8} (h : BSl w B (.slice A bs.length cap) bs) (k : Nat) : BSl w B (.slice A (bs.take k).length cap) (bs.take k) := by
  obtain ⟨A', cap', e1, hc1, hc2, hr⟩ := h
  injection e1 with e1 e2 e3
  subst e1; subst e3
  refine ⟨_, cap, rfl, by rw [List.length_take]; omega, hc2, ?_⟩
  rw [List.map_take]; exact hr.take k
/-- the world behind a point of a walk by plan -/
theorem mix_at {P : Program} {ops : Array Oper} {K : Act → World → Prop} {p : Plan} {a : Act} {w : World} (R : World → Prop) (hR : R w) (h : ∀ W, R W → mixW P ops K p (fun v => ∃ e, v = plus W e) a W) : mixW P ops K p (fun v => ∃ e, v = plus w e) a w := h w hR
end Go.Proofs.YtkogehkmldbhgaaDoor
