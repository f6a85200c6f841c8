/- Texts that stand behind one another: StrA, RefP, Zeros, Make, RefA. No condition. -/
import Derived.Test.YteonmcconpfkjaaDoorP4
import Derived.Test.YteonmcconpfkjaaDoorP3
/- Strings of bytes in a forced walk: conversion, '+', '!='. No condition. -/
namespace Go.Proofs.YteonmcconpfkjaaDoor
open Go Go.RowKit
theorem run_strAdd (w : World) (a b : List UInt8) (h : a.length + b.length ≤ 9223372036854775807) : (binOp .add 9 (strV a) (strV b)).run Tryd.prog w = .ok (strV (a ++ b)) w := by
  unfold strV
  have e : (⟨a.toArray⟩ : ByteArray) ++ ⟨b.toArray⟩ = ⟨(a ++ b).toArray⟩ := by
    apply ByteArray.ext
    rw [ByteArray.data_append]
    simp
  have hn : ¬ ((((⟨a.toArray⟩ : ByteArray).size + (⟨b.toArray⟩ : ByteArray).size : Nat) : Int) > IntKind.i64.max) := by
    show ¬ (((a.toArray.size + b.toArray.size : Nat) : Int) > 9223372036854775807)
    simp only [List.size_toArray]
    omega
  have h1 : binOp .add 9 (.string ⟨a.toArray⟩) (.string ⟨b.toArray⟩) = Op.stringOp .add ⟨a.toArray⟩ ⟨b.toArray⟩ := rfl
  rw [h1]
  unfold Op.stringOp
  simp only [if_neg hn, e, Sem.run_pure]
section
variable {w : World} {ops : Array Oper} {rest : List Oper} {o : Oper} {a : Act} {Q : Exit → Act → World → Prop}
theorem wpList_strA (hgd : o.guard = none) (x : Operand) (ho : o.op = .convert 22 9 x) (v : Value) (bs : List UInt8) (B : Nat) (hx : a.eval x = v) (hv : BSl w B v bs)
    (h : wpList Tryd.prog ops Q rest (a.put o.dst (strV bs)) w) : wpList Tryd.prog ops Q (o :: rest) a w :=
  wpList_plain hgd fun K hK => by
    unfold Oper.wp execOp
    simp only [ho, hx, Sem.run_bind, run_bytes_str hv, Result.andThen_ok, Sem.run_pure]
    exact hK _ _ h
theorem wpList_addStr (hgd : o.guard = none) (x y : Operand) (yt : TypeId) (ho : o.op = .binOp .add 9 x y yt) (X Y : List UInt8) (hx : a.eval x = strV X) (hy : a.eval y = strV Y) (hl : X.length + Y.length ≤ 9223372036854775807)
    (h : wpList Tryd.prog ops Q rest (a.put o.dst (strV (X ++ Y))) w) : wpList Tryd.prog ops Q (o :: rest) a w :=
  wpList_plain hgd fun K hK => by
    have hg : (eqGuard .add 9 x y (strV X) (strV Y)).run Tryd.prog w = .ok () w := by unfold strV; simp [eqGuard]
    unfold Oper.wp execOp
    simp only [ho, hx, hy, Sem.run_bind, hg, run_strAdd w X Y hl, Result.andThen_ok, Sem.run_pure]
    exact hK _ _ h
theorem wpList_neStr (hgd : o.guard = none) (x y : Operand) (yt : TypeId) (ho : o.op = .binOp .neq 9 x y yt) (X Y : List UInt8) (hx : a.eval x = strV X) (hy : a.eval y = strV Y)
    (b : Bool) (hb : decide (X = Y) = b) (h : wpList Tryd.prog ops Q rest (a.put o.dst (.bool (!b))) w) : wpList Tryd.prog ops Q (o :: rest) a w :=
  wpList_plain hgd fun K hK => by
    have hg : (eqGuard .neq 9 x y (strV X) (strV Y)).run Tryd.prog w = .ok () w := by unfold strV; simp [eqGuard]
    unfold Oper.wp execOp
    simp only [ho, hx, hy, Sem.run_bind, hg, run_strNe, hb, Result.andThen_ok, Sem.run_pure]
    exact hK _ _ h
end
end Go.Proofs.YteonmcconpfkjaaDoor

/- The reference's arithmetic in plain Lean: limbs, their product, the roots. No condition. -/
namespace Go.Proofs.YteonmcconpfkjaaDoor
def limbsU (x : UInt64) : List UInt64 := [x &&& 65535, x >>> 16 &&& 65535, x >>> 32 &&& 65535, x >>> 48]
def tIn (i : Nat) (ai : UInt64) (b out : List UInt64) : Nat → List UInt64 × UInt64
  | 0 => (out, 0)
  | k + 1 => ((tIn i ai b out k).1.set (i + k) (((tIn i ai b out k).1.getD (i + k) 0 + ai * b.getD k 0 + (tIn i ai b out k).2) &&& 65535), ((tIn i ai b out k).1.getD (i + k) 0 + ai * b.getD k 0 + (tIn i ai b out k).2) >>> 16)
def tOut (a b : List UInt64) : Nat → List UInt64
  | 0 => List.replicate (a.length + b.length) 0
  | i + 1 => (tIn i (a.getD i 0) b (tOut a b i) b.length).1.set (i + b.length) ((tIn i (a.getD i 0) b (tOut a b i) b.length).1.getD (i + b.length) 0 + (tIn i (a.getD i 0) b (tOut a b i) b.length).2)
def val : List UInt64 → Nat
  | [] => 0
  | x :: l => x.toNat + 65536 * val l
def Small (l : List UInt64) : Prop := ∀ i, (l.getD i 0).toNat < 65536
theorem getD_set (l : List UInt64) (i j : Nat) (v : UInt64) (hi : i < l.length) : (l.set i v).getD j 0 = if j = i then v else l.getD j 0 := by
  rw [List.getD_eq_getElem?_getD, List.getD_eq_getElem?_getD, List.getElem?_set]
  by_cases h : i = j
  · subst h; simp [hi]
  · rw [if_neg h, if_neg (fun e => h e.symm)]
theorem Small.set {l : List UInt64} (h : Small l) (i : Nat) (v : UInt64) (hi : i < l.length) (hv : v.toNat < 65536) : Small (l.set i v) := fun j => by
  rw [getD_set l i j v hi]; split
  · exact hv
  · exact h j
theorem pow_step (n i : Nat) : n * 65536 ^ (i + 1) = 65536 * (n * 65536 ^ i) := by rw [Nat.pow_succ, ← Nat.mul_assoc, Nat.mul_comm]
theorem val_set : ∀ (l : List UInt64) (i : Nat) (v : UInt64), i < l.length → val (l.set i v) + (l.getD i 0).toNat * 65536 ^ i = val l + v.toNat * 65536 ^ i
  | [], i, _, h => absurd h (Nat.not_lt_zero _)
  | x :: l, 0, v, _ => by simp [val]; omega
  | x :: l, i + 1, v, h => by
    have ih := val_set l i v (by simpa using h)
    simp only [List.set_cons_succ, val, List.getD_cons_succ]
    rw [pow_step, pow_step]; omega
theorem val_take_succ : ∀ (l : List UInt64) (k : Nat), k < l.length → val (l.take (k + 1)) = val (l.take k) + (l.getD k 0).toNat * 65536 ^ k
  | [], k, h => absurd h (Nat.not_lt_zero _)
  | x :: l, 0, _ => by simp [val]
  | x :: l, k + 1, h => by
    have ih := val_take_succ l k (by simpa using h)
    rw [List.take_succ_cons, List.take_succ_cons, val, val, ih, List.getD_cons_succ, pow_step]; omega
theorem val_replicate : ∀ n, val (List.replicate n 0) = 0
  | 0 => rfl
  | n + 1 => by rw [List.replicate_succ]; simp [val, val_replicate n]
theorem getD_zeros (n j : Nat) : (List.replicate n (0 : UInt64)).getD j 0 = 0 := by
  rw [List.getD_eq_getElem?_getD, List.getElem?_replicate]; split <;> rfl
theorem small_replicate (n : Nat) : Small (List.replicate n 0) := fun i => by rw [getD_zeros]; decide
theorem step_val (s a b c : UInt64) (hs : s.toNat < 65536) (ha : a.toNat < 65536) (hb : b.toNat < 65536) (hc : c.toNat < 65536) :
    ((s + a * b + c) &&& 65535).toNat = (s.toNat + a.toNat * b.toNat + c.toNat) % 65536 ∧ ((s + a * b + c) >>> 16).toNat = (s.toNat + a.toNat * b.toNat + c.toNat) / 65536 ∧ s.toNat + a.toNat * b.toNat + c.toNat < 65536 * 65536 := by
  have hab : a.toNat * b.toNat ≤ 65535 * 65535 := Nat.mul_le_mul (by omega) (by omega)
  have e : (s + a * b + c).toNat = s.toNat + a.toNat * b.toNat + c.toNat := by
    rw [UInt64.toNat_add, UInt64.toNat_add, UInt64.toNat_mul]; omega
  refine ⟨?_, ?_, by omega⟩
  · rw [UInt64.toNat_and, e]; exact Nat.and_two_pow_sub_one_eq_mod _ 16
  · rw [UInt64.toNat_shiftRight, e]; exact Nat.shiftRight_eq_div_pow _ 16
theorem tIn_ok (i : Nat) (ai : UInt64) (b out : List UInt64) (hai : ai.toNat < 65536) (hb : Small b) (ho : Small out) (hl : i + b.length ≤ out.length) : ∀ k, k ≤ b.length →
    (tIn i ai b out k).1.length = out.length ∧ Small (tIn i ai b out k).1 ∧ (tIn i ai b out k).2.toNat < 65536 ∧
    val (tIn i ai b out k).1 + (tIn i ai b out k).2.toNat * 65536 ^ (i + k) = val out + ai.toNat * val (b.take k) * 65536 ^ i ∧ ∀ j, i + k ≤ j → (tIn i ai b out k).1.getD j 0 = out.getD j 0
  | 0, _ => ⟨rfl, ho, (by decide : (0 : UInt64).toNat < 65536), by simp [tIn, val], fun _ _ => rfl⟩
  | k + 1, hk => by
    obtain ⟨h1, h2, h3, h4, h5⟩ := tIn_ok i ai b out hai hb ho hl k (by omega)
    rw [tIn]
    generalize tIn i ai b out k = s at *
    obtain ⟨e1, e2, e3⟩ := step_val _ ai _ _ (h2 (i + k)) hai (hb k) h3
    have hik : i + k < s.1.length := by omega
    have hv := val_set s.1 (i + k) ((s.1.getD (i + k) 0 + ai * b.getD k 0 + s.2) &&& 65535) hik
    refine ⟨by rw [List.length_set]; exact h1, h2.set _ _ hik (by rw [e1]; exact Nat.mod_lt _ (by decide)), by rw [e2]; omega, ?_, fun j hj => ?_⟩
    · rw [e1] at hv
      rw [e2, val_take_succ b k (by omega)]
      have hp : 65536 ^ (i + (k + 1)) = 65536 * 65536 ^ (i + k) := by rw [← Nat.add_assoc, Nat.pow_succ, Nat.mul_comm]
      have hq : ai.toNat * (val (b.take k) + (b.getD k 0).toNat * 65536 ^ k) * 65536 ^ i = ai.toNat * val (b.take k) * 65536 ^ i + ai.toNat * (b.getD k 0).toNat * 65536 ^ (i + k) := by
        rw [Nat.mul_add, Nat.add_mul, Nat.pow_add, ← Nat.mul_assoc, Nat.mul_assoc _ (65536 ^ k) (65536 ^ i), Nat.mul_comm (65536 ^ k)]
      rw [hp, hq]
      generalize 65536 ^ (i + k) = P at *
      generalize ai.toNat * (b.getD k 0).toNat = ab at *
      generalize hx : (s.1.getD (i + k) 0).toNat + ab + s.2.toNat = x at *
      have hm : x % 65536 * P + x / 65536 * (65536 * P) = x * P := by
        rw [← Nat.mul_assoc, ← Nat.add_mul]; congr 1; omega
      have hs : x * P = (s.1.getD (i + k) 0).toNat * P + ab * P + s.2.toNat * P := by rw [← hx, Nat.add_mul, Nat.add_mul]
      generalize x % 65536 * P = t1 at *
      generalize x / 65536 * (65536 * P) = t2 at *
      show val (s.1.set (i + k) ((s.1.getD (i + k) 0 + ai * b.getD k 0 + s.2) &&& 65535)) + t2 = _
      omega
    · rw [getD_set _ _ _ _ hik, if_neg (by omega)]; exact h5 j (by omega)
theorem tIn_succ (i : Nat) (ai : UInt64) (b out : List UInt64) (k : Nat) : tIn i ai b out (k + 1) = ((tIn i ai b out k).1.set (i + k) (((tIn i ai b out k).1.getD (i + k) 0 + ai * b.getD k 0 + (tIn i ai b out k).2) &&& 65535), ((tIn i ai b out k).1.getD (i + k) 0 + ai * b.getD k 0 + (tIn i ai b out k).2) >>> 16) := rfl
theorem tOut_succ (a b : List UInt64) (i : Nat) : tOut a b (i + 1) = (tIn i (a.getD i 0) b (tOut a b i) b.length).1.set (i + b.length) ((tIn i (a.getD i 0) b (tOut a b i) b.length).1.getD (i + b.length) 0 + (tIn i (a.getD i 0) b (tOut a b i) b.length).2) := rfl
theorem tIn_length (i : Nat) (ai : UInt64) (b out : List UInt64) : ∀ k, (tIn i ai b out k).1.length = out.length
  | 0 => rfl
  | k + 1 => by rw [tIn, List.length_set]; exact tIn_length i ai b out k
theorem tOut_length (a b : List UInt64) : ∀ i, (tOut a b i).length = a.length + b.length
  | 0 => by simp [tOut]
  | i + 1 => by rw [tOut, List.length_set, tIn_length]; exact tOut_length a b i
theorem tOut_ok (a b : List UInt64) (ha : Small a) (hb : Small b) : ∀ i, i ≤ a.length →
    (tOut a b i).length = a.length + b.length ∧ Small (tOut a b i) ∧ (∀ j, i + b.length ≤ j → (tOut a b i).getD j 0 = 0) ∧ val (tOut a b i) = val (a.take i) * val b
  | 0, _ => ⟨by simp [tOut], small_replicate _, fun j _ => getD_zeros _ _, by simp [tOut, val_replicate, val]⟩
  | i + 1, hi => by
    obtain ⟨h1, h2, h3, h4⟩ := tOut_ok a b ha hb i (by omega)
    obtain ⟨g1, g2, g3, g4, g5⟩ := tIn_ok i (a.getD i 0) b (tOut a b i) (ha i) hb h2 (by omega) b.length (Nat.le_refl _)
    rw [tOut]
    generalize tIn i (a.getD i 0) b (tOut a b i) b.length = s at *
    have hik : i + b.length < s.1.length := by omega
    have hz : s.1.getD (i + b.length) 0 = 0 := (g5 _ (Nat.le_refl _)).trans (h3 _ (Nat.le_refl _))
    have hv := val_set s.1 (i + b.length) (s.1.getD (i + b.length) 0 + s.2) hik
    rw [hz, UInt64.zero_add] at hv ⊢
    refine ⟨by rw [List.length_set]; omega, g2.set _ _ hik g3, fun j hj => ?_, ?_⟩
    · rw [getD_set _ _ _ _ hik, if_neg (by omega), g5 _ (by omega)]; exact h3 j (by omega)
    · rw [val_take_succ a i (by omega), Nat.add_mul, ← h4]
      rw [List.take_length] at g4
      have e : (a.getD i 0).toNat * 65536 ^ i * val b = (a.getD i 0).toNat * val b * 65536 ^ i := by rw [Nat.mul_assoc, Nat.mul_comm (65536 ^ i), ← Nat.mul_assoc]
      rw [e]
      have h0 : (0 : UInt64).toNat = 0 := rfl
      rw [h0, Nat.zero_mul] at hv
      omega
def timesU (a b : List UInt64) : List UInt64 := tOut a b a.length
theorem timesU_ok (a b : List UInt64) (ha : Small a) (hb : Small b) : (timesU a b).length = a.length + b.length ∧ Small (timesU a b) ∧ val (timesU a b) = val a * val b := by
  obtain ⟨h1, h2, _, h4⟩ := tOut_ok a b ha hb a.length (Nat.le_refl _)
  rw [List.take_length] at h4
  exact ⟨h1, h2, h4⟩
theorem and_mod (x : UInt64) : (x &&& 65535).toNat = x.toNat % 65536 := by rw [UInt64.toNat_and]; exact Nat.and_two_pow_sub_one_eq_mod _ 16
theorem shr_div16 (x : UInt64) : (x >>> 16).toNat = x.toNat / 65536 := by rw [UInt64.toNat_shiftRight]; exact Nat.shiftRight_eq_div_pow _ 16
theorem shr_div32 (x : UInt64) : (x >>> 32).toNat = x.toNat / 4294967296 := by rw [UInt64.toNat_shiftRight]; exact Nat.shiftRight_eq_div_pow _ 32
theorem shr_div48 (x : UInt64) : (x >>> 48).toNat = x.toNat / 281474976710656 := by rw [UInt64.toNat_shiftRight]; exact Nat.shiftRight_eq_div_pow _ 48
theorem small_cons {x : UInt64} {l : List UInt64} (hx : x.toNat < 65536) (h : Small l) : Small (x :: l)
  | 0 => by simpa using hx
  | i + 1 => by simpa using h i
theorem small_nil : Small [] := fun i => by simp
theorem limbsU_small (x : UInt64) : Small (limbsU x) :=
  small_cons (by rw [and_mod]; omega) (small_cons (by rw [and_mod]; omega) (small_cons (by rw [and_mod]; omega) (small_cons (by rw [shr_div48]; have := x.toNat_lt; omega) small_nil)))
theorem limbsU_val (x : UInt64) : val (limbsU x) = x.toNat := by
  have := x.toNat_lt
  simp only [limbsU, val, and_mod, shr_div16, shr_div32, shr_div48]; omega
/-- the comparison from the top -/
def cmpU (b w : List UInt64) : Nat → Bool
  | 0 => true
  | i + 1 => if b.getD i 0 = w.getD i 0 then cmpU b w i else decide (b.getD i 0 < w.getD i 0)
theorem val_take_lt (l : List UInt64) (h : Small l) : ∀ k, k ≤ l.length → val (l.take k) < 65536 ^ k
  | 0, _ => by simp [val]
  | k + 1, hk => by
    have ih := val_take_lt l h k (by omega)
    have hk2 := h k
    rw [val_take_succ l k (by omega), Nat.pow_succ]
    have : ((l.getD k 0).toNat + 1) * 65536 ^ k ≤ 65536 * 65536 ^ k := Nat.mul_le_mul_right _ (by omega)
    rw [Nat.add_mul] at this; omega
theorem cmpU_ok (b w : List UInt64) (hb : Small b) (hw : Small w) : ∀ i, i ≤ b.length → i ≤ w.length → cmpU b w i = decide (val (b.take i) ≤ val (w.take i))
  | 0, _, _ => by simp [cmpU, val]
  | i + 1, h1, h2 => by
    have ih := cmpU_ok b w hb hw i (by omega) (by omega)
    have l1 := val_take_lt b hb i (by omega)
    have l2 := val_take_lt w hw i (by omega)
    rw [cmpU, val_take_succ b i (by omega), val_take_succ w i (by omega)]
    split
    · rename_i h
      rw [ih, h]; simp
    · rename_i h
      have hne : (b.getD i 0).toNat ≠ (w.getD i 0).toNat := fun e => h (UInt64.toNat_inj.1 e)
      apply decide_eq_decide.2
      rw [UInt64.lt_iff_toNat_lt]
      generalize 65536 ^ i = P at *
      constructor
      · intro hlt
        have : ((b.getD i 0).toNat + 1) * P ≤ (w.getD i 0).toNat * P := Nat.mul_le_mul_right _ hlt
        rw [Nat.add_mul] at this; omega
      · intro hle
        apply Classical.byContradiction
        intro hn
        have : ((w.getD i 0).toNat + 1) * P ≤ (b.getD i 0).toNat * P := Nat.mul_le_mul_right _ (by omega)
        rw [Nat.add_mul] at this; omega
/-- what the walk of 'below' compares with -/
def wantU (n m : Nat) (p : UInt64) : List UInt64 := ((List.replicate m 0).set n (p &&& 65535)).set (n + 1) (p >>> 16)
theorem wantU_ok (n m : Nat) (p : UInt64) (hn : n + 1 < m) (hp : p.toNat < 4294967296) : (wantU n m p).length = m ∧ Small (wantU n m p) ∧ val (wantU n m p) = p.toNat * 65536 ^ n := by
  have l1 : n < (List.replicate m (0 : UInt64)).length := by simp; omega
  have s1 : Small ((List.replicate m 0).set n (p &&& 65535)) := (small_replicate m).set n _ l1 (by rw [and_mod]; omega)
  have l2 : n + 1 < ((List.replicate m (0 : UInt64)).set n (p &&& 65535)).length := by simpa using hn
  have v1 := val_set (List.replicate m 0) n (p &&& 65535) l1
  have v2 := val_set ((List.replicate m 0).set n (p &&& 65535)) (n + 1) (p >>> 16) l2
  rw [getD_set _ _ _ _ l1, if_neg (by omega), getD_zeros] at v2
  rw [getD_zeros, val_replicate, and_mod] at v1
  refine ⟨by simp [wantU], s1.set _ _ l2 (by rw [shr_div16]; omega), ?_⟩
  unfold wantU
  have hz : (0 : UInt64).toNat = 0 := rfl
  rw [shr_div16, hz, Nat.zero_mul, Nat.add_zero, pow_step] at v2
  rw [hz, Nat.zero_mul, Nat.add_zero, Nat.zero_add] at v1
  rw [v2, v1, ← Nat.mul_assoc, ← Nat.add_mul]
  congr 1; omega
def belowU (x p : UInt64) (cube : Bool) : Bool := decide (x.toNat ^ (if cube then 3 else 2) ≤ p.toNat * 65536 ^ (if cube then 6 else 4))
theorem below_sq (x p : UInt64) (hp : p.toNat < 4294967296) : cmpU (timesU (limbsU x) (limbsU x)) (wantU 4 8 p) 8 = belowU x p false := by
  obtain ⟨h1, h2, h3⟩ := timesU_ok _ _ (limbsU_small x) (limbsU_small x)
  obtain ⟨g1, g2, g3⟩ := wantU_ok 4 8 p (by decide) hp
  have e1 : (timesU (limbsU x) (limbsU x)).length = 8 := h1
  rw [cmpU_ok _ _ h2 g2 8 (by omega) (by omega), List.take_of_length_le (by omega), List.take_of_length_le (by omega), h3, g3, limbsU_val]
  simp [belowU, Nat.pow_succ]
theorem below_cb (x p : UInt64) (hp : p.toNat < 4294967296) : cmpU (timesU (timesU (limbsU x) (limbsU x)) (limbsU x)) (wantU 6 12 p) 12 = belowU x p true := by
  obtain ⟨h1, h2, h3⟩ := timesU_ok _ _ (limbsU_small x) (limbsU_small x)
  obtain ⟨k1, k2, k3⟩ := timesU_ok _ _ h2 (limbsU_small x)
  obtain ⟨g1, g2, g3⟩ := wantU_ok 6 12 p (by decide) hp
  have e1 : (timesU (timesU (limbsU x) (limbsU x)) (limbsU x)).length = 12 := by rw [k1, h1]; rfl
  rw [cmpU_ok _ _ k2 g2 12 (by omega) (by omega), List.take_of_length_le (by omega), List.take_of_length_le (by omega), k3, h3, g3, limbsU_val]
  simp [belowU, Nat.pow_succ]
/-- r is the root -/
def IsRoot (p : UInt64) (cube : Bool) (r : Nat) : Prop := r ^ (if cube then 3 else 2) ≤ p.toNat * 65536 ^ (if cube then 6 else 4) ∧ p.toNat * 65536 ^ (if cube then 6 else 4) < (r + 1) ^ (if cube then 3 else 2)
instance (p : UInt64) (c : Bool) (r : Nat) : Decidable (IsRoot p c r) := by unfold IsRoot; infer_instance
theorem IsRoot.unique {p : UInt64} {c : Bool} {r s : Nat} (h : IsRoot p c r) (g : IsRoot p c s) : r = s := by
  have hx : ∀ a b : Nat, a ^ (if c then 3 else 2) < (b + 1) ^ (if c then 3 else 2) → a ≤ b := fun a b hab => by
    apply Classical.byContradiction
    intro hn
    exact absurd (Nat.pow_le_pow_left (show b + 1 ≤ a by omega) (if c then 3 else 2)) (by omega)
  have h1 := hx r s (Nat.lt_of_le_of_lt h.1 g.2)
  have h2 := hx s r (Nat.lt_of_le_of_lt g.1 h.2)
  omega
def primeL : List UInt64 := [2, 3, 5, 7, 11, 13, 17, 19, 23, 29, 31, 37, 41, 43, 47, 53, 59, 61, 67, 71, 73, 79, 83, 89, 97, 101, 103, 107, 109, 113, 127, 131, 137, 139, 149, 151, 157, 163, 167, 173, 179, 181, 191, 193, 197, 199, 211, 223, 227, 229, 233, 239, 241, 251, 257, 263, 269, 271, 277, 281, 283, 293, 307, 311]
def cubeL : List Nat := [5411319704, 6194414737, 7344290767, 8215976869, 9551921755, 10098905585, 11043570340, 11460697813, 12214315672, 13195500289, 13492127166, 14311783875, 14809980276, 15046980094, 15499789991, 16133124468, 16720292289, 16907126662, 17444216262, 17784676812, 17950125167, 18429019306, 18734950876, 19175934170, 19734090066, 20001703533, 20132865992, 20390182855, 20516441075, 20764397895, 21588763473, 21813078375, 22141143685, 22248366392, 22769593852, 22871018771, 23170020180, 23461497531, 23651862830, 23931792517, 24205322401, 24295138891, 24734567280, 24820601251, 24990902297, 25075189284, 25569408389, 26045227120, 26200031510, 26276752392, 26428864332, 26653801653, 26727943347, 27092625994, 27306805839, 27517677555, 27725365998, 27793908591, 27997534228, 28131656200, 28198240250, 28526537963, 28973835255, 29099129074]
def squareL : List Nat := [6074000999, 7439101573, 9603838834, 11363415354, 14244795007, 15485724812, 17708603819, 18721328409]
theorem cubeL_ok : ∀ i, i < 64 → IsRoot (primeL.getD i 0) true (cubeL.getD i 0) := by decide +kernel
theorem squareL_ok : ∀ i, i < 8 → IsRoot (primeL.getD i 0) false (squareL.getD i 0) := by decide +kernel
theorem cubeL_K : ∀ i, i < 64 → UInt32.ofNat (cubeL.getD i 0) = K0.getD i 0 := by decide +kernel
theorem squareL_H : ∀ i, i < 8 → UInt32.ofNat (squareL.getD i 0) = H0.list.getD i 0 := by decide +kernel
end Go.Proofs.YteonmcconpfkjaaDoor

/- append(s, make([]T, n)...) as a law of the walk, onto a row of the call's own. No condition. -/
namespace Go.Proofs.YteonmcconpfkjaaDoor
open Go Go.RowKit
section
variable {P : Program}
theorem zeroCells_one (z : Value) (hz : z.cells = #[z]) (m : Nat) : Builtin.zeroCells z.cells m = (List.replicate m z).toArray := by
  rw [hz]
  apply Array.ext
  · simp [Builtin.zeroCells]
  · intro i h1 h2
    simp [Builtin.zeroCells, Nat.mod_one]
theorem run_append_zeros (w : World) (base : Nat) (t ty e it : TypeId) (i : TypeInfo) (z : Value) (bytes : Nat) (k kk : IntKind) (ht : P.underlying t = some (.slice e)) (hit : P.underlying it = some (.int k)) (hi : P.info? e = some i) (hz : i.zero = some z)
    (hsize : i.size = 1) (hby : i.bytes = bytes) (hzs : z.cells = #[z]) (h1z : z.oneCell' = true)
    (v : Value) (xs : List Value) (hown : w.ownsRow base e 1 v xs.length xs) (m : Nat)
    (h63 : xs.length + m ≤ maxLen) (hbytes : (xs.length + m) * bytes ≤ 140737488355328) (hbase : base ≤ w.heap.size) (hpos : 0 < bytes) :
    ∃ v' w', (Builtin.append_ #[t, it] ty #[v, .int kk (m : Int)]).run P w = .ok v' w' ∧ w'.ownsRow base e 1 v' (xs ++ List.replicate m z).length (xs ++ List.replicate m z) ∧ w.grownBy w' v.ownBlock ∧ (v'.ownBlock = v.ownBlock ∨ v'.ownBlock = some w.heap.size) := by
  subst hby
  have hsmall : xs.length + m ≤ 9223372036854775807 := by simp only [maxLen] at h63; omega
  have hwrap : IntKind.i64.wrap (m : Int) = (m : Int) := IntWalk.i64_in _ (by omega)
  have hm0 : ¬ ((m : Int) < 0) := by omega
  have hmb : ¬ ((m : Int) * (i.bytes : Int) > 2 ^ 48) := by
    have h1 : m * i.bytes ≤ (xs.length + m) * i.bytes := Nat.mul_le_mul_right _ (by omega)
    have h2 : m * i.bytes ≤ 281474976710656 := by omega
    have h3 : ((m * i.bytes : Nat) : Int) ≤ 281474976710656 := by omega
    rw [Int.natCast_mul] at h3
    omega
  have hmb' : ¬ (281474976710656 < (m : Int) * (i.bytes : Int)) := by simpa using hmb
  have hzc := zeroCells_one z hzs
  have hlen : (xs ++ List.replicate m z).length = xs.length + m := by simp
  have hfits : ∀ old, old < xs.length + m → Builtin.nextslicecap (xs.length + m) old * i.bytes ≤ 281474976710656 := fun old ho => growslice_fits ho hbytes
  have grown : ∀ (old : Nat), old < xs.length + m → ∀ (row : Option Nat),
      (w.drew.alloc (.cells (xs.toArray ++ (List.replicate m z).toArray ++ Builtin.zeroCells z.cells (grownCap w (xs.length + m) old e - (xs.length + m))) e)).ownsRow base e 1
        (.slice (some ⟨w.heap.size, 0, none⟩) (xs.length + m) (grownCap w (xs.length + m) old e)) (xs.length + m) (xs ++ List.replicate m z) ∧
      w.grownBy (w.drew.alloc (.cells (xs.toArray ++ (List.replicate m z).toArray ++ Builtin.zeroCells z.cells (grownCap w (xs.length + m) old e - (xs.length + m))) e)) row := by
    intro old ho row
    have hge := grownCap_ge w (xs.length + m) old e
    have hcm : grownCap w (xs.length + m) old e ≤ maxLen := grownCap_le_maxLen w (xs.length + m) old e h63
    refine ⟨⟨by rw [hlen, Nat.mul_one], .inr ⟨w.heap.size, _, _, rfl, hbase, heap_alloc_new w.drew _, hge, hcm, ?_, ?_⟩⟩, ⟨rfl, rfl, rfl, by simp, fun k hk _ => Below.heap_alloc w.drew _ k hk⟩⟩
    · rw [hzc]; simp; omega
    · rw [hzc]
      simp only [Array.toList_append, List.append_assoc]
      rw [← List.append_assoc, Nat.mul_one, ← hlen]
      exact List.take_left
  rcases hown.2 with ⟨rfl, hx0⟩ | ⟨g, cap, cur, rfl, hbg, hg, hnc, hcm, hcs, htake⟩
  · have hx : xs = [] := List.eq_nil_of_length_eq_zero hx0
    subst hx
    by_cases hm : m = 0
    · subst hm
      refine ⟨.slice none 0 0, w, ?_, World.ownsRow_nil w base e 1, World.grownBy.refl w _, Or.inl rfl⟩
      have hw0 : IntKind.i64.wrap 0 = 0 := by decide
      simp [Builtin.append_, asInt, asIntOf, run_underlying ht, run_underlying hit, sizeOf, typeInfo, hi, hw0]
    · have hgr := grown 0 (by simp; omega) (Value.ownBlock (.slice none 0 0))
      have hf := hfits 0 (by simp; omega)
      simp only [List.length_nil, Nat.zero_add, List.nil_append, Array.empty_append] at hgr hf ⊢
      refine ⟨_, _, ?_, by rw [List.length_replicate]; exact hgr.1, hgr.2, Or.inr rfl⟩
      have hf' : ¬ (281474976710656 < Builtin.nextslicecap m 0 * i.bytes) := by omega
      have h9 : ¬ (9223372036854775807 < (m : Int)) := by simp at hsmall; omega
      have hd := hzc m
      simp [Builtin.append_, asInt, asIntOf, run_underlying ht, run_underlying hit, sizeOf, typeInfo, zeroValue, hi, hz, hsize, hwrap, hm0, hmb', hm, h9, hf', Question.forced, run_firstCells_none, newRow, grownCap, hd]
  · by_cases hroom : xs.length + m ≤ cap
    · have hcell : ∀ (n : Nat) (xs0 : List Value), True := fun _ _ => trivial
      have hcur : cur.size = cap := by omega
      have hst := run_storeCells_at P g xs.length e (List.replicate m z) 0 cur w hg (by rw [List.length_replicate]; omega) (fun v hv => by rw [List.eq_of_mem_replicate hv]; exact h1z)
      have hadd : (⟨g, 0, none⟩ : Addr).add xs.length = ⟨g, xs.length, none⟩ := by
        unfold Addr.add; split
        · rename_i h0; rw [h0]
        · simp
      refine ⟨.slice (some ⟨g, 0, none⟩) (xs.length + m) cap, w.setRow g (cur.toList.take (xs.length + 0) ++ List.replicate m z ++ cur.toList.drop (xs.length + 0 + (List.replicate m z).length)).toArray, ?_, ⟨by rw [Nat.mul_one], .inr ⟨g, cap, _, by rw [hlen], hbg, setRow_heap w g cur _ e _ hg, by rw [hlen]; exact hroom, hcm, ?_, ?_⟩⟩, only_setRow w g _, Or.inl rfl⟩
      · by_cases hm : m = 0
        · subst hm
          have hw0 : IntKind.i64.wrap 0 = 0 := by decide
          have hroom0 : xs.length ≤ cap := by omega
          simp [Builtin.append_, asInt, asIntOf, run_underlying ht, run_underlying hit, sizeOf, typeInfo, hi, hw0, hroom0, storeCells]
          rw [setRow_self w g cur e (0, 0) hg]
        · have hd := hzc m
          rw [← hadd] at hst
          simp [Builtin.append_, asInt, asIntOf, run_underlying ht, run_underlying hit, sizeOf, typeInfo, zeroValue, hi, hz, hsize, hwrap, hm0, hmb', hm, hroom, hd, hst]
      · simp; omega
      · have ht1 : cur.toList.take xs.length = xs := by rw [Nat.mul_one] at htake; exact htake
        rw [Nat.add_zero, ht1, Nat.mul_one]
        exact List.take_left
    · have holds : ∀ j u, xs[j]? = some u → w.cell? ((⟨g, 0, none⟩ : Addr).add j) = some u := hown.cells (g := g) rfl
      have hgr := grown cap (by omega) (Value.ownBlock (.slice (some ⟨g, 0, none⟩) xs.length cap))
      have hf' : ¬ (281474976710656 < Builtin.nextslicecap (xs.length + m) cap * i.bytes) := by have := hfits cap (by omega); omega
      have h9 : ¬ (9223372036854775807 < ((xs.length : Int) + (m : Int))) := by omega
      have hfo := run_firstCells_some (P := P) w.drew i.size xs.length ⟨g, 0, none⟩ xs.length cap xs (by rw [hsize, Nat.mul_one]) (by simpa using holds)
      have hm : m ≠ 0 := by omega
      have hd := hzc m
      refine ⟨_, _, ?_, by rw [hlen]; exact hgr.1, hgr.2, Or.inr rfl⟩
      rw [hsize] at hfo
      simp [Builtin.append_, asInt, asIntOf, run_underlying ht, run_underlying hit, sizeOf, typeInfo, zeroValue, hi, hz, hsize, hwrap, hm0, hmb', hm, hroom, h9, hf', Question.forced, newRow, grownCap, hd, hfo]
theorem wpList_appendZ {w : World} {ops : Array Oper} {rest : List Oper} {o : Oper} {a : Act} {Q : Exit → Act → World → Prop} (hgd : o.guard = none) (s x : Operand) (t it : TypeId)
    (ho : o.op = .call { callee := .builtin .append, args := #[s, x], argTypes := #[t, it] })
    (base : Nat) (e : TypeId) (i : TypeInfo) (z : Value) (bytes : Nat) (k kk : IntKind) (ht : P.underlying t = some (.slice e)) (hit : P.underlying it = some (.int k)) (hi : P.info? e = some i) (hz : i.zero = some z)
    (hsize : i.size = 1) (hby : i.bytes = bytes) (hzs : z.cells = #[z]) (h1z : z.oneCell' = true)
    (v : Value) (xs : List Value) (hs : a.eval s = v) (hown : w.ownsRow base e 1 v xs.length xs) (m : Nat) (hx : a.eval x = .int kk (m : Int))
    (h63 : xs.length + m ≤ maxLen) (hbytes : (xs.length + m) * bytes ≤ 140737488355328) (hbase : base ≤ w.heap.size) (hpos : 0 < bytes)
    (h : ∀ v' w', w'.ownsRow base e 1 v' (xs ++ List.replicate m z).length (xs ++ List.replicate m z) → w.grownBy w' v.ownBlock → (v'.ownBlock = v.ownBlock ∨ v'.ownBlock = some w.heap.size) → wpList P ops Q rest (a.put o.dst v') w') : wpList P ops Q (o :: rest) a w := by
  refine wpList_plain hgd fun K hK => ?_
  obtain ⟨v', w', hrun, h2, h3, h4⟩ := run_append_zeros (P := P) w base t o.type e it i z bytes k kk ht hit hi hz hsize hby hzs h1z v xs hown m h63 hbytes hbase hpos
  unfold Oper.wp execOp
  simp only [ho, resolve, invoke, builtin, Sem.run_bind, Sem.run_pure, Result.andThen_ok, List.map_toArray, List.map_cons, List.map_nil, hs, hx, hrun]
  exact hK _ _ (h v' w' h2 h3 h4)
end
end Go.Proofs.YteonmcconpfkjaaDoor

/- make([]T, n) as an exact law of the walk; slices of uint64. No condition. -/
namespace Go.Proofs.YteonmcconpfkjaaDoor
open Go Go.RowKit
theorem madeCells_one (z : Value) (hz : z.cells = #[z]) (n : Nat) : madeCells z.cells n = (List.replicate n z).toArray := by
  rw [hz]
  apply Array.ext
  · simp [madeCells]
  · intro i h1 h2
    simp [madeCells, Nat.mod_one]
theorem wpList_makeB {P : Program} {w : World} {ops : Array Oper} {rest : List Oper} {o : Oper} {a : Act} {Q : Exit → Act → World → Prop} (hgd : o.guard = none) (l c : Operand) (t : TypeId) (ho : o.op = Op.makeSlice t l c)
    (e : TypeId) (i : TypeInfo) (z : Value) (ht : P.underlying t = some (.slice e)) (hi : P.info? e = some i) (hz : i.zero = some z) (hs : i.size = 1) (hzc : z.cells = #[z])
    (kl kc : IntKind) (n : Nat) (hl : a.eval l = .int kl (n : Int)) (hc : a.eval c = .int kc (n : Int)) (hbytes : i.bytes * n ≤ 281474976710656) (h63 : n ≤ 9223372036854775807)
    (h : wpList P ops Q rest (a.put o.dst (.slice (some ⟨w.heap.size, 0, none⟩) n n)) (w.alloc (.cells (List.replicate n z).toArray e))) : wpList P ops Q (o :: rest) a w := by
  refine wpList_plain hgd fun K hK => ?_
  have hb : (i.bytes : Int) * (n : Int) ≤ 281474976710656 := by
    have h : ((i.bytes * n : Nat) : Int) ≤ 281474976710656 := by omega
    rwa [Int.natCast_mul] at h
  have hr := run_make (P := P) w t e i z ht hi hz kl kc n n (by omega) (by omega) hb (by omega)
  rw [Int.toNat_natCast, hs, Nat.mul_one, madeCells_one z hzc] at hr
  unfold Oper.wp
  simp [execOp, ho, hl, hc, hr, Result.andThen]
  exact hK _ _ h
theorem wpList_store1 {P : Program} {w : World} {ops : Array Oper} {rest : List Oper} {o : Oper} {a : Act} {Q : Exit → Act → World → Prop} (hgd : o.guard = none) (hdst : o.dst = none) (ty : TypeId) (x y : Operand) (ho : o.op = .store ty x y) (g off : Nat) (hx : a.eval x = .pointer (some ⟨g, off, none⟩)) (v : Value) (hy : a.eval y = v)
    (t : TypeId) (cs : Array Value) (hg : Blk w g t cs) (hi : (P.info? ty).map (·.size) = some 1) (hfit : off < cs.size) (hv : v.cells = #[v]) (h1 : v.oneCell' = true)
    (h : ∀ w', Blk w' g t (cs.setIfInBounds off v) → w.grownBy w' (some g) → wpList P ops Q rest a w') : wpList P ops Q (o :: rest) a w := by
  refine wpList_plain hgd fun K hK => ?_
  have hst := run_storeCells_at P g off t [v] 0 cs w hg (by simp; omega) (by simpa using h1)
  have hwhole : (cs.toList.take (off + 0) ++ [v] ++ cs.toList.drop (off + 0 + [v].length)).toArray = cs.setIfInBounds off v := by
    apply Array.toList_inj.1
    rw [Array.toList_setIfInBounds, List.set_eq_take_append_cons_drop, if_pos (by simpa using hfit)]
    simp
  rw [hwhole] at hst
  have := h (w.setRow g (cs.setIfInBounds off v)) (setRow_heap w g cs _ t _ hg) (only_setRow w g _)
  unfold Oper.wp execOp
  obtain ⟨i, hi1, hi2⟩ : ∃ i, P.info? ty = some i ∧ i.size = 1 := by
    cases hq : P.info? ty with
    | none => rw [hq] at hi; cases hi
    | some i => rw [hq] at hi; exact ⟨i, rfl, by simpa using hi⟩
  simp [ho, hx, hy, storeVar, sizeOf, typeInfo, hi1, hi2, hv, hst, Instr.storeAt, Instr.sureAddr]
  have e2 : a.put o.dst undef = a := by rw [hdst]; rfl
  have h9 := hK _ _ this
  rw [← e2] at h9
  exact h9
/-- v is a slice of words that reads xs, below block B -/
def USl (w : World) (B : Nat) (v : Value) (xs : List UInt64) : Prop :=
  ∃ A cap, v = .slice A xs.length cap ∧ xs.length ≤ cap ∧ cap ≤ 9223372036854775807 ∧ Reads w B A (xs.map v64)
section
variable {w w' : World} {B B' : Nat} {v : Value} {xs : List UInt64}
theorem USl.below (h : USl w B v xs) (hb : Below B w w') : USl w' B v xs := by
  obtain ⟨A, cap, h1, h2, h3, h4⟩ := h
  exact ⟨A, cap, h1, h2, h3, h4.below hb⟩
theorem USl.more (h : USl w B v xs) (hB : B ≤ B') : USl w B' v xs := by
  obtain ⟨A, cap, h1, h2, h3, h4⟩ := h
  exact ⟨A, cap, h1, h2, h3, h4.more hB⟩
theorem USl.next (h : USl w w.heap.size v xs) (hb : Below w.heap.size w w') : USl w' w'.heap.size v xs := (h.below hb).more hb.size
theorem USl.of_blk {w : World} {g : Nat} {t : TypeId} {xs : List UInt64} (h : Blk w g t (xs.map v64).toArray) (B : Nat) (hB : g < B) (cap : Nat) (hcap : xs.length ≤ cap) (hc : cap ≤ 9223372036854775807) : USl w B (.slice (some ⟨g, 0, none⟩) xs.length cap) xs :=
  ⟨_, cap, rfl, hcap, hc, by simpa using Reads.of_blk h hB 0⟩
end
theorem map_v64_set (l : List UInt64) (i : Nat) (v : UInt64) : (l.map v64).set i (v64 v) = (l.set i v).map v64 := by rw [List.map_set]
theorem v64_at (l : List UInt64) (i : Nat) (h : i < l.length) : (l.map v64)[i]? = some (.int .u64 (n64 (l.getD i 0))) := by
  rw [List.getElem?_map, List.getElem?_eq_getElem h, List.getD_eq_getElem?_getD, List.getElem?_eq_getElem h]; rfl
theorem mul64 (x y : UInt64) : (n64 x * n64 y) % 18446744073709551616 = n64 (x * y) := by
  unfold n64; rw [UInt64.toNat_mul]; omega
theorem sub64 (x y : UInt64) : (n64 x - n64 y) % 18446744073709551616 = n64 (x - y) := by
  unfold n64; rw [UInt64.toNat_sub]; have := x.toNat_lt; have := y.toNat_lt; omega
theorem wrap_n64 (x : UInt64) : IntKind.u64.wrap (n64 x) = n64 x := by rw [wrap_u64']; have := n64_lo x; have := n64_hi x; omega
theorem wrap_mul64 (x y : UInt64) : IntKind.u64.wrap (n64 x * n64 y) = n64 (x * y) := by rw [wrap_u64', mul64]
theorem wrap_add64 (x y : UInt64) : IntKind.u64.wrap (n64 x + n64 y) = n64 (x + y) := by rw [wrap_u64', add64]
theorem wrap_sub64 (x y : UInt64) : IntKind.u64.wrap (n64 x - n64 y) = n64 (x - y) := by rw [wrap_u64', sub64]
theorem and64_c (x : UInt64) : bits .and .u64 (n64 x) 65535 = n64 (x &&& 65535) := bits_and64 x 65535
theorem shr64 (x y : UInt64) (r : Nat) (hy : y.toNat = r) (hr : r < 64) : n64 x / 2 ^ r = n64 (x >>> y) := by
  unfold n64; rw [UInt64.toNat_shiftRight, hy, Nat.mod_eq_of_lt hr, Nat.shiftRight_eq_div_pow]; simp
theorem shr64_16 (x : UInt64) : n64 x / (65536 : Int) = n64 (x >>> 16) := shr64 x 16 16 rfl (by decide)
theorem shr64_32 (x : UInt64) : n64 x / (4294967296 : Int) = n64 (x >>> 32) := shr64 x 32 32 rfl (by decide)
theorem shr64_48 (x : UInt64) : n64 x / (281474976710656 : Int) = n64 (x >>> 48) := shr64 x 48 48 rfl (by decide)
end Go.Proofs.YteonmcconpfkjaaDoor

/- The walks of the reference's limbs, times, below, root. No condition. -/
namespace Go.Proofs.YteonmcconpfkjaaDoor
open Go.RowKit
attribute [local go_sem] and64_c shr64_16 shr64_32 shr64_48 wrap_mul64 wrap_add64 n64_lo n64_hi
theorem limbs_any (x : UInt64) (w : World) : Calls Tryd.prog 171 #[.int .u64 (n64 x)] w fun e w' => ∃ v, e = .returned v ∧ USl w' w'.heap.size v (limbsU x) ∧ Below w.heap.size w w' := by
  go_enter Tryd.func171, Tryd.ntmps171
  go_wp2
  go_ret
  have hb := Blk.new w 41 ((limbsU x).map v64).toArray
  exact ⟨_, rfl, USl.of_blk hb _ hb.lt 4 (by simp [limbsU]) (by decide), below_new1 w _⟩
set_option maxRecDepth 100000 in
theorem times_any (u v : Value) (a b : List UInt64) (w : World) (ha : USl w w.heap.size u a) (hb : USl w w.heap.size v b) (hla : a.length ≤ 16) (hlb : b.length ≤ 16) (hpa : 0 < a.length) (hpb : 0 < b.length) :
    Calls Tryd.prog 172 #[u, v] w fun e w' => ∃ v', e = .returned v' ∧ USl w' w'.heap.size v' (timesU a b) ∧ Below w.heap.size w w' := by
  obtain ⟨A, cap, rfl, hc1, hc2, hr⟩ := ha
  obtain ⟨Ab, capb, rfl, hd1, hd2, hrb⟩ := hb
  obtain ⟨ba, offa, rfl, hba, hca⟩ := hr (by rw [List.length_map]; exact hpa)
  obtain ⟨bb, offb, rfl, hbb, hcb⟩ := hrb (by rw [List.length_map]; exact hpb)
  obtain ⟨i0, hi, hz0, hz1, hz2⟩ := info_parts (by kernel_rfl : (Tryd.prog.info? 41).map (fun i => (i.zero, i.size, i.bytes)) = some (some (.int .u64 0), 1, 8))
  clear hr hrb
  go_enter Tryd.func172, Tryd.ntmps172
  go_wp2_with (first
    | (refine wpList_makeB rfl _ _ _ rfl 41 i0 _ Tryd.underlying123 hi hz0 hz1 rfl _ _ (a.length + b.length) rfl rfl (by rw [hz2]; omega) (by omega) ?_))
  go_loopw [6] (fun iv wr => ∃ i : Nat, i ≤ a.length ∧ iv = .int .i64 i ∧ Blk wr w.heap.size 41 ((tOut a b i).map v64).toArray ∧ Below w.heap.size w wr) (fun iv _ => a.length - (intOf iv).toNat)
  case atStart => exact ⟨0, by omega, rfl, by rw [tOut, List.map_replicate]; exact Blk.new _ _ _, below_new1 w _⟩
  case round =>
    obtain ⟨i, hil, rfl, hblk, hbel⟩ := hrel
    by_cases hlt : i < a.length
    · go_wp2
      go_loopw [7, 8] (fun c kv wr => ∃ k : Nat, k ≤ b.length ∧ kv = .int .i64 k ∧ c = v64 (tIn i (a.getD i 0) b (tOut a b i) k).2 ∧ Blk wr w.heap.size 41 ((tIn i (a.getD i 0) b (tOut a b i) k).1.map v64).toArray ∧ Below w.heap.size w wr) (fun _ kv _ => b.length - (intOf kv).toNat)
      case atStart => exact ⟨0, by omega, rfl, rfl, hblk, hbel⟩
      case round =>
        clear hblk hbel
        obtain ⟨k, hk, rfl, rfl, hblk, hbel⟩ := hrel
        by_cases hlk : k < b.length
        · have hOl : (tIn i (a.getD i 0) b (tOut a b i) k).1.length = a.length + b.length := by rw [tIn_length, tOut_length]
          have cO : wr.cell? ⟨w.heap.size, i + k, none⟩ = some (.int .u64 (n64 ((tIn i (a.getD i 0) b (tOut a b i) k).1.getD (i + k) 0))) := by
            rw [hblk.cell]; simpa using v64_at (tIn i (a.getD i 0) b (tOut a b i) k).1 (i + k) (by omega)
          have cA : wr.cell? ⟨ba, offa + i, none⟩ = some (.int .u64 (n64 (a.getD i 0))) := (hbel.cell (p := ⟨ba, _, none⟩) hba).trans (hca i _ (v64_at a i hlt))
          have cB : wr.cell? ⟨bb, offb + k, none⟩ = some (.int .u64 (n64 (b.getD k 0))) := (hbel.cell (p := ⟨bb, _, none⟩) hbb).trans (hcb k _ (v64_at b k hlk))
          have fO := hblk.frozen (i + k)
          have e1 := tIn_succ i (a.getD i 0) b (tOut a b i) k
          clear hca hcb
          generalize tIn i (a.getD i 0) b (tOut a b i) k = O at *
          generalize hai : a.getD i 0 = ai at *
          generalize hbk : b.getD k 0 = bk at *
          generalize hok : O.1.getD (i + k) 0 = ok at *
          have He := Lib.hid e1
          have H1 := Lib.hid (And.intro hai (And.intro hbk hok))
          clear e1 hai hbk hok
          simp only [v64]
          go_wp2
          go_quiet (fail)
          go_wp2
          go_roundw
          case rel =>
            refine ⟨k + 1, by omega, by go_num, ?_, ?_, (below_drewN hbel nq).setCell (Nat.le_refl _) _⟩
            · rw [He.out]
            · rw [He.out, List.map_set]
              have := (hblk.drewN nq).set (i + k) (v64 (ok + ai * bk + O.2 &&& 65535))
              simpa [v64] using this
          case measure => simp [intOf]; omega
        · have ek : k = b.length := by omega
          subst ek
          have hOl : (tIn i (a.getD i 0) b (tOut a b i) b.length).1.length = a.length + b.length := by rw [tIn_length, tOut_length]
          have cO : wr.cell? ⟨w.heap.size, i + b.length, none⟩ = some (.int .u64 (n64 ((tIn i (a.getD i 0) b (tOut a b i) b.length).1.getD (i + b.length) 0))) := by
            rw [hblk.cell]; simpa using v64_at (tIn i (a.getD i 0) b (tOut a b i) b.length).1 (i + b.length) (by omega)
          have fO := hblk.frozen (i + b.length)
          have e1 := tOut_succ a b i
          generalize tIn i (a.getD i 0) b (tOut a b i) b.length = O at *
          generalize hok : O.1.getD (i + b.length) 0 = ok at *
          have He := Lib.hid e1
          clear e1 hok hca hcb
          simp only [v64]
          go_wp2
          go_roundw
          case rel =>
            refine ⟨i + 1, by omega, by go_num, ?_, (hbel).setCell (Nat.le_refl _) _⟩
            rw [He.out, List.map_set]
            have := hblk.set (i + b.length) (v64 (ok + O.2))
            simpa [v64] using this
          case measure => simp [intOf]; omega
    · have ei : i = a.length := by omega
      subst ei
      have hOl := tOut_length a b a.length
      go_wp2
      go_ret
      have hU := USl.of_blk hblk wr.heap.size hblk.lt (a.length + b.length) (by omega) (by omega)
      rw [hOl] at hU
      exact ⟨_, rfl, hU, hbel⟩
end Go.Proofs.YteonmcconpfkjaaDoor
