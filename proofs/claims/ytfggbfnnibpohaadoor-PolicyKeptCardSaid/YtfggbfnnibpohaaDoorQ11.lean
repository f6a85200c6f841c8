/- Texts that stand behind one another: RefP, Zeros, Make, RefA, RefB. No condition. -/
import Derived.Test.YtfggbfnnibpohaaDoorQ5
import Derived.Deep.DeepMust
import Derived.Deep.DeepCutAuto
/- The reference's arithmetic in plain Lean: limbs, their product, the roots. No condition. -/
namespace Go.Proofs.YtfggbfnnibpohaaDoor
def limbsU (x : UInt64) : List UInt64 := [x &&& 65535, x >>> 16 &&& 65535, x >>> 32 &&& 65535, x >>> 48]
def tIn (i : Nat) (ai : UInt64) (b out : List UInt64) : Nat → List UInt64 × UInt64
  | 0 => (out, 0)
  | k + 1 => ((tIn i ai b out k).1.set (i + k) (((tIn i ai b out k).1.getD (i + k) 0 + ai * b.getD k 0 + (tIn i ai b out k).2) &&& 65535), ((tIn i ai b out k).1.getD (i + k) 0 + ai * b.getD k 0 + (tIn i ai b out k).2) >>> 16)
def tOut (a b : List UInt64) : Nat → List UInt64
  | 0 => List.replicate (a.length + b.length) 0
  | i + 1 => (tIn i (a.getD i 0) b (tOut a b i) b.length).1.set (i + b.length) ((tIn i (a.getD i 0) b (tOut a b i) b.length).1.getD (i + b.length) 0 + (tIn i (a.getD i 0) b (tOut a b i) b.length).2)
def val : List UInt64 → Nat
  | [] => 0
  | x :: l => x.toNat + 65536 * val l
def Small (l : List UInt64) : Prop := ∀ i, (l.getD i 0).toNat < 65536
theorem getD_set (l : List UInt64) (i j : Nat) (v : UInt64) (hi : i < l.length) : (l.set i v).getD j 0 = if j = i then v else l.getD j 0 := by
  rw [List.getD_eq_getElem?_getD, List.getD_eq_getElem?_getD, List.getElem?_set]
  by_cases h : i = j
  · subst h; simp [hi]
  · rw [if_neg h, if_neg (fun e => h e.symm)]
theorem Small.set {l : List UInt64} (h : Small l) (i : Nat) (v : UInt64) (hi : i < l.length) (hv : v.toNat < 65536) : Small (l.set i v) := fun j => by
  rw [getD_set l i j v hi]; split
  · exact hv
  · exact h j
theorem pow_step (n i : Nat) : n * 65536 ^ (i + 1) = 65536 * (n * 65536 ^ i) := by rw [Nat.pow_succ, ← Nat.mul_assoc, Nat.mul_comm]
theorem val_set : ∀ (l : List UInt64) (i : Nat) (v : UInt64), i < l.length → val (l.set i v) + (l.getD i 0).toNat * 65536 ^ i = val l + v.toNat * 65536 ^ i
  | [], i, _, h => absurd h (Nat.not_lt_zero _)
  | x :: l, 0, v, _ => by simp [val]; omega
  | x :: l, i + 1, v, h => by
    have ih := val_set l i v (by simpa using h)
    simp only [List.set_cons_succ, val, List.getD_cons_succ]
    rw [pow_step, pow_step]; omega
theorem val_take_succ : ∀ (l : List UInt64) (k : Nat), k < l.length → val (l.take (k + 1)) = val (l.take k) + (l.getD k 0).toNat * 65536 ^ k
  | [], k, h => absurd h (Nat.not_lt_zero _)
  | x :: l, 0, _ => by simp [val]
  | x :: l, k + 1, h => by
    have ih := val_take_succ l k (by simpa using h)
    rw [List.take_succ_cons, List.take_succ_cons, val, val, ih, List.getD_cons_succ, pow_step]; omega
theorem val_replicate : ∀ n, val (List.replicate n 0) = 0
  | 0 => rfl
  | n + 1 => by rw [List.replicate_succ]; simp [val, val_replicate n]
theorem getD_zeros (n j : Nat) : (List.replicate n (0 : UInt64)).getD j 0 = 0 := by
  rw [List.getD_eq_getElem?_getD, List.getElem?_replicate]; split <;> rfl
theorem small_replicate (n : Nat) : Small (List.replicate n 0) := fun i => by rw [getD_zeros]; decide
theorem step_val (s a b c : UInt64) (hs : s.toNat < 65536) (ha : a.toNat < 65536) (hb : b.toNat < 65536) (hc : c.toNat < 65536) :
    ((s + a * b + c) &&& 65535).toNat = (s.toNat + a.toNat * b.toNat + c.toNat) % 65536 ∧ ((s + a * b + c) >>> 16).toNat = (s.toNat + a.toNat * b.toNat + c.toNat) / 65536 ∧ s.toNat + a.toNat * b.toNat + c.toNat < 65536 * 65536 := by
  have hab : a.toNat * b.toNat ≤ 65535 * 65535 := Nat.mul_le_mul (by omega) (by omega)
  have e : (s + a * b + c).toNat = s.toNat + a.toNat * b.toNat + c.toNat := by
    rw [UInt64.toNat_add, UInt64.toNat_add, UInt64.toNat_mul]; omega
  refine ⟨?_, ?_, by omega⟩
  · rw [UInt64.toNat_and, e]; exact Nat.and_two_pow_sub_one_eq_mod _ 16
  · rw [UInt64.toNat_shiftRight, e]; exact Nat.shiftRight_eq_div_pow _ 16
theorem tIn_ok (i : Nat) (ai : UInt64) (b out : List UInt64) (hai : ai.toNat < 65536) (hb : Small b) (ho : Small out) (hl : i + b.length ≤ out.length) : ∀ k, k ≤ b.length →
    (tIn i ai b out k).1.length = out.length ∧ Small (tIn i ai b out k).1 ∧ (tIn i ai b out k).2.toNat < 65536 ∧
    val (tIn i ai b out k).1 + (tIn i ai b out k).2.toNat * 65536 ^ (i + k) = val out + ai.toNat * val (b.take k) * 65536 ^ i ∧ ∀ j, i + k ≤ j → (tIn i ai b out k).1.getD j 0 = out.getD j 0
  | 0, _ => ⟨rfl, ho, (by decide : (0 : UInt64).toNat < 65536), by simp [tIn, val], fun _ _ => rfl⟩
  | k + 1, hk => by
    obtain ⟨h1, h2, h3, h4, h5⟩ := tIn_ok i ai b out hai hb ho hl k (by omega)
    rw [tIn]
    generalize tIn i ai b out k = s at *
    obtain ⟨e1, e2, e3⟩ := step_val _ ai _ _ (h2 (i + k)) hai (hb k) h3
    have hik : i + k < s.1.length := by omega
    have hv := val_set s.1 (i + k) ((s.1.getD (i + k) 0 + ai * b.getD k 0 + s.2) &&& 65535) hik
    refine ⟨by rw [List.length_set]; exact h1, h2.set _ _ hik (by rw [e1]; exact Nat.mod_lt _ (by decide)), by rw [e2]; omega, ?_, fun j hj => ?_⟩
    · rw [e1] at hv
      rw [e2, val_take_succ b k (by omega)]
      have hp : 65536 ^ (i + (k + 1)) = 65536 * 65536 ^ (i + k) := by rw [← Nat.add_assoc, Nat.pow_succ, Nat.mul_comm]
      have hq : ai.toNat * (val (b.take k) + (b.getD k 0).toNat * 65536 ^ k) * 65536 ^ i = ai.toNat * val (b.take k) * 65536 ^ i + ai.toNat * (b.getD k 0).toNat * 65536 ^ (i + k) := by
        rw [Nat.mul_add, Nat.add_mul, Nat.pow_add, ← Nat.mul_assoc, Nat.mul_assoc _ (65536 ^ k) (65536 ^ i), Nat.mul_comm (65536 ^ k)]
      rw [hp, hq]
      generalize 65536 ^ (i + k) = P at *
      generalize ai.toNat * (b.getD k 0).toNat = ab at *
      generalize hx : (s.1.getD (i + k) 0).toNat + ab + s.2.toNat = x at *
      have hm : x % 65536 * P + x / 65536 * (65536 * P) = x * P := by
        rw [← Nat.mul_assoc, ← Nat.add_mul]; congr 1; omega
      have hs : x * P = (s.1.getD (i + k) 0).toNat * P + ab * P + s.2.toNat * P := by rw [← hx, Nat.add_mul, Nat.add_mul]
      generalize x % 65536 * P = t1 at *
      generalize x / 65536 * (65536 * P) = t2 at *
      show val (s.1.set (i + k) ((s.1.getD (i + k) 0 + ai * b.getD k 0 + s.2) &&& 65535)) + t2 = _
      omega
    · rw [getD_set _ _ _ _ hik, if_neg (by omega)]; exact h5 j (by omega)
theorem tIn_succ (i : Nat) (ai : UInt64) (b out : List UInt64) (k : Nat) : tIn i ai b out (k + 1) = ((tIn i ai b out k).1.set (i + k) (((tIn i ai b out k).1.getD (i + k) 0 + ai * b.getD k 0 + (tIn i ai b out k).2) &&& 65535), ((tIn i ai b out k).1.getD (i + k) 0 + ai * b.getD k 0 + (tIn i ai b out k).2) >>> 16) := rfl
theorem tOut_succ (a b : List UInt64) (i : Nat) : tOut a b (i + 1) = (tIn i (a.getD i 0) b (tOut a b i) b.length).1.set (i + b.length) ((tIn i (a.getD i 0) b (tOut a b i) b.length).1.getD (i + b.length) 0 + (tIn i (a.getD i 0) b (tOut a b i) b.length).2) := rfl
theorem tIn_length (i : Nat) (ai : UInt64) (b out : List UInt64) : ∀ k, (tIn i ai b out k).1.length = out.length
  | 0 => rfl
  | k + 1 => by rw [tIn, List.length_set]; exact tIn_length i ai b out k
theorem tOut_length (a b : List UInt64) : ∀ i, (tOut a b i).length = a.length + b.length
  | 0 => by simp [tOut]
  | i + 1 => by rw [tOut, List.length_set, tIn_length]; exact tOut_length a b i
theorem tOut_ok (a b : List UInt64) (ha : Small a) (hb : Small b) : ∀ i, i ≤ a.length →
    (tOut a b i).length = a.length + b.length ∧ Small (tOut a b i) ∧ (∀ j, i + b.length ≤ j → (tOut a b i).getD j 0 = 0) ∧ val (tOut a b i) = val (a.take i) * val b
  | 0, _ => ⟨by simp [tOut], small_replicate _, fun j _ => getD_zeros _ _, by simp [tOut, val_replicate, val]⟩
  | i + 1, hi => by
    obtain ⟨h1, h2, h3, h4⟩ := tOut_ok a b ha hb i (by omega)
    obtain ⟨g1, g2, g3, g4, g5⟩ := tIn_ok i (a.getD i 0) b (tOut a b i) (ha i) hb h2 (by omega) b.length (Nat.le_refl _)
    rw [tOut]
    generalize tIn i (a.getD i 0) b (tOut a b i) b.length = s at *
    have hik : i + b.length < s.1.length := by omega
    have hz : s.1.getD (i + b.length) 0 = 0 := (g5 _ (Nat.le_refl _)).trans (h3 _ (Nat.le_refl _))
    have hv := val_set s.1 (i + b.length) (s.1.getD (i + b.length) 0 + s.2) hik
    rw [hz, UInt64.zero_add] at hv ⊢
    refine ⟨by rw [List.length_set]; omega, g2.set _ _ hik g3, fun j hj => ?_, ?_⟩
    · rw [getD_set _ _ _ _ hik, if_neg (by omega), g5 _ (by omega)]; exact h3 j (by omega)
    · rw [val_take_succ a i (by omega), Nat.add_mul, ← h4]
      rw [List.take_length] at g4
      have e : (a.getD i 0).toNat * 65536 ^ i * val b = (a.getD i 0).toNat * val b * 65536 ^ i := by rw [Nat.mul_assoc, Nat.mul_comm (65536 ^ i), ← Nat.mul_assoc]
      rw [e]
      have h0 : (0 : UInt64).toNat = 0 := rfl
      rw [h0, Nat.zero_mul] at hv
      omega
def timesU (a b : List UInt64) : List UInt64 := tOut a b a.length
theorem timesU_ok (a b : List UInt64) (ha : Small a) (hb : Small b) : (timesU a b).length = a.length + b.length ∧ Small (timesU a b) ∧ val (timesU a b) = val a * val b := by
  obtain ⟨h1, h2, _, h4⟩ := tOut_ok a b ha hb a.length (Nat.le_refl _)
  rw [List.take_length] at h4
  exact ⟨h1, h2, h4⟩
theorem and_mod (x : UInt64) : (x &&& 65535).toNat = x.toNat % 65536 := by rw [UInt64.toNat_and]; exact Nat.and_two_pow_sub_one_eq_mod _ 16
theorem shr_div16 (x : UInt64) : (x >>> 16).toNat = x.toNat / 65536 := by rw [UInt64.toNat_shiftRight]; exact Nat.shiftRight_eq_div_pow _ 16
theorem shr_div32 (x : UInt64) : (x >>> 32).toNat = x.toNat / 4294967296 := by rw [UInt64.toNat_shiftRight]; exact Nat.shiftRight_eq_div_pow _ 32
theorem shr_div48 (x : UInt64) : (x >>> 48).toNat = x.toNat / 281474976710656 := by rw [UInt64.toNat_shiftRight]; exact Nat.shiftRight_eq_div_pow _ 48
theorem small_cons {x : UInt64} {l : List UInt64} (hx : x.toNat < 65536) (h : Small l) : Small (x :: l)
  | 0 => by simpa using hx
  | i + 1 => by simpa using h i
theorem small_nil : Small [] := fun i => by simp
theorem limbsU_small (x : UInt64) : Small (limbsU x) :=
  small_cons (by rw [and_mod]; omega) (small_cons (by rw [and_mod]; omega) (small_cons (by rw [and_mod]; omega) (small_cons (by rw [shr_div48]; have := x.toNat_lt; omega) small_nil)))
theorem limbsU_val (x : UInt64) : val (limbsU x) = x.toNat := by
  have := x.toNat_lt
  simp only [limbsU, val, and_mod, shr_div16, shr_div32, shr_div48]; omega
/-- the comparison from the top -/
def cmpU (b w : List UInt64) : Nat → Bool
  | 0 => true
  | i + 1 => if b.getD i 0 = w.getD i 0 then cmpU b w i else decide (b.getD i 0 < w.getD i 0)
theorem val_take_lt (l : List UInt64) (h : Small l) : ∀ k, k ≤ l.length → val (l.take k) < 65536 ^ k
  | 0, _ => by simp [val]
  | k + 1, hk => by
    have ih := val_take_lt l h k (by omega)
    have hk2 := h k
    rw [val_take_succ l k (by omega), Nat.pow_succ]
    have : ((l.getD k 0).toNat + 1) * 65536 ^ k ≤ 65536 * 65536 ^ k := Nat.mul_le_mul_right _ (by omega)
    rw [Nat.add_mul] at this; omega
theorem cmpU_ok (b w : List UInt64) (hb : Small b) (hw : Small w) : ∀ i, i ≤ b.length → i ≤ w.length → cmpU b w i = decide (val (b.take i) ≤ val (w.take i))
  | 0, _, _ => by simp [cmpU, val]
  | i + 1, h1, h2 => by
    have ih := cmpU_ok b w hb hw i (by omega) (by omega)
    have l1 := val_take_lt b hb i (by omega)
    have l2 := val_take_lt w hw i (by omega)
    rw [cmpU, val_take_succ b i (by omega), val_take_succ w i (by omega)]
    split
    · rename_i h
      rw [ih, h]; simp
    · rename_i h
      have hne : (b.getD i 0).toNat ≠ (w.getD i 0).toNat := fun e => h (UInt64.toNat_inj.1 e)
      apply decide_eq_decide.2
      rw [UInt64.lt_iff_toNat_lt]
      generalize 65536 ^ i = P at *
      constructor
      · intro hlt
        have : ((b.getD i 0).toNat + 1) * P ≤ (w.getD i 0).toNat * P := Nat.mul_le_mul_right _ hlt
        rw [Nat.add_mul] at this; omega
      · intro hle
        apply Classical.byContradiction
        intro hn
        have : ((w.getD i 0).toNat + 1) * P ≤ (b.getD i 0).toNat * P := Nat.mul_le_mul_right _ (by omega)
        rw [Nat.add_mul] at this; omega
/-- what the walk of 'below' compares with -/
def wantU (n m : Nat) (p : UInt64) : List UInt64 := ((List.replicate m 0).set n (p &&& 65535)).set (n + 1) (p >>> 16)
theorem wantU_ok (n m : Nat) (p : UInt64) (hn : n + 1 < m) (hp : p.toNat < 4294967296) : (wantU n m p).length = m ∧ Small (wantU n m p) ∧ val (wantU n m p) = p.toNat * 65536 ^ n := by
  have l1 : n < (List.replicate m (0 : UInt64)).length := by simp; omega
  have s1 : Small ((List.replicate m 0).set n (p &&& 65535)) := (small_replicate m).set n _ l1 (by rw [and_mod]; omega)
  have l2 : n + 1 < ((List.replicate m (0 : UInt64)).set n (p &&& 65535)).length := by simpa using hn
  have v1 := val_set (List.replicate m 0) n (p &&& 65535) l1
  have v2 := val_set ((List.replicate m 0).set n (p &&& 65535)) (n + 1) (p >>> 16) l2
  rw [getD_set _ _ _ _ l1, if_neg (by omega), getD_zeros] at v2
  rw [getD_zeros, val_replicate, and_mod] at v1
  refine ⟨by simp [wantU], s1.set _ _ l2 (by rw [shr_div16]; omega), ?_⟩
  unfold wantU
  have hz : (0 : UInt64).toNat = 0 := rfl
  rw [shr_div16, hz, Nat.zero_mul, Nat.add_zero, pow_step] at v2
  rw [hz, Nat.zero_mul, Nat.add_zero, Nat.zero_add] at v1
  rw [v2, v1, ← Nat.mul_assoc, ← Nat.add_mul]
  congr 1; omega
def belowU (x p : UInt64) (cube : Bool) : Bool := decide (x.toNat ^ (if cube then 3 else 2) ≤ p.toNat * 65536 ^ (if cube then 6 else 4))
theorem below_sq (x p : UInt64) (hp : p.toNat < 4294967296) : cmpU (timesU (limbsU x) (limbsU x)) (wantU 4 8 p) 8 = belowU x p false := by
  obtain ⟨h1, h2, h3⟩ := timesU_ok _ _ (limbsU_small x) (limbsU_small x)
  obtain ⟨g1, g2, g3⟩ := wantU_ok 4 8 p (by decide) hp
  have e1 : (timesU (limbsU x) (limbsU x)).length = 8 := h1
  rw [cmpU_ok _ _ h2 g2 8 (by omega) (by omega), List.take_of_length_le (by omega), List.take_of_length_le (by omega), h3, g3, limbsU_val]
  simp [belowU, Nat.pow_succ]
theorem below_cb (x p : UInt64) (hp : p.toNat < 4294967296) : cmpU (timesU (timesU (limbsU x) (limbsU x)) (limbsU x)) (wantU 6 12 p) 12 = belowU x p true := by
  obtain ⟨h1, h2, h3⟩ := timesU_ok _ _ (limbsU_small x) (limbsU_small x)
  obtain ⟨k1, k2, k3⟩ := timesU_ok _ _ h2 (limbsU_small x)
  obtain ⟨g1, g2, g3⟩ := wantU_ok 6 12 p (by decide) hp
  have e1 : (timesU (timesU (limbsU x) (limbsU x)) (limbsU x)).length = 12 := by rw [k1, h1]; rfl
  rw [cmpU_ok _ _ k2 g2 12 (by omega) (by omega), List.take_of_length_le (by omega), List.take_of_length_le (by omega), k3, h3, g3, limbsU_val]
  simp [belowU, Nat.pow_succ]
/-- r is the root -/
def IsRoot (p : UInt64) (cube : Bool) (r : Nat) : Prop := r ^ (if cube then 3 else 2) ≤ p.toNat * 65536 ^ (if cube then 6 else 4) ∧ p.toNat * 65536 ^ (if cube then 6 else 4) < (r + 1) ^ (if cube then 3 else 2)
instance (p : UInt64) (c : Bool) (r : Nat) : Decidable (IsRoot p c r) := by unfold IsRoot; infer_instance
theorem IsRoot.unique {p : UInt64} {c : Bool} {r s : Nat} (h : IsRoot p c r) (g : IsRoot p c s) : r = s := by
  have hx : ∀ a b : Nat, a ^ (if c then 3 else 2) < (b + 1) ^ (if c then 3 else 2) → a ≤ b := fun a b hab => by
    apply Classical.byContradiction
    intro hn
    exact absurd (Nat.pow_le_pow_left (show b + 1 ≤ a by omega) (if c then 3 else 2)) (by omega)
  have h1 := hx r s (Nat.lt_of_le_of_lt h.1 g.2)
  have h2 := hx s r (Nat.lt_of_le_of_lt g.1 h.2)
  omega
def primeL : List UInt64 := [2, 3, 5, 7, 11, 13, 17, 19, 23, 29, 31, 37, 41, 43, 47, 53, 59, 61, 67, 71, 73, 79, 83, 89, 97, 101, 103, 107, 109, 113, 127, 131, 137, 139, 149, 151, 157, 163, 167, 173, 179, 181, 191, 193, 197, 199, 211, 223, 227, 229, 233, 239, 241, 251, 257, 263, 269, 271, 277, 281, 283, 293, 307, 311]
def cubeL : List Nat := [5411319704, 6194414737, 7344290767, 8215976869, 9551921755, 10098905585, 11043570340, 11460697813, 12214315672, 13195500289, 13492127166, 14311783875, 14809980276, 15046980094, 15499789991, 16133124468, 16720292289, 16907126662, 17444216262, 17784676812, 17950125167, 18429019306, 18734950876, 19175934170, 19734090066, 20001703533, 20132865992, 20390182855, 20516441075, 20764397895, 21588763473, 21813078375, 22141143685, 22248366392, 22769593852, 22871018771, 23170020180, 23461497531, 23651862830, 23931792517, 24205322401, 24295138891, 24734567280, 24820601251, 24990902297, 25075189284, 25569408389, 26045227120, 26200031510, 26276752392, 26428864332, 26653801653, 26727943347, 27092625994, 27306805839, 27517677555, 27725365998, 27793908591, 27997534228, 28131656200, 28198240250, 28526537963, 28973835255, 29099129074]
def squareL : List Nat := [6074000999, 7439101573, 9603838834, 11363415354, 14244795007, 15485724812, 17708603819, 18721328409]
theorem cubeL_ok : ∀ i, i < 64 → IsRoot (primeL.getD i 0) true (cubeL.getD i 0) := by decide +kernel
theorem squareL_ok : ∀ i, i < 8 → IsRoot (primeL.getD i 0) false (squareL.getD i 0) := by decide +kernel
theorem cubeL_K : ∀ i, i < 64 → UInt32.ofNat (cubeL.getD i 0) = K0.getD i 0 := by decide +kernel
theorem squareL_H : ∀ i, i < 8 → UInt32.ofNat (squareL.getD i 0) = H0.list.getD i 0 := by decide +kernel
end Go.Proofs.YtfggbfnnibpohaaDoor

/- append(s, make([]T, n)...) as a law of the walk, onto a row of the call's own. No condition. -/
namespace Go.Proofs.YtfggbfnnibpohaaDoor
open Go Go.RowKit
section
variable {P : Program}
theorem zeroCells_one (z : Value) (hz : z.cells = #[z]) (m : Nat) : Builtin.zeroCells z.cells m = (List.replicate m z).toArray := by
  rw [hz]
  apply Array.ext
  · simp [Builtin.zeroCells]
  · intro i h1 h2
    simp [Builtin.zeroCells, Nat.mod_one]
theorem run_append_zeros (w : World) (base : Nat) (t ty e it : TypeId) (i : TypeInfo) (z : Value) (bytes : Nat) (k kk : IntKind) (ht : P.underlying t = some (.slice e)) (hit : P.underlying it = some (.int k)) (hi : P.info? e = some i) (hz : i.zero = some z)
    (hsize : i.size = 1) (hby : i.bytes = bytes) (hzs : z.cells = #[z]) (h1z : z.oneCell' = true)
    (v : Value) (xs : List Value) (hown : w.ownsRow base e 1 v xs.length xs) (m : Nat)
    (h63 : xs.length + m ≤ maxLen) (hbytes : (xs.length + m) * bytes ≤ 140737488355328) (hbase : base ≤ w.heap.size) (hpos : 0 < bytes) :
    ∃ v' w', (Builtin.append_ #[t, it] ty #[v, .int kk (m : Int)]).run P w = .ok v' w' ∧ w'.ownsRow base e 1 v' (xs ++ List.replicate m z).length (xs ++ List.replicate m z) ∧ w.grownBy w' v.ownBlock ∧ (v'.ownBlock = v.ownBlock ∨ v'.ownBlock = some w.heap.size) := by
  subst hby
  have hsmall : xs.length + m ≤ 9223372036854775807 := by simp only [maxLen] at h63; omega
  have hwrap : IntKind.i64.wrap (m : Int) = (m : Int) := IntWalk.i64_in _ (by omega)
  have hm0 : ¬ ((m : Int) < 0) := by omega
  have hmb : ¬ ((m : Int) * (i.bytes : Int) > 2 ^ 48) := by
    have h1 : m * i.bytes ≤ (xs.length + m) * i.bytes := Nat.mul_le_mul_right _ (by omega)
    have h2 : m * i.bytes ≤ 281474976710656 := by omega
    have h3 : ((m * i.bytes : Nat) : Int) ≤ 281474976710656 := by omega
    rw [Int.natCast_mul] at h3
    omega
  have hmb' : ¬ (281474976710656 < (m : Int) * (i.bytes : Int)) := by simpa using hmb
  have hzc := zeroCells_one z hzs
  have hlen : (xs ++ List.replicate m z).length = xs.length + m := by simp
  have hfits : ∀ old, old < xs.length + m → Builtin.nextslicecap (xs.length + m) old * i.bytes ≤ 281474976710656 := fun old ho => growslice_fits ho hbytes
  have grown : ∀ (old : Nat), old < xs.length + m → ∀ (row : Option Nat),
      (w.drew.alloc (.cells (xs.toArray ++ (List.replicate m z).toArray ++ Builtin.zeroCells z.cells (grownCap w (xs.length + m) old e - (xs.length + m))) e)).ownsRow base e 1
        (.slice (some ⟨w.heap.size, 0, none⟩) (xs.length + m) (grownCap w (xs.length + m) old e)) (xs.length + m) (xs ++ List.replicate m z) ∧
      w.grownBy (w.drew.alloc (.cells (xs.toArray ++ (List.replicate m z).toArray ++ Builtin.zeroCells z.cells (grownCap w (xs.length + m) old e - (xs.length + m))) e)) row := by
    intro old ho row
    have hge := grownCap_ge w (xs.length + m) old e
    have hcm : grownCap w (xs.length + m) old e ≤ maxLen := grownCap_le_maxLen w (xs.length + m) old e h63
    refine ⟨⟨by rw [hlen, Nat.mul_one], .inr ⟨w.heap.size, _, _, rfl, hbase, heap_alloc_new w.drew _, hge, hcm, ?_, ?_⟩⟩, ⟨rfl, rfl, rfl, by simp, fun k hk _ => Below.heap_alloc w.drew _ k hk⟩⟩
    · rw [hzc]; simp; omega
    · rw [hzc]
      simp only [Array.toList_append, List.append_assoc]
      rw [← List.append_assoc, Nat.mul_one, ← hlen]
      exact List.take_left
  rcases hown.2 with ⟨rfl, hx0⟩ | ⟨g, cap, cur, rfl, hbg, hg, hnc, hcm, hcs, htake⟩
  · have hx : xs = [] := List.eq_nil_of_length_eq_zero hx0
    subst hx
    by_cases hm : m = 0
    · subst hm
      refine ⟨.slice none 0 0, w, ?_, World.ownsRow_nil w base e 1, World.grownBy.refl w _, Or.inl rfl⟩
      have hw0 : IntKind.i64.wrap 0 = 0 := by decide
      simp [Builtin.append_, asInt, asIntOf, run_underlying ht, run_underlying hit, sizeOf, typeInfo, hi, hw0]
    · have hgr := grown 0 (by simp; omega) (Value.ownBlock (.slice none 0 0))
      have hf := hfits 0 (by simp; omega)
      simp only [List.length_nil, Nat.zero_add, List.nil_append, Array.empty_append] at hgr hf ⊢
      refine ⟨_, _, ?_, by rw [List.length_replicate]; exact hgr.1, hgr.2, Or.inr rfl⟩
      have hf' : ¬ (281474976710656 < Builtin.nextslicecap m 0 * i.bytes) := by omega
      have h9 : ¬ (9223372036854775807 < (m : Int)) := by simp at hsmall; omega
      have hd := hzc m
      simp [Builtin.append_, asInt, asIntOf, run_underlying ht, run_underlying hit, sizeOf, typeInfo, zeroValue, hi, hz, hsize, hwrap, hm0, hmb', hm, h9, hf', Question.forced, run_firstCells_none, newRow, grownCap, hd]
  · by_cases hroom : xs.length + m ≤ cap
    · have hcell : ∀ (n : Nat) (xs0 : List Value), True := fun _ _ => trivial
      have hcur : cur.size = cap := by omega
      have hst := run_storeCells_at P g xs.length e (List.replicate m z) 0 cur w hg (by rw [List.length_replicate]; omega) (fun v hv => by rw [List.eq_of_mem_replicate hv]; exact h1z)
      have hadd : (⟨g, 0, none⟩ : Addr).add xs.length = ⟨g, xs.length, none⟩ := by
        unfold Addr.add; split
        · rename_i h0; rw [h0]
        · simp
      refine ⟨.slice (some ⟨g, 0, none⟩) (xs.length + m) cap, w.setRow g (cur.toList.take (xs.length + 0) ++ List.replicate m z ++ cur.toList.drop (xs.length + 0 + (List.replicate m z).length)).toArray, ?_, ⟨by rw [Nat.mul_one], .inr ⟨g, cap, _, by rw [hlen], hbg, setRow_heap w g cur _ e _ hg, by rw [hlen]; exact hroom, hcm, ?_, ?_⟩⟩, only_setRow w g _, Or.inl rfl⟩
      · by_cases hm : m = 0
        · subst hm
          have hw0 : IntKind.i64.wrap 0 = 0 := by decide
          have hroom0 : xs.length ≤ cap := by omega
          simp [Builtin.append_, asInt, asIntOf, run_underlying ht, run_underlying hit, sizeOf, typeInfo, hi, hw0, hroom0, storeCells]
          rw [setRow_self w g cur e (0, 0) hg]
        · have hd := hzc m
          rw [← hadd] at hst
          simp [Builtin.append_, asInt, asIntOf, run_underlying ht, run_underlying hit, sizeOf, typeInfo, zeroValue, hi, hz, hsize, hwrap, hm0, hmb', hm, hroom, hd, hst]
      · simp; omega
      · have ht1 : cur.toList.take xs.length = xs := by rw [Nat.mul_one] at htake; exact htake
        rw [Nat.add_zero, ht1, Nat.mul_one]
        exact List.take_left
    · have holds : ∀ j u, xs[j]? = some u → w.cell? ((⟨g, 0, none⟩ : Addr).add j) = some u := hown.cells (g := g) rfl
      have hgr := grown cap (by omega) (Value.ownBlock (.slice (some ⟨g, 0, none⟩) xs.length cap))
      have hf' : ¬ (281474976710656 < Builtin.nextslicecap (xs.length + m) cap * i.bytes) := by have := hfits cap (by omega); omega
      have h9 : ¬ (9223372036854775807 < ((xs.length : Int) + (m : Int))) := by omega
      have hfo := run_firstCells_some (P := P) w.drew i.size xs.length ⟨g, 0, none⟩ xs.length cap xs (by rw [hsize, Nat.mul_one]) (by simpa using holds)
      have hm : m ≠ 0 := by omega
      have hd := hzc m
      refine ⟨_, _, ?_, by rw [hlen]; exact hgr.1, hgr.2, Or.inr rfl⟩
      rw [hsize] at hfo
      simp [Builtin.append_, asInt, asIntOf, run_underlying ht, run_underlying hit, sizeOf, typeInfo, zeroValue, hi, hz, hsize, hwrap, hm0, hmb', hm, hroom, h9, hf', Question.forced, newRow, grownCap, hd, hfo]
theorem wpList_appendZ {w : World} {ops : Array Oper} {rest : List Oper} {o : Oper} {a : Act} {Q : Exit → Act → World → Prop} (hgd : o.guard = none) (s x : Operand) (t it : TypeId)
    (ho : o.op = .call { callee := .builtin .append, args := #[s, x], argTypes := #[t, it] })
    (base : Nat) (e : TypeId) (i : TypeInfo) (z : Value) (bytes : Nat) (k kk : IntKind) (ht : P.underlying t = some (.slice e)) (hit : P.underlying it = some (.int k)) (hi : P.info? e = some i) (hz : i.zero = some z)
    (hsize : i.size = 1) (hby : i.bytes = bytes) (hzs : z.cells = #[z]) (h1z : z.oneCell' = true)
    (v : Value) (xs : List Value) (hs : a.eval s = v) (hown : w.ownsRow base e 1 v xs.length xs) (m : Nat) (hx : a.eval x = .int kk (m : Int))
    (h63 : xs.length + m ≤ maxLen) (hbytes : (xs.length + m) * bytes ≤ 140737488355328) (hbase : base ≤ w.heap.size) (hpos : 0 < bytes)
    (h : ∀ v' w', w'.ownsRow base e 1 v' (xs ++ List.replicate m z).length (xs ++ List.replicate m z) → w.grownBy w' v.ownBlock → (v'.ownBlock = v.ownBlock ∨ v'.ownBlock = some w.heap.size) → wpList P ops Q rest (a.put o.dst v') w') : wpList P ops Q (o :: rest) a w := by
  refine wpList_plain hgd fun K hK => ?_
  obtain ⟨v', w', hrun, h2, h3, h4⟩ := run_append_zeros (P := P) w base t o.type e it i z bytes k kk ht hit hi hz hsize hby hzs h1z v xs hown m h63 hbytes hbase hpos
  unfold Oper.wp execOp
  simp only [ho, resolve, invoke, builtin, Sem.run_bind, Sem.run_pure, Result.andThen_ok, List.map_toArray, List.map_cons, List.map_nil, hs, hx, hrun]
  exact hK _ _ (h v' w' h2 h3 h4)
end
end Go.Proofs.YtfggbfnnibpohaaDoor

/- make([]T, n) as an exact law of the walk; slices of uint64. No condition. -/
namespace Go.Proofs.YtfggbfnnibpohaaDoor
open Go Go.RowKit
theorem madeCells_one (z : Value) (hz : z.cells = #[z]) (n : Nat) : madeCells z.cells n = (List.replicate n z).toArray := by
  rw [hz]
  apply Array.ext
  · simp [madeCells]
  · intro i h1 h2
    simp [madeCells, Nat.mod_one]
theorem wpList_makeB {P : Program} {w : World} {ops : Array Oper} {rest : List Oper} {o : Oper} {a : Act} {Q : Exit → Act → World → Prop} (hgd : o.guard = none) (l c : Operand) (t : TypeId) (ho : o.op = Op.makeSlice t l c)
    (e : TypeId) (i : TypeInfo) (z : Value) (ht : P.underlying t = some (.slice e)) (hi : P.info? e = some i) (hz : i.zero = some z) (hs : i.size = 1) (hzc : z.cells = #[z])
    (kl kc : IntKind) (n : Nat) (hl : a.eval l = .int kl (n : Int)) (hc : a.eval c = .int kc (n : Int)) (hbytes : i.bytes * n ≤ 281474976710656) (h63 : n ≤ 9223372036854775807)
    (h : wpList P ops Q rest (a.put o.dst (.slice (some ⟨w.heap.size, 0, none⟩) n n)) (w.alloc (.cells (List.replicate n z).toArray e))) : wpList P ops Q (o :: rest) a w := by
  refine wpList_plain hgd fun K hK => ?_
  have hb : (i.bytes : Int) * (n : Int) ≤ 281474976710656 := by
    have h : ((i.bytes * n : Nat) : Int) ≤ 281474976710656 := by omega
    rwa [Int.natCast_mul] at h
  have hr := run_make (P := P) w t e i z ht hi hz kl kc n n (by omega) (by omega) hb (by omega)
  rw [Int.toNat_natCast, hs, Nat.mul_one, madeCells_one z hzc] at hr
  unfold Oper.wp
  simp [execOp, ho, hl, hc, hr, Result.andThen]
  exact hK _ _ h
theorem wpList_store1 {P : Program} {w : World} {ops : Array Oper} {rest : List Oper} {o : Oper} {a : Act} {Q : Exit → Act → World → Prop} (hgd : o.guard = none) (hdst : o.dst = none) (ty : TypeId) (x y : Operand) (ho : o.op = .store ty x y) (g off : Nat) (hx : a.eval x = .pointer (some ⟨g, off, none⟩)) (v : Value) (hy : a.eval y = v)
    (t : TypeId) (cs : Array Value) (hg : Blk w g t cs) (hi : (P.info? ty).map (·.size) = some 1) (hfit : off < cs.size) (hv : v.cells = #[v]) (h1 : v.oneCell' = true)
    (h : ∀ w', Blk w' g t (cs.setIfInBounds off v) → w.grownBy w' (some g) → wpList P ops Q rest a w') : wpList P ops Q (o :: rest) a w := by
  refine wpList_plain hgd fun K hK => ?_
  have hst := run_storeCells_at P g off t [v] 0 cs w hg (by simp; omega) (by simpa using h1)
  have hwhole : (cs.toList.take (off + 0) ++ [v] ++ cs.toList.drop (off + 0 + [v].length)).toArray = cs.setIfInBounds off v := by
    apply Array.toList_inj.1
    rw [Array.toList_setIfInBounds, List.set_eq_take_append_cons_drop, if_pos (by simpa using hfit)]
    simp
  rw [hwhole] at hst
  have := h (w.setRow g (cs.setIfInBounds off v)) (setRow_heap w g cs _ t _ hg) (only_setRow w g _)
  unfold Oper.wp execOp
  obtain ⟨i, hi1, hi2⟩ : ∃ i, P.info? ty = some i ∧ i.size = 1 := by
    cases hq : P.info? ty with
    | none => rw [hq] at hi; cases hi
    | some i => rw [hq] at hi; exact ⟨i, rfl, by simpa using hi⟩
  simp [ho, hx, hy, storeVar, sizeOf, typeInfo, hi1, hi2, hv, hst, Instr.storeAt, Instr.sureAddr]
  have e2 : a.put o.dst undef = a := by rw [hdst]; rfl
  have h9 := hK _ _ this
  rw [← e2] at h9
  exact h9
/-- v is a slice of words that reads xs, below block B -/
def USl (w : World) (B : Nat) (v : Value) (xs : List UInt64) : Prop :=
  ∃ A cap, v = .slice A xs.length cap ∧ xs.length ≤ cap ∧ cap ≤ 9223372036854775807 ∧ Reads w B A (xs.map v64)
section
variable {w w' : World} {B B' : Nat} {v : Value} {xs : List UInt64}
theorem USl.below (h : USl w B v xs) (hb : Below B w w') : USl w' B v xs := by
  obtain ⟨A, cap, h1, h2, h3, h4⟩ := h
  exact ⟨A, cap, h1, h2, h3, h4.below hb⟩
theorem USl.more (h : USl w B v xs) (hB : B ≤ B') : USl w B' v xs := by
  obtain ⟨A, cap, h1, h2, h3, h4⟩ := h
  exact ⟨A, cap, h1, h2, h3, h4.more hB⟩
theorem USl.next (h : USl w w.heap.size v xs) (hb : Below w.heap.size w w') : USl w' w'.heap.size v xs := (h.below hb).more hb.size
theorem USl.of_blk {w : World} {g : Nat} {t : TypeId} {xs : List UInt64} (h : Blk w g t (xs.map v64).toArray) (B : Nat) (hB : g < B) (cap : Nat) (hcap : xs.length ≤ cap) (hc : cap ≤ 9223372036854775807) : USl w B (.slice (some ⟨g, 0, none⟩) xs.length cap) xs :=
  ⟨_, cap, rfl, hcap, hc, by simpa using Reads.of_blk h hB 0⟩
end
theorem map_v64_set (l : List UInt64) (i : Nat) (v : UInt64) : (l.map v64).set i (v64 v) = (l.set i v).map v64 := by rw [List.map_set]
theorem v64_at (l : List UInt64) (i : Nat) (h : i < l.length) : (l.map v64)[i]? = some (.int .u64 (n64 (l.getD i 0))) := by
  rw [List.getElem?_map, List.getElem?_eq_getElem h, List.getD_eq_getElem?_getD, List.getElem?_eq_getElem h]; rfl
theorem mul64 (x y : UInt64) : (n64 x * n64 y) % 18446744073709551616 = n64 (x * y) := by
  unfold n64; rw [UInt64.toNat_mul]; omega
theorem sub64 (x y : UInt64) : (n64 x - n64 y) % 18446744073709551616 = n64 (x - y) := by
  unfold n64; rw [UInt64.toNat_sub]; have := x.toNat_lt; have := y.toNat_lt; omega
theorem wrap_n64 (x : UInt64) : IntKind.u64.wrap (n64 x) = n64 x := by rw [wrap_u64']; have := n64_lo x; have := n64_hi x; omega
theorem wrap_mul64 (x y : UInt64) : IntKind.u64.wrap (n64 x * n64 y) = n64 (x * y) := by rw [wrap_u64', mul64]
theorem wrap_add64 (x y : UInt64) : IntKind.u64.wrap (n64 x + n64 y) = n64 (x + y) := by rw [wrap_u64', add64]
theorem wrap_sub64 (x y : UInt64) : IntKind.u64.wrap (n64 x - n64 y) = n64 (x - y) := by rw [wrap_u64', sub64]
theorem and64_c (x : UInt64) : bits .and .u64 (n64 x) 65535 = n64 (x &&& 65535) := bits_and64 x 65535
theorem shr64 (x y : UInt64) (r : Nat) (hy : y.toNat = r) (hr : r < 64) : n64 x / 2 ^ r = n64 (x >>> y) := by
  unfold n64; rw [UInt64.toNat_shiftRight, hy, Nat.mod_eq_of_lt hr, Nat.shiftRight_eq_div_pow]; simp
theorem shr64_16 (x : UInt64) : n64 x / (65536 : Int) = n64 (x >>> 16) := shr64 x 16 16 rfl (by decide)
theorem shr64_32 (x : UInt64) : n64 x / (4294967296 : Int) = n64 (x >>> 32) := shr64 x 32 32 rfl (by decide)
theorem shr64_48 (x : UInt64) : n64 x / (281474976710656 : Int) = n64 (x >>> 48) := shr64 x 48 48 rfl (by decide)
end Go.Proofs.YtfggbfnnibpohaaDoor

/- The walks of the reference's limbs, times, below, root. No condition. -/
namespace Go.Proofs.YtfggbfnnibpohaaDoor
open Go.RowKit
attribute [local go_sem] and64_c shr64_16 shr64_32 shr64_48 wrap_mul64 wrap_add64 n64_lo n64_hi
theorem limbs_any (x : UInt64) (w : World) : Calls Tryd.prog 134 #[.int .u64 (n64 x)] w fun e w' => ∃ v, e = .returned v ∧ USl w' w'.heap.size v (limbsU x) ∧ Below w.heap.size w w' := by
  go_enter Tryd.func134, Tryd.ntmps134
  go_wp2
  go_ret
  have hb := Blk.new w 33 ((limbsU x).map v64).toArray
  exact ⟨_, rfl, USl.of_blk hb _ hb.lt 4 (by simp [limbsU]) (by decide), below_new1 w _⟩
set_option maxRecDepth 100000 in
theorem times_any (u v : Value) (a b : List UInt64) (w : World) (ha : USl w w.heap.size u a) (hb : USl w w.heap.size v b) (hla : a.length ≤ 16) (hlb : b.length ≤ 16) (hpa : 0 < a.length) (hpb : 0 < b.length) :
    Calls Tryd.prog 135 #[u, v] w fun e w' => ∃ v', e = .returned v' ∧ USl w' w'.heap.size v' (timesU a b) ∧ Below w.heap.size w w' := by
  obtain ⟨A, cap, rfl, hc1, hc2, hr⟩ := ha
  obtain ⟨Ab, capb, rfl, hd1, hd2, hrb⟩ := hb
  obtain ⟨ba, offa, rfl, hba, hca⟩ := hr (by rw [List.length_map]; exact hpa)
  obtain ⟨bb, offb, rfl, hbb, hcb⟩ := hrb (by rw [List.length_map]; exact hpb)
  obtain ⟨i0, hi, hz0, hz1, hz2⟩ := info_parts (by kernel_rfl : (Tryd.prog.info? 33).map (fun i => (i.zero, i.size, i.bytes)) = some (some (.int .u64 0), 1, 8))
  clear hr hrb
  go_enter Tryd.func135, Tryd.ntmps135
  go_wp2_with (first
    | (refine wpList_makeB rfl _ _ _ rfl 33 i0 _ Tryd.underlying128 hi hz0 hz1 rfl _ _ (a.length + b.length) rfl rfl (by rw [hz2]; omega) (by omega) ?_))
  go_loopw [6] (fun iv wr => ∃ i : Nat, i ≤ a.length ∧ iv = .int .i64 i ∧ Blk wr w.heap.size 33 ((tOut a b i).map v64).toArray ∧ Below w.heap.size w wr) (fun iv _ => a.length - (intOf iv).toNat)
  case atStart => exact ⟨0, by omega, rfl, by rw [tOut, List.map_replicate]; exact Blk.new _ _ _, below_new1 w _⟩
  case round =>
    obtain ⟨i, hil, rfl, hblk, hbel⟩ := hrel
    by_cases hlt : i < a.length
    · go_wp2
      go_loopw [7, 8] (fun c kv wr => ∃ k : Nat, k ≤ b.length ∧ kv = .int .i64 k ∧ c = v64 (tIn i (a.getD i 0) b (tOut a b i) k).2 ∧ Blk wr w.heap.size 33 ((tIn i (a.getD i 0) b (tOut a b i) k).1.map v64).toArray ∧ Below w.heap.size w wr) (fun _ kv _ => b.length - (intOf kv).toNat)
      case atStart => exact ⟨0, by omega, rfl, rfl, hblk, hbel⟩
      case round =>
        clear hblk hbel
        obtain ⟨k, hk, rfl, rfl, hblk, hbel⟩ := hrel
        by_cases hlk : k < b.length
        · have hOl : (tIn i (a.getD i 0) b (tOut a b i) k).1.length = a.length + b.length := by rw [tIn_length, tOut_length]
          have cO : wr.cell? ⟨w.heap.size, i + k, none⟩ = some (.int .u64 (n64 ((tIn i (a.getD i 0) b (tOut a b i) k).1.getD (i + k) 0))) := by
            rw [hblk.cell]; simpa using v64_at (tIn i (a.getD i 0) b (tOut a b i) k).1 (i + k) (by omega)
          have cA : wr.cell? ⟨ba, offa + i, none⟩ = some (.int .u64 (n64 (a.getD i 0))) := (hbel.cell (p := ⟨ba, _, none⟩) hba).trans (hca i _ (v64_at a i hlt))
          have cB : wr.cell? ⟨bb, offb + k, none⟩ = some (.int .u64 (n64 (b.getD k 0))) := (hbel.cell (p := ⟨bb, _, none⟩) hbb).trans (hcb k _ (v64_at b k hlk))
          have fO := hblk.frozen (i + k)
          have e1 := tIn_succ i (a.getD i 0) b (tOut a b i) k
          clear hca hcb
          generalize tIn i (a.getD i 0) b (tOut a b i) k = O at *
          generalize hai : a.getD i 0 = ai at *
          generalize hbk : b.getD k 0 = bk at *
          generalize hok : O.1.getD (i + k) 0 = ok at *
          have He := Lib.hid e1
          have H1 := Lib.hid (And.intro hai (And.intro hbk hok))
          clear e1 hai hbk hok
          simp only [v64]
          go_wp2
          go_quiet (fail)
          go_wp2
          go_roundw
          case rel =>
            refine ⟨k + 1, by omega, by go_num, ?_, ?_, (below_drewN hbel nq).setCell (Nat.le_refl _) _⟩
            · rw [He.out]
            · rw [He.out, List.map_set]
              have := (hblk.drewN nq).set (i + k) (v64 (ok + ai * bk + O.2 &&& 65535))
              simpa [v64] using this
          case measure => simp [intOf]; omega
        · have ek : k = b.length := by omega
          subst ek
          have hOl : (tIn i (a.getD i 0) b (tOut a b i) b.length).1.length = a.length + b.length := by rw [tIn_length, tOut_length]
          have cO : wr.cell? ⟨w.heap.size, i + b.length, none⟩ = some (.int .u64 (n64 ((tIn i (a.getD i 0) b (tOut a b i) b.length).1.getD (i + b.length) 0))) := by
            rw [hblk.cell]; simpa using v64_at (tIn i (a.getD i 0) b (tOut a b i) b.length).1 (i + b.length) (by omega)
          have fO := hblk.frozen (i + b.length)
          have e1 := tOut_succ a b i
          generalize tIn i (a.getD i 0) b (tOut a b i) b.length = O at *
          generalize hok : O.1.getD (i + b.length) 0 = ok at *
          have He := Lib.hid e1
          clear e1 hok hca hcb
          simp only [v64]
          go_wp2
          go_roundw
          case rel =>
            refine ⟨i + 1, by omega, by go_num, ?_, (hbel).setCell (Nat.le_refl _) _⟩
            rw [He.out, List.map_set]
            have := hblk.set (i + b.length) (v64 (ok + O.2))
            simpa [v64] using this
          case measure => simp [intOf]; omega
    · have ei : i = a.length := by omega
      subst ei
      have hOl := tOut_length a b a.length
      go_wp2
      go_ret
      have hU := USl.of_blk hblk wr.heap.size hblk.lt (a.length + b.length) (by omega) (by omega)
      rw [hOl] at hU
      exact ⟨_, rfl, hU, hbel⟩
end Go.Proofs.YtfggbfnnibpohaaDoor

/- The walks of the reference's below, root. No condition. -/
namespace Go.Proofs.YtfggbfnnibpohaaDoor
open Go.RowKit
attribute [local go_sem] and64_c shr64_16 shr64_32 shr64_48 wrap_mul64 wrap_add64 wrap_sub64 n64_lo n64_hi
theorem n64_ne (x y : UInt64) : decide (n64 x = n64 y) = decide (x = y) := decide_eq_decide.2 ⟨n64_inj, fun h => by rw [h]⟩
theorem n64_lt (x y : UInt64) : decide (n64 x < n64 y) = decide (x < y) := decide_eq_decide.2 (by rw [UInt64.lt_iff_toNat_lt]; unfold n64; omega)
set_option maxRecDepth 100000 in
theorem below_any (x p : UInt64) (c : Bool) (hp : p.toNat < 4294967296) (w : World) :
    Calls Tryd.prog 114 #[.int .u64 (n64 x), .int .u64 (n64 p), .bool c] w fun e w' => e = .returned (.bool (belowU x p c)) ∧ Below w.heap.size w w' := by
  obtain ⟨i0, hi, hz0, hz1, hz2⟩ := info_parts (by kernel_rfl : (Tryd.prog.info? 33).map (fun i => (i.zero, i.size, i.bytes)) = some (some (.int .u64 0), 1, 8))
  have q2 := Lib.hid (below_sq x p hp)
  have q3 := Lib.hid (below_cb x p hp)
  have hll : (limbsU x).length = 4 := rfl
  have htl : (timesU (limbsU x) (limbsU x)).length = 8 := tOut_length _ _ _
  go_enter Tryd.func114, Tryd.ntmps114
  go_wp2_with fail
  refine (limbs_any x w).mono ?_
  rintro e w1 ⟨v1, rfl, hU1, hb1⟩
  go_wp2_with fail
  refine (times_any _ _ _ _ _ hU1 hU1 (by omega) (by omega) (by omega) (by omega)).mono ?_
  rintro e w2 ⟨v2, rfl, hU2, hb2⟩
  have hb2' := hb1.trans (hb2.mono hb1.size)
  have hU1' := hU1.next hb2
  generalize timesU (limbsU x) (limbsU x) = T2 at *
  generalize limbsU x = L at *
  clear hU1 hb1 hb2
  go_upto_if 17 with fail
  go_cut [8, 9] (fun s8 s9 wx => ∃ (B : List UInt64) (n m : Nat), USl wx wx.heap.size s8 B ∧ B.length = m ∧ s9 = .int .i64 n ∧ n + 1 < m ∧ m ≤ 12 ∧ Hid (cmpU B (wantU n m p) m = belowU x p c) ∧ Below w.heap.size w wx)
  case first =>
    by_cases hc : c = true
    · subst hc
      go_wp2_with fail
      refine (times_any _ _ _ _ _ hU2 hU1' (by omega) (by omega) (by omega) (by omega)).mono ?_
      rintro e w3 ⟨v3, rfl, hU3, hb3⟩
      go_wp2_with fail
      go_meet
      exact ⟨_, 6, 12, hU3, (by rw [timesU, tOut_length]; omega), rfl, by decide, by decide, q3, hb2'.trans (hb3.mono hb2'.size)⟩
    · have hc' : c = false := by simpa using hc
      subst hc'
      clear hc
      go_wp2_with fail
      go_meet
      exact ⟨_, 4, 8, hU2, htl, rfl, by decide, by decide, q2, hb2'⟩
  case rest =>
    obtain ⟨B, n, m, hUB, hBl, rfl, hn, hm, hq, hbel⟩ := hcut
    clear q2 q3 hU2 hb2' hU1' htl hll
    obtain ⟨A, cap, rfl, hc1, hc2, hr⟩ := hUB
    obtain ⟨bb, off, rfl, hbb, hcb⟩ := hr (by rw [List.length_map]; omega)
    clear hr
    subst hBl
    go_wp2_with (first
      | (refine wpList_makeB rfl _ _ _ rfl 33 i0 _ Tryd.underlying128 hi hz0 hz1 rfl _ _ B.length rfl rfl (by rw [hz2]; omega) (by omega) ?_; refine wpl_at (fun W => Blk W wc.heap.size 33 ((List.replicate B.length (0 : UInt64)).map v64).toArray ∧ Below wc.heap.size wc W) ⟨(by rw [List.map_replicate]; exact Blk.new _ _ _), below_new1 wc _⟩ ?_; rintro w4 ⟨hB4, hb4⟩)
      | (refine wpList_store1 rfl rfl 33 (.tmp 28) (.tmp 27) rfl wc.heap.size n rfl (v64 (p &&& 65535)) rfl _ _ hB4 (by kernel_rfl) (by simp; omega) rfl rfl ?_; intro w5 hB5 hon5; have hb5 := below_only hb4 hon5 (Nat.le_refl _) hb4.size)
      | (refine wpList_store1 rfl rfl 33 (.tmp 39) (.tmp 38) rfl wc.heap.size (n + 1) rfl (v64 (p >>> 16)) rfl _ _ hB5 (by kernel_rfl) (by simp; omega) rfl rfl ?_; intro w6 hB6 hon6; have hb6 := below_only hb5 hon6 (Nat.le_refl _) hb5.size))
    have hW : Blk w6 wc.heap.size 33 ((wantU n B.length p).map v64).toArray := by
      rw [wantU, List.map_set, List.map_set]; rw [List.setIfInBounds_toArray, List.setIfInBounds_toArray] at hB6; exact hB6
    have hWl : (wantU n B.length p).length = B.length := by simp [wantU]
    generalize wantU n B.length p = Wt at *
    have hbb6 : bb < w6.heap.size := Nat.lt_of_lt_of_le hbb hb6.size
    have hcb6 : ∀ j, j < B.length → w6.cell? ⟨bb, off + j, none⟩ = some (.int .u64 (n64 (B.getD j 0))) := fun j hj => (hb6.cell (p := ⟨bb, _, none⟩) hbb).trans (hcb j _ (v64_at B j hj))
    have hbel6 := hbel.trans (hb6.mono hbel.size)
    clear hB4 hb4 hB5 hon5 hb5 hB6 hon6 hb6 hcb
    go_loopw [11] (fun iv wr => ∃ i : Nat, i ≤ B.length ∧ iv = .int .i64 ((i : Int) - 1) ∧ Hid (cmpU B Wt i = belowU x p c) ∧ Below w6.heap.size w6 wr) (fun iv _ => (intOf iv + 1).toNat)
    case atStart => exact ⟨B.length, Nat.le_refl _, rfl, hq, Below.refl _ _⟩
    case round =>
      obtain ⟨i, hil, rfl, hqi, hbw⟩ := hrel
      obtain rfl | ⟨j, rfl⟩ : i = 0 ∨ ∃ j, i = j + 1 := by cases i with | zero => exact .inl rfl | succ j => exact .inr ⟨j, rfl⟩
      · go_wp2
        go_ret
        exact ⟨by rw [← hqi.out]; rfl, hbel6.trans (hbw.mono hbel6.size)⟩
      · rw [show ((j + 1 : Nat) : Int) - 1 = (j : Int) by omega]
        have cB : wr.cell? ⟨bb, off + j, none⟩ = some (.int .u64 (n64 (B.getD j 0))) := (hbw.cell (p := ⟨bb, _, none⟩) hbb6).trans (hcb6 j (by omega))
        have cW : wr.cell? ⟨wc.heap.size, j, none⟩ = some (.int .u64 (n64 (Wt.getD j 0))) := by
          rw [(hW.below hbw hW.lt).cell]; simpa using v64_at Wt j (by omega)
        have e1 : cmpU B Wt (j + 1) = if B.getD j 0 = Wt.getD j 0 then cmpU B Wt j else decide (B.getD j 0 < Wt.getD j 0) := rfl
        have e2 := hqi.out
        clear hqi hq
        rw [e1] at e2
        generalize B.getD j 0 = bj at *
        generalize Wt.getD j 0 = wj at *
        by_cases he : bj = wj
        · rw [if_pos he] at e2
          subst he
          have H2 := Lib.hid e2
          clear e1 e2
          go_wp2
          go_quiet (fail)
          go_wp2
          go_roundw
          case rel => exact ⟨j, by omega, by go_num, H2, below_drewN hbw nq⟩
          case measure => simp [intOf]
        · rw [if_neg he] at e2
          have hne : ¬ (n64 bj = n64 wj) := fun h => he (n64_inj h)
          have H2 := Lib.hid e2
          clear e1 e2 he
          go_wp2
          go_quiet (fail)
          go_wp2
          go_quiet (fail)
          go_wp2
          go_ret
          refine ⟨?_, hbel6.trans ((below_drewN (below_drewN hbw _) _).mono hbel6.size)⟩
          rw [← H2.out, ← n64_lt]
          rfl
theorem root_mid (lo hi : UInt64) (h : lo.toNat + 1 < hi.toNat) (hh : hi.toNat ≤ 171798691840) : ∃ m : UInt64, m.toNat = (lo.toNat + hi.toNat) / 2 ∧ IntKind.u64.wrap ((n64 (lo + hi)).tdiv 2) = n64 m := by
  have e : (lo + hi).toNat = lo.toNat + hi.toNat := by rw [UInt64.toNat_add]; omega
  have e2 : (UInt64.ofNat ((lo.toNat + hi.toNat) / 2)).toNat = (lo.toNat + hi.toNat) / 2 := UInt64.toNat_ofNat_of_lt' (by show _ < 18446744073709551616; omega)
  exact ⟨_, e2, by rw [wrap_u64', Int.tdiv_eq_ediv_of_nonneg (n64_lo _)]; unfold n64; rw [e, e2]; omega⟩
set_option maxRecDepth 100000 in
theorem root_any (p : UInt64) (c : Bool) (hp : p.toNat < 1600) (w : World) :
    Calls Tryd.prog 61 #[.int .u64 (n64 p), .bool c] w fun e w' => ∃ r : Nat, e = .returned (.int .u32 (n32 (UInt32.ofNat r))) ∧ IsRoot p c r ∧ Below w.heap.size w w' := by
  have hlo0 : Hid (belowU 0 p c = true) := Lib.hid (by unfold belowU; cases c <;> simp)
  have hhi0 : Hid (belowU 171798691840 p c = false) := Lib.hid (by
    unfold belowU
    have e : (171798691840 : UInt64).toNat = 171798691840 := rfl
    rw [e]
    cases c
    · simp; omega
    · simp; omega)
  go_enter Tryd.func61, Tryd.ntmps61
  go_wp2
  go_loopw [5, 6] (fun l h wr => ∃ lo hi : UInt64, l = .int .u64 (n64 lo) ∧ h = .int .u64 (n64 hi) ∧ lo.toNat < hi.toNat ∧ hi.toNat ≤ 171798691840 ∧ Hid (belowU lo p c = true) ∧ Hid (belowU hi p c = false) ∧ Below w.heap.size w wr) (fun l h _ => (intOf h).toNat - (intOf l).toNat)
  case atStart => exact ⟨0, 171798691840, rfl, rfl, by decide, by decide, hlo0, hhi0, Below.refl _ _⟩
  case round =>
    obtain ⟨lo, hi, rfl, rfl, hlt, hle, h1, h2, hbel⟩ := hrel
    clear hlo0 hhi0
    have es : n64 (hi - lo) = (hi.toNat : Int) - lo.toNat := by unfold n64; rw [UInt64.toNat_sub_of_le _ _ (by rw [UInt64.le_iff_toNat_le]; omega)]; omega
    by_cases hg : lo.toNat + 1 < hi.toNat
    · obtain ⟨m, hm, em⟩ := root_mid lo hi hg hle
      have hgt : 1 < n64 (hi - lo) := by omega
      clear es
      go_wp2_with fail
      clear em hgt
      refine (below_any m p c (by omega) wr).mono ?_
      rintro e w1 ⟨rfl, hb1⟩
      have hbel1 := hbel.trans (hb1.mono hbel.size)
      cases hq : belowU m p c with
      | true =>
        have Hq := Lib.hid hq
        clear hq
        go_wp2_with fail
        go_roundw
        case rel => exact ⟨m, hi, rfl, rfl, by omega, hle, Hq, h2, hbel1⟩
        case measure => simp only [intOf, n64]; omega
      | false =>
        have Hq := Lib.hid hq
        clear hq
        go_wp2_with fail
        go_roundw
        case rel => exact ⟨lo, m, rfl, rfl, by omega, by omega, h1, Hq, hbel1⟩
        case measure => simp only [intOf, n64]; omega
    · have hgt : ¬ 1 < n64 (hi - lo) := by omega
      clear es
      go_wp2_with fail
      go_ret
      have ee : n64 lo % 4294967296 = n32 (UInt32.ofNat lo.toNat) := by unfold n64 n32; rw [UInt32.toNat_ofNat']; omega
      refine ⟨lo.toNat, ?_, ⟨of_decide_eq_true h1.out, ?_⟩, hbel⟩
      · rw [← ee]; rfl
      · have := of_decide_eq_false h2.out
        rw [show hi.toNat = lo.toNat + 1 by omega] at this
        omega
theorem root_K (i : Nat) (hi : i < 64) (w : World) : Calls Tryd.prog 61 #[.int .u64 (n64 (primeL.getD i 0)), .bool true] w fun e w' => e = .returned (.int .u32 (n32 (K0.getD i 0))) ∧ Below w.heap.size w w' := by
  refine (root_any _ true ((by decide +kernel : ∀ i, i < 64 → (primeL.getD i 0).toNat < 1600) i hi) w).mono ?_
  rintro e w' ⟨r, rfl, hr, hb⟩
  rw [hr.unique (cubeL_ok i hi), cubeL_K i hi]
  exact ⟨rfl, hb⟩
theorem root_H (i : Nat) (hi : i < 8) (w : World) : Calls Tryd.prog 61 #[.int .u64 (n64 (primeL.getD i 0)), .bool false] w fun e w' => e = .returned (.int .u32 (n32 (H0.list.getD i 0))) ∧ Below w.heap.size w w' := by
  refine (root_any _ false ((by decide +kernel : ∀ i, i < 64 → (primeL.getD i 0).toNat < 1600) i (by omega)) w).mono ?_
  rintro e w' ⟨r, rfl, hr, hb⟩
  rw [hr.unique (squareL_ok i hi), squareL_H i hi]
  exact ⟨rfl, hb⟩
end Go.Proofs.YtfggbfnnibpohaaDoor
