/- The reference's arithmetic in plain Lean: limbs, their product, the roots. No condition. -/
import Derived.Test.YtbhmmoecoijojaaDoorShaC
namespace Go.Proofs.YtbhmmoecoijojaaDoor
def limbsU (x : UInt64) : List UInt64 := [x &&& 65535, x >>> 16 &&& 65535, x >>> 32 &&& 65535, x >>> 48]
def tIn (i : Nat) (ai : UInt64) (b out : List UInt64) : Nat → List UInt64 × UInt64
  | 0 => (out, 0)
  | k + 1 => ((tIn i ai b out k).1.set (i + k) (((tIn i ai b out k).1.getD (i + k) 0 + ai * b.getD k 0 + (tIn i ai b out k).2) &&& 65535), ((tIn i ai b out k).1.getD (i + k) 0 + ai * b.getD k 0 + (tIn i ai b out k).2) >>> 16)
def tOut (a b : List UInt64) : Nat → List UInt64
  | 0 => List.replicate (a.length + b.length) 0
  | i + 1 => (tIn i (a.getD i 0) b (tOut a b i) b.length).1.set (i + b.length) ((tIn i (a.getD i 0) b (tOut a b i) b.length).1.getD (i + b.length) 0 + (tIn i (a.getD i 0) b (tOut a b i) b.length).2)
def val : List UInt64 → Nat
  | [] => 0
  | x :: l => x.toNat + 65536 * val l
def Small (l : List UInt64) : Prop := ∀ i, (l.getD i 0).toNat < 65536
theorem getD_set (l : List UInt64) (i j : Nat) (v : UInt64) (hi : i < l.length) : (l.set i v).getD j 0 = if j = i then v else l.getD j 0 := by
  rw [List.getD_eq_getElem?_getD, List.getD_eq_getElem?_getD, List.getElem?_set]
  by_cases h : i = j
  · subst h; simp [hi]
  · rw [if_neg h, if_neg (fun e => h e.symm)]
theorem Small.set {l : List UInt64} (h : Small l) (i : Nat) (v : UInt64) (hi : i < l.length) (hv : v.toNat < 65536) : Small (l.set i v) := fun j => by
  rw [getD_set l i j v hi]; split
  · exact hv
  · exact h j
theorem pow_step (n i : Nat) : n * 65536 ^ (i + 1) = 65536 * (n * 65536 ^ i) := by rw [Nat.pow_succ, ← Nat.mul_assoc, Nat.mul_comm]
theorem val_set : ∀ (l : List UInt64) (i : Nat) (v : UInt64), i < l.length → val (l.set i v) + (l.getD i 0).toNat * 65536 ^ i = val l + v.toNat * 65536 ^ i
  | [], i, _, h => absurd h (Nat.not_lt_zero _)
  | x :: l, 0, v, _ => by simp [val]; omega
  | x :: l, i + 1, v, h => by
    have ih := val_set l i v (by simpa using h)
    simp only [List.set_cons_succ, val, List.getD_cons_succ]
    rw [pow_step, pow_step]; omega
theorem val_take_succ : ∀ (l : List UInt64) (k : Nat), k < l.length → val (l.take (k + 1)) = val (l.take k) + (l.getD k 0).toNat * 65536 ^ k
  | [], k, h => absurd h (Nat.not_lt_zero _)
  | x :: l, 0, _ => by simp [val]
  | x :: l, k + 1, h => by
    have ih := val_take_succ l k (by simpa using h)
    rw [List.take_succ_cons, List.take_succ_cons, val, val, ih, List.getD_cons_succ, pow_step]; omega
theorem val_replicate : ∀ n, val (List.replicate n 0) = 0
  | 0 => rfl
  | n + 1 => by rw [List.replicate_succ]; simp [val, val_replicate n]
theorem getD_zeros (n j : Nat) : (List.replicate n (0 : UInt64)).getD j 0 = 0 := by
  rw [List.getD_eq_getElem?_getD, List.getElem?_replicate]; split <;> rfl
theorem small_replicate (n : Nat) : Small (List.replicate n 0) := fun i => by rw [getD_zeros]; decide
theorem step_val (s a b c : UInt64) (hs : s.toNat < 65536) (ha : a.toNat < 65536) (hb : b.toNat < 65536) (hc : c.toNat < 65536) :
    ((s + a * b + c) &&& 65535).toNat = (s.toNat + a.toNat * b.toNat + c.toNat) % 65536 ∧ ((s + a * b + c) >>> 16).toNat = (s.toNat + a.toNat * b.toNat + c.toNat) / 65536 ∧ s.toNat + a.toNat * b.toNat + c.toNat < 65536 * 65536 := by
  have hab : a.toNat * b.toNat ≤ 65535 * 65535 := Nat.mul_le_mul (by omega) (by omega)
  have e : (s + a * b + c).toNat = s.toNat + a.toNat * b.toNat + c.toNat := by
    rw [UInt64.toNat_add, UInt64.toNat_add, UInt64.toNat_mul]; omega
  refine ⟨?_, ?_, by omega⟩
  · rw [UInt64.toNat_and, e]; exact Nat.and_two_pow_sub_one_eq_mod _ 16
  · rw [UInt64.toNat_shiftRight, e]; exact Nat.shiftRight_eq_div_pow _ 16
theorem tIn_ok (i : Nat) (ai : UInt64) (b out : List UInt64) (hai : ai.toNat < 65536) (hb : Small b) (ho : Small out) (hl : i + b.length ≤ out.length) : ∀ k, k ≤ b.length →
    (tIn i ai b out k).1.length = out.length ∧ Small (tIn i ai b out k).1 ∧ (tIn i ai b out k).2.toNat < 65536 ∧
    val (tIn i ai b out k).1 + (tIn i ai b out k).2.toNat * 65536 ^ (i + k) = val out + ai.toNat * val (b.take k) * 65536 ^ i ∧ ∀ j, i + k ≤ j → (tIn i ai b out k).1.getD j 0 = out.getD j 0
  | 0, _ => ⟨rfl, ho, (by decide : (0 : UInt64).toNat < 65536), by simp [tIn, val], fun _ _ => rfl⟩
  | k + 1, hk => by
    obtain ⟨h1, h2, h3, h4, h5⟩ := tIn_ok i ai b out hai hb ho hl k (by omega)
    rw [tIn]
    generalize tIn i ai b out k = s at *
    obtain ⟨e1, e2, e3⟩ := step_val _ ai _ _ (h2 (i + k)) hai (hb k) h3
    have hik : i + k < s.1.length := by omega
    have hv := val_set s.1 (i + k) ((s.1.getD (i + k) 0 + ai * b.getD k 0 + s.2) &&& 65535) hik
    refine ⟨by rw [List.length_set]; exact h1, h2.set _ _ hik (by rw [e1]; exact Nat.mod_lt _ (by decide)), by rw [e2]; omega, ?_, fun j hj => ?_⟩
    · rw [e1] at hv
      rw [e2, val_take_succ b k (by omega)]
      have hp : 65536 ^ (i + (k + 1)) = 65536 * 65536 ^ (i + k) := by rw [← Nat.add_assoc, Nat.pow_succ, Nat.mul_comm]
      have hq : ai.toNat * (val (b.take k) + (b.getD k 0).toNat * 65536 ^ k) * 65536 ^ i = ai.toNat * val (b.take k) * 65536 ^ i + ai.toNat * (b.getD k 0).toNat * 65536 ^ (i + k) := by
        rw [Nat.mul_add, Nat.add_mul, Nat.pow_add, ← Nat.mul_assoc, Nat.mul_assoc _ (65536 ^ k) (65536 ^ i), Nat.mul_comm (65536 ^ k)]
      rw [hp, hq]
      generalize 65536 ^ (i + k) = P at *
      generalize ai.toNat * (b.getD k 0).toNat = ab at *
      generalize hx : (s.1.getD (i + k) 0).toNat + ab + s.2.toNat = x at *
      have hm : x % 65536 * P + x / 65536 * (65536 * P) = x * P := by
        rw [← Nat.mul_assoc, ← Nat.add_mul]; congr 1; omega
      have hs : x * P = (s.1.getD (i + k) 0).toNat * P + ab * P + s.2.toNat * P := by rw [← hx, Nat.add_mul, Nat.add_mul]
      generalize x % 65536 * P = t1 at *
      generalize x / 65536 * (65536 * P) = t2 at *
      show val (s.1.set (i + k) ((s.1.getD (i + k) 0 + ai * b.getD k 0 + s.2) &&& 65535)) + t2 = _
      omega
    · rw [getD_set _ _ _ _ hik, if_neg (by omega)]; exact h5 j (by omega)
theorem tIn_succ (i : Nat) (ai : UInt64) (b out : List UInt64) (k : Nat) : tIn i ai b out (k + 1) = ((tIn i ai b out k).1.set (i + k) (((tIn i ai b out k).1.getD (i + k) 0 + ai * b.getD k 0 + (tIn i ai b out k).2) &&& 65535), ((tIn i ai b out k).1.getD (i + k) 0 + ai * b.getD k 0 + (tIn i ai b out k).2) >>> 16) := rfl
theorem tOut_succ (a b : List UInt64) (i : Nat) : tOut a b (i + 1) = (tIn i (a.getD i 0) b (tOut a b i) b.length).1.set (i + b.length) ((tIn i (a.getD i 0) b (tOut a b i) b.length).1.getD (i + b.length) 0 + (tIn i (a.getD i 0) b (tOut a b i) b.length).2) := rfl
theorem tIn_length (i : Nat) (ai : UInt64) (b out : List UInt64) : ∀ k, (tIn i ai b out k).1.length = out.length
  | 0 => rfl
  | k + 1 => by rw [tIn, List.length_set]; exact tIn_length i ai b out k
theorem tOut_length (a b : List UInt64) : ∀ i, (tOut a b i).length = a.length + b.length
  | 0 => by simp [tOut]
  | i + 1 => by rw [tOut, List.length_set, tIn_length]; exact tOut_length a b i
theorem tOut_ok (a b : List UInt64) (ha : Small a) (hb : Small b) : ∀ i, i ≤ a.length →
    (tOut a b i).length = a.length + b.length ∧ Small (tOut a b i) ∧ (∀ j, i + b.length ≤ j → (tOut a b i).getD j 0 = 0) ∧ val (tOut a b i) = val (a.take i) * val b
  | 0, _ => ⟨by simp [tOut], small_replicate _, fun j _ => getD_zeros _ _, by simp [tOut, val_replicate, val]⟩
  | i + 1, hi => by
    obtain ⟨h1, h2, h3, h4⟩ := tOut_ok a b ha hb i (by omega)
    obtain ⟨g1, g2, g3, g4, g5⟩ := tIn_ok i (a.getD i 0) b (tOut a b i) (ha i) hb h2 (by omega) b.length (Nat.le_refl _)
    rw [tOut]
    generalize tIn i (a.getD i 0) b (tOut a b i) b.length = s at *
    have hik : i + b.length < s.1.length := by omega
    have hz : s.1.getD (i + b.length) 0 = 0 := (g5 _ (Nat.le_refl _)).trans (h3 _ (Nat.le_refl _))
    have hv := val_set s.1 (i + b.length) (s.1.getD (i + b.length) 0 + s.2) hik
    rw [hz, UInt64.zero_add] at hv ⊢
    refine ⟨by rw [List.length_set]; omega, g2.set _ _ hik g3, fun j hj => ?_, ?_⟩
    · rw [getD_set _ _ _ _ hik, if_neg (by omega), g5 _ (by omega)]; exact h3 j (by omega)
    · rw [val_take_succ a i (by omega), Nat.add_mul, ← h4]
      rw [List.take_length] at g4
      have e : (a.getD i 0).toNat * 65536 ^ i * val b = (a.getD i 0).toNat * val b * 65536 ^ i := by rw [Nat.mul_assoc, Nat.mul_comm (65536 ^ i), ← Nat.mul_assoc]
      rw [e]
      have h0 : (0 : UInt64).toNat = 0 := rfl
      rw [h0, Nat.zero_mul] at hv
      omega
def timesU (a b : List UInt64) : List UInt64 := tOut a b a.length
theorem timesU_ok (a b : List UInt64) (ha : Small a) (hb : Small b) : (timesU a b).length = a.length + b.length ∧ Small (timesU a b) ∧ val (timesU a b) = val a * val b := by
  obtain ⟨h1, h2, _, h4⟩ := tOut_ok a b ha hb a.length (Nat.le_refl _)
  rw [List.take_length] at h4
  exact ⟨h1, h2, h4⟩
theorem and_mod (x : UInt64) : (x &&& 65535).toNat = x.toNat % 65536 := by rw [UInt64.toNat_and]; exact Nat.and_two_pow_sub_one_eq_mod _ 16
theorem shr_div16 (x : UInt64) : (x >>> 16).toNat = x.toNat / 65536 := by rw [UInt64.toNat_shiftRight]; exact Nat.shiftRight_eq_div_pow _ 16
theorem shr_div32 (x : UInt64) : (x >>> 32).toNat = x.toNat / 4294967296 := by rw [UInt64.toNat_shiftRight]; exact Nat.shiftRight_eq_div_pow _ 32
theorem shr_div48 (x : UInt64) : (x >>> 48).toNat = x.toNat / 281474976710656 := by rw [UInt64.toNat_shiftRight]; exact Nat.shiftRight_eq_div_pow _ 48
theorem small_cons {x : UInt64} {l : List UInt64} (hx : x.toNat < 65536) (h : Small l) : Small (x :: l)
  | 0 => by simpa using hx
  | i + 1 => by simpa using h i
theorem small_nil : Small [] := fun i => by simp
theorem limbsU_small (x : UInt64) : Small (limbsU x) :=
  small_cons (by rw [and_mod]; omega) (small_cons (by rw [and_mod]; omega) (small_cons (by rw [and_mod]; omega) (small_cons (by rw [shr_div48]; have := x.toNat_lt; omega) small_nil)))
theorem limbsU_val (x : UInt64) : val (limbsU x) = x.toNat := by
  have := x.toNat_lt
  simp only [limbsU, val, and_mod, shr_div16, shr_div32, shr_div48]; omega
/-- the comparison from the top -/
def cmpU (b w : List UInt64) : Nat → Bool
  | 0 => true
  | i + 1 => if b.getD i 0 = w.getD i 0 then cmpU b w i else decide (b.getD i 0 < w.getD i 0)
theorem val_take_lt (l : List UInt64) (h : Small l) : ∀ k, k ≤ l.length → val (l.take k) < 65536 ^ k
  | 0, _ => by simp [val]
  | k + 1, hk => by
    have ih := val_take_lt l h k (by omega)
    have hk2 := h k
    rw [val_take_succ l k (by omega), Nat.pow_succ]
    have : ((l.getD k 0).toNat + 1) * 65536 ^ k ≤ 65536 * 65536 ^ k := Nat.mul_le_mul_right _ (by omega)
    rw [Nat.add_mul] at this; omega
theorem cmpU_ok (b w : List UInt64) (hb : Small b) (hw : Small w) : ∀ i, i ≤ b.length → i ≤ w.length → cmpU b w i = decide (val (b.take i) ≤ val (w.take i))
  | 0, _, _ => by simp [cmpU, val]
  | i + 1, h1, h2 => by
    have ih := cmpU_ok b w hb hw i (by omega) (by omega)
    have l1 := val_take_lt b hb i (by omega)
    have l2 := val_take_lt w hw i (by omega)
    rw [cmpU, val_take_succ b i (by omega), val_take_succ w i (by omega)]
    split
    · rename_i h
      rw [ih, h]; simp
    · rename_i h
      have hne : (b.getD i 0).toNat ≠ (w.getD i 0).toNat := fun e => h (UInt64.toNat_inj.1 e)
      apply decide_eq_decide.2
      rw [UInt64.lt_iff_toNat_lt]
      generalize 65536 ^ i = P at *
      constructor
      · intro hlt
        have : ((b.getD i 0).toNat + 1) * P ≤ (w.getD i 0).toNat * P := Nat.mul_le_mul_right _ hlt
        rw [Nat.add_mul] at this; omega
      · intro hle
        apply Classical.byContradiction
        intro hn
        have : ((w.getD i 0).toNat + 1) * P ≤ (b.getD i 0).toNat * P := Nat.mul_le_mul_right _ (by omega)
        rw [Nat.add_mul] at this; omega
/-- what the walk of 'below' compares with -/
def wantU (n m : Nat) (p : UInt64) : List UInt64 := ((List.replicate m 0).set n (p &&& 65535)).set (n + 1) (p >>> 16)
theorem wantU_ok (n m : Nat) (p : UInt64) (hn : n + 1 < m) (hp : p.toNat < 4294967296) : (wantU n m p).length = m ∧ Small (wantU n m p) ∧ val (wantU n m p) = p.toNat * 65536 ^ n := by
  have l1 : n < (List.replicate m (0 : UInt64)).length := by simp; omega
  have s1 : Small ((List.replicate m 0).set n (p &&& 65535)) := (small_replicate m).set n _ l1 (by rw [and_mod]; omega)
  have l2 : n + 1 < ((List.replicate m (0 : UInt64)).set n (p &&& 65535)).length := by simpa using hn
  have v1 := val_set (List.replicate m 0) n (p &&& 65535) l1
  have v2 := val_set ((List.replicate m 0).set n (p &&& 65535)) (n + 1) (p >>> 16) l2
  rw [getD_set _ _ _ _ l1, if_neg (by omega), getD_zeros] at v2
  rw [getD_zeros, val_replicate, and_mod] at v1
  refine ⟨by simp [wantU], s1.set _ _ l2 (by rw [shr_div16]; omega), ?_⟩
  unfold wantU
  have hz : (0 : UInt64).toNat = 0 := rfl
  rw [shr_div16, hz, Nat.zero_mul, Nat.add_zero, pow_step] at v2
  rw [hz, Nat.zero_mul, Nat.add_zero, Nat.zero_add] at v1
  rw [v2, v1, ← Nat.mul_assoc, ← Nat.add_mul]
  congr 1; omega
def belowU (x p : UInt64) (cube : Bool) : Bool := decide (x.toNat ^ (if cube then 3 else 2) ≤ p.toNat * 65536 ^ (if cube then 6 else 4))
theorem below_sq (x p : UInt64) (hp : p.toNat < 4294967296) : cmpU (timesU (limbsU x) (limbsU x)) (wantU 4 8 p) 8 = belowU x p false := by
  obtain ⟨h1, h2, h3⟩ := timesU_ok _ _ (limbsU_small x) (limbsU_small x)
  obtain ⟨g1, g2, g3⟩ := wantU_ok 4 8 p (by decide) hp
  have e1 : (timesU (limbsU x) (limbsU x)).length = 8 := h1
  rw [cmpU_ok _ _ h2 g2 8 (by omega) (by omega), List.take_of_length_le (by omega), List.take_of_length_le (by omega), h3, g3, limbsU_val]
  simp [belowU, Nat.pow_succ]
theorem below_cb (x p : UInt64) (hp : p.toNat < 4294967296) : cmpU (timesU (timesU (limbsU x) (limbsU x)) (limbsU x)) (wantU 6 12 p) 12 = belowU x p true := by
  obtain ⟨h1, h2, h3⟩ := timesU_ok _ _ (limbsU_small x) (limbsU_small x)
  obtain ⟨k1, k2, k3⟩ := timesU_ok _ _ h2 (limbsU_small x)
  obtain ⟨g1, g2, g3⟩ := wantU_ok 6 12 p (by decide) hp
  have e1 : (timesU (timesU (limbsU x) (limbsU x)) (limbsU x)).length = 12 := by rw [k1, h1]; rfl
  rw [cmpU_ok _ _ k2 g2 12 (by omega) (by omega), List.take_of_length_le (by omega), List.take_of_length_le (by omega), k3, h3, g3, limbsU_val]
  simp [belowU, Nat.pow_succ]
/-- r is the root -/
def IsRoot (p : UInt64) (cube : Bool) (r : Nat) : Prop := r ^ (if cube then 3 else 2) ≤ p.toNat * 65536 ^ (if cube then 6 else 4) ∧ p.toNat * 65536 ^ (if cube then 6 else 4) < (r + 1) ^ (if cube then 3 else 2)
instance (p : UInt64) (c : Bool) (r : Nat) : Decidable (IsRoot p c r) := by unfold IsRoot; infer_instance
theorem IsRoot.unique {p : UInt64} {c : Bool} {r s : Nat} (h : IsRoot p c r) (g : IsRoot p c s) : r = s := by
  have hx : ∀ a b : Nat, a ^ (if c then 3 else 2) < (b + 1) ^ (if c then 3 else 2) → a ≤ b := fun a b hab => by
    apply Classical.byContradiction
    intro hn
    exact absurd (Nat.pow_le_pow_left (show b + 1 ≤ a by omega) (if c then 3 else 2)) (by omega)
  have h1 := hx r s (Nat.lt_of_le_of_lt h.1 g.2)
  have h2 := hx s r (Nat.lt_of_le_of_lt g.1 h.2)
  omega
def primeL : List UInt64 := [2, 3, 5, 7, 11, 13, 17, 19, 23, 29, 31, 37, 41, 43, 47, 53, 59, 61, 67, 71, 73, 79, 83, 89, 97, 101, 103, 107, 109, 113, 127, 131, 137, 139, 149, 151, 157, 163, 167, 173, 179, 181, 191, 193, 197, 199, 211, 223, 227, 229, 233, 239, 241, 251, 257, 263, 269, 271, 277, 281, 283, 293, 307, 311]
def cubeL : List Nat := [5411319704, 6194414737, 7344290767, 8215976869, 9551921755, 10098905585, 11043570340, 11460697813, 12214315672, 13195500289, 13492127166, 14311783875, 14809980276, 15046980094, 15499789991, 16133124468, 16720292289, 16907126662, 17444216262, 17784676812, 17950125167, 18429019306, 18734950876, 19175934170, 19734090066, 20001703533, 20132865992, 20390182855, 20516441075, 20764397895, 21588763473, 21813078375, 22141143685, 22248366392, 22769593852, 22871018771, 23170020180, 23461497531, 23651862830, 23931792517, 24205322401, 24295138891, 24734567280, 24820601251, 24990902297, 25075189284, 25569408389, 26045227120, 26200031510, 26276752392, 26428864332, 26653801653, 26727943347, 27092625994, 27306805839, 27517677555, 27725365998, 27793908591, 27997534228, 28131656200, 28198240250, 28526537963, 28973835255, 29099129074]
def squareL : List Nat := [6074000999, 7439101573, 9603838834, 11363415354, 14244795007, 15485724812, 17708603819, 18721328409]
theorem cubeL_ok : ∀ i, i < 64 → IsRoot (primeL.getD i 0) true (cubeL.getD i 0) := by decide +kernel
theorem squareL_ok : ∀ i, i < 8 → IsRoot (primeL.getD i 0) false (squareL.getD i 0) := by decide +kernel
theorem cubeL_K : ∀ i, i < 64 → UInt32.ofNat (cubeL.getD i 0) = K0.getD i 0 := by decide +kernel
theorem squareL_H : ∀ i, i < 8 → UInt32.ofNat (squareL.getD i 0) = H0.list.getD i 0 := by decide +kernel
end Go.Proofs.YtbhmmoecoijojaaDoor
