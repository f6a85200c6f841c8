/- Texts that stand behind one another: VerR. No condition. -/
import Derived.Test.YtcdkadidkkbhpaaDoorS30
/- Proofs that a list begins another one, plain; whatever merkle tells is taken. No condition. -/
namespace Go.Proofs.YtcdkadidkkbhpaaDoor
/-- both halved while the first is odd -/
def poddF : Nat → Nat → Nat → Nat × Nat
  | 0, fn, sn => (fn, sn)
  | f + 1, fn, sn => if fn % 2 = 1 then poddF f (fn / 2) (sn / 2) else (fn, sn)
def podd (fn sn : Nat) : Nat × Nat := poddF fn fn sn
theorem poddF_fuel : ∀ (f fn sn : Nat), fn ≤ f → ∀ g, fn ≤ g → poddF f fn sn = poddF g fn sn := by
  intro f
  induction f with
  | zero =>
    intro fn sn h g hg
    obtain rfl : fn = 0 := by omega
    cases g with
    | zero => rfl
    | succ g => rw [poddF, poddF, if_neg (by decide)]
  | succ f ih =>
    intro fn sn h g hg
    cases g with
    | zero =>
      obtain rfl : fn = 0 := by omega
      rw [poddF, poddF, if_neg (by decide)]
    | succ g =>
      rw [poddF, poddF]
      split
      · exact ih _ _ (by omega) _ (by omega)
      · rfl
theorem podd_odd {fn sn : Nat} (h : fn % 2 = 1) : podd fn sn = podd (fn / 2) (sn / 2) := by
  unfold podd
  rw [poddF_fuel fn fn sn (Nat.le_refl _) (fn - 1 + 1) (by omega), poddF, if_pos h]
  exact poddF_fuel _ _ _ (by omega) _ (Nat.le_refl _)
theorem podd_even {fn sn : Nat} (h : fn % 2 = 0) : podd fn sn = (fn, sn) := by
  unfold podd
  cases fn with
  | zero => rfl
  | succ k => rw [poddF, if_neg (by omega)]
theorem podd_le (fn : Nat) : ∀ sn, (podd fn sn).1 ≤ fn ∧ (podd fn sn).2 ≤ sn := by
  induction fn using Nat.strongRecOn with
  | _ fn ih =>
    intro sn
    by_cases hc : fn % 2 = 1
    · rw [podd_odd hc]
      have := ih (fn / 2) (by omega) (sn / 2)
      omega
    · rw [podd_even (by omega)]; exact ⟨Nat.le_refl _, Nat.le_refl _⟩
theorem podd_pow (a sn : Nat) : ∀ M s, s / 2 ^ M = sn → podd (a * 2 ^ M + (2 ^ M - 1)) s = podd a sn := by
  intro M
  induction M with
  | zero => intro s h; rw [Nat.pow_zero, Nat.div_one] at h; subst h; rw [Nat.pow_zero, Nat.mul_one]; rfl
  | succ M ih =>
    intro s h
    have hp : 2 ^ (M + 1) = 2 * 2 ^ M := by rw [Nat.pow_succ]; omega
    have h1 : 1 ≤ 2 ^ M := Nat.one_le_two_pow
    have ea : a * 2 ^ (M + 1) = 2 * (a * 2 ^ M) := by rw [hp, ← Nat.mul_assoc, Nat.mul_comm a 2, Nat.mul_assoc]
    rw [ea, hp, podd_odd (by omega), show (2 * (a * 2 ^ M) + (2 * 2 ^ M - 1)) / 2 = a * 2 ^ M + (2 ^ M - 1) by omega]
    exact ih _ (by rw [← h, Nat.pow_succ, Nat.div_div_eq_div_mul, Nat.mul_comm])
/-- the way up of both roots -/
def prefW (n : Nat) : List (List UInt8) → Nat → Nat → List UInt8 → List UInt8 → Option (List UInt8 × List UInt8)
  | [], _, sn, fr, sr => if sn = 0 then some (fr, sr) else none
  | c :: cs, fn, sn, fr, sr => if sn = 0 then none else
      if fn % 2 = 0 ∧ fn ≠ sn then prefW n cs (fn / 2) (sn / 2) fr (nodeM n sr c)
      else prefW n cs ((strip fn sn).1 / 2) ((strip fn sn).2 / 2) (nodeM n c fr) (nodeM n c sr)
theorem prefW_nil (n fn sn : Nat) (fr sr : List UInt8) : prefW n [] fn sn fr sr = if sn = 0 then some (fr, sr) else none := rfl
theorem prefW_zero (n fn : Nat) (c : List UInt8) (cs : List (List UInt8)) (fr sr : List UInt8) : prefW n (c :: cs) fn 0 fr sr = none := by rw [prefW, if_pos rfl]
theorem prefW_right (n fn sn : Nat) (c : List UInt8) (cs : List (List UInt8)) (fr sr : List UInt8) (h0 : sn ≠ 0) (h : fn % 2 = 0) (h1 : fn ≠ sn) : prefW n (c :: cs) fn sn fr sr = prefW n cs (fn / 2) (sn / 2) fr (nodeM n sr c) := by
  rw [prefW, if_neg h0, if_pos ⟨h, h1⟩]
theorem prefW_left (n fn sn : Nat) (c : List UInt8) (cs : List (List UInt8)) (fr sr : List UInt8) (h0 : sn ≠ 0) (h : ¬ (fn % 2 = 0 ∧ fn ≠ sn)) : prefW n (c :: cs) fn sn fr sr = prefW n cs ((strip fn sn).1 / 2) ((strip fn sn).2 / 2) (nodeM n c fr) (nodeM n c sr) := by
  rw [prefW, if_neg h0, if_neg h]
theorem prefW_odd (n fn sn : Nat) (c : List UInt8) (cs : List (List UInt8)) (fr sr : List UInt8) (h0 : sn ≠ 0) (h : fn % 2 = 1) : prefW n (c :: cs) fn sn fr sr = prefW n cs (fn / 2) (sn / 2) (nodeM n c fr) (nodeM n c sr) := by
  rw [prefW_left n fn sn c cs fr sr h0 (by omega), strip_done (by omega)]
theorem prefW_skip (n fn : Nat) (cs : List (List UInt8)) (fr sr : List UInt8) (h : fn % 2 = 0) (h0 : fn ≠ 0) : prefW n cs fn fn fr sr = prefW n cs (fn / 2) (fn / 2) fr sr := by
  cases cs with
  | nil => rw [prefW_nil, prefW_nil, if_neg h0, if_neg (by omega)]
  | cons c cs => rw [prefW_left n fn fn c cs fr sr h0 (by omega), prefW_left n (fn / 2) (fn / 2) c cs fr sr (by omega) (by omega), strip_even h h0]
/-- is it a power of two? -/
def isPow (m : Nat) : Bool := m &&& (m - 1) == 0
theorem isP_pow (M : Nat) : isPow (2 ^ M) = true := by
  unfold isPow
  rw [Nat.and_two_pow_sub_one_eq_mod, Nat.mod_self]; rfl
theorem isP_no (k m : Nat) (h1 : 2 ^ k < m) (h2 : m < 2 ^ (k + 1)) : isPow m = false := by
  unfold isPow
  rw [beq_eq_false_iff_ne]
  intro h
  have hb : (m &&& (m - 1)).testBit k = true := by
    rw [Nat.testBit_and]
    have e : ∀ x, 2 ^ k ≤ x → x < 2 ^ (k + 1) → x.testBit k = true := fun x a b => by
      rw [Nat.testBit_eq_decide_div_mod_eq]
      have : x / 2 ^ k = 1 := by
        rw [Nat.pow_succ] at b
        exact Nat.div_eq_of_lt_le (by omega) (by omega)
      rw [this]; rfl
    rw [e m (by omega) h2, e (m - 1) (by omega) (by omega)]; rfl
  rw [h, Nat.zero_testBit] at hb
  cases hb
theorem sub_path (n : Nat) : ∀ (M : Nat) (l : List (List UInt8)) (a m sn : Nat), 1 ≤ m → l.length ≤ 2 ^ M →
    (m < l.length ∨ (m = l.length ∧ l.length = 2 ^ M ∧ a % 2 = 0)) →
    (sn = a * 2 ^ M + (l.length - 1) ∨ (l.length = 2 ^ M ∧ (a + 1) * 2 ^ M ≤ sn)) →
    ∃ S tail, subM n l m (decide (a = 0)) = (if a = 0 ∧ isPow m = true then [] else [S]) ++ tail ∧ (a = 0 ∧ isPow m = true → S = rootM n (l.take m)) ∧
      ∀ rest, prefW n (tail ++ rest) (podd (a * 2 ^ M + (m - 1)) sn).1 (podd (a * 2 ^ M + (m - 1)) sn).2 S S = prefW n rest a (sn / 2 ^ M) (rootM n (l.take m)) (rootM n l) := by
  intro M
  induction M with
  | zero =>
    intro l a m sn h1 hl hc hs
    simp only [Nat.pow_zero] at *
    obtain rfl : m = 1 := by omega
    have hl1 : l.length = 1 := by omega
    have ht : l.take 1 = l := List.take_of_length_le (by omega)
    have ha : a % 2 = 0 := by omega
    refine ⟨rootM n l, [], ?_, fun _ => by rw [ht], fun rest => ?_⟩
    · rw [subM_all n l 1 _ (by omega), List.append_nil]
      have : isPow 1 = true := isP_pow 0
      by_cases h0 : a = 0
      · subst h0; simp [this]
      · simp [h0]
    · rw [ht, List.nil_append, Nat.mul_one, Nat.sub_self, Nat.add_zero, Nat.div_one, podd_even ha]
  | succ M ih =>
    intro l a m sn h1 hl hc hs
    have hp : 2 ^ (M + 1) = 2 * 2 ^ M := by rw [Nat.pow_succ]; omega
    have h1p : 1 ≤ 2 ^ M := Nat.one_le_two_pow
    have hd : sn / 2 ^ (M + 1) = sn / 2 ^ M / 2 := by rw [Nat.pow_succ, Nat.div_div_eq_div_mul]
    by_cases hm : m = l.length
    · obtain ⟨-, hl2, ha⟩ : m = l.length ∧ l.length = 2 ^ (M + 1) ∧ a % 2 = 0 := by omega
      have ht : l.take m = l := List.take_of_length_le (by omega)
      refine ⟨rootM n l, [], ?_, fun _ => by rw [ht], fun rest => ?_⟩
      · rw [subM_all n l m _ hm, List.append_nil]
        have : isPow m = true := by rw [hm, hl2]; exact isP_pow _
        by_cases h0 : a = 0
        · subst h0; simp [this]
        · simp [h0]
      · rw [ht, List.nil_append, hm, hl2, podd_pow a (sn / 2 ^ (M + 1)) (M + 1) sn rfl, podd_even ha]
    have hml : m < l.length := by omega
    have ea : a * 2 ^ (M + 1) = (2 * a) * 2 ^ M := by rw [hp, ← Nat.mul_assoc, Nat.mul_comm a 2]
    have ea1 : (a + 1) * 2 ^ (M + 1) = (2 * a) * 2 ^ M + 2 * 2 ^ M := by rw [Nat.add_mul, ea, Nat.one_mul, hp]
    have eb : (2 * a + 1) * 2 ^ M = (2 * a) * 2 ^ M + 2 ^ M := by rw [Nat.add_mul, Nat.one_mul]
    have ec : (2 * a + 1 + 1) * 2 ^ M = (2 * a) * 2 ^ M + 2 ^ M + 2 ^ M := by rw [Nat.add_mul, eb, Nat.one_mul]
    rw [ea1, ea] at hs
    rw [ea, hd]
    have e0 : decide (2 * a = 0) = decide (a = 0) := by
      by_cases h : a = 0
      · subst h; rfl
      · rw [decide_eq_false h, decide_eq_false (by omega)]
    have e0' : (2 * a = 0 ∧ isPow m = true) = (a = 0 ∧ isPow m = true) := by
      rw [show (2 * a = 0) = (a = 0) from propext ⟨fun h => by omega, fun h => by omega⟩]
    by_cases hN : l.length ≤ 2 ^ M
    · have hs1 : sn = (2 * a) * 2 ^ M + (l.length - 1) := by rcases hs with h | h <;> omega
      obtain ⟨S, tail, he, hS, hw⟩ := ih l (2 * a) m sn h1 hN (.inl hml) (.inl hs1)
      simp only [e0, e0'] at he hS
      refine ⟨S, tail, he, hS, fun rest => ?_⟩
      have hq : sn / 2 ^ M = 2 * a := by
        rw [hs1, Nat.mul_comm, Nat.mul_add_div (by omega), Nat.div_eq_of_lt (by omega), Nat.add_zero]
      rw [hw rest, hq]
      by_cases h0 : a = 0
      · subst h0; rfl
      · rw [prefW_skip n (2 * a) rest _ _ (by omega) (by omega)]
        rw [show 2 * a / 2 = a by omega]
    · have hh := halfN_of l.length M (by omega) hl
      have hge : 2 * a + 1 ≤ sn / 2 ^ M := by
        rw [Nat.le_div_iff_mul_le (by omega), eb]
        rcases hs with h | h <;> omega
      have hr := rootM_node n l (by omega)
      rw [subM_node n l m _ hm (by omega)]
      rw [hh] at hr ⊢
      by_cases hle : m ≤ 2 ^ M
      · rw [if_pos hle]
        have ht : (l.take (2 ^ M)).take m = l.take m := by rw [List.take_take, Nat.min_eq_left hle]
        obtain ⟨S, tail, he, hS, hw⟩ := ih (l.take (2 ^ M)) (2 * a) m sn h1 (by rw [List.length_take]; omega) (by rw [List.length_take]; omega) (.inr ⟨by rw [List.length_take]; omega, by rw [eb]; rcases hs with h | h <;> omega⟩)
        rw [ht] at hS hw
        simp only [e0, e0'] at he hS
        refine ⟨S, tail ++ [rootM n (l.drop (2 ^ M))], ?_, hS, fun rest => ?_⟩
        · rw [he, List.append_assoc]
        · rw [List.append_assoc, hw, List.singleton_append, prefW_right n _ _ _ _ _ _ (by omega) (by omega) (by omega), ← hr]
          rw [show 2 * a / 2 = a by omega]
      · rw [if_neg hle]
        have hno : isPow m = false := isP_no M m (by omega) (by omega)
        have hmr := rootM_node n (l.take m) (by rw [List.length_take]; omega)
        have hhm : halfN (l.take m).length = 2 ^ M := halfN_of _ M (by rw [List.length_take]; omega) (by rw [List.length_take]; omega)
        rw [hhm, List.take_take, Nat.min_eq_left (by omega), List.drop_take] at hmr
        obtain ⟨S, tail, he, -, hw⟩ := ih (l.drop (2 ^ M)) (2 * a + 1) (m - 2 ^ M) sn (by omega) (by rw [List.length_drop]; omega) (by rw [List.length_drop]; omega) (by
          rw [List.length_drop, eb, ec]
          rcases hs with h | h
          · left; omega
          · right; omega)
        rw [decide_eq_false (show ¬ (2 * a + 1 = 0) by omega), if_neg (by omega)] at he
        refine ⟨S, tail ++ [rootM n (l.take (2 ^ M))], ?_, (fun h => absurd h.2 (by rw [hno]; simp)), fun rest => ?_⟩
        · rw [he, hno, if_neg (by simp), List.append_assoc]
        · rw [List.append_assoc, show (2 * a) * 2 ^ M + (m - 1) = (2 * a + 1) * 2 ^ M + (m - 2 ^ M - 1) by rw [eb]; omega, hw, List.singleton_append, prefW_odd n _ _ _ _ _ _ (by omega) (by omega), ← hr, ← hmr]
          rw [show (2 * a + 1) / 2 = a by omega]
/-- does a path show that a list begins another one? -/
def prefS (n m s : Nat) (old root : List UInt8) (path : List (List UInt8)) : Bool :=
  if m = 0 ∨ s < m then false else if m = s then decide (path = []) && decide (cutL old n = cutL root n) else if path = [] then false else
  match (if isPow m then [cutL old n] else []) ++ path.map (fun p => cutL p n) with
  | [] => false
  | c :: cs => match prefW n cs (podd (m - 1) (s - 1)).1 (podd (m - 1) (s - 1)).2 c c with
    | some (fr, sr) => decide (fr = cutL old n) && decide (sr = cutL root n)
    | none => false
theorem rootM_sum' (n : Nat) (l : List (List UInt8)) : ∃ b, rootM n l = sumM n b := by
  by_cases h2 : 2 ≤ l.length
  · rw [rootM_node n l h2]; exact ⟨_, rfl⟩
  · by_cases h0 : l.length = 0
    · rw [List.length_eq_zero_iff] at h0; subst h0; exact ⟨[], rfl⟩
    · rw [rootM_single n l (by omega)]; exact ⟨_, rfl⟩
theorem rootM_cut (n : Nat) (l : List (List UInt8)) : cutL (rootM n l) n = rootM n l := by
  obtain ⟨b, hb⟩ := rootM_sum' n l
  rw [hb, cutL_sum]
theorem subM_cut (n : Nat) : ∀ (N : Nat) (l : List (List UInt8)) (m : Nat) (b : Bool), l.length ≤ N → 1 ≤ m → m ≤ l.length → ∀ d ∈ subM n l m b, cutL d n = d := by
  intro N
  induction N with
  | zero => intro l m b h h1 h2; omega
  | succ N ih =>
    intro l m b h h1 h2 d hd
    by_cases h0 : m = l.length
    · rw [subM_all n l m b h0] at hd
      split at hd
      · cases hd
      · rw [List.mem_singleton.1 hd]; exact rootM_cut n l
    · have hp := half_parts l (by omega)
      rw [subM_node n l m b h0 (by omega)] at hd
      split at hd
      · rcases List.mem_append.1 hd with hd | hd
        · exact ih _ _ _ (by omega) h1 (by omega) d hd
        · rw [List.mem_singleton.1 hd]; exact rootM_cut n _
      · rcases List.mem_append.1 hd with hd | hd
        · exact ih _ _ _ (by omega) (by omega) (by omega) d hd
        · rw [List.mem_singleton.1 hd]; exact rootM_cut n _
/-- what is told is taken -/
theorem prefS_path (n : Nat) (l : List (List UInt8)) (m : Nat) (h1 : 1 ≤ m) (hm : m ≤ l.length) : prefS n m l.length (rootM n (l.take m)) (rootM n l) (subM n l m true) = true := by
  unfold prefS
  rw [if_neg (by omega), rootM_cut, rootM_cut]
  by_cases he : m = l.length
  · rw [if_pos he, subM_all n l m true he, he, List.take_length]
    simp
  · rw [if_neg he]
    obtain ⟨M, hM⟩ : ∃ M, l.length ≤ 2 ^ M := ⟨l.length, Nat.le_of_lt Nat.lt_two_pow_self⟩
    obtain ⟨S, tail, hp, hS, hw⟩ := sub_path n M l 0 m (l.length - 1) h1 hM (.inl (by omega)) (.inl (by omega))
    have hne : subM n l m true ≠ [] := by
      rw [subM_node n l m true he (by omega)]
      split <;> simp
    rw [if_neg hne]
    have hmap : (subM n l m true).map (fun p => cutL p n) = subM n l m true := by
      have h := List.map_congr_left (f := fun p => cutL p n) (g := id) (l := subM n l m true) (fun d hd => subM_cut n _ l m true (Nat.le_refl _) h1 hm d hd)
      rw [h, List.map_id]
    rw [hmap]
    have hl : (if isPow m then [rootM n (l.take m)] else []) ++ subM n l m true = S :: tail := by
      have hp2 : subM n l m true = (if 0 = 0 ∧ isPow m = true then [] else [S]) ++ tail := hp
      rw [hp2]
      by_cases hi : isPow m = true
      · rw [if_pos hi, if_pos ⟨rfl, hi⟩, hS ⟨rfl, hi⟩]; rfl
      · rw [if_neg hi, if_neg (by simp [hi])]; rfl
    rw [hl]
    have h := hw []
    rw [List.append_nil, Nat.zero_mul, Nat.zero_add, Nat.div_eq_of_lt (by omega), prefW_nil, if_pos rfl] at h
    simp only [h, decide_true, Bool.and_self]
end Go.Proofs.YtcdkadidkkbhpaaDoor
