/- Texts that stand behind one another: VerS. No condition. -/
import Derived.Test.YteonmcconpfkjaaDoorP20
/- Proofs of a leaf, plain: how many hashes a path has; what two ways of one place tell. No condition. -/
namespace Go.Proofs.YteonmcconpfkjaaDoor
theorem stepsF_le : ∀ (f k fn sn : Nat), sn < 2 ^ k → stepsF f fn sn ≤ k := by
  intro f
  induction f with
  | zero => intro k fn sn h; exact Nat.zero_le _
  | succ f ih =>
    intro k fn sn h
    rw [stepsF]
    by_cases h0 : sn = 0
    · rw [if_pos h0]; exact Nat.zero_le _
    · rw [if_neg h0]
      cases k with
      | zero => simp at h; omega
      | succ k =>
        rw [Nat.pow_succ] at h
        split
        · have := ih k (fn / 2) (sn / 2) (by omega); omega
        · have hs := strip_snd fn sn
          have := ih k ((strip fn sn).1 / 2) ((strip fn sn).2 / 2) (by omega); omega
theorem wayS_some (n : Nat) : ∀ (f : Nat) (ps : List (List UInt8)) (fn sn : Nat) (T : List (List UInt8)), sn ≤ f → ps.length = stepsF f fn sn → ∃ X, wayS n ps fn sn T = some X := by
  intro f
  induction f with
  | zero =>
    intro ps fn sn T h hp
    obtain rfl : sn = 0 := by omega
    rw [stepsF, List.length_eq_zero_iff] at hp
    rw [wayS_end, if_pos hp]; exact ⟨_, rfl⟩
  | succ f ih =>
    intro ps fn sn T h hp
    rw [stepsF] at hp
    by_cases h0 : sn = 0
    · subst h0
      rw [if_pos rfl, List.length_eq_zero_iff] at hp
      rw [wayS_end, if_pos hp]; exact ⟨_, rfl⟩
    · rw [if_neg h0] at hp
      cases ps with
      | nil => split at hp <;> simp at hp <;> omega
      | cons p ps =>
        rw [List.length_cons] at hp
        by_cases hc : fn % 2 = 0 ∧ fn ≠ sn
        · rw [if_pos hc] at hp
          rw [wayS_right n fn sn p ps T h0 hc.1 hc.2]
          exact ih _ _ _ _ (by omega) (by omega)
        · rw [if_neg hc] at hp
          rw [wayS_left n fn sn p ps T h0 hc]
          have hs := strip_snd fn sn
          exact ih _ _ _ _ (by omega) (by omega)
theorem wayS_isSome (n : Nat) (ps : List (List UInt8)) (fn sn : Nat) (T : List (List UInt8)) : (wayS n ps fn sn T).isSome = decide (ps.length = stepsF sn fn sn) := by
  by_cases h : ps.length = stepsF sn fn sn
  · obtain ⟨X, hX⟩ := wayS_some n sn ps fn sn T (Nat.le_refl _) h
    rw [hX, decide_eq_true h]; rfl
  · rw [decide_eq_false h]
    cases hw : wayS n ps fn sn T with
    | none => rfl
    | some X => exact absurd (wayS_len n sn ps fn sn T X (Nat.le_refl _) hw).2 h
/-- what comes behind depends on the last hash alone -/
theorem wayS_swap (n : Nat) : ∀ (ps : List (List UInt8)) (fn sn : Nat) (T T' X : List (List UInt8)), lastH n T = lastH n T' → wayS n ps fn sn T = some X → ∃ Z, X = T ++ Z ∧ wayS n ps fn sn T' = some (T' ++ Z) := by
  intro ps
  induction ps with
  | nil =>
    intro fn sn T T' X h hx
    rw [wayS_nil] at hx ⊢
    split at hx
    · rename_i h0
      injection hx with hx
      exact ⟨[], by rw [← hx, List.append_nil], by rw [if_pos h0, List.append_nil]⟩
    · cases hx
  | cons p ps ih =>
    intro fn sn T T' X h hx
    by_cases h0 : sn = 0
    · rw [wayS, if_pos h0] at hx; cases hx
    · by_cases hc : fn % 2 = 0 ∧ fn ≠ sn
      · rw [wayS_right n fn sn p ps _ h0 hc.1 hc.2] at hx ⊢
        rw [h] at hx
        obtain ⟨Z, h1, h2⟩ := ih _ _ _ (T' ++ [nodeT n (lastH n T') p]) _ (by rw [lastH_snoc, lastH_snoc]) hx
        exact ⟨nodeT n (lastH n T') p :: Z, by rw [h1]; simp, by rw [h2]; simp⟩
      · rw [wayS_left n fn sn p ps _ h0 hc] at hx ⊢
        rw [h] at hx
        obtain ⟨Z, h1, h2⟩ := ih _ _ _ (T' ++ [nodeT n p (lastH n T')]) _ (by rw [lastH_snoc, lastH_snoc]) hx
        exact ⟨nodeT n p (lastH n T') :: Z, by rw [h1]; simp, by rw [h2]; simp⟩
theorem wayS_head (n : Nat) (ps : List (List UInt8)) (fn sn : Nat) (t : List UInt8) (X : List (List UInt8)) (h : wayS n ps fn sn [t] = some X) : ∃ Z, X = t :: Z := by
  obtain ⟨Z, h1, _⟩ := wayS_swap n ps fn sn [t] [t] X rfl h
  exact ⟨Z, h1⟩
theorem wayS_ne (n : Nat) (ps : List (List UInt8)) (fn sn : Nat) (t : List UInt8) (X : List (List UInt8)) (h : wayS n ps fn sn [t] = some X) : 1 ≤ X.length := by
  obtain ⟨Z, rfl⟩ := wayS_head n ps fn sn t X h
  simp
/-- two unlike texts of one hash, the first ones of two ways -/
def collF (n : Nat) : List (List UInt8) → List (List UInt8) → Option (List UInt8 × List UInt8)
  | x :: X, y :: Y => if sumM n x = sumM n y ∧ x ≠ y then some (x, y) else collF n X Y
  | _, _ => none
theorem collF_drop (n : Nat) (X Y : List (List UInt8)) (i : Nat) (h1 : i < X.length) (h2 : i < Y.length) :
    collF n (X.drop i) (Y.drop i) = if sumM n (X.getD i []) = sumM n (Y.getD i []) ∧ X.getD i [] ≠ Y.getD i [] then some (X.getD i [], Y.getD i []) else collF n (X.drop (i + 1)) (Y.drop (i + 1)) := by
  rw [List.drop_eq_getElem_cons h1, List.drop_eq_getElem_cons h2, collF]
  have e1 : X.getD i [] = X[i] := by rw [List.getD_eq_getElem?_getD, List.getElem?_eq_getElem h1]; rfl
  have e2 : Y.getD i [] = Y[i] := by rw [List.getD_eq_getElem?_getD, List.getElem?_eq_getElem h2]; rfl
  rw [e1, e2]
theorem collF_end (n : Nat) (X Y : List (List UInt8)) (i : Nat) (h : X.length ≤ i ∨ Y.length ≤ i) : collF n (X.drop i) (Y.drop i) = none := by
  rcases h with h | h
  · rw [List.drop_of_length_le h]; rfl
  · rw [List.drop_of_length_le h]
    cases X.drop i <;> rfl
theorem collF_sound (n : Nat) : ∀ (X Y : List (List UInt8)) (x y : List UInt8), collF n X Y = some (x, y) → sumM n x = sumM n y ∧ x ≠ y := by
  intro X
  induction X with
  | nil => intro Y x y h; cases h
  | cons a X ih =>
    intro Y x y h
    cases Y with
    | nil => cases h
    | cons b Y =>
      rw [collF] at h
      split at h
      · rename_i hc
        injection h with h
        injection h with h1 h2
        subst h1; subst h2; exact hc
      · exact ih Y x y h
/-- what Collide tells -/
def collS (n : Nat) (a b : List UInt8) (i s : Nat) (p q : List (List UInt8)) : Option (List UInt8 × List UInt8) :=
  if a = b then none else if s ≤ i then none else
  match wayS n p i (s - 1) [0 :: a], wayS n q i (s - 1) [0 :: b] with
  | some X, some Y => if lastH n X = lastH n Y then collF n X Y else none
  | _, _ => none
theorem collS_sound (n : Nat) (a b : List UInt8) (i s : Nat) (p q : List (List UInt8)) (x y : List UInt8) (h : collS n a b i s p q = some (x, y)) : sumM n x = sumM n y ∧ x ≠ y := by
  unfold collS at h
  split at h
  · cases h
  · split at h
    · cases h
    · split at h
      · split at h
        · exact collF_sound n _ _ x y h
        · cases h
      · cases h
theorem leafS_swap (n : Nat) (a b : List UInt8) (i s : Nat) (p : List (List UInt8)) (root : List UInt8) (h : leafM n a = leafM n b) (ht : leafS n a i s p root = true) : leafS n b i s p root = true := by
  unfold leafS at ht ⊢
  split at ht
  · cases ht
  · rename_i h0
    rw [if_neg h0]
    cases hw : wayS n p i (s - 1) [0 :: a] with
    | none => rw [hw] at ht; cases ht
    | some X =>
      rw [hw] at ht
      obtain ⟨Z, h1, h2⟩ := wayS_swap n p i (s - 1) [0 :: a] [0 :: b] X h hw
      rw [h2]
      simp only at ht ⊢
      rw [← of_decide_eq_true ht, h1]
      refine decide_eq_true ?_
      unfold lastH
      cases Z with
      | nil => exact h.symm
      | cons z Z => simp [List.getLastD_cons]
/-- two unlike leaves of one hash are told -/
theorem collS_swap (n : Nat) (a b : List UInt8) (i s : Nat) (p : List (List UInt8)) (root : List UInt8) (h : leafM n a = leafM n b) (hne : a ≠ b) (ht : leafS n a i s p root = true) : collS n a b i s p p = some (0 :: a, 0 :: b) := by
  unfold leafS at ht
  unfold collS
  rw [if_neg hne]
  split at ht
  · cases ht
  · rename_i h0
    rw [if_neg h0]
    cases hw : wayS n p i (s - 1) [0 :: a] with
    | none => rw [hw] at ht; cases ht
    | some X =>
      obtain ⟨Z, h1, h2⟩ := wayS_swap n p i (s - 1) [0 :: a] [0 :: b] X h hw
      rw [h2]
      subst h1
      have hl : lastH n ([0 :: a] ++ Z) = lastH n ([0 :: b] ++ Z) := by
        unfold lastH
        cases Z with
        | nil => exact h
        | cons z Z => simp [List.getLastD_cons]
      simp only [if_pos hl]
      rw [List.singleton_append, List.singleton_append, collF, if_pos ⟨h, by simpa using hne⟩]
end Go.Proofs.YteonmcconpfkjaaDoor
