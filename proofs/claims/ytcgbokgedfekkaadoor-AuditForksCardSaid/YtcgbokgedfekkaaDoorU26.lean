/- Texts that stand behind one another: VerC, VerQ, VerS, Same8, DX. No condition. -/
import Derived.Test.YtcgbokgedfekkaaDoorU25
import Derived.Test.YtcgbokgedfekkaaDoorU24
import Derived.Test.YtcgbokgedfekkaaDoorU15
import Derived.Test.YtcgbokgedfekkaaDoorU14
import Derived.Test.YtcgbokgedfekkaaDoorU4
import Derived.Test.YtcgbokgedfekkaaDoorU12
/- Lists of verify's steps: their cells, append of one onto a row of the call's own. No condition. -/
namespace Go.Proofs.YtcgbokgedfekkaaDoor
open Go Go.RowKit
/-- the cells of some steps: each a text's slice, and the hash of the text -/
def scells (n : Nat) (l : List (Value × List UInt8)) : List Value := (l.map fun p => (stepC p.1 (sumM n p.2)).toList).flatten
theorem scells_snoc (n : Nat) (l : List (Value × List UInt8)) (p : Value × List UInt8) : scells n (l ++ [p]) = scells n l ++ (stepC p.1 (sumM n p.2)).toList := by simp [scells]
theorem scells_at (n : Nat) (l : List (Value × List UInt8)) (k : Nat) (hk : k < l.length) (j : Nat) (hj : j < 33) : (scells n l)[k * 33 + j]? = (stepC l[k].1 (sumM n l[k].2))[j]? := by
  induction l generalizing k with
  | nil => simp at hk
  | cons d l ih =>
    have hd : (stepC d.1 (sumM n d.2)).toList.length = 33 := by rw [Array.length_toList, stepC_size]
    have e : scells n (d :: l) = (stepC d.1 (sumM n d.2)).toList ++ scells n l := by simp [scells]
    rw [e]
    cases k with
    | zero => rw [List.getElem?_append_left (by omega)]; simp
    | succ k =>
      rw [List.getElem?_append_right (by omega), hd, show (k + 1) * 33 + j - 33 = k * 33 + j by omega, ih k (by simpa using hk)]; simp
/-- v is a row of steps of the call's own -/
def Stp (w : World) (base : Nat) (v : Value) (n : Nat) (l : List (Value × List UInt8)) : Prop :=
  w.ownsRow base 117 33 v l.length (scells n l) ∧ ∀ p ∈ l, w.ownsRow base 5 1 p.1 p.2.length (p.2.map v8)
theorem Stp.below {w w' : World} {base n : Nat} {v : Value} {l : List (Value × List UInt8)} (h : Stp w base v n l) (hb : Below w.heap.size w w') : Stp w' base v n l :=
  ⟨own_below h.1 hb, fun p hp => own_below (h.2 p hp) hb⟩
theorem Stp.base {w : World} {base b2 n : Nat} {v : Value} {l : List (Value × List UInt8)} (h : Stp w base v n l) (hb : b2 ≤ base) : Stp w b2 v n l :=
  ⟨own_base h.1 hb, fun p hp => own_base (h.2 p hp) hb⟩
theorem own_grownT {w w' : World} {base s s' n m : Nat} {e e' : TypeId} {v u : Value} {xs ys : List Value} (h : w.ownsRow base e s v n xs) (hu : w.ownsRow base e' s' u m ys) (ht : e ≠ e') (hg : w.grownBy w' v.ownBlock) : w'.ownsRow base e' s' u m ys := by
  rcases h.2 with ⟨rfl, _⟩ | ⟨b, cap, cur, rfl, _, hb, _⟩
  · exact own_grown hu hg (fun g hg e => by cases e)
  · exact own_grown hu hg (own_diff hu (show Blk w b e cur from hb) ht)
theorem Stp.grown {w w' : World} {base n : Nat} {v u : Value} {l l' : List (Value × List UInt8)} (h : Stp w base v n l) (hown : w'.ownsRow base 117 33 u l'.length (scells n l')) (hg : w.grownBy w' v.ownBlock) (p : Value × List UInt8) (hp : w.ownsRow base 5 1 p.1 p.2.length (p.2.map v8)) (hl : l' = l ++ [p]) : Stp w' base u n l' := by
  subst hl
  refine ⟨hown, fun q hq => ?_⟩
  rcases List.mem_append.1 hq with hq | hq
  · exact own_grownT h.1 (h.2 q hq) (by decide) hg
  · rw [List.mem_singleton.1 hq]; exact own_grownT h.1 hp (by decide) hg
theorem Stp.text {w : World} {base n : Nat} {v : Value} {l : List (Value × List UInt8)} (h : Stp w base v n l) (k : Nat) (hk : k < l.length) : BSl w w.heap.size l[k].1 l[k].2 :=
  BSl.of_own (h.2 _ (List.getElem_mem hk))
/-- the hash of a step, in the row -/
theorem Stp.hash {w : World} {base n : Nat} {v : Value} {l : List (Value × List UInt8)} (h : Stp w base v n l) (k : Nat) (hk : k < l.length) : ∃ g c, v = .slice (some ⟨g, 0, none⟩) l.length c ∧ g < w.heap.size ∧ base ≤ g ∧ w.cell? ⟨g, k * 33, none⟩ = some l[k].1 ∧ w.rangeAt g (k * 33 + 1) (dat (sumM n l[k].2)).toList := by
  have hlt := own_lt h.1
  rcases h.1.2 with ⟨_, h0⟩ | ⟨g, cap, cur, e, hb, hh, hc1, _, hsz, hcur⟩
  · omega
  · have hcell : ∀ j, j < 33 → w.cell? ⟨g, k * 33 + j, none⟩ = (stepC l[k].1 (sumM n l[k].2))[j]? := by
      intro j hj
      rw [cell_of_row w g (k * 33 + j) cur _ (0, 0) hh]
      have h1 := scells_at n l k hk j hj
      rw [← hcur, List.getElem?_take, if_pos (by omega)] at h1
      rw [← h1]; simp
    refine ⟨g, cap, e, hlt g (by rw [e]; rfl), hb, by have := hcell 0 (by decide); simpa [stepC] using this, fun j v hj => ?_⟩
    have hj32 : j < 32 := by
      have := (List.getElem?_eq_some_iff.1 hj).1
      rw [Array.length_toList, dat_size] at this; exact this
    have := hcell (j + 1) (by omega)
    rw [show k * 33 + 1 + j = k * 33 + (j + 1) by omega, this, ← hj]
    simp [stepC]
theorem Stp.lt {w : World} {base n : Nat} {v : Value} {l : List (Value × List UInt8)} (h : Stp w base v n l) : ∃ A c, v = .slice A l.length c := own_slice h.1
set_option maxRecDepth 100000 in
theorem build_steps (A : Option Addr) (n c : Nat) (d : List UInt8) (w : World) : (Instr.buildSlice 113 1 #[(0, .agg (stepC (.slice A n c) d))]).run Tryd.prog w = .ok (.slice (some ⟨w.heap.size, 0, none⟩) 1 1) (w.alloc (.cells (stepC (.slice A n c) d) 117)) := by kernel_rfl
theorem wpList_buildSteps {w : World} {ops : Array Oper} {rest : List Oper} {o : Oper} {a : Act} {Q : Exit → Act → World → Prop} (hgd : o.guard = none) (x : Operand) (ho : o.op = .buildSlice 113 1 #[(0, x)]) (A : Option Addr) (n c : Nat) (d : List UInt8) (hx : a.eval x = .agg (stepC (.slice A n c) d))
    (h : wpList Tryd.prog ops Q rest (a.put o.dst (.slice (some ⟨w.heap.size, 0, none⟩) 1 1)) (w.alloc (.cells (stepC (.slice A n c) d) 117))) : wpList Tryd.prog ops Q (o :: rest) a w :=
  wpList_plain hgd fun K hK => by
    unfold Oper.wp execOp
    simp only [ho, List.map_toArray, List.map_cons, List.map_nil, hx, Sem.run_bind, build_steps A n c d, Result.andThen_ok, Sem.run_pure]
    exact hK _ _ h
theorem own_oneS (w : World) (base n : Nat) (hb : base ≤ w.heap.size) (p : Value × List UInt8) : (w.alloc (.cells (stepC p.1 (sumM n p.2)) 117)).ownsRow base 117 33 (.slice (some ⟨w.heap.size, 0, none⟩) 1 1) [p].length (scells n [p]) := by
  have hl : (scells n [p]) = (stepC p.1 (sumM n p.2)).toList := by simp [scells]
  refine ⟨by rw [hl, Array.length_toList, stepC_size]; rfl, .inr ⟨w.heap.size, 1, stepC p.1 (sumM n p.2), rfl, hb, heap_alloc_new w _, Nat.le_refl _, by decide, by rw [stepC_size], ?_⟩⟩
  rw [hl, List.take_of_length_le (by rw [Array.length_toList, stepC_size]; show 33 ≤ 1 * 33; decide)]
/-- append of one step onto a row of steps of the call's own -/
theorem wpList_appendStep {w : World} {ops : Array Oper} {rest : List Oper} {o : Oper} {a : Act} {Q : Exit → Act → World → Prop} (hgd : o.guard = none) (s x : Operand)
    (ho : o.op = .call { callee := .builtin .append, args := #[s, x], argTypes := #[113, 113] })
    (base n : Nat) (v : Value) (l : List (Value × List UInt8)) (hs : a.eval s = v) (hS : Stp w base v n l)
    (A : Option Addr) (m c : Nat) (t : List UInt8) (g : Nat) (hx : a.eval x = .slice (some ⟨g, 0, none⟩) 1 1) (hX : Blk w g 117 (stepC (.slice A m c) (sumM n t))) (ht : w.ownsRow base 5 1 (.slice A m c) t.length (t.map v8)) (hl : l.length ≤ 1000000000) (hbase : base ≤ w.heap.size)
    (h : ∀ v' w', Stp w' base v' n (l ++ [(.slice A m c, t)]) → w.grownBy w' v.ownBlock → wpList Tryd.prog ops Q rest (a.put o.dst v') w') : wpList Tryd.prog ops Q (o :: rest) a w := by
  obtain ⟨i0, hi, hz0, hz1, hz2⟩ := info_parts (by kernel_rfl : (Tryd.prog.info? 117).map (fun i => (i.zero, i.size, i.bytes)) = some (some (.agg step0), 33, 56))
  refine wpList_append_own_at _ hgd s x _ ho base 117 i0 _ 33 56 Tryd.underlying113 hi hz0 hz1 hz2 (by show step0.size = 33; exact step0_size) (by decide) v _ _ hs hS.1 ⟨g, 0, none⟩ 1 1 (stepC (.slice A m c) (sumM n t)).toList hx (by rw [Array.length_toList, stepC_size]) (fun j u hj => by
      have e : (⟨g, 0, none⟩ : Addr).add j = ⟨g, j, none⟩ := by unfold Addr.add; split <;> simp_all
      rw [e, hX.cell, ← hj]; simp) (stepC_one _ _ rfl) (by unfold maxLen; omega) (by omega) hbase ?_
  intro v' w' hown' hg _ _
  have e2 : scells n l ++ (stepC (.slice A m c) (sumM n t)).toList = scells n (l ++ [(.slice A m c, t)]) := (scells_snoc n l (.slice A m c, t)).symm
  rw [e2] at hown'
  exact h v' w' (hS.grown (by rw [List.length_append]; exact hown') hg (.slice A m c, t) ht rfl) hg
end Go.Proofs.YtcgbokgedfekkaaDoor

/- Whatever merkle proves is taken: the path of a place leads to the root. Plain. No condition. -/
namespace Go.Proofs.YtcgbokgedfekkaaDoor
theorem halfN_of (N m : Nat) (h1 : 2 ^ m < N) (h2 : N ≤ 2 ^ (m + 1)) : halfN N = 2 ^ m := by
  unfold halfN
  have h3 : (N - 1).log2 = m := (Nat.log2_eq_iff (by have := Nat.one_le_two_pow (n := m); omega)).2 ⟨by omega, by omega⟩
  rw [h3]
theorem cutL_sum (n : Nat) (b : List UInt8) : cutL (sumM n b) n = sumM n b := by
  unfold sumM
  rw [cutL_cutL _ _ _ (sha_length b)]
  congr 1
  omega
theorem way_path (n : Nat) : ∀ (m : Nat) (l : List (List UInt8)) (a i sn : Nat) (T : List (List UInt8)), i < l.length → l.length ≤ 2 ^ m →
    (sn = a * 2 ^ m + (l.length - 1) ∨ (l.length = 2 ^ m ∧ (a + 1) * 2 ^ m ≤ sn)) → lastH n T = leafM n (l.getD i []) →
    ∃ X, lastH n (T ++ X) = rootM n l ∧ ∀ rest, wayS n (pathM n l i ++ rest) (a * 2 ^ m + i) sn T = wayS n rest a (sn / 2 ^ m) (T ++ X) := by
  intro m
  induction m with
  | zero =>
    intro l a i sn T hi hl hs hT
    simp only [Nat.pow_zero] at *
    obtain rfl : i = 0 := by omega
    refine ⟨[], ?_, fun rest => ?_⟩
    · rw [List.append_nil, hT, rootM_single n l (by omega)]
    · rw [pathM_one n l 0 (by omega), List.append_nil, Nat.mul_one, Nat.add_zero, Nat.div_one]; rfl
  | succ m ih =>
    intro l a i sn T hi hl hs hT
    have hp : 2 ^ (m + 1) = 2 * 2 ^ m := by rw [Nat.pow_succ]; omega
    have h1 : 1 ≤ 2 ^ m := Nat.one_le_two_pow
    have hd : sn / 2 ^ (m + 1) = sn / 2 ^ m / 2 := by rw [Nat.pow_succ, Nat.div_div_eq_div_mul]
    have ea : a * 2 ^ (m + 1) = (2 * a) * 2 ^ m := by rw [hp, ← Nat.mul_assoc, Nat.mul_comm a 2]
    have ea1 : (a + 1) * 2 ^ (m + 1) = (2 * a) * 2 ^ m + 2 * 2 ^ m := by rw [Nat.add_mul, ea, Nat.one_mul, hp]
    have eb : (2 * a + 1) * 2 ^ m = (2 * a) * 2 ^ m + 2 ^ m := by rw [Nat.add_mul, Nat.one_mul]
    have ec : (2 * a + 1 + 1) * 2 ^ m = (2 * a) * 2 ^ m + 2 ^ m + 2 ^ m := by rw [Nat.add_mul, eb, Nat.one_mul]
    rw [ea1, ea] at hs
    rw [ea, hd]
    by_cases hN : l.length ≤ 2 ^ m
    · have hs1 : sn = (2 * a) * 2 ^ m + (l.length - 1) := by rcases hs with h | h <;> omega
      obtain ⟨X, hX, hw⟩ := ih l (2 * a) i sn T hi hN (.inl hs1) hT
      refine ⟨X, hX, fun rest => ?_⟩
      have hq : sn / 2 ^ m = 2 * a := by
        rw [hs1, Nat.mul_comm, Nat.mul_add_div (by omega), Nat.div_eq_of_lt (by omega), Nat.add_zero]
      rw [hw rest, hq]
      by_cases h0 : a = 0
      · subst h0; rfl
      · rw [wayS_skip n (2 * a) rest _ (by omega) (by omega)]
        rw [show 2 * a / 2 = a by omega]
    · have hh := halfN_of l.length m (by omega) hl
      have hge : 2 * a + 1 ≤ sn / 2 ^ m := by
        rw [Nat.le_div_iff_mul_le (by omega), eb]
        rcases hs with h | h <;> omega
      have hr := rootM_node n l (by omega)
      rw [pathM_node n l i (by omega)]
      rw [hh] at hr ⊢
      by_cases hlt : i < 2 ^ m
      · rw [if_pos hlt]
        have hg : (l.take (2 ^ m)).getD i [] = l.getD i [] := by
          rw [List.getD_eq_getElem?_getD, List.getElem?_take_of_lt hlt, ← List.getD_eq_getElem?_getD]
        obtain ⟨X, hX, hw⟩ := ih (l.take (2 ^ m)) (2 * a) i sn T (by rw [List.length_take]; omega) (by rw [List.length_take]; omega) (.inr ⟨by rw [List.length_take]; omega, by rw [eb]; rcases hs with h | h <;> omega⟩) (by rw [hg]; exact hT)
        refine ⟨X ++ [nodeT n (lastH n (T ++ X)) (rootM n (l.drop (2 ^ m)))], ?_, fun rest => ?_⟩
        · rw [← List.append_assoc, lastH_snoc, ← nodeM_sum, hX, hr]
        · rw [List.append_assoc, hw, List.singleton_append, wayS_right n _ _ _ _ _ (by omega) (by omega) (by omega), List.append_assoc]
          rw [show 2 * a / 2 = a by omega]
      · rw [if_neg hlt]
        have hg : (l.drop (2 ^ m)).getD (i - 2 ^ m) [] = l.getD i [] := by
          rw [List.getD_eq_getElem?_getD, List.getElem?_drop, show 2 ^ m + (i - 2 ^ m) = i by omega, ← List.getD_eq_getElem?_getD]
        obtain ⟨X, hX, hw⟩ := ih (l.drop (2 ^ m)) (2 * a + 1) (i - 2 ^ m) sn T (by rw [List.length_drop]; omega) (by rw [List.length_drop]; omega) (by
          rw [List.length_drop, eb, ec]
          rcases hs with h | h
          · left; omega
          · right; omega) (by rw [hg]; exact hT)
        refine ⟨X ++ [nodeT n (rootM n (l.take (2 ^ m))) (lastH n (T ++ X))], ?_, fun rest => ?_⟩
        · rw [← List.append_assoc, lastH_snoc, ← nodeM_sum, hX, hr]
        · rw [List.append_assoc, show (2 * a) * 2 ^ m + i = (2 * a + 1) * 2 ^ m + (i - 2 ^ m) by rw [eb]; omega, hw, List.singleton_append, wayS_odd n _ _ _ _ _ (by omega) (by omega), List.append_assoc]
          rw [show (2 * a + 1) / 2 = a by omega]
/-- what is proved is taken -/
theorem leafS_path (n : Nat) (l : List (List UInt8)) (i : Nat) (hi : i < l.length) : leafS n (l.getD i []) i l.length (pathM n l i) (rootM n l) = true := by
  obtain ⟨m, hm⟩ : ∃ m, l.length ≤ 2 ^ m := ⟨l.length, Nat.le_of_lt Nat.lt_two_pow_self⟩
  obtain ⟨X, hX, hw⟩ := way_path n m l 0 i (l.length - 1) [0 :: l.getD i []] hi hm (.inl (by omega)) rfl
  have h := hw []
  rw [List.append_nil, Nat.zero_mul, Nat.zero_add, Nat.div_eq_of_lt (by omega), wayS_nil, if_pos rfl] at h
  unfold leafS
  rw [if_neg (by omega), h]
  refine decide_eq_true ?_
  rw [hX]
  obtain ⟨b, hb⟩ : ∃ b, rootM n l = sumM n b := by
    by_cases h2 : 2 ≤ l.length
    · rw [rootM_node n l h2]; exact ⟨_, rfl⟩
    · rw [rootM_single n l (by omega)]; exact ⟨_, rfl⟩
  rw [hb, cutL_sum]
end Go.Proofs.YtcgbokgedfekkaaDoor

/- Proofs of a leaf, plain: how many hashes a path has; what two ways of one place tell. No condition. -/
namespace Go.Proofs.YtcgbokgedfekkaaDoor
theorem stepsF_le : ∀ (f k fn sn : Nat), sn < 2 ^ k → stepsF f fn sn ≤ k := by
  intro f
  induction f with
  | zero => intro k fn sn h; exact Nat.zero_le _
  | succ f ih =>
    intro k fn sn h
    rw [stepsF]
    by_cases h0 : sn = 0
    · rw [if_pos h0]; exact Nat.zero_le _
    · rw [if_neg h0]
      cases k with
      | zero => simp at h; omega
      | succ k =>
        rw [Nat.pow_succ] at h
        split
        · have := ih k (fn / 2) (sn / 2) (by omega); omega
        · have hs := strip_snd fn sn
          have := ih k ((strip fn sn).1 / 2) ((strip fn sn).2 / 2) (by omega); omega
theorem wayS_some (n : Nat) : ∀ (f : Nat) (ps : List (List UInt8)) (fn sn : Nat) (T : List (List UInt8)), sn ≤ f → ps.length = stepsF f fn sn → ∃ X, wayS n ps fn sn T = some X := by
  intro f
  induction f with
  | zero =>
    intro ps fn sn T h hp
    obtain rfl : sn = 0 := by omega
    rw [stepsF, List.length_eq_zero_iff] at hp
    rw [wayS_end, if_pos hp]; exact ⟨_, rfl⟩
  | succ f ih =>
    intro ps fn sn T h hp
    rw [stepsF] at hp
    by_cases h0 : sn = 0
    · subst h0
      rw [if_pos rfl, List.length_eq_zero_iff] at hp
      rw [wayS_end, if_pos hp]; exact ⟨_, rfl⟩
    · rw [if_neg h0] at hp
      cases ps with
      | nil => split at hp <;> simp at hp <;> omega
      | cons p ps =>
        rw [List.length_cons] at hp
        by_cases hc : fn % 2 = 0 ∧ fn ≠ sn
        · rw [if_pos hc] at hp
          rw [wayS_right n fn sn p ps T h0 hc.1 hc.2]
          exact ih _ _ _ _ (by omega) (by omega)
        · rw [if_neg hc] at hp
          rw [wayS_left n fn sn p ps T h0 hc]
          have hs := strip_snd fn sn
          exact ih _ _ _ _ (by omega) (by omega)
theorem wayS_isSome (n : Nat) (ps : List (List UInt8)) (fn sn : Nat) (T : List (List UInt8)) : (wayS n ps fn sn T).isSome = decide (ps.length = stepsF sn fn sn) := by
  by_cases h : ps.length = stepsF sn fn sn
  · obtain ⟨X, hX⟩ := wayS_some n sn ps fn sn T (Nat.le_refl _) h
    rw [hX, decide_eq_true h]; rfl
  · rw [decide_eq_false h]
    cases hw : wayS n ps fn sn T with
    | none => rfl
    | some X => exact absurd (wayS_len n sn ps fn sn T X (Nat.le_refl _) hw).2 h
/-- what comes behind depends on the last hash alone -/
theorem wayS_swap (n : Nat) : ∀ (ps : List (List UInt8)) (fn sn : Nat) (T T' X : List (List UInt8)), lastH n T = lastH n T' → wayS n ps fn sn T = some X → ∃ Z, X = T ++ Z ∧ wayS n ps fn sn T' = some (T' ++ Z) := by
  intro ps
  induction ps with
  | nil =>
    intro fn sn T T' X h hx
    rw [wayS_nil] at hx ⊢
    split at hx
    · rename_i h0
      injection hx with hx
      exact ⟨[], by rw [← hx, List.append_nil], by rw [if_pos h0, List.append_nil]⟩
    · cases hx
  | cons p ps ih =>
    intro fn sn T T' X h hx
    by_cases h0 : sn = 0
    · rw [wayS, if_pos h0] at hx; cases hx
    · by_cases hc : fn % 2 = 0 ∧ fn ≠ sn
      · rw [wayS_right n fn sn p ps _ h0 hc.1 hc.2] at hx ⊢
        rw [h] at hx
        obtain ⟨Z, h1, h2⟩ := ih _ _ _ (T' ++ [nodeT n (lastH n T') p]) _ (by rw [lastH_snoc, lastH_snoc]) hx
        exact ⟨nodeT n (lastH n T') p :: Z, by rw [h1]; simp, by rw [h2]; simp⟩
      · rw [wayS_left n fn sn p ps _ h0 hc] at hx ⊢
        rw [h] at hx
        obtain ⟨Z, h1, h2⟩ := ih _ _ _ (T' ++ [nodeT n p (lastH n T')]) _ (by rw [lastH_snoc, lastH_snoc]) hx
        exact ⟨nodeT n p (lastH n T') :: Z, by rw [h1]; simp, by rw [h2]; simp⟩
theorem wayS_head (n : Nat) (ps : List (List UInt8)) (fn sn : Nat) (t : List UInt8) (X : List (List UInt8)) (h : wayS n ps fn sn [t] = some X) : ∃ Z, X = t :: Z := by
  obtain ⟨Z, h1, _⟩ := wayS_swap n ps fn sn [t] [t] X rfl h
  exact ⟨Z, h1⟩
theorem wayS_ne (n : Nat) (ps : List (List UInt8)) (fn sn : Nat) (t : List UInt8) (X : List (List UInt8)) (h : wayS n ps fn sn [t] = some X) : 1 ≤ X.length := by
  obtain ⟨Z, rfl⟩ := wayS_head n ps fn sn t X h
  simp
/-- two unlike texts of one hash, the first ones of two ways -/
def collF (n : Nat) : List (List UInt8) → List (List UInt8) → Option (List UInt8 × List UInt8)
  | x :: X, y :: Y => if sumM n x = sumM n y ∧ x ≠ y then some (x, y) else collF n X Y
  | _, _ => none
theorem collF_drop (n : Nat) (X Y : List (List UInt8)) (i : Nat) (h1 : i < X.length) (h2 : i < Y.length) :
    collF n (X.drop i) (Y.drop i) = if sumM n (X.getD i []) = sumM n (Y.getD i []) ∧ X.getD i [] ≠ Y.getD i [] then some (X.getD i [], Y.getD i []) else collF n (X.drop (i + 1)) (Y.drop (i + 1)) := by
  rw [List.drop_eq_getElem_cons h1, List.drop_eq_getElem_cons h2, collF]
  have e1 : X.getD i [] = X[i] := by rw [List.getD_eq_getElem?_getD, List.getElem?_eq_getElem h1]; rfl
  have e2 : Y.getD i [] = Y[i] := by rw [List.getD_eq_getElem?_getD, List.getElem?_eq_getElem h2]; rfl
  rw [e1, e2]
theorem collF_end (n : Nat) (X Y : List (List UInt8)) (i : Nat) (h : X.length ≤ i ∨ Y.length ≤ i) : collF n (X.drop i) (Y.drop i) = none := by
  rcases h with h | h
  · rw [List.drop_of_length_le h]; rfl
  · rw [List.drop_of_length_le h]
    cases X.drop i <;> rfl
theorem collF_sound (n : Nat) : ∀ (X Y : List (List UInt8)) (x y : List UInt8), collF n X Y = some (x, y) → sumM n x = sumM n y ∧ x ≠ y := by
  intro X
  induction X with
  | nil => intro Y x y h; cases h
  | cons a X ih =>
    intro Y x y h
    cases Y with
    | nil => cases h
    | cons b Y =>
      rw [collF] at h
      split at h
      · rename_i hc
        injection h with h
        injection h with h1 h2
        subst h1; subst h2; exact hc
      · exact ih Y x y h
/-- what Collide tells -/
def collS (n : Nat) (a b : List UInt8) (i s : Nat) (p q : List (List UInt8)) : Option (List UInt8 × List UInt8) :=
  if a = b then none else if s ≤ i then none else
  match wayS n p i (s - 1) [0 :: a], wayS n q i (s - 1) [0 :: b] with
  | some X, some Y => if lastH n X = lastH n Y then collF n X Y else none
  | _, _ => none
theorem collS_sound (n : Nat) (a b : List UInt8) (i s : Nat) (p q : List (List UInt8)) (x y : List UInt8) (h : collS n a b i s p q = some (x, y)) : sumM n x = sumM n y ∧ x ≠ y := by
  unfold collS at h
  split at h
  · cases h
  · split at h
    · cases h
    · split at h
      · split at h
        · exact collF_sound n _ _ x y h
        · cases h
      · cases h
theorem leafS_swap (n : Nat) (a b : List UInt8) (i s : Nat) (p : List (List UInt8)) (root : List UInt8) (h : leafM n a = leafM n b) (ht : leafS n a i s p root = true) : leafS n b i s p root = true := by
  unfold leafS at ht ⊢
  split at ht
  · cases ht
  · rename_i h0
    rw [if_neg h0]
    cases hw : wayS n p i (s - 1) [0 :: a] with
    | none => rw [hw] at ht; cases ht
    | some X =>
      rw [hw] at ht
      obtain ⟨Z, h1, h2⟩ := wayS_swap n p i (s - 1) [0 :: a] [0 :: b] X h hw
      rw [h2]
      simp only at ht ⊢
      rw [← of_decide_eq_true ht, h1]
      refine decide_eq_true ?_
      unfold lastH
      cases Z with
      | nil => exact h.symm
      | cons z Z => simp [List.getLastD_cons]
/-- two unlike leaves of one hash are told -/
theorem collS_swap (n : Nat) (a b : List UInt8) (i s : Nat) (p : List (List UInt8)) (root : List UInt8) (h : leafM n a = leafM n b) (hne : a ≠ b) (ht : leafS n a i s p root = true) : collS n a b i s p p = some (0 :: a, 0 :: b) := by
  unfold leafS at ht
  unfold collS
  rw [if_neg hne]
  split at ht
  · cases ht
  · rename_i h0
    rw [if_neg h0]
    cases hw : wayS n p i (s - 1) [0 :: a] with
    | none => rw [hw] at ht; cases ht
    | some X =>
      obtain ⟨Z, h1, h2⟩ := wayS_swap n p i (s - 1) [0 :: a] [0 :: b] X h hw
      rw [h2]
      subst h1
      have hl : lastH n ([0 :: a] ++ Z) = lastH n ([0 :: b] ++ Z) := by
        unfold lastH
        cases Z with
        | nil => exact h
        | cons z Z => simp [List.getLastD_cons]
      simp only [if_pos hl]
      rw [List.singleton_append, List.singleton_append, collF, if_pos ⟨h, by simpa using hne⟩]
end Go.Proofs.YtcgbokgedfekkaaDoor

/- The walks of deponentbook's Same at digests and of deponentkeep's Sames, on lists that are alike. No condition. -/
namespace Go.Proofs.YtcgbokgedfekkaaDoor
open Go Go.RowKit
attribute [local irreducible] mixW
attribute [local go_sem] n8_lo n8_hi n64_lo n64_hi n32_lo n32_hi
/-- v is a slice of digests that reads ds -/
def DSl (w : World) (v : Value) (ds : List (List UInt8)) : Prop := ∃ A cap, v = .slice A ds.length cap ∧ ∀ k, k < ds.length → ∃ g, A = some ⟨g, 0, none⟩ ∧ g < w.heap.size ∧ w.rangeAt g (k * 32) (dat (ds.getD k [])).toList
theorem range_next {w w' : World} {g off : Nat} {cs : List Value} (h : w.rangeAt g off cs) (hg : g < w.heap.size) (hb : Below w.heap.size w w') : w'.rangeAt g off cs := fun j v hj => by
  have h1 := h j v hj
  rw [hb.cell (p := ⟨g, off + j, none⟩) hg]; exact h1
theorem DSl.next {w w' : World} {v : Value} {ds : List (List UInt8)} (h : DSl w v ds) (hb : Below w.heap.size w w') : DSl w' v ds := by
  obtain ⟨A, cap, e, h⟩ := h
  refine ⟨A, cap, e, fun k hk => ?_⟩
  obtain ⟨g, e2, hg, hr⟩ := h k hk
  exact ⟨g, e2, Nat.lt_of_lt_of_le hg hb.size, range_next hr hg hb⟩
theorem DSl.of_own {w : World} {base : Nat} {v : Value} {ds : List (List UInt8)} (h : w.ownsRow base 35 32 v ds.length (dcells ds)) : DSl w v ds := by
  have hlt := own_lt h
  rcases h.2 with ⟨e, h0⟩ | ⟨b, cap, cur, e, _, hb, hc1, _, hsz, hcur⟩
  · exact ⟨none, 0, by rw [e, h0], fun k hk => by omega⟩
  · refine ⟨_, cap, e, fun k hk => ⟨b, rfl, hlt b (by rw [e]; rfl), fun j v hj => ?_⟩⟩
    have hj32 : j < 32 := by
      have := (List.getElem?_eq_some_iff.1 hj).1
      rw [Array.length_toList, dat_size] at this; exact this
    rw [cell_of_row w b (k * 32 + j) cur _ (0, 0) hb]
    have h1 := dcells_at ds k hk j hj32
    rw [← hcur, List.getElem?_take, if_pos (by omega)] at h1
    rw [← hj]
    simpa using h1
set_option maxHeartbeats 400000 in
set_option maxRecDepth 100000 in
theorem same8_any (u v : Value) (ds : List (List UInt8)) (hall : ∀ d ∈ ds, d.length = 32) (hn : ds.length ≤ 1000000000) (w : World) (hu : DSl w u ds) (hv : DSl w v ds) :
    Calls Tryd.prog 54 #[u, v] w fun e w' => e = .returned (.bool true) ∧ Below w.heap.size w w' := by
  have Hall := Lib.hid hall
  clear hall
  obtain ⟨A1, c1, rfl, h1⟩ := hu
  obtain ⟨A2, c2, rfl, h2⟩ := hv
  have H1 : Hid (DSl w (.slice A1 ds.length c1) ds) := Lib.hid ⟨A1, c1, rfl, h1⟩
  have H2 : Hid (DSl w (.slice A2 ds.length c2) ds) := Lib.hid ⟨A2, c2, rfl, h2⟩
  clear h1 h2
  have hne : ((ds.length : Int) != (ds.length : Int)) = false := by simp
  go_enter Tryd.func54, Tryd.ntmps54
  go_wp2_with fail
  go_loopw [5] (fun iv wr => ∃ k : Nat, k ≤ ds.length ∧ iv = .int .i64 k ∧ Below w.heap.size w wr) (fun iv _ => ds.length - (intOf iv).toNat)
  case atStart => exact ⟨0, by omega, rfl, Below.refl _ _⟩
  case round =>
    obtain ⟨k, hk, rfl, hbel⟩ := hrel
    by_cases hlt : k < ds.length
    case neg =>
      have hlt' : ¬ ((k : Int) < (ds.length : Int)) := by omega
      go_wp2_with fail
      go_ret
      exact ⟨rfl, hbel⟩
    have hlt' : (k : Int) < (ds.length : Int) := by omega
    obtain ⟨A1', c1', e1, hh1⟩ := H1.out.next hbel
    injection e1 with e1 _ e1c
    subst e1c
    obtain ⟨g1, e3, hg1, hr1⟩ := hh1 k hlt
    rw [e3] at e1
    subst e1
    obtain ⟨A2', c2', e2, hh2⟩ := H2.out.next hbel
    injection e2 with e2 _ e2c
    subst e2c
    obtain ⟨g2, e4, hg2, hr2⟩ := hh2 k hlt
    rw [e4] at e2
    subst e2
    clear hh1 hh2 e3 e4
    have hdl : (ds.getD k []).length = 32 := Hall.out _ (by rw [List.getD_eq_getElem?_getD, List.getElem?_eq_getElem hlt]; exact List.getElem_mem _)
    generalize ds.getD k [] = d at hr1 hr2 hdl
    have Hdl := Lib.hid hdl
    clear hdl
    go_wp2_with fail
    refine wp_region_mixP (.plain 0 <| .plain 1 <| .plain 2 <| .plain 3 <| .plain 4 <| .plain 5 <| .plain 6 <| .plain 7 <| .plain 8 <| .done) (by kernel_rfl) (by kernel_rfl) (fun W1 hb1 => ?_)
    replace hr1 := range_next hr1 hg1 hb1
    replace hr2 := range_next hr2 hg2 hb1
    replace hbel := hbel.trans (hb1.mono hbel.size)
    clear hb1
    iterate 9 (refine mix_plain rfl ?_; (first
      | (refine wpQuiet_loadMid rfl 35 (.tmp 19) rfl g1 (k * 32) rfl (dat d) _ (fun _ ⟨e, he⟩ => by rw [he]; exact range_plus hr1 e) Tryd.underlying35 rfl (by rw [dat_size]; kernel_rfl) ?_; simp only [Act.put, List.setIfInBounds_toArray, List.set_cons_zero, List.set_cons_succ])
      | (refine wpQuiet_loadMid rfl 35 (.tmp 23) rfl g2 (k * 32) rfl (dat d) _ (fun _ ⟨e, he⟩ => by rw [he]; exact range_plus hr2 e) Tryd.underlying35 rfl (by rw [dat_size]; kernel_rfl) ?_; simp only [Act.put, List.setIfInBounds_toArray, List.set_cons_zero, List.set_cons_succ])
      | (refine wpQuiet_neD rfl (.tmp 20) (.tmp 24) _ rfl d d rfl rfl Hdl.out Hdl.out true (decide_eq_true rfl) ?_; simp only [Act.put, List.setIfInBounds_toArray, List.set_cons_zero, List.set_cons_succ])
      | go_big_quiet_step (fail)); refine wpQuiet_nil ?_)
    refine mix_done ?_
    clear hr1 hr2
    go_wp2_with fail
    go_roundw
    case rel => exact ⟨k + 1, by omega, by go_num, hbel⟩
    case measure => simp [intOf]; omega
end Go.Proofs.YtcgbokgedfekkaaDoor

/- Slices of digests, wherever they begin. No condition. -/
namespace Go.Proofs.YtcgbokgedfekkaaDoor
open Go Go.RowKit
/-- v is a slice of digests that reads ds -/
def DX (w : World) (v : Value) (ds : List (List UInt8)) : Prop := ∃ A cap, v = .slice A ds.length cap ∧ ds.length ≤ cap ∧ cap ≤ 9223372036854775807 ∧ ∀ k, k < ds.length → ∃ g o, A = some ⟨g, o, none⟩ ∧ g < w.heap.size ∧ w.rangeAt g (o + k * 32) (dat (ds.getD k [])).toList
theorem DX.next {w w' : World} {v : Value} {ds : List (List UInt8)} (h : DX w v ds) (hb : Below w.heap.size w w') : DX w' v ds := by
  obtain ⟨A, cap, e, h1, h2, h⟩ := h
  refine ⟨A, cap, e, h1, h2, fun k hk => ?_⟩
  obtain ⟨g, o, e2, hg, hr⟩ := h k hk
  exact ⟨g, o, e2, Nat.lt_of_lt_of_le hg hb.size, range_next hr hg hb⟩
theorem DX.of_own {w : World} {base : Nat} {v : Value} {ds : List (List UInt8)} (h : w.ownsRow base 35 32 v ds.length (dcells ds)) : DX w v ds := by
  obtain ⟨A, cap, e, h1⟩ := DSl.of_own h
  have hc : ds.length ≤ cap ∧ cap ≤ 9223372036854775807 := by
    rcases h.2 with ⟨e2, h0⟩ | ⟨b, cap2, cur, e2, _, _, hc1, hc2, _⟩
    · rw [e] at e2; injection e2 with _ _ e3; subst e3; omega
    · rw [e] at e2; injection e2 with _ _ e3; subst e3; exact ⟨hc1, hc2⟩
  refine ⟨A, cap, e, hc.1, hc.2, fun k hk => ?_⟩
  obtain ⟨g, e2, hg, hr⟩ := h1 k hk
  exact ⟨g, 0, e2, hg, by rw [Nat.zero_add]; exact hr⟩
theorem DX.nil_ (w : World) : DX w (.slice none 0 0) [] := ⟨none, 0, rfl, Nat.le_refl _, by decide, fun k hk => by simp at hk⟩
theorem DX.take {w : World} {A : Option Addr} {n cap : Nat} {ds : List (List UInt8)} (h : DX w (.slice A n cap) ds) (m : Nat) (hm : m ≤ n) : DX w (.slice A m cap) (ds.take m) := by
  obtain ⟨A', cap', e, h1, h2, h⟩ := h
  injection e with e1 e2 e3
  subst e1; subst e2; subst e3
  have hl : (ds.take m).length = m := by rw [List.length_take]; omega
  refine ⟨A, cap, by rw [hl], by omega, h2, fun k hk => ?_⟩
  obtain ⟨g, o, e2, hg, hr⟩ := h k (by omega)
  refine ⟨g, o, e2, hg, ?_⟩
  rw [List.getD_eq_getElem?_getD, List.getElem?_take_of_lt (by omega), ← List.getD_eq_getElem?_getD]
  exact hr
end Go.Proofs.YtcgbokgedfekkaaDoor
