/- Texts that stand behind one another: VerW. No condition. -/
import Derived.Test.YteonmcconpfkjaaDoorP13
import Derived.Test.YteonmcconpfkjaaDoorP17
/- Ways and their texts, in plain Lean. No condition. -/
namespace Go.Proofs.YteonmcconpfkjaaDoor
open Go Go.RowKit
attribute [local irreducible] mixW
attribute [local go_sem] n8_lo n8_hi n64_lo n64_hi n32_lo n32_hi
theorem Stp.all {w : World} {base n : Nat} {v : Value} {l : List (Value × List UInt8)} (h : Stp w base v n l) (h1 : 1 ≤ l.length) : ∃ g c, v = .slice (some ⟨g, 0, none⟩) (l.map Prod.snd).length c ∧ g < w.heap.size ∧
    ∀ k, k < (l.map Prod.snd).length → ∃ u, w.cell? ⟨g, k * 33, none⟩ = some u ∧ BSl w w.heap.size u ((l.map Prod.snd).getD k []) ∧ w.rangeAt g (k * 33 + 1) (dat (sumM n ((l.map Prod.snd).getD k []))).toList := by
  obtain ⟨g, c, e, hg, _, _, _⟩ := h.hash 0 h1
  refine ⟨g, c, by rw [e, List.length_map], hg, fun k hk => ?_⟩
  rw [List.length_map] at hk
  obtain ⟨g2, c2, e2, _, _, h3, h4⟩ := h.hash k hk
  rw [e] at e2
  injection e2 with e2 _ _
  injection e2 with e2
  injection e2 with e2 _
  subst e2
  have e3 : (l.map Prod.snd).getD k [] = l[k].2 := by rw [List.getD_eq_getElem?_getD, List.getElem?_map, List.getElem?_eq_getElem hk]; rfl
  rw [e3]
  exact ⟨_, h3, h.text k hk, h4⟩
theorem collS_way (n : Nat) (a b : List UInt8) (i s : Nat) (p q : List (List UInt8)) : collS n a b i s p q = if a = b then none else
    match wayO n a i s p, wayO n b i s q with
    | some X, some Y => if lastH n X = lastH n Y then collF n X Y else none
    | _, _ => none := by
  unfold collS wayO
  split
  · rfl
  · split <;> rfl
theorem wayO_alike (n : Nat) (a b : List UInt8) (i s : Nat) (p q X Y : List (List UInt8)) (h1 : wayO n a i s p = some X) (h2 : wayO n b i s q = some Y) : X.length = Y.length := by
  unfold wayO at h1 h2
  split at h1
  · cases h1
  · rename_i h0
    rw [if_neg h0] at h2
    rw [(wayS_len n (s - 1) p i (s - 1) _ X (Nat.le_refl _) h1).1, (wayS_len n (s - 1) q i (s - 1) _ Y (Nat.le_refl _) h2).1]; rfl
theorem lastH_at (n : Nat) (X : List (List UInt8)) (k : Nat) (hk : k + 1 = X.length) : sumM n (X.getD k []) = lastH n X := by
  unfold lastH
  rw [List.getLastD_eq_getLast?, List.getLast?_eq_getElem?, ← hk, Nat.add_sub_cancel, List.getD_eq_getElem?_getD]
theorem SSl.lt {w : World} {A : Option Addr} {n cap : Nat} {ls : List (List UInt8)} (h : SSl w w.heap.size (.slice A n cap) ls) : n = ls.length := h.lens.1
theorem wayS_texts (n : Nat) (hn : n ≤ 32) (B : Nat) (hB : 65 ≤ B) : ∀ (ps : List (List UInt8)) (fn sn : Nat) (T X : List (List UInt8)), (∀ t ∈ T, t.length ≤ B) → wayS n ps fn sn T = some X → ∀ t ∈ X, t.length ≤ B := by
  intro ps
  induction ps with
  | nil =>
    intro fn sn T X hT hx
    rw [wayS_nil] at hx
    split at hx
    · injection hx with hx; subst hx; exact hT
    · cases hx
  | cons p ps ih =>
    intro fn sn T X hT hx
    rw [wayS] at hx
    split at hx
    · cases hx
    · have hnode : ∀ (a b : List UInt8), ∀ t ∈ T ++ [nodeT n a b], t.length ≤ B := fun a b t ht => by
        rcases List.mem_append.1 ht with h | h
        · exact hT t h
        · rw [List.mem_singleton.1 h]; exact Nat.le_trans (nodeT_len n a b hn) hB
      split at hx
      · exact ih _ _ _ _ (hnode _ _) hx
      · exact ih _ _ _ _ (hnode _ _) hx
theorem wayO_texts (n : Nat) (a : List UInt8) (i s : Nat) (ps X : List (List UInt8)) (hn : n ≤ 32) (hal : a.length ≤ 140737488351232) (h : wayO n a i s ps = some X) : ∀ t ∈ X, t.length ≤ 140737488351233 := by
  unfold wayO at h
  split at h
  · cases h
  · exact wayS_texts n hn _ (by decide) ps i (s - 1) [0 :: a] X (fun t ht => by rw [List.mem_singleton.1 ht]; simp only [List.length_cons]; omega) h
end Go.Proofs.YteonmcconpfkjaaDoor
