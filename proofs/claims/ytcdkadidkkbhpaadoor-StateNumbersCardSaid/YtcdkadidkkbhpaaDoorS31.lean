/- Texts that stand behind one another: Same8, DX, VerD, VerE. No condition. -/
import Derived.Test.YtcdkadidkkbhpaaDoorS14
import Derived.Test.YtcdkadidkkbhpaaDoorS13
import Derived.Test.YtcdkadidkkbhpaaDoorS12
import Derived.Test.YtcdkadidkkbhpaaDoorS15
import Derived.Test.YtcdkadidkkbhpaaDoorS5
import Derived.Test.YtcdkadidkkbhpaaDoorS25
import Derived.Test.YtcdkadidkkbhpaaDoorS30
import Derived.Deep.LoopGhost
/- The walks of deponentbook's Same at digests and of deponentkeep's Sames, on lists that are alike. No condition. -/
namespace Go.Proofs.YtcdkadidkkbhpaaDoor
open Go Go.RowKit
attribute [local irreducible] mixW
attribute [local go_sem] n8_lo n8_hi n64_lo n64_hi n32_lo n32_hi
/-- v is a slice of digests that reads ds -/
def DSl (w : World) (v : Value) (ds : List (List UInt8)) : Prop := ∃ A cap, v = .slice A ds.length cap ∧ ∀ k, k < ds.length → ∃ g, A = some ⟨g, 0, none⟩ ∧ g < w.heap.size ∧ w.rangeAt g (k * 32) (dat (ds.getD k [])).toList
theorem range_next {w w' : World} {g off : Nat} {cs : List Value} (h : w.rangeAt g off cs) (hg : g < w.heap.size) (hb : Below w.heap.size w w') : w'.rangeAt g off cs := fun j v hj => by
  have h1 := h j v hj
  rw [hb.cell (p := ⟨g, off + j, none⟩) hg]; exact h1
theorem DSl.next {w w' : World} {v : Value} {ds : List (List UInt8)} (h : DSl w v ds) (hb : Below w.heap.size w w') : DSl w' v ds := by
  obtain ⟨A, cap, e, h⟩ := h
  refine ⟨A, cap, e, fun k hk => ?_⟩
  obtain ⟨g, e2, hg, hr⟩ := h k hk
  exact ⟨g, e2, Nat.lt_of_lt_of_le hg hb.size, range_next hr hg hb⟩
theorem DSl.of_own {w : World} {base : Nat} {v : Value} {ds : List (List UInt8)} (h : w.ownsRow base 38 32 v ds.length (dcells ds)) : DSl w v ds := by
  have hlt := own_lt h
  rcases h.2 with ⟨e, h0⟩ | ⟨b, cap, cur, e, _, hb, hc1, _, hsz, hcur⟩
  · exact ⟨none, 0, by rw [e, h0], fun k hk => by omega⟩
  · refine ⟨_, cap, e, fun k hk => ⟨b, rfl, hlt b (by rw [e]; rfl), fun j v hj => ?_⟩⟩
    have hj32 : j < 32 := by
      have := (List.getElem?_eq_some_iff.1 hj).1
      rw [Array.length_toList, dat_size] at this; exact this
    rw [cell_of_row w b (k * 32 + j) cur _ (0, 0) hb]
    have h1 := dcells_at ds k hk j hj32
    rw [← hcur, List.getElem?_take, if_pos (by omega)] at h1
    rw [← hj]
    simpa using h1
end Go.Proofs.YtcdkadidkkbhpaaDoor

/- Slices of digests, wherever they begin. No condition. -/
namespace Go.Proofs.YtcdkadidkkbhpaaDoor
open Go Go.RowKit
/-- v is a slice of digests that reads ds -/
def DX (w : World) (v : Value) (ds : List (List UInt8)) : Prop := ∃ A cap, v = .slice A ds.length cap ∧ ds.length ≤ cap ∧ cap ≤ 9223372036854775807 ∧ ∀ k, k < ds.length → ∃ g o, A = some ⟨g, o, none⟩ ∧ g < w.heap.size ∧ w.rangeAt g (o + k * 32) (dat (ds.getD k [])).toList
theorem DX.next {w w' : World} {v : Value} {ds : List (List UInt8)} (h : DX w v ds) (hb : Below w.heap.size w w') : DX w' v ds := by
  obtain ⟨A, cap, e, h1, h2, h⟩ := h
  refine ⟨A, cap, e, h1, h2, fun k hk => ?_⟩
  obtain ⟨g, o, e2, hg, hr⟩ := h k hk
  exact ⟨g, o, e2, Nat.lt_of_lt_of_le hg hb.size, range_next hr hg hb⟩
theorem DX.of_own {w : World} {base : Nat} {v : Value} {ds : List (List UInt8)} (h : w.ownsRow base 38 32 v ds.length (dcells ds)) : DX w v ds := by
  obtain ⟨A, cap, e, h1⟩ := DSl.of_own h
  have hc : ds.length ≤ cap ∧ cap ≤ 9223372036854775807 := by
    rcases h.2 with ⟨e2, h0⟩ | ⟨b, cap2, cur, e2, _, _, hc1, hc2, _⟩
    · rw [e] at e2; injection e2 with _ _ e3; subst e3; omega
    · rw [e] at e2; injection e2 with _ _ e3; subst e3; exact ⟨hc1, hc2⟩
  refine ⟨A, cap, e, hc.1, hc.2, fun k hk => ?_⟩
  obtain ⟨g, e2, hg, hr⟩ := h1 k hk
  exact ⟨g, 0, e2, hg, by rw [Nat.zero_add]; exact hr⟩
theorem DX.nil_ (w : World) : DX w (.slice none 0 0) [] := ⟨none, 0, rfl, Nat.le_refl _, by decide, fun k hk => by simp at hk⟩
theorem DX.take {w : World} {A : Option Addr} {n cap : Nat} {ds : List (List UInt8)} (h : DX w (.slice A n cap) ds) (m : Nat) (hm : m ≤ n) : DX w (.slice A m cap) (ds.take m) := by
  obtain ⟨A', cap', e, h1, h2, h⟩ := h
  injection e with e1 e2 e3
  subst e1; subst e2; subst e3
  have hl : (ds.take m).length = m := by rw [List.length_take]; omega
  refine ⟨A, cap, by rw [hl], by omega, h2, fun k hk => ?_⟩
  obtain ⟨g, o, e2, hg, hr⟩ := h k (by omega)
  refine ⟨g, o, e2, hg, ?_⟩
  rw [List.getD_eq_getElem?_getD, List.getElem?_take_of_lt (by omega), ← List.getD_eq_getElem?_getD]
  exact hr
end Go.Proofs.YtcdkadidkkbhpaaDoor

/- The walk of verify's way. No condition. -/
namespace Go.Proofs.YtcdkadidkkbhpaaDoor
open Go Go.RowKit
attribute [local irreducible] mixW
attribute [local go_sem] n8_lo n8_hi n64_lo n64_hi n32_lo n32_hi
/-- the ways of a place -/
def wayO (n : Nat) (b : List UInt8) (i s : Nat) (ps : List (List UInt8)) : Option (List (List UInt8)) := if s ≤ i then none else wayS n ps i (s - 1) [0 :: b]
theorem cut_take (d : List UInt8) (n : Nat) (hn : n ≤ d.length) : (cutL d (n : Int)).take n = d.take n := by
  unfold cutL
  rw [Int.toNat_natCast, List.take_append_of_le_length (by rw [List.length_take]; omega), List.take_take, Nat.min_self]
theorem nodeT_cutR (n : Nat) (a d : List UInt8) (hn : n ≤ d.length) : nodeT n a (cutL d (n : Int)) = nodeT n a d := by unfold nodeT; rw [cut_take d n hn]
theorem nodeT_cutL (n : Nat) (a d : List UInt8) (hn : n ≤ d.length) : nodeT n (cutL d (n : Int)) a = nodeT n d a := by unfold nodeT; rw [cut_take d n hn]
end Go.Proofs.YtcdkadidkkbhpaaDoor

/- The walk of verify's Leaf. No condition. -/
namespace Go.Proofs.YtcdkadidkkbhpaaDoor
open Go Go.RowKit
attribute [local irreducible] mixW
attribute [local go_sem] n8_lo n8_hi n64_lo n64_hi n32_lo n32_hi
theorem wayO_leaf (n : Nat) (b : List UInt8) (i s : Nat) (ps : List (List UInt8)) (root : List UInt8) : leafS n b i s ps root = match wayO n b i s ps with
    | some T => decide (lastH n T = cutL root n)
    | none => false := by
  unfold leafS wayO
  split <;> rfl
theorem wayO_len (n : Nat) (b : List UInt8) (i s : Nat) (ps X : List (List UInt8)) (h : wayO n b i s ps = some X) : 1 ≤ X.length ∧ X.length = ps.length + 1 := by
  unfold wayO at h
  split at h
  · cases h
  · have h1 := wayS_ne n ps i (s - 1) _ X h
    have h2 := wayS_len n (s - 1) ps i (s - 1) _ X (Nat.le_refl _) h
    exact ⟨h1, by rw [h2.1, h2.2]; simp; omega⟩
theorem last_text (n : Nat) (l : List (Value × List UInt8)) (k : Nat) (hk : k + 1 = l.length) (hk1 : k < l.length) : sumM n l[k].2 = lastH n (l.map Prod.snd) := by
  unfold lastH
  rw [List.getLastD_eq_getLast?, List.getLast?_eq_getElem?, List.length_map, ← hk, Nat.add_sub_cancel, List.getElem?_map, List.getElem?_eq_getElem hk1]
  rfl
end Go.Proofs.YtcdkadidkkbhpaaDoor
