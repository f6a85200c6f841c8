/- Texts that stand behind one another: Same8, DX. No condition. -/
import Derived.Test.YteonmcconpfkjaaDoorP6
import Derived.Test.YteonmcconpfkjaaDoorP5
import Derived.Test.YteonmcconpfkjaaDoorP10
import Derived.Test.YteonmcconpfkjaaDoorP9
/- The walks of deponentbook's Same at digests and of deponentkeep's Sames, on lists that are alike. No condition. -/
namespace Go.Proofs.YteonmcconpfkjaaDoor
open Go Go.RowKit
attribute [local irreducible] mixW
attribute [local go_sem] n8_lo n8_hi n64_lo n64_hi n32_lo n32_hi
/-- v is a slice of digests that reads ds -/
def DSl (w : World) (v : Value) (ds : List (List UInt8)) : Prop := ∃ A cap, v = .slice A ds.length cap ∧ ∀ k, k < ds.length → ∃ g, A = some ⟨g, 0, none⟩ ∧ g < w.heap.size ∧ w.rangeAt g (k * 32) (dat (ds.getD k [])).toList
theorem range_next {w w' : World} {g off : Nat} {cs : List Value} (h : w.rangeAt g off cs) (hg : g < w.heap.size) (hb : Below w.heap.size w w') : w'.rangeAt g off cs := fun j v hj => by
  have h1 := h j v hj
  rw [hb.cell (p := ⟨g, off + j, none⟩) hg]; exact h1
theorem DSl.next {w w' : World} {v : Value} {ds : List (List UInt8)} (h : DSl w v ds) (hb : Below w.heap.size w w') : DSl w' v ds := by
  obtain ⟨A, cap, e, h⟩ := h
  refine ⟨A, cap, e, fun k hk => ?_⟩
  obtain ⟨g, e2, hg, hr⟩ := h k hk
  exact ⟨g, e2, Nat.lt_of_lt_of_le hg hb.size, range_next hr hg hb⟩
theorem DSl.of_own {w : World} {base : Nat} {v : Value} {ds : List (List UInt8)} (h : w.ownsRow base 43 32 v ds.length (dcells ds)) : DSl w v ds := by
  have hlt := own_lt h
  rcases h.2 with ⟨e, h0⟩ | ⟨b, cap, cur, e, _, hb, hc1, _, hsz, hcur⟩
  · exact ⟨none, 0, by rw [e, h0], fun k hk => by omega⟩
  · refine ⟨_, cap, e, fun k hk => ⟨b, rfl, hlt b (by rw [e]; rfl), fun j v hj => ?_⟩⟩
    have hj32 : j < 32 := by
      have := (List.getElem?_eq_some_iff.1 hj).1
      rw [Array.length_toList, dat_size] at this; exact this
    rw [cell_of_row w b (k * 32 + j) cur _ (0, 0) hb]
    have h1 := dcells_at ds k hk j hj32
    rw [← hcur, List.getElem?_take, if_pos (by omega)] at h1
    rw [← hj]
    simpa using h1
set_option maxHeartbeats 400000 in
set_option maxRecDepth 100000 in
theorem same8_any (u v : Value) (ds : List (List UInt8)) (hall : ∀ d ∈ ds, d.length = 32) (hn : ds.length ≤ 1000000000) (w : World) (hu : DSl w u ds) (hv : DSl w v ds) :
    Calls Tryd.prog 105 #[u, v] w fun e w' => e = .returned (.bool true) ∧ Below w.heap.size w w' := by
  have Hall := Lib.hid hall
  clear hall
  obtain ⟨A1, c1, rfl, h1⟩ := hu
  obtain ⟨A2, c2, rfl, h2⟩ := hv
  have H1 : Hid (DSl w (.slice A1 ds.length c1) ds) := Lib.hid ⟨A1, c1, rfl, h1⟩
  have H2 : Hid (DSl w (.slice A2 ds.length c2) ds) := Lib.hid ⟨A2, c2, rfl, h2⟩
  clear h1 h2
  have hne : ((ds.length : Int) != (ds.length : Int)) = false := by simp
  go_enter Tryd.func105, Tryd.ntmps105
  go_wp2_with fail
  go_loopw [5] (fun iv wr => ∃ k : Nat, k ≤ ds.length ∧ iv = .int .i64 k ∧ Below w.heap.size w wr) (fun iv _ => ds.length - (intOf iv).toNat)
  case atStart => exact ⟨0, by omega, rfl, Below.refl _ _⟩
  case round =>
    obtain ⟨k, hk, rfl, hbel⟩ := hrel
    by_cases hlt : k < ds.length
    case neg =>
      have hlt' : ¬ ((k : Int) < (ds.length : Int)) := by omega
      go_wp2_with fail
      go_ret
      exact ⟨rfl, hbel⟩
    have hlt' : (k : Int) < (ds.length : Int) := by omega
    obtain ⟨A1', c1', e1, hh1⟩ := H1.out.next hbel
    injection e1 with e1 _ e1c
    subst e1c
    obtain ⟨g1, e3, hg1, hr1⟩ := hh1 k hlt
    rw [e3] at e1
    subst e1
    obtain ⟨A2', c2', e2, hh2⟩ := H2.out.next hbel
    injection e2 with e2 _ e2c
    subst e2c
    obtain ⟨g2, e4, hg2, hr2⟩ := hh2 k hlt
    rw [e4] at e2
    subst e2
    clear hh1 hh2 e3 e4
    have hdl : (ds.getD k []).length = 32 := Hall.out _ (by rw [List.getD_eq_getElem?_getD, List.getElem?_eq_getElem hlt]; exact List.getElem_mem _)
    generalize ds.getD k [] = d at hr1 hr2 hdl
    have Hdl := Lib.hid hdl
    clear hdl
    go_wp2_with fail
    refine wp_region_mixP (.plain 0 <| .plain 1 <| .plain 2 <| .plain 3 <| .plain 4 <| .plain 5 <| .plain 6 <| .plain 7 <| .plain 8 <| .done) (by kernel_rfl) (by kernel_rfl) (fun W1 hb1 => ?_)
    replace hr1 := range_next hr1 hg1 hb1
    replace hr2 := range_next hr2 hg2 hb1
    replace hbel := hbel.trans (hb1.mono hbel.size)
    clear hb1
    iterate 9 (refine mix_plain rfl ?_; (first
      | (refine wpQuiet_loadMid rfl 43 (.tmp 19) rfl g1 (k * 32) rfl (dat d) _ (fun _ ⟨e, he⟩ => by rw [he]; exact range_plus hr1 e) Tryd.underlying43 rfl (by rw [dat_size]; kernel_rfl) ?_; simp only [Act.put, List.setIfInBounds_toArray, List.set_cons_zero, List.set_cons_succ])
      | (refine wpQuiet_loadMid rfl 43 (.tmp 23) rfl g2 (k * 32) rfl (dat d) _ (fun _ ⟨e, he⟩ => by rw [he]; exact range_plus hr2 e) Tryd.underlying43 rfl (by rw [dat_size]; kernel_rfl) ?_; simp only [Act.put, List.setIfInBounds_toArray, List.set_cons_zero, List.set_cons_succ])
      | (refine wpQuiet_neD rfl (.tmp 20) (.tmp 24) _ rfl d d rfl rfl Hdl.out Hdl.out true (decide_eq_true rfl) ?_; simp only [Act.put, List.setIfInBounds_toArray, List.set_cons_zero, List.set_cons_succ])
      | go_big_quiet_step (fail)); refine wpQuiet_nil ?_)
    refine mix_done ?_
    clear hr1 hr2
    go_wp2_with fail
    go_roundw
    case rel => exact ⟨k + 1, by omega, by go_num, hbel⟩
    case measure => simp [intOf]; omega
end Go.Proofs.YteonmcconpfkjaaDoor

/- Slices of digests, wherever they begin. No condition. -/
namespace Go.Proofs.YteonmcconpfkjaaDoor
open Go Go.RowKit
/-- v is a slice of digests that reads ds -/
def DX (w : World) (v : Value) (ds : List (List UInt8)) : Prop := ∃ A cap, v = .slice A ds.length cap ∧ ds.length ≤ cap ∧ cap ≤ 9223372036854775807 ∧ ∀ k, k < ds.length → ∃ g o, A = some ⟨g, o, none⟩ ∧ g < w.heap.size ∧ w.rangeAt g (o + k * 32) (dat (ds.getD k [])).toList
theorem DX.next {w w' : World} {v : Value} {ds : List (List UInt8)} (h : DX w v ds) (hb : Below w.heap.size w w') : DX w' v ds := by
  obtain ⟨A, cap, e, h1, h2, h⟩ := h
  refine ⟨A, cap, e, h1, h2, fun k hk => ?_⟩
  obtain ⟨g, o, e2, hg, hr⟩ := h k hk
  exact ⟨g, o, e2, Nat.lt_of_lt_of_le hg hb.size, range_next hr hg hb⟩
theorem DX.of_own {w : World} {base : Nat} {v : Value} {ds : List (List UInt8)} (h : w.ownsRow base 43 32 v ds.length (dcells ds)) : DX w v ds := by
  obtain ⟨A, cap, e, h1⟩ := DSl.of_own h
  have hc : ds.length ≤ cap ∧ cap ≤ 9223372036854775807 := by
    rcases h.2 with ⟨e2, h0⟩ | ⟨b, cap2, cur, e2, _, _, hc1, hc2, _⟩
    · rw [e] at e2; injection e2 with _ _ e3; subst e3; omega
    · rw [e] at e2; injection e2 with _ _ e3; subst e3; exact ⟨hc1, hc2⟩
  refine ⟨A, cap, e, hc.1, hc.2, fun k hk => ?_⟩
  obtain ⟨g, e2, hg, hr⟩ := h1 k hk
  exact ⟨g, 0, e2, hg, by rw [Nat.zero_add]; exact hr⟩
theorem DX.nil_ (w : World) : DX w (.slice none 0 0) [] := ⟨none, 0, rfl, Nat.le_refl _, by decide, fun k hk => by simp at hk⟩
theorem DX.take {w : World} {A : Option Addr} {n cap : Nat} {ds : List (List UInt8)} (h : DX w (.slice A n cap) ds) (m : Nat) (hm : m ≤ n) : DX w (.slice A m cap) (ds.take m) := by
  obtain ⟨A', cap', e, h1, h2, h⟩ := h
  injection e with e1 e2 e3
  subst e1; subst e2; subst e3
  have hl : (ds.take m).length = m := by rw [List.length_take]; omega
  refine ⟨A, cap, by rw [hl], by omega, h2, fun k hk => ?_⟩
  obtain ⟨g, o, e2, hg, hr⟩ := h k (by omega)
  refine ⟨g, o, e2, hg, ?_⟩
  rw [List.getD_eq_getElem?_getD, List.getElem?_take_of_lt (by omega), ← List.getD_eq_getElem?_getD]
  exact hr
end Go.Proofs.YteonmcconpfkjaaDoor
