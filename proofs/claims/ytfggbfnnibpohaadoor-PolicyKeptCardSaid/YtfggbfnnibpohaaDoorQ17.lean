/- Texts that stand behind one another: BookIS. No condition. -/
import Derived.Test.YtfggbfnnibpohaaDoorQ16
/- The walk of deponentbook's Book: Stays. No condition. -/
namespace Go.Proofs.YtfggbfnnibpohaaDoor
open Go Go.RowKit
attribute [local irreducible] mixW
attribute [local go_sem] n8_lo n8_hi
theorem ents_atI {w : World} {B C : Nat} {vs us : List Value} {dss : List (List (Int))} (hE : EntsI w B C vs us dss) (i : Nat) (hi : i < vs.length) : ∃ v u ds, vs[i]? = some v ∧ us[i]? = some u ∧ dss[i]? = some ds := by
  have h1 := hE.1
  have h2 := hE.2.1
  exact ⟨_, _, _, List.getElem?_eq_getElem hi, List.getElem?_eq_getElem (by omega), List.getElem?_eq_getElem (by omega)⟩
set_option maxHeartbeats 2000000 in
set_option maxRecDepth 100000 in
theorem staysI_any (w : World) (B C N bk : Nat) (AL AW : Option Addr) (n cL cW : Nat) (h : Int) (vs us : List Value) (dss : List (List (Int))) (hn : vs.length = n) (hN : N ≤ 1000000) (hK : BkI w B C N bk (.slice AL n cL) (.slice AW n cW) h vs us dss) :
    Calls Tryd.prog 102 #[.pointer (some ⟨bk, 0, none⟩)] w fun e w' => e = .returned (.bool true) ∧ Below w.heap.size w w' := by
  have HN := Lib.hid hn
  have Hk := Lib.hid hK
  have hn6 : n ≤ 1000000 := by have := hK.2.2.1; omega
  clear hn hK
  go_enter Tryd.func102, Tryd.ntmps102
  go_wp2_with fail
  go_loopw [3] (fun iv wr => ∃ i : Nat, i ≤ n ∧ iv = .int .i64 i ∧ Below w.heap.size w wr) (fun iv _ => n - (intOf iv).toNat)
  case atStart => exact ⟨0, Nat.zero_le _, rfl, Below.refl _ _⟩
  case round =>
    obtain ⟨i, hi, rfl, hb⟩ := hrel
    have hk0 : wr.cell? ⟨bk, 0, none⟩ = some (.slice AL n cL) := (Hk.out.1.below hb Hk.out.1.lt).cell 0
    by_cases hlt : i < n
    · obtain ⟨x, ux, dx, hx1, hx2, hx3⟩ := ents_atI Hk.out.2.2.2.2.2.2 i (by rw [HN.out]; exact hlt)
      have hent := Hk.out.2.2.2.2.2.2.2.2.1 i x ux dx hx1 hx2 hx3
      obtain ⟨Ax, cx, ex⟩ := own_slice hent.1
      obtain ⟨Au2, cu2, eu2⟩ := own_slice hent.2.2.1
      obtain ⟨gL, oL, eA1, hgL1, hgL2, hcL⟩ := Hk.out.2.2.2.1.cell i x hx1
      obtain ⟨gW, oW, eA2, hgW1, hgW2, hcW⟩ := Hk.out.2.2.2.2.1.cell i ux hx2
      have hcL := hcL i x hx1
      have hcW := hcW i ux hx2
      subst ex; subst eu2; subst eA1; subst eA2
      have Hx := Lib.hid hent
      have Hb := Lib.hid hb
      have hi0 : (i : Int) < (n : Int) := by omega
      clear hent hb hx1 hx2 hx3
      go_upto_region 4 with fail
      refine wp_region_mixP (.plain 0 <| .plain 1 <| .plain 2 <| .plain 3 <| .plain 4 <| .plain 5 <| .plain 6 <| .plain 7 <| .plain 8 <| .plain 9 <| .plain 10 <| .plain 11 <| .plain 12 <| .plain 13 <| .plain 14 <| .plain 15 <| .plain 16 <| .plain 17 <| .plain 18 <| .plain 19 <| .only 20 <| .plain 21 <| .plain 22 <| .plain 23 <| .plain 24 <| .only 25 <| .done) (by kernel_rfl) (by kernel_rfl) (fun W1 hb1 => ?_)
      have hw1 := Hb.out.trans (hb1.mono Hb.out.size)
      have hbk1 := Hk.out.1.below hw1 Hk.out.1.lt
      have d0 : ∀ z, (plus W1 z).cell? ⟨bk, 0, none⟩ = some (.slice (some ⟨gL, oL, none⟩) n cL) := fun z => (hbk1.plus z).cell 0
      have d1 : ∀ z, (plus W1 z).cell? ⟨bk, 1, none⟩ = some (.slice (some ⟨gW, oW, none⟩) n cW) := fun z => (hbk1.plus z).cell 1
      have d3 : ∀ z, (plus W1 z).cell? ⟨bk, 3, none⟩ = some (.bool false) := fun z => (hbk1.plus z).cell 3
      have hcL1 := (hw1.cell (p := ⟨gL, oL + i, none⟩) hgL2).trans hcL
      have hcW1 := (hw1.cell (p := ⟨gW, oW + i, none⟩) hgW2).trans hcW
      have hgL3 := Nat.lt_of_lt_of_le hgL2 hw1.size
      have hgW3 := Nat.lt_of_lt_of_le hgW2 hw1.size
      have d4 : ∀ z, (plus W1 z).cell? ⟨gL, oL + i, none⟩ = some (.slice Ax dx.length cx) := fun z => by rw [plus_cell _ _ _ hgL3]; exact hcL1
      have d5 : ∀ z, (plus W1 z).cell? ⟨gW, oW + i, none⟩ = some (.slice Au2 dx.length cu2) := fun z => by rw [plus_cell _ _ _ hgW3]; exact hcW1
      have HW1 := Lib.hid hw1
      iterate 20 (refine mix_plain rfl ?_; go_big_quiet_step (fail); refine wpQuiet_nil ?_)
      clear d0 d1 d3 d4 d5 hcL1 hcW1 hgL3 hgW3 hw1
      refine mix_only_in rfl (fun K hK => ?_)
      refine wpList_unguard rfl ?_
      go_wp2_with fail
      refine ((sameI_any (.slice Ax dx.length cx) (.slice Au2 dx.length cu2) _ _ W1 (ISl.of_own (own_below Hx.out.1 (Hb.out.trans (hb1.mono Hb.out.size)))) (ISl.of_own (own_below Hx.out.2.2.1 (Hb.out.trans (hb1.mono Hb.out.size)))))).mono ?_
      rintro q W2 ⟨rfl, hbx⟩
      rw [decide_eq_true rfl]
      go_wp2_with fail
      refine hK _ _ (below_plus hbx) ?_
      clear hK K
      iterate 4 (refine mix_plain rfl ?_; go_big_quiet_step (fail); refine wpQuiet_nil ?_)
      have hbk2 := hbk1.below hbx hbk1.lt
      refine mix_only_in rfl (fun K hK => ?_)
      refine wpList_store1 rfl rfl _ (.tmp 37) (.tmp 35) rfl bk 3 rfl _ rfl 98 _ hbk2 (by kernel_rfl) (show 3 < 4 by decide) rfl rfl ?_
      intro W3 hbk3 hg3
      have hbk3 : Blk W3 bk 98 #[.slice (some ⟨gL, oL, none⟩) n cL, .slice (some ⟨gW, oW, none⟩) n cW, .int .i64 h, .bool false] := hbk3
      have hbs := below_same hg3 hbk2 hbk3
      refine hK _ _ (below_plus (hbx.trans (hbs.mono hbx.size))) ?_
      clear hK K
      refine mix_done ?_
      have hb3 := HW1.out.trans ((hbx.trans (hbs.mono hbx.size)).mono HW1.out.size)
      clear hbx hbs hg3 hbk2 hbk1 hbk3 hb1
      go_wp2_with fail
      go_roundw
      case rel => exact ⟨i + 1, by omega, by go_num, hb3⟩
      case measure => simp [intOf]; omega
    · have hge : (n : Int) ≤ (i : Int) := by omega
      have Hb := Lib.hid hb
      have hk3 : wr.cell? ⟨bk, 3, none⟩ = some (.bool false) := (Hk.out.1.below hb Hk.out.1.lt).cell 3
      clear hlt hb
      go_wp2_with fail
      go_ret
      exact ⟨rfl, Hb.out⟩
end Go.Proofs.YtfggbfnnibpohaaDoor
