/- The walk of the law VerifyTakes. No condition. -/
import Derived.Test.YtppglfgggfkcmaaDoorP18
import Derived.Test.YtppglfgggfkcmaaDoorP19
namespace Go.Proofs.YtppglfgggfkcmaaDoor
open Go Go.RowKit
attribute [local irreducible] mixW
attribute [local go_sem] n8_lo n8_hi n64_lo n64_hi n32_lo n32_hi
set_option maxHeartbeats 3000000 in
set_option maxRecDepth 100000 in
theorem verifyTakes_walk (w : World) (hG : Glob w) (x0 : Int) (hx0 : -9223372036854775808 ≤ x0 ∧ x0 ≤ 9223372036854775807) (v0 : Value) (ls : List (List UInt8)) (hv : SSl w w.heap.size v0 ls) (ix fr : UInt64) :
    Calls Tryd.prog 9 #[.int .i64 x0, v0, .int .u64 (n64 ix), .int .u64 (n64 fr)] w fun e w' => e = .returned (.bool true) ∧ Below w.heap.size w w' := by
  have hix := ix.toNat_lt
  have hfr := fr.toNat_lt
  have e1 : n64 ix = (ix.toNat : Int) := rfl
  have e2 : n64 fr = (fr.toNat : Int) := rfl
  rw [e1, e2]
  generalize ix.toNat = I at hix ⊢
  generalize fr.toNat = J at hfr ⊢
  clear e1 e2
  have hI64 : I ≤ 18446744073709551615 := by omega
  have hJ64 : J ≤ 18446744073709551615 := by omega
  clear hix hfr
  go_enter Tryd.func9, Tryd.ntmps9
  go_wp2_with fail
  refine (few_any _ ls 40 100 (by decide) (by decide) w hv).mono ?_
  rintro e w1 ⟨u1, rfl, ⟨vs1, hO⟩, hbel⟩
  have hL40 : (fewL ls 40 100).length ≤ 40 := by rw [fewL_length]; omega
  have hL300 : ∀ c ∈ fewL ls 40 100, c.length ≤ 100 := fun c hc => fewL_mem hc
  generalize fewL ls 40 100 = L at hO hL40 hL300
  have HL := Lib.hid hL300
  have hv1 := hO.ssl
  clear hL300 hv hO
  obtain ⟨A0, cap0, vs0, rfl, h2, h3, h4, h5, h6⟩ := hv1
  have hv : SSl w1 w1.heap.size (.slice A0 L.length cap0) L := ⟨A0, cap0, vs0, rfl, h2, h3, h4, h5, h6⟩
  clear h3 h4 h5 h6 vs0
  go_wp2_with fail
  refine (prove_totX x0 _ L I hI64 w1 hv (by omega) (fun c hc => by have := HL.out c hc; omega) (hG.next hbel)).mono ?_
  rintro e w5 ⟨u5, rfl, hx5, hb1⟩
  replace hv := hv.next hb1
  replace hbel := hbel.trans (hb1.mono hbel.size)
  clear hb1
  go_wp2_with fail
  refine (compare_totX x0 _ L J hJ64 w5 hv (by omega) (fun c hc => by have := HL.out c hc; omega) (hG.next hbel)).mono ?_
  rintro e w6 ⟨u6, rfl, hx6, hb1⟩
  replace hv := hv.next hb1
  replace hx5 := hx5.next hb1
  replace hbel := hbel.trans (hb1.mono hbel.size)
  clear hb1
  have HX := Lib.hid (And.intro hx5 hx6)
  clear hx5 hx6
  obtain ⟨ef, hef⟩ : ∃ ef, subE L J = ef := ⟨_, rfl⟩
  rw [hef]
  have Hef := Lib.hid hef
  clear hef
  by_cases hlt : I < L.length
  · have hlt' : (I : Int) < (L.length : Int) := by omega
    have hpe : pathE L I = 0 := if_pos hlt
    rw [hpe]
    clear hpe
    have HR := Lib.hid (leafS_path (cutW x0) L I hlt)
    go_wp2_with fail
    refine wp_region_mixP (.plain 0 <| .plain 1 <| .plain 2 <| .plain 3 <| .plain 4 <| .plain 5 <| .plain 6 <| .plain 7 <| .plain 8 <| .plain 9 <| .plain 10 <| .plain 11 <| .plain 12 <| .only 13 <| .only 14 <| .plain 15 <| .plain 16 <| .plain 17 <| .plain 18 <| .plain 19 <| .plain 20 <| .plain 21 <| .plain 22 <| .plain 23 <| .plain 24 <| .done) (by kernel_rfl) (by kernel_rfl) (fun W1 hb1 => ?_)
    replace hv := hv.next hb1
    have HX1 := Lib.hid (And.intro (HX.out.1.next hb1) (HX.out.2.next hb1))
    replace hbel := hbel.trans (hb1.mono hbel.size)
    clear hb1 HX
    obtain ⟨b0, off, u, eA, hb0, hcu, hu⟩ := hv.cellAt I hlt
    subst eA
    iterate 13 (refine mix_plain rfl ?_; (first
      | (refine wpQuiet_load1 rfl _ (.tmp 39) rfl _ rfl _ Tryd.underlying22 rfl _ (fun _ ⟨e, he⟩ => by rw [he, plus_cell _ _ _ hb0]; exact hcu) ?_; simp only [Act.put, List.setIfInBounds_toArray, List.set_cons_zero, List.set_cons_succ])
      | go_big_quiet_step (fail)); refine wpQuiet_nil ?_)
    clear hcu
    refine mix_only rfl (fun K hK => ?_)
    refine wpList_unguard rfl ?_
    go_wp2_with fail
    refine (mroot_any x0 _ L W1 hv (by omega) (fun c hc => by have := HL.out c hc; omega) (hG.next hbel)).mono ?_
    rintro e W2 ⟨rfl, hb1⟩
    go_wp2_with fail
    refine hK _ _ hb1 ?_
    clear hK K
    replace hv := hv.next hb1
    replace hu := hu.next hb1
    have HX2 := Lib.hid (And.intro (HX1.out.1.next hb1) (HX1.out.2.next hb1))
    replace hbel := hbel.trans (hb1.mono hbel.size)
    clear hb1 HX1
    have hlen : (L.getD I []).length ≤ 100 := HL.out _ (by rw [List.getD_eq_getElem?_getD, List.getElem?_eq_getElem hlt]; exact List.getElem_mem _)
    refine mix_only rfl (fun K hK => ?_)
    refine wpList_unguard rfl ?_
    go_wp2_with fail
    refine (vLeaf_any x0 u (L.getD I []) I L.length hI64 (by omega) u5 (pathM (cutW x0) L I) (pathM_mem _ _ L I (Nat.le_refl _)) (by have := pathM_depth (cutW x0) 6 L I (by omega); omega) (rootM (cutW x0) L) (rootM_length _ _) W2 hu (by omega) (by have := HX2.out.1; unfold pathX at this; rw [if_pos hlt] at this; exact this) (hG.next hbel)).mono ?_
    rintro e W3 ⟨rfl, hb1⟩
    rw [HR.out]
    go_wp2_with fail
    refine hK _ _ hb1 ?_
    clear hK K hu hlen
    replace hv := hv.next hb1
    have HX := Lib.hid (HX2.out.2.next hb1)
    replace hbel := hbel.trans (hb1.mono hbel.size)
    clear hb1 HX2 HR
    iterate 10 (refine mix_plain rfl ?_; go_big_quiet_step (fail); refine wpQuiet_nil ?_)
    refine mix_done ?_
    by_cases hj : 1 ≤ J ∧ J ≤ L.length
    · have hj0 : (0 : Int) < (J : Int) := by omega
      have hjl : (J : Int) ≤ (L.length : Int) := by omega
      have hjc : (J : Int) ≤ (cap0 : Int) := by omega
      have he : ef = 0 := by rw [← Hef.out]; exact if_pos hj
      subst he
      have HR := Lib.hid (prefS_path (cutW x0) L J hj.1 hj.2)
      go_wp2_with fail
      refine (mroot_any x0 _ (L.take J) _ (hv.take J hj.2) (by rw [List.length_take]; omega) (fun c hc => by have := HL.out c (List.mem_of_mem_take hc); omega) (hG.next hbel)).mono ?_
      rintro e W4 ⟨rfl, hb1⟩
      replace hv := hv.next hb1
      have HX4 := Lib.hid (HX.out.next hb1)
      replace hbel := hbel.trans (hb1.mono hbel.size)
      clear hb1 HX
      go_wp2_with fail
      refine (mroot_any x0 _ L W4 hv (by omega) (fun c hc => by have := HL.out c hc; omega) (hG.next hbel)).mono ?_
      rintro e W5 ⟨rfl, hb1⟩
      replace hv := hv.next hb1
      have HX5 := Lib.hid (HX4.out.next hb1)
      replace hbel := hbel.trans (hb1.mono hbel.size)
      clear hb1 HX4
      go_wp2_with fail
      refine (vprefix_any x0 J L.length hJ64 (by omega) (rootM (cutW x0) (L.take J)) (rootM (cutW x0) L) (rootM_length _ _) (rootM_length _ _) u6 (subM (cutW x0) L J true) (subM_mem _ _ L J true (Nat.le_refl _)) (by have := subM_depth (cutW x0) 6 L J true hj.1 hj.2 (by omega); omega) W5 (by have := HX5.out; unfold subX at this; rw [if_pos hj] at this; exact this) (hG.next hbel)).mono ?_
      rintro e W6 ⟨rfl, hb1⟩
      rw [HR.out]
      replace hbel := hbel.trans (hb1.mono hbel.size)
      clear hb1 HX5 HR hv
      go_wp2_with fail
      refine (known9_any W6 (hG.next hbel)).mono ?_
      rintro e w9 ⟨rfl, hb1⟩
      go_wp2_with fail
      go_ret
      exact ⟨rfl, hbel.trans (hb1.mono hbel.size)⟩
    · have he : ef = 25 := by rw [← Hef.out]; exact if_neg hj
      subst he
      clear hv HX
      by_cases hj0 : J = 0
      · subst hj0
        go_wp2_with fail
        refine (known9_any _ (hG.next hbel)).mono ?_
        rintro e w9 ⟨rfl, hb1⟩
        go_wp2_with fail
        go_ret
        exact ⟨rfl, hbel.trans (hb1.mono hbel.size)⟩
      · have hj1 : (0 : Int) < (J : Int) := by omega
        have hjl : ¬ (J : Int) ≤ (L.length : Int) := by omega
        go_wp2_with fail
        refine (known9_any _ (hG.next hbel)).mono ?_
        rintro e w9 ⟨rfl, hb1⟩
        go_wp2_with fail
        go_ret
        exact ⟨rfl, hbel.trans (hb1.mono hbel.size)⟩
  · have hlt' : ¬ (I : Int) < (L.length : Int) := by omega
    have hpe : pathE L I = 25 := if_neg hlt
    rw [hpe]
    clear hpe
    go_wp2_with fail
    refine wp_region_mixP (.plain 0 <| .plain 1 <| .plain 2 <| .plain 3 <| .plain 4 <| .plain 5 <| .plain 6 <| .plain 7 <| .plain 8 <| .plain 9 <| .plain 10 <| .plain 11 <| .plain 12 <| .only 13 <| .only 14 <| .plain 15 <| .plain 16 <| .plain 17 <| .plain 18 <| .plain 19 <| .plain 20 <| .plain 21 <| .plain 22 <| .plain 23 <| .plain 24 <| .done) (by kernel_rfl) (by kernel_rfl) (fun W1 hb1 => ?_)
    replace hv := hv.next hb1
    have HX1 := Lib.hid (HX.out.2.next hb1)
    replace hbel := hbel.trans (hb1.mono hbel.size)
    clear hb1 HX
    have HX := HX1
    clear HX1
    iterate 3 (refine mix_plain rfl ?_; go_big_quiet_step (fail); refine wpQuiet_nil ?_)
    iterate 10 (refine mix_skip rfl rfl ?_; simp only [Act.put, List.setIfInBounds_toArray, List.set_cons_zero, List.set_cons_succ])
    iterate 2 (refine mix_only rfl (fun K hK => ?_); go_wp2_with fail; refine hK _ _ (Below.refl _ _) ?_; clear hK K)
    refine mix_skip rfl rfl ?_
    simp only [Act.put, List.setIfInBounds_toArray, List.set_cons_zero, List.set_cons_succ]
    iterate 9 (refine mix_plain rfl ?_; go_big_quiet_step (fail); refine wpQuiet_nil ?_)
    refine mix_done ?_
    by_cases hj : 1 ≤ J ∧ J ≤ L.length
    · have hj0 : (0 : Int) < (J : Int) := by omega
      have hjl : (J : Int) ≤ (L.length : Int) := by omega
      have hjc : (J : Int) ≤ (cap0 : Int) := by omega
      have he : ef = 0 := by rw [← Hef.out]; exact if_pos hj
      subst he
      have HR := Lib.hid (prefS_path (cutW x0) L J hj.1 hj.2)
      go_wp2_with fail
      refine (mroot_any x0 _ (L.take J) _ (hv.take J hj.2) (by rw [List.length_take]; omega) (fun c hc => by have := HL.out c (List.mem_of_mem_take hc); omega) (hG.next hbel)).mono ?_
      rintro e W4 ⟨rfl, hb1⟩
      replace hv := hv.next hb1
      have HX4 := Lib.hid (HX.out.next hb1)
      replace hbel := hbel.trans (hb1.mono hbel.size)
      clear hb1 HX
      go_wp2_with fail
      refine (mroot_any x0 _ L W4 hv (by omega) (fun c hc => by have := HL.out c hc; omega) (hG.next hbel)).mono ?_
      rintro e W5 ⟨rfl, hb1⟩
      replace hv := hv.next hb1
      have HX5 := Lib.hid (HX4.out.next hb1)
      replace hbel := hbel.trans (hb1.mono hbel.size)
      clear hb1 HX4
      go_wp2_with fail
      refine (vprefix_any x0 J L.length hJ64 (by omega) (rootM (cutW x0) (L.take J)) (rootM (cutW x0) L) (rootM_length _ _) (rootM_length _ _) u6 (subM (cutW x0) L J true) (subM_mem _ _ L J true (Nat.le_refl _)) (by have := subM_depth (cutW x0) 6 L J true hj.1 hj.2 (by omega); omega) W5 (by have := HX5.out; unfold subX at this; rw [if_pos hj] at this; exact this) (hG.next hbel)).mono ?_
      rintro e W6 ⟨rfl, hb1⟩
      rw [HR.out]
      replace hbel := hbel.trans (hb1.mono hbel.size)
      clear hb1 HX5 HR hv
      go_wp2_with fail
      refine (known9_any W6 (hG.next hbel)).mono ?_
      rintro e w9 ⟨rfl, hb1⟩
      go_wp2_with fail
      go_ret
      exact ⟨rfl, hbel.trans (hb1.mono hbel.size)⟩
    · have he : ef = 25 := by rw [← Hef.out]; exact if_neg hj
      subst he
      clear hv HX
      by_cases hj0 : J = 0
      · subst hj0
        go_wp2_with fail
        refine (known9_any _ (hG.next hbel)).mono ?_
        rintro e w9 ⟨rfl, hb1⟩
        go_wp2_with fail
        go_ret
        exact ⟨rfl, hbel.trans (hb1.mono hbel.size)⟩
      · have hj1 : (0 : Int) < (J : Int) := by omega
        have hjl : ¬ (J : Int) ≤ (L.length : Int) := by omega
        go_wp2_with fail
        refine (known9_any _ (hG.next hbel)).mono ?_
        rintro e w9 ⟨rfl, hb1⟩
        go_wp2_with fail
        go_ret
        exact ⟨rfl, hbel.trans (hb1.mono hbel.size)⟩
end Go.Proofs.YtppglfgggfkcmaaDoor
