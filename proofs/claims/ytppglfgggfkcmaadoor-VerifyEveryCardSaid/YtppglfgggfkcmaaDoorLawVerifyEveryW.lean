/- The walk of the law VerifyEvery. No condition. -/
import Derived.Test.YtppglfgggfkcmaaDoorP18
import Derived.Test.YtppglfgggfkcmaaDoorP11
import Derived.Test.YtppglfgggfkcmaaDoorP19
import Derived.Test.YtppglfgggfkcmaaDoorP9
namespace Go.Proofs.YtppglfgggfkcmaaDoor
open Go Go.RowKit
attribute [local irreducible] mixW
attribute [local go_sem] n8_lo n8_hi n64_lo n64_hi n32_lo n32_hi
set_option maxHeartbeats 2000000 in
set_option maxRecDepth 100000 in
theorem verifyEvery_walk (w : World) (hG : Glob w) (x0 : Int) (hx0 : -9223372036854775808 ≤ x0 ∧ x0 ≤ 9223372036854775807) (n0 : Int) (hn0 : -9223372036854775808 ≤ n0 ∧ n0 ≤ 9223372036854775807) (c : UInt8) :
    Calls Tryd.prog 10 #[.int .i64 x0, .int .i64 n0, .int .u8 (n8 c)] w fun e w' => e = .returned (.bool true) ∧ Below w.heap.size w w' := by
  have hbel := Below.refl w.heap.size w
  go_enter Tryd.func10, Tryd.ntmps10
  go_wp2_with fail
  refine (within_any n0 0 24 w (by decide) (by decide) (by decide) hn0.1 hn0.2).mono ?_
  rintro e _ ⟨rfl, rfl⟩
  have hwb := withinI_bounds n0 0 24 (by decide)
  obtain ⟨n, hn⟩ : ∃ n : Nat, withinI n0 0 24 + 1 = (n : Int) := ⟨(withinI n0 0 24 + 1).toNat, by omega⟩
  have hn25 : n ≤ 25 := by omega
  have hn1 : 1 ≤ n := by omega
  go_wp2_with fail
  clear hn hwb
  refine (list9_any n c (by omega) (by omega) w).mono ?_
  rintro e w2 ⟨v, rfl, hv, hb1⟩
  have e3 : (n : Int).toNat = n := Int.toNat_natCast n
  rw [e3] at hv
  have hll := listL_length n c
  have HL : Hid (∀ b ∈ listL n c, b.length ≤ 40) := Lib.hid (fun b hb => by rw [listL_mem hb]; decide)
  generalize listL n c = L at HL hv hll
  subst hll
  replace hbel := hbel.trans (hb1.mono hbel.size)
  clear hb1 e3
  obtain ⟨A0, cap0, vs0, rfl, h2, h3, h4, h5, h6⟩ := hv
  have hv : SSl w2 w2.heap.size (.slice A0 L.length cap0) L := ⟨A0, cap0, vs0, rfl, h2, h3, h4, h5, h6⟩
  clear h3 h4 h5 h6 vs0
  go_wp2_with fail
  refine (mroot_any x0 _ L w2 hv (by omega) (fun c hc => by have := HL.out c hc; omega) (hG.next hbel)).mono ?_
  rintro e w3 ⟨rfl, hb1⟩
  have HR : Hid ((rootM (cutW x0) L).length = 32 ∧ (∀ i, i < L.length → leafS (cutW x0) (L.getD i []) i L.length (pathM (cutW x0) L i) (rootM (cutW x0) L) = true) ∧ (∀ m, 1 ≤ m → m ≤ L.length → prefS (cutW x0) m L.length (rootM (cutW x0) (L.take m)) (rootM (cutW x0) L) (subM (cutW x0) L m true) = true)) := Lib.hid ⟨rootM_length _ _, fun i hi => leafS_path _ _ _ hi, fun m h1 h2 => prefS_path _ _ _ h1 h2⟩
  generalize rootM (cutW x0) L = R at HR ⊢
  replace hv := hv.next hb1
  replace hbel := hbel.trans (hb1.mono hbel.size)
  clear hb1
  have hD := Blk.new w3 26 (arr 32 fun _ => 0)
  have hbn := below_new1 w3 (Obj.cells (arr 32 fun _ => 0) 26)
  go_upto_region 4 with (first
    | (refine wpList_storeDat rfl rfl 26 (.tmp 8) (.tmp 22) rfl w3.heap.size rfl _ _ rfl _ hD (by kernel_rfl) ?_; intro w4 hA4 hon4))
  have hb4 := below_only hbn hon4 (Nat.le_refl _) hbn.size
  refine wp_at (fun W => Blk W w3.heap.size 26 (dat R) ∧ SSl W W.heap.size (.slice A0 L.length cap0) L ∧ Below w.heap.size w W) ⟨hA4, hv.next hb4, hbel.trans (hb4.mono hbel.size)⟩ ?_
  obtain ⟨g8, hg8⟩ : ∃ g, w3.heap.size = g := ⟨_, rfl⟩
  rw [hg8]
  clear hA4 hon4 hb4 hbn hD hbel hg8 w4 hv
  rintro w4 ⟨hA, hv, hbel⟩
  go_wp2_with fail
  go_loopw [9] (fun iv wr => ∃ i : Nat, i ≤ L.length ∧ iv = .int .i64 i ∧ Blk wr g8 26 (dat R) ∧ SSl wr wr.heap.size (.slice A0 L.length cap0) L ∧ Below w.heap.size w wr) (fun iv _ => L.length - (intOf iv).toNat)
  case atStart => exact ⟨0, Nat.zero_le _, rfl, hA, hv, hbel⟩
  clear hA hv hbel
  case round =>
    obtain ⟨i, hil, rfl, hA, hv, hbel⟩ := hrel
    by_cases hlt : i < L.length
    · have hlt' : (i : Int) < (L.length : Int) := by omega
      have hi1 : (i : Int) + 1 = ((i + 1 : Nat) : Int) := by omega
      obtain ⟨i1, hi1e⟩ : ∃ i1, i + 1 = i1 := ⟨_, rfl⟩
      rw [hi1e] at hi1
      have hi1c : (i1 : Int) ≤ (cap0 : Int) := by omega
      have hi1l : i1 ≤ L.length := by omega
      have hi1p : 1 ≤ i1 := by omega
      go_wp2_with fail
      refine (prove_any x0 _ L i wr hv (by omega) (fun c hc => by have := HL.out c hc; omega) hlt (hG.next hbel)).mono ?_
      rintro e w5 ⟨u5, rfl, hown5, hb1⟩
      have hx5 := DX.of_own hown5
      replace hv := hv.next hb1
      replace hA := hA.below hb1 hA.lt
      replace hbel := hbel.trans (hb1.mono hbel.size)
      clear hb1 hown5
      go_wp2_with fail
      refine (compare_any x0 _ L i1 w5 hv (by omega) (fun c hc => by have := HL.out c hc; omega) hi1p hi1l (hG.next hbel)).mono ?_
      rintro e w6 ⟨u6, rfl, hown6, hb1⟩
      have hx6 := DX.of_own hown6
      replace hv := hv.next hb1
      replace hA := hA.below hb1 hA.lt
      replace hx5 := hx5.next hb1
      replace hbel := hbel.trans (hb1.mono hbel.size)
      clear hb1 hown6
      have HX := Lib.hid (And.intro hx5 hx6)
      clear hx5 hx6
      go_wp2_with fail
      refine wp_region_mixP (.plain 0 <| .plain 1 <| .plain 2 <| .plain 3 <| .plain 4 <| .plain 5 <| .plain 6 <| .plain 7 <| .plain 8 <| .plain 9 <| .plain 10 <| .plain 11 <| .plain 12 <| .plain 13 <| .plain 14 <| .plain 15 <| .plain 16 <| .plain 17 <| .only 18 <| .plain 19 <| .plain 20 <| .plain 21 <| .plain 22 <| .plain 23 <| .plain 24 <| .plain 25 <| .plain 26 <| .plain 27 <| .plain 28 <| .plain 29 <| .plain 30 <| .plain 31 <| .plain 32 <| .plain 34 <| .plain 35 <| .only 33 <| .only 36 <| .plain 37 <| .plain 38 <| .done) (by kernel_rfl) (by kernel_rfl) (fun W1 hb1 => ?_)
      replace hv := hv.next hb1
      replace hA := hA.below hb1 hA.lt
      have HX1 := Lib.hid (And.intro (HX.out.1.next hb1) (HX.out.2.next hb1))
      replace hbel := hbel.trans (hb1.mono hbel.size)
      clear hb1 HX
      obtain ⟨b0, off, u, eA, hb0, hcu, hu⟩ := hv.cellAt i hlt
      subst eA
      iterate 18 (refine mix_plain rfl ?_; (first
        | (refine wpQuiet_load1 rfl _ (.tmp 55) rfl _ rfl _ Tryd.underlying22 rfl _ (fun _ ⟨e, he⟩ => by rw [he, plus_cell _ _ _ hb0]; exact hcu) ?_; simp only [Act.put, List.setIfInBounds_toArray, List.set_cons_zero, List.set_cons_succ])
        | (refine wpQuiet_load rfl _ (.tmp 8) rfl g8 rfl _ _ _ _ (fun _ ⟨e, he⟩ => by rw [he]; exact hA.plus e) Tryd.underlying26 rfl (by kernel_rfl) ?_; simp only [Act.put, List.setIfInBounds_toArray, List.set_cons_zero, List.set_cons_succ])
        | go_big_quiet_step (fail)); refine wpQuiet_nil ?_)
      clear hcu
      refine mix_only rfl (fun K hK => ?_)
      refine wpList_unguard rfl ?_
      go_wp2_with fail
      have hlen : (L.getD i []).length ≤ 40 := HL.out _ (by rw [List.getD_eq_getElem?_getD, List.getElem?_eq_getElem hlt]; exact List.getElem_mem _)
      refine (vLeaf_any x0 u (L.getD i []) i L.length (by omega) (by omega) u5 (pathM (cutW x0) L i) (pathM_mem _ _ L i (Nat.le_refl _)) (by have := pathM_depth (cutW x0) 5 L i (by omega); omega) R HR.out.1 W1 hu (by omega) HX1.out.1 (hG.next hbel)).mono ?_
      rintro e W2 ⟨rfl, hb1⟩
      rw [HR.out.2.1 i hlt]
      go_wp2_with fail
      refine hK _ _ hb1 ?_
      clear hK K hu hlen
      replace hv := hv.next hb1
      replace hA := hA.below hb1 hA.lt
      have HX2 := Lib.hid (HX1.out.2.next hb1)
      replace hbel := hbel.trans (hb1.mono hbel.size)
      clear hb1 HX1
      iterate 16 (refine mix_plain rfl ?_; (first
        | (refine wpQuiet_load rfl _ (.tmp 8) rfl g8 rfl _ _ _ _ (fun _ ⟨e, he⟩ => by rw [he]; exact hA.plus e) Tryd.underlying26 rfl (by kernel_rfl) ?_; simp only [Act.put, List.setIfInBounds_toArray, List.set_cons_zero, List.set_cons_succ])
        | go_big_quiet_step (fail)); refine wpQuiet_nil ?_)
      refine mix_only rfl (fun K hK => ?_)
      refine wpList_unguard rfl ?_
      go_wp2_with fail
      refine (mroot_any x0 _ (L.take i1) W2 (hv.take i1 hi1l) (by rw [List.length_take]; omega) (fun c hc => by have := HL.out c (List.mem_of_mem_take hc); omega) (hG.next hbel)).mono ?_
      rintro e W3 ⟨rfl, hb1⟩
      go_wp2_with fail
      refine hK _ _ hb1 ?_
      clear hK K
      replace hv := hv.next hb1
      replace hA := hA.below hb1 hA.lt
      have HX3 := Lib.hid (HX2.out.next hb1)
      replace hbel := hbel.trans (hb1.mono hbel.size)
      clear hb1 HX2
      refine mix_only rfl (fun K hK => ?_)
      refine wpList_unguard rfl ?_
      go_wp2_with fail
      refine (vprefix_any x0 i1 L.length (by omega) (by omega) (rootM (cutW x0) (L.take i1)) R (rootM_length _ _) HR.out.1 u6 (subM (cutW x0) L i1 true) (subM_mem _ _ L i1 true (Nat.le_refl _)) (by have := subM_depth (cutW x0) 5 L i1 true hi1p hi1l (by omega); omega) W3 HX3.out (hG.next hbel)).mono ?_
      rintro e W4 ⟨rfl, hb1⟩
      rw [HR.out.2.2 i1 hi1p hi1l]
      go_wp2_with fail
      refine hK _ _ hb1 ?_
      clear hK K
      replace hv := hv.next hb1
      replace hA := hA.below hb1 hA.lt
      replace hbel := hbel.trans (hb1.mono hbel.size)
      clear hb1 HX3
      iterate 2 (refine mix_plain rfl ?_; go_big_quiet_step (fail); refine wpQuiet_nil ?_)
      refine mix_done ?_
      go_wp2_with fail
      go_roundw
      case rel => exact ⟨i1, hi1l, by go_num, hA, hv, hbel⟩
      case measure => simp [intOf]; omega
    · obtain rfl : i = L.length := by omega
      go_wp2_with fail
      refine (known9_any wr (hG.next hbel)).mono ?_
      rintro e w9 ⟨rfl, hb1⟩
      go_wp2_with fail
      go_ret
      exact ⟨rfl, hbel.trans (hb1.mono hbel.size)⟩
end Go.Proofs.YtppglfgggfkcmaaDoor
