/- The walk of the law VerifyElse. No condition. -/
import Derived.Test.YtppglfgggfkcmaaDoorP18
import Derived.Test.YtppglfgggfkcmaaDoorP22
import Derived.Test.YtppglfgggfkcmaaDoorP11
import Derived.Test.YtppglfgggfkcmaaDoorP19
namespace Go.Proofs.YtppglfgggfkcmaaDoor
open Go Go.RowKit
attribute [local irreducible] mixW
attribute [local go_sem] n8_lo n8_hi n64_lo n64_hi n32_lo n32_hi
theorem byte_v8e (i : Nat) (hi : i < 256) : Value.int .u8 (i : Int) = v8 (UInt8.ofNat i) := by
  unfold v8 n8
  rw [UInt8.toNat_ofNat_of_lt' (by show i < 256; exact hi)]
theorem own_oneE (w : World) (i : Nat) (hi : i < 256) : (w.alloc (.cells #[.int .u8 (i : Int)] 5)).ownsRow w.heap.size 5 1 (.slice (some ⟨w.heap.size, 0, none⟩) 1 1) (([UInt8.ofNat i] : List UInt8).map v8).length (([UInt8.ofNat i] : List UInt8).map v8) := by
  have h := own_oneB w w.heap.size (Nat.le_refl _) (UInt8.ofNat i)
  have e : Value.int .u8 (n8 (UInt8.ofNat i)) = Value.int .u8 (i : Int) := (byte_v8e i hi).symm
  rw [e] at h
  exact h
theorem Own2.setOwn {w : World} {B : Nat} {v : Value} {vs : List Value} {ls : List (List UInt8)} (h : Own2 w B v vs ls) (a : Nat) (ha : a < ls.length) :
    ∃ g cap cur, v = .slice (some ⟨g, 0, none⟩) ls.length cap ∧ B ≤ g ∧ ls.length ≤ cap ∧ Blk w g 22 cur ∧ a < cur.size ∧ ∀ (w' : World) (x : Value) (b : List UInt8), Blk w' g 22 (cur.setIfInBounds a x) → w.grownBy w' (some g) → w.ownsRow B 5 1 x b.length (b.map v8) → Own2 w' B v (vs.set a x) (ls.set a b) := by
  have hlen := h.len
  rcases h.row.2 with ⟨_, h0⟩ | ⟨g, cap, cur, e, hB, hg, hnc, hcap, hsz, hcur⟩
  · have h0' : vs.length = 0 := h0
    omega
  · have hgv : v.ownBlock = some g := by rw [e]; rfl
    refine ⟨g, cap, cur, by rw [e, hlen], hB, by omega, hg, by omega, fun w' x b hb hgr hx => ⟨by rw [List.length_set, List.length_set]; exact hlen, ⟨by rw [Nat.mul_one], .inr ⟨g, cap, cur.setIfInBounds a x, by rw [e, List.length_set], hB, hb, by rw [List.length_set]; exact hnc, hcap, by rw [Array.size_setIfInBounds]; exact hsz, ?_⟩⟩, fun i hi => ?_⟩⟩
    · rw [Array.toList_setIfInBounds, Nat.mul_one, List.take_set, List.length_set]
      have hc2 : cur.toList.take (vs.length * 1) = vs := hcur
      rw [Nat.mul_one] at hc2
      rw [hc2]
    · rw [List.length_set] at hi
      rw [List.getD_eq_getElem?_getD, List.getD_eq_getElem?_getD, List.getElem?_set, List.getElem?_set]
      by_cases hia : a = i
      · subst hia
        rw [if_pos rfl, if_pos rfl, if_pos (by omega), if_pos ha]
        exact own_grown hx hgr (fun g2 h2 e2 => own_other (by decide) hx h.row g2 h2 (by rw [hgv]; exact e2))
      · rw [if_neg hia, if_neg hia, ← List.getD_eq_getElem?_getD, ← List.getD_eq_getElem?_getD]
        have he := h.el i hi
        exact own_grown he hgr (fun g2 h2 e2 => own_other (by decide) he h.row g2 h2 (by rw [hgv]; exact e2))
theorem SSl.snocE {w : World} {base : Nat} {e : TypeId} {v' x : Value} {vs : List Value} {ls : List (List UInt8)} {b : List UInt8} (hown : w.ownsRow base e 1 v' (vs ++ [x]).length (vs ++ [x])) (hl : vs.length = ls.length) (hel : ∀ i, i < ls.length → BSl w w.heap.size (vs.getD i undef) (ls.getD i [])) (hx : BSl w w.heap.size x b) : SSl w w.heap.size v' (ls ++ [b]) := by
  refine SSl.of_own hown (by rw [List.length_append, List.length_append, hl]; rfl) (fun i hi => ?_)
  by_cases hik : i < ls.length
  · rw [List.getD_eq_getElem?_getD, List.getD_eq_getElem?_getD, List.getElem?_append_left (by omega), List.getElem?_append_left hik, ← List.getD_eq_getElem?_getD, ← List.getD_eq_getElem?_getD]
    exact hel i hik
  · have hi2 : i = ls.length := by rw [List.length_append, List.length_singleton] at hi; omega
    subst hi2
    rw [List.getD_eq_getElem?_getD, List.getD_eq_getElem?_getD, List.getElem?_append_right (by omega), List.getElem?_append_right (Nat.le_refl _), hl, Nat.sub_self]
    exact hx
theorem kw32e : cutW 32 = 32 := by decide
set_option maxHeartbeats 4000000 in
set_option maxRecDepth 100000 in
theorem verifyElse_walk (w : World) (hG : Glob w) (v0 : Value) (ls : List (List UInt8)) (hv : SSl w w.heap.size v0 ls) (ix oth : UInt64) (Ab : Option Addr) (capb : Nat) (b : List UInt8) (hb : BSl w w.heap.size (.slice Ab b.length capb) b) (hbc : capb ≤ 140737488351232) :
    Calls Tryd.prog 8 #[v0, .int .u64 (n64 ix), .int .u64 (n64 oth), .slice Ab b.length capb] w fun e w' => e = .returned (.bool true) ∧ Below w.heap.size w w' := by
  obtain ⟨i0, hi, hz0, hz1, hz2⟩ := info_parts (by kernel_rfl : (Tryd.prog.info? 22).map (fun i => (i.zero, i.size, i.bytes)) = some (some (.slice none 0 0), 1, 24))
  have hix := ix.toNat_lt
  have hoth := oth.toNat_lt
  rw [show n64 ix = (ix.toNat : Int) from rfl, show n64 oth = (oth.toNat : Int) from rfl]
  generalize ix.toNat = I0 at hix ⊢
  generalize oth.toNat = J0 at hoth ⊢
  have hbl : b.length ≤ 140737488351232 := by obtain ⟨_, _, e, h, _⟩ := hb; injection e with _ _ e3; omega
  have HB := Lib.hid (And.intro hb hbl)
  clear hb hbl
  go_enter Tryd.func8, Tryd.ntmps8
  go_wp2_with fail
  refine (few_any _ ls 20 40 (by decide) (by decide) w hv).mono ?_
  rintro e w1 ⟨u1, rfl, ⟨vs1, hO⟩, hbel⟩
  have hL20 : (fewL ls 20 40).length ≤ 20 := by rw [fewL_length]; omega
  have hL40 : ∀ c ∈ fewL ls 20 40, c.length ≤ 40 := fun c hc => fewL_mem hc
  generalize fewL ls 20 40 = L at hO hL20 hL40
  obtain ⟨A1, cap1, hu1⟩ : ∃ A c, u1 = .slice A L.length c := by have := own_slice hO.row; rwa [hO.len] at this
  subst hu1
  have H0 := Lib.hid (And.intro hO hL40)
  clear hL40 hv hO
  go_wp2_with fail
  go_loopg [9] L.length (fun gk iv wr => ∃ (i : Nat) (M : List (List UInt8)) (vs : List Value), i + gk = L.length ∧ iv = .int .i64 i ∧ M.length = L.length ∧ (∀ j, j < L.length → (M.getD j []).length ≤ if j < i then 41 else 40) ∧ Own2 wr w.heap.size (.slice A1 L.length cap1) vs M ∧ Below w.heap.size w wr)
  case atStart => exact ⟨0, L, vs1, by omega, rfl, rfl, (fun j hj => by rw [if_neg (by omega)]; exact H0.out.2 _ (by rw [List.getD_eq_getElem?_getD, List.getElem?_eq_getElem hj]; exact List.getElem_mem _)), H0.out.1, hbel⟩
  clear hbel
  case round =>
    obtain ⟨i, M, vs, hgk, rfl, hML, hMl, hO, hbel⟩ := hrel
    have HM := Lib.hid (And.intro hML hMl)
    clear hML hMl
    by_cases hlt : i < L.length
    · have hlt' : (i : Int) < (L.length : Int) := by omega
      have hi256 : i < 256 := by omega
      obtain ⟨g, cap, cur, hve, hgB, hcl, hgb, hac, hset⟩ := (hO.below (w' := wr) (Below.refl _ _)).setOwn i (by rw [HM.out.1]; exact hlt)
      rw [HM.out.1] at hve
      injection hve with hv1 _ hv3
      subst hv1
      subst hv3
      obtain ⟨gg, off, ui, eA, hgg, hcu, hui⟩ := hO.ssl.cellAt i (by rw [HM.out.1]; exact hlt)
      injection eA with eA
      injection eA with eA1 eA2
      subst eA1; subst eA2
      rw [Nat.zero_add] at hcu
      obtain ⟨tA, tc, rfl, t1, t2, t3⟩ := hui
      have htl : (M.getD i []).length ≤ 40 := by have := HM.out.2 i hlt; rwa [if_neg (by omega)] at this
      have hown0 := own_oneE wr i hi256
      have hbn := below_new1 wr (Obj.cells #[.int .u8 (i : Int)] 5)
      have hcu2 := (hbn.cell (p := ⟨g, i, none⟩) hgg).trans hcu
      generalize M.getD i [] = tx at t1 t3 htl hcu hcu2
      have Ht := Lib.hid t3
      have HO := Lib.hid (And.intro hO (And.intro hbel (And.intro hgB (And.intro hgb hset))))
      clear hO hbel hgB hset t1 t2 t3 hgb hcu
      go_wp2_with (first
        | (at_builtin; refine wpList_appendS rfl (.tmp 28) (.tmp 32) rfl wr.heap.size _ [UInt8.ofNat i] tx rfl hown0 _ tA tx.length tc rfl rfl (Ht.out.below hbn) (by simp; omega) hbn.size wr hbn ?_; intro u5 w5 hown5 hb5; have hgb5 := HO.out.2.2.2.1.below hb5 hgg; obtain ⟨Au5, cu5, hu5⟩ := own_slice hown5; subst hu5)
        | (refine wpList_store1 rfl rfl 22 (.tmp 34) (.tmp 33) rfl g i rfl _ rfl _ cur hgb5 (by kernel_rfl) hac rfl rfl ?_; intro w6 hgb6 hon6))
      have hO5 := HO.out.1.below hb5
      obtain ⟨g2, cap2, cur2, hve2, hgB2, hcl2, hgb2, hac2, hset2⟩ := hO5.setOwn i (by rw [HM.out.1]; exact hlt)
      rw [HM.out.1] at hve2
      injection hve2 with hv1 hx2 hx3
      clear hx2 hx3
      injection hv1 with hv1
      injection hv1 with hv1 _
      subst hv1
      have hcur : cur2 = cur := by
        have h1 := hgb2.symm.trans hgb5
        injection h1 with h1
        injection h1 with h1 _ _
      subst hcur
      have hown5' := own_base hown5 HO.out.2.1.size
      have hO6 := hset2 w6 (.slice Au5 (tx.length + 1) cu5) (UInt8.ofNat i :: tx) hgb6 hon6 (by simpa using hown5')
      have hbel6 := below_only (HO.out.2.1.trans (hb5.mono HO.out.2.1.size)) hon6 hgB2 (Nat.le_trans HO.out.2.1.size hb5.size)
      have HF := Lib.hid (And.intro hO6 hbel6)
      clear hO5 hgb2 hac2 hset2 hown5' hO6 hbel6 hown5 hb5 hgb6 hon6 HO hgb5
      go_wp2_with fail
      go_roundg (gk - 1)
      case measure => omega
      case rel =>
        refine ⟨i + 1, M.set i (UInt8.ofNat i :: tx), _, by omega, by go_num, by rw [List.length_set]; exact HM.out.1, fun j hj => ?_, HF.out.1, HF.out.2⟩
        rw [List.getD_eq_getElem?_getD, List.getElem?_set]
        by_cases hji : i = j
        · subst hji
          rw [if_pos rfl, if_pos (by rw [HM.out.1]; exact hj), if_pos (by omega)]
          simp only [Option.getD_some, List.length_cons]; omega
        · rw [if_neg hji, ← List.getD_eq_getElem?_getD]
          have := HM.out.2 j hj
          by_cases hjl : j < i
          · rw [if_pos hjl] at this; rw [if_pos (by omega)]; exact this
          · rw [if_neg hjl] at this; rw [if_neg (by omega)]; exact this
    · obtain rfl : i = L.length := by omega
      have hMl41 : ∀ c ∈ M, c.length ≤ 41 := fun c hc => by
        obtain ⟨j, hj, rfl⟩ := List.mem_iff_getElem.1 hc
        have := HM.out.2 j (by rw [← HM.out.1]; exact hj)
        rw [if_pos (by rw [← HM.out.1]; exact hj), List.getD_eq_getElem?_getD, List.getElem?_eq_getElem hj] at this
        exact this
      have hML := HM.out.1
      rw [← hML] at hO hL20 ⊢
      clear HM H0 hgk hlt hML
      have HM := Lib.hid hMl41
      clear hMl41
      have hltn : ¬ (M.length : Int) < (M.length : Int) := by omega
      by_cases hM0 : M.length = 0
      · have hM0' : ((M.length : Int) == 0) = true := by rw [beq_iff_eq]; omega
        rw [hM0] at *
        clear hO
        go_wp2_with fail
        refine (known9_any wr (hG.next hbel)).mono ?_
        rintro e w9 ⟨rfl, hb1⟩
        go_wp2_with fail
        try rw [Exit.noGoto_ret]
        go_ret
        exact ⟨rfl, hbel.trans (hb1.mono hbel.size)⟩
      have hM0' : ((M.length : Int) == 0) = false := by rw [beq_eq_false_iff_ne]; omega
      have hlp : (0 : Int) < (M.length : Int) := by omega
      obtain ⟨I, hI⟩ : ∃ i : Nat, (I0 : Int) % (M.length : Int) = (i : Int) := ⟨((I0 : Int) % (M.length : Int)).toNat, (Int.toNat_of_nonneg (Int.emod_nonneg _ (by omega))).symm⟩
      obtain ⟨J, hJ⟩ : ∃ i : Nat, (J0 : Int) % (M.length : Int) = (i : Int) := ⟨((J0 : Int) % (M.length : Int)).toNat, (Int.toNat_of_nonneg (Int.emod_nonneg _ (by omega))).symm⟩
      have hIL : I < M.length := by have := Int.emod_lt_of_pos (I0 : Int) hlp; omega
      have hJL : J < M.length := by have := Int.emod_lt_of_pos (J0 : Int) hlp; omega
      have hIlt : (I : Int) < (M.length : Int) := by omega
      have hJlt : (J : Int) < (M.length : Int) := by omega
      have hI64 : I ≤ 18446744073709551615 := by omega
      have hJ64 : J ≤ 18446744073709551615 := by omega
      have hn64 : M.length ≤ 18446744073709551615 := by omega
      have hlI : (M.getD I []).length ≤ 41 := HM.out _ (by rw [List.getD_eq_getElem?_getD, List.getElem?_eq_getElem hIL]; exact List.getElem_mem _)
      have hlJ : (M.getD J []).length ≤ 41 := HM.out _ (by rw [List.getD_eq_getElem?_getD, List.getElem?_eq_getElem hJL]; exact List.getElem_mem _)
      have HO := Lib.hid (And.intro hO (And.intro (leafS_path 32 M I hIL) (And.intro hlI hlJ)))
      have hv := hO.ssl
      clear hO hlI hlJ
      go_wp2_with fail
      refine (prove_any 32 _ M I wr hv (by omega) (fun c hc => by have := HM.out c hc; omega) hIL (hG.next hbel)).mono ?_
      rintro e w5 ⟨u5, rfl, hown5, hb1⟩
      rw [kw32e] at hown5
      have hx5 := DX.of_own hown5
      have HO1 := Lib.hid (HO.out.1.below hb1)
      replace hbel := hbel.trans (hb1.mono hbel.size)
      have hpm := pathM_mem 32 _ M I (Nat.le_refl _)
      have hpd : (pathM 32 M I).length ≤ 1000000 := by have := pathM_depth 32 5 M I (by omega); omega
      clear hb1 hown5 hv hI hJ hix hoth
      have HX := Lib.hid hx5
      clear hx5
      go_wp2_with fail
      refine (mroot_any 32 _ M w5 HO1.out.ssl (by omega) (fun c hc => by have := HM.out c hc; omega) (hG.next hbel)).mono ?_
      rintro e w6 ⟨rfl, hb1⟩
      rw [kw32e]
      have HX2 := Lib.hid (HX.out.next hb1)
      have HO2 := Lib.hid (HO1.out.below hb1)
      replace hbel := hbel.trans (hb1.mono hbel.size)
      clear hb1 HX HO1
      have hRl := rootM_length 32 M
      have hself := HO.out.2.1
      generalize rootM 32 M = R at hself hRl ⊢
      generalize pathM 32 M I = P at hself HX2 hpm hpd
      have HS := Lib.hid (And.intro hself (And.intro hRl (And.intro hpm (And.intro hpd HO.out.2.2))))
      clear hself hRl hpm hpd HO
      have hD := Blk.new w6 26 (arr 32 fun _ => 0)
      have hbn := below_new1 w6 (Obj.cells (arr 32 fun _ => 0) 26)
      go_upto_region 13 with (first
        | (refine wpList_storeDat rfl rfl 26 (.tmp 13) (.tmp 55) rfl w6.heap.size rfl _ _ rfl _ hD (by kernel_rfl) ?_; intro w7 hA7 hon7))
      have hb7 := below_only hbn hon7 (Nat.le_refl _) hbn.size
      refine wp_at (fun W => Blk W w6.heap.size 26 (dat R) ∧ Own2 W w.heap.size (.slice A1 M.length cap1) vs M ∧ DX W u5 P ∧ Below w.heap.size w W) ⟨hA7, HO2.out.below hb7, HX2.out.next hb7, hbel.trans (hb7.mono hbel.size)⟩ ?_
      obtain ⟨g13, hg13⟩ : ∃ g, w6.heap.size = g := ⟨_, rfl⟩
      rw [hg13]
      clear hA7 hon7 hb7 hbn hD hbel hg13 w7 HX2 HO2
      rintro w7 ⟨hA, hO, hx, hbel⟩
      obtain ⟨b0, off, uI, eA, hb0, hcu, hu⟩ := hO.ssl.cellAt I hIL
      subst eA
      obtain ⟨b0', off', uJ, eA, hb0', hcuJ, huJ⟩ := hO.ssl.cellAt J hJL
      injection eA with eA
      injection eA with eA1 eA2
      subst eA1; subst eA2
      generalize M.getD I [] = tI at HS hu
      generalize M.getD J [] = tJ at HS huJ
      have HU := Lib.hid (And.intro hu (And.intro huJ (And.intro hx (And.intro hO (And.intro hA (And.intro hcu (And.intro hcuJ (And.intro hb0 hbel))))))))
      clear hu huJ hx hO hA hcu hcuJ hb0 hb0'
      refine wp_region_mixP (.plain 0 <| .plain 1 <| .plain 2 <| .plain 3 <| .plain 4 <| .plain 5 <| .plain 6 <| .plain 7 <| .plain 8 <| .plain 9 <| .plain 10 <| .only 11 <| .plain 12 <| .plain 13 <| .done) (by kernel_rfl) (by kernel_rfl) (fun W1 hb1 => ?_)
      have hA := HU.out.2.2.2.2.1.below hb1 HU.out.2.2.2.2.1.lt
      have hcu := (hb1.cell (p := ⟨b0, off + I, none⟩) HU.out.2.2.2.2.2.2.2.1).trans HU.out.2.2.2.2.2.1
      have hb0 : b0 < W1.heap.size := Nat.lt_of_lt_of_le HU.out.2.2.2.2.2.2.2.1 hb1.size
      iterate 11 (refine mix_plain rfl ?_; (first
        | (refine wpQuiet_load1 rfl _ (.tmp 61) rfl _ rfl _ Tryd.underlying22 rfl _ (fun _ ⟨e, he⟩ => by rw [he, plus_cell _ _ _ hb0]; exact hcu) ?_; simp only [Act.put, List.setIfInBounds_toArray, List.set_cons_zero, List.set_cons_succ])
        | (refine wpQuiet_load rfl _ (.tmp 13) rfl g13 rfl _ _ _ _ (fun _ ⟨e, he⟩ => by rw [he]; exact hA.plus e) Tryd.underlying26 rfl (by kernel_rfl) ?_; simp only [Act.put, List.setIfInBounds_toArray, List.set_cons_zero, List.set_cons_succ])
        | go_big_quiet_step (fail)); refine wpQuiet_nil ?_)
      clear hA hcu hb0
      refine mix_only rfl (fun K hK => ?_)
      refine wpList_unguard rfl ?_
      go_wp2_with fail
      refine (vLeaf_any 32 uI tI I M.length hI64 hn64 u5 P HS.out.2.2.1 HS.out.2.2.2.1 R HS.out.2.1 W1 (HU.out.1.next hb1) (by have := HS.out.2.2.2.2.1; omega) (HU.out.2.2.1.next hb1) (hG.next (hbel.trans (hb1.mono hbel.size)))).mono ?_
      rintro e W2 ⟨rfl, hbx⟩
      rw [kw32e, HS.out.1]
      go_wp2_with fail
      refine hK _ _ hbx ?_
      clear hK K
      replace hb1 := hb1.trans (hbx.mono hb1.size)
      clear hbx
      iterate 2 (refine mix_plain rfl ?_; go_big_quiet_step (fail); refine wpQuiet_nil ?_)
      refine mix_done ?_
      go_wp2_with fail
      refine (hasher9_any 32 W2).mono ?_
      rintro e w8 ⟨h, rfl, hH, hbh⟩
      rw [kw32e] at hH
      replace hb1 := hb1.trans (hbh.mono hb1.size)
      have HH := Lib.hid hH
      clear hbh hH
      go_wp2_with fail
      refine wp_region_mixP (.plain 0 <| .plain 1 <| .plain 2 <| .plain 3 <| .plain 4 <| .plain 5 <| .plain 6 <| .plain 7 <| .plain 9 <| .plain 10 <| .plain 11 <| .plain 12 <| .plain 13 <| .plain 14 <| .plain 15 <| .plain 16 <| .plain 17 <| .only 8 <| .only 18 <| .plain 19 <| .plain 20 <| .plain 21 <| .plain 22 <| .plain 23 <| .plain 24 <| .plain 25 <| .plain 26 <| .plain 27 <| .plain 28 <| .plain 30 <| .plain 31 <| .plain 32 <| .plain 33 <| .plain 34 <| .plain 35 <| .plain 36 <| .plain 37 <| .plain 38 <| .only 29 <| .only 39 <| .plain 40 <| .plain 41 <| .done) (by kernel_rfl) (by kernel_rfl) (fun W3 hb3 => ?_)
      have hb13 := hb1.trans (hb3.mono hb1.size)
      have hA := HU.out.2.2.2.2.1.below hb13 HU.out.2.2.2.2.1.lt
      have hcu := (hb13.cell (p := ⟨b0, off + I, none⟩) HU.out.2.2.2.2.2.2.2.1).trans HU.out.2.2.2.2.2.1
      have hcuJ := (hb13.cell (p := ⟨b0, off + J, none⟩) HU.out.2.2.2.2.2.2.2.1).trans HU.out.2.2.2.2.2.2.1
      have hb0 : b0 < W3.heap.size := Nat.lt_of_lt_of_le HU.out.2.2.2.2.2.2.2.1 hb13.size
      clear hb13
      iterate 17 (refine mix_plain rfl ?_; (first
        | (refine wpQuiet_load1 rfl _ (.tmp 73) rfl _ rfl _ Tryd.underlying22 rfl _ (fun _ ⟨e, he⟩ => by rw [he, plus_cell _ _ _ hb0]; exact hcuJ) ?_; simp only [Act.put, List.setIfInBounds_toArray, List.set_cons_zero, List.set_cons_succ])
        | (refine wpQuiet_load1 rfl _ (.tmp 83) rfl _ rfl _ Tryd.underlying22 rfl _ (fun _ ⟨e, he⟩ => by rw [he, plus_cell _ _ _ hb0]; exact hcuJ) ?_; simp only [Act.put, List.setIfInBounds_toArray, List.set_cons_zero, List.set_cons_succ])
        | (refine wpQuiet_load rfl _ (.tmp 13) rfl g13 rfl _ _ _ _ (fun _ ⟨e, he⟩ => by rw [he]; exact hA.plus e) Tryd.underlying26 rfl (by kernel_rfl) ?_; simp only [Act.put, List.setIfInBounds_toArray, List.set_cons_zero, List.set_cons_succ])
        | go_big_quiet_step (fail)); refine wpQuiet_nil ?_)
      refine mix_only rfl (fun K hK => ?_)
      go_wp2_with fail
      refine (vLeaf_any 32 uJ tJ I M.length hI64 hn64 u5 P HS.out.2.2.1 HS.out.2.2.2.1 R HS.out.2.1 W3 (HU.out.2.1.next (hb1.trans (hb3.mono hb1.size))) (by have := HS.out.2.2.2.2.2; omega) (HU.out.2.2.1.next (hb1.trans (hb3.mono hb1.size))) (hG.next (hbel.trans ((hb1.trans (hb3.mono hb1.size)).mono hbel.size)))).mono ?_
      rintro e W4 ⟨rfl, hbx⟩
      rw [kw32e]
      go_wp2_with fail
      refine hK _ _ hbx ?_
      clear hK K
      replace hb3 := hb3.trans (hbx.mono hb3.size)
      replace hA := hA.below hbx hA.lt
      replace hcu := (hbx.cell (p := ⟨b0, off + I, none⟩) hb0).trans hcu
      replace hcuJ := (hbx.cell (p := ⟨b0, off + J, none⟩) hb0).trans hcuJ
      replace hb0 := Nat.lt_of_lt_of_le hb0 hbx.size
      clear hbx
      refine mix_only rfl (fun K hK => ?_)
      go_wp2_with fail
      refine (rleaf_any _ 32 uJ tJ I M.length hI64 hn64 u5 P HS.out.2.2.1 HS.out.2.2.2.1 R HS.out.2.1 W4 (HH.out.nxt hb3) (HU.out.2.1.next (hb1.trans (hb3.mono hb1.size))) (by have := HS.out.2.2.2.2.2; omega) (HU.out.2.2.1.next (hb1.trans (hb3.mono hb1.size)))).mono ?_
      rintro e W5 ⟨rfl, hbx⟩
      go_wp2_with fail
      refine hK _ _ hbx ?_
      clear hK K
      replace hb3 := hb3.trans (hbx.mono hb3.size)
      replace hA := hA.below hbx hA.lt
      replace hcu := (hbx.cell (p := ⟨b0, off + I, none⟩) hb0).trans hcu
      replace hcuJ := (hbx.cell (p := ⟨b0, off + J, none⟩) hb0).trans hcuJ
      replace hb0 := Nat.lt_of_lt_of_le hb0 hbx.size
      clear hbx
      generalize leafS 32 tJ I M.length P R = q1
      iterate 2 (refine mix_plain rfl ?_; go_big_quiet_step (fail); refine wpQuiet_nil ?_)
      try simp only [bne_self_eq_false]
      iterate 17 (refine mix_plain rfl ?_; (first
        | (refine wpQuiet_load1 rfl _ (.tmp 94) rfl _ rfl _ Tryd.underlying22 rfl _ (fun _ ⟨e, he⟩ => by rw [he, plus_cell _ _ _ hb0]; exact hcu) ?_; simp only [Act.put, List.setIfInBounds_toArray, List.set_cons_zero, List.set_cons_succ])
        | (refine wpQuiet_load1 rfl _ (.tmp 104) rfl _ rfl _ Tryd.underlying22 rfl _ (fun _ ⟨e, he⟩ => by rw [he, plus_cell _ _ _ hb0]; exact hcu) ?_; simp only [Act.put, List.setIfInBounds_toArray, List.set_cons_zero, List.set_cons_succ])
        | (refine wpQuiet_load rfl _ (.tmp 13) rfl g13 rfl _ _ _ _ (fun _ ⟨e, he⟩ => by rw [he]; exact hA.plus e) Tryd.underlying26 rfl (by kernel_rfl) ?_; simp only [Act.put, List.setIfInBounds_toArray, List.set_cons_zero, List.set_cons_succ])
        | go_big_quiet_step (fail)); refine wpQuiet_nil ?_)
      clear hA hcu hcuJ hb0
      refine mix_only rfl (fun K hK => ?_)
      refine wpList_unguard rfl ?_
      go_wp2_with fail
      refine (vLeaf_any 32 uI tI J M.length hJ64 hn64 u5 P HS.out.2.2.1 HS.out.2.2.2.1 R HS.out.2.1 W5 (HU.out.1.next (hb1.trans (hb3.mono hb1.size))) (by have := HS.out.2.2.2.2.1; omega) (HU.out.2.2.1.next (hb1.trans (hb3.mono hb1.size))) (hG.next (hbel.trans ((hb1.trans (hb3.mono hb1.size)).mono hbel.size)))).mono ?_
      rintro e W6 ⟨rfl, hbx⟩
      rw [kw32e]
      go_wp2_with fail
      refine hK _ _ hbx ?_
      clear hK K
      replace hb3 := hb3.trans (hbx.mono hb3.size)
      clear hbx
      refine mix_only rfl (fun K hK => ?_)
      refine wpList_unguard rfl ?_
      go_wp2_with fail
      refine (rleaf_any _ 32 uI tI J M.length hJ64 hn64 u5 P HS.out.2.2.1 HS.out.2.2.2.1 R HS.out.2.1 W6 (HH.out.nxt hb3) (HU.out.1.next (hb1.trans (hb3.mono hb1.size))) (by have := HS.out.2.2.2.2.1; omega) (HU.out.2.2.1.next (hb1.trans (hb3.mono hb1.size)))).mono ?_
      rintro e W7 ⟨rfl, hbx⟩
      go_wp2_with fail
      refine hK _ _ hbx ?_
      clear hK K
      replace hb3 := hb3.trans (hbx.mono hb3.size)
      clear hbx
      generalize leafS 32 tI J M.length P R = q2
      iterate 2 (refine mix_plain rfl ?_; go_big_quiet_step (fail); refine wpQuiet_nil ?_)
      try simp only [bne_self_eq_false]
      refine mix_done ?_
      have hb15 := hb1.trans (hb3.mono hb1.size)
      have HH2 := Lib.hid (HH.out.nxt hb3)
      have hO7 := HU.out.2.2.2.1.below hb15
      have HK := Lib.hid (And.intro hO7 hb15)
      have hn1 := below_new1 W7 (Obj.cells #[] 22)
      have hoe := own_empty W7 W7.heap.size 22 (Nat.le_refl _)
      have hrd1 : Reads W7 W7.heap.size (some ⟨b0, off, none⟩) vs := by
        obtain ⟨A', c', e', _, _, hrd⟩ := Reads.own hO7.row
        injection e' with e'
        rw [e']; exact hrd
      have hone := hO7.ones
      have hvl : vs.length = M.length := hO7.len
      clear hO7 hb15 hb1 hb3 HH
      go_wp2_with (first
        | (at_builtin; refine wpList_appendR rfl (.tmp 113) (.tmp 114) _ rfl W7.heap.size 22 i0 _ 24 Tryd.underlying38 hi hz0 hz1 hz2 rfl _ [] rfl hoe _ (some ⟨b0, off, none⟩) _ _ vs rfl (hrd1.below hn1) hvl hone (by unfold maxLen; simp; omega) (by simp; omega) hn1.size ?_; intro u8 w9 hown8 hg8 hat8; simp only [List.nil_append] at hown8; have hb8 := below_own hn1 hoe hg8 hn1.size; have hS9 := Blk.new w9 22 #[.slice Ab b.length capb]; have hb9n := below_new1 w9 (Obj.cells #[.slice Ab b.length capb] 22); have hb9 := hb8.trans (hb9n.mono hb8.size); have hown9 := own_below hown8 hb9n; obtain ⟨A9, c9, hu9, _, _, _⟩ := Reads.own hown8; rw [hvl] at hu9; subst hu9; clear hrd1 hoe hn1 hg8 hat8 hown8 hb8 hb9n hone)
        | (at_builtin; refine wpList_appendR rfl (.tmp 115) (.tmp 117) _ rfl W7.heap.size 22 i0 _ 24 Tryd.underlying38 hi hz0 hz1 hz2 rfl _ vs rfl hown9 _ (some ⟨w9.heap.size, 0, none⟩) 1 1 [.slice Ab b.length capb] rfl (Reads.of_blk hS9 hS9.lt 0) rfl (fun u hu => by rw [List.mem_singleton] at hu; subst hu; rfl) (by unfold maxLen; omega) (by omega) hb9.size ?_; intro u10 w10 hown10 hg10 hat10))
      have hb10 := below_own hb9 hown9 hg10 hb9.size
      have hM : SSl w10 w10.heap.size u10 (M ++ [b]) := SSl.snocE (vs := vs) hown10 hvl (fun i hi => (BSl.of_own (HK.out.1.el i hi)).next hb10) (HB.out.1.next (hbel.trans ((HK.out.2.trans (hb10.mono HK.out.2.size)).mono hbel.size)))
      have hK10 := HK.out.2.trans (hb10.mono HK.out.2.size)
      have HH3 := Lib.hid (HH2.out.nxt hb10)
      clear hb9 hown9 hg10 hat10 hown10 hS9 hvl hb10 HK HH2
      refine (mroot_any 32 _ (M ++ [b]) w10 hM (by rw [List.length_append, List.length_singleton]; omega) (fun c hc => (List.mem_append.1 hc).elim (fun h => by have := HM.out c h; omega) (fun h => by rw [List.mem_singleton.1 h]; have := HB.out.2; omega)) (hG.next (hbel.trans (hK10.mono hbel.size)))).mono ?_
      rintro e w11 ⟨rfl, hb11⟩
      rw [kw32e]
      have hRR := rootM_length 32 (M ++ [b])
      generalize rootM 32 (M ++ [b]) = R2 at hRR ⊢
      have HR2 := Lib.hid hRR
      replace hK10 := hK10.trans (hb11.mono hK10.size)
      have HH4 := Lib.hid (HH3.out.nxt hb11)
      clear hM hb11 HH3 hRR
      have hD := Blk.new w11 26 (arr 32 fun _ => 0)
      have hbn := below_new1 w11 (Obj.cells (arr 32 fun _ => 0) 26)
      go_upto_region 19 with (first
        | (refine wpList_storeDat rfl rfl 26 (.tmp 15) (.tmp 119) rfl w11.heap.size rfl _ _ rfl _ hD (by kernel_rfl) ?_; intro w12 hA12 hon12))
      have hb12 := below_only hbn hon12 (Nat.le_refl _) hbn.size
      refine wp_at (fun W => Blk W w11.heap.size 26 (dat R2) ∧ Hsr W W.heap.size h 32 ∧ Below w7.heap.size w7 W) ⟨hA12, HH4.out.nxt hb12, hK10.trans (hb12.mono hK10.size)⟩ ?_
      obtain ⟨g15, hg15⟩ : ∃ g, w11.heap.size = g := ⟨_, rfl⟩
      rw [hg15]
      clear hA12 hon12 hb12 hbn hD hg15 w12 hK10 HH4
      rintro w12 ⟨hE, hH, hb1⟩
      have HH := Lib.hid (And.intro hH hE)
      clear hH hE
      refine wp_region_mixP (.plain 0 <| .plain 1 <| .plain 2 <| .plain 3 <| .plain 4 <| .plain 5 <| .plain 6 <| .plain 7 <| .plain 9 <| .plain 10 <| .plain 11 <| .plain 12 <| .plain 13 <| .plain 14 <| .plain 15 <| .plain 16 <| .plain 17 <| .only 8 <| .only 18 <| .plain 19 <| .plain 20 <| .plain 21 <| .plain 22 <| .plain 23 <| .plain 24 <| .plain 25 <| .plain 27 <| .plain 28 <| .plain 29 <| .plain 30 <| .plain 31 <| .plain 32 <| .only 26 <| .only 33 <| .plain 34 <| .plain 35 <| .plain 36 <| .only 37 <| .plain 38 <| .plain 39 <| .done) (by kernel_rfl) (by kernel_rfl) (fun W3 hb3 => ?_)
      have hb13 := hb1.trans (hb3.mono hb1.size)
      have hA := HU.out.2.2.2.2.1.below hb13 HU.out.2.2.2.2.1.lt
      have hE := HH.out.2.below hb3 HH.out.2.lt
      have hcu := (hb13.cell (p := ⟨b0, off + I, none⟩) HU.out.2.2.2.2.2.2.2.1).trans HU.out.2.2.2.2.2.1
      have hb0 : b0 < W3.heap.size := Nat.lt_of_lt_of_le HU.out.2.2.2.2.2.2.2.1 hb13.size
      clear hb13
      iterate 17 (refine mix_plain rfl ?_; (first
        | (refine wpQuiet_load1 rfl _ (.tmp 122) rfl _ rfl _ Tryd.underlying22 rfl _ (fun _ ⟨e, he⟩ => by rw [he, plus_cell _ _ _ hb0]; exact hcu) ?_; simp only [Act.put, List.setIfInBounds_toArray, List.set_cons_zero, List.set_cons_succ])
        | (refine wpQuiet_load1 rfl _ (.tmp 132) rfl _ rfl _ Tryd.underlying22 rfl _ (fun _ ⟨e, he⟩ => by rw [he, plus_cell _ _ _ hb0]; exact hcu) ?_; simp only [Act.put, List.setIfInBounds_toArray, List.set_cons_zero, List.set_cons_succ])
        | (refine wpQuiet_load rfl _ (.tmp 15) rfl g15 rfl _ _ _ _ (fun _ ⟨e, he⟩ => by rw [he]; exact hE.plus e) Tryd.underlying26 rfl (by kernel_rfl) ?_; simp only [Act.put, List.setIfInBounds_toArray, List.set_cons_zero, List.set_cons_succ])
        | go_big_quiet_step (fail)); refine wpQuiet_nil ?_)
      clear hcu hb0 hE
      refine mix_only rfl (fun K hK => ?_)
      go_wp2_with fail
      refine (vLeaf_any 32 uI tI I M.length hI64 hn64 u5 P HS.out.2.2.1 HS.out.2.2.2.1 R2 HR2.out W3 (HU.out.1.next (hb1.trans (hb3.mono hb1.size))) (by have := HS.out.2.2.2.2.1; omega) (HU.out.2.2.1.next (hb1.trans (hb3.mono hb1.size))) (hG.next (hbel.trans ((hb1.trans (hb3.mono hb1.size)).mono hbel.size)))).mono ?_
      rintro e W4 ⟨rfl, hbx⟩
      rw [kw32e]
      go_wp2_with fail
      refine hK _ _ hbx ?_
      clear hK K
      replace hb3 := hb3.trans (hbx.mono hb3.size)
      replace hA := hA.below hbx hA.lt
      clear hbx
      refine mix_only rfl (fun K hK => ?_)
      go_wp2_with fail
      refine (rleaf_any _ 32 uI tI I M.length hI64 hn64 u5 P HS.out.2.2.1 HS.out.2.2.2.1 R2 HR2.out W4 (HH.out.1.nxt hb3) (HU.out.1.next (hb1.trans (hb3.mono hb1.size))) (by have := HS.out.2.2.2.2.1; omega) (HU.out.2.2.1.next (hb1.trans (hb3.mono hb1.size)))).mono ?_
      rintro e W5 ⟨rfl, hbx⟩
      go_wp2_with fail
      refine hK _ _ hbx ?_
      clear hK K
      replace hb3 := hb3.trans (hbx.mono hb3.size)
      replace hA := hA.below hbx hA.lt
      clear hbx
      generalize leafS 32 tI I M.length P R2 = q3
      iterate 2 (refine mix_plain rfl ?_; go_big_quiet_step (fail); refine wpQuiet_nil ?_)
      try simp only [beq_self_eq_true]
      iterate 11 (refine mix_plain rfl ?_; (first
        | (refine wpQuiet_load rfl _ (.tmp 13) rfl g13 rfl _ _ _ _ (fun _ ⟨e, he⟩ => by rw [he]; exact hA.plus e) Tryd.underlying26 rfl (by kernel_rfl) ?_; simp only [Act.put, List.setIfInBounds_toArray, List.set_cons_zero, List.set_cons_succ])
        | go_big_quiet_step (fail)); refine wpQuiet_nil ?_)
      clear hA
      refine mix_only rfl (fun K hK => ?_)
      refine wpList_unguard rfl ?_
      go_wp2_with fail
      refine (vLeaf_any 32 _ b I M.length hI64 hn64 u5 P HS.out.2.2.1 HS.out.2.2.2.1 R HS.out.2.1 W5 (HB.out.1.next (hbel.trans ((hb1.trans (hb3.mono hb1.size)).mono hbel.size))) (by have := HB.out.2; omega) (HU.out.2.2.1.next (hb1.trans (hb3.mono hb1.size))) (hG.next (hbel.trans ((hb1.trans (hb3.mono hb1.size)).mono hbel.size)))).mono ?_
      rintro e W6 ⟨rfl, hbx⟩
      rw [kw32e]
      go_wp2_with fail
      refine hK _ _ hbx ?_
      clear hK K
      replace hb3 := hb3.trans (hbx.mono hb3.size)
      clear hbx
      refine mix_only rfl (fun K hK => ?_)
      refine wpList_unguard rfl ?_
      go_wp2_with fail
      refine (rleaf_any _ 32 _ b I M.length hI64 hn64 u5 P HS.out.2.2.1 HS.out.2.2.2.1 R HS.out.2.1 W6 (HH.out.1.nxt hb3) (HB.out.1.next (hbel.trans ((hb1.trans (hb3.mono hb1.size)).mono hbel.size))) HB.out.2 (HU.out.2.2.1.next (hb1.trans (hb3.mono hb1.size)))).mono ?_
      rintro e W7b ⟨rfl, hbx⟩
      go_wp2_with fail
      refine hK _ _ hbx ?_
      clear hK K
      replace hb3 := hb3.trans (hbx.mono hb3.size)
      clear hbx
      generalize leafS 32 b I M.length P R = q4
      iterate 1 (refine mix_plain rfl ?_; go_big_quiet_step (fail); refine wpQuiet_nil ?_)
      try simp only [beq_self_eq_true]
      iterate 2 (refine mix_plain rfl ?_; go_big_quiet_step (fail); refine wpQuiet_nil ?_)
      refine mix_only rfl (fun K hK => ?_)
      refine wpList_unguard rfl ?_
      go_wp2_with fail
      refine (known9_any W7b (hG.next (hbel.trans ((hb1.trans (hb3.mono hb1.size)).mono hbel.size)))).mono ?_
      rintro e W8 ⟨rfl, hbx⟩
      go_wp2_with fail
      refine hK _ _ hbx ?_
      clear hK K
      replace hb3 := hb3.trans (hbx.mono hb3.size)
      clear hbx
      iterate 2 (refine mix_plain rfl ?_; go_big_quiet_step (fail); refine wpQuiet_nil ?_)
      refine mix_done ?_
      go_wp2_with fail
      try rw [Exit.noGoto_ret]
      go_ret
      exact ⟨rfl, hbel.trans ((hb1.trans (hb3.mono hb1.size)).mono hbel.size)⟩
end Go.Proofs.YtppglfgggfkcmaaDoor
