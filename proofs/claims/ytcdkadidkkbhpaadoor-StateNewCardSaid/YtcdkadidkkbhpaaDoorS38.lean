/- Texts that stand behind one another: Renc. No condition. -/
import Derived.Test.YtcdkadidkkbhpaaDoorS37
/- The walk of deponentref19.Encode. No condition. -/
namespace Go.Proofs.YtcdkadidkkbhpaaDoor
open Go Go.RowKit
attribute [local irreducible] mixW
attribute [local go_sem] n8_lo n8_hi n64_lo n64_hi n32_lo n32_hi
set_option maxHeartbeats 3000000 in
set_option maxRecDepth 100000 in
theorem renc_any (v : Value) (s : StaL) (w : World) (hS : Sta w w.heap.size v s) (hok : s.ok) :
    Calls Tryd.prog 15 #[v] w fun e w' => ∃ u, e = .returned u ∧ RwB w' w.heap.size u (encS s) ∧ Below w.heap.size w w' := by
  obtain ⟨tv, rv, gv, rfl, hT, hR, hG⟩ := hS
  obtain ⟨At, ct, e⟩ := hT.shape
  rw [List.length_map] at e
  subst e
  obtain ⟨Ar, cr, rfl⟩ := hR.shape
  obtain ⟨Ag, cg, e⟩ := hG.shape
  rw [List.length_map] at e
  subst e
  obtain ⟨k0, k1, k2, k3, k4, k5⟩ := hok
  have HF := Lib.hid (And.intro hT (And.intro hR (And.intro hG (And.intro k4 k5))))
  have HE := Lib.hid (show i64u (s.tenants.length : Int) = UInt64.ofNat s.tenants.length ∧ i64u (s.trees.length : Int) = UInt64.ofNat s.trees.length ∧ i64u (s.grants.length : Int) = UInt64.ofNat s.grants.length from ⟨i64u_natE _ (by omega), i64u_natE _ (by omega), i64u_natE _ (by omega)⟩)
  have hw32 := Lib.hid (show ∀ d : UInt32, IntKind.u64.wrap (n32 d) = n64 d.toUInt64 from fun d => (wrap_u64' _).trans (cv32_64 d))
  clear hT hR hG k4 k5
  go_enter Tryd.func15, Tryd.ntmps15
  go_upto_region 1 with fail
  refine wp_at (fun W => Blk W w.heap.size 62 (staC s (.slice At s.tenants.length ct) (.slice Ar s.trees.length cr) (.slice Ag s.grants.length cg)) ∧ Below w.heap.size w W) ⟨Blk.new w _ _, below_new1 _ _⟩ ?_
  rintro W1 ⟨hS1, hb1⟩
  have c0 : W1.cell? ⟨w.heap.size, 0, none⟩ = some (.int .u64 (n64 s.clock)) := hS1.cell 0
  have H1 := Lib.hid (And.intro hS1 hb1)
  have m := rnumber_any (.slice none 0 0) [] s.clock 8 (by decide) W1 BSl.nil_ (by simp)
  rw [show clamp8 8 = 8 by decide, List.nil_append] at m
  clear hS1 hb1
  go_upto_region 2 with (first
    | (go_at_call 46; refine m.mono ?_; clear m; rintro e W2 ⟨v2, rfl, ho2, hb2⟩; have F2 := Lib.hid (show RnF w (staC s (.slice At s.tenants.length ct) (.slice Ar s.trees.length cr) (.slice Ag s.grants.length cg)) W2 v2 (numB s.clock 8) from ⟨RwB.mono ho2 H1.out.1.lt, H1.out.1.below hb2 H1.out.1.lt, H1.out.2.trans (hb2.mono H1.out.2.size)⟩); clear ho2 hb2))
  clear c0 H1
  refine wp_region_mixP (.plain 0 <| .plain 1 <| .plain 2 <| .plain 3 <| .plain 5 <| .plain 6 <| .only 4 <| .only 7 <| .plain 8 <| .done) (by kernel_rfl) (by kernel_rfl) (fun W3 hbW => ?_)
  have F3 := Lib.hid (F2.out.next hbW)
  have d1 : ∀ e, (plus W3 e).cell? ⟨w.heap.size, 1, none⟩ = some (.int .u32 (n32 s.draw)) := fun e => (F3.out.2.1.plus e).cell 1
  have d2 : ∀ e, (plus W3 e).cell? ⟨w.heap.size, 2, none⟩ = some (.int .i64 s.lane) := fun e => (F3.out.2.1.plus e).cell 2
  clear F2 hbW
  iterate 6 (refine mix_plain rfl ?_; go_big_quiet_step (fail); refine wpQuiet_nil ?_)
  clear d1 d2
  refine mix_only rfl (fun K hK => ?_)
  go_wp2_with fail
  have m := rnumber_any v2 (numB s.clock 8) s.draw.toUInt64 4 (by decide) W3 F3.out.1.bsl (by rw [numB_length]; decide)
  rw [show clamp8 4 = 4 by decide, ← hw32.out] at m
  refine m.mono ?_
  clear m
  rintro e W4 ⟨v4, rfl, ho, hb⟩
  have F4 := Lib.hid (F3.out.step hb ho)
  go_wp2_with fail
  refine hK _ _ hb ?_
  clear hK K ho hb F3
  refine mix_only rfl (fun K hK => ?_)
  go_wp2_with fail
  have m := rnum_any v4 (numB s.clock 8 ++ numB s.draw.toUInt64 4) s.lane k0 4 (by decide) W4 F4.out.1.bsl (by simp [numB_length])
  rw [show clamp8 4 = 4 by decide] at m
  refine m.mono ?_
  clear m
  rintro e W5 ⟨v5, rfl, ho, hb⟩
  have F5 := Lib.hid (F4.out.step hb ho)
  go_wp2_with fail
  refine hK _ _ hb ?_
  clear hK K ho hb F4
  refine mix_plain rfl ?_
  go_big_quiet_step (fail)
  refine wpQuiet_nil ?_
  refine mix_done ?_
  go_upto_region 3 with fail
  refine wp_region_mixP (.plain 0 <| .plain 1 <| .plain 2 <| .plain 3 <| .plain 5 <| .plain 6 <| .plain 7 <| .plain 9 <| .plain 10 <| .plain 11 <| .only 4 <| .only 8 <| .only 12 <| .plain 13 <| .done) (by kernel_rfl) (by kernel_rfl) (fun W6 hbW => ?_)
  have F6 := Lib.hid (F5.out.next hbW)
  have d3 : ∀ e, (plus W6 e).cell? ⟨w.heap.size, 3, none⟩ = some (.slice At s.tenants.length ct) := fun e => (F6.out.2.1.plus e).cell 3
  have d4 : ∀ e, (plus W6 e).cell? ⟨w.heap.size, 4, none⟩ = some (.slice Ar s.trees.length cr) := fun e => (F6.out.2.1.plus e).cell 4
  have d5 : ∀ e, (plus W6 e).cell? ⟨w.heap.size, 5, none⟩ = some (.slice Ag s.grants.length cg) := fun e => (F6.out.2.1.plus e).cell 5
  clear F5 hbW
  iterate 10 (refine mix_plain rfl ?_; go_big_quiet_step (fail); refine wpQuiet_nil ?_)
  clear d3 d4 d5
  refine mix_only rfl (fun K hK => ?_)
  go_wp2_with fail
  have m := rnum_any v5 (numB s.clock 8 ++ numB s.draw.toUInt64 4 ++ numB (i64u s.lane) 4) (s.tenants.length : Int) (by omega) 2 (by decide) W6 F6.out.1.bsl (by simp [numB_length])
  rw [show clamp8 2 = 2 by decide, HE.out.1] at m
  refine m.mono ?_
  clear m
  rintro e W7 ⟨v7, rfl, ho, hb⟩
  have F7 := Lib.hid (F6.out.step hb ho)
  go_wp2_with fail
  refine hK _ _ hb ?_
  clear hK K ho hb F6
  refine mix_only rfl (fun K hK => ?_)
  go_wp2_with fail
  have m := rnum_any v7 (numB s.clock 8 ++ numB s.draw.toUInt64 4 ++ numB (i64u s.lane) 4 ++ numB (UInt64.ofNat s.tenants.length) 2) (s.trees.length : Int) (by omega) 2 (by decide) W7 F7.out.1.bsl (by simp [numB_length])
  rw [show clamp8 2 = 2 by decide, HE.out.2.1] at m
  refine m.mono ?_
  clear m
  rintro e W8 ⟨v8_, rfl, ho, hb⟩
  have F8 := Lib.hid (F7.out.step hb ho)
  go_wp2_with fail
  refine hK _ _ hb ?_
  clear hK K ho hb F7
  refine mix_only rfl (fun K hK => ?_)
  go_wp2_with fail
  have m := rnum_any v8_ (numB s.clock 8 ++ numB s.draw.toUInt64 4 ++ numB (i64u s.lane) 4 ++ numB (UInt64.ofNat s.tenants.length) 2 ++ numB (UInt64.ofNat s.trees.length) 2) (s.grants.length : Int) (by omega) 2 (by decide) W8 F8.out.1.bsl (by simp [numB_length])
  rw [show clamp8 2 = 2 by decide, HE.out.2.2] at m
  refine m.mono ?_
  clear m
  rintro e W9 ⟨v9, rfl, ho, hb⟩
  have F9 := Lib.hid (F8.out.step hb ho)
  go_wp2_with fail
  refine hK _ _ hb ?_
  clear hK K ho hb F8
  refine mix_plain rfl ?_
  go_big_quiet_step (fail)
  refine wpQuiet_nil ?_
  refine mix_done ?_
  obtain ⟨sC, hsC⟩ : ∃ sC, sC = (staC s (.slice At s.tenants.length ct) (.slice Ar s.trees.length cr) (.slice Ag s.grants.length cg)) := ⟨_, rfl⟩
  have FA : Hid (RnF w sC W9 v9 (encA s)) := by rw [hsC]; exact F9
  have HSC := Lib.hid hsC
  clear F9 hsC HE
  go_wp2_with fail
  go_loopg [3, 4, 5, 7] (s.tenants.length + 1) (fun gk bv iv pv nv wr => ∃ (k : Nat) (bq : Value), bq = bv ∧ s.tenants.length + 1 ≤ k + gk ∧ k ≤ s.tenants.length ∧ iv = .int .i64 (k : Int) ∧ RnF w sC wr bq (encA s ++ (s.tenants.take k).flatMap encTen))
  case atStart => exact ⟨0, v9, rfl, by omega, by omega, rfl, by rw [List.take_zero, List.flatMap_nil, List.append_nil]; exact FA.out⟩
  case round =>
    clear FA
    obtain ⟨k, bq, rfl, hk, hkn, rfl, hF⟩ := hrel
    have HX := Lib.hid (And.intro hk hF)
    clear hk hF
    have c3 : wr.cell? ⟨w.heap.size, 3, none⟩ = some (.slice At s.tenants.length ct) := by rw [HX.out.2.2.1.cell, HSC.out]; rfl
    by_cases hlt : k < s.tenants.length
    · have hki : (k : Int) < (s.tenants.length : Int) := by omega
      have hgk : 0 < gk := by have := HX.out.1; omega
      have hkg := Lib.hid HX.out.1
      obtain ⟨gt, ot, eA, hgt, hra⟩ := HF.out.1.range (by decide) k (by rw [List.length_map]; exact hlt)
      subst eA
      have hra2 : w.rangeAt gt (ot + k * 6) (tenC (s.tenants.getD k zeroTen)).toList := by
        have e1 : (s.tenants.map tenC).getD k #[] = tenC (s.tenants.getD k zeroTen) := by
          rw [List.getD_eq_getElem?_getD, List.getD_eq_getElem?_getD, List.getElem?_map, List.getElem?_eq_getElem hlt]; rfl
        rw [← e1]; exact hra
      have HT := Lib.hid (flatMap_take encTen s.tenants k zeroTen hlt)
      obtain ⟨pre, hpre⟩ : ∃ pre, encA s ++ (s.tenants.take k).flatMap encTen = pre := ⟨_, rfl⟩
      have hpl : pre.length ≤ 100000 := by
        rw [← hpre, List.length_append, encA_len]
        have h1 := flatMap_le encTen 21 (fun x => Nat.le_of_eq (encTen_len x)) (s.tenants.take k)
        have h2 : (s.tenants.take k).length ≤ 1000 := by rw [List.length_take]; omega
        have h3 := Nat.mul_le_mul_right 21 h2
        omega
      have HP := Lib.hid hpre
      generalize s.tenants.getD k zeroTen = t at hra2 HT
      have HR := Lib.hid (show wr.rangeAt gt (ot + k * 6) (tenC t).toList from fun j u hj => (HX.out.2.2.2.cell (p := ⟨gt, ot + k * 6 + j, none⟩) hgt).trans (hra2 j u hj))
      have F0 := Lib.hid (show RnF w sC wr bq pre from by rw [← hpre]; exact HX.out.2)
      clear hra hra2 hpre HX
      have hD := Blk.new wr 109 (tenC zeroTen)
      have hn := below_new1 wr (Obj.cells (tenC zeroTen) 109)
      have hz := zero_rtenant
      go_upto_region 8 with (first
        | (refine wpList_loadR 109 (.tmp 47) rfl gt (ot + k * 6) rfl (tenC t) _ HR.out Tryd.underlying109 rfl (by kernel_rfl) rfl ?_)
        | (refine wpList_storeB rfl rfl 109 (.tmp 5) (.tmp 48) rfl wr.heap.size 0 rfl (tenC t) rfl _ _ hD (by kernel_rfl) (by rw [tenC_size, tenC_size]; omega) (tenC_oneE _) ?_; intro wa hTa hga))
      rw [copied_all _ _ (by rw [tenC_size, tenC_size])] at hTa
      have F1 := Lib.hid (And.intro (F0.out.next (below_only hn hga (Nat.le_refl _) hn.size)) hTa)
      clear hD hn hz hTa hga HR F0 c3
      obtain ⟨tb, htb⟩ : ∃ tb, wr.heap.size = tb := ⟨_, rfl⟩
      rw [htb] at F1
      rw [htb]
      clear htb
      have ct0 : wa.cell? ⟨tb, 0, none⟩ = some (.bool t.on) := F1.out.2.cell 0
      have m := rtruthK bq pre t.on (w.heap.size + 1) wa F1.out.1.1 F1.out.1.lo (by omega)
      go_upto_region 9 with (first
        | (go_at_call 48; refine m.mono ?_; clear m; rintro e wb ⟨b2, rfl, ho, hb, hk⟩; have F2 := Lib.hid (And.intro (F1.out.1.stepK hb ho) (hk _ _ _ F1.out.2 (by decide))); clear ho hb hk))
      clear ct0 F1
      have ct1 : wb.cell? ⟨tb, 1, none⟩ = some (.int .u32 (n32 t.rate)) := F2.out.2.cell 1
      have ct2 : wb.cell? ⟨tb, 2, none⟩ = some (.int .u32 (n32 t.burst)) := F2.out.2.cell 2
      have ct3 : wb.cell? ⟨tb, 3, none⟩ = some (.int .u32 (n32 t.tokens)) := F2.out.2.cell 3
      have ct4 : wb.cell? ⟨tb, 4, none⟩ = some (.int .u32 (n32 t.store)) := F2.out.2.cell 4
      have ct5 : wb.cell? ⟨tb, 5, none⟩ = some (.int .u32 (n32 t.used)) := F2.out.2.cell 5
      go_upto_region 10 with fail
      clear ct1 ct2 ct3 ct4 ct5
      refine wp_at (fun W => Blk W wb.heap.size 22 ((tenN t).map v32).toArray ∧ RnF w sC W b2 (pre ++ flagB t.on)) ⟨Blk.new wb _ _, F2.out.1.next (below_new1 _ _)⟩ ?_
      clear F2
      rintro wc ⟨hLb, hFc⟩
      have HC := Lib.hid (And.intro hLb hFc)
      clear hLb hFc
      generalize wb.heap.size = lb at HC ⊢
      obtain ⟨gk0, hgk0⟩ : ∃ n, n = gk := ⟨_, rfl⟩
      go_loopg [3, 7, 68] 6 (fun gi bv nv jv wq => ∃ (j : Nat) (bq : Value), bq = bv ∧ 6 ≤ j + gi ∧ j ≤ 5 ∧ jv = .int .i64 (j : Int) ∧ Blk wq lb 22 ((tenN t).map v32).toArray ∧ RnF w sC wq bq (pre ++ flagB t.on ++ ((tenN t).take j).flatMap num4))
      case atStart => exact ⟨0, b2, rfl, by omega, by omega, rfl, HC.out.1, by rw [List.take_zero, List.flatMap_nil, List.append_nil]; exact HC.out.2⟩
      case round =>
        obtain ⟨j, bz, rfl, hj, hj5, rfl, hLq, hFq⟩ := hrel
        have HQ := Lib.hid (And.intro hj (And.intro hLq hFq))
        clear hj hLq hFq HC
        by_cases hj4 : j < 5
        · have hji : (j : Int) < 5 := by omega
          have hFM := Lib.hid (flatMap_take num4 (tenN t) j 0 hj4)
          have cl := HQ.out.2.1.cell j
          have el : ((tenN t).map v32).toArray[j]? = some (v32 ((tenN t).getD j 0)) := by
            rw [List.getElem?_toArray, List.getElem?_map, List.getD_eq_getElem?_getD, List.getElem?_eq_getElem (show j < (tenN t).length from hj4)]; rfl
          rw [el] at cl
          clear el
          generalize (tenN t).getD j 0 = d at cl hFM
          have m := rnumber_any bz (pre ++ flagB t.on ++ ((tenN t).take j).flatMap num4) d.toUInt64 4 (by decide) wr HQ.out.2.2.1.bsl (by
            rw [List.length_append, List.length_append, num4s_len, List.length_take]
            have : (flagB t.on).length = 1 := rfl
            have : (tenN t).length = 5 := rfl
            omega)
          rw [show clamp8 4 = 4 by decide, ← hw32.out, List.append_assoc, show numB d.toUInt64 4 = num4 d from rfl, ← hFM.out] at m
          have cl' : wr.cell? ⟨lb, j, none⟩ = some (.int .u32 (n32 d)) := cl
          clear cl hFM
          go_wp2_with (first
            | (go_at_call 46; refine m.mono ?_; clear m; rintro e wy ⟨by_, rfl, ho, hb⟩; have HY := Lib.hid (And.intro (HQ.out.2.1.below hb HQ.out.2.1.lt) (HQ.out.2.2.step hb ho)); clear ho hb))
          clear cl'
          go_roundg (gk - 1)
          case measure => have := HQ.out.1; omega
          case rel => exact ⟨j + 1, by_, rfl, by have := HQ.out.1; omega, by omega, by go_num, HY.out.1, HY.out.2⟩
        · obtain rfl : j = 5 := by omega
          have HY := Lib.hid (show RnF w sC wr bz (encA s ++ (s.tenants.take (k + 1)).flatMap encTen) from by
            have h1 := HQ.out.2.2
            rw [show (tenN t).take 5 = tenN t from rfl] at h1
            rw [HT.out, ← List.append_assoc, HP.out]
            show RnF w sC wr bz (pre ++ (flagB t.on ++ (tenN t).flatMap num4))
            rw [← List.append_assoc]
            exact h1)
          clear HQ
          go_wp2_with fail
          go_roundg (gk0 - 1)
          case measure => omega
          case rel => exact ⟨k + 1, bz, rfl, by have := hkg.out; omega, by omega, by go_num, HY.out⟩
    · obtain rfl : k = s.tenants.length := by omega
      have FB : Hid (RnF w sC wr bq (encA s ++ s.tenants.flatMap encTen)) := by
        have h1 := HX.out.2
        rw [List.take_length] at h1
        exact Lib.hid h1
      clear HX hlt hkn
      obtain ⟨A1, hA1⟩ : ∃ A1, encA s ++ s.tenants.flatMap encTen = A1 := ⟨_, rfl⟩
      have HA1 := Lib.hid (show encA s ++ s.tenants.flatMap encTen = A1 ∧ A1.length ≤ 100000 from ⟨hA1, by
        rw [← hA1, List.length_append, encA_len]
        have h1 := flatMap_le encTen 21 (fun x => Nat.le_of_eq (encTen_len x)) s.tenants
        have h3 := Nat.mul_le_mul_right 21 k1
        omega⟩)
      rw [hA1] at FB
      clear hA1
      go_wp2_with fail
      clear c3
      go_loopg [3, 8, 9, 10] (s.trees.length + 1) (fun gk bv iv pv nv wr => ∃ (k : Nat) (bq : Value), bq = bv ∧ s.trees.length + 1 ≤ k + gk ∧ k ≤ s.trees.length ∧ iv = .int .i64 (k : Int) ∧ RnF w sC wr bq (A1 ++ (s.trees.take k).flatMap encTre))
      case atStart => exact ⟨0, bq, rfl, by omega, by omega, rfl, by rw [List.take_zero, List.flatMap_nil, List.append_nil]; exact FB.out⟩
      case round =>
        clear FB
        obtain ⟨k, bq, rfl, hk, hkn, rfl, hF⟩ := hrel
        have HX := Lib.hid (And.intro hk hF)
        clear hk hF
        have c4 : wr.cell? ⟨w.heap.size, 4, none⟩ = some (.slice Ar s.trees.length cr) := by rw [HX.out.2.2.1.cell, HSC.out]; rfl
        by_cases hlt : k < s.trees.length
        · have hki : (k : Int) < (s.trees.length : Int) := by omega
          have hgk : 0 < gk := by have := HX.out.1; omega
          have hkg := Lib.hid HX.out.1
          obtain ⟨gr, or_, d, l, q, eA, hgr, hra, hd, hl, hq⟩ := HF.out.2.1.at_ k hlt
          subst eA
          have hok : (s.trees.getD k zeroTre).ok := HF.out.2.2.2.1 _ (by rw [List.getD_eq_getElem?_getD, List.getElem?_eq_getElem hlt]; exact List.getElem_mem _)
          have HT := Lib.hid (flatMap_take encTre s.trees k zeroTre hlt)
          obtain ⟨pre, hpre⟩ : ∃ pre, A1 ++ (s.trees.take k).flatMap encTre = pre := ⟨_, rfl⟩
          have hpl : pre.length ≤ 131090000000000 := by
            rw [← hpre, List.length_append]
            have h1 := flatMap_okle (s.trees.take k) (fun t ht => HF.out.2.2.2.1 t (List.mem_of_mem_take ht))
            have h2 : (s.trees.take k).length ≤ 1000 := by rw [List.length_take]; omega
            have h3 := Nat.mul_le_mul_right 131080000000 h2
            have h4 := HA1.out.2
            omega
          have HP := Lib.hid hpre
          generalize s.trees.getD k zeroTre = t at hra hd hl hq hok HT
          obtain ⟨Ad, cd, rfl⟩ := hd.shape
          obtain ⟨Al, cl, rfl⟩ : ∃ A c, l = .slice A t.leaves.length c := by obtain ⟨A, c, _, e, _⟩ := hl; exact ⟨A, c, e⟩
          obtain ⟨Aq, cq, rfl⟩ : ∃ A c, q = .slice A t.queue.length c := by obtain ⟨A, c, _, e, _⟩ := hq; exact ⟨A, c, e⟩
          have HR := Lib.hid (show wr.rangeAt gr (or_ + k * 75) (treC t (.slice Ad t.draws.length cd) (.slice Al t.leaves.length cl) (.slice Aq t.queue.length cq)).toList from fun j u hj => (HX.out.2.2.2.cell (p := ⟨gr, or_ + k * 75 + j, none⟩) hgr).trans (hra j u hj))
          have F0 := Lib.hid (show RnF w sC wr bq pre from by rw [← hpre]; exact HX.out.2)
          have HL := Lib.hid (And.intro hd (And.intro hl (And.intro hq hok)))
          have hndr : t.draws.length ≤ 1000000 := hok.2.2.2.2.2.2.1
          have hi0 := hok.1
          have hi1 := hok.2.1
          have hi2 := hok.2.2.1
          have hi3 := hok.2.2.2.1
          clear hra hpre HX hd hl hq hok
          have hD := Blk.new wr 111 (treC ⟨0, 0, 0, 0, [], [], [], zeroHead, []⟩ (.slice none 0 0) (.slice none 0 0) (.slice none 0 0))
          have hn := below_new1 wr (Obj.cells (treC ⟨0, 0, 0, 0, [], [], [], zeroHead, []⟩ (.slice none 0 0) (.slice none 0 0) (.slice none 0 0)) 111)
          have hz := zero_rtree
          go_upto_region 18 with (first
            | (refine wpList_loadR 111 (.tmp 87) rfl gr (or_ + k * 75) rfl (treC t (.slice Ad t.draws.length cd) (.slice Al t.leaves.length cl) (.slice Aq t.queue.length cq)) _ HR.out Tryd.underlying111 rfl (by rw [treC_size]; kernel_rfl) rfl ?_)
            | (refine wpList_storeB rfl rfl 111 (.tmp 9) (.tmp 88) rfl wr.heap.size 0 rfl (treC t (.slice Ad t.draws.length cd) (.slice Al t.leaves.length cl) (.slice Aq t.queue.length cq)) rfl _ _ hD (by rw [treC_size]; kernel_rfl) (by rw [treC_size, treC_size]; omega) (treC_one _ _ _ _ rfl rfl rfl) ?_; intro wa hTa hga))
          rw [copied_all _ _ (by rw [treC_size, treC_size])] at hTa
          have F1 := Lib.hid (And.intro (F0.out.next (below_only hn hga (Nat.le_refl _) hn.size)) hTa)
          clear hD hn hz hTa hga HR F0 c4
          obtain ⟨tb, htb⟩ : ∃ tb, wr.heap.size = tb := ⟨_, rfl⟩
          rw [htb] at F1
          rw [htb]
          clear htb
          refine wp_region_mixP (.plain 0 <| .plain 1 <| .plain 2 <| .plain 4 <| .plain 5 <| .plain 7 <| .plain 8 <| .plain 10 <| .plain 11 <| .only 3 <| .only 6 <| .only 9 <| .only 12 <| .plain 13 <| .done) (by kernel_rfl) (by kernel_rfl) (fun W2 hbW => ?_)
          have F2 := Lib.hid (And.intro (F1.out.1.next hbW) (F1.out.2.below hbW F1.out.2.lt))
          have d0 : ∀ e, (plus W2 e).cell? ⟨tb, 0, none⟩ = some (.int .i64 t.state) := fun e => by rw [(F2.out.2.plus e).cell, treC_0]
          have d1 : ∀ e, (plus W2 e).cell? ⟨tb, 1, none⟩ = some (.int .i64 t.tenant) := fun e => by rw [(F2.out.2.plus e).cell, treC_1]
          have d2 : ∀ e, (plus W2 e).cell? ⟨tb, 2, none⟩ = some (.int .i64 t.weight) := fun e => by rw [(F2.out.2.plus e).cell, treC_2]
          have d3 : ∀ e, (plus W2 e).cell? ⟨tb, 3, none⟩ = some (.int .i64 t.deficit) := fun e => by rw [(F2.out.2.plus e).cell, treC_3]
          clear F1 hbW
          iterate 9 (refine mix_plain rfl ?_; go_big_quiet_step (fail); refine wpQuiet_nil ?_)
          clear d0 d1 d2 d3
          refine mix_only rfl (fun K hK => ?_)
          go_wp2_with fail
          have m := rnum_any bq (pre) t.state hi0 1 (by decide) W2 F2.out.1.1.bsl (by (try simp only [List.length_append, numB_length]); omega)
          rw [show clamp8 1 = 1 by decide] at m
          refine m.mono ?_
          clear m
          rintro e W3 ⟨x2, rfl, ho, hb⟩
          have F3 := Lib.hid (And.intro (F2.out.1.step hb ho) (F2.out.2.below hb F2.out.2.lt))
          go_wp2_with fail
          refine hK _ _ hb ?_
          clear hK K ho hb F2
          refine mix_only rfl (fun K hK => ?_)
          go_wp2_with fail
          have m := rnum_any x2 (pre ++ numB (i64u t.state) 1) t.tenant hi1 1 (by decide) W3 F3.out.1.1.bsl (by (try simp only [List.length_append, numB_length]); omega)
          rw [show clamp8 1 = 1 by decide] at m
          refine m.mono ?_
          clear m
          rintro e W4 ⟨x3, rfl, ho, hb⟩
          have F4 := Lib.hid (And.intro (F3.out.1.step hb ho) (F3.out.2.below hb F3.out.2.lt))
          go_wp2_with fail
          refine hK _ _ hb ?_
          clear hK K ho hb F3
          refine mix_only rfl (fun K hK => ?_)
          go_wp2_with fail
          have m := rnum_any x3 (pre ++ numB (i64u t.state) 1 ++ numB (i64u t.tenant) 1) t.weight hi2 1 (by decide) W4 F4.out.1.1.bsl (by (try simp only [List.length_append, numB_length]); omega)
          rw [show clamp8 1 = 1 by decide] at m
          refine m.mono ?_
          clear m
          rintro e W5 ⟨x4, rfl, ho, hb⟩
          have F5 := Lib.hid (And.intro (F4.out.1.step hb ho) (F4.out.2.below hb F4.out.2.lt))
          go_wp2_with fail
          refine hK _ _ hb ?_
          clear hK K ho hb F4
          refine mix_only rfl (fun K hK => ?_)
          go_wp2_with fail
          have m := rnum_any x4 (pre ++ numB (i64u t.state) 1 ++ numB (i64u t.tenant) 1 ++ numB (i64u t.weight) 1) t.deficit hi3 4 (by decide) W5 F5.out.1.1.bsl (by (try simp only [List.length_append, numB_length]); omega)
          rw [show clamp8 4 = 4 by decide] at m
          refine m.mono ?_
          clear m
          rintro e W6 ⟨x5, rfl, ho, hb⟩
          have F6 := Lib.hid (And.intro (F5.out.1.step hb ho) (F5.out.2.below hb F5.out.2.lt))
          go_wp2_with fail
          refine hK _ _ hb ?_
          clear hK K ho hb F5
          refine mix_plain rfl ?_
          go_big_quiet_step (fail)
          refine wpQuiet_nil ?_
          refine mix_done ?_
          have c4 : W6.cell? ⟨tb, 4, none⟩ = some (.slice Ad t.draws.length cd) := by rw [F6.out.2.cell, treC_4]
          have m := rnum_any x5 (pre ++ numB (i64u t.state) 1 ++ numB (i64u t.tenant) 1 ++ numB (i64u t.weight) 1 ++ numB (i64u t.deficit) 4) (t.draws.length : Int) (by omega) 2 (by decide) W6 F6.out.1.1.bsl (by (try simp only [List.length_append, numB_length]); omega)
          rw [show clamp8 2 = 2 by decide, i64u_natE _ hndr] at m
          go_upto_region 20 with (first
            | (go_at_call 47; refine m.mono ?_; clear m; rintro e W7 ⟨x6, rfl, ho, hb⟩; have F7 := Lib.hid (And.intro (F6.out.1.step hb ho) (F6.out.2.below hb F6.out.2.lt)); clear ho hb))
          clear c4 F6
          obtain ⟨P1, hP1⟩ : ∃ P1, pre ++ encTreA t = P1 := ⟨_, rfl⟩
          have F8 := Lib.hid (show RnF w sC W7 x6 P1 ∧ Blk W7 tb 111 (treC t (.slice Ad t.draws.length cd) (.slice Al t.leaves.length cl) (.slice Aq t.queue.length cq)) from ⟨by rw [← hP1, show pre ++ encTreA t = pre ++ numB (i64u t.state) 1 ++ numB (i64u t.tenant) 1 ++ numB (i64u t.weight) 1 ++ numB (i64u t.deficit) 4 ++ numB (UInt64.ofNat t.draws.length) 2 from by simp only [encTreA, List.append_assoc]]; exact F7.out.1, F7.out.2⟩)
          have HP1 := Lib.hid (show pre ++ encTreA t = P1 ∧ P1.length ≤ 131090000000009 from ⟨hP1, by rw [← hP1, List.length_append, encTreA_len]; omega⟩)
          clear F7 hP1
          obtain ⟨gk0, hgk0⟩ : ∃ n, n = gk := ⟨_, rfl⟩
          go_wp2_with fail
          go_loopg [3, 10] (t.draws.length + 1) (fun gi bv jv wq => ∃ (j : Nat) (bq : Value), bq = bv ∧ t.draws.length + 1 ≤ j + gi ∧ j ≤ t.draws.length ∧ jv = .int .i64 (j : Int) ∧ Blk wq tb 111 (treC t (.slice Ad t.draws.length cd) (.slice Al t.leaves.length cl) (.slice Aq t.queue.length cq)) ∧ RnF w sC wq bq (P1 ++ (t.draws.take j).flatMap num4))
          case atStart => exact ⟨0, x6, rfl, by omega, by omega, rfl, F8.out.2, by rw [List.take_zero, List.flatMap_nil, List.append_nil]; exact F8.out.1⟩
          case round =>
            clear F8
            obtain ⟨j, bz, rfl, hj, hjn, rfl, hTq, hFq⟩ := hrel
            have HQ := Lib.hid (And.intro hj (And.intro hTq hFq))
            clear hj hTq hFq
            have c4 : wr.cell? ⟨tb, 4, none⟩ = some (.slice Ad t.draws.length cd) := by rw [HQ.out.2.1.cell, treC_4]
            by_cases hjl : j < t.draws.length
            · have hji : (j : Int) < (t.draws.length : Int) := by omega
              have hFM := Lib.hid (flatMap_take num4 t.draws j 0 hjl)
              obtain ⟨gd, od, eD, hgd, hcd⟩ := (HL.out.1.below HQ.out.2.2.2.2).cellAt j hjl
              subst eD
              generalize t.draws.getD j 0 = d at hcd hFM
              have cl' : wr.cell? ⟨gd, od + j, none⟩ = some (.int .u32 (n32 d)) := hcd
              clear hcd
              have m := rnumber_any bz (P1 ++ (t.draws.take j).flatMap num4) d.toUInt64 4 (by decide) wr HQ.out.2.2.1.bsl (by
                rw [List.length_append, num4s_len, List.length_take]
                have := HP1.out.2
                omega)
              rw [show clamp8 4 = 4 by decide, ← hw32.out, List.append_assoc, show numB d.toUInt64 4 = num4 d from rfl, ← hFM.out] at m
              clear hFM
              go_wp2_with (first
                | (go_at_call 46; refine m.mono ?_; clear m; rintro e wy ⟨by_, rfl, ho, hb⟩; have HY := Lib.hid (And.intro (HQ.out.2.1.below hb HQ.out.2.1.lt) (HQ.out.2.2.step hb ho)); clear ho hb))
              clear cl' c4
              go_roundg (gk - 1)
              case measure => have := HQ.out.1; omega
              case rel => exact ⟨j + 1, by_, rfl, by have := HQ.out.1; omega, by omega, by go_num, HY.out.1, HY.out.2⟩
            · obtain rfl : j = t.draws.length := by omega
              obtain ⟨P2, hP2⟩ : ∃ P2, P1 ++ t.draws.flatMap num4 = P2 := ⟨_, rfl⟩
              have F9 := Lib.hid (show RnF w sC wr bz P2 ∧ Blk wr tb 111 (treC t (.slice Ad t.draws.length cd) (.slice Al t.leaves.length cl) (.slice Aq t.queue.length cq)) from ⟨by rw [← hP2]; have h1 := HQ.out.2.2; rw [List.take_length] at h1; exact h1, HQ.out.2.1⟩)
              have HP2 := Lib.hid (show P1 ++ t.draws.flatMap num4 = P2 ∧ P2.length ≤ 131090004000009 from ⟨hP2, by rw [← hP2, List.length_append, num4s_len]; have := HP1.out.2; omega⟩)
              clear HQ hP2 hjl hjn
              go_upto_region 24 with fail
              clear c4
              refine wp_region_mixP (.plain 0 <| .plain 1 <| .plain 2 <| .plain 4 <| .plain 5 <| .plain 7 <| .plain 8 <| .only 3 <| .only 6 <| .only 9 <| .plain 10 <| .done) (by kernel_rfl) (by kernel_rfl) (fun W2 hbW => ?_)
              have G0 := Lib.hid (And.intro (F9.out.1.next hbW) (F9.out.2.below hbW F9.out.2.lt))
              have d5 : ∀ e, (plus W2 e).cell? ⟨tb, 5, none⟩ = some (.slice Al t.leaves.length cl) := fun e => by rw [(G0.out.2.plus e).cell, treC_5]
              have d6 : ∀ e, (plus W2 e).cell? ⟨tb, 6, none⟩ = some (.slice Aq t.queue.length cq) := fun e => by rw [(G0.out.2.plus e).cell, treC_6]
              have HR := Lib.hid (show ∀ e, (plus W2 e).rangeAt tb 7 (sigC t.head t.tag).toList from fun e => tre_sig_range (G0.out.2.plus e))
              clear F9 hbW
              iterate 7 (refine mix_plain rfl ?_; (first
                  | (refine wpQuiet_loadMid rfl 42 (.tmp 129) rfl tb 7 rfl (sigC t.head t.tag) _ (fun V hV => by obtain ⟨e, rfl⟩ := hV; exact HR.out e) Tryd.underlying42 rfl (by rw [sigC_size]; kernel_rfl) ?_; simp only [Act.put, List.setIfInBounds_toArray, List.set_cons_zero, List.set_cons_succ])
                  | go_big_quiet_step (fail)); refine wpQuiet_nil ?_)
              clear d5 d6 HR
              have hLl := encL_len t.leaves HL.out.2.2.2.2.2.2.2.2.2.2.1
              have hLq := encL_len t.queue HL.out.2.2.2.2.2.2.2.2.2.2.2.1
              refine mix_only rfl (fun K hK => ?_)
              go_wp2_with fail
              have m := rlist_any bz (.slice Al t.leaves.length cl) (P2) t.leaves W2 G0.out.1.1.bsl ((HL.out.2.1.below G0.out.1.2.2).more G0.out.1.2.2.size) HL.out.2.2.2.2.2.2.2.2.2.2.1 (by have := HP2.out.2; omega)
              refine m.mono ?_
              clear m
              rintro e W3 ⟨y2, rfl, ho, hb⟩
              have G1 := Lib.hid (And.intro (G0.out.1.step hb ho) (G0.out.2.below hb G0.out.2.lt))
              go_wp2_with fail
              refine hK _ _ hb ?_
              clear hK K ho hb G0
              refine mix_only rfl (fun K hK => ?_)
              go_wp2_with fail
              have m := rlist_any y2 (.slice Aq t.queue.length cq) (P2 ++ encL t.leaves) t.queue W3 G1.out.1.1.bsl ((HL.out.2.2.1.below G1.out.1.2.2).more G1.out.1.2.2.size) HL.out.2.2.2.2.2.2.2.2.2.2.2.1 (by rw [List.length_append]; have := HP2.out.2; omega)
              refine m.mono ?_
              clear m
              rintro e W4 ⟨y3, rfl, ho, hb⟩
              have G2 := Lib.hid (And.intro (G1.out.1.step hb ho) (G1.out.2.below hb G1.out.2.lt))
              go_wp2_with fail
              refine hK _ _ hb ?_
              clear hK K ho hb G1
              refine mix_only rfl (fun K hK => ?_)
              go_wp2_with fail
              have m := rhd_any y3 (P2 ++ encL t.leaves ++ encL t.queue) t.head t.tag HL.out.2.2.2.2.2.2.2.1 HL.out.2.2.2.2.2.2.2.2.1 W4 G2.out.1.1.bsl (by rw [List.length_append, List.length_append]; have := HP2.out.2; omega)
              refine m.mono ?_
              clear m
              rintro e W5 ⟨y4, rfl, ho, hb⟩
              have G3 := Lib.hid (G2.out.1.step hb ho)
              go_wp2_with fail
              refine hK _ _ hb ?_
              clear hK K ho hb G2
              refine mix_plain rfl ?_
              go_big_quiet_step (fail)
              refine wpQuiet_nil ?_
              refine mix_done ?_
              clear hLl hLq
              have HY := Lib.hid (show RnF w sC W5 y4 (A1 ++ (s.trees.take (k + 1)).flatMap encTre) from by
                rw [HT.out, ← List.append_assoc, HP.out]
                have e1 : pre ++ encTre t = P2 ++ encL t.leaves ++ encL t.queue ++ encHd t.head t.tag := by
                  rw [← HP2.out.1, ← HP1.out.1]
                  simp only [encTre, List.append_assoc]
                rw [e1]
                exact G3.out)
              clear G3
              go_wp2_with fail
              go_roundg (gk0 - 1)
              case measure => omega
              case rel => exact ⟨k + 1, y4, rfl, by have := hkg.out; omega, by omega, by go_num, HY.out⟩
        · obtain rfl : k = s.trees.length := by omega
          have FC : Hid (RnF w sC wr bq (A1 ++ s.trees.flatMap encTre)) := by
            have h1 := HX.out.2
            rw [List.take_length] at h1
            exact Lib.hid h1
          clear HX hlt hkn
          obtain ⟨A2, hA2⟩ : ∃ A2, A1 ++ s.trees.flatMap encTre = A2 := ⟨_, rfl⟩
          have HA2 := Lib.hid (show A1 ++ s.trees.flatMap encTre = A2 ∧ A2.length ≤ 131090000000000 from ⟨hA2, by
            rw [← hA2, List.length_append]
            have h1 := flatMap_okle s.trees HF.out.2.2.2.1
            have h3 := Nat.mul_le_mul_right 131080000000 k2
            have := HA1.out.2
            omega⟩)
          rw [hA2] at FC
          clear hA2
          go_wp2_with fail
          clear c4
          go_loopg [3, 11, 12] (s.grants.length + 1) (fun gk bv iv pv wr => ∃ (k : Nat) (bq : Value), bq = bv ∧ s.grants.length + 1 ≤ k + gk ∧ k ≤ s.grants.length ∧ iv = .int .i64 (k : Int) ∧ RnF w sC wr bq (A2 ++ (s.grants.take k).flatMap encGra))
          case atStart => exact ⟨0, bq, rfl, by omega, by omega, rfl, by rw [List.take_zero, List.flatMap_nil, List.append_nil]; exact FC.out⟩
          case round =>
            clear FC
            obtain ⟨k, bq, rfl, hk, hkn, rfl, hF⟩ := hrel
            have HX := Lib.hid (And.intro hk hF)
            clear hk hF
            have c5 : wr.cell? ⟨w.heap.size, 5, none⟩ = some (.slice Ag s.grants.length cg) := by rw [HX.out.2.2.1.cell, HSC.out]; rfl
            have hpl : (A2 ++ (s.grants.take k).flatMap encGra).length ≤ 131090000100000 := by
              rw [List.length_append]
              have h1 := flatMap_le encGra 11 (fun x => Nat.le_of_eq (encGra_len x)) (s.grants.take k)
              have h2 : (s.grants.take k).length ≤ 1000 := by rw [List.length_take]; omega
              have h3 := Nat.mul_le_mul_right 11 h2
              have h4 := HA2.out.2
              omega
            by_cases hlt : k < s.grants.length
            · have hki : (k : Int) < (s.grants.length : Int) := by omega
              have hgk : 0 < gk := by have := HX.out.1; omega
              obtain ⟨gt, ot, eA, hgt, hra⟩ := HF.out.2.2.1.range (by decide) k (by rw [List.length_map]; exact hlt)
              subst eA
              have hra2 : w.rangeAt gt (ot + k * 4) (graC (s.grants.getD k ⟨0, 0, 0, false⟩)).toList := by
                have e1 : (s.grants.map graC).getD k #[] = graC (s.grants.getD k ⟨0, 0, 0, false⟩) := by
                  rw [List.getD_eq_getElem?_getD, List.getD_eq_getElem?_getD, List.getElem?_map, List.getElem?_eq_getElem hlt]; rfl
                rw [← e1]; exact hra
              have hgok : (s.grants.getD k ⟨0, 0, 0, false⟩).ok := HF.out.2.2.2.2 _ (by rw [List.getD_eq_getElem?_getD, List.getElem?_eq_getElem hlt]; exact List.getElem_mem _)
              have HT := Lib.hid (flatMap_take encGra s.grants k ⟨0, 0, 0, false⟩ hlt)
              obtain ⟨pre, hpre⟩ : ∃ pre, A2 ++ (s.grants.take k).flatMap encGra = pre := ⟨_, rfl⟩
              rw [hpre] at hpl
              have HP := Lib.hid hpre
              generalize s.grants.getD k ⟨0, 0, 0, false⟩ = t at hra2 HT hgok
              have HR := Lib.hid (show wr.rangeAt gt (ot + k * 4) (graC t).toList from fun j u hj => (HX.out.2.2.2.cell (p := ⟨gt, ot + k * 4 + j, none⟩) hgt).trans (hra2 j u hj))
              have F0 := Lib.hid (show RnF w sC wr bq pre from by rw [← hpre]; exact HX.out.2)
              have hkg := Lib.hid HX.out.1
              have hi0 := hgok.1
              have hi1 := hgok.2
              clear hra hra2 hpre HX hgok
              have hD := Blk.new wr 114 (graC ⟨0, 0, 0, false⟩)
              have hn := below_new1 wr (Obj.cells (graC ⟨0, 0, 0, false⟩) 114)
              have hz := zero_rgrant
              go_upto_region 29 with (first
                | (refine wpList_loadR 114 (.tmp 142) rfl gt (ot + k * 4) rfl (graC t) _ HR.out Tryd.underlying114 rfl (by kernel_rfl) rfl ?_)
                | (refine wpList_storeB rfl rfl 114 (.tmp 12) (.tmp 143) rfl wr.heap.size 0 rfl (graC t) rfl _ _ hD (by kernel_rfl) (by rw [graC_size, graC_size]; omega) (graC_oneE _) ?_; intro wa hTa hga))
              rw [copied_all _ _ (by rw [graC_size, graC_size])] at hTa
              have F1 := Lib.hid (And.intro (F0.out.next (below_only hn hga (Nat.le_refl _) hn.size)) hTa)
              clear hD hn hz hTa hga HR F0 c5
              obtain ⟨tb, htb⟩ : ∃ tb, wr.heap.size = tb := ⟨_, rfl⟩
              rw [htb] at F1
              rw [htb]
              clear htb
              refine wp_region_mixP (.plain 0 <| .plain 1 <| .plain 2 <| .plain 4 <| .plain 5 <| .plain 7 <| .plain 8 <| .only 3 <| .only 6 <| .only 9 <| .plain 10 <| .done) (by kernel_rfl) (by kernel_rfl) (fun W2 hbW => ?_)
              have F2 := Lib.hid (And.intro (F1.out.1.next hbW) (F1.out.2.below hbW F1.out.2.lt))
              have d0 : ∀ e, (plus W2 e).cell? ⟨tb, 0, none⟩ = some (.int .i64 t.tenant) := fun e => (F2.out.2.plus e).cell 0
              have d1 : ∀ e, (plus W2 e).cell? ⟨tb, 1, none⟩ = some (.int .i64 t.role) := fun e => (F2.out.2.plus e).cell 1
              have d2 : ∀ e, (plus W2 e).cell? ⟨tb, 2, none⟩ = some (.int .u64 (n64 t.expires)) := fun e => (F2.out.2.plus e).cell 2
              clear F1 hbW
              iterate 7 (refine mix_plain rfl ?_; go_big_quiet_step (fail); refine wpQuiet_nil ?_)
              clear d0 d1 d2
              refine mix_only rfl (fun K hK => ?_)
              go_wp2_with fail
              have m := rnum_any bq (pre) t.tenant hi0 1 (by decide) W2 F2.out.1.1.bsl (by (try simp only [List.length_append, numB_length]); omega)
              rw [show clamp8 1 = 1 by decide] at m
              refine m.mono ?_
              clear m
              rintro e W3 ⟨x2, rfl, ho, hb⟩
              have F3 := Lib.hid (And.intro (F2.out.1.step hb ho) (F2.out.2.below hb F2.out.2.lt))
              go_wp2_with fail
              refine hK _ _ hb ?_
              clear hK K ho hb F2
              refine mix_only rfl (fun K hK => ?_)
              go_wp2_with fail
              have m := rnum_any x2 (pre ++ numB (i64u t.tenant) 1) t.role hi1 1 (by decide) W3 F3.out.1.1.bsl (by (try simp only [List.length_append, numB_length]); omega)
              rw [show clamp8 1 = 1 by decide] at m
              refine m.mono ?_
              clear m
              rintro e W4 ⟨x3, rfl, ho, hb⟩
              have F4 := Lib.hid (And.intro (F3.out.1.step hb ho) (F3.out.2.below hb F3.out.2.lt))
              go_wp2_with fail
              refine hK _ _ hb ?_
              clear hK K ho hb F3
              refine mix_only rfl (fun K hK => ?_)
              go_wp2_with fail
              have m := rnumber_any x3 (pre ++ numB (i64u t.tenant) 1 ++ numB (i64u t.role) 1) t.expires 8 (by decide) W4 F4.out.1.1.bsl (by (try simp only [List.length_append, numB_length]); omega)
              rw [show clamp8 8 = 8 by decide] at m
              refine m.mono ?_
              clear m
              rintro e W5 ⟨x4, rfl, ho, hb⟩
              have F5 := Lib.hid (And.intro (F4.out.1.step hb ho) (F4.out.2.below hb F4.out.2.lt))
              go_wp2_with fail
              refine hK _ _ hb ?_
              clear hK K ho hb F4
              refine mix_plain rfl ?_
              go_big_quiet_step (fail)
              refine wpQuiet_nil ?_
              refine mix_done ?_
              have ct3 : W5.cell? ⟨tb, 3, none⟩ = some (.bool t.revoked) := F5.out.2.cell 3
              have m := rtruthK x4 (pre ++ numB (i64u t.tenant) 1 ++ numB (i64u t.role) 1 ++ numB t.expires 8) t.revoked (w.heap.size + 1) W5 F5.out.1.1 F5.out.1.lo (by (try simp only [List.length_append, numB_length]); omega)
              go_upto_region 27 with (first
                | (go_at_call 48; refine m.mono ?_; clear m; rintro e W6 ⟨x5, rfl, ho, hb, hk⟩; have F6 := Lib.hid (F5.out.1.stepK hb ho); clear ho hb hk))
              clear ct3 F5
              have HY := Lib.hid (show RnF w sC W6 x5 (A2 ++ (s.grants.take (k + 1)).flatMap encGra) from by
                rw [HT.out, ← List.append_assoc, HP.out]
                have e1 : pre ++ encGra t = pre ++ numB (i64u t.tenant) 1 ++ numB (i64u t.role) 1 ++ numB t.expires 8 ++ flagB t.revoked := by simp only [encGra, List.append_assoc]
                rw [e1]
                exact F6.out)
              clear F6
              go_wp2_with fail
              go_roundg (gk - 1)
              case measure => omega
              case rel => exact ⟨k + 1, x5, rfl, by have := hkg.out; omega, by omega, by go_num, HY.out⟩
            · obtain rfl : k = s.grants.length := by omega
              have hE : encS s = A2 ++ s.grants.flatMap encGra := by rw [← HA2.out.1, ← HA1.out.1]; rfl
              have FD : Hid (RnF w sC wr bq (encS s)) := by
                have h1 := HX.out.2
                rw [List.take_length] at h1
                rw [hE]
                exact Lib.hid h1
              clear HX hlt hkn hE hpl
              go_wp2_with fail
              go_ret
              exact ⟨_, rfl, RwB.mono FD.out.1 (Nat.le_succ _), FD.out.2.2⟩
end Go.Proofs.YtcdkadidkkbhpaaDoor
