/- Texts that stand behind one another: SamC. No condition. -/
import Derived.Test.YtcdkadidkkbhpaaDoorS28
/- The walk of slices.EqualFunc at trees. No condition. -/
namespace Go.Proofs.YtcdkadidkkbhpaaDoor
open Go Go.RowKit
attribute [local irreducible] mixW
attribute [local go_sem] n8_lo n8_hi n64_lo n64_hi n32_lo n32_hi
set_option maxHeartbeats 2000000 in
set_option maxRecDepth 100000 in
theorem eqTrees_any (u v : Value) (xs ys : List TreL) (fb : Nat) (w : World) (hu : Trs w w.heap.size u xs) (hv : Trs w w.heap.size v ys) (hx : xs.length ≤ 1000000) (hy : ys.length ≤ 1000000) (hox : ∀ t ∈ xs, t.ok) (hoy : ∀ t ∈ ys, t.ok)
    (hF : Blk w fb 87 #[.func (Fn.func 30) #[] #[]]) :
    Calls Tryd.prog 37 #[u, v, .func (Fn.func 33) #[] #[.pointer (some ⟨fb, 0, none⟩)]] w fun e w' => e = .returned (.bool (sameL eqTre xs ys)) ∧ Below w.heap.size w w' := by
  obtain ⟨Au, cu, e1⟩ := hu.shape
  obtain ⟨Av, cv, e2⟩ := hv.shape
  subst e1; subst e2
  obtain ⟨r, hr⟩ : ∃ r, sameL eqTre xs ys = r := ⟨_, rfl⟩
  rw [hr]
  by_cases hl : xs.length = ys.length
  · have HS := Lib.hid (And.intro hu (And.intro hv (And.intro hr (And.intro hl (And.intro hox (And.intro hoy hF))))))
    obtain ⟨n, hn⟩ : ∃ n, ys.length = n := ⟨_, rfl⟩
    rw [hl, hn]
    rw [hn] at hy
    have HN := Lib.hid hn
    have HN1 := Lib.hid (show xs.length = n by rw [hl, hn])
    clear hu hv hr hl hn hx hox hoy hF
    go_enter Tryd.func37, Tryd.ntmps37
    go_wp2_with fail
    go_loopg [7, 8, 9, 17] (n + 1) (fun gk iv xv yv jv wr => ∃ k : Nat, n + 1 ≤ k + gk ∧ k ≤ n ∧ jv = .int .i64 (k : Int) ∧ Below w.heap.size w wr ∧ ∀ i, i < k → eqTre (xs.getD i zeroTre) (ys.getD i zeroTre) = true)
    case atStart => exact ⟨0, by omega, by omega, rfl, Below.refl _ _, fun i hi => absurd hi (Nat.not_lt_zero _)⟩
    case round =>
      obtain ⟨k, hk, hkn, rfl, hb, hall⟩ := hrel
      have HX := Lib.hid (And.intro hk (And.intro hb hall))
      clear hk hb hall
      by_cases hlt : k < n
      · have hki : (k : Int) < (n : Int) := by omega
        have hgk : 0 < gk := by have := HX.out.1; omega
        have hkx : k < xs.length := by rw [HN1.out]; exact hlt
        have hky : k < ys.length := by rw [HN.out]; exact hlt
        obtain ⟨gu, ou, d1, l1, q1, eu, hgu, hru, hd1, hl1, hq1⟩ := HS.out.1.at_ k hkx
        obtain ⟨gv, ov, d2, l2, q2, ev, hgv, hrv, hd2, hl2, hq2⟩ := HS.out.2.1.at_ k hky
        subst eu; subst ev
        have ok1 : (xs.getD k zeroTre).ok := HS.out.2.2.2.2.1 _ (by rw [List.getD_eq_getElem?_getD, List.getElem?_eq_getElem hkx]; exact List.getElem_mem _)
        have ok2 : (ys.getD k zeroTre).ok := HS.out.2.2.2.2.2.1 _ (by rw [List.getD_eq_getElem?_getD, List.getElem?_eq_getElem hky]; exact List.getElem_mem _)
        obtain ⟨b, hb⟩ : ∃ b, eqTre (xs.getD k zeroTre) (ys.getD k zeroTre) = b := ⟨_, rfl⟩
        have HE := Lib.hid hb
        have HB := Lib.hid hb
        clear hb
        generalize xs.getD k zeroTre = t1 at hru hd1 hl1 hq1 ok1 HB
        generalize ys.getD k zeroTre = t2 at hrv hd2 hl2 hq2 ok2 HB
        have hbx := HX.out.2.1
        have hr1 : wr.rangeAt gu (ou + k * 75) (treC t1 d1 l1 q1).toList := fun j v hj => (hbx.cell (p := ⟨gu, ou + k * 75 + j, none⟩) hgu).trans (hru j v hj)
        obtain ⟨A1, c1, e1⟩ := hd1.shape
        obtain ⟨A2, c2, e2⟩ := hd2.shape
        obtain ⟨A3, c3, e3⟩ : ∃ A c, l1 = .slice A t1.leaves.length c := by obtain ⟨A, c, _, e, _⟩ := hl1; exact ⟨A, c, e⟩
        obtain ⟨A4, c4, e4⟩ : ∃ A c, l2 = .slice A t2.leaves.length c := by obtain ⟨A, c, _, e, _⟩ := hl2; exact ⟨A, c, e⟩
        obtain ⟨A5, c5, e5⟩ : ∃ A c, q1 = .slice A t1.queue.length c := by obtain ⟨A, c, _, e, _⟩ := hq1; exact ⟨A, c, e⟩
        obtain ⟨A6, c6, e6⟩ : ∃ A c, q2 = .slice A t2.queue.length c := by obtain ⟨A, c, _, e, _⟩ := hq2; exact ⟨A, c, e⟩
        have HT1 := Lib.hid (show (treC t1 d1 l1 q1).size = 75 ∧ ∀ v ∈ (treC t1 d1 l1 q1).toList, v.oneCell' = true from ⟨treC_size _ _ _ _, treC_one _ _ _ _ (by rw [e1]; rfl) (by rw [e3]; rfl) (by rw [e5]; rfl)⟩)
        have HT2 := Lib.hid (show (treC t2 d2 l2 q2).size = 75 ∧ ∀ v ∈ (treC t2 d2 l2 q2).toList, v.oneCell' = true from ⟨treC_size _ _ _ _, treC_one _ _ _ _ (by rw [e2]; rfl) (by rw [e4]; rfl) (by rw [e6]; rfl)⟩)
        clear e1 e2 e3 e4 e5 e6
        have HL := Lib.hid (And.intro hd1 (And.intro hl1 (And.intro hq1 (And.intro hd2 (And.intro hl2 (And.intro hq2 (And.intro ok1 ok2)))))))
        have HR1 := Lib.hid hr1
        have HRv := Lib.hid (And.intro hrv hgv)
        clear hru hd1 hl1 hq1 hd2 hl2 hq2 ok1 ok2 hr1 hrv hgu hgv hkx hky
        obtain ⟨cs1, hcs1⟩ : ∃ cs, treC t1 d1 l1 q1 = cs := ⟨_, rfl⟩
        obtain ⟨cs2, hcs2⟩ : ∃ cs, treC t2 d2 l2 q2 = cs := ⟨_, rfl⟩
        rw [hcs1] at HT1 HR1
        rw [hcs2] at HT2 HRv
        have HC := Lib.hid (And.intro hcs1 hcs2)
        clear hcs1 hcs2
        have hz := zero_tree
        have hD := Blk.new wr 49 (treC ⟨0, 0, 0, 0, [], [], [], zeroHead, []⟩ (.slice none 0 0) (.slice none 0 0) (.slice none 0 0))
        have hn := below_new1 wr (Obj.cells (treC ⟨0, 0, 0, 0, [], [], [], zeroHead, []⟩ (.slice none 0 0) (.slice none 0 0) (.slice none 0 0)) 49)
        go_upto_region 6 with (first
          | (refine wpList_loadR 49 (.tmp 20) rfl gu (ou + k * 75) rfl cs1 _ HR1.out Tryd.underlying49 rfl (by rw [HT1.out.1]; kernel_rfl) rfl ?_)
          | (refine wpList_storeB rfl rfl 49 (.tmp 8) (.tmp 21) rfl wr.heap.size 0 rfl cs1 rfl _ _ hD (by rw [HT1.out.1]; kernel_rfl) (by rw [HT1.out.1, treC_size]; omega) HT1.out.2 ?_; intro wa hTa hga))
        rw [copied_all _ _ (by rw [HT1.out.1, treC_size])] at hTa
        have hba := below_only hn hga (Nat.le_refl _) hn.size
        have HA := Lib.hid (And.intro hTa (And.intro hba (hbx.trans (hba.mono hbx.size))))
        clear hD hn hTa hga hba hbx HR1
        obtain ⟨ga, hga⟩ : ∃ g, wr.heap.size = g := ⟨_, rfl⟩
        rw [hga] at HA ⊢
        clear hga
        have HR2 := Lib.hid (show wa.rangeAt gv (ov + k * 75) cs2.toList from fun j v hj => (HA.out.2.2.cell (p := ⟨gv, ov + k * 75 + j, none⟩) HRv.out.2).trans (HRv.out.1 j v hj))
        have hD := Blk.new wa 49 (treC ⟨0, 0, 0, 0, [], [], [], zeroHead, []⟩ (.slice none 0 0) (.slice none 0 0) (.slice none 0 0))
        have hn := below_new1 wa (Obj.cells (treC ⟨0, 0, 0, 0, [], [], [], zeroHead, []⟩ (.slice none 0 0) (.slice none 0 0) (.slice none 0 0)) 49)
        go_upto_region 7 with (first
          | (refine wpList_loadR 49 (.tmp 24) rfl gv (ov + k * 75) rfl cs2 _ HR2.out Tryd.underlying49 rfl (by rw [HT2.out.1]; kernel_rfl) rfl ?_)
          | (refine wpList_storeB rfl rfl 49 (.tmp 9) (.tmp 25) rfl wa.heap.size 0 rfl cs2 rfl _ _ hD (by rw [HT2.out.1]; kernel_rfl) (by rw [HT2.out.1, treC_size]; omega) HT2.out.2 ?_; intro wb hTb hgb))
        rw [copied_all _ _ (by rw [HT2.out.1, treC_size])] at hTb
        have hbb := below_only hn hgb (Nat.le_refl _) hn.size
        have HB2 := Lib.hid (And.intro (range_blk24 (HA.out.1.below hbb HA.out.1.lt)) (And.intro (range_blk24 hTb) (HA.out.2.2.trans (hbb.mono HA.out.2.2.size))))
        clear hD hn hTb hgb hbb HR2 hz
        obtain ⟨gb, hgb⟩ : ∃ g, wa.heap.size = g := ⟨_, rfl⟩
        rw [hgb] at HB2 ⊢
        clear hgb
        have hbw := HB2.out.2.2
        have m := sameTre_any t1 t2 d1 l1 q1 d2 l2 q2 fb wb (HL.out.1.next hbw) (HL.out.2.1.next hbw) (HL.out.2.2.1.next hbw) (HL.out.2.2.2.1.next hbw) (HL.out.2.2.2.2.1.next hbw) (HL.out.2.2.2.2.2.1.next hbw) (HS.out.2.2.2.2.2.2.below hbw HS.out.2.2.2.2.2.2.lt) HL.out.2.2.2.2.2.2.1 HL.out.2.2.2.2.2.2.2
        rw [HB.out, HC.out.1, HC.out.2] at m
        clear hbw
        cases b
        · go_wp2_with (first
            | (refine wpList_loadR 49 (.tmp 8) rfl ga 0 rfl cs1 _ HB2.out.1 Tryd.underlying49 rfl (by rw [HT1.out.1]; kernel_rfl) rfl ?_)
            | (refine wpList_loadR 49 (.tmp 9) rfl gb 0 rfl cs2 _ HB2.out.2.1 Tryd.underlying49 rfl (by rw [HT2.out.1]; kernel_rfl) rfl ?_)
            | (go_at_call 33; refine m.mono ?_; clear m; rintro e W2 ⟨rfl, hb2⟩; have HZ := Lib.hid (HB2.out.2.2.trans (hb2.mono HB2.out.2.2.size)); clear hb2))
          go_ret
          refine ⟨?_, HZ.out⟩
          have := sameL_no eqTre zeroTre xs ys k (by rw [HN1.out]; exact hlt) (by rw [HN.out]; exact hlt) HE.out
          rw [← HS.out.2.2.1, this] <;> rfl
        · go_wp2_with (first
            | (refine wpList_loadR 49 (.tmp 8) rfl ga 0 rfl cs1 _ HB2.out.1 Tryd.underlying49 rfl (by rw [HT1.out.1]; kernel_rfl) rfl ?_)
            | (refine wpList_loadR 49 (.tmp 9) rfl gb 0 rfl cs2 _ HB2.out.2.1 Tryd.underlying49 rfl (by rw [HT2.out.1]; kernel_rfl) rfl ?_)
            | (go_at_call 33; refine m.mono ?_; clear m; rintro e W2 ⟨rfl, hb2⟩; have HZ := Lib.hid (HB2.out.2.2.trans (hb2.mono HB2.out.2.2.size)); clear hb2))
          go_roundg (gk - 1)
          case measure => omega
          case rel => exact ⟨k + 1, by have := HX.out.1; omega, by omega, by go_num, HZ.out, fun i hi => by
            by_cases hik : i = k
            · subst hik; exact HE.out
            · exact HX.out.2.2 i (by omega)⟩
      · obtain rfl : k = n := by omega
        clear hlt hkn
        go_wp2_with fail
        go_ret
        refine ⟨?_, HX.out.2.1⟩
        have := sameL_yes eqTre zeroTre xs ys HS.out.2.2.2.1 (fun i hi => HX.out.2.2 i (by have := HN1.out; omega))
        rw [← HS.out.2.2.1, this] <;> rfl
  · have HS := Lib.hid (show r = false from by rw [← hr]; exact sameL_len eqTre xs ys hl)
    have hne : ((xs.length : Int) == (ys.length : Int)) = false := by rw [beq_eq_false_iff_ne]; omega
    have hne2 : ((xs.length : Int) != (ys.length : Int)) = true := by rw [bne, hne]; rfl
    clear hr hu hv hF
    go_enter Tryd.func37, Tryd.ntmps37
    go_wp2_with fail
    go_ret
    exact ⟨by rw [HS.out] <;> rfl, Below.refl _ _⟩
end Go.Proofs.YtcdkadidkkbhpaaDoor
