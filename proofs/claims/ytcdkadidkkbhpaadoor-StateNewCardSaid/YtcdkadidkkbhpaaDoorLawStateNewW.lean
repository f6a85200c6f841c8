/- The walk of deponentlaw19.StateNew. -/
import Derived.Test.YtcdkadidkkbhpaaDoorS34
import Derived.Test.YtcdkadidkkbhpaaDoorS38
import Derived.Test.YtcdkadidkkbhpaaDoorS41
import Derived.Test.YtcdkadidkkbhpaaDoorS42
namespace Go.Proofs.YtcdkadidkkbhpaaDoor
open Go Go.RowKit
attribute [local irreducible] mixW
attribute [local go_sem] n8_lo n8_hi n64_lo n64_hi n32_lo n32_hi
theorem wpList_cutHiS {P : Program} {ops : Array Oper} {a : Act} {o : Oper} {rest : List Oper} {w : World} {Q : Exit → Act → World → Prop} (hg : o.guard = none) (t : TypeId) (x h : Operand) (ho : o.op = .slice t x none (some h) none) (e : TypeId) (ht : P.underlying t = some (.slice e)) (hs : (P.info? e).map (·.size) = some 1)
    (A : Option Addr) (len cap hi : Nat) (hx : a.eval x = .slice A len cap) (hh : a.eval h = .int .i64 hi) (h2 : hi ≤ cap)
    (hk : wpList P ops Q rest (a.put o.dst (.slice A hi cap)) w) : wpList P ops Q (o :: rest) a w :=
  wpList_plain hg fun K hK => by
    unfold Oper.wp execOp
    simp only [ho, Option.map_some, Option.map_none, hx, hh, Sem.run_bind, run_cut_h ht hs hi h2, Result.andThen_ok, Sem.run_pure]
    exact hK _ _ hk
theorem rightC_of {wd qu : Int} {st : UInt32} {n : Nat} (h : rightC wd qu st n = true) : 1 ≤ wd ∧ wd ≤ 32 ∧ 1 ≤ qu ∧ qu ≤ 2 ∧ st.toNat ≤ 32768 ∧ n ≤ 64 := by
  unfold rightC at h
  simp only [Bool.and_eq_true, decide_eq_true_eq] at h
  omega
set_option maxHeartbeats 3000000 in
set_option maxRecDepth 100000 in
theorem stateNew_walk (w : World) (hG : Glob w) (wd qu : Int) (st : UInt32) (A : Option Addr) (cap : Nat) (bs : List UInt8) (hwd : -9223372036854775808 ≤ wd ∧ wd ≤ 9223372036854775807) (hqu : -9223372036854775808 ≤ qu ∧ qu ≤ 9223372036854775807) (hb : BSl w w.heap.size (.slice A bs.length cap) bs) (hc : cap ≤ 140737488351232) :
    Calls Tryd.prog 4 #[.agg (cfgC wd qu st (.slice A bs.length cap))] w fun e w' => e = .returned (.bool true) ∧ Below w.heap.size w w' := by
  have hcap : bs.length ≤ cap := by obtain ⟨_, _, e, h, _⟩ := hb; injection e with _ _ e; omega
  have HG := Lib.hid (And.intro hG hb)
  obtain ⟨sd, hsd⟩ : ∃ sd, bs.take 100 = sd := ⟨_, rfl⟩
  have Hsd := Lib.hid hsd
  have hsl : sd.length = min 100 bs.length := by rw [← hsd, List.length_take]
  have Hsl := Lib.hid hsl
  have hsl100 : sd.length ≤ 100 := by omega
  clear hG hb hsd hsl
  go_enter Tryd.func4, Tryd.ntmps4
  go_upto_region 1 with fail
  refine wp_at (fun W => Blk W w.heap.size 25 (cfgC wd qu st (.slice A bs.length cap)) ∧ Below w.heap.size w W) ⟨Blk.new w _ _, below_new1 w _⟩ ?_
  rintro W1 ⟨hC1, hb1⟩
  have c3 : W1.cell? ⟨w.heap.size, 3, none⟩ = some (.slice A bs.length cap) := hC1.cell 3
  go_upto_if 9 with fail
  go_cut [] (fun wx => Blk wx w.heap.size 25 (cfgC wd qu st (.slice A sd.length cap)) ∧ Below w.heap.size w wx)
  case first =>
    by_cases h : 100 < bs.length
    · have hi : (100 : Int) < (bs.length : Int) := by omega
      have Hl := Lib.hid (show sd.length = 100 by have := Hsl.out; omega)
      have hlt := hC1.lt
      clear hsl100
      go_wp2_with (first
        | (refine wpList_cutHiS rfl 23 (.tmp 11) (.const (.int .i64 100)) rfl 5 Tryd.underlying23 (by kernel_rfl) A bs.length cap 100 rfl rfl (by omega) ?_)
        | (refine wpList_store1 rfl rfl _ (.tmp 13) (.tmp 12) rfl w.heap.size 3 rfl (.slice A 100 cap) rfl _ _ hC1 (by kernel_rfl) (by rw [cfgC_size]; decide) rfl rfl ?_; intro W2 hC2 hg2))
      have e3 : (cfgC wd qu st (.slice A bs.length cap)).setIfInBounds 3 (.slice A 100 cap) = cfgC wd qu st (.slice A 100 cap) := rfl
      rw [e3] at hC2
      have hbw := below_only hb1 hg2 (Nat.le_refl _) hb1.size
      go_meet
      exact ⟨by rw [Hl.out]; exact hC2, hbw⟩
    · have hi : ¬ (100 : Int) < (bs.length : Int) := by omega
      have Hl := Lib.hid (show sd.length = bs.length by have := Hsl.out; omega)
      clear hsl100
      go_wp2_with fail
      go_meet
      exact ⟨by rw [Hl.out]; exact hC1, hb1⟩
  case rest =>
    obtain ⟨hC2, hb2⟩ := hcut
    clear hC1 hb1 c3 W1
    have hsB : BSl w w.heap.size (.slice A sd.length cap) sd := by
      obtain ⟨A', c', e, h1, h2, hr⟩ := HG.out.2
      injection e with e1 _ e3
      subst e1; subst e3
      exact ⟨_, _, rfl, by have := Hsl.out; omega, h2, by rw [← Hsd.out, List.map_take]; exact hr.take 100⟩
    have HB := Lib.hid (And.intro hC2 (And.intro hb2 (And.intro hsB (range_blk24 hC2))))
    have hsz := hC2.lt
    clear hC2 hb2 hsB
    obtain ⟨r, hr⟩ : ∃ r, rightC wd qu st sd.length = r := ⟨_, rfl⟩
    have Hr := Lib.hid hr
    clear hr
    cases r
    · -- a wrong Config
      have mn := new_no wd qu st A sd.length cap wc Hr.out
      have hD0 := zero_state
      go_wp2_with (first
        | (refine wpList_loadR 25 (.tmp 1) rfl w.heap.size 0 rfl (cfgC wd qu st (.slice A sd.length cap)) _ HB.out.2.2.2 Tryd.underlying25 rfl (by kernel_rfl) rfl ?_)
        | (go_at_call 5; refine mn.mono ?_; clear mn; rintro e W3 ⟨rfl, hb3⟩; refine Hid.out ?_))
      refine Lib.hid ?_
      have hC3 := HB.out.1.below hb3 hsz
      have hb3w := HB.out.2.1.trans (hb3.mono HB.out.2.1.size)
      have hD := Blk.new W3 32 (staC nilS (.slice none 0 0) (.slice none 0 0) (.slice none 0 0))
      have hn := below_new1 W3 (Obj.cells (staC nilS (.slice none 0 0) (.slice none 0 0) (.slice none 0 0)) 32)
      go_upto_region 4 with (first
        | (refine wpList_storeB rfl rfl 32 (.tmp 3) (.tmp 17) rfl W3.heap.size 0 rfl (staC nilS (.slice none 0 0) (.slice none 0 0) (.slice none 0 0)) rfl _ _ hD (by kernel_rfl) (by rw [staC_size]; omega) (staC_one _ _ _ _ rfl rfl rfl) ?_; intro W4 hS4 hg4))
      rw [copied_all _ _ rfl] at hS4
      have hb34 := below_only hn hg4 (Nat.le_refl _) hn.size
      have H4 := Lib.hid (And.intro hS4 (And.intro (range_blk24 (hC3.below hb34 hC3.lt)) (hb3w.trans (hb34.mono hb3w.size))))
      clear hD0 hC3 hb3 hb3w hD hn hS4 hg4 hb34
      generalize W3.heap.size = gS at H4 ⊢
      have mr := right_any wd qu st A sd.length cap W4
      rw [Hr.out] at mr
      go_upto_region 5 with (first
        | (refine wpList_loadR 25 (.tmp 1) rfl w.heap.size 0 rfl (cfgC wd qu st (.slice A sd.length cap)) _ H4.out.2.1 Tryd.underlying25 rfl (by kernel_rfl) rfl ?_)
        | (go_at_call 12; refine mr.mono ?_; clear mr; rintro e W5 ⟨rfl, hb5⟩))
      have hS5 := H4.out.1.below hb5 H4.out.1.lt
      have H5 := Lib.hid (H4.out.2.2.trans (hb5.mono H4.out.2.2.size))
      have x3 : W5.cell? ⟨gS, 3, none⟩ = some (.slice none 0 0) := hS5.cell 3
      have x4 : W5.cell? ⟨gS, 4, none⟩ = some (.slice none 0 0) := hS5.cell 4
      have x5 : W5.cell? ⟨gS, 5, none⟩ = some (.slice none 0 0) := hS5.cell 5
      clear hb5 hS5
      have mk := known19_any W5 (HG.out.1.next H5.out)
      go_wp2_with (first
        | (go_at_call 11; refine mk.mono ?_; clear mk; rintro e W6 ⟨rfl, hb6⟩; have H6 := Lib.hid (H5.out.trans (hb6.mono H5.out.size)); clear hb6))
      go_ret
      exact ⟨rfl, H6.out⟩
    · -- a right Config
      obtain ⟨h1, h2, h3, h4, h5, h6⟩ := rightC_of Hr.out
      have mn := new_ok wd qu st (.slice A sd.length cap) sd wc (HB.out.2.2.1.next HB.out.2.1) (HG.out.1.next HB.out.2.1) h1 h2 h3 h4 h5 h6
      have hD0 := zero_state
      go_wp2_with (first
        | (refine wpList_loadR 25 (.tmp 1) rfl w.heap.size 0 rfl (cfgC wd qu st (.slice A sd.length cap)) _ HB.out.2.2.2 Tryd.underlying25 rfl (by kernel_rfl) rfl ?_)
        | (go_at_call 5; refine mn.mono ?_; clear mn; rintro e W3 ⟨v, rfl, hS, hb3⟩; refine Hid.out ?_))
      have hC3 := HB.out.1.below hb3 hsz
      have hb3w := HB.out.2.1.trans (hb3.mono HB.out.2.1.size)
      have hSta := hS.sta
      obtain ⟨sC, hv, hone, hsize⟩ : ∃ sC, v = .agg sC ∧ (∀ u ∈ sC.toList, u.oneCell' = true) ∧ sC.size = 6 := by
        obtain ⟨t, r, g, cs, rfl, oT, oR, _, _, oG⟩ := hS
        obtain ⟨_, _, e1⟩ := own_slice2 oT
        obtain ⟨_, _, e2⟩ := own_slice2 oR
        obtain ⟨_, _, e3⟩ := own_slice2 oG
        exact ⟨_, rfl, staC_one _ _ _ _ (by rw [e1]; rfl) (by rw [e2]; rfl) (by rw [e3]; rfl), rfl⟩
      subst hv
      have HQ := Lib.hid (And.intro hone hsize)
      have HS3 := Lib.hid hSta
      clear hS hSta hone hsize
      refine Lib.hid ?_
      have hD := Blk.new W3 32 (staC nilS (.slice none 0 0) (.slice none 0 0) (.slice none 0 0))
      have hn := below_new1 W3 (Obj.cells (staC nilS (.slice none 0 0) (.slice none 0 0) (.slice none 0 0)) 32)
      go_upto_region 4 with (first
        | (refine wpList_storeB rfl rfl 32 (.tmp 3) (.tmp 17) rfl W3.heap.size 0 rfl sC rfl _ _ hD (by rw [HQ.out.2]; kernel_rfl) (by rw [HQ.out.2, staC_size]; omega) HQ.out.1 ?_; intro W4 hS4 hg4))
      rw [copied_all _ _ (by rw [HQ.out.2, staC_size])] at hS4
      have hb34 := below_only hn hg4 (Nat.le_refl _) hn.size
      have H4 := Lib.hid (And.intro hS4 (And.intro (range_blk24 (hC3.below hb34 hC3.lt)) (And.intro (HS3.out.next hb34) (And.intro (hb3w.trans (hb34.mono hb3w.size)) (hC3.below hb34 hC3.lt)))))
      clear hD0 hC3 hb3 hb3w hD hn hS4 hg4 hb34 HS3
      generalize W3.heap.size = gS at H4 ⊢
      have mr := right_any wd qu st A sd.length cap W4
      rw [Hr.out] at mr
      go_upto_region 6 with (first
        | (refine wpList_loadR 25 (.tmp 1) rfl w.heap.size 0 rfl (cfgC wd qu st (.slice A sd.length cap)) _ H4.out.2.1 Tryd.underlying25 rfl (by kernel_rfl) rfl ?_)
        | (go_at_call 12; refine mr.mono ?_; clear mr; rintro e W5 ⟨rfl, hb5⟩))
      have hC5 := H4.out.2.2.2.2.below hb5 H4.out.2.2.2.2.lt
      have H5 := Lib.hid (And.intro (H4.out.1.below hb5 H4.out.1.lt) (And.intro (range_blk24 hC5) (And.intro (H4.out.2.2.1.next hb5) (And.intro (H4.out.2.2.2.1.trans (hb5.mono H4.out.2.2.2.1.size)) hC5))))
      clear hb5 hC5 H4
      have mw := world_any wd qu st (.slice A sd.length cap) sd W5 (HB.out.2.2.1.next H5.out.2.2.2.1)
      go_upto_region 7 with (first
        | (refine wpList_loadR 25 (.tmp 1) rfl w.heap.size 0 rfl (cfgC wd qu st (.slice A sd.length cap)) _ H5.out.2.1 Tryd.underlying25 rfl (by kernel_rfl) rfl ?_)
        | (go_at_call 13; refine mw.mono ?_; clear mw; rintro e W6 ⟨wv, rfl, hWl, hb6⟩))
      have H6 := Lib.hid (And.intro (H5.out.1.below hb6 H5.out.1.lt) (And.intro (H5.out.2.2.2.2.below hb6 H5.out.2.2.2.2.lt) (And.intro (H5.out.2.2.1.next hb6) (And.intro (H5.out.2.2.2.1.trans (hb6.mono H5.out.2.2.2.1.size)) hWl))))
      clear hb6 hWl H5
      refine wp_region_mixP (.plain 0 <| .plain 1 <| .plain 2 <| .plain 3 <| .plain 6 <| .only 4 <| .plain 5 <| .only 7 <| .only 8 <| .plain 9 <| .plain 10 <| .plain 11 <| .plain 12 <| .plain 13 <| .plain 15 <| .only 14 <| .only 16 <| .plain 17 <| .plain 18 <| .plain 19 <| .only 20 <| .plain 21 <| .plain 22 <| .done) (by kernel_rfl) (by kernel_rfl) (fun W7 hb7 => ?_)
      have H7 := Lib.hid (And.intro (H6.out.1.below hb7 H6.out.1.lt) (And.intro (H6.out.2.1.below hb7 H6.out.2.1.lt) (And.intro (H6.out.2.2.1.next hb7) (And.intro (H6.out.2.2.2.1.trans (hb7.mono H6.out.2.2.2.1.size)) (H6.out.2.2.2.2.next hb7)))))
      clear hb7 H6
      iterate 5 (refine mix_plain rfl ?_; (first
        | (refine wpQuiet_loadMid rfl 32 (.tmp 3) rfl gS 0 rfl sC _ (fun V hV => by obtain ⟨e, rfl⟩ := hV; exact range_blk24 (H7.out.1.plus e)) Tryd.underlying32 rfl (by rw [HQ.out.2]; kernel_rfl) ?_; simp only [Act.put, List.setIfInBounds_toArray, List.set_cons_zero, List.set_cons_succ])
        | go_big_quiet_step (fail)); refine wpQuiet_nil ?_)
      have me := encode_any (.agg sC) (newS wd sd) W7 H7.out.2.2.1 (newS_ok wd sd)
      refine mix_only rfl (fun K hK => ?_)
      go_wp2_with fail
      refine me.mono ?_
      clear me
      rintro e W8 ⟨u, rfl, hu, hb8⟩
      have H8 := Lib.hid (And.intro hu (And.intro (H7.out.2.1.below hb8 H7.out.2.1.lt) (And.intro (H7.out.2.2.2.1.trans (hb8.mono H7.out.2.2.2.1.size)) (H7.out.2.2.2.2.next hb8))))
      go_wp2_with fail
      refine hK _ _ hb8 ?_
      clear hK K hb8 hu
      refine mix_plain rfl ?_
      refine wpQuiet_str rfl (.tmp 47) rfl u (encS (newS wd sd)) _ rfl (fun _ ⟨e, he⟩ => by rw [he]; exact H8.out.1.below (plus_below _ e)) ?_
      simp only [Act.put, List.setIfInBounds_toArray, List.set_cons_zero, List.set_cons_succ]
      refine wpQuiet_nil ?_
      have mnw := rnew_ok wv wd qu st sd W8 H8.out.2.2.2 h6
      refine mix_only rfl (fun K hK => ?_)
      go_wp2_with fail
      refine mnw.mono ?_
      clear mnw
      rintro e W9 ⟨rv, rfl, hrv, hb9⟩
      have H9 := Lib.hid (And.intro hrv.sta (And.intro (H8.out.2.1.below hb9 H8.out.2.1.lt) (And.intro (H8.out.2.2.1.trans (hb9.mono H8.out.2.2.1.size)) (H8.out.2.2.2.next hb9))))
      go_wp2_with fail
      refine hK _ _ hb9 ?_
      clear hK K hb9 hrv
      have mre := renc_any rv (newS wd sd) W9 H9.out.1 (newS_ok wd sd)
      refine mix_only rfl (fun K hK => ?_)
      go_wp2_with fail
      refine mre.mono ?_
      clear mre
      rintro e W10 ⟨ru, rfl, hru, hb10⟩
      have H10 := Lib.hid (And.intro hru.bsl (And.intro (H9.out.2.1.below hb10 H9.out.2.1.lt) (And.intro (H9.out.2.2.1.trans (hb10.mono H9.out.2.2.1.size)) (H9.out.2.2.2.next hb10))))
      go_wp2_with fail
      refine hK _ _ hb10 ?_
      clear hK K hb10 hru
      iterate 6 (refine mix_plain rfl ?_; (first
        | (refine wpQuiet_str rfl (.tmp 51) rfl ru (encS (newS wd sd)) _ rfl (fun _ ⟨e, he⟩ => by rw [he]; exact H10.out.1.below (plus_below _ e)) ?_; simp only [Act.put, List.setIfInBounds_toArray, List.set_cons_zero, List.set_cons_succ])
        | (refine wpQuiet_eqStr rfl (.tmp 48) (.tmp 52) _ rfl _ _ rfl rfl true (decide_eq_true rfl) ?_; simp only [Act.put, List.setIfInBounds_toArray, List.set_cons_zero, List.set_cons_succ])
        | (refine wpQuiet_loadMid rfl 25 (.tmp 1) rfl w.heap.size 0 rfl (cfgC wd qu st (.slice A sd.length cap)) _ (fun V hV => by obtain ⟨e, rfl⟩ := hV; exact range_blk24 (H10.out.2.1.plus e)) Tryd.underlying25 rfl (by kernel_rfl) ?_; simp only [Act.put, List.setIfInBounds_toArray, List.set_cons_zero, List.set_cons_succ])
        | go_big_quiet_step (fail)); refine wpQuiet_nil ?_)
      have mro := root19_any wd qu st (.slice A sd.length cap) sd W10 (HB.out.2.2.1.next H10.out.2.2.1) (by omega) (HG.out.1.next H10.out.2.2.1)
      refine mix_only rfl (fun K hK => ?_)
      go_wp2_with fail
      refine mro.mono ?_
      clear mro
      rintro e W11 ⟨rfl, hb11⟩
      have H11 := Lib.hid (And.intro (H10.out.2.2.1.trans (hb11.mono H10.out.2.2.1.size)) (H10.out.2.2.2.next hb11))
      go_wp2_with fail
      refine hK _ _ hb11 ?_
      clear hK K hb11
      have mrr := rroot19_any wv wd qu st sd W11 H11.out.2 (by omega)
      refine mix_only rfl (fun K hK => ?_)
      go_wp2_with fail
      refine mrr.mono ?_
      clear mrr
      rintro e W12 ⟨rfl, hb12⟩
      have H12 := Lib.hid (H11.out.1.trans (hb12.mono H11.out.1.size))
      go_wp2_with fail
      refine hK _ _ hb12 ?_
      clear hK K hb12
      iterate 3 (refine mix_plain rfl ?_; (first
        | (refine wpQuiet_eqD rfl (.tmp 57) (.tmp 59) _ rfl (rootK sd) (rootK sd) rfl rfl (rootK_length _) (rootK_length _) true (decide_eq_true rfl) ?_; simp only [Act.put, List.setIfInBounds_toArray, List.set_cons_zero, List.set_cons_succ])
        | go_big_quiet_step (fail)); refine wpQuiet_nil ?_)
      have mk := known19_any W12 (HG.out.1.next H12.out)
      refine mix_only rfl (fun K hK => ?_)
      go_wp2_with fail
      refine mk.mono ?_
      clear mk
      rintro e W13 ⟨rfl, hb13⟩
      have H13 := Lib.hid (H12.out.trans (hb13.mono H12.out.size))
      go_wp2_with fail
      refine hK _ _ hb13 ?_
      clear hK K hb13
      iterate 2 (refine mix_plain rfl ?_; go_big_quiet_step (fail); refine wpQuiet_nil ?_)
      refine mix_done ?_
      go_wp2_with fail
      go_ret
      exact ⟨rfl, H13.out⟩
end Go.Proofs.YtcdkadidkkbhpaaDoor
