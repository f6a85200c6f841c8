/- The walk of the law KeysAlike. No condition. -/
import Derived.Test.YtbhmmoecoijojaaDoorKeysKnown
import Derived.Test.YtbhmmoecoijojaaDoorRingS
import Derived.Test.YtbhmmoecoijojaaDoorWithin
import Derived.Test.YtbhmmoecoijojaaDoorLit
import Derived.Test.YtbhmmoecoijojaaDoorWords
import Derived.Test.YtbhmmoecoijojaaDoorCut
namespace Go.Proofs.YtbhmmoecoijojaaDoor
open Go.RowKit
attribute [local irreducible] mixW
attribute [local go_sem] n8_lo n8_hi n64_lo n64_hi n32_lo n32_hi
theorem headC_tree (h : HeadL) (k : Int) : (headC h).setIfInBounds 0 (.int .i64 k) = headC ⟨k, h.epoch, h.size, h.clock, h.root⟩ := by
  unfold headC
  apply Array.toList_inj.1
  rw [Array.toList_setIfInBounds, Array.toList_append, Array.toList_append]
  rfl
def zTxt : List UInt8 := [122]
set_option maxHeartbeats 1000000 in
set_option maxRecDepth 100000 in
theorem keysAlike_walk (w : World) (hG : Glob w) (A : Option Addr) (cap : Nat) (b : List UInt8) (hb : BSl w w.heap.size (.slice A b.length cap) b) (hc : cap ≤ 140737488351232)
    (D : Option Addr) (dcap : Nat) (ds : List UInt32) (hd : WSl w w.heap.size (.slice D ds.length dcap) ds) (h : HeadL) (hok : h.ok) :
    Calls Tryd.prog 9 #[.slice A b.length cap, .slice D ds.length dcap, .agg (headC h)] w fun e w' => e = .returned (.bool true) ∧ Below w.heap.size w w' := by
  have kc := fun (w : World) (C : Array Value) (n c : Nat) => Lib.run_convert_bytes_const (P := Tryd.prog) w 32 5 C n c Tryd.underlying32 Tryd.underlying5
  have Hb0 := Lib.hid hb
  have Hd0 := Lib.hid hd
  go_enter Tryd.func9, Tryd.ntmps9
  have hbl : b.length ≤ 140737488351232 := by
    obtain ⟨A', c', e1, h1, -⟩ := hb; injection e1 with _ _ e2; omega
  have Hbl := Lib.hid hbl
  have Hok := Lib.hid hok
  clear hbl hok hc
  go_wp2_with fail
  have hD1 := Blk.new w 49 (headC h)
  have hbn := below_new1 w (Obj.cells (headC h) 49)
  refine calls_at (fun W => Blk W w.heap.size 49 (headC h) ∧ Below w.heap.size w W) ⟨hD1, hbn⟩ ?_
  clear hD1 hbn
  rintro W0 ⟨hH, hbel⟩
  replace hb := hb.next hbel
  replace hd := hd.next hbel
  have HBA := Lib.hid hH.lt
  refine (newRing_any _ b W0 hb (by have := Hbl.out; omega)).mono ?_
  rintro e w1 ⟨gA, vA, rfl, hRA, hb1⟩
  have hLA := Lib.hid hb1.size
  replace hH := hH.below hb1 hH.lt
  replace hb := hb.next hb1
  replace hd := hd.next hb1
  replace hbel := hbel.trans (hb1.mono hbel.size)
  clear hb1
  obtain ⟨A1, c1, e1, h11, h12, hrd⟩ := hb
  injection e1 with e1 _ e2
  subst e1; subst e2
  have hoe := own_emptyB w1 w1.heap.size (Nat.le_refl _)
  have hn1 := below_new1 w1 (Obj.cells #[] 5)
  go_wp2_with (first
    | (at_builtin; refine wpList_appendS rfl (.tmp 22) (.tmp 23) rfl w1.heap.size _ [] b rfl hoe _ A _ _ rfl rfl (hrd.below hn1) (by have := Hbl.out; simp; omega) hn1.size w1 hn1 ?_; intro u2 w2 hown2 hb2; simp only [List.nil_append] at hown2))
  have hLz := Lib.hid hb2.size
  have hB2 := BSl.of_own hown2
  have hb : BSl w1 w1.heap.size (.slice A b.length cap) b := ⟨A, cap, rfl, h11, h12, hrd⟩
  clear hrd h11 h12 hown2 hoe hn1
  have HBB := Lib.hid (Nat.lt_of_lt_of_le hH.lt hb2.size)
  refine (newRing_any u2 b w2 hB2 (by have := Hbl.out; omega)).mono ?_
  rintro e w3 ⟨gB, vB, rfl, hRB, hb3⟩
  have hb23 := hb2.trans (hb3.mono hb2.size)
  have hLB := Lib.hid (Nat.le_trans hb2.size hb3.size)
  have hS1 := Lib.hid (sep_new hRA hRB hb2.size)
  replace hRA := hRA.below hb23
  replace hH := hH.below hb23 hH.lt
  replace hb := hb.next hb23
  replace hd := hd.next hb23
  replace hbel := hbel.trans (hb23.mono hbel.size)
  clear hb2 hb3 hb23 hB2
  have hL : Lit (w3.alloc (Obj.cells #[.int .u8 122] 5)) w3.heap.size zTxt := Lit.new w3 zTxt 5
  have hn1 := below_new1 w3 (Obj.cells #[.int .u8 122] 5)
  have hb' := hb.next hn1
  clear kc
  go_wp2_with (first
    | (refine wpList_convSelf rfl _ 5 (.tmp 26) rfl Tryd.underlying32 Tryd.underlying5 w3.heap.size 1 1 rfl zTxt hL ?_; intro kk; have hL2 := hL.freeze ⟨w3.heap.size, kk, none⟩ 1; have hb4 := below_freeze hn1 ⟨w3.heap.size, kk, none⟩ (Nat.le_refl _) 1; refine wpl_at (fun W => Lit W w3.heap.size zTxt ∧ Below w3.heap.size w3 W) ⟨hL2, hb4⟩ ?_; clear hL2 hb4; rintro w4 ⟨hL4, hb4⟩; have hb4' := hb.next hb4)
    | (at_builtin; refine wpList_appendLit rfl (.tmp 27) (.tmp 28) rfl w3.heap.size 1 zTxt rfl hL4 rfl (by decide) _ b rfl hb4' Hbl.out ?_; intro u5 w5 hB5 hb5))
  have hb35 := hb4.trans (hb5.mono hb4.size)
  replace hRA := hRA.below hb35
  replace hRB := hRB.below hb35
  replace hH := hH.below hb35 hH.lt
  replace hb := hb.next hb35
  replace hd := hd.next hb35
  replace hbel := hbel.trans (hb35.mono hbel.size)
  have hLz3 := Lib.hid hb35.size
  clear hb4 hb5 hb35 hL hn1 hL4 hb4' hb'
  have HBC := Lib.hid hH.lt
  refine (newRing_any u5 (zTxt ++ b) w5 hB5 (by have := Hbl.out; simp [zTxt]; omega)).mono ?_
  rintro e w6 ⟨gC, vC, rfl, hRC, hb6⟩
  have hLC := Lib.hid (Nat.le_trans hLz3.out hb6.size)
  have hS2 := Lib.hid (sep_new hRA hRC (Nat.le_refl _))
  have hS3 := Lib.hid (sep_new hRB hRC (Nat.le_refl _))
  replace hRA := hRA.below hb6
  replace hRB := hRB.below hb6
  replace hH := hH.below hb6 hH.lt
  replace hb := hb.next hb6
  replace hd := hd.next hb6
  have hL0 := Lib.hid hbel.size
  replace hbel := hbel.trans (hb6.mono hbel.size)
  clear hb6 hB5
  have HH := Lib.hid (And.intro hRA (And.intro hRB (And.intro hRC (And.intro hb hd))))
  clear hRA hRB hRC hb hd
  have c0 : w6.cell? ⟨w.heap.size, 0, none⟩ = some (.int .i64 h.tree) := by rw [hH.cell, headC_0]
  go_wp2_with fail
  refine (within_any h.tree 0 15 w6 (by decide) (by decide) (by decide) Hok.out.2.1.1 Hok.out.2.1.2).mono ?_
  rintro e _ ⟨rfl, rfl⟩
  have ht' := withinI_bounds h.tree 0 15 (by decide)
  obtain ⟨t, htt⟩ : ∃ t : Nat, withinI h.tree 0 15 = (t : Int) := ⟨(withinI h.tree 0 15).toNat, by omega⟩
  rw [htt] at ht' ⊢
  have ht16 : t < 16 := by omega
  clear htt ht' c0
  go_upto_region 7 with (first
    | (refine wpList_store1 rfl rfl _ (.tmp 44) (.tmp 43) rfl w.heap.size 0 rfl (.int .i64 (t : Int)) rfl _ _ hH (by kernel_rfl) (by rw [headC_size]; omega) rfl rfl ?_; intro w7 hH7 hon7))
  rw [headC_tree] at hH7
  replace hbel := below_only hbel hon7 (Nat.le_refl _) hbel.size
  have hRA := HH.out.1.grown hon7 (HH.out.1.away_low HBA.out)
  have hRB := HH.out.2.1.grown hon7 (HH.out.2.1.away_low HBB.out)
  have hRC := HH.out.2.2.1.grown hon7 (HH.out.2.2.1.away_low HBC.out)
  clear HH hon7 hH
  have hAA := hRA.away (Nat.le_refl w7.heap.size)
  have hAB := hRB.away (Nat.le_refl w7.heap.size)
  have hAC := hRC.away (Nat.le_refl w7.heap.size)
  have H7 := Lib.hid (And.intro hRA (And.intro hRB (And.intro hRC (And.intro hAA (And.intro hAB hAC)))))
  clear hRA hRB hRC hAA hAB hAC
  go_wp2_with fail
  refine (new_at w7).mono ?_
  rintro e w8 ⟨rfl, hT8, hb8⟩
  have hTr : Trio w8 t ds (.pointer (some ⟨w7.heap.size, 0, none⟩)) gA W0.heap.size b vA 0 gB w2.heap.size b vB 0 gC w5.heap.size (zTxt ++ b) vC 0 := by
    refine ⟨_, _, _, ?_, ?_, ?_, hS1.out, hS2.out, hS3.out, ⟨_, rfl, hT8.lt, hT8⟩, fun x e => ?_⟩
    · rw [ksOf_zero]; exact H7.out.1.below hb8
    · rw [ksOf_zero]; exact H7.out.2.1.below hb8
    · rw [ksOf_zero]; exact H7.out.2.2.1.below hb8
    · obtain rfl : w7.heap.size = x := by injection e with e; injection e with e; injection e
      exact H7.out.2.2.2
  replace hH7 := hH7.below hb8 hH7.lt
  replace hbel := hbel.trans (hb8.mono hbel.size)
  have hok2 : (⟨t, h.epoch, h.size, h.clock, h.root⟩ : HeadL).ok := ⟨Hok.out.1, ⟨by show (-9223372036854775808 : Int) ≤ (t : Int); omega, by show (t : Int) ≤ 9223372036854775807; omega⟩, Hok.out.2.2⟩
  obtain ⟨h2, hh2⟩ : ∃ h2 : HeadL, h2 = ⟨t, h.epoch, h.size, h.clock, h.root⟩ := ⟨_, rfl⟩
  have Ht2 : Hid (h2.tree = (t : Int)) := Lib.hid (by rw [hh2])
  rw [← hh2] at hH7 hok2
  have Hok2 := Lib.hid hok2
  clear hb8 hT8 H7 hS1 hS2 hS3 hh2 hok2
  generalize w7.heap.size = gT at hTr ⊢
  generalize W0.heap.size = BA at hTr HBA ⊢
  generalize w2.heap.size = BB at hTr HBB ⊢
  generalize w5.heap.size = BC at hTr HBC ⊢
  have HX := Lib.hid (And.intro hTr (And.intro hH7 hbel))
  clear hTr hH7 hbel
  go_wp2_with fail
  go_loopw [11] (fun iv wr => ∃ k : Nat, k ≤ 8 ∧ k ≤ ds.length ∧ iv = .int .i64 k ∧ Trio wr t ds (.pointer (some ⟨gT, 0, none⟩)) gA BA b vA k gB BB b vB k gC BC (zTxt ++ b) vC k ∧ Blk wr w.heap.size 49 (headC h2) ∧ Below w.heap.size w wr) (fun iv _ => 8 - (intOf iv).toNat)
  case atStart => exact ⟨0, by omega, by omega, rfl, HX.out.1, HX.out.2.1, HX.out.2.2⟩
  case round =>
    clear HX
    obtain ⟨k, hk8, hkn, rfl, hTr, hH, hbel⟩ := hrel
    have Hd := Lib.hid Hd0.out
    by_cases hlt : k < ds.length
    case neg =>
      have hlt2 : ¬ ((k : Int) < (ds.length : Int)) := by omega
      clear hlt hkn Hd
      have hlt3 : decide ((k : Int) < (ds.length : Int)) = false := decide_eq_false hlt2
      go_wp2_with fail
      refine (known11_any wr (hG.next hbel)).mono ?_
      rintro e w14 ⟨rfl, hb1⟩
      replace hbel := hbel.trans (hb1.mono hbel.size)
      clear hb1
      go_wp2_with fail
      go_ret
      exact ⟨rfl, hbel⟩
    by_cases hlt8 : k < 8
    case neg =>
      obtain rfl : k = 8 := by omega
      have hlt3 : (8 : Int) < (ds.length : Int) := by omega
      clear hlt hlt8 hkn hk8 Hd
      go_wp2_with fail
      refine (known11_any wr (hG.next hbel)).mono ?_
      rintro e w14 ⟨rfl, hb1⟩
      replace hbel := hbel.trans (hb1.mono hbel.size)
      clear hb1
      go_wp2_with fail
      go_ret
      exact ⟨rfl, hbel⟩
    case pos =>
      obtain ⟨D', dc', e1, h11, h12, hrd⟩ := Hd.out
      injection e1 with e1 _ e2
      subst e1; subst e2
      obtain ⟨db, doff, rfl, hdb, hcell⟩ := hrd (by rw [List.length_map]; omega)
      obtain ⟨dv, hdv⟩ : ∃ dv, ds.getD k 0 = dv := ⟨_, rfl⟩
      have Hcell : Hid (w.cell? ⟨db, doff + k, none⟩ = some (.int .u32 (n32 dv))) := Lib.hid (hcell k _ (by rw [← hdv, List.getElem?_map, List.getElem?_eq_getElem hlt, List.getD_eq_getElem?_getD, List.getElem?_eq_getElem hlt]; rfl))
      have Hdv := Lib.hid hdv
      clear Hd h11 h12 hrd hdv hcell
      go_wp2_with fail
      refine wp_region_mix (.plain 0 <| .plain 1 <| .plain 2 <| .plain 3 <| .plain 4 <| .plain 5 <| .plain 6 <| .only 7 <| .plain 8 <| .plain 9 <| .plain 10 <| .plain 11 <| .plain 12 <| .done) (fun w' => w'.cell? ⟨w.heap.size, 0, none⟩ = some (.int .i64 (t : Int)) ∧ w'.cell? ⟨db, doff + k, none⟩ = some (.int .u32 (n32 dv))) (by kernel_rfl) (by kernel_rfl) ⟨by rw [World.cell?_drewN, hH.cell, headC_0, Ht2.out], by rw [World.cell?_drewN, (hbel.cell (p := ⟨db, doff + k, none⟩) hdb)]; exact Hcell.out⟩ ?_
      have hbd := below_drewN (Below.refl wr.heap.size wr) 1
      replace hTr := hTr.next hbd
      replace hH := hH.below hbd hH.lt
      replace hbel := hbel.trans (hbd.mono hbel.size)
      clear hbd
      generalize wr.drewN 1 = wrd at hTr hH hbel ⊢
      iterate 7 (refine mix_plain rfl ?_; (first
        | (refine wpQuiet_load1 rfl _ (.tmp 58) rfl _ rfl _ Tryd.underlying3 rfl _ (fun _ h => h.1) ?_; simp only [Act.put, List.setIfInBounds_toArray, List.set_cons_zero, List.set_cons_succ])
        | (refine wpQuiet_load1 rfl _ (.tmp 62) rfl _ rfl _ Tryd.underlying47 rfl _ (fun _ h => h.2) ?_; simp only [Act.put, List.setIfInBounds_toArray, List.set_cons_zero, List.set_cons_succ])
        | go_big_quiet_step ((intro _ _; rfl))
        | go_big_quiet_step ((intro _ _ _; rfl))
        | go_big_quiet_step (fail)); refine wpQuiet_nil ?_)
      refine mix_only_in rfl (fun K hK => ?_)
      go_wp2_with fail
      have htu := trio_turn hTr ht16 (by omega) (by obtain ⟨_, _, _, hR, _⟩ := hTr.ex; have := hR.base; have := hR.blk.lt; omega) (by have := Hbl.out; omega) (hG.next hbel)
      rw [Hdv.out] at htu
      refine htu.mono ?_
      clear htu
      rintro e wt1 ⟨rfl, hTr2, hbt⟩
      replace hH := hH.below hbt HBA.out
      replace hbel := hbel.trans (hbt.mono (Nat.le_of_lt HBA.out))
      replace hTr := hTr2.rot
      clear hbt hTr2
      go_wp2_with fail
      refine hK _ _ ⟨by rw [hH.cell, headC_0, Ht2.out], by rw [(hbel.cell (p := ⟨db, doff + k, none⟩) hdb)]; exact Hcell.out⟩ ?_
      clear hK K
      iterate 5 (refine mix_plain rfl ?_; (first
        | go_big_quiet_step ((intro _ _; rfl))
        | go_big_quiet_step ((intro _ _ _; rfl))
        | go_big_quiet_step (fail)); refine wpQuiet_nil ?_)
      refine mix_done ?_
      go_wp2_with fail
      refine wp_region_mix (.plain 0 <| .plain 1 <| .plain 2 <| .plain 3 <| .plain 4 <| .plain 5 <| .plain 6 <| .only 7 <| .plain 8 <| .plain 9 <| .plain 10 <| .plain 11 <| .plain 12 <| .done) (fun w' => w'.cell? ⟨w.heap.size, 0, none⟩ = some (.int .i64 (t : Int)) ∧ w'.cell? ⟨db, doff + k, none⟩ = some (.int .u32 (n32 dv))) (by kernel_rfl) (by kernel_rfl) ⟨by rw [World.cell?_drewN, hH.cell, headC_0, Ht2.out], by rw [World.cell?_drewN, (hbel.cell (p := ⟨db, doff + k, none⟩) hdb)]; exact Hcell.out⟩ ?_
      have hbd := below_drewN (Below.refl wt1.heap.size wt1) 1
      replace hTr := hTr.next hbd
      replace hH := hH.below hbd hH.lt
      replace hbel := hbel.trans (hbd.mono hbel.size)
      clear hbd
      generalize wt1.drewN 1 = wt1d at hTr hH hbel ⊢
      iterate 7 (refine mix_plain rfl ?_; (first
        | (refine wpQuiet_load1 rfl _ (.tmp 69) rfl _ rfl _ Tryd.underlying3 rfl _ (fun _ h => h.1) ?_; simp only [Act.put, List.setIfInBounds_toArray, List.set_cons_zero, List.set_cons_succ])
        | (refine wpQuiet_load1 rfl _ (.tmp 73) rfl _ rfl _ Tryd.underlying47 rfl _ (fun _ h => h.2) ?_; simp only [Act.put, List.setIfInBounds_toArray, List.set_cons_zero, List.set_cons_succ])
        | go_big_quiet_step ((intro _ _; rfl))
        | go_big_quiet_step ((intro _ _ _; rfl))
        | go_big_quiet_step (fail)); refine wpQuiet_nil ?_)
      refine mix_only_in rfl (fun K hK => ?_)
      go_wp2_with fail
      have htu := trio_turn hTr ht16 (by omega) (by obtain ⟨_, _, _, hR, _⟩ := hTr.ex; have := hR.base; have := hR.blk.lt; omega) (by have := Hbl.out; omega) (hG.next hbel)
      rw [Hdv.out] at htu
      refine htu.mono ?_
      clear htu
      rintro e wt2 ⟨rfl, hTr2, hbt⟩
      replace hH := hH.below hbt HBB.out
      replace hbel := hbel.trans (hbt.mono (Nat.le_of_lt HBB.out))
      replace hTr := hTr2.rot
      clear hbt hTr2
      go_wp2_with fail
      refine hK _ _ ⟨by rw [hH.cell, headC_0, Ht2.out], by rw [(hbel.cell (p := ⟨db, doff + k, none⟩) hdb)]; exact Hcell.out⟩ ?_
      clear hK K
      iterate 5 (refine mix_plain rfl ?_; (first
        | go_big_quiet_step ((intro _ _; rfl))
        | go_big_quiet_step ((intro _ _ _; rfl))
        | go_big_quiet_step (fail)); refine wpQuiet_nil ?_)
      refine mix_done ?_
      go_wp2_with fail
      refine wp_region_mix (.plain 0 <| .plain 1 <| .plain 2 <| .plain 3 <| .plain 4 <| .plain 5 <| .plain 6 <| .only 7 <| .done) (fun w' => w'.cell? ⟨w.heap.size, 0, none⟩ = some (.int .i64 (t : Int)) ∧ w'.cell? ⟨db, doff + k, none⟩ = some (.int .u32 (n32 dv))) (by kernel_rfl) (by kernel_rfl) ⟨by rw [World.cell?_drewN, hH.cell, headC_0, Ht2.out], by rw [World.cell?_drewN, (hbel.cell (p := ⟨db, doff + k, none⟩) hdb)]; exact Hcell.out⟩ ?_
      have hbd := below_drewN (Below.refl wt2.heap.size wt2) 1
      replace hTr := hTr.next hbd
      replace hH := hH.below hbd hH.lt
      replace hbel := hbel.trans (hbd.mono hbel.size)
      clear hbd
      generalize wt2.drewN 1 = wt2d at hTr hH hbel ⊢
      iterate 7 (refine mix_plain rfl ?_; (first
        | (refine wpQuiet_load1 rfl _ (.tmp 79) rfl _ rfl _ Tryd.underlying3 rfl _ (fun _ h => h.1) ?_; simp only [Act.put, List.setIfInBounds_toArray, List.set_cons_zero, List.set_cons_succ])
        | (refine wpQuiet_load1 rfl _ (.tmp 83) rfl _ rfl _ Tryd.underlying47 rfl _ (fun _ h => h.2) ?_; simp only [Act.put, List.setIfInBounds_toArray, List.set_cons_zero, List.set_cons_succ])
        | go_big_quiet_step ((intro _ _; rfl))
        | go_big_quiet_step ((intro _ _ _; rfl))
        | go_big_quiet_step (fail)); refine wpQuiet_nil ?_)
      refine mix_only_in rfl (fun K hK => ?_)
      go_wp2_with fail
      have htu := trio_turn hTr ht16 (by omega) (by obtain ⟨_, _, _, hR, _⟩ := hTr.ex; have := hR.base; have := hR.blk.lt; omega) (by have := Hbl.out; simp [zTxt]; omega) (hG.next hbel)
      rw [Hdv.out] at htu
      refine htu.mono ?_
      clear htu
      rintro e wt3 ⟨rfl, hTr2, hbt⟩
      replace hH := hH.below hbt HBC.out
      replace hbel := hbel.trans (hbt.mono (Nat.le_of_lt HBC.out))
      replace hTr := hTr2.rot
      clear hbt hTr2
      go_wp2_with fail
      refine hK _ _ ⟨by rw [hH.cell, headC_0, Ht2.out], by rw [(hbel.cell (p := ⟨db, doff + k, none⟩) hdb)]; exact Hcell.out⟩ ?_
      clear hK K
      iterate 0 (refine mix_plain rfl ?_; (first
        | go_big_quiet_step ((intro _ _; rfl))
        | go_big_quiet_step ((intro _ _ _; rfl))
        | go_big_quiet_step (fail)); refine wpQuiet_nil ?_)
      refine mix_done ?_
      go_wp2_with (first
        | (refine wpList_loadW (by rfl) 49 (.tmp 5) rfl w.heap.size rfl _ _ _ hH Tryd.underlying49 rfl (by rw [headC_size]; kernel_rfl) ?_))
      have hlA : (ksOf b t ds (k + 1) t).length = k + 1 := by rw [ksOf_self, keysOf_length]
      have hatA : (ksOf b t ds (k + 1) t).getD k [] = keyL' b t k dv := by rw [ksOf_self, keysOf_at _ _ _ _ _ (by omega), Hdv.out]
      have hallA : ∀ i, i < (ksOf b t ds (k + 1) t).length → ((ksOf b t ds (k + 1) t).getD i []).length = 32 := fun i hi => by rw [hlA] at hi; rw [ksOf_self, keysOf_at _ _ _ _ _ hi]; exact mac_length _ _
      have e2 : ((k + 1 : Nat) : Int) - 1 = (k : Int) := by omega
      have HA := Lib.hid (And.intro hlA (And.intro hatA (And.intro hallA e2)))
      clear hlA hatA hallA e2
      obtain ⟨rA, hRA⟩ := hTr.first
      refine (rsign_ok gA BA b vA rA (ksOf b t ds (k + 1)) t ht16 (by rw [HA.out.1]; omega) (by rw [HA.out.1]; omega) HA.out.2.2.1 h2 Hok2.out Ht2.out wt3 hRA (hG.next hbel)).mono ?_
      rintro e wt4 ⟨rfl, hbt⟩
      rw [HA.out.1, HA.out.2.2.2, show k + 1 - 1 = k from rfl, HA.out.2.1]
      clear hRA
      replace hTr := hTr.next hbt
      replace hH := hH.below hbt hH.lt
      replace hbel := hbel.trans (hbt.mono hbel.size)
      clear hbt
      obtain ⟨ky, hky⟩ : ∃ ky, keyL' b t k dv = ky := ⟨_, rfl⟩
      have Hkl : Hid (ky.length = 32) := Lib.hid (by rw [← hky]; exact mac_length _ _)
      have Hky := Lib.hid hky
      rw [hky]
      clear hky
      obtain ⟨h3, hh3⟩ : ∃ h3 : HeadL, (⟨t, k, h2.size, h2.clock, h2.root⟩ : HeadL) = h3 := ⟨_, rfl⟩
      have Hok3 : Hid (h3.ok ∧ h3.tree = (t : Int) ∧ h3.epoch = (k : Int)) := Lib.hid (by rw [← hh3]; exact ⟨⟨Hok2.out.1, ⟨by show (-9223372036854775808 : Int) ≤ (t : Int); omega, by show (t : Int) ≤ 9223372036854775807; omega⟩, by show (-9223372036854775808 : Int) ≤ (k : Int); omega, by show (k : Int) ≤ 9223372036854775807; omega⟩, rfl, rfl⟩)
      have Hh3 := Lib.hid hh3
      rw [hh3]
      clear hh3
      obtain ⟨T, hTd⟩ : ∃ T, tagL ky h3 = T := ⟨_, rfl⟩
      have Htl : Hid (T.length = 32) := Lib.hid (by rw [← hTd]; exact tagL_length _ _)
      have HT := Lib.hid hTd
      rw [hTd]
      clear hTd
      have hzv := zero_sig
      have hD := Blk.new wt4 51 (sigC zeroHead [])
      have hbn := below_new1 wt4 (Obj.cells (sigC zeroHead []) 51)
      go_upto_region 17 with (first
        | (refine wpList_storeB rfl rfl 51 (.tmp 16) (.tmp 106) rfl wt4.heap.size 0 rfl (sigC h3 T) rfl _ _ hD (by rw [sigC_size]; kernel_rfl) (by rw [sigC_size, sigC_size]; omega) (sigC_one _ _) ?_; intro wt5 hS hon3))
      rw [copied_all _ _ (by rw [sigC_size, sigC_size])] at hS
      have hbt := below_only hbn hon3 (Nat.le_refl _) hbn.size
      replace hTr := hTr.next hbt
      replace hH := hH.below hbt hH.lt
      replace hbel := hbel.trans (hbt.mono hbel.size)
      clear hbt hbn hon3 hD
      go_wp2_with (first
        | (refine wpList_loadW (by rfl) 49 (.tmp 5) rfl w.heap.size rfl _ _ _ hH Tryd.underlying49 rfl (by rw [headC_size]; kernel_rfl) ?_))
      obtain ⟨rB, hRB⟩ := hTr.rot.first
      refine (rsign_ok gB BB b vB rB (ksOf b t ds (k + 1)) t ht16 (by rw [HA.out.1]; omega) (by rw [HA.out.1]; omega) HA.out.2.2.1 h2 Hok2.out Ht2.out wt5 hRB (hG.next hbel)).mono ?_
      rintro e wt6 ⟨rfl, hbt⟩
      rw [HA.out.1, HA.out.2.2.2, show k + 1 - 1 = k from rfl, HA.out.2.1, Hky.out, Hh3.out, HT.out]
      clear hRB
      replace hTr := hTr.next hbt
      replace hH := hH.below hbt hH.lt
      replace hS := hS.below hbt hS.lt
      replace hbel := hbel.trans (hbt.mono hbel.size)
      clear hbt
      have hD := Blk.new wt6 51 (sigC zeroHead [])
      have hbn := below_new1 wt6 (Obj.cells (sigC zeroHead []) 51)
      go_upto_region 18 with (first
        | (refine wpList_storeB rfl rfl 51 (.tmp 18) (.tmp 112) rfl wt6.heap.size 0 rfl (sigC h3 T) rfl _ _ hD (by rw [sigC_size]; kernel_rfl) (by rw [sigC_size, sigC_size]; omega) (sigC_one _ _) ?_; intro wt7 hS2 hon3))
      rw [copied_all _ _ (by rw [sigC_size, sigC_size])] at hS2
      have hbt := below_only hbn hon3 (Nat.le_refl _) hbn.size
      replace hTr := hTr.next hbt
      replace hH := hH.below hbt hH.lt
      replace hS := hS.below hbt hS.lt
      replace hbel := hbel.trans (hbt.mono hbel.size)
      clear hbt hbn hon3 hD hzv
      have hlC : (ksOf (zTxt ++ b) t ds (k + 1) t).length = k + 1 := by rw [ksOf_self, keysOf_length]
      have hatC : (ksOf (zTxt ++ b) t ds (k + 1) t).getD k [] = keyL' (zTxt ++ b) t k dv := by rw [ksOf_self, keysOf_at _ _ _ _ _ (by omega), Hdv.out]
      obtain ⟨kz, hkz⟩ : ∃ kz, keyL' (zTxt ++ b) t k dv = kz := ⟨_, rfl⟩
      have Hzl : Hid (kz.length = 32) := Lib.hid (by rw [← hkz]; exact mac_length _ _)
      rw [hkz] at hatC
      have HC := Lib.hid (And.intro hlC (And.intro hatC hkz))
      clear hlC hatC hkz
      obtain ⟨q, hq⟩ : ∃ q, decide (tagL kz h3 = T) = q := ⟨_, rfl⟩
      have Hq := Lib.hid hq
      clear hq
      have hatB : (ksOf b t ds (k + 1) t).getD k [] = ky := HA.out.2.1.trans Hky.out
      have HB := Lib.hid hatB
      clear hatB
      have hn1 : ((zTxt ++ b).length) ≤ 140737488355128 := by have := Hbl.out; simp [zTxt]; omega
      have Hn1 := Lib.hid hn1
      clear hn1
      refine wp_region_mixP (.plain 0 <| .plain 1 <| .plain 2 <| .plain 3 <| .plain 4 <| .plain 5 <| .plain 6 <| .plain 7 <| .plain 8 <| .plain 9 <| .plain 10 <| .plain 11 <| .plain 12 <| .plain 13 <| .only 14 <| .plain 15 <| .plain 16 <| .plain 17 <| .plain 18 <| .plain 19 <| .only 20 <| .plain 21 <| .plain 22 <| .plain 23 <| .plain 24 <| .plain 25 <| .plain 27 <| .plain 28 <| .plain 31 <| .plain 33 <| .plain 34 <| .plain 35 <| .plain 36 <| .plain 37 <| .plain 38 <| .plain 39 <| .plain 41 <| .two 26 29 (.only 29 <| .only 30 <| .only 32 <| .only 40 <| .only 42 <| .plain 43 <| .plain 44 <| .done) (.two 26 30 (.only 30 <| .only 32 <| .only 40 <| .only 42 <| .plain 43 <| .plain 44 <| .done) (.only 26 <| .only 32 <| .only 40 <| .only 42 <| .plain 43 <| .plain 44 <| .done))) (by kernel_rfl) (by kernel_rfl) (fun W0 hb0 => ?_)
      replace hTr := hTr.next hb0
      replace hH := hH.below hb0 hH.lt
      replace hS := hS.below hb0 hS.lt
      replace hS2 := hS2.below hb0 hS2.lt
      replace hbel := hbel.trans (hb0.mono hbel.size)
      clear hb0
      iterate 14 (refine mix_plain rfl ?_; (first
        | (refine wpQuiet_load rfl 51 (.tmp 16) rfl wt4.heap.size rfl _ _ _ _ (fun _ ⟨e, he⟩ => by rw [he]; exact hS.plus e) Tryd.underlying51 rfl (by rw [sigC_size]; kernel_rfl) ?_; simp only [Act.put, List.setIfInBounds_toArray, List.set_cons_zero, List.set_cons_succ])
        | (refine wpQuiet_load rfl 51 (.tmp 18) rfl wt6.heap.size rfl _ _ _ _ (fun _ ⟨e, he⟩ => by rw [he]; exact hS2.plus e) Tryd.underlying51 rfl (by rw [sigC_size]; kernel_rfl) ?_; simp only [Act.put, List.setIfInBounds_toArray, List.set_cons_zero, List.set_cons_succ])
        | (refine wpQuiet_neS rfl (.tmp 121) (.tmp 122) _ rfl h3 h3 T T rfl rfl Hok3.out.1.1 Hok3.out.1.1 Htl.out Htl.out false (by rw [headEq_self, decide_eq_true rfl]; rfl) ?_; simp only [Act.put, List.setIfInBounds_toArray, List.set_cons_zero, List.set_cons_succ])
        | go_big_quiet_step (fail)); refine wpQuiet_nil ?_)
      refine mix_only rfl (fun K hK => ?_)
      go_wp2_with fail
      obtain ⟨rA', hRA⟩ := hTr.first
      refine (rholds_ok gA BA b vA rA' (ksOf b t ds (k + 1)) t ht16 k (by rw [HA.out.1]; omega) (by rw [HA.out.1]; omega) ky HB.out Hkl.out h3 Hok3.out.1 Hok3.out.2.1 Hok3.out.2.2 T Htl.out W0 hRA (hG.next hbel)).mono ?_
      rintro e W1 ⟨rfl, hb1⟩
      rw [decide_eq_true HT.out]
      go_wp2_with fail
      refine hK _ _ hb1 ?_
      clear hK K hRA
      replace hTr := hTr.next hb1
      replace hH := hH.below hb1 hH.lt
      replace hS := hS.below hb1 hS.lt
      replace hS2 := hS2.below hb1 hS2.lt
      replace hbel := hbel.trans (hb1.mono hbel.size)
      clear hb1
      iterate 5 (refine mix_plain rfl ?_; (first
        | (refine wpQuiet_load rfl 51 (.tmp 16) rfl wt4.heap.size rfl _ _ _ _ (fun _ ⟨e, he⟩ => by rw [he]; exact hS.plus e) Tryd.underlying51 rfl (by rw [sigC_size]; kernel_rfl) ?_; simp only [Act.put, List.setIfInBounds_toArray, List.set_cons_zero, List.set_cons_succ])
        | (refine wpQuiet_load rfl 51 (.tmp 18) rfl wt6.heap.size rfl _ _ _ _ (fun _ ⟨e, he⟩ => by rw [he]; exact hS2.plus e) Tryd.underlying51 rfl (by rw [sigC_size]; kernel_rfl) ?_; simp only [Act.put, List.setIfInBounds_toArray, List.set_cons_zero, List.set_cons_succ])
        | go_big_quiet_step (fail)); refine wpQuiet_nil ?_)
      refine mix_only rfl (fun K hK => ?_)
      go_wp2_with fail
      obtain ⟨rB', hRB⟩ := hTr.rot.first
      refine (rholds_ok gB BB b vB rB' (ksOf b t ds (k + 1)) t ht16 k (by rw [HA.out.1]; omega) (by rw [HA.out.1]; omega) ky HB.out Hkl.out h3 Hok3.out.1 Hok3.out.2.1 Hok3.out.2.2 T Htl.out W1 hRB (hG.next hbel)).mono ?_
      rintro e W2 ⟨rfl, hb1⟩
      rw [decide_eq_true HT.out]
      go_wp2_with fail
      refine hK _ _ hb1 ?_
      clear hK K hRB
      replace hTr := hTr.next hb1
      replace hH := hH.below hb1 hH.lt
      replace hS := hS.below hb1 hS.lt
      replace hS2 := hS2.below hb1 hS2.lt
      replace hbel := hbel.trans (hb1.mono hbel.size)
      clear hb1
      have cT : W2.cell? ⟨w.heap.size, 0, none⟩ = some (.int .i64 (t : Int)) := by rw [hH.cell, headC_0, Ht2.out]
      have cD : W2.cell? ⟨db, doff + k, none⟩ = some (.int .u32 (n32 dv)) := (hbel.cell (p := ⟨db, doff + k, none⟩) hdb).trans Hcell.out
      have hdbW : db < W2.heap.size := Nat.lt_of_lt_of_le hdb hbel.size
      iterate 16 (refine mix_plain rfl ?_; (first
        | (refine wpQuiet_load rfl 51 (.tmp 16) rfl wt4.heap.size rfl _ _ _ _ (fun _ ⟨e, he⟩ => by rw [he]; exact hS.plus e) Tryd.underlying51 rfl (by rw [sigC_size]; kernel_rfl) ?_; simp only [Act.put, List.setIfInBounds_toArray, List.set_cons_zero, List.set_cons_succ])
        | (refine wpQuiet_load1 rfl _ (.tmp 147) rfl _ rfl _ Tryd.underlying3 rfl _ (fun _ ⟨e, he⟩ => by rw [he, plus_cell _ _ _ hH.lt]; exact cT) ?_; simp only [Act.put, List.setIfInBounds_toArray, List.set_cons_zero, List.set_cons_succ])
        | (refine wpQuiet_load1 rfl _ (.tmp 152) rfl _ rfl _ Tryd.underlying47 rfl _ (fun _ ⟨e, he⟩ => by rw [he, plus_cell _ _ _ hdbW]; exact cD) ?_; simp only [Act.put, List.setIfInBounds_toArray, List.set_cons_zero, List.set_cons_succ])
        | go_big_quiet_step (fail)); refine wpQuiet_nil ?_)
      clear cT cD
      obtain ⟨B0, hB0⟩ : ∃ B0, B0 = W2.heap.size := ⟨_, rfl⟩
      have HB0 := Lib.hid hB0
      have hcH : ∀ V, Below B0 W2 V → Calls Tryd.prog 27 #[.pointer (some ⟨gC, 0, none⟩), .agg (sigC h3 T)] V fun e w' => e = .returned (.bool q) ∧ Below V.heap.size V w' := by
        intro V hV
        rw [hB0] at hV
        obtain ⟨rC', hRC⟩ := (hTr.next hV).rot.rot.first
        refine (rholds_ok gC BC (zTxt ++ b) vC rC' (ksOf (zTxt ++ b) t ds (k + 1)) t ht16 k (by rw [HC.out.1]; omega) (by rw [HC.out.1]; omega) kz HC.out.2.1 Hzl.out h3 Hok3.out.1 Hok3.out.2.1 Hok3.out.2.2 T Htl.out V hRC (hG.next (hbel.trans (hV.mono hbel.size)))).mono ?_
        rintro e w' ⟨rfl, hb⟩
        exact ⟨by rw [Hq.out], hb⟩
      have HcH := Lib.hid hcH
      have hb : Below B0 W2 W2 := by rw [hB0]; exact Below.refl _ _
      clear hcH hB0
      have HTr := Lib.hid hTr
      have Hbx := Lib.hid hH
      clear hTr hH hS2
      have HS := Lib.hid hS
      clear hS
      refine mix_two_in rfl rfl (fun K hk => ?_) (fun K hk => ?_)
      case' refine_1 =>
        go_wp2_with fail
        refine (HcH.out W2 hb).mono ?_
        rintro e V1 ⟨rfl, hb1⟩
        replace hb := hb.trans (hb1.mono (below_sizeN HB0 hb))
        clear hb1
        go_wp2_with fail
        refine hk _ _ (below_plusN HB0 hb) ?_
        clear hk K
        refine mix_only_in rfl (fun K hk => ?_)
        go_wp2_with fail
        have hb' := hb.alloc (below_sizeN HB0 hb) (Obj.cells #[.int .u8 122] 5)
        have hL := Lit.new V1 zTxt 5
        refine hk _ _ (below_plusN HB0 hb') ?_
        clear hk K
        have hgK : B0 ≤ V1.heap.size := below_sizeN HB0 hb
        refine mix_atC (fun V => Below B0 W2 V ∧ Lit V V1.heap.size zTxt) ⟨hb', hL⟩ ?_
        clear hb hb' hL
        generalize V1.heap.size = gK at hgK ⊢
        rintro V2 ⟨hb, hL⟩
        refine mix_only_in rfl (fun K hk => ?_)
        refine wpList_unguard rfl ?_
        refine wpList_convSelf rfl _ 5 (.tmp 143) rfl Tryd.underlying32 Tryd.underlying5 gK 1 1 rfl _ hL ?_
        intro kk2
        replace hb := below_freeze hb ⟨gK, kk2, none⟩ hgK 1
        replace hL := hL.freeze ⟨gK, kk2, none⟩ 1
        simp only [Act.put, List.setIfInBounds_toArray, List.set_cons_zero, List.set_cons_succ]
        refine hk _ _ (below_plusN HB0 hb) ?_
        clear hk K
        refine mix_atC (fun V => Below B0 W2 V ∧ Lit V gK zTxt) ⟨hb, hL⟩ ?_
        clear hb hL
        rintro V3 ⟨hb, hL⟩
      case' refine_2 =>
        go_wp2_with fail
        have hb' := hb.alloc (below_sizeN HB0 hb) (Obj.cells #[.int .u8 122] 5)
        have hL := Lit.new W2 zTxt 5
        refine hk _ _ (below_plusN HB0 hb') ?_
        clear hk K
        have hgK : B0 ≤ W2.heap.size := below_sizeN HB0 hb
        refine mix_atC (fun V => Below B0 W2 V ∧ Lit V W2.heap.size zTxt) ⟨hb', hL⟩ ?_
        clear hb hb' hL
        generalize hgg : W2.heap.size = gK at hgK ⊢
        clear hgg
        rintro V2 ⟨hb, hL⟩
        refine mix_two_in rfl rfl (fun K hk => ?_) (fun K hk => ?_)
      case' refine_2.refine_1 =>
        go_wp2_with fail
        refine (HcH.out V2 hb).mono ?_
        rintro e V1 ⟨rfl, hb1⟩
        replace hL := hL.below hb1 
        replace hb := hb.trans (hb1.mono (below_sizeN HB0 hb))
        clear hb1
        go_wp2_with fail
        refine hk _ _ (below_plusN HB0 hb) ?_
        clear hk K
        refine mix_only_in rfl (fun K hk => ?_)
        refine wpList_unguard rfl ?_
        refine wpList_convSelf rfl _ 5 (.tmp 143) rfl Tryd.underlying32 Tryd.underlying5 gK 1 1 rfl _ hL ?_
        intro kk2
        replace hb := below_freeze hb ⟨gK, kk2, none⟩ hgK 1
        replace hL := hL.freeze ⟨gK, kk2, none⟩ 1
        simp only [Act.put, List.setIfInBounds_toArray, List.set_cons_zero, List.set_cons_succ]
        refine hk _ _ (below_plusN HB0 hb) ?_
        clear hk K
        refine mix_atC (fun V => Below B0 W2 V ∧ Lit V gK zTxt) ⟨hb, hL⟩ ?_
        clear hb hL
        rintro V3 ⟨hb, hL⟩
      case' refine_2.refine_2 =>
        refine wpList_unguard rfl ?_
        refine wpList_convSelf rfl _ 5 (.tmp 143) rfl Tryd.underlying32 Tryd.underlying5 gK 1 1 rfl _ hL ?_
        intro kk2
        replace hb := below_freeze hb ⟨gK, kk2, none⟩ hgK 1
        replace hL := hL.freeze ⟨gK, kk2, none⟩ 1
        simp only [Act.put, List.setIfInBounds_toArray, List.set_cons_zero, List.set_cons_succ]
        refine hk _ _ (below_plusN HB0 hb) ?_
        clear hk K
        refine mix_atC (fun V => Below B0 W2 V ∧ Lit V gK zTxt) ⟨hb, hL⟩ ?_
        clear hb hL
        rintro V1 ⟨hb, hL⟩
        refine mix_only_in rfl (fun K hk => ?_)
        go_wp2_with fail
        refine (HcH.out V1 hb).mono ?_
        rintro e V3 ⟨rfl, hb1⟩
        replace hL := hL.below hb1
        replace hb := hb.trans (hb1.mono (below_sizeN HB0 hb))
        clear hb1
        go_wp2_with fail
        refine hk _ _ (below_plusN HB0 hb) ?_
        clear hk K
      all_goals
        have hbW : Below w.heap.size w V3 := hbel.trans ((show Below W2.heap.size W2 V3 by rw [← HB0.out]; exact hb).mono hbel.size)
        have hTb : Tbl V3 V3.heap.size (.pointer (some ⟨gT, 0, none⟩)) := (HTr.out.next (show Below W2.heap.size W2 V3 by rw [← HB0.out]; exact hb)).tbl
        refine mix_only_in rfl (fun K hk => ?_)
        refine wpList_unguard rfl ?_
        refine wpList_appendLit rfl (.tmp 144) (.tmp 145) rfl gK 1 zTxt rfl hL rfl (by decide) _ b rfl (Hb0.out.next hbW) Hbl.out ?_
        intro uz V4 hBz hb4
        simp only [Act.put, List.setIfInBounds_toArray, List.set_cons_zero, List.set_cons_succ]
        replace hb := hb.trans (hb4.mono (below_sizeN HB0 hb))
        refine hk _ _ (below_plusN HB0 hb) ?_
        clear hk K
        replace hTb := hTb.nxt hb4
        replace hbW := hbW.trans (hb4.mono hbW.size)
        clear hL hb4
        refine mix_only_in rfl (fun K hk => ?_)
        go_wp2_with fail
        refine (rkey_any _ uz (zTxt ++ b) t k dv V4 hTb hBz Hn1.out (by omega) (by omega)).mono ?_
        rintro e V5 ⟨rfl, hb4⟩
        rw [HC.out.2.2]
        go_wp2_with fail
        replace hb := hb.trans (hb4.mono (below_sizeN HB0 hb))
        refine hk _ _ (below_plusN HB0 hb) ?_
        clear hk K
        replace hTb := hTb.nxt hb4
        replace hbW := hbW.trans (hb4.mono hbW.size)
        clear hb4 hBz
        refine mix_only_in rfl (fun K hk => ?_)
        go_wp2_with fail
        refine (rholds_any _ kz Hzl.out h3 Hok3.out.1 T Htl.out V5 hTb).mono ?_
        rintro e V6 ⟨rfl, hb4⟩
        rw [Hq.out]
        go_wp2_with fail
        replace hb := hb.trans (hb4.mono (below_sizeN HB0 hb))
        refine hk _ _ (below_plusN HB0 hb) ?_
        clear hk K
        replace hbW := hbW.trans (hb4.mono hbW.size)
        clear hb4 hTb
        have hqq : (q != q) = false := by cases q <;> rfl
        iterate 2 (refine mix_plain rfl ?_; go_big_quiet_step (fail); refine wpQuiet_nil ?_)
        refine mix_done ?_
        clear hqq
        have hTr := HTr.out.next (show Below W2.heap.size W2 V6 by rw [← HB0.out]; exact hb)
        have hH : Blk V6 w.heap.size 49 (headC h2) := Hbx.out.below (show Below W2.heap.size W2 V6 by rw [← HB0.out]; exact hb) Hbx.out.lt
        have HF := Lib.hid (And.intro hTr (And.intro hH hbW))
        clear hTr hH hbW hb
        go_wp2_with fail
        go_roundw
        case rel => exact ⟨k + 1, by omega, by omega, by go_num, HF.out.1, HF.out.2.1, HF.out.2.2⟩
        case measure => simp [intOf]; omega
end Go.Proofs.YtbhmmoecoijojaaDoor
