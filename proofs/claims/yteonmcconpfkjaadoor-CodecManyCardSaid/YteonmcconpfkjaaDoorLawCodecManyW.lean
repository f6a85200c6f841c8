/- The walk of deponentlaw2's CodecMany. Condition: the table of strconv. -/
import Derived.Test.YteonmcconpfkjaaDoorQ15
import Derived.Test.YteonmcconpfkjaaDoorQ16
namespace Go.Proofs.YteonmcconpfkjaaDoor
open Go Go.RowKit
attribute [local irreducible] mixW
attribute [local go_sem] n8_lo n8_hi n64_lo n64_hi
theorem want_eq (u : UInt64) (m : Nat) : (n64 u).tmod (m : Int) = ((u.toNat % m : Nat) : Int) := by
  unfold n64
  rw [Int.tmod_eq_emod_of_nonneg (by omega)]
  rfl
theorem mod_full (u : UInt64) : u.toNat % 256 ^ 8 = u.toNat := by
  have h := u.toNat_lt
  have e : (256 : Nat) ^ 8 = 18446744073709551616 := by decide
  rw [e]
  exact Nat.mod_eq_of_lt h
set_option maxHeartbeats 4000000 in
set_option maxRecDepth 100000 in
theorem codecMany_walk (w : World) (hz : Pz w) (A1 : Option Addr) (c1 : Nat) (us : List UInt64) (hl1 : us.length ≤ 9223372036854775807) (hr1 : Reads w w.heap.size A1 (us.map v64))
    (A2 : Option Addr) (c2 : Nat) (zs : List Int) (hl2 : zs.length ≤ 9223372036854775807) (hr2 : Reads w w.heap.size A2 (zs.map (Value.int .i64))) (hb2 : ∀ z ∈ zs, -9223372036854775808 ≤ z ∧ z ≤ 9223372036854775807) :
    Calls Tryd.prog 10 #[.slice A1 us.length c1, .slice A2 zs.length c2] w fun e w' => e = .returned (.bool true) ∧ Below w.heap.size w w' := by
  have HZ := Lib.hid hz
  have HP := Lib.hid (And.intro hr1 (And.intro hr2 hb2))
  clear hz hr1 hr2 hb2
  go_enter Tryd.func10, Tryd.ntmps10
  go_wp2_with fail
  refine (newWriter_any w).mono ?_
  rintro e w1 ⟨p, rfl, hW, hb1⟩
  obtain ⟨g, v, rfl, hW1⟩ := Wr.of_new hW
  have H1 := Lib.hid (And.intro hW hb1)
  clear hW hb1 hW1
  go_wp2_with fail
  go_loopw [6, 7] (fun nv iv wr => ∃ i : Nat, i ≤ us.length ∧ i ≤ zs.length ∧ i ≤ 40 ∧ nv = .int .i64 (((manyB us zs i).length : Nat) : Int) ∧ iv = .int .i64 i ∧ Wrt wr w.heap.size (.pointer (some ⟨g, 0, none⟩)) (manyB us zs i) ∧ Below w.heap.size w wr) (fun _ iv _ => 40 - (intOf iv).toNat)
  case atStart => exact ⟨0, by omega, by omega, by omega, rfl, rfl, H1.out.1, H1.out.2⟩
  case round =>
    clear H1
    obtain ⟨i, hi1, hi2, hi3, rfl, rfl, hW, hbel⟩ := hrel
    have hml := manyB_len us zs i
    have hcond : (i < us.length ∧ i < zs.length ∧ i < 40) ∨ ((us.length : Int) ≤ (i : Int) ∨ ((i : Int) < (us.length : Int) ∧ (zs.length : Int) ≤ (i : Int)) ∨ ((i : Int) < (us.length : Int) ∧ (i : Int) < (zs.length : Int) ∧ (40 : Int) ≤ (i : Int))) := by omega
    rcases hcond with ⟨h1, h2, h3⟩ | hex
    · obtain ⟨b1, o1, rfl, hb1, hcell1⟩ := HP.out.1 (by rw [List.length_map]; omega)
      obtain ⟨b2, o2, rfl, hb2, hcell2⟩ := HP.out.2.1 (by rw [List.length_map]; omega)
      have hc1 := hcell1 i (.int .u64 (n64 (us.getD i 0))) (by rw [List.getElem?_map, List.getElem?_eq_getElem h1, List.getD_eq_getElem?_getD, List.getElem?_eq_getElem h1]; rfl)
      have hc2 := hcell2 i (.int .i64 (zs.getD i 0)) (by rw [List.getElem?_map, List.getElem?_eq_getElem h2, List.getD_eq_getElem?_getD, List.getElem?_eq_getElem h2]; rfl)
      have hz0 : -9223372036854775808 ≤ zs.getD i 0 ∧ zs.getD i 0 ≤ 9223372036854775807 := HP.out.2.2 _ (by rw [List.getD_eq_getElem?_getD, List.getElem?_eq_getElem h2]; exact List.getElem_mem h2)
      have hsucc := manyB_succ us zs i
      have hkv := kOf_val (zs.getD i 0)
      have hk1 := kOf_lo (zs.getD i 0)
      have hk8 := kOf_hi (zs.getD i 0)
      have hnl := numB_length (us.getD i 0) (kOf (zs.getD i 0))
      obtain ⟨u, hu⟩ : ∃ u, us.getD i 0 = u := ⟨_, rfl⟩
      obtain ⟨z, hzz⟩ : ∃ z, zs.getD i 0 = z := ⟨_, rfl⟩
      rw [hu] at hc1 hsucc hnl
      rw [hzz] at hc2 hz0 hsucc hkv hk1 hk8 hnl
      obtain ⟨k, hk⟩ : ∃ k, kOf z = k := ⟨_, rfl⟩
      rw [hk] at hsucc hkv hk1 hk8 hnl
      have h1' : (i : Int) < (us.length : Int) := by omega
      have h2' : (i : Int) < (zs.length : Int) := by omega
      have h3' : (i : Int) < 40 := by omega
      obtain ⟨y, hy⟩ : ∃ y, withinI z 0 7 = y := ⟨_, rfl⟩
      rw [hy] at hkv
      have Hkv := Lib.hid hkv
      have hlN : (manyB us zs (i + 1)).length = (manyB us zs i).length + k := by rw [hsucc, List.length_append, hnl]
      obtain ⟨N, hN⟩ : ∃ N, (manyB us zs i).length = N := ⟨_, rfl⟩
      rw [hN] at hml hlN ⊢
      have HX := Lib.hid (And.intro hsucc (And.intro hlN (And.intro hW (And.intro hbel (And.intro hc1 hc2)))))
      have HN := Lib.hid hN
      have Hy := Lib.hid hy
      clear hy
      clear hcell1 hcell2 hc1 hc2 hu hzz hk hkv hsucc hlN hW hbel h1 h2 h3 hN hnl
      go_wp2_with fail
      refine wp_region_mix (.plain 0 <| .plain 1 <| .plain 2 <| .plain 3 <| .plain 4 <| .plain 5 <| .plain 6 <| .plain 7 <| .plain 8 <| .only 9 <| .plain 10 <| .only 11 <| .done) (fun W => W.cell? ⟨b1, o1 + i, none⟩ = some (.int .u64 (n64 u)) ∧ W.cell? ⟨b2, o2 + i, none⟩ = some (.int .i64 z)) (by kernel_rfl) (by kernel_rfl) ⟨by rw [World.cell?_drewN, HX.out.2.2.2.1.cell (p := ⟨b1, o1 + i, none⟩) hb1]; exact HX.out.2.2.2.2.1, by rw [World.cell?_drewN, HX.out.2.2.2.1.cell (p := ⟨b2, o2 + i, none⟩) hb2]; exact HX.out.2.2.2.2.2⟩ ?_
      have hbd := below_drewN (Below.refl wr.heap.size wr) 1
      have hWd : Wrt (wr.drewN 1) w.heap.size (.pointer (some ⟨g, 0, none⟩)) (manyB us zs i) := HX.out.2.2.1
      have hbeld := below_drewN HX.out.2.2.2.1 1
      have HY := Lib.hid (And.intro hWd hbeld)
      clear hbd hWd hbeld
      generalize wr.drewN 1 = wrd at HY ⊢
      iterate 9 (refine mix_plain rfl ?_; (first
        | (refine wpQuiet_load1 rfl _ (.tmp 35) rfl _ rfl _ Tryd.underlying41 rfl _ (fun _ h => h.1) ?_; simp only [Act.put, List.setIfInBounds_toArray, List.set_cons_zero, List.set_cons_succ])
        | (refine wpQuiet_load1 rfl _ (.tmp 39) rfl _ rfl _ Tryd.underlying3 rfl _ (fun _ h => h.2) ?_; simp only [Act.put, List.setIfInBounds_toArray, List.set_cons_zero, List.set_cons_succ])
        | go_big_quiet_step ((intro _ _; rfl))
        | go_big_quiet_step ((intro _ _ _; rfl))
        | go_big_quiet_step (fail)); refine wpQuiet_nil ?_)
      refine mix_only_in rfl (fun K hK => ?_)
      go_wp2_with fail
      refine (within_any z 0 7 wrd (by decide) (by decide) (by decide) hz0.1 hz0.2).mono ?_
      rintro e _ ⟨rfl, rfl⟩
      rw [Hy.out]
      have hkv := Hkv.out
      go_wp2_with fail
      refine hK _ _ ⟨by rw [HY.out.2.cell (p := ⟨b1, o1 + i, none⟩) hb1]; exact HX.out.2.2.2.2.1, by rw [HY.out.2.cell (p := ⟨b2, o2 + i, none⟩) hb2]; exact HX.out.2.2.2.2.2⟩ ?_
      clear hK K
      iterate 1 (refine mix_plain rfl ?_; (first
        | go_big_quiet_step ((intro _ _; rfl))
        | go_big_quiet_step ((intro _ _ _; rfl))
        | go_big_quiet_step (fail)); refine wpQuiet_nil ?_)
      try rw [hkv]
      refine mix_only_in rfl (fun K hK => ?_)
      go_wp2_with fail
      refine (number_any _ _ u k (by omega) wrd w.heap.size HY.out.1 HY.out.2.size (by rw [HN.out]; omega)).mono ?_
      rintro e w3 ⟨rfl, hW3, hb3⟩
      have HY3 := Lib.hid (And.intro hW3 (HY.out.2.trans hb3))
      clear hW3 hb3 HY
      go_wp2_with fail
      refine hK _ _ ⟨by rw [HY3.out.2.cell (p := ⟨b1, o1 + i, none⟩) hb1]; exact HX.out.2.2.2.2.1, by rw [HY3.out.2.cell (p := ⟨b2, o2 + i, none⟩) hb2]; exact HX.out.2.2.2.2.2⟩ ?_
      clear hK K
      refine mix_done ?_
      have hc2 : w3.cell? ⟨b2, o2 + i, none⟩ = some (.int .i64 z) := by rw [HY3.out.2.cell (p := ⟨b2, o2 + i, none⟩) hb2]; exact HX.out.2.2.2.2.2
      clear hkv
      go_wp2_with fail
      refine (within_any z 0 7 w3 (by decide) (by decide) (by decide) hz0.1 hz0.2).mono ?_
      rintro e _ ⟨rfl, rfl⟩
      rw [Hy.out]
      have hkv : (N : Int) + 1 + y = ((N + k : Nat) : Int) := by have := Hkv.out; omega
      have hy7 : -100 < y ∧ y < 100 := by have := Hkv.out; omega
      go_wp2_with fail
      clear hkv
      go_roundw
      case rel =>
        refine ⟨i + 1, by omega, by omega, by omega, ?_, by go_num, ?_, HY3.out.2⟩
        · rw [HX.out.2.1]; first | rfl | (congr 1; have := Hkv.out; omega)
        · have h9 := HY3.out.1
          rw [clamp8_self k hk1 hk8, ← HX.out.1] at h9
          exact h9
      case measure => simp [intOf]; omega
    · have hml2 : (manyB us zs i).length ≤ 140737488355328 := by omega
      obtain ⟨bs, hbs⟩ : ∃ bs, manyB us zs i = bs := ⟨_, rfl⟩
      rw [hbs] at hW hml2 hml ⊢
      have HX := Lib.hid (And.intro hW (And.intro hbel hbs))
      clear hW hbel hbs hml
      obtain ⟨wa, rfl⟩ : ∃ wa, wa = wr := ⟨_, rfl⟩
      rcases hex with hA | ⟨hA, hB⟩ | ⟨hA, hB, hC⟩
      all_goals
        go_wp2_with fail
        refine (done_any _ bs wa w.heap.size HX.out.1 hml2).mono ?_
        rintro e w2 ⟨x, rfl, hx, -, hb2⟩
        obtain ⟨A, c, rfl⟩ := hx.len
        have H2 := Lib.hid (And.intro hx (HX.out.2.1.trans (hb2.mono HX.out.2.1.size)))
        clear hx hb2
        go_wp2_with fail
        refine (newReader_any _ bs w2 H2.out.1 hml2).mono ?_
        rintro e w3 ⟨r, rfl, hR, hb3⟩
        have H3 := Lib.hid (And.intro (hR.base H2.out.2.size) (H2.out.2.trans (hb3.mono H2.out.2.size)))
        clear hR hb3
        go_wp2_with fail
        go_loopw [10] (fun jv wr => ∃ j : Nat, j ≤ i ∧ jv = .int .i64 j ∧ Rdr wr w.heap.size r ⟨bs, (manyB us zs j).length, none⟩ ∧ Below w.heap.size w wr) (fun jv _ => 41 - (intOf jv).toNat)
        case atStart => exact ⟨0, by omega, rfl, H3.out.1, H3.out.2⟩
        case round =>
          clear H2 H3
          obtain ⟨j, hj, rfl, hR, hbel⟩ := hrel
          have HR := Lib.hid (And.intro hR hbel)
          clear hR hbel
          by_cases hji : j < i
          · have h1 : j < us.length := by omega
            have h2 : j < zs.length := by omega
            obtain ⟨b1, o1, rfl, hb1, hcell1⟩ := HP.out.1 (by rw [List.length_map]; omega)
            obtain ⟨b2, o2, rfl, hb2, hcell2⟩ := HP.out.2.1 (by rw [List.length_map]; omega)
            have hc1 := hcell1 j (.int .u64 (n64 (us.getD j 0))) (by rw [List.getElem?_map, List.getElem?_eq_getElem h1, List.getD_eq_getElem?_getD, List.getElem?_eq_getElem h1]; rfl)
            have hc2 := hcell2 j (.int .i64 (zs.getD j 0)) (by rw [List.getElem?_map, List.getElem?_eq_getElem h2, List.getD_eq_getElem?_getD, List.getElem?_eq_getElem h2]; rfl)
            have hz0 : -9223372036854775808 ≤ zs.getD j 0 ∧ zs.getD j 0 ≤ 9223372036854775807 := HP.out.2.2 _ (by rw [List.getD_eq_getElem?_getD, List.getElem?_eq_getElem h2]; exact List.getElem_mem h2)
            have hrdm := rd_many us zs i j hji
            rw [HX.out.2.2] at hrdm
            have hkv := kOf_val (zs.getD j 0)
            have hk1 := kOf_lo (zs.getD j 0)
            have hk8 := kOf_hi (zs.getD j 0)
            obtain ⟨u, hu⟩ : ∃ u, us.getD j 0 = u := ⟨_, rfl⟩
            obtain ⟨z, hzz⟩ : ∃ z, zs.getD j 0 = z := ⟨_, rfl⟩
            rw [hu] at hc1 hrdm
            rw [hzz] at hc2 hz0 hrdm hkv hk1 hk8
            obtain ⟨k, hk⟩ : ∃ k, kOf z = k := ⟨_, rfl⟩
            rw [hk] at hrdm hkv hk1 hk8
            obtain ⟨y, hy⟩ : ∃ y, withinI z 0 7 = y := ⟨_, rfl⟩
            rw [hy] at hkv
            rw [← HR.out.2.cell (p := ⟨b1, o1 + j, none⟩) hb1] at hc1
            rw [← HR.out.2.cell (p := ⟨b2, o2 + j, none⟩) hb2] at hc2
            have h1' : (j : Int) < (us.length : Int) := by omega
            have h2' : (j : Int) < (zs.length : Int) := by omega
            have h3' : (j : Int) < 40 := by omega
            have Hm := Lib.hid (And.intro hrdm (And.intro hy hkv))
            clear hcell1 hcell2 hu hzz hk hkv hrdm hy h1 h2 hji
            go_wp2_with fail
            refine (within_any z 0 7 wr (by decide) (by decide) (by decide) hz0.1 hz0.2).mono ?_
            rintro e _ ⟨rfl, rfl⟩
            rw [Hm.out.2.1]
            have hkv := Hm.out.2.2
            have hk' : k = 1 ∨ k = 2 ∨ k = 3 ∨ k = 4 ∨ k = 5 ∨ k = 6 ∨ k = 7 ∨ k = 8 := by omega
            rcases hk' with rfl | rfl | rfl | rfl | rfl | rfl | rfl | rfl
            · have hnm : (⟨bs, (manyB us zs j).length, none⟩ : RdL).number 1 = (u.toNat % 256 ^ 1, ⟨bs, (manyB us zs (j + 1)).length, none⟩) := Hm.out.1
              have hX : ((u.toNat % 256 ^ 1 : Nat) : Int) = (n64 u).tmod 256 := (want_eq u 256).symm
              have Hn := Lib.hid (And.intro hnm hX)
              clear hnm hX
              go_wp2_with fail
              refine (rdNumber_any wr w.heap.size r _ 1 (by decide) HR.out.1 HR.out.2.size).mono ?_
              rw [Hn.out.1]
              rintro e w5 ⟨rfl, hR5, hg5⟩
              rw [Hn.out.2]
              have H5 := Lib.hid (And.intro hR5 (below_only HR.out.2 hg5 HR.out.1.ge HR.out.2.size))
              clear hR5 hg5 hkv
              go_wp2_with fail
              go_roundw
              case rel => exact ⟨j + 1, by omega, by go_num, H5.out.1, H5.out.2⟩
              case measure => simp [intOf]; omega
            · have hnm : (⟨bs, (manyB us zs j).length, none⟩ : RdL).number 2 = (u.toNat % 256 ^ 2, ⟨bs, (manyB us zs (j + 1)).length, none⟩) := Hm.out.1
              have hX : ((u.toNat % 256 ^ 2 : Nat) : Int) = (n64 u).tmod 65536 := (want_eq u 65536).symm
              have Hn := Lib.hid (And.intro hnm hX)
              clear hnm hX
              go_wp2_with fail
              refine (rdNumber_any wr w.heap.size r _ 2 (by decide) HR.out.1 HR.out.2.size).mono ?_
              rw [Hn.out.1]
              rintro e w5 ⟨rfl, hR5, hg5⟩
              rw [Hn.out.2]
              have H5 := Lib.hid (And.intro hR5 (below_only HR.out.2 hg5 HR.out.1.ge HR.out.2.size))
              clear hR5 hg5 hkv
              go_wp2_with fail
              go_roundw
              case rel => exact ⟨j + 1, by omega, by go_num, H5.out.1, H5.out.2⟩
              case measure => simp [intOf]; omega
            · have hnm : (⟨bs, (manyB us zs j).length, none⟩ : RdL).number 3 = (u.toNat % 256 ^ 3, ⟨bs, (manyB us zs (j + 1)).length, none⟩) := Hm.out.1
              have hX : ((u.toNat % 256 ^ 3 : Nat) : Int) = (n64 u).tmod 16777216 := (want_eq u 16777216).symm
              have Hn := Lib.hid (And.intro hnm hX)
              clear hnm hX
              go_wp2_with fail
              refine (rdNumber_any wr w.heap.size r _ 3 (by decide) HR.out.1 HR.out.2.size).mono ?_
              rw [Hn.out.1]
              rintro e w5 ⟨rfl, hR5, hg5⟩
              rw [Hn.out.2]
              have H5 := Lib.hid (And.intro hR5 (below_only HR.out.2 hg5 HR.out.1.ge HR.out.2.size))
              clear hR5 hg5 hkv
              go_wp2_with fail
              go_roundw
              case rel => exact ⟨j + 1, by omega, by go_num, H5.out.1, H5.out.2⟩
              case measure => simp [intOf]; omega
            · have hnm : (⟨bs, (manyB us zs j).length, none⟩ : RdL).number 4 = (u.toNat % 256 ^ 4, ⟨bs, (manyB us zs (j + 1)).length, none⟩) := Hm.out.1
              have hX : ((u.toNat % 256 ^ 4 : Nat) : Int) = (n64 u).tmod 4294967296 := (want_eq u 4294967296).symm
              have Hn := Lib.hid (And.intro hnm hX)
              clear hnm hX
              go_wp2_with fail
              refine (rdNumber_any wr w.heap.size r _ 4 (by decide) HR.out.1 HR.out.2.size).mono ?_
              rw [Hn.out.1]
              rintro e w5 ⟨rfl, hR5, hg5⟩
              rw [Hn.out.2]
              have H5 := Lib.hid (And.intro hR5 (below_only HR.out.2 hg5 HR.out.1.ge HR.out.2.size))
              clear hR5 hg5 hkv
              go_wp2_with fail
              go_roundw
              case rel => exact ⟨j + 1, by omega, by go_num, H5.out.1, H5.out.2⟩
              case measure => simp [intOf]; omega
            · have hnm : (⟨bs, (manyB us zs j).length, none⟩ : RdL).number 5 = (u.toNat % 256 ^ 5, ⟨bs, (manyB us zs (j + 1)).length, none⟩) := Hm.out.1
              have hX : ((u.toNat % 256 ^ 5 : Nat) : Int) = (n64 u).tmod 1099511627776 := (want_eq u 1099511627776).symm
              have Hn := Lib.hid (And.intro hnm hX)
              clear hnm hX
              go_wp2_with fail
              refine (rdNumber_any wr w.heap.size r _ 5 (by decide) HR.out.1 HR.out.2.size).mono ?_
              rw [Hn.out.1]
              rintro e w5 ⟨rfl, hR5, hg5⟩
              rw [Hn.out.2]
              have H5 := Lib.hid (And.intro hR5 (below_only HR.out.2 hg5 HR.out.1.ge HR.out.2.size))
              clear hR5 hg5 hkv
              go_wp2_with fail
              go_roundw
              case rel => exact ⟨j + 1, by omega, by go_num, H5.out.1, H5.out.2⟩
              case measure => simp [intOf]; omega
            · have hnm : (⟨bs, (manyB us zs j).length, none⟩ : RdL).number 6 = (u.toNat % 256 ^ 6, ⟨bs, (manyB us zs (j + 1)).length, none⟩) := Hm.out.1
              have hX : ((u.toNat % 256 ^ 6 : Nat) : Int) = (n64 u).tmod 281474976710656 := (want_eq u 281474976710656).symm
              have Hn := Lib.hid (And.intro hnm hX)
              clear hnm hX
              go_wp2_with fail
              refine (rdNumber_any wr w.heap.size r _ 6 (by decide) HR.out.1 HR.out.2.size).mono ?_
              rw [Hn.out.1]
              rintro e w5 ⟨rfl, hR5, hg5⟩
              rw [Hn.out.2]
              have H5 := Lib.hid (And.intro hR5 (below_only HR.out.2 hg5 HR.out.1.ge HR.out.2.size))
              clear hR5 hg5 hkv
              go_wp2_with fail
              go_roundw
              case rel => exact ⟨j + 1, by omega, by go_num, H5.out.1, H5.out.2⟩
              case measure => simp [intOf]; omega
            · have hnm : (⟨bs, (manyB us zs j).length, none⟩ : RdL).number 7 = (u.toNat % 256 ^ 7, ⟨bs, (manyB us zs (j + 1)).length, none⟩) := Hm.out.1
              have hX : ((u.toNat % 256 ^ 7 : Nat) : Int) = (n64 u).tmod 72057594037927936 := (want_eq u 72057594037927936).symm
              have Hn := Lib.hid (And.intro hnm hX)
              clear hnm hX
              go_wp2_with fail
              refine (rdNumber_any wr w.heap.size r _ 7 (by decide) HR.out.1 HR.out.2.size).mono ?_
              rw [Hn.out.1]
              rintro e w5 ⟨rfl, hR5, hg5⟩
              rw [Hn.out.2]
              have H5 := Lib.hid (And.intro hR5 (below_only HR.out.2 hg5 HR.out.1.ge HR.out.2.size))
              clear hR5 hg5 hkv
              go_wp2_with fail
              go_roundw
              case rel => exact ⟨j + 1, by omega, by go_num, H5.out.1, H5.out.2⟩
              case measure => simp [intOf]; omega
            · have hnm : (⟨bs, (manyB us zs j).length, none⟩ : RdL).number 8 = (u.toNat % 256 ^ 8, ⟨bs, (manyB us zs (j + 1)).length, none⟩) := Hm.out.1
              have hX : ((u.toNat % 256 ^ 8 : Nat) : Int) = n64 u := by rw [mod_full]; rfl
              have Hn := Lib.hid (And.intro hnm hX)
              clear hnm hX
              go_wp2_with fail
              refine (rdNumber_any wr w.heap.size r _ 8 (by decide) HR.out.1 HR.out.2.size).mono ?_
              rw [Hn.out.1]
              rintro e w5 ⟨rfl, hR5, hg5⟩
              rw [Hn.out.2]
              have H5 := Lib.hid (And.intro hR5 (below_only HR.out.2 hg5 HR.out.1.ge HR.out.2.size))
              clear hR5 hg5 hkv
              go_wp2_with fail
              go_roundw
              case rel => exact ⟨j + 1, by omega, by go_num, H5.out.1, H5.out.2⟩
              case measure => simp [intOf]; omega
          · obtain rfl : j = i := by omega
            have hst := Lib.hid (rd_end bs)
            have hlj : (manyB us zs j).length = bs.length := by rw [HX.out.2.2]
            rw [hlj] at HR
            clear hji hlj
            go_wp2_with fail
            refine (rdEnd_any wr w.heap.size r _ HR.out.1).mono ?_
            rw [hst.out]
            rintro e w5 ⟨x, rfl, hx, hb5⟩
            have hx : x = .nilIface := hx
            subst hx
            have hb6 := HR.out.2.trans (hb5.mono HR.out.2.size)
            have hz5 := HZ.out.below hb6
            clear hb5
            go_wp2_with fail
            refine (known2_any w5 hz5).mono ?_
            rintro e w6 ⟨rfl, hb7⟩
            have hb8 := hb6.trans (hb7.mono hb6.size)
            clear hb6 hb7 hz5
            go_wp2_with fail
            go_ret
            exact ⟨rfl, hb8⟩
end Go.Proofs.YteonmcconpfkjaaDoor
