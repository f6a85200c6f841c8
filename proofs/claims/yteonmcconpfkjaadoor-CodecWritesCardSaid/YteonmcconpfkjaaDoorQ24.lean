/- Texts that stand behind one another: RefW. No condition. -/
import Derived.Test.YteonmcconpfkjaaDoorQ9
import Derived.Test.YteonmcconpfkjaaDoorQ23
import Derived.Test.YteonmcconpfkjaaDoorQ10
import Derived.Test.YteonmcconpfkjaaDoorQ17
/- Writing beside the reference: Roomy with its row, Writer.Digest with an exact frame, the reference's Number and Bytes. No condition. -/
namespace Go.Proofs.YteonmcconpfkjaaDoor
open Go Go.RowKit
attribute [local irreducible] mixW
attribute [local go_sem] n8_lo n8_hi n64_lo n64_hi
set_option maxRecDepth 100000 in
/-- Roomy, its row told -/
theorem roomy_blk (u : Value) (bs : List UInt8) (m : UInt8) (w : World) (hu : BSl w w.heap.size u bs) (hl : bs.length ≤ 140737488355264) :
    Calls Tryd.prog 76 #[u, .int .u8 (n8 m)] w fun e w' => ∃ cur, e = .returned (.slice (some ⟨w.heap.size, 0, none⟩) (bs.length + 80) (bs.length + 80)) ∧ Blk w' w.heap.size 5 cur ∧ cur.size = bs.length + 80 ∧ BSl w' w'.heap.size (.slice (some ⟨w.heap.size, 0, none⟩) (bs.length + 80) (bs.length + 80)) (bs ++ List.replicate 80 m) ∧ Below w.heap.size w w' := by
  obtain ⟨i0, hi, hz0, hz1, hz2⟩ := info_parts (by kernel_rfl : (Tryd.prog.info? 5).map (fun i => (i.zero, i.size, i.bytes)) = some (some (.int .u8 0), 1, 1))
  obtain ⟨A1, c1, rfl, h11, h12, hr1⟩ := hu
  obtain ⟨N, hN⟩ : ∃ N, N = bs.length + 80 := ⟨_, rfl⟩
  have eN : (bs.length : Int) + 80 = (N : Int) := by omega
  have HN := Lib.hid hN
  have hN1 : bs.length + 80 ≤ N := by omega
  have hN2 : N ≤ bs.length + 80 := by omega
  clear hN
  have hD := Blk.new w 5 (List.replicate N (Value.int .u8 0)).toArray
  have hb2 := below_new1 w (Obj.cells (List.replicate N (Value.int .u8 0)).toArray 5)
  go_enter Tryd.func76, Tryd.ntmps76
  go_wp2_with (first
    | (refine wpList_makeB rfl _ _ _ rfl 5 i0 _ Tryd.underlying22 hi hz0 hz1 rfl _ _ N rfl rfl (by rw [hz2]; omega) (by omega) ?_; refine wpl_at (fun W => Blk W w.heap.size 5 (List.replicate N (Value.int .u8 0)).toArray ∧ Below w.heap.size w W) ⟨hD, hb2⟩ ?_; clear hD hb2; rintro w3 ⟨hD, hb3⟩; rw [zeros_arr] at hD)
    | (refine wpList_copyR rfl (.tmp 11) (.tmp 12) _ _ rfl 5 Tryd.underlying22 (by kernel_rfl) w.heap.size 0 N N A1 _ c1 rfl rfl _ _ hD _ _ (hr1.below hb3) (by rw [List.length_map]) (by rw [arr_size]; show 0 + min bs.length N ≤ N; omega) (oneCell_v8 _) ?_; intro w4 hD4 hon4))
  rw [copied_arr N (fun _ => 0) 0 bs N (by show 0 + min bs.length N ≤ N; omega), room_0 bs m N (by omega)] at hD4
  have hb4 := below_only hb3 hon4 (Nat.le_refl _) hb3.size
  clear hD hb3 hon4 hr1
  go_loopw [6] (fun iv wr => ∃ k : Nat, bs.length ≤ k ∧ k ≤ N ∧ iv = .int .i64 k ∧ Blk wr w.heap.size 5 (arr N (roomF bs m k)) ∧ Below w.heap.size w wr) (fun iv _ => N - (intOf iv).toNat)
  case atStart => exact ⟨bs.length, Nat.le_refl _, by omega, rfl, hD4, hb4⟩
  case round =>
    clear hD4 hb4
    obtain ⟨k, hk0, hk, rfl, hD, hb3⟩ := hrel
    by_cases hlt : k < N
    · have cD := hD.cell k
      rw [arr_at _ _ _ hlt] at cD
      have fD := hD.frozen k
      go_wp2
      go_roundw
      case rel =>
        have hst := hD.set k (v8 m)
        rw [arr_set, room_step bs m k hk0] at hst
        exact ⟨k + 1, by omega, by omega, by go_num, hst, hb3.setCell (p := ⟨_, _, none⟩) (Nat.le_refl _) _⟩
      case measure => simp [intOf]; omega
    · have ek : k = N := by omega
      subst ek
      go_wp2
      go_ret
      have eNN := HN.out
      have h80 : (bs ++ List.replicate 80 m).length = k := by rw [HN.out]; simp
      have hbb := BSl.of_arr hD _ hD.lt _ h80 (fun p hp => by have e := HN.out; subst e; exact room_end bs m 80 p hp) (by omega)
      rw [eNN] at hbb hD ⊢
      exact ⟨_, rfl, hD, arr_size _ _, hbb, hb3⟩
set_option maxHeartbeats 1000000 in
set_option maxRecDepth 100000 in
theorem digest_two (g : Nat) (v : Value) (bs d : List UInt8) (hd : d.length = 32) (w : World) (B : Nat) (hW : Wr w B g v bs) (hB : B ≤ w.heap.size) (hl : bs.length ≤ 140737488355264) :
    Calls Tryd.prog 79 #[.pointer (some ⟨g, 0, none⟩), .agg (dat d)] w fun e w' => e = .returned (.tuple #[]) ∧ ∃ u, Wr w' B g u (bs ++ d) ∧ Two w w' g v u := by
  have hne := hW.ne
  obtain ⟨hg, hblk, hown⟩ := hW
  obtain ⟨i0, hi, hz0, hz1, hz2⟩ := info_parts (by kernel_rfl : (Tryd.prog.info? 5).map (fun i => (i.zero, i.size, i.bytes)) = some (some (.int .u8 0), 1, 1))
  have hlt := hblk.lt
  have hD := Blk.new w 43 (dat d)
  have hb1 := below_new1 w (Obj.cells (dat d) 43)
  go_enter Tryd.func79, Tryd.ntmps79
  go_wp2
  refine wp_at (fun W => Blk W w.heap.size 43 (dat d) ∧ Below w.heap.size w W) ⟨hD, hb1⟩ ?_
  clear hD hb1
  rintro W ⟨hD, hb1⟩
  have hblkD := (hblk.below hb1 hlt).drewN 1
  have hownD : (W.drewN 1).ownsRow B 5 1 v (bs.map v8).length (bs.map v8) := own_below hown (below_drewN hb1 1)
  have htwD := ((Two.refl w g v).below hb1).drewN 1
  have hDD := hD.drewN 1
  have hBD : B ≤ (W.drewN 1).heap.size := Nat.le_trans hB hb1.size
  have hrd := Reads.of_blk hDD hDD.lt 0
  rw [dat_eq d hd] at hrd
  have hlD : (d.map v8).length = 32 := by rw [List.length_map, hd]
  have HlD := Lib.hid hlD
  clear hlD
  refine wp_region_mixS 9 (.plain 0 <| .plain 1 <| .plain 2 <| .plain 3 <| .plain 4 <| .plain 5 <| .only 6 <| .plain 7 <| .plain 8 <| .done) (fun w' => w'.cell? ⟨g, 0, none⟩ = some v) (by kernel_rfl) (by kernel_rfl) (hblkD.cell 0) ?_
  clear hblk hown hb1 hD
  generalize W.drewN 1 = wd at hownD hblkD htwD hBD hDD hrd ⊢
  repeat (refine mix_plain rfl ?_; (first
    | (refine wpQuiet_nilCheck rfl (.tmp 5) rfl _ rfl ?_; simp only [Act.put, List.setIfInBounds_toArray, List.set_cons_zero, List.set_cons_succ])
    | (refine wpQuiet_load1 rfl _ (.tmp 7) rfl _ rfl _ Tryd.underlying22 rfl v (fun _ h => h) ?_; simp only [Act.put, List.setIfInBounds_toArray, List.set_cons_zero, List.set_cons_succ])
    | go_big_quiet_step ((intro _; rfl))
    | go_big_quiet_step (fail)); refine wpQuiet_nil ?_)
  refine mix_only_in rfl (fun K hK => ?_)
  refine wpList_appendR rfl (.tmp 8) (.tmp 9) _ rfl B 5 i0 _ 1 Tryd.underlying22 hi hz0 hz1 hz2 rfl v _ rfl hownD wd.heap.size (some ⟨w.heap.size, 0, none⟩) 32 32 (d.map v8) rfl (by simpa using hrd) HlD.out (oneCell_v8 d) (by unfold maxLen; rw [List.length_map]; omega) (by rw [List.length_map]; omega) hBD ?_
  intro v' w2 hown2 hg2 hat2
  simp only [Act.put, List.setIfInBounds_toArray, List.set_cons_zero, List.set_cons_succ]
  have hneg : some g ≠ v.ownBlock := fun e => hne e.symm
  have hblk2 := hblkD.grown hg2 hneg
  have HT2 := Lib.hid (htwD.app hg2 hat2)
  rw [← List.map_append] at hown2
  have hne2 : v'.ownBlock ≠ some g := own_ne hblk2 hown2 (by decide)
  refine hK _ _ (hblk2.cell 0) ?_
  clear hK K hrd hownD hblkD htwD hg2 hat2 hneg hDD
  repeat (refine mix_plain rfl ?_; (first
    | (refine wpQuiet_nilCheck rfl (.tmp 4) rfl _ rfl ?_; simp only [Act.put, List.setIfInBounds_toArray, List.set_cons_zero, List.set_cons_succ])
    | go_big_quiet_step ((intro _; rfl))
    | go_big_quiet_step (fail)); refine wpQuiet_nil ?_)
  refine mix_done ?_
  simp only [List.drop_succ_cons, List.drop_zero]
  have hv1 : v'.cells = #[v'] ∧ v'.oneCell' = true := by
    rcases hown2.2 with ⟨rfl, _⟩ | ⟨g', cap', cur, rfl, _⟩ <;> exact ⟨rfl, rfl⟩
  refine wpList_store1 rfl rfl _ (.tmp 12) (.tmp 10) rfl g 0 rfl v' rfl _ _ hblk2 (by kernel_rfl) (by simp) hv1.1 hv1.2 ?_
  intro w3 hblk3 hon3
  have hown3 := own_grown hown2 hon3 (fun g' hg' e => by injection e with e; subst e; exact hne2 hg')
  have HT3 := Lib.hid (HT2.out.store hon3)
  have e3 : (#[v] : Array Value).setIfInBounds 0 v' = #[v'] := by simp
  rw [e3] at hblk3
  clear hblk2 hown2 hon3 HT2 hv1 e3
  go_wp2
  exact bodyPost_end (results_none rfl _ _ _) rfl ⟨rfl, v', ⟨hg, hblk3, hown3⟩, HT3.out⟩
set_option maxHeartbeats 1000000 in
set_option maxRecDepth 100000 in
theorem rnum2_any (u : Value) (bs : List UInt8) (n : UInt64) (k : Int) (hk : -9223372036854775808 ≤ k ∧ k ≤ 9223372036854775807) (w : World) (hu : BSl w w.heap.size u bs) (hl : bs.length ≤ 140737488355264) :
    Calls Tryd.prog 75 #[u, .int .u64 (n64 n), .int .i64 k] w fun e w' => ∃ v, e = .returned v ∧ w'.ownsRow w.heap.size 5 1 v ((bs ++ numB n (clamp8 k)).map v8).length ((bs ++ numB n (clamp8 k)).map v8) ∧ Below w.heap.size w w' := by
  obtain ⟨A, c, rfl⟩ := hu.len
  have hoe := own_emptyB w w.heap.size (Nat.le_refl _)
  have hn1 := below_new1 w (Obj.cells #[] 5)
  have hrd := bsl_reads (hu.next hn1)
  have HA := Lib.hid (And.intro hoe (And.intro hn1 hrd))
  have s1 := clamp8_lo k
  have s8 := clamp8_hi k
  clear hu hoe hn1 hrd
  go_enter Tryd.func75, Tryd.ntmps75
  go_wp2_with (first
    | (at_builtin; refine wpList_appendS rfl (.tmp 9) (.tmp 10) rfl w.heap.size _ [] bs rfl HA.out.1 _ _ _ _ rfl rfl HA.out.2.2 (by simp; omega) HA.out.2.1.size w HA.out.2.1 ?_; intro u1 w1 hown1 hb1; rw [List.nil_append] at hown1; have HC := Lib.hid (And.intro hown1 hb1); clear hown1 hb1))
  refine (width2_any k hk w1).mono ?_
  rintro e _ ⟨rfl, rfl⟩
  obtain ⟨s, hs⟩ : ∃ s, clamp8 k = s := ⟨_, rfl⟩
  rw [hs] at s1 s8
  have Hs := Lib.hid hs
  rw [hs]
  clear hs
  have h0 := numTo_0 n s
  have hE := Lib.hid (numTo_end n s)
  have hS := Lib.hid (numTo_step n s)
  have hb0 := Lib.hid (byte_val n)
  go_wp2_with fail
  go_loopw [7, 8] (fun ov iv wr => ∃ j : Nat, j ≤ s ∧ iv = .int .i64 ((j : Int) - 1) ∧ wr.ownsRow w.heap.size 5 1 ov ((bs ++ numTo n s j).map v8).length ((bs ++ numTo n s j).map v8) ∧ Below w.heap.size w wr) (fun _ iv _ => ((intOf iv) + 1).toNat)
  case atStart => exact ⟨s, Nat.le_refl _, rfl, by rw [h0, List.append_nil]; exact HC.out.1, HC.out.2⟩
  case round =>
    clear h0 HC
    obtain ⟨j, hj, rfl, hown, hbel⟩ := hrel
    by_cases hj0 : j = 0
    · subst hj0
      have hd : decide ((0 : Int) ≤ ((0 : Nat) : Int) - 1) = false := by decide
      rw [hE.out] at hown
      obtain ⟨A2, c2, rfl⟩ := own_slice hown
      have HF := Lib.hid (And.intro hown hbel)
      clear hown hbel
      go_wp2_with fail
      go_ret
      exact ⟨_, rfl, by rw [Hs.out]; exact HF.out.1, HF.out.2⟩
    · obtain ⟨i, rfl⟩ : ∃ i, j = i + 1 := ⟨j - 1, by omega⟩
      have hi8 : i < 8 := by omega
      have hst := Lib.hid (hS.out i (by omega))
      have hbv := hb0.out i
      have hlt : (numTo n s (i + 1)).length ≤ 8 := by unfold numTo; rw [List.length_take, numB_length]; omega
      have hlen : ((bs ++ numTo n s (i + 1)).map v8).length + 1 ≤ 140737488355328 := by simp; omega
      have e8 : IntKind.i64.wrap (8 * (i : Int)) = ((8 * i : Nat) : Int) := by rw [IntWalk.i64_in _ (by omega)]; omega
      rw [show (((i + 1 : Nat) : Int) - 1) = (i : Int) by omega]
      have Hlen := Lib.hid hlen
      obtain ⟨P, hP⟩ : ∃ P, bs ++ numTo n s (i + 1) = P := ⟨_, rfl⟩
      rw [hP] at hown Hlen
      have hnext : bs ++ numTo n s i = P ++ [byteAt n i] := by rw [← hP, hst.out, List.append_assoc]
      obtain ⟨A2, c2, rfl⟩ := own_slice hown
      have HF := Lib.hid (And.intro hown (And.intro hbel (And.intro hbel.size hnext)))
      clear hown hbel hnext hP hlen
      go_wp2_with (first
        | (at_builtin; refine wpList_append1 rfl (.tmp 19) (.tmp 26) rfl w.heap.size _ _ rfl HF.out.1 (v8 (byteAt n i)) rfl rfl Hlen.out HF.out.2.2.1 w HF.out.2.1 ?_; intro u3 w3 hown3 hb3; have HG := Lib.hid (And.intro hown3 hb3); clear hown3 hb3)
        | (rw [hbv]))
      clear e8 hbv
      go_roundw
      case rel => exact ⟨i, by omega, rfl, by rw [HF.out.2.2.2, List.map_append]; exact HG.out.1, HG.out.2⟩
      case measure => simp [intOf]
set_option maxHeartbeats 1000000 in
set_option maxRecDepth 100000 in
theorem rtxt2_any (u : Value) (bs : List UInt8) (A : Option Addr) (c : Nat) (xs : List UInt8) (w : World) (hu : BSl w w.heap.size u bs) (hl : bs.length ≤ 140737488289728) (hx : BSl w w.heap.size (.slice A xs.length c) xs) :
    Calls Tryd.prog 77 #[u, .slice A xs.length c] w fun e w' => ∃ v, e = .returned v ∧ w'.ownsRow w.heap.size 5 1 v ((bs ++ txtB xs).map v8).length ((bs ++ txtB xs).map v8) ∧ Below w.heap.size w w' := by
  obtain ⟨Au, cu, rfl⟩ := hu.len
  obtain ⟨m, hm⟩ : ∃ m, xs.length % 65536 = m := ⟨_, rfl⟩
  have Ht : Hid (txtB xs = numB (UInt64.ofNat m) 2 ++ xs.take m) := Lib.hid (by rw [← hm]; rfl)
  have hmod : (xs.length : Int).tmod 65536 = (m : Int) := by
    rw [Int.tmod_eq_emod_of_nonneg (by omega)]; omega
  have hm1 : m ≤ 65535 := by omega
  have hm2 : m ≤ xs.length := by rw [← hm]; exact Nat.mod_le _ _
  have Hc : Hid ((m : Int) = n64 (UInt64.ofNat m)) := Lib.hid (by unfold n64; rw [UInt64.toNat_ofNat_of_lt' (by show _ < 18446744073709551616; omega)])
  have hxc : xs.length ≤ c := by obtain ⟨_, _, e, h, _⟩ := hx; injection e with _ _ e; subst e; exact h
  have hxl : c ≤ 9223372036854775807 := by obtain ⟨_, _, e, _, h, _⟩ := hx; injection e with _ _ e; subst e; exact h
  have HX := Lib.hid (And.intro hu (bsl_reads hx))
  obtain ⟨L, hL⟩ : ∃ L, xs.length = L := ⟨_, rfl⟩
  have HL := Lib.hid hL
  rw [hL] at hmod hm2 hxc ⊢
  clear hu hx hm hL
  go_enter Tryd.func77, Tryd.ntmps77
  go_upto_region 2 with fail
  refine wp_region_mixP (.plain 0 <| .plain 1 <| .plain 2 <| .plain 4 <| .plain 5 <| .plain 6 <| .only 3 <| .only 7 <| .plain 8 <| .done) (by kernel_rfl) (by kernel_rfl) (fun W1 hb1 => ?_)
  iterate 6 (refine mix_plain rfl ?_; (first
    | (refine wpQuiet_cutH rfl 22 (.tmp 13) (.tmp 14) rfl 5 Tryd.underlying22 (by kernel_rfl) A L c m rfl rfl (Nat.le_trans hm2 hxc) ?_; simp only [Act.put, List.setIfInBounds_toArray, List.set_cons_zero, List.set_cons_succ])
    | go_big_quiet_step (fail)); refine wpQuiet_nil ?_)
  try rw [show Value.int IntKind.u64 (m : Int) = .int .u64 (n64 (UInt64.ofNat m)) from by rw [← Hc.out]]
  have HB := Lib.hid hb1
  clear hb1
  refine mix_only_in rfl (fun K hK => ?_)
  go_wp2_with fail
  refine (rnum2_any _ bs (UInt64.ofNat m) 2 (by decide) W1 (HX.out.1.next HB.out) (by omega)).mono ?_
  rintro e W2 ⟨v, rfl, hv, hb2⟩
  rw [show clamp8 2 = 2 from rfl] at hv
  have h2 : (numB (UInt64.ofNat m) 2).length = 2 := numB_length _ _
  have hl1 : (bs ++ numB (UInt64.ofNat m) 2).length ≤ 140737488289730 := by rw [List.length_append]; omega
  obtain ⟨P, hP⟩ : ∃ P, bs ++ numB (UInt64.ofNat m) 2 = P := ⟨_, rfl⟩
  rw [hP] at hv hl1
  have Hq := Lib.hid hP
  obtain ⟨A2, c2, rfl⟩ := own_slice hv
  have hv2 : W2.ownsRow W1.heap.size 5 1 (.slice A2 P.length c2) (P.map v8).length (P.map v8) := by
    rw [List.length_map] at hv ⊢; exact hv
  have HV := Lib.hid (And.intro hv2 (And.intro hb2 hb2.size))
  rw [List.length_map]
  clear hv hv2 hP h2
  go_wp2_with fail
  refine hK _ _ (below_plus hb2) ?_
  clear hK K hb2
  refine mix_only_in rfl (fun K hK => ?_)
  obtain ⟨i0, hi, hz0, hz1, hz2⟩ := info_parts (by kernel_rfl : (Tryd.prog.info? 5).map (fun i => (i.zero, i.size, i.bytes)) = some (some (.int .u8 0), 1, 1))
  have hrd2 : Reads W2 W2.heap.size A ((xs.take m).map v8) := by
    rw [List.map_take]
    exact ((HX.out.2.below (HB.out.trans (HV.out.2.1.mono HB.out.size))).more (Nat.le_trans HB.out.size HV.out.2.2)).take m
  have hlm : ((xs.take m).map v8).length = m := by rw [List.length_map, List.length_take, HL.out]; omega
  have HL2 := Lib.hid (And.intro (show (P.map v8).length + m ≤ 140737488355265 by rw [List.length_map]; omega) (And.intro hrd2 hlm))
  clear hrd2 hlm
  refine wpList_appendR rfl (.tmp 12) (.tmp 15) _ rfl W1.heap.size 5 i0 _ 1 Tryd.underlying22 hi hz0 hz1 hz2 rfl (.slice A2 P.length c2) (P.map v8) rfl HV.out.1 W2.heap.size A m c ((xs.take m).map v8) rfl HL2.out.2.1 HL2.out.2.2 (oneCell_v8 _) (by have := HL2.out.1; unfold maxLen; omega) (by have := HL2.out.1; omega) HV.out.2.2 ?_
  intro v' w2 hown2 hg2 hat2
  simp only [Act.put, List.setIfInBounds_toArray, List.set_cons_zero, List.set_cons_succ]
  have hbW : Below W1.heap.size W1 w2 := below_own HV.out.2.1 HV.out.1 hg2 HV.out.2.2
  rw [← List.map_append] at hown2
  have hbs : P ++ xs.take m = bs ++ txtB xs := by rw [Ht.out, ← Hq.out, List.append_assoc]
  rw [hbs] at hown2
  have HF := Lib.hid (And.intro (own_baseR hown2 HB.out.size) (HB.out.trans (hbW.mono HB.out.size)))
  refine hK _ _ (below_plus hbW) ?_
  clear hK K hown2 hg2 hat2 hbW hbs
  iterate 1 (refine mix_plain rfl ?_; go_big_quiet_step (fail); refine wpQuiet_nil ?_)
  refine mix_done ?_
  go_wp2_with fail
  go_ret
  exact ⟨_, rfl, HF.out.1, HF.out.2⟩
end Go.Proofs.YteonmcconpfkjaaDoor
