/- Texts that stand behind one another: VerO, List10. No condition. -/
import Derived.Test.YtkogehkmldbhgaaDoorP15
import Derived.Test.YtkogehkmldbhgaaDoorP9
/- The walks of deponentbook's Roomy and Intact at digests. No condition. -/
namespace Go.Proofs.YtkogehkmldbhgaaDoor
open Go Go.RowKit
attribute [local irreducible] mixW
attribute [local go_sem] n8_lo n8_hi n64_lo n64_hi n32_lo n32_hi
def roomD (ds : List (List UInt8)) (m : List UInt8) (k N : Nat) : List (List UInt8) := ds ++ List.replicate (k - ds.length) m ++ List.replicate (N - k) zeroD
theorem roomD_length (ds : List (List UInt8)) (m : List UInt8) (k N : Nat) (h1 : ds.length ≤ k) (h2 : k ≤ N) : (roomD ds m k N).length = N := by
  unfold roomD; simp; omega
theorem roomD_start (ds : List (List UInt8)) (m : List UInt8) (N : Nat) : ds ++ (List.replicate N zeroD).drop ds.length = roomD ds m ds.length N := by
  unfold roomD; rw [Nat.sub_self, List.drop_replicate]; simp
theorem roomD_step (ds : List (List UInt8)) (m : List UInt8) (k N : Nat) (h1 : ds.length ≤ k) (h2 : k < N) : (roomD ds m k N).set k m = roomD ds m (k + 1) N := by
  unfold roomD
  have hl : (ds ++ List.replicate (k - ds.length) m).length = k := by simp; omega
  rw [show N - k = N - (k + 1) + 1 by omega, List.replicate_succ, show k + 1 - ds.length = k - ds.length + 1 by omega, List.replicate_succ', ← List.append_assoc ds]
  generalize ds ++ List.replicate (k - ds.length) m = L1 at hl ⊢
  subst hl
  simp
theorem roomD_end (ds : List (List UInt8)) (m : List UInt8) : roomD ds m (ds.length + 80) (ds.length + 80) = ds ++ List.replicate 80 m := by
  unfold roomD; simp
set_option maxHeartbeats 1000000 in
set_option maxRecDepth 100000 in
theorem roomyX_any (u : Value) (ds : List (List UInt8)) (m : List UInt8) (hn : ds.length ≤ 1000000) (w : World) (hu : DX w u ds) :
    Calls Tryd.prog 17 #[u, .agg (dat m)] w fun e w' => ∃ v, e = .returned v ∧ DX w' v (ds ++ List.replicate 80 m) ∧ Below w.heap.size w w' := by
  have hD := Blk.new w 43 (dat m)
  have hb0 := below_new1 w (Obj.cells (dat m) 43)
  obtain ⟨A1, c1, rfl, x1, x2, h1⟩ := hu
  have HU : Hid (DX w (.slice A1 ds.length c1) ds) := Lib.hid ⟨A1, c1, rfl, x1, x2, h1⟩
  clear h1 x1 x2
  obtain ⟨N, hN⟩ : ∃ N, N = ds.length + 80 := ⟨_, rfl⟩
  have eN : (ds.length : Int) + 80 = (N : Int) := by omega
  have HN := Lib.hid hN
  have hN1 : ds.length ≤ N := by omega
  have hN2 : N ≤ 1000080 := by omega
  clear hN
  go_enter Tryd.func17, Tryd.ntmps17
  go_upto_region 1 with fail
  refine wp_at (fun W => Blk W w.heap.size 43 (dat m) ∧ Below w.heap.size w W) ⟨hD, hb0⟩ ?_
  clear hD hb0
  rintro W ⟨hD, hbel⟩
  have hE0 := Blk.new W 43 (dcells (List.replicate N zeroD)).toArray
  have hbn := below_new1 W (Obj.cells (dcells (List.replicate N zeroD)).toArray 43)
  go_wp2_with (first
    | (refine wpList_makeD rfl (.tmp 9) (.tmp 9) rfl .i64 .i64 N rfl rfl (by omega) ?_; refine wpl_at (fun V => Blk V W.heap.size 43 (dcells (List.replicate N zeroD)).toArray ∧ Below W.heap.size W V) ⟨hE0, hbn⟩ ?_; clear hE0 hbn; rintro V ⟨hE, hbv⟩)
    | (refine wpList_copyD rfl (.tmp 11) (.tmp 12) rfl W.heap.size N N (List.replicate N zeroD) (List.length_replicate ..) rfl hE A1 c1 ds rfl ((HU.out.next hbel).next hbv) (by rw [List.length_replicate]; omega) ?_; intro V2 hE2 hon2; rw [roomD_start ds m N] at hE2; refine wpl_at (fun V => Blk V W.heap.size 43 (dcells (roomD ds m ds.length N)).toArray ∧ Below W.heap.size W V) ⟨hE2, below_only hbv hon2 (Nat.le_refl _) hbv.size⟩ ?_; clear hE2 hon2 hE hbv V2; rintro V2 ⟨hE, hbv⟩))
  have HW := Lib.hid (And.intro hD hbel)
  clear hD hbel
  obtain ⟨g, hg⟩ : ∃ g, g = W.heap.size := ⟨_, rfl⟩
  rw [← hg] at hE ⊢
  have Hg := Lib.hid (Nat.le_of_eq hg.symm)
  clear hg
  go_loopw [6] (fun iv wr => ∃ k : Nat, k ≤ N ∧ ds.length ≤ k ∧ iv = .int .i64 k ∧ Blk wr g 43 (dcells (roomD ds m k N)).toArray ∧ Below W.heap.size W wr) (fun iv _ => N - (intOf iv).toNat)
  case atStart => exact ⟨ds.length, hN1, Nat.le_refl _, rfl, hE, hbv⟩
  clear hE hbv
  case round =>
    obtain ⟨k, hk, hk0, rfl, hE, hbv⟩ := hrel
    have hD := HW.out.1.below hbv HW.out.1.lt
    by_cases hlt : k < N
    · have hlt' : (k : Int) < (N : Int) := by omega
      go_wp2_with (first
        | (refine wpList_loadW (by rfl) 43 (.tmp 3) rfl w.heap.size rfl _ _ _ hD Tryd.underlying43 rfl (by kernel_rfl) ?_)
        | (refine wpList_storeD rfl rfl (.tmp 25) (.tmp 24) rfl g k rfl m rfl (roomD ds m k N) (by rw [roomD_length ds m k N hk0 hk]; exact hlt) hE ?_; intro V3 hE3 hon3; rw [roomD_step ds m k N hk0 hlt] at hE3; have hb3 := below_only hbv hon3 Hg.out hbv.size))
      go_wp2_with fail
      go_roundw
      case rel => exact ⟨k + 1, by omega, by omega, by go_num, hE3, hb3⟩
      case measure => simp [intOf]; omega
    · obtain rfl : k = N := by omega
      have hlt' : ¬ (k : Int) < (k : Int) := by omega
      clear hD
      have HE := Lib.hid hE
      clear hE
      go_wp2_with fail
      go_ret
      refine ⟨_, rfl, ?_, HW.out.2.trans (hbv.mono HW.out.2.size)⟩
      have hE := HE.out
      have hl := roomD_length ds m k k hk0 (Nat.le_refl _)
      have hdx := DX.of_blk hE (by rw [hl]; omega)
      rw [hl] at hdx
      have e : roomD ds m k k = ds ++ List.replicate 80 m := by rw [HN.out]; exact roomD_end ds m
      rw [e] at hdx
      exact hdx
set_option maxHeartbeats 1000000 in
set_option maxRecDepth 100000 in
theorem intactX_any (u v : Value) (ds : List (List UInt8)) (m : List UInt8) (hall : ∀ d ∈ ds, d.length = 32) (hm : m.length = 32) (hn : ds.length ≤ 1000000) (w : World) (hu : DX w u (ds ++ List.replicate 80 m)) (hv : DX w v ds) :
    Calls Tryd.prog 27 #[u, v, .agg (dat m)] w fun e w' => e = .returned (.bool true) ∧ Below w.heap.size w w' := by
  have hD := Blk.new w 43 (dat m)
  have hb0 := below_new1 w (Obj.cells (dat m) 43)
  obtain ⟨A1, c1, rfl, x1, x2, h1⟩ := hu
  obtain ⟨A2, c2, rfl, y1, y2, h2⟩ := hv
  have hl : (ds ++ List.replicate 80 m).length = ds.length + 80 := by simp
  have hu : DX w (.slice A1 (ds ++ List.replicate 80 m).length c1) (ds ++ List.replicate 80 m) := ⟨A1, c1, rfl, x1, x2, h1⟩
  have hv : DX w (.slice A2 ds.length c2) ds := ⟨A2, c2, rfl, y1, y2, h2⟩
  rw [hl] at hu x1 ⊢
  have hh := hu.take ds.length (by omega)
  rw [List.take_left] at hh
  have hat : ∀ k, ds.length ≤ k → k < ds.length + 80 → (ds ++ List.replicate 80 m).getD k [] = m := fun k h1 h2 => by
    rw [List.getD_eq_getElem?_getD, List.getElem?_append_right h1, List.getElem?_replicate, if_pos (by omega)]; rfl
  have HU := Lib.hid hu
  have HV := Lib.hid (And.intro hh (And.intro hv (And.intro hall hm)))
  have HT := Lib.hid hat
  have HL := Lib.hid hl
  generalize ds ++ List.replicate 80 m = xs at HU HT HL
  clear h1 h2 hu hv hh hl hall hm hat y1 y2
  obtain ⟨N, hN⟩ : ∃ N, N = ds.length + 80 := ⟨_, rfl⟩
  have eN : (ds.length : Int) + 80 = (N : Int) := by omega
  have HN := Lib.hid hN
  have hN1 : ds.length ≤ N := by omega
  have hN2 : N ≤ 1000080 := by omega
  rw [← hN] at HU x1 ⊢
  have hc : (ds.length : Int) ≤ (c1 : Int) := by omega
  have hne : ((N : Int) != (N : Int)) = false := by simp
  clear hN
  go_enter Tryd.func27, Tryd.ntmps27
  go_upto_region 1 with fail
  refine wp_at (fun W => Blk W w.heap.size 43 (dat m) ∧ Below w.heap.size w W) ⟨hD, hb0⟩ ?_
  clear hD hb0
  rintro W ⟨hD, hbel⟩
  go_wp2_with fail
  refine (sameX_any _ _ ds HV.out.2.2.1 (by omega) W (HV.out.1.next hbel) (HV.out.2.1.next hbel)).mono ?_
  rintro e w1 ⟨rfl, hb1⟩
  replace hD := hD.below hb1 hD.lt
  replace hbel := hbel.trans (hb1.mono hbel.size)
  clear hb1
  have HD := Lib.hid (And.intro hD hbel)
  clear hD hbel
  go_wp2_with fail
  go_loopw [7] (fun iv wr => ∃ k : Nat, k ≤ N ∧ ds.length ≤ k ∧ iv = .int .i64 k ∧ Below w1.heap.size w1 wr) (fun iv _ => N - (intOf iv).toNat)
  case atStart => exact ⟨ds.length, hN1, Nat.le_refl _, rfl, Below.refl _ _⟩
  case round =>
    obtain ⟨k, hk, hk0, rfl, hb2⟩ := hrel
    by_cases hlt : k < N
    · have hlt' : (k : Int) < (N : Int) := by omega
      have hbel := HD.out.2.trans (hb2.mono HD.out.2.size)
      obtain ⟨A1', c1', e1, _, _, hh1⟩ := HU.out.next hbel
      injection e1 with e1 _ e1c
      subst e1c
      obtain ⟨g1, o1, e3, hg1, hr1⟩ := hh1 k (by rw [HL.out, ← HN.out]; exact hlt)
      rw [e3] at e1
      subst e1
      rw [HT.out k hk0 (by rw [← HN.out]; exact hlt)] at hr1
      clear hh1 e3
      have hD := HD.out.1.below hb2 HD.out.1.lt
      go_upto_region 6 with fail
      refine wp_region_mixP (.plain 0 <| .plain 1 <| .plain 2 <| .plain 3 <| .plain 4 <| .plain 5 <| .done) (by kernel_rfl) (by kernel_rfl) (fun W1 hb1 => ?_)
      replace hr1 := range_next hr1 hg1 hb1
      replace hD := hD.below hb1 hD.lt
      replace hb2 := hb2.trans (hb1.mono hb2.size)
      clear hb1
      iterate 6 (refine mix_plain rfl ?_; (first
        | (refine wpQuiet_loadMid rfl 43 (.tmp 33) rfl g1 (o1 + k * 32) rfl (dat m) _ (fun _ ⟨e, he⟩ => by rw [he]; exact range_plus hr1 e) Tryd.underlying43 rfl (by rw [dat_size]; kernel_rfl) ?_; simp only [Act.put, List.setIfInBounds_toArray, List.set_cons_zero, List.set_cons_succ])
        | (refine wpQuiet_load rfl _ (.tmp 5) rfl w.heap.size rfl _ _ _ _ (fun _ ⟨e, he⟩ => by rw [he]; exact hD.plus e) Tryd.underlying43 rfl (by kernel_rfl) ?_; simp only [Act.put, List.setIfInBounds_toArray, List.set_cons_zero, List.set_cons_succ])
        | (refine wpQuiet_neD rfl (.tmp 34) (.tmp 35) _ rfl m m rfl rfl HV.out.2.2.2 HV.out.2.2.2 true (decide_eq_true rfl) ?_; simp only [Act.put, List.setIfInBounds_toArray, List.set_cons_zero, List.set_cons_succ])
        | go_big_quiet_step (fail)); refine wpQuiet_nil ?_)
      refine mix_done ?_
      clear hr1 hD hbel
      go_wp2_with fail
      go_roundw
      case rel => exact ⟨k + 1, by omega, by omega, by go_num, hb2⟩
      case measure => simp [intOf]; omega
    · obtain rfl : k = N := by omega
      have hlt' : ¬ (k : Int) < (k : Int) := by omega
      go_wp2_with fail
      go_ret
      exact ⟨rfl, HD.out.2.trans (hb2.mono HD.out.2.size)⟩
end Go.Proofs.YtkogehkmldbhgaaDoor

/- The walk of deponentlaw10's list. No condition. -/
namespace Go.Proofs.YtkogehkmldbhgaaDoor
open Go Go.RowKit
attribute [local go_sem] n8_lo n8_hi n64_lo n64_hi n32_lo n32_hi
def elemE (i : Nat) : List UInt8 := [UInt8.ofNat i, 5]
def listE (n : Nat) : List (List UInt8) := (List.range n).map elemE
theorem listE_length (n : Nat) : (listE n).length = n := by simp [listE]
theorem listE_at (n : Nat) (i : Nat) (h : i < n) : (listE n).getD i [] = elemE i := by
  unfold listE; rw [List.getD_eq_getElem?_getD, List.getElem?_map, List.getElem?_range h]; rfl
theorem listE_mem {n : Nat} {b : List UInt8} (h : b ∈ listE n) : b.length = 2 := by
  unfold listE at h
  obtain ⟨i, _, rfl⟩ := List.mem_map.1 h
  rfl
set_option maxHeartbeats 400000 in
set_option maxRecDepth 100000 in
theorem list10_any (n : Int) (hn : n ≤ 1000000) (hn2 : -9223372036854775808 ≤ n) (w : World) :
    Calls Tryd.prog 29 #[.int .i64 n] w fun e w' => ∃ v, e = .returned v ∧ SSl w' w'.heap.size v (listE n.toNat) ∧ Below w.heap.size w w' := by
  obtain ⟨i0, hi, hz0, hz1, hz2⟩ := info_parts (by kernel_rfl : (Tryd.prog.info? 62).map (fun i => (i.zero, i.size, i.bytes)) = some (some (.slice none 0 0), 1, 24))
  go_enter Tryd.func29, Tryd.ntmps29
  go_wp2_with fail
  go_loopw [3, 4] (fun v iv wr => ∃ (k : Nat) (vs : List Value), k ≤ n.toNat ∧ iv = .int .i64 k ∧ vs.length = k ∧ wr.ownsRow w.heap.size 62 1 v vs.length vs ∧ (∀ i, i < k → Whole wr (vs.getD i undef) (elemE i)) ∧ Below w.heap.size w wr) (fun _ iv _ => n.toNat - (intOf iv).toNat)
  case atStart => exact ⟨0, [], by omega, rfl, rfl, World.ownsRow_nil _ _ _ _, fun i hi => by omega, Below.refl _ _⟩
  case round =>
    obtain ⟨k, vs, hk, rfl, hvl, hown, hall, hbel⟩ := hrel
    by_cases hlt : (k : Int) < n
    · have b1 := byte_nat k
      have hk1 : k ≤ 1000000 := by omega
      have hA := Blk.new w 5 #[]
      clear hA
      have hb1w := below_new1 wr (Obj.cells #[.int .u8 (n8 (UInt8.ofNat k)), .int .u8 (n8 5)] 5)
      have hbw := hb1w.alloc hb1w.size (Obj.cells #[.slice (some ⟨wr.heap.size, 0, none⟩) 2 2] 62)
      have hE := (Blk.new wr 5 #[.int .u8 (n8 (UInt8.ofNat k)), .int .u8 (n8 5)]).alloc (Obj.cells #[.slice (some ⟨wr.heap.size, 0, none⟩) 2 2] 62)
      have hS := Blk.new2 wr (Obj.cells #[.int .u8 (n8 (UInt8.ofNat k)), .int .u8 (n8 5)] 5) 62 #[.slice (some ⟨wr.heap.size, 0, none⟩) 2 2]
      have hW : Whole ((wr.alloc (Obj.cells #[.int .u8 (n8 (UInt8.ofNat k)), .int .u8 (n8 5)] 5)).alloc (Obj.cells #[.slice (some ⟨wr.heap.size, 0, none⟩) 2 2] 62)) (.slice (some ⟨wr.heap.size, 0, none⟩) 2 2) (elemE k) := ⟨wr.heap.size, rfl, hE⟩
      have hown2 := own_below hown hbw
      have HWs := Lib.hid (And.intro hW (fun i (hi : i < k) => (hall i hi).below hbw))
      have hbase := Nat.le_trans hbel.size hbw.size
      clear hb1w hE hW hall hown
      go_wp2_with (first
        | (at_builtin; refine wpList_appendR rfl (.tmp 10) (.tmp 14) _ rfl w.heap.size 62 i0 _ 24 Tryd.underlying27 hi hz0 hz1 hz2 rfl _ vs rfl hown2 _ (some ⟨wr.heap.size + 1, 0, none⟩) 1 1 [.slice (some ⟨wr.heap.size, 0, none⟩) 2 2] rfl (Reads.of_blk hS hS.lt 0) rfl (fun u hu => by rw [List.mem_singleton] at hu; subst hu; rfl) (by unfold maxLen; omega) (by omega) hbase ?_; intro u1 w1 hown1 hg1 hat1))
      have hbel1 := below_own (hbel.trans (hbw.mono hbel.size)) hown2 hg1 hbase
      have hE1 := HWs.out.1.grown hown2 hg1
      have hall1 : ∀ i, i < k → Whole w1 (vs.getD i undef) (elemE i) := fun i hi => (HWs.out.2 i hi).grown hown2 hg1
      have HF := Lib.hid (And.intro hbel1 (And.intro hE1 (And.intro hall1 hown1)))
      clear hbel1 hE1 hall1 hown1 HWs hown2 hg1 hat1 hS hbw hbase
      go_wp2_with fail
      go_roundw
      case rel =>
        refine ⟨k + 1, vs ++ [.slice (some ⟨wr.heap.size, 0, none⟩) 2 2], by omega, by go_num, by rw [List.length_append, hvl]; rfl, HF.out.2.2.2, fun i hi => ?_, HF.out.1⟩
        rw [List.getD_eq_getElem?_getD]
        by_cases hik : i < k
        · rw [List.getElem?_append_left (by omega), ← List.getD_eq_getElem?_getD]
          exact HF.out.2.2.1 i hik
        · obtain rfl : i = k := by omega
          rw [List.getElem?_append_right (by omega), show i - vs.length = 0 by omega]
          exact HF.out.2.1
      case measure => simp [intOf]; omega
    · have ek : k = n.toNat := by omega
      have HF := Lib.hid (And.intro hown hall)
      clear hown hall
      go_wp2_with fail
      go_ret
      refine ⟨_, rfl, ?_, hbel⟩
      rw [← ek]
      refine SSl.of_own HF.out.1 (by rw [hvl, listE_length]) (fun i hi => ?_)
      rw [listE_length] at hi
      rw [listE_at k i hi]
      exact (HF.out.2 i hi).bsl (by show (2 : Nat) ≤ _; decide)
end Go.Proofs.YtkogehkmldbhgaaDoor
