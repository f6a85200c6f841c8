/- Texts that stand behind one another: MerkK, List, Same8, DX, VerN. No condition. -/
import Derived.Test.YteonmcconpfkjaaDoorP14
import Derived.Test.YteonmcconpfkjaaDoorP13
import Derived.Test.YteonmcconpfkjaaDoorP9
import Derived.Test.YteonmcconpfkjaaDoorP5
import Derived.Test.YteonmcconpfkjaaDoorP4
/- The walk of deponentlaw8's known. No condition. -/
namespace Go.Proofs.YteonmcconpfkjaaDoor
open Go.RowKit
attribute [local go_sem] n8_lo n8_hi n64_lo n64_hi n32_lo n32_hi
def kLeaf2 : List UInt8 := [110, 52] ++ List.replicate 30 0
set_option maxRecDepth 100000 in
theorem kn0 : n8 ((rootM 32 []).getD 0 0) = 227 ∧ n8 ((rootM 32 []).getD 1 0) = 176 := by decide +kernel
set_option maxRecDepth 100000 in
theorem kn1 : n8 ((leafM 32 []).getD 0 0) = 110 ∧ n8 ((leafM 32 []).getD 31 0) = 29 := by decide +kernel
set_option maxRecDepth 100000 in
theorem kn2 : leafM 2 [] = kLeaf2 := by decide +kernel
theorem built_K (w : World) : (Instr.build 43 #[(0, .int .u8 110), (1, .int .u8 52)]).run Tryd.prog w = .ok (.agg (dat kLeaf2)) w := by kernel_rfl
set_option maxHeartbeats 400000 in
set_option maxRecDepth 100000 in
theorem known8_any (w : World) (hG : Glob w) : Calls Tryd.prog 39 #[] w fun e w' => e = .returned (.bool true) ∧ Below w.heap.size w w' := by
  go_enter Tryd.func39, Tryd.ntmps39
  go_wp2_with fail
  refine (mroot_any 32 _ [] w ⟨none, 0, [], rfl, Nat.le_refl _, by decide, Reads.nil_, rfl, fun _ h => absurd h (by simp)⟩ (by simp) (by simp) hG).mono ?_
  rintro e w1 ⟨rfl, hbel⟩
  rw [kw32]
  obtain ⟨D1, hD1⟩ : ∃ D, rootM 32 [] = D := ⟨_, rfl⟩
  have HD1 := Lib.hid hD1
  rw [hD1]
  clear hD1
  have hD := Blk.new w1 43 (arr 32 fun _ => 0)
  have hbn := below_new1 w1 (Obj.cells (arr 32 fun _ => 0) 43)
  go_upto_region 2 with (first
    | (refine wpList_storeDat rfl rfl 43 (.tmp 1) (.tmp 3) rfl w1.heap.size rfl _ _ rfl _ hD (by kernel_rfl) ?_; intro w2 hA hon2))
  have hb1 := below_only hbn hon2 (Nat.le_refl _) hbn.size
  replace hbel := hbel.trans (hb1.mono hbel.size)
  clear hb1 hbn hon2 hD
  go_wp2_with fail
  refine (mleaf_any 32 _ [] w2 BSl.nil_ (by simp) (hG.next hbel)).mono ?_
  rintro e w3 ⟨rfl, hb1⟩
  rw [kw32]
  obtain ⟨D2, hD2⟩ : ∃ D, leafM 32 [] = D := ⟨_, rfl⟩
  have HD2 := Lib.hid hD2
  rw [hD2]
  clear hD2
  replace hA := hA.below hb1 hA.lt
  replace hbel := hbel.trans (hb1.mono hbel.size)
  clear hb1
  have hD := Blk.new w3 43 (arr 32 fun _ => 0)
  have hbn := below_new1 w3 (Obj.cells (arr 32 fun _ => 0) 43)
  go_upto_region 3 with (first
    | (refine wpList_storeDat rfl rfl 43 (.tmp 2) (.tmp 4) rfl w3.heap.size rfl _ _ rfl _ hD (by kernel_rfl) ?_; intro w4 hB hon2))
  have hb1 := below_only hbn hon2 (Nat.le_refl _) hbn.size
  replace hA := hA.below hb1 hA.lt
  replace hbel := hbel.trans (hb1.mono hbel.size)
  clear hb1 hbn hon2 hD
  have c0 := dat_cell hA 0 (by decide)
  have c1 := dat_cell hA 1 (by decide)
  have c2 := dat_cell hB 0 (by decide)
  have c3 := dat_cell hB 31 (by decide)
  rw [← HD1.out, kn0.1] at c0
  rw [← HD1.out, kn0.2] at c1
  rw [← HD2.out, kn1.1] at c2
  rw [← HD2.out, kn1.2] at c3
  have hbK := built_K
  clear hA hB
  go_wp2_with fail
  refine (mleaf_any 2 _ [] w4 BSl.nil_ (by simp) (hG.next hbel)).mono ?_
  rintro e w5 ⟨rfl, hb1⟩
  rw [kw2, kn2]
  replace hbel := hbel.trans (hb1.mono hbel.size)
  clear hb1 c0 c1 c2 c3
  go_wp2_with (first
    | (refine wpList_unguard (by rfl) ?_; refine wpList_eqD rfl (.tmp 24) (.tmp 25) _ rfl kLeaf2 kLeaf2 rfl rfl rfl rfl true (decide_eq_true rfl) ?_))
  go_ret
  exact ⟨rfl, hbel⟩
end Go.Proofs.YteonmcconpfkjaaDoor

/- The walk of deponentlaw8's list. No condition. -/
namespace Go.Proofs.YteonmcconpfkjaaDoor
open Go Go.RowKit
attribute [local go_sem] n8_lo n8_hi n64_lo n64_hi n32_lo n32_hi
set_option maxHeartbeats 400000 in
set_option maxRecDepth 100000 in
theorem list_any (n : Int) (c : UInt8) (hn : n ≤ 1000000) (hn2 : -9223372036854775808 ≤ n) (w : World) :
    Calls Tryd.prog 33 #[.int .i64 n, .int .u8 (n8 c)] w fun e w' => ∃ v, e = .returned v ∧ SSl w' w'.heap.size v (listL n.toNat c) ∧ Below w.heap.size w w' := by
  obtain ⟨i0, hi, hz0, hz1, hz2⟩ := info_parts (by kernel_rfl : (Tryd.prog.info? 22).map (fun i => (i.zero, i.size, i.bytes)) = some (some (.slice none 0 0), 1, 24))
  go_enter Tryd.func33, Tryd.ntmps33
  go_wp2_with fail
  go_loopw [5, 6] (fun v iv wr => ∃ (k : Nat) (vs : List Value), k ≤ n.toNat ∧ iv = .int .i64 k ∧ vs.length = k ∧ wr.ownsRow w.heap.size 22 1 v vs.length vs ∧ (∀ i, i < k → Whole wr (vs.getD i undef) (elemL c i)) ∧ Below w.heap.size w wr) (fun _ iv _ => n.toNat - (intOf iv).toNat)
  case atStart => exact ⟨0, [], by omega, rfl, rfl, World.ownsRow_nil _ _ _ _, fun i hi => by omega, Below.refl _ _⟩
  case round =>
    obtain ⟨k, vs, hk, rfl, hvl, hown, hall, hbel⟩ := hrel
    by_cases hlt : (k : Int) < n
    · have b1 := byte_nat k
      have b2 := byte_nat (k / 256)
      have b3 : ((k / 256 : Nat) : Int) = (k : Int) / 256 := by omega
      rw [b3] at b2
      have hk1 : k ≤ 1000000 := by omega
      have hA := Blk.new w 5 #[]
      clear hA
      have hb1w := below_new1 wr (Obj.cells #[.int .u8 (n8 c), .int .u8 (n8 (UInt8.ofNat k)), .int .u8 (n8 (UInt8.ofNat (k / 256)))] 5)
      have hbw := hb1w.alloc hb1w.size (Obj.cells #[.slice (some ⟨wr.heap.size, 0, none⟩) 3 3] 22)
      have hE := (Blk.new wr 5 #[.int .u8 (n8 c), .int .u8 (n8 (UInt8.ofNat k)), .int .u8 (n8 (UInt8.ofNat (k / 256)))]).alloc (Obj.cells #[.slice (some ⟨wr.heap.size, 0, none⟩) 3 3] 22)
      have hS := Blk.new2 wr (Obj.cells #[.int .u8 (n8 c), .int .u8 (n8 (UInt8.ofNat k)), .int .u8 (n8 (UInt8.ofNat (k / 256)))] 5) 22 #[.slice (some ⟨wr.heap.size, 0, none⟩) 3 3]
      have hW : Whole ((wr.alloc (Obj.cells #[.int .u8 (n8 c), .int .u8 (n8 (UInt8.ofNat k)), .int .u8 (n8 (UInt8.ofNat (k / 256)))] 5)).alloc (Obj.cells #[.slice (some ⟨wr.heap.size, 0, none⟩) 3 3] 22)) (.slice (some ⟨wr.heap.size, 0, none⟩) 3 3) (elemL c k) := ⟨wr.heap.size, rfl, hE⟩
      have hown2 := own_below hown hbw
      have HWs := Lib.hid (And.intro hW (fun i (hi : i < k) => (hall i hi).below hbw))
      have hbase := Nat.le_trans hbel.size hbw.size
      clear hb1w hE hW hall hown
      go_wp2_with (first
        | (at_builtin; refine wpList_appendR rfl (.tmp 12) (.tmp 20) _ rfl w.heap.size 22 i0 _ 24 Tryd.underlying23 hi hz0 hz1 hz2 rfl _ vs rfl hown2 _ (some ⟨wr.heap.size + 1, 0, none⟩) 1 1 [.slice (some ⟨wr.heap.size, 0, none⟩) 3 3] rfl (Reads.of_blk hS hS.lt 0) rfl (fun u hu => by rw [List.mem_singleton] at hu; subst hu; rfl) (by unfold maxLen; omega) (by omega) hbase ?_; intro u1 w1 hown1 hg1 hat1))
      have hbel1 := below_own (hbel.trans (hbw.mono hbel.size)) hown2 hg1 hbase
      have hE1 := HWs.out.1.grown hown2 hg1
      have hall1 : ∀ i, i < k → Whole w1 (vs.getD i undef) (elemL c i) := fun i hi => (HWs.out.2 i hi).grown hown2 hg1
      have HF := Lib.hid (And.intro hbel1 (And.intro hE1 (And.intro hall1 hown1)))
      clear hbel1 hE1 hall1 hown1 HWs hown2 hg1 hat1 hS hbw hbase
      go_wp2_with fail
      go_roundw
      case rel =>
        refine ⟨k + 1, vs ++ [.slice (some ⟨wr.heap.size, 0, none⟩) 3 3], by omega, by go_num, by rw [List.length_append, hvl]; rfl, HF.out.2.2.2, fun i hi => ?_, HF.out.1⟩
        rw [List.getD_eq_getElem?_getD]
        by_cases hik : i < k
        · rw [List.getElem?_append_left (by omega), ← List.getD_eq_getElem?_getD]
          exact HF.out.2.2.1 i hik
        · obtain rfl : i = k := by omega
          rw [List.getElem?_append_right (by omega), show i - vs.length = 0 by omega]
          exact HF.out.2.1
      case measure => simp [intOf]; omega
    · have ek : k = n.toNat := by omega
      have HF := Lib.hid (And.intro hown hall)
      clear hown hall
      go_wp2_with fail
      go_ret
      refine ⟨_, rfl, ?_, hbel⟩
      rw [← ek]
      refine SSl.of_own HF.out.1 (by rw [hvl, listL_length]) (fun i hi => ?_)
      rw [listL_length] at hi
      rw [listL_at k c i hi]
      exact (HF.out.2 i hi).bsl (by show (3 : Nat) ≤ _; decide)
end Go.Proofs.YteonmcconpfkjaaDoor

/- The walks of deponentbook's Same at digests and of deponentkeep's Sames, on lists that are alike. No condition. -/
namespace Go.Proofs.YteonmcconpfkjaaDoor
open Go Go.RowKit
attribute [local irreducible] mixW
attribute [local go_sem] n8_lo n8_hi n64_lo n64_hi n32_lo n32_hi
/-- v is a slice of digests that reads ds -/
def DSl (w : World) (v : Value) (ds : List (List UInt8)) : Prop := ∃ A cap, v = .slice A ds.length cap ∧ ∀ k, k < ds.length → ∃ g, A = some ⟨g, 0, none⟩ ∧ g < w.heap.size ∧ w.rangeAt g (k * 32) (dat (ds.getD k [])).toList
theorem range_next {w w' : World} {g off : Nat} {cs : List Value} (h : w.rangeAt g off cs) (hg : g < w.heap.size) (hb : Below w.heap.size w w') : w'.rangeAt g off cs := fun j v hj => by
  have h1 := h j v hj
  rw [hb.cell (p := ⟨g, off + j, none⟩) hg]; exact h1
theorem DSl.next {w w' : World} {v : Value} {ds : List (List UInt8)} (h : DSl w v ds) (hb : Below w.heap.size w w') : DSl w' v ds := by
  obtain ⟨A, cap, e, h⟩ := h
  refine ⟨A, cap, e, fun k hk => ?_⟩
  obtain ⟨g, e2, hg, hr⟩ := h k hk
  exact ⟨g, e2, Nat.lt_of_lt_of_le hg hb.size, range_next hr hg hb⟩
theorem DSl.of_own {w : World} {base : Nat} {v : Value} {ds : List (List UInt8)} (h : w.ownsRow base 43 32 v ds.length (dcells ds)) : DSl w v ds := by
  have hlt := own_lt h
  rcases h.2 with ⟨e, h0⟩ | ⟨b, cap, cur, e, _, hb, hc1, _, hsz, hcur⟩
  · exact ⟨none, 0, by rw [e, h0], fun k hk => by omega⟩
  · refine ⟨_, cap, e, fun k hk => ⟨b, rfl, hlt b (by rw [e]; rfl), fun j v hj => ?_⟩⟩
    have hj32 : j < 32 := by
      have := (List.getElem?_eq_some_iff.1 hj).1
      rw [Array.length_toList, dat_size] at this; exact this
    rw [cell_of_row w b (k * 32 + j) cur _ (0, 0) hb]
    have h1 := dcells_at ds k hk j hj32
    rw [← hcur, List.getElem?_take, if_pos (by omega)] at h1
    rw [← hj]
    simpa using h1
set_option maxHeartbeats 400000 in
set_option maxRecDepth 100000 in
theorem same8_any (u v : Value) (ds : List (List UInt8)) (hall : ∀ d ∈ ds, d.length = 32) (hn : ds.length ≤ 1000000000) (w : World) (hu : DSl w u ds) (hv : DSl w v ds) :
    Calls Tryd.prog 105 #[u, v] w fun e w' => e = .returned (.bool true) ∧ Below w.heap.size w w' := by
  have Hall := Lib.hid hall
  clear hall
  obtain ⟨A1, c1, rfl, h1⟩ := hu
  obtain ⟨A2, c2, rfl, h2⟩ := hv
  have H1 : Hid (DSl w (.slice A1 ds.length c1) ds) := Lib.hid ⟨A1, c1, rfl, h1⟩
  have H2 : Hid (DSl w (.slice A2 ds.length c2) ds) := Lib.hid ⟨A2, c2, rfl, h2⟩
  clear h1 h2
  have hne : ((ds.length : Int) != (ds.length : Int)) = false := by simp
  go_enter Tryd.func105, Tryd.ntmps105
  go_wp2_with fail
  go_loopw [5] (fun iv wr => ∃ k : Nat, k ≤ ds.length ∧ iv = .int .i64 k ∧ Below w.heap.size w wr) (fun iv _ => ds.length - (intOf iv).toNat)
  case atStart => exact ⟨0, by omega, rfl, Below.refl _ _⟩
  case round =>
    obtain ⟨k, hk, rfl, hbel⟩ := hrel
    by_cases hlt : k < ds.length
    case neg =>
      have hlt' : ¬ ((k : Int) < (ds.length : Int)) := by omega
      go_wp2_with fail
      go_ret
      exact ⟨rfl, hbel⟩
    have hlt' : (k : Int) < (ds.length : Int) := by omega
    obtain ⟨A1', c1', e1, hh1⟩ := H1.out.next hbel
    injection e1 with e1 _ e1c
    subst e1c
    obtain ⟨g1, e3, hg1, hr1⟩ := hh1 k hlt
    rw [e3] at e1
    subst e1
    obtain ⟨A2', c2', e2, hh2⟩ := H2.out.next hbel
    injection e2 with e2 _ e2c
    subst e2c
    obtain ⟨g2, e4, hg2, hr2⟩ := hh2 k hlt
    rw [e4] at e2
    subst e2
    clear hh1 hh2 e3 e4
    have hdl : (ds.getD k []).length = 32 := Hall.out _ (by rw [List.getD_eq_getElem?_getD, List.getElem?_eq_getElem hlt]; exact List.getElem_mem _)
    generalize ds.getD k [] = d at hr1 hr2 hdl
    have Hdl := Lib.hid hdl
    clear hdl
    go_wp2_with fail
    refine wp_region_mixP (.plain 0 <| .plain 1 <| .plain 2 <| .plain 3 <| .plain 4 <| .plain 5 <| .plain 6 <| .plain 7 <| .plain 8 <| .done) (by kernel_rfl) (by kernel_rfl) (fun W1 hb1 => ?_)
    replace hr1 := range_next hr1 hg1 hb1
    replace hr2 := range_next hr2 hg2 hb1
    replace hbel := hbel.trans (hb1.mono hbel.size)
    clear hb1
    iterate 9 (refine mix_plain rfl ?_; (first
      | (refine wpQuiet_loadMid rfl 43 (.tmp 19) rfl g1 (k * 32) rfl (dat d) _ (fun _ ⟨e, he⟩ => by rw [he]; exact range_plus hr1 e) Tryd.underlying43 rfl (by rw [dat_size]; kernel_rfl) ?_; simp only [Act.put, List.setIfInBounds_toArray, List.set_cons_zero, List.set_cons_succ])
      | (refine wpQuiet_loadMid rfl 43 (.tmp 23) rfl g2 (k * 32) rfl (dat d) _ (fun _ ⟨e, he⟩ => by rw [he]; exact range_plus hr2 e) Tryd.underlying43 rfl (by rw [dat_size]; kernel_rfl) ?_; simp only [Act.put, List.setIfInBounds_toArray, List.set_cons_zero, List.set_cons_succ])
      | (refine wpQuiet_neD rfl (.tmp 20) (.tmp 24) _ rfl d d rfl rfl Hdl.out Hdl.out true (decide_eq_true rfl) ?_; simp only [Act.put, List.setIfInBounds_toArray, List.set_cons_zero, List.set_cons_succ])
      | go_big_quiet_step (fail)); refine wpQuiet_nil ?_)
    refine mix_done ?_
    clear hr1 hr2
    go_wp2_with fail
    go_roundw
    case rel => exact ⟨k + 1, by omega, by go_num, hbel⟩
    case measure => simp [intOf]; omega
end Go.Proofs.YteonmcconpfkjaaDoor

/- Slices of digests, wherever they begin. No condition. -/
namespace Go.Proofs.YteonmcconpfkjaaDoor
open Go Go.RowKit
/-- v is a slice of digests that reads ds -/
def DX (w : World) (v : Value) (ds : List (List UInt8)) : Prop := ∃ A cap, v = .slice A ds.length cap ∧ ds.length ≤ cap ∧ cap ≤ 9223372036854775807 ∧ ∀ k, k < ds.length → ∃ g o, A = some ⟨g, o, none⟩ ∧ g < w.heap.size ∧ w.rangeAt g (o + k * 32) (dat (ds.getD k [])).toList
theorem DX.next {w w' : World} {v : Value} {ds : List (List UInt8)} (h : DX w v ds) (hb : Below w.heap.size w w') : DX w' v ds := by
  obtain ⟨A, cap, e, h1, h2, h⟩ := h
  refine ⟨A, cap, e, h1, h2, fun k hk => ?_⟩
  obtain ⟨g, o, e2, hg, hr⟩ := h k hk
  exact ⟨g, o, e2, Nat.lt_of_lt_of_le hg hb.size, range_next hr hg hb⟩
theorem DX.of_own {w : World} {base : Nat} {v : Value} {ds : List (List UInt8)} (h : w.ownsRow base 43 32 v ds.length (dcells ds)) : DX w v ds := by
  obtain ⟨A, cap, e, h1⟩ := DSl.of_own h
  have hc : ds.length ≤ cap ∧ cap ≤ 9223372036854775807 := by
    rcases h.2 with ⟨e2, h0⟩ | ⟨b, cap2, cur, e2, _, _, hc1, hc2, _⟩
    · rw [e] at e2; injection e2 with _ _ e3; subst e3; omega
    · rw [e] at e2; injection e2 with _ _ e3; subst e3; exact ⟨hc1, hc2⟩
  refine ⟨A, cap, e, hc.1, hc.2, fun k hk => ?_⟩
  obtain ⟨g, e2, hg, hr⟩ := h1 k hk
  exact ⟨g, 0, e2, hg, by rw [Nat.zero_add]; exact hr⟩
theorem DX.nil_ (w : World) : DX w (.slice none 0 0) [] := ⟨none, 0, rfl, Nat.le_refl _, by decide, fun k hk => by simp at hk⟩
theorem DX.take {w : World} {A : Option Addr} {n cap : Nat} {ds : List (List UInt8)} (h : DX w (.slice A n cap) ds) (m : Nat) (hm : m ≤ n) : DX w (.slice A m cap) (ds.take m) := by
  obtain ⟨A', cap', e, h1, h2, h⟩ := h
  injection e with e1 e2 e3
  subst e1; subst e2; subst e3
  have hl : (ds.take m).length = m := by rw [List.length_take]; omega
  refine ⟨A, cap, by rw [hl], by omega, h2, fun k hk => ?_⟩
  obtain ⟨g, o, e2, hg, hr⟩ := h k (by omega)
  refine ⟨g, o, e2, hg, ?_⟩
  rw [List.getD_eq_getElem?_getD, List.getElem?_take_of_lt (by omega), ← List.getD_eq_getElem?_getD]
  exact hr
end Go.Proofs.YteonmcconpfkjaaDoor

/- Blocks of digests: made, copied into, one stored; deponentbook's Same at digests. No condition. -/
namespace Go.Proofs.YteonmcconpfkjaaDoor
open Go Go.RowKit
attribute [local irreducible] mixW
attribute [local go_sem] n8_lo n8_hi n64_lo n64_hi n32_lo n32_hi
def zeroD : List UInt8 := List.replicate 32 0
theorem zeroD_len : zeroD.length = 32 := by unfold zeroD; simp
theorem dat_zeroD : dat zeroD = arr 32 fun _ => 0 := by
  unfold dat
  apply arr_congr
  intro p hp
  unfold zeroD
  rw [List.getD_eq_getElem?_getD, List.getElem?_replicate, if_pos hp]; rfl
theorem zeros_at (N j : Nat) (hj : j < N * 32) : (dcells (List.replicate N zeroD))[j]? = some (.int .u8 0) := by
  have h1 : j = (j / 32) * 32 + j % 32 := by omega
  rw [h1, dcells_at _ (j / 32) (by rw [List.length_replicate]; omega) (j % 32) (Nat.mod_lt _ (by decide))]
  rw [List.getD_eq_getElem?_getD, List.getElem?_replicate, if_pos (by omega), Option.getD_some, dat_zeroD, arr_at _ _ _ (Nat.mod_lt _ (by decide))]; rfl
theorem made_digs (N : Nat) : madeCells (arr 32 fun _ => 0) (N * 32) = (dcells (List.replicate N zeroD)).toArray := by
  apply Array.ext_getElem?
  intro j
  by_cases hj : j < N * 32
  · have hR : (dcells (List.replicate N zeroD)).toArray[j]? = some (.int .u8 0) := by rw [List.getElem?_toArray]; exact zeros_at N j hj
    rw [hR]
    unfold madeCells
    rw [Array.getElem?_map, Array.getElem?_range, if_pos hj]
    have h32 : (arr 32 fun _ => (0 : UInt8)).size = 32 := arr_size _ _
    have hm : j % (arr 32 fun _ => (0 : UInt8)).size < (arr 32 fun _ => (0 : UInt8)).size := by rw [h32]; exact Nat.mod_lt _ (by decide)
    show some ((arr 32 fun _ => (0 : UInt8))[j % (arr 32 fun _ => (0 : UInt8)).size]!) = _
    rw [getElem!_pos (arr 32 fun _ => (0 : UInt8)) _ hm]
    have := arr_at 32 (fun _ => (0 : UInt8)) (j % (arr 32 fun _ => (0 : UInt8)).size) (by rw [h32] at hm ⊢; exact hm)
    rw [Array.getElem?_eq_getElem hm] at this
    injection this with this
    rw [this]; rfl
  · rw [Array.getElem?_eq_none (by rw [size_madeCells]; omega), Array.getElem?_eq_none (by simp [dcells_length]; omega)]
/-- make([]api.Digest, n) -/
theorem wpList_makeD {w : World} {ops : Array Oper} {rest : List Oper} {o : Oper} {a : Act} {Q : Exit → Act → World → Prop} (hgd : o.guard = none) (l c : Operand) (ho : o.op = Op.makeSlice 69 l c)
    (kl kc : IntKind) (n : Nat) (hl : a.eval l = .int kl (n : Int)) (hc : a.eval c = .int kc (n : Int)) (h63 : n ≤ 1000000000)
    (h : wpList Tryd.prog ops Q rest (a.put o.dst (.slice (some ⟨w.heap.size, 0, none⟩) n n)) (w.alloc (.cells (dcells (List.replicate n zeroD)).toArray 43))) : wpList Tryd.prog ops Q (o :: rest) a w := by
  obtain ⟨i0, hi, hz0, hz1, hz2⟩ := info_parts (by kernel_rfl : (Tryd.prog.info? 43).map (fun i => (i.zero, i.size, i.bytes)) = some (some (.agg (arr 32 fun _ => 0)), 32, 32))
  refine wpList_plain hgd fun K hK => ?_
  have hr := run_make (P := Tryd.prog) w 69 43 i0 (.agg (arr 32 fun _ => 0)) Tryd.underlying69 hi hz0 kl kc n n (by omega) (by omega) (by rw [hz2]; omega) (by omega)
  have hcells : (Value.agg (arr 32 fun _ => (0 : UInt8))).cells = arr 32 fun _ => 0 := rfl
  rw [Int.toNat_natCast, hz1, hcells, made_digs] at hr
  unfold Oper.wp
  simp [execOp, ho, hl, hc, hr, Result.andThen]
  exact hK _ _ h
/-- a copy of rows of some cells an element -/
theorem run_copy_rows {P : Program} (w : World) (dT sT ty elem : TypeId) (sz g o dLen dCap : Nat) (a : Addr) (sLen sCap : Nat) (cur : Array Value) (t : TypeId) (cs : List Value)
    (hu : P.underlying dT = some (.slice elem)) (hs : (P.info? elem).map (·.size) = some sz)
    (hg : w.heap[g]? = some (.cells cur t (0, 0))) (hn : cs.length = Nat.min sLen dLen * sz)
    (hsrc : ∀ j v, cs[j]? = some v → w.cell? (a.add j) = some v) (hfit : o + cs.length ≤ cur.size) (h1 : ∀ v ∈ cs, v.oneCell' = true) :
    (Builtin.copy_ #[dT, sT] ty #[.slice (some ⟨g, o, none⟩) dLen dCap, .slice (some a) sLen sCap]).run P w =
      .ok (goInt (Nat.min sLen dLen)) (w.setRow g (cur.toList.take o ++ cs ++ cur.toList.drop (o + cs.length)).toArray) := by
  have hl := run_loadCells_list (P := P) w a cs hsrc
  have hst := run_storeCells_at P g o t cs 0 cur w hg (by simpa using hfit) h1
  cases hq : P.info? elem with
  | none => simp [hq] at hs
  | some i =>
    have hi : i.size = sz := by simpa [hq] using hs
    simp [Builtin.copy_, run_underlying hu, Builtin.lenOf, Builtin.firstCells, sizeOf, typeInfo, hq, hi, ← hn, hl, hst]
theorem run_copy_zero {P : Program} (w : World) (dT sT ty elem : TypeId) (d a : Option Addr) (dLen dCap sLen sCap : Nat) (hu : P.underlying dT = some (.slice elem)) (sz : Nat) (hs : (P.info? elem).map (·.size) = some sz) (hn : Nat.min sLen dLen = 0) :
    (Builtin.copy_ #[dT, sT] ty #[.slice d dLen dCap, .slice a sLen sCap]).run P w = .ok (goInt 0) w := by
  cases hq : P.info? elem with
  | none => simp [hq] at hs
  | some i =>
    have hl : ∀ (x : Addr), (loadCells x 0).run P w = .ok #[] w := fun x => by simpa using run_loadCells_list (P := P) w x [] (by simp)
    cases d <;> cases a <;> simp [Builtin.copy_, run_underlying hu, Builtin.lenOf, Builtin.firstCells, sizeOf, typeInfo, hq, hn, storeCells, hl]
theorem dcells_append (a b : List (List UInt8)) : dcells (a ++ b) = dcells a ++ dcells b := by simp [dcells]
theorem dcells_one (l : List (List UInt8)) : ∀ v ∈ dcells l, v.oneCell' = true := by
  intro v hv
  unfold dcells at hv
  obtain ⟨cs, hcs, hv⟩ := List.mem_flatten.1 hv
  obtain ⟨d, _, rfl⟩ := List.mem_map.1 hcs
  exact arr_one _ _ v (by simpa [dat] using hv)
/-- a slice of digests reads, from its address on, all their cells -/
theorem DX.cells {w : World} {g o n cap : Nat} {ds : List (List UInt8)} (h : DX w (.slice (some ⟨g, o, none⟩) n cap) ds) (j : Nat) (v : Value) (hj : (dcells ds)[j]? = some v) : w.cell? ((⟨g, o, none⟩ : Addr).add j) = some v := by
  obtain ⟨A', cap', e, _, _, hh⟩ := h
  injection e with e1 e2 _
  subst e1
  have hjl : j < ds.length * 32 := by have := (List.getElem?_eq_some_iff.1 hj).1; rwa [dcells_length] at this
  obtain ⟨g2, o2, e3, _, hr⟩ := hh (j / 32) (by omega)
  injection e3 with e3
  injection e3 with e4 e5
  subst e4; subst e5
  have hd := dcells_at ds (j / 32) (by omega) (j % 32) (Nat.mod_lt _ (by decide))
  rw [show j / 32 * 32 + j % 32 = j by omega, hj] at hd
  have := hr (j % 32) v (by rw [Array.getElem?_toList]; exact hd.symm)
  have e : (⟨g, o, none⟩ : Addr).add j = ⟨g, o + j, none⟩ := by unfold Addr.add; split <;> simp_all
  rw [e, show o + j = o + j / 32 * 32 + j % 32 by omega]; exact this
theorem DX.addr {w : World} {A : Option Addr} {n cap : Nat} {ds : List (List UInt8)} (h : DX w (.slice A n cap) ds) (h0 : 0 < ds.length) : ∃ g o, A = some ⟨g, o, none⟩ := by
  obtain ⟨A', cap', e, _, _, hh⟩ := h
  injection e with e1 _ _
  subst e1
  obtain ⟨g, o, e, _⟩ := hh 0 h0
  exact ⟨g, o, e⟩
theorem wpList_copy_rows {P : Program} {w : World} {ops : Array Oper} {rest : List Oper} {o : Oper} {a : Act} {Q : Exit → Act → World → Prop} (hgd : o.guard = none) (d s : Operand) (dT sT : TypeId)
    (ho : o.op = .call { callee := .builtin .copy, args := #[d, s], argTypes := #[dT, sT] }) (elem : TypeId) (sz : Nat) (hu : P.underlying dT = some (.slice elem)) (hsz : (P.info? elem).map (·.size) = some sz)
    (g off dLen dCap : Nat) (ad : Addr) (sLen sCap : Nat) (hd : a.eval d = .slice (some ⟨g, off, none⟩) dLen dCap) (hs : a.eval s = .slice (some ad) sLen sCap)
    (cur : Array Value) (t : TypeId) (hg : w.heap[g]? = some (.cells cur t (0, 0))) (cs : List Value) (hn : cs.length = Nat.min sLen dLen * sz)
    (hsrc : ∀ j v, cs[j]? = some v → w.cell? (ad.add j) = some v) (hfit : off + cs.length ≤ cur.size) (h1 : ∀ v ∈ cs, v.oneCell' = true)
    (h : wpList P ops Q rest (a.put o.dst (goInt (Nat.min sLen dLen))) (w.setRow g (cur.toList.take off ++ cs ++ cur.toList.drop (off + cs.length)).toArray)) : wpList P ops Q (o :: rest) a w := by
  refine wpList_plain hgd fun K hK => ?_
  have hrun := run_copy_rows (P := P) w dT sT o.type elem sz g off dLen dCap ad sLen sCap cur t cs hu hsz hg hn hsrc hfit h1
  unfold Oper.wp
  simp only [execOp, ho, resolve, invoke, builtin, hd, hs, List.map_toArray, List.map_cons, List.map_nil, Sem.run_bind, Sem.run_pure, Result.andThen_ok, hrun]
  exact hK _ _ h
theorem wpList_copy_zero {P : Program} {w : World} {ops : Array Oper} {rest : List Oper} {o : Oper} {a : Act} {Q : Exit → Act → World → Prop} (hgd : o.guard = none) (d s : Operand) (dT sT : TypeId)
    (ho : o.op = .call { callee := .builtin .copy, args := #[d, s], argTypes := #[dT, sT] }) (elem : TypeId) (sz : Nat) (hu : P.underlying dT = some (.slice elem)) (hsz : (P.info? elem).map (·.size) = some sz)
    (dp sp : Option Addr) (dLen dCap sLen sCap : Nat) (hd : a.eval d = .slice dp dLen dCap) (hs : a.eval s = .slice sp sLen sCap) (hn : Nat.min sLen dLen = 0)
    (h : wpList P ops Q rest (a.put o.dst (goInt 0)) w) : wpList P ops Q (o :: rest) a w := by
  refine wpList_plain hgd fun K hK => ?_
  have hrun := run_copy_zero (P := P) w dT sT o.type elem dp sp dLen dCap sLen sCap hu sz hsz hn
  unfold Oper.wp
  simp only [execOp, ho, resolve, invoke, builtin, hd, hs, List.map_toArray, List.map_cons, List.map_nil, Sem.run_bind, Sem.run_pure, Result.andThen_ok, hrun]
  exact hK _ _ h
/-- copy of some digests into the head of a block of digests -/
theorem wpList_copyD {w : World} {ops : Array Oper} {rest : List Oper} {o : Oper} {a : Act} {Q : Exit → Act → World → Prop} (hgd : o.guard = none) (d s : Operand)
    (ho : o.op = .call { callee := .builtin .copy, args := #[d, s], argTypes := #[69, 69] })
    (g N n : Nat) (es : List (List UInt8)) (hN : es.length = N) (hd : a.eval d = .slice (some ⟨g, 0, none⟩) N n) (hg : Blk w g 43 (dcells es).toArray)
    (A : Option Addr) (cap : Nat) (ds : List (List UInt8)) (hs : a.eval s = .slice A ds.length cap) (hx : DX w (.slice A ds.length cap) ds) (hl : ds.length ≤ es.length)
    (h : ∀ w', Blk w' g 43 (dcells (ds ++ es.drop ds.length)).toArray → w.grownBy w' (some g) → wpList Tryd.prog ops Q rest (a.put o.dst (goInt ds.length)) w') : wpList Tryd.prog ops Q (o :: rest) a w := by
  subst hN
  have hmin : Nat.min ds.length es.length = ds.length := Nat.min_eq_left hl
  have hsz : (Tryd.prog.info? 43).map (·.size) = some 32 := by kernel_rfl
  by_cases h0 : ds.length = 0
  · refine wpList_copy_zero hgd d s _ _ ho 43 32 Tryd.underlying69 hsz _ A es.length n ds.length cap hd hs (by rw [hmin]; exact h0) ?_
    have hnil : ds = [] := List.length_eq_zero_iff.1 h0
    subst hnil
    exact h w (by simpa using hg) (World.grownBy.refl w _)
  · obtain ⟨gs, os, rfl⟩ := hx.addr (by omega)
    have hwhole : ((dcells es).toArray.toList.take 0 ++ dcells ds ++ (dcells es).toArray.toList.drop (0 + (dcells ds).length)).toArray = (dcells (ds ++ es.drop ds.length)).toArray := by
      have hl2 : List.drop (dcells ds).length (dcells es) = dcells (es.drop ds.length) := by
        obtain ⟨E1, E2, hE, hE1⟩ : ∃ E1 E2, es = E1 ++ E2 ∧ E1.length = ds.length := ⟨es.take ds.length, es.drop ds.length, (List.take_append_drop _ _).symm, by rw [List.length_take]; omega⟩
        have e2 : (dcells ds).length = (dcells E1).length := by rw [dcells_length, dcells_length, hE1]
        rw [e2, hE, ← hE1, List.drop_left, dcells_append, List.drop_left]
      rw [List.take_zero, List.nil_append, Nat.zero_add, dcells_append]
      show (dcells ds ++ List.drop (dcells ds).length (dcells es)).toArray = _
      rw [hl2]
    refine wpList_copy_rows hgd d s _ _ ho 43 32 Tryd.underlying69 hsz g 0 es.length n ⟨gs, os, none⟩ ds.length cap hd hs (dcells es).toArray 43 hg (dcells ds) (by rw [hmin, dcells_length]) (fun j v hj => hx.cells j v hj) (by rw [List.size_toArray, dcells_length, dcells_length]; omega) (dcells_one ds) ?_
    rw [hmin, hwhole]
    exact h (w.setRow g (dcells (ds ++ es.drop ds.length)).toArray) (setRow_heap w g _ _ _ _ hg) (only_setRow w g _)
theorem dcells_set (l : List (List UInt8)) (k : Nat) (hk : k < l.length) (m : List UInt8) : copied (dcells l).toArray (k * 32) (dat m).toList 32 = (dcells (l.set k m)).toArray := by
  obtain ⟨L1, x, L2, hl, hk1⟩ : ∃ L1 x L2, l = L1 ++ x :: L2 ∧ L1.length = k := ⟨l.take k, l[k], l.drop (k + 1), by rw [List.getElem_cons_drop, List.take_append_drop], by rw [List.length_take]; omega⟩
  subst hl
  subst hk1
  have hs : (L1 ++ x :: L2).set L1.length m = L1 ++ m :: L2 := by simp
  have hm : (dat m).toList.length = 32 := by rw [Array.length_toList, dat_size]
  have h4 : (dat x).toList.length = 32 := by rw [Array.length_toList, dat_size]
  have h2 : ∀ y, dcells (L1 ++ y :: L2) = dcells L1 ++ ((dat y).toList ++ dcells L2) := fun y => by simp [dcells]
  have h1 : (dcells L1).length = L1.length * 32 := dcells_length _
  rw [hs, h2, h2]
  unfold copied
  show (List.take (L1.length * 32) (dcells L1 ++ ((dat x).toList ++ dcells L2)) ++ (List.take 32 (dat m).toList ++ List.drop (L1.length * 32 + (List.take 32 (dat m).toList).length) (dcells L1 ++ ((dat x).toList ++ dcells L2)))).toArray = _
  rw [List.take_of_length_le (by omega : (dat m).toList.length ≤ 32), hm, ← h1, List.take_left]
  congr 3
  have h5 : (dcells L1).length + 32 = (dcells L1 ++ (dat x).toList).length := by rw [List.length_append, h4]
  rw [h5, ← List.append_assoc (dcells L1), List.drop_left]
/-- one digest of a block of digests is stored -/
theorem wpList_storeD {w : World} {ops : Array Oper} {rest : List Oper} {o : Oper} {a : Act} {Q : Exit → Act → World → Prop} (hgd : o.guard = none) (hdst : o.dst = none) (x y : Operand) (ho : o.op = .store 43 x y) (g k : Nat) (hx : a.eval x = .pointer (some ⟨g, k * 32, none⟩)) (m : List UInt8) (hy : a.eval y = .agg (dat m))
    (l : List (List UInt8)) (hk : k < l.length) (hg : Blk w g 43 (dcells l).toArray)
    (h : ∀ w', Blk w' g 43 (dcells (l.set k m)).toArray → w.grownBy w' (some g) → wpList Tryd.prog ops Q rest a w') : wpList Tryd.prog ops Q (o :: rest) a w :=
  wpList_storeB hgd hdst 43 x y ho g (k * 32) hx (dat m) hy 43 (dcells l).toArray hg (by rw [dat_size]; kernel_rfl) (by rw [dat_size, List.size_toArray, dcells_length]; omega) (arr_one _ _) fun w' h1 h2 => by
    rw [dat_size, dcells_set l k hk m] at h1
    exact h w' h1 h2
theorem DX.of_blk {w : World} {g : Nat} {ds : List (List UInt8)} (h : Blk w g 43 (dcells ds).toArray) (hl : ds.length ≤ 1000000000) : DX w (.slice (some ⟨g, 0, none⟩) ds.length ds.length) ds :=
  ⟨_, _, rfl, Nat.le_refl _, by omega, fun k hk => ⟨g, 0, rfl, h.lt, fun j v hj => by
    have hj32 : j < 32 := by
      have := (List.getElem?_eq_some_iff.1 hj).1
      rw [Array.length_toList, dat_size] at this; exact this
    rw [Nat.zero_add, h.cell, List.getElem?_toArray, dcells_at ds k hk j hj32, ← hj, Array.getElem?_toList]⟩⟩
set_option maxHeartbeats 400000 in
set_option maxRecDepth 100000 in
theorem sameX_any (u v : Value) (ds : List (List UInt8)) (hall : ∀ d ∈ ds, d.length = 32) (hn : ds.length ≤ 1000000000) (w : World) (hu : DX w u ds) (hv : DX w v ds) :
    Calls Tryd.prog 105 #[u, v] w fun e w' => e = .returned (.bool true) ∧ Below w.heap.size w w' := by
  have Hall := Lib.hid hall
  clear hall
  obtain ⟨A1, c1, rfl, x1, x2, h1⟩ := hu
  obtain ⟨A2, c2, rfl, y1, y2, h2⟩ := hv
  have H1 : Hid (DX w (.slice A1 ds.length c1) ds) := Lib.hid ⟨A1, c1, rfl, x1, x2, h1⟩
  have H2 : Hid (DX w (.slice A2 ds.length c2) ds) := Lib.hid ⟨A2, c2, rfl, y1, y2, h2⟩
  clear h1 h2 x1 x2 y1 y2
  have hne : ((ds.length : Int) != (ds.length : Int)) = false := by simp
  go_enter Tryd.func105, Tryd.ntmps105
  go_wp2_with fail
  go_loopw [5] (fun iv wr => ∃ k : Nat, k ≤ ds.length ∧ iv = .int .i64 k ∧ Below w.heap.size w wr) (fun iv _ => ds.length - (intOf iv).toNat)
  case atStart => exact ⟨0, by omega, rfl, Below.refl _ _⟩
  case round =>
    obtain ⟨k, hk, rfl, hbel⟩ := hrel
    by_cases hlt : k < ds.length
    case neg =>
      have hlt' : ¬ ((k : Int) < (ds.length : Int)) := by omega
      go_wp2_with fail
      go_ret
      exact ⟨rfl, hbel⟩
    have hlt' : (k : Int) < (ds.length : Int) := by omega
    obtain ⟨A1', c1', e1, _, _, hh1⟩ := H1.out.next hbel
    injection e1 with e1 _ e1c
    subst e1c
    obtain ⟨g1, o1, e3, hg1, hr1⟩ := hh1 k hlt
    rw [e3] at e1
    subst e1
    obtain ⟨A2', c2', e2, _, _, hh2⟩ := H2.out.next hbel
    injection e2 with e2 _ e2c
    subst e2c
    obtain ⟨g2, o2, e4, hg2, hr2⟩ := hh2 k hlt
    rw [e4] at e2
    subst e2
    clear hh1 hh2 e3 e4
    have hdl : (ds.getD k []).length = 32 := Hall.out _ (by rw [List.getD_eq_getElem?_getD, List.getElem?_eq_getElem hlt]; exact List.getElem_mem _)
    generalize ds.getD k [] = d at hr1 hr2 hdl
    have Hdl := Lib.hid hdl
    clear hdl
    go_wp2_with fail
    refine wp_region_mixP (.plain 0 <| .plain 1 <| .plain 2 <| .plain 3 <| .plain 4 <| .plain 5 <| .plain 6 <| .plain 7 <| .plain 8 <| .done) (by kernel_rfl) (by kernel_rfl) (fun W1 hb1 => ?_)
    replace hr1 := range_next hr1 hg1 hb1
    replace hr2 := range_next hr2 hg2 hb1
    replace hbel := hbel.trans (hb1.mono hbel.size)
    clear hb1
    iterate 9 (refine mix_plain rfl ?_; (first
      | (refine wpQuiet_loadMid rfl 43 (.tmp 19) rfl g1 (o1 + k * 32) rfl (dat d) _ (fun _ ⟨e, he⟩ => by rw [he]; exact range_plus hr1 e) Tryd.underlying43 rfl (by rw [dat_size]; kernel_rfl) ?_; simp only [Act.put, List.setIfInBounds_toArray, List.set_cons_zero, List.set_cons_succ])
      | (refine wpQuiet_loadMid rfl 43 (.tmp 23) rfl g2 (o2 + k * 32) rfl (dat d) _ (fun _ ⟨e, he⟩ => by rw [he]; exact range_plus hr2 e) Tryd.underlying43 rfl (by rw [dat_size]; kernel_rfl) ?_; simp only [Act.put, List.setIfInBounds_toArray, List.set_cons_zero, List.set_cons_succ])
      | (refine wpQuiet_neD rfl (.tmp 20) (.tmp 24) _ rfl d d rfl rfl Hdl.out Hdl.out true (decide_eq_true rfl) ?_; simp only [Act.put, List.setIfInBounds_toArray, List.set_cons_zero, List.set_cons_succ])
      | go_big_quiet_step (fail)); refine wpQuiet_nil ?_)
    refine mix_done ?_
    clear hr1 hr2
    go_wp2_with fail
    go_roundw
    case rel => exact ⟨k + 1, by omega, by go_num, hbel⟩
    case measure => simp [intOf]; omega
end Go.Proofs.YteonmcconpfkjaaDoor
