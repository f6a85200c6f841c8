/- Texts that stand behind one another: StW, Kn19, Kn19b, RencA, RdP. No condition. -/
import Derived.Test.YtcdkadidkkbhpaaDoorS18
import Derived.Test.YtcdkadidkkbhpaaDoorS33
import Derived.Test.YtcdkadidkkbhpaaDoorS24
import Derived.Test.YtcdkadidkkbhpaaDoorS30
import Derived.Test.YtcdkadidkkbhpaaDoorS14
import Derived.Test.YtcdkadidkkbhpaaDoorS22
import Derived.Test.YtcdkadidkkbhpaaDoorS2
/- The reference's World, its Hasher; Root, Right. No condition but the words of SHA-256. -/
namespace Go.Proofs.YtcdkadidkkbhpaaDoor
open Go Go.RowKit
attribute [local irreducible] mixW
attribute [local go_sem] n8_lo n8_hi n64_lo n64_hi n32_lo n32_hi
/-- v is a World of a Config, below block B -/
def Wld (w : World) (B : Nat) (v : Value) (wd qu : Int) (st : UInt32) (seed : List UInt8) : Prop := ∃ g t sv, v = .pointer (some ⟨g, 0, none⟩) ∧ g < B ∧ Blk w g 96 #[t, .int .i64 wd, .int .i64 qu, .int .u32 (n32 st), sv] ∧ Tbl w B t ∧ BSl w B sv seed
theorem Wld.next {w w' : World} {v : Value} {wd qu : Int} {st : UInt32} {seed : List UInt8} (h : Wld w w.heap.size v wd qu st seed) (hb : Below w.heap.size w w') : Wld w' w'.heap.size v wd qu st seed := by
  obtain ⟨g, t, sv, rfl, hg, hB, ⟨g2, rfl, hg2, hT⟩, hs⟩ := h
  exact ⟨g, _, sv, rfl, Nat.lt_of_lt_of_le hg hb.size, hB.below hb hg, ⟨g2, rfl, Nat.lt_of_lt_of_le hg2 hb.size, hT.below hb hg2⟩, hs.next hb⟩
theorem built_wld (t : Nat) (wd qu : Int) (st : UInt32) (A : Option Addr) (n c : Nat) : Tryd.prog.built 96 [(0, .pointer (some ⟨t, 0, none⟩)), (1, .agg (cfgC wd qu st (.slice A n c)))] = some #[.pointer (some ⟨t, 0, none⟩), .int .i64 wd, .int .i64 qu, .int .u32 (n32 st), .slice A n c] := by kernel_rfl
set_option maxHeartbeats 2000000 in
set_option maxRecDepth 100000 in
theorem world_any (wd qu : Int) (st : UInt32) (sv : Value) (seed : List UInt8) (w : World) (hsv : BSl w w.heap.size sv seed) :
    Calls Tryd.prog 13 #[.agg (cfgC wd qu st sv)] w fun e w' => ∃ v, e = .returned v ∧ Wld w' w'.heap.size v wd qu st seed ∧ Below w.heap.size w w' := by
  obtain ⟨A, c, rfl⟩ : ∃ A c, sv = .slice A seed.length c := by obtain ⟨A, c, e, _⟩ := hsv; exact ⟨A, c, e⟩
  have HS := Lib.hid hsv
  clear hsv
  go_enter Tryd.func13, Tryd.ntmps13
  go_upto_region 1 with fail
  refine wp_at (fun W => Blk W w.heap.size 25 (cfgC wd qu st (.slice A seed.length c)) ∧ Below w.heap.size w W) ⟨Blk.new w _ _, below_new1 _ _⟩ ?_
  rintro W1 ⟨hC1, hb1⟩
  have H1 := Lib.hid (And.intro hC1 hb1)
  clear hC1 hb1
  refine wp_region_mixP (.plain 1 <| .only 0 <| .plain 2 <| .only 3 <| .plain 4 <| .done) (by kernel_rfl) (by kernel_rfl) (fun W2 hb2 => ?_)
  have hC2 := H1.out.1.below hb2 H1.out.1.lt
  have hbw := H1.out.2.trans (hb2.mono H1.out.2.size)
  clear hb2 H1
  have HL := Lib.hid (show ∀ z, (plus W2 z).rangeAt w.heap.size 0 (cfgC wd qu st (.slice A seed.length c)).toList from fun z => range_blk24 (hC2.plus z))
  refine mix_plain rfl ?_
  refine wpQuiet_loadMid rfl 25 (.tmp 1) rfl w.heap.size 0 rfl (cfgC wd qu st (.slice A seed.length c)) _ (fun _ ⟨e, he⟩ => by rw [he]; exact HL.out e) Tryd.underlying25 rfl (by kernel_rfl) ?_
  simp only [Act.put, List.setIfInBounds_toArray, List.set_cons_zero, List.set_cons_succ]
  refine wpQuiet_nil ?_
  clear HL hC2
  refine mix_only_in rfl (fun K hK => ?_)
  go_wp2_with fail
  refine (new_at W2).mono ?_
  rintro e W3 ⟨rfl, hT3, hb3⟩
  go_wp2_with fail
  refine hK _ _ (below_plus hb3) ?_
  clear hK K
  refine mix_plain rfl ?_
  refine wpQuiet_build2 rfl 96 (.tmp 3) (.tmp 4) rfl _ _ rfl rfl _ (built_wld W2.heap.size wd qu st A seed.length c) ?_
  simp only [Act.put, List.setIfInBounds_toArray, List.set_cons_zero, List.set_cons_succ]
  refine wpQuiet_nil ?_
  have hX := Blk.new W3 96 #[.pointer (some ⟨W2.heap.size, 0, none⟩), .int .i64 wd, .int .i64 qu, .int .u32 (n32 st), .slice A seed.length c]
  have hn := below_new1 W3 (Obj.cells #[.pointer (some ⟨W2.heap.size, 0, none⟩), .int .i64 wd, .int .i64 qu, .int .u32 (n32 st), .slice A seed.length c] 96)
  have hb34 := hb3.trans (hn.mono hb3.size)
  have hT4 := hT3.below hn hT3.lt
  have hlt := hT3.lt
  clear hT3
  refine mix_only_in rfl (fun K hK => ?_)
  go_wp2_with fail
  refine hK _ _ (below_plus hb34) ?_
  clear hK K
  refine mix_atC (fun V => Blk V W3.heap.size 96 #[.pointer (some ⟨W2.heap.size, 0, none⟩), .int .i64 wd, .int .i64 qu, .int .u32 (n32 st), .slice A seed.length c] ∧ Blk V W2.heap.size 126 (tabL.map v32).toArray ∧ Below w.heap.size w V) ⟨hX, hT4, hbw.trans (hb34.mono hbw.size)⟩ ?_
  clear hX hn hb34 hT4 hbw hb3
  rintro V ⟨hX, hT, hb⟩
  have HZ := Lib.hid (And.intro hX (And.intro hT hb))
  clear hX hT hb
  refine mix_plain rfl ?_
  go_big_quiet_step (fail)
  refine wpQuiet_nil ?_
  refine mix_done ?_
  go_wp2_with fail
  go_ret
  exact ⟨_, rfl, ⟨_, _, _, rfl, HZ.out.1.lt, HZ.out.1, ⟨_, rfl, HZ.out.2.1.lt, HZ.out.2.1⟩, HS.out.next HZ.out.2.2⟩, HZ.out.2.2⟩
set_option maxRecDepth 100000 in
theorem hasher19_any (v : Value) (wd qu : Int) (st : UInt32) (seed : List UInt8) (w : World) (hv : Wld w w.heap.size v wd qu st seed) :
    Calls Tryd.prog 66 #[v] w fun e w' => ∃ h, e = .returned h ∧ Hsr w' w'.heap.size h (cutW wd) ∧ Below w.heap.size w w' := by
  obtain ⟨g, t, sv, rfl, hg, hB, hT, hs⟩ := hv
  have HH := Lib.hid (And.intro hB hT)
  clear hB hT hs
  go_enter Tryd.func66, Tryd.ntmps66
  go_upto_region 1 with fail
  refine wp_region_mixP (.plain 0 <| .plain 1 <| .plain 2 <| .plain 3 <| .plain 4 <| .plain 5 <| .plain 6 <| .plain 7 <| .plain 8 <| .only 9 <| .plain 10 <| .done) (by kernel_rfl) (by kernel_rfl) (fun W1 hb1 => ?_)
  have hB := HH.out.1.below hb1 HH.out.1.lt
  obtain ⟨g2, rfl, hg2, hT⟩ := HH.out.2
  have hT1 : Tbl W1 W1.heap.size (.pointer (some ⟨g2, 0, none⟩)) := ⟨g2, rfl, Nat.lt_of_lt_of_le hg2 hb1.size, hT.below hb1 hg2⟩
  have d0 : ∀ z, (plus W1 z).cell? ⟨g, 0, none⟩ = some (.pointer (some ⟨g2, 0, none⟩)) := fun z => (hB.plus z).cell 0
  have d1 : ∀ z, (plus W1 z).cell? ⟨g, 1, none⟩ = some (.int .i64 wd) := fun z => (hB.plus z).cell 1
  clear hT HH hB
  iterate 9 (refine mix_plain rfl ?_; (first
    | (refine wpQuiet_nilCheck rfl (.tmp 3) rfl _ rfl ?_; simp only [Act.put, List.setIfInBounds_toArray, List.set_cons_zero, List.set_cons_succ])
    | (refine wpQuiet_nilCheck rfl (.tmp 7) rfl _ rfl ?_; simp only [Act.put, List.setIfInBounds_toArray, List.set_cons_zero, List.set_cons_succ])
    | go_big_quiet_step (fail)); refine wpQuiet_nil ?_)
  clear d0 d1
  refine mix_only rfl (fun K hK => ?_)
  go_wp2_with fail
  refine (new8_any _ wd W1 hT1).mono ?_
  rintro e W2 ⟨h, rfl, hH, hb2⟩
  go_wp2_with fail
  refine hK _ _ hb2 ?_
  clear hK K
  refine mix_plain rfl ?_
  go_big_quiet_step (fail)
  refine wpQuiet_nil ?_
  refine mix_done ?_
  go_wp2_with fail
  go_ret
  exact ⟨_, rfl, hH, hb1.trans (hb2.mono hb1.size)⟩
/-- the key of all tokens -/
def rootTxt : List UInt8 := [114, 111, 111, 116]
def rootK (seed : List UInt8) : List UInt8 := mac seed rootTxt
theorem rootK_length (seed : List UInt8) : (rootK seed).length = 32 := mac_length _ _
set_option maxRecDepth 100000 in
theorem root19_any (wd qu : Int) (st : UInt32) (sv : Value) (seed : List UInt8) (w : World) (hsv : BSl w w.heap.size sv seed) (hl : seed.length ≤ 1000000) (hG : Glob w) :
    Calls Tryd.prog 17 #[.agg (cfgC wd qu st sv)] w fun e w' => e = .returned (.agg (dat (rootK seed))) ∧ Below w.heap.size w w' := by
  have HS := Lib.hid (And.intro hsv hG)
  obtain ⟨A, c, rfl⟩ : ∃ A c, sv = .slice A seed.length c := by obtain ⟨A, c, e, _⟩ := hsv; exact ⟨A, c, e⟩
  clear hsv hG
  go_enter Tryd.func17, Tryd.ntmps17
  go_upto_region 1 with fail
  refine wp_at (fun W => Blk W w.heap.size 25 (cfgC wd qu st (.slice A seed.length c)) ∧ Blk W (w.heap.size + 1) 38 (arr 32 fun _ => 0) ∧ Below w.heap.size w W) ⟨(Blk.new w _ _).alloc _, Blk.new2 _ _ _ _, below_new2 _ _ _⟩ ?_
  rintro W1 ⟨hC1, hD1, hb1⟩
  have c3 : W1.cell? ⟨w.heap.size, 3, none⟩ = some (.slice A seed.length c) := hC1.cell 3
  have hlt := hD1.lt
  clear hC1
  have HD := Lib.hid (And.intro hD1 hb1)
  clear hD1 hb1
  go_wp2_with (first
    | (refine wpList_convLit rfl (.tmp 5) rfl W1 4 rootTxt rfl (by decide) rfl rfl ?_; intro W2 hL2 hb2; have hb12 := HD.out.2.trans (hb2.mono HD.out.2.size); have mm := mac_any (.slice A seed.length c) (.slice (some ⟨W1.heap.size, 0, none⟩) 4 4) seed rootTxt W2 (HS.out.1.next hb12) hL2 (by omega) (by decide) (HS.out.2.next hb12))
    | (go_at_call 52; refine mm.mono ?_; clear mm; rintro e W3 ⟨rfl, hb3⟩; have hD3 := (HD.out.1.below hb2 hlt).below hb3 (Nat.lt_of_lt_of_le hlt hb2.size))
    | (refine wpList_storeDat rfl rfl 38 (.tmp 2) (.tmp 7) rfl (w.heap.size + 1) rfl _ _ rfl _ hD3 (by kernel_rfl) ?_; intro W4 hA hg4))
  exact bodyPost_ret (results_cell_row (p := 2) (ty := 38) rfl _ _ (w.heap.size + 1) _ _ _ _ rfl hA Tryd.underlying38 rfl (by kernel_rfl)) rfl ⟨rfl, below_only (hb12.trans (hb3.mono hb12.size)) hg4 (by omega) (hb12.trans (hb3.mono hb12.size)).size⟩
set_option maxHeartbeats 1000000 in
set_option maxRecDepth 100000 in
theorem rroot19_any (v : Value) (wd qu : Int) (st : UInt32) (seed : List UInt8) (w : World) (hv : Wld w w.heap.size v wd qu st seed) (hl : seed.length ≤ 1000000) :
    Calls Tryd.prog 18 #[v] w fun e w' => e = .returned (.agg (dat (rootK seed))) ∧ Below w.heap.size w w' := by
  obtain ⟨g, t, sv, rfl, hg, hB, hT, hs⟩ := hv
  have HS := Lib.hid (And.intro hs (And.intro hB hT))
  clear hs hB hT
  go_enter Tryd.func18, Tryd.ntmps18
  go_upto_region 1 with fail
  refine wp_at (fun W => Blk W w.heap.size 38 (arr 32 fun _ => 0) ∧ Below w.heap.size w W) ⟨Blk.new w _ _, below_new1 _ _⟩ ?_
  rintro W1 ⟨hD1, hb1⟩
  have HD := Lib.hid (And.intro hD1 hb1)
  have hlt := hD1.lt
  clear hD1 hb1
  refine wp_region_mixT 12 (.plain 0 <| .plain 1 <| .plain 2 <| .plain 3 <| .plain 4 <| .plain 5 <| .plain 6 <| .plain 7 <| .plain 8 <| .only 9 <| .only 10 <| .only 11 <| .done) (by kernel_rfl) (by kernel_rfl) (fun W2 hb2 => ?_)
  have hD2 := HD.out.1.below hb2 hlt
  have hb2w := HD.out.2.trans (hb2.mono HD.out.2.size)
  have hlt2 := hD2.lt
  have hB2 := HS.out.2.1.below hb2w HS.out.2.1.lt
  obtain ⟨g2, rfl, hg2, hT⟩ := HS.out.2.2
  have hT2 : Tbl W2 W2.heap.size (.pointer (some ⟨g2, 0, none⟩)) := ⟨g2, rfl, Nat.lt_of_lt_of_le hg2 hb2w.size, hT.below hb2w hg2⟩
  have hs2 := HS.out.1.next hb2w
  have d0 : ∀ z, (plus W2 z).cell? ⟨g, 0, none⟩ = some (.pointer (some ⟨g2, 0, none⟩)) := fun z => (hB2.plus z).cell 0
  have d4 : ∀ z, (plus W2 z).cell? ⟨g, 4, none⟩ = some sv := fun z => (hB2.plus z).cell 4
  have H2 := Lib.hid (And.intro hD2 (And.intro hb2w (And.intro hT2 hs2)))
  clear hT HS HD hb2 hD2 hb2w hB2 hT2 hs2
  iterate 9 (refine mix_plain rfl ?_; (first
    | (refine wpQuiet_nilCheck rfl (.tmp 3) rfl _ rfl ?_; simp only [Act.put, List.setIfInBounds_toArray, List.set_cons_zero, List.set_cons_succ])
    | (refine wpQuiet_nilCheck rfl (.tmp 7) rfl _ rfl ?_; simp only [Act.put, List.setIfInBounds_toArray, List.set_cons_zero, List.set_cons_succ])
    | go_big_quiet_step (fail)); refine wpQuiet_nil ?_)
  clear d0 d4
  have hL0 : Lit (W2.alloc (.cells (rootTxt.map v8).toArray 5)) W2.heap.size rootTxt := Lit.new W2 rootTxt 5
  have hn1 := below_new1 W2 (Obj.cells (rootTxt.map v8).toArray 5)
  refine mix_only_in rfl (fun K hK => ?_)
  go_wp2_with fail
  refine hK _ _ (below_plus hn1) ?_
  clear hK K
  refine mix_atC (fun V => Lit V W2.heap.size rootTxt ∧ Below W2.heap.size W2 V) ⟨hL0, hn1⟩ ?_
  clear hL0 hn1
  rintro V ⟨hL0, hn1⟩
  refine mix_only_in rfl (fun K hK => ?_)
  refine wpList_convSelf rfl _ 5 (.tmp 12) rfl Tryd.underlying23 Tryd.underlying5 W2.heap.size 4 4 rfl rootTxt hL0 ?_
  intro kk
  have hL2 := (hL0.freeze ⟨W2.heap.size, kk, none⟩ 1).bsl 4 rfl (by decide)
  have hb4 := below_freeze hn1 ⟨W2.heap.size, kk, none⟩ (Nat.le_refl _) 1
  simp only [Act.put, List.setIfInBounds_toArray, List.set_cons_zero, List.set_cons_succ]
  refine hK _ _ (below_plus hb4) ?_
  clear hK K
  refine mix_atC (fun V => BSl V V.heap.size (.slice (some ⟨W2.heap.size, 0, none⟩) 4 4) rootTxt ∧ Below W2.heap.size W2 V) ⟨hL2, hb4⟩ ?_
  clear hL0 hn1 hL2 hb4
  rintro V2 ⟨hL2, hb4⟩
  have HL := Lib.hid (And.intro hL2 hb4)
  clear hL2 hb4
  refine mix_only_in rfl (fun K hK => ?_)
  go_wp2_with fail
  refine (rmac_any _ sv _ seed rootTxt V2 (by obtain ⟨g3, e3, hg3, hT3⟩ := H2.out.2.2.1; exact ⟨g3, e3, Nat.lt_of_lt_of_le hg3 HL.out.2.size, hT3.below HL.out.2 hg3⟩) (H2.out.2.2.2.next HL.out.2) HL.out.1 (by omega) (by decide)).mono ?_
  rintro e W5 ⟨rfl, hb5⟩
  have hb25 := HL.out.2.trans (hb5.mono HL.out.2.size)
  go_wp2_with fail
  refine hK _ _ (below_plus hb25) ?_
  clear hK K
  refine mix_done ?_
  simp only [List.drop_succ_cons, List.drop_zero]
  refine wpList_storeDat rfl rfl 38 (.tmp 2) (.tmp 14) rfl w.heap.size rfl _ _ rfl _ (H2.out.1.below hb25 hlt2) (by kernel_rfl) ?_
  intro W6 hA hg6
  have hbw := H2.out.2.1.trans (hb25.mono H2.out.2.1.size)
  go_wp2_with fail
  exact bodyPost_ret (results_cell_row (p := 2) (ty := 38) rfl _ _ w.heap.size _ _ _ _ rfl hA Tryd.underlying38 rfl (by kernel_rfl)) rfl ⟨rfl, below_only hbw hg6 (Nat.le_refl _) hbw.size⟩
/-- may a Config be? -/
def rightC (wd qu : Int) (st : UInt32) (n : Nat) : Bool := decide (1 ≤ wd) && decide (wd ≤ 32) && decide (1 ≤ qu) && decide (qu ≤ 2) && decide (st.toNat ≤ 32768) && decide (n ≤ 64)
set_option maxRecDepth 100000 in
theorem right_any (wd qu : Int) (st : UInt32) (A : Option Addr) (n c : Nat) (w : World) :
    Calls Tryd.prog 12 #[.agg (cfgC wd qu st (.slice A n c))] w fun e w' => e = .returned (.bool (rightC wd qu st n)) ∧ Below w.heap.size w w' := by
  have est : (n32 st ≤ 32768) = (st.toNat ≤ 32768) := by unfold n32; exact propext ⟨fun h => by omega, fun h => by omega⟩
  obtain ⟨r, hr⟩ : ∃ r, rightC wd qu st n = r := ⟨_, rfl⟩
  rw [hr]
  have Hr := Lib.hid hr
  have Hst := Lib.hid est
  clear hr est
  go_enter Tryd.func12, Tryd.ntmps12
  go_upto_region 1 with fail
  refine wp_at (fun W => Blk W w.heap.size 25 (cfgC wd qu st (.slice A n c)) ∧ Below w.heap.size w W) ⟨Blk.new w _ _, below_new1 _ _⟩ ?_
  rintro W1 ⟨hC1, hb1⟩
  have c0 : W1.cell? ⟨w.heap.size, 0, none⟩ = some (.int .i64 wd) := hC1.cell 0
  have c1 : W1.cell? ⟨w.heap.size, 1, none⟩ = some (.int .i64 qu) := hC1.cell 1
  have c2 : W1.cell? ⟨w.heap.size, 2, none⟩ = some (.int .u32 (n32 st)) := hC1.cell 2
  have c3 : W1.cell? ⟨w.heap.size, 3, none⟩ = some (.slice A n c) := hC1.cell 3
  have Hb := Lib.hid hb1
  clear hC1 hb1
  by_cases k1 : 1 ≤ wd
  case neg => have Hx := Lib.hid (show rightC wd qu st n = false by unfold rightC; simp [k1]); go_wp2_with fail; go_ret; rw [← Hr.out, Hx.out]; exact ⟨rfl, Hb.out⟩
  by_cases k2 : wd ≤ 32
  case neg => have Hx := Lib.hid (show rightC wd qu st n = false by unfold rightC; simp [k2]); go_wp2_with fail; go_ret; rw [← Hr.out, Hx.out]; exact ⟨rfl, Hb.out⟩
  by_cases k3 : 1 ≤ qu
  case neg => have Hx := Lib.hid (show rightC wd qu st n = false by unfold rightC; simp [k3]); go_wp2_with fail; go_ret; rw [← Hr.out, Hx.out]; exact ⟨rfl, Hb.out⟩
  by_cases k4 : qu ≤ 2
  case neg => have Hx := Lib.hid (show rightC wd qu st n = false by unfold rightC; simp [k4]); go_wp2_with fail; go_ret; rw [← Hr.out, Hx.out]; exact ⟨rfl, Hb.out⟩
  by_cases k5 : n32 st ≤ 32768
  case neg => have Hx := Lib.hid (show rightC wd qu st n = false by unfold rightC; have k5x : ¬ st.toNat ≤ 32768 := (fun h => k5 (Hst.out ▸ h)); simp [k5x]); go_wp2_with fail; go_ret; rw [← Hr.out, Hx.out]; exact ⟨rfl, Hb.out⟩
  have k5' : st.toNat ≤ 32768 := Hst.out ▸ k5
  by_cases k6 : n ≤ 64
  · have k6' : (n : Int) ≤ 64 := by omega
    have Hx := Lib.hid (show rightC wd qu st n = true by unfold rightC; simp [k1, k2, k3, k4, k5', k6])
    go_wp2_with fail
    go_ret
    rw [← Hr.out, Hx.out]
    exact ⟨rfl, Hb.out⟩
  · have k6' : ¬ (n : Int) ≤ 64 := by omega
    have Hx := Lib.hid (show rightC wd qu st n = false by unfold rightC; simp [k6])
    go_wp2_with fail
    go_ret
    rw [← Hr.out, Hx.out]
    exact ⟨rfl, Hb.out⟩
end Go.Proofs.YtcdkadidkkbhpaaDoor

/- The walks of deponentlaw19's config and known. -/
namespace Go.Proofs.YtcdkadidkkbhpaaDoor
open Go Go.RowKit
attribute [local irreducible] mixW
attribute [local go_sem] n8_lo n8_hi n64_lo n64_hi n32_lo n32_hi
def seed19 : List UInt8 := [115, 101, 101, 100]
theorem built_cfg (wd qu : Int) (st : UInt32) (A : Option Addr) (n c : Nat) : Tryd.prog.built 25 [(0, .int .i64 wd), (1, .int .i64 qu), (2, .int .u32 (n32 st)), (3, .slice A n c)] = some (cfgC wd qu st (.slice A n c)) := by kernel_rfl
def cfg19 (v : Value) : Array Value := #[.int .i64 32, .int .i64 1, .int .u32 100, v]
theorem cfg19_eq (v : Value) : cfg19 v = cfgC 32 1 100 v := by
  have e : n32 100 = 100 := by decide
  unfold cfg19 cfgC
  rw [e]
theorem cfg19_size (v : Value) : (cfg19 v).size = 4 := rfl
theorem cfg19_one (A : Option Addr) (n c : Nat) : ∀ v ∈ (cfg19 (.slice A n c)).toList, v.oneCell' = true := by
  intro v hv
  simp only [cfg19, List.mem_cons, List.not_mem_nil, or_false] at hv
  rcases hv with rfl | rfl | rfl | rfl <;> rfl
theorem built_cfg19 (A : Option Addr) : Tryd.prog.built 25 [(0, .int .i64 32), (1, .int .i64 1), (2, .int .u32 100), (3, .slice A 4 4)] = some (cfg19 (.slice A 4 4)) := by kernel_rfl
theorem wpList_build4 {P : Program} {w : World} {ops : Array Oper} {rest : List Oper} {o : Oper} {a : Act} {Q : Exit → Act → World → Prop} (t : TypeId) (i j k l : Nat) (x y z u : Operand) (ho : o.op = .build t #[(i, x), (j, y), (k, z), (l, u)]) (vx vy vz vu : Value) (hx : a.eval x = vx) (hy : a.eval y = vy) (hz : a.eval z = vz) (hu : a.eval u = vu) (cells : Array Value) (hb : P.built t [(i, vx), (j, vy), (k, vz), (l, vu)] = some cells)
    (hw : Region.wanted o (yielded ops a.tmps) = true) (hk : wpList P ops Q rest (a.put o.dst (.agg cells)) w) : wpList P ops Q (o :: rest) a w :=
  wpList_unguard hw (wpList_plain rfl fun K hK => by
    have hb' : P.built t ((#[(i, x), (j, y), (k, z), (l, u)] : Array (Nat × Operand)).map fun (i, x) => (i, a.eval x)).toList = some cells := by simpa [hx, hy, hz, hu] using hb
    unfold Oper.wp execOp
    simp only [ho, Sem.run_bind, run_build w t _ cells hb', Result.andThen_ok, Sem.run_pure]
    exact hK _ _ hk)
theorem zero_cfg (w : World) : (zeroValue 25).run Tryd.prog w = .ok (.agg #[.int .i64 0, .int .i64 0, .int .u32 0, .slice none 0 0]) w := by kernel_rfl
theorem cfgC_size (wd qu : Int) (st : UInt32) (v : Value) : (cfgC wd qu st v).size = 4 := rfl
theorem cfgC_one (wd qu : Int) (st : UInt32) (A : Option Addr) (n c : Nat) : ∀ v ∈ (cfgC wd qu st (.slice A n c)).toList, v.oneCell' = true := by
  intro v hv
  simp only [cfgC, List.mem_cons, List.not_mem_nil, or_false] at hv
  rcases hv with rfl | rfl | rfl | rfl <;> rfl
set_option maxHeartbeats 1000000 in
set_option maxRecDepth 100000 in
theorem config_any (w : World) :
    Calls Tryd.prog 6 #[] w fun e w' => ∃ A, e = .returned (.agg (cfgC 32 1 100 (.slice A seed19.length 4))) ∧ BSl w' w'.heap.size (.slice A seed19.length 4) seed19 ∧ Below w.heap.size w w' := by
  have hz := zero_cfg
  have hD := Blk.new w 25 #[.int .i64 0, .int .i64 0, .int .u32 0, .slice none 0 0]
  have hn := below_new1 w (Obj.cells #[.int .i64 0, .int .i64 0, .int .u32 0, .slice none 0 0] 25)
  go_enter Tryd.func6, Tryd.ntmps6
  go_upto_region 1 with fail
  refine wp_at (fun W => Blk W w.heap.size 25 #[.int .i64 0, .int .i64 0, .int .u32 0, .slice none 0 0] ∧ Below w.heap.size w W) ⟨hD, hn⟩ ?_
  clear hD hn
  rintro W1 ⟨hD, hn⟩
  have hlt := hD.lt
  go_wp2_with (first
    | (refine wpList_convLit rfl (.tmp 1) rfl W1 4 seed19 rfl (by decide) rfl rfl ?_; intro W2 hL2 hb2; have hD2 := hD.below hb2 hlt; have hbw := hn.trans (hb2.mono hn.size); clear hb2; refine Hid.out ?_))
  refine Lib.hid ?_
  go_wp2_with (first
    | (refine wpList_build4 25 0 1 2 3 (.const (.int .i64 32)) (.const (.int .i64 1)) (.const (.int .u32 100)) (.tmp 2) rfl _ _ _ _ rfl rfl rfl rfl (cfg19 (.slice (some ⟨W1.heap.size, 0, none⟩) 4 4)) (built_cfg19 _) rfl ?_)
    | (refine wpList_storeB rfl rfl 25 (.tmp 0) (.tmp 3) rfl w.heap.size 0 rfl (cfg19 (.slice (some ⟨W1.heap.size, 0, none⟩) 4 4)) rfl _ _ hD2 (by kernel_rfl) (Nat.le_refl 4) (cfg19_one _ _ _) ?_; intro W3 hA hg3))
  have hb3 := below_only hbw hg3 (Nat.le_refl _) hbw.size
  have hne : W1.heap.size ≠ w.heap.size := by omega
  rw [copied_all _ _ (by rw [cfg19_size]; rfl), cfg19_eq] at hA
  refine bodyPost_ret (results_cell_row (p := 0) (ty := 25) rfl _ _ w.heap.size _ _ _ _ rfl hA Tryd.underlying25 rfl (by kernel_rfl)) rfl ⟨_, rfl, ?_, hb3⟩
  obtain ⟨A, cap, e, h1, h2, hr⟩ := hL2
  injection e with e1 _ e3
  subst e1; subst e3
  exact ⟨_, _, rfl, h1, h2, (hr.grown' hg3 (Nat.le_refl _) (fun b off e => by injection e with e; injection e with e; omega)).more hg3.size⟩
theorem newS_len (wd : Int) (seed : List UInt8) : (newS wd seed).tenants.length = 16 ∧ (newS wd seed).trees.length = 16 ∧ (newS wd seed).grants.length = 1 := ⟨rfl, rfl, rfl⟩
theorem i64_0 : i64ok 0 := ⟨by decide, by decide⟩
theorem i64_1 : i64ok 1 := ⟨by decide, by decide⟩
theorem i64_4 : i64ok 4 := ⟨by decide, by decide⟩
theorem tre_lit_ok (a b c d : Int) (ds : List UInt32) (h : HeadL) (tag : List UInt8) (ha : i64ok a) (hb : i64ok b) (hc : i64ok c) (hd : i64ok d) (hl : ds.length ≤ 1000000) (hh : h.ok) (ht : tag.length = 32) : (⟨a, b, c, d, ds, [], [], h, tag⟩ : TreL).ok :=
  ⟨ha, hb, hc, hd, hh, ht, hl, Nat.zero_le _, Nat.zero_le _, fun _ h => (by cases h), fun _ h => (by cases h)⟩
theorem zeroTre_ok : zeroTre.ok := tre_lit_ok 0 0 0 0 [] _ _ i64_0 i64_0 i64_0 i64_0 (Nat.zero_le _) ⟨by decide, i64_0, i64_0⟩ (by decide)
theorem tre1_ok (wd : Int) (seed : List UInt8) : (tre1 wd seed).ok :=
  tre_lit_ok 1 0 1 0 [0] (pubH wd 0 0 tre0) (pubT wd seed 0 0 tre0) i64_1 i64_0 i64_1 i64_0 (by decide) ⟨show (pubH wd 0 0 tre0).root.length = 32 from rootM_length (cutW wd) tre0.leaves, i64_0, i64_0⟩ (tagL_length _ _)
theorem newS_ok (wd : Int) (seed : List UInt8) : (newS wd seed).ok := by
  refine ⟨i64_0, ?_, ?_, ?_, fun t ht => ?_, fun g hg => ?_⟩
  · rw [(newS_len wd seed).1]; decide
  · rw [(newS_len wd seed).2.1]; decide
  · rw [(newS_len wd seed).2.2]; decide
  · rcases List.mem_or_eq_of_mem_set (show t ∈ (List.replicate 16 zeroTre).set 0 (tre1 wd seed) from ht) with h | h
    · rw [List.eq_of_mem_replicate h]; exact zeroTre_ok
    · rw [h]; exact tre1_ok wd seed
  · rcases List.mem_singleton.1 (show g ∈ [gra0] from hg) with rfl
    exact ⟨i64_0, i64_4⟩
theorem newS_at0 (wd : Int) (seed : List UInt8) : (newS wd seed).trees.getD 0 zeroTre = tre1 wd seed := rfl
theorem kn19 : n8 ((rootM 32 []).getD 0 0) = 227 := by decide +kernel
/-- the cells of a new state's first tree -/
theorem treC_9 (t : TreL) (d l q : Value) : (treC t d l q).toList[9]? = some (.int .u64 (n64 t.head.size)) := by
  rw [Array.getElem?_toList, show 9 = 7 + 2 by rfl, treC_sig]
  unfold sigC
  rw [Array.getElem?_append_left (by rw [headC_size]; decide)]
  exact headC_2 _
theorem treC_11 (t : TreL) (d l q : Value) (h : t.head.root.length = 32) : (treC t d l q).toList[11]? = some (v8 (t.head.root.getD 0 0)) := by
  rw [Array.getElem?_toList, show 11 = 7 + 4 by rfl, treC_sig]
  unfold sigC
  rw [Array.getElem?_append_left (by rw [headC_size]; decide), show 4 = 4 + 0 by rfl, headC_root, dat_eq _ h]
  rw [List.getElem?_toArray, List.getElem?_map, List.getElem?_eq_getElem (show 0 < t.head.root.length by omega), List.getD_eq_getElem?_getD, List.getElem?_eq_getElem (show 0 < t.head.root.length by omega)]; rfl
end Go.Proofs.YtcdkadidkkbhpaaDoor

/- The walk of deponentlaw19's known. -/
namespace Go.Proofs.YtcdkadidkkbhpaaDoor
open Go Go.RowKit
attribute [local irreducible] mixW
attribute [local go_sem] n8_lo n8_hi n64_lo n64_hi n32_lo n32_hi
set_option maxHeartbeats 3000000 in
set_option maxRecDepth 100000 in
theorem known19_any (w : World) (hG : Glob w) :
    Calls Tryd.prog 11 #[] w fun e w' => e = .returned (.bool true) ∧ Below w.heap.size w w' := by
  have hz := zero_state
  have HGl := Lib.hid hG
  clear hG
  have mc := config_any w
  go_enter Tryd.func11, Tryd.ntmps11
  go_wp2_with (first
    | (go_at_call 6; refine mc.mono ?_; clear mc; rintro e w1 ⟨A, rfl, hs1, hb1⟩; refine Hid.out ?_))
  refine Lib.hid ?_
  have mn := new_ok 32 1 100 (.slice A seed19.length 4) seed19 w1 hs1 (HGl.out.next hb1) (by decide) (by decide) (by decide) (by decide) (by decide) (by decide)
  go_wp2_with (first
    | (go_at_call 5; refine mn.mono ?_; clear mn; rintro e w2 ⟨v, rfl, hS, hb2⟩; refine Hid.out ?_))
  have hbw := hb1.trans (hb2.mono hb1.size)
  have hSta := hS.sta
  obtain ⟨t, r, g, cs, rfl, oT, oR, hcl, hTr, oG⟩ := hS
  obtain ⟨gT, cT, -, eT, -⟩ := own_shape oT (by decide)
  obtain ⟨gR, cR, curR, eR, -, hcR, -⟩ := own_shape oR (by rw [hcl]; decide)
  obtain ⟨gG, cG, -, eG, -⟩ := own_shape oG (by decide)
  subst eT; subst eG
  rw [hcl] at eR
  subst eR
  have hsz : ∀ c ∈ cs, c.size = 75 := fun c hc => by
    obtain ⟨k, hk, rfl⟩ := List.mem_iff_getElem.1 hc
    obtain ⟨d, l, q, e2, _⟩ := hTr k (by omega)
    rw [List.getD_eq_getElem?_getD, List.getElem?_eq_getElem hk, Option.getD_some] at e2
    rw [e2, treC_size]
  have hra := own_rowAt (k := 0) oR hsz (by rw [hcl]; decide)
  obtain ⟨d, l, q, ec, -⟩ := hTr 0 (by decide)
  rw [newS_at0] at ec
  rw [ec, Nat.zero_mul] at hra
  have h9 : w2.cell? ⟨gR, 9, none⟩ = some (.int .u64 0) := by
    have := hra 9 _ (treC_9 _ d l q)
    rwa [Nat.zero_add, show n64 (tre1 32 seed19).head.size = 0 from by decide] at this
  have h11 : w2.cell? ⟨gR, 11, none⟩ = some (.int .u8 227) := by
    have := hra 11 _ (treC_11 _ d l q (tre1_ok 32 seed19).2.2.2.2.1.1)
    rwa [Nat.zero_add, show v8 ((tre1 32 seed19).head.root.getD 0 0) = .int .u8 227 from congrArg (Value.int .u8) kn19] at this
  have hgR := hcR.lt
  have hok := newS_ok 32 seed19
  rw [show (List.map tenC (newS 32 seed19).tenants).length = 16 from rfl, show (newS 32 seed19).trees.length = 16 from rfl, show (List.map graC (newS 32 seed19).grants).length = 1 from rfl] at hSta ⊢
  have HS := Lib.hid (And.intro hSta (And.intro hok hbw))
  have HC := Lib.hid (And.intro h9 (And.intro h11 hgR))
  clear hra ec hTr oT oG oR hsz hcl hcR hs1 hb1 hb2 hSta hok h9 h11 hgR hbw
  generalize newS 32 seed19 = S at HS ⊢
  obtain ⟨sC, hsC⟩ : ∃ sC, sC = staC S (.slice (some ⟨gT, 0, none⟩) 16 cT) (.slice (some ⟨gR, 0, none⟩) 16 cR) (.slice (some ⟨gG, 0, none⟩) 1 cG) := ⟨_, rfl⟩
  have q3 : sC.toList[3]? = some (.slice (some ⟨gT, 0, none⟩) 16 cT) := by rw [hsC]; rfl
  have q4 : sC.toList[4]? = some (.slice (some ⟨gR, 0, none⟩) 16 cR) := by rw [hsC]; rfl
  have q5 : sC.toList[5]? = some (.slice (some ⟨gG, 0, none⟩) 1 cG) := by rw [hsC]; rfl
  have hone : ∀ v ∈ sC.toList, v.oneCell' = true := by rw [hsC]; exact staC_one _ _ _ _ rfl rfl rfl
  have hsize : sC.size = 6 := by rw [hsC]; rfl
  rw [← hsC] at HS ⊢
  have HQ := Lib.hid (And.intro q3 (And.intro q4 (And.intro q5 (And.intro hone hsize))))
  clear hsC q3 q4 q5 hone hsize
  refine Lib.hid ?_
  have hD := Blk.new w2 32 (staC nilS (.slice none 0 0) (.slice none 0 0) (.slice none 0 0))
  have hn := below_new1 w2 (Obj.cells (staC nilS (.slice none 0 0) (.slice none 0 0) (.slice none 0 0)) 32)
  go_upto_region 2 with (first
    | (refine wpList_storeB rfl rfl 32 (.tmp 1) (.tmp 6) rfl w2.heap.size 0 rfl sC rfl _ _ hD (by rw [HQ.out.2.2.2.2]; kernel_rfl) (by rw [HQ.out.2.2.2.2, staC_size]; omega) HQ.out.2.2.2.1 ?_; intro w3 hB3 hg3))
  rw [copied_all _ _ (by rw [HQ.out.2.2.2.2, staC_size])] at hB3
  have hb3 := below_only hn hg3 (Nat.le_refl _) hn.size
  have H3 := Lib.hid (And.intro hB3 hb3)
  clear hD hn hB3 hg3 hb3 hz
  obtain ⟨gS, hgS⟩ : ∃ g, w2.heap.size = g := ⟨_, rfl⟩
  refine wp_region_mixP (.plain 0 <| .plain 1 <| .plain 2 <| .plain 3 <| .plain 4 <| .plain 5 <| .plain 6 <| .plain 7 <| .plain 8 <| .plain 9 <| .plain 10 <| .plain 11 <| .plain 12 <| .plain 13 <| .plain 14 <| .plain 15 <| .plain 16 <| .plain 17 <| .plain 18 <| .plain 19 <| .plain 20 <| .plain 21 <| .plain 22 <| .plain 23 <| .plain 24 <| .plain 25 <| .plain 26 <| .plain 27 <| .plain 28 <| .plain 29 <| .plain 30 <| .plain 31 <| .plain 32 <| .plain 33 <| .plain 34 <| .plain 35 <| .plain 36 <| .plain 37 <| .plain 38 <| .plain 39 <| .plain 40 <| .plain 41 <| .plain 42 <| .plain 43 <| .only 44 <| .only 45 <| .plain 46 <| .plain 47 <| .done) (by kernel_rfl) (by kernel_rfl) (fun W4 hb4 => ?_)
  have hb24 := H3.out.2.trans (hb4.mono H3.out.2.size)
  have hB4 := H3.out.1.below hb4 H3.out.1.lt
  rw [hgS] at hB4 ⊢
  have HB4 := Lib.hid (And.intro hB4 hb24)
  have d3 : ∀ e, (plus W4 e).cell? ⟨gS, 3, none⟩ = some (.slice (some ⟨gT, 0, none⟩) 16 cT) := fun e => by rw [(hB4.plus e).cell, ← Array.getElem?_toList]; exact HQ.out.1
  have d4 : ∀ e, (plus W4 e).cell? ⟨gS, 4, none⟩ = some (.slice (some ⟨gR, 0, none⟩) 16 cR) := fun e => by rw [(hB4.plus e).cell, ← Array.getElem?_toList]; exact HQ.out.2.1
  have d5 : ∀ e, (plus W4 e).cell? ⟨gS, 5, none⟩ = some (.slice (some ⟨gG, 0, none⟩) 1 cG) := fun e => by rw [(hB4.plus e).cell, ← Array.getElem?_toList]; exact HQ.out.2.2.1
  have d9 : ∀ e, (plus W4 e).cell? ⟨gR, 9, none⟩ = some (.int .u64 0) := fun e => by rw [← HC.out.1]; exact (hb24.trans ((plus_below W4 e).mono hb24.size)).cell (p := ⟨gR, 9, none⟩) HC.out.2.2
  have d11 : ∀ e, (plus W4 e).cell? ⟨gR, 11, none⟩ = some (.int .u8 227) := fun e => by rw [← HC.out.2.1]; exact (hb24.trans ((plus_below W4 e).mono hb24.size)).cell (p := ⟨gR, 11, none⟩) HC.out.2.2
  have HR := Lib.hid (show ∀ e, (plus W4 e).rangeAt gS 0 sC.toList from fun e => range_blk24 (hB4.plus e))
  clear hB4 hb24 hb4
  iterate 44 (refine mix_plain rfl ?_; (first
    | (refine wpQuiet_loadMid rfl 32 (.tmp 1) rfl gS 0 rfl sC _ (fun V hV => by obtain ⟨e, rfl⟩ := hV; exact HR.out e) Tryd.underlying32 rfl (by rw [HQ.out.2.2.2.2]; kernel_rfl) ?_; simp only [Act.put, List.setIfInBounds_toArray, List.set_cons_zero, List.set_cons_succ])
    | go_big_quiet_step (fail)); refine wpQuiet_nil ?_)
  clear d3 d4 d5 d9 d11 HR
  have hS4 := HS.out.1.next HB4.out.2
  have mcp := copy_any (.agg sC) S W4 hS4 HS.out.2.1
  clear hS4
  refine mix_only rfl (fun K hK => ?_)
  go_wp2_with fail
  refine mcp.mono ?_
  clear mcp
  rintro e W5 ⟨u, rfl, hI, hb5⟩
  have H5 := Lib.hid (And.intro hI.sta (HB4.out.2.trans (hb5.mono HB4.out.2.size)))
  have mS := same_sta (.agg sC) u S S W5 (HS.out.1.next H5.out.2) H5.out.1 HS.out.2.1 HS.out.2.1
  rw [(eqSta_iff S S).2 rfl] at mS
  go_wp2_with fail
  refine hK _ _ hb5 ?_
  clear hK K hb5 hI
  refine mix_only rfl (fun K hK => ?_)
  go_wp2_with fail
  refine mS.mono ?_
  clear mS
  rintro e W6 ⟨rfl, hb6⟩
  have H6 := Lib.hid (H5.out.2.trans (hb6.mono H5.out.2.size))
  go_wp2_with fail
  refine hK _ _ hb6 ?_
  clear hK K hb6
  iterate 2 (refine mix_plain rfl ?_; go_big_quiet_step (fail); refine wpQuiet_nil ?_)
  refine mix_done ?_
  go_wp2_with fail
  go_ret
  exact ⟨rfl, HS.out.2.2.trans (H6.out.mono HS.out.2.2.size)⟩
end Go.Proofs.YtcdkadidkkbhpaaDoor

/- The reference's small writers (deponentref19.num, truth). No condition. -/
namespace Go.Proofs.YtcdkadidkkbhpaaDoor
open Go Go.RowKit
/-- a row of bytes of the call's own -/
def RwB (w : World) (B : Nat) (v : Value) (bs : List UInt8) : Prop := w.ownsRow B 5 1 v (bs.map v8).length (bs.map v8)
theorem RwB.bsl {w : World} {B : Nat} {v : Value} {bs : List UInt8} (h : RwB w B v bs) : BSl w w.heap.size v bs := BSl.of_own h
set_option maxHeartbeats 400000 in
set_option maxRecDepth 100000 in
theorem rnum_any (u : Value) (bs : List UInt8) (n : Int) (hn : -9223372036854775808 ≤ n ∧ n ≤ 9223372036854775807) (k : Int) (hk : -9223372036854775808 ≤ k ∧ k ≤ 9223372036854775807) (w : World) (hu : BSl w w.heap.size u bs) (hl : bs.length ≤ 140737488355264) :
    Calls Tryd.prog 47 #[u, .int .i64 n, .int .i64 k] w fun e w' => ∃ v, e = .returned v ∧ RwB w' w.heap.size v (bs ++ numB (i64u n) (clamp8 k)) ∧ Below w.heap.size w w' := by
  have m := rnumber_any u bs (i64u n) k hk w hu hl
  rw [← (show IntKind.u64.wrap n = n64 (i64u n) from (wrap_u64' _).trans (i64u_val n))] at m
  go_enter Tryd.func47, Tryd.ntmps47
  go_wp2_with fail
  refine m.mono ?_
  rintro e w' ⟨v, rfl, ho, hb⟩
  clear m
  go_wp2_with fail
  go_ret
  exact ⟨v, rfl, ho, hb⟩
set_option maxHeartbeats 400000 in
set_option maxRecDepth 100000 in
theorem rtruth_any (u : Value) (bs : List UInt8) (b : Bool) (B : Nat) (w : World) (hu : RwB w B u bs) (hB : B ≤ w.heap.size) (hl : bs.length ≤ 140737488355264) :
    Calls Tryd.prog 48 #[u, .bool b] w fun e w' => ∃ v, e = .returned v ∧ RwB w' B v (bs ++ flagB b) ∧ Below B w w' := by
  have hlen : (bs.map v8).length + 1 ≤ 140737488355328 := by rw [List.length_map]; omega
  have ho : w.ownsRow B 5 1 u (bs.map v8).length (bs.map v8) := hu
  have hf : ∀ c : UInt8, bs.map v8 ++ [v8 c] = (bs ++ [c]).map v8 := fun c => by rw [List.map_append]; rfl
  have HF := Lib.hid hf
  clear hu hf
  go_enter Tryd.func48, Tryd.ntmps48
  cases b
  · go_wp2_with (first
      | (at_builtin; refine wpList_append1 rfl (.tmp 9) (.tmp 10) rfl B _ _ rfl ho (v8 0) rfl rfl hlen hB w (Below.refl _ _) ?_; intro u9 w9 hown9 hb9))
    go_ret
    rw [HF.out] at hown9
    exact ⟨u9, rfl, hown9, hb9⟩
  · go_wp2_with (first
      | (at_builtin; refine wpList_append1 rfl (.tmp 6) (.tmp 7) rfl B _ _ rfl ho (v8 1) rfl rfl hlen hB w (Below.refl _ _) ?_; intro u9 w9 hown9 hb9))
    go_ret
    rw [HF.out] at hown9
    exact ⟨u9, rfl, hown9, hb9⟩
end Go.Proofs.YtcdkadidkkbhpaaDoor

/- A reader in plain Lean: what is read, and what is refused where. No condition. -/
namespace Go.Proofs.YtcdkadidkkbhpaaDoor
open Go.RowKit
/-- the number that some bytes are -/
def numF (bs : List UInt8) : Nat := bs.foldl (fun n c => n * 256 + c.toNat) 0
theorem numF_snoc (bs : List UInt8) (c : UInt8) : numF (bs ++ [c]) = numF bs * 256 + c.toNat := by simp [numF]
theorem numF_lt (bs : List UInt8) : numF bs < 256 ^ bs.length := by
  have key : ∀ (n : Nat) (l : List UInt8), l.length = n → numF l < 256 ^ n := by
    intro n
    induction n with
    | zero => intro l hl; rw [List.eq_nil_of_length_eq_zero hl]; simp [numF]
    | succ n ih =>
      intro l hl
      obtain ⟨m, c, rfl⟩ : ∃ m c, l = m ++ [c] := ⟨l.dropLast, l.getLast (by intro h; rw [h] at hl; simp at hl), (List.dropLast_concat_getLast (by intro h; rw [h] at hl; simp at hl)).symm⟩
      have := ih m (by simpa using hl)
      have hc := c.toNat_lt
      rw [numF_snoc, Nat.pow_succ]
      omega
  exact key _ bs rfl
theorem numF_small (bs : List UInt8) (h : bs.length ≤ 8) : numF bs < 18446744073709551616 := by
  have h1 := numF_lt bs
  have h2 : 256 ^ bs.length ≤ 256 ^ 8 := Nat.pow_le_pow_right (by decide) h
  have h3 : (256 : Nat) ^ 8 = 18446744073709551616 := by decide
  omega
theorem numF_step (bs : List UInt8) (j : Nat) (h : j < bs.length) : numF (bs.take (j + 1)) = numF (bs.take j) * 256 + (bs.getD j 0).toNat := by
  rw [List.take_succ_eq_append_getElem h, numF_snoc, List.getD_eq_getElem?_getD, List.getElem?_eq_getElem h]; rfl
theorem or_step (x c : Nat) (hc : c < 256) (hx : x * 256 < 18446744073709551616) : Go.bits .or .u64 ((x : Int) * 256) (c : Int) = (x : Int) * 256 + (c : Int) := by
  have h1 : ((x : Int) * 256) = n64 (UInt64.ofNat (x * 256)) := by unfold n64; rw [UInt64.toNat_ofNat_of_lt' (by show _ < 18446744073709551616; omega)]; omega
  have h2 : (c : Int) = n64 (UInt64.ofNat c) := by unfold n64; rw [UInt64.toNat_ofNat_of_lt' (by show _ < 18446744073709551616; omega)]
  rw [h1, h2, bits_or64]
  unfold n64
  rw [UInt64.toNat_or, UInt64.toNat_ofNat_of_lt' (by show _ < 18446744073709551616; omega), UInt64.toNat_ofNat_of_lt' (by show _ < 18446744073709551616; omega)]
  have h3 := Nat.shiftLeft_add_eq_or_of_lt (b := c) (i := 8) (by omega) x
  rw [Nat.shiftLeft_eq, show (2 : Nat) ^ 8 = 256 from rfl] at h3
  omega
/-- a reader: its bytes, how far it has come, where and why it refused -/
structure RdL where
  bs : List UInt8
  pos : Nat
  no : Option (Nat × Nat)
def RdL.refuse (s : RdL) (at' why : Nat) : RdL := if s.no.isSome then s else if why = 0 then s else { s with no := some (at', why) }
def RdL.take (s : RdL) (n : Nat) : List UInt8 × RdL := if s.no.isSome then ([], s) else if s.bs.length < s.pos + n then ([], { s with no := some (s.bs.length, 10) }) else ((s.bs.drop s.pos).take n, { s with pos := s.pos + n })
def RdL.number (s : RdL) (k : Int) : Nat × RdL := (numF (s.take (clamp8 k)).1, (s.take (clamp8 k)).2)
def RdL.bytes (s : RdL) (most : Int) : List UInt8 × RdL :=
  if (s.number 2).2.no.isSome then ([], (s.number 2).2)
  else if most < ((s.number 2).1 : Int) then ([], { (s.number 2).2 with pos := s.pos, no := some (s.pos, 3) })
  else (s.number 2).2.take (s.number 2).1
/-- 32 bytes, noughts where there are none -/
def RdL.digest (s : RdL) : List UInt8 × RdL := (if (s.take 32).1 = [] then List.replicate 32 0 else (s.take 32).1, (s.take 32).2)
def RdL.stop (s : RdL) : Option (Nat × Nat) := match s.no with
  | some x => some x
  | none => if s.pos < s.bs.length then some (s.pos, 11) else none
theorem RdL.take_len (s : RdL) (n : Nat) : (s.take n).1 = [] ∨ (s.take n).1.length = n := by
  unfold RdL.take
  split
  · exact .inl rfl
  · split
    · exact .inl rfl
    · right; rw [List.length_take, List.length_drop]; omega
theorem RdL.take_le (s : RdL) (n : Nat) : (s.take n).1.length ≤ n := by
  rcases s.take_len n with h | h
  · rw [h]; exact Nat.zero_le _
  · omega
theorem RdL.take_bs (s : RdL) (n : Nat) : (s.take n).2.bs = s.bs := by
  unfold RdL.take
  split
  · rfl
  · split <;> rfl
theorem RdL.number_lt (s : RdL) (k : Int) : (s.number k).1 < 18446744073709551616 := numF_small _ (Nat.le_trans (s.take_le _) (clamp8_hi k))
theorem RdL.number2_lt (s : RdL) : (s.number 2).1 < 65536 := by
  have h1 := numF_lt (s.take (clamp8 2)).1
  have h2 : (s.take (clamp8 2)).1.length ≤ 2 := s.take_le 2
  have h3 : 256 ^ (s.take (clamp8 2)).1.length ≤ 256 ^ 2 := Nat.pow_le_pow_right (by decide) h2
  have h4 : (256 : Nat) ^ 2 = 65536 := by decide
  show numF _ < 65536
  omega
theorem RdL.number_bs (s : RdL) (k : Int) : (s.number k).2.bs = s.bs := s.take_bs _
theorem RdL.bytes_bs (s : RdL) (m : Int) : (s.bytes m).2.bs = s.bs := by
  unfold RdL.bytes
  split
  · exact s.number_bs 2
  · split
    · exact s.number_bs 2
    · rw [RdL.take_bs]; exact s.number_bs 2
theorem RdL.bytes_len (s : RdL) (m : Int) : (s.bytes m).1.length ≤ 65535 := by
  have h := s.number2_lt
  unfold RdL.bytes
  split
  · exact Nat.zero_le _
  · split
    · exact Nat.zero_le _
    · exact Nat.le_trans ((s.number 2).2.take_le _) (by omega)
theorem RdL.digest_len (s : RdL) : s.digest.1.length = 32 := by
  unfold RdL.digest
  simp only
  split
  · simp
  · rcases s.take_len 32 with h | h
    · exact absurd h ‹_›
    · exact h
end Go.Proofs.YtcdkadidkkbhpaaDoor
