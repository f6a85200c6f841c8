/- The walks of merkle's cut, sum, Leaf and Node. No condition. -/
import Derived.Test.YtbhmmoecoijojaaDoorShaD
import Derived.Test.YtbhmmoecoijojaaDoorMixS
import Derived.Test.YtbhmmoecoijojaaDoorMixT
import Derived.Test.YtbhmmoecoijojaaDoorCut
namespace Go.Proofs.YtbhmmoecoijojaaDoor
open Go.RowKit
attribute [local irreducible] mixW
attribute [local go_sem] n8_lo n8_hi n64_lo n64_hi n32_lo n32_hi
/-- a width that may be -/
def cutW (w : Int) : Nat := if w < 1 ∨ 32 < w then 32 else w.toNat
theorem cutW_lo (w : Int) : 1 ≤ cutW w := by unfold cutW; split <;> omega
theorem cutW_hi (w : Int) : cutW w ≤ 32 := by unfold cutW; split <;> omega
theorem cutm_any (x : Int) (w : World) : Calls Tryd.prog 56 #[.int .i64 x] w fun e w' => e = .returned (.int .i64 (cutW x)) ∧ w = w' := by
  by_cases h1 : x < 1
  · have Hd := Lib.hid (show cutW x = 32 from if_pos (.inl h1))
    go_enter Tryd.func56, Tryd.ntmps56
    go_wp2
    go_ret
    exact ⟨by rw [Hd.out]; rfl, rfl⟩
  · by_cases h2 : 32 < x
    · have Hd := Lib.hid (show cutW x = 32 from if_pos (.inr h2))
      go_enter Tryd.func56, Tryd.ntmps56
      go_wp2
      go_ret
      exact ⟨by rw [Hd.out]; rfl, rfl⟩
    · have h3 : (cutW x : Int) = x := by unfold cutW; rw [if_neg (by omega)]; omega
      have Hd := Lib.hid h3
      clear h3
      go_enter Tryd.func56, Tryd.ntmps56
      go_wp2
      go_ret
      exact ⟨by rw [Hd.out]; rfl, rfl⟩
/-- a text's hash, cut -/
def sumM (n : Nat) (b : List UInt8) : List UInt8 := cutL (sha b) (n : Int)
theorem sumM_length (n : Nat) (b : List UInt8) : (sumM n b).length = 32 := cutL_length _ _ (sha_length b)
def leafM (n : Nat) (b : List UInt8) : List UInt8 := sumM n (0 :: b)
def nodeM (n : Nat) (x y : List UInt8) : List UInt8 := sumM n (1 :: (x.take n ++ y.take n))
set_option maxRecDepth 100000 in
theorem msum_any (x : Int) (v : Value) (b : List UInt8) (w : World) (hv : BSl w w.heap.size v b) (hl : b.length ≤ 140737488355264) (hG : Glob w) :
    Calls Tryd.prog 53 #[.int .i64 x, v] w fun e w' => e = .returned (.agg (dat (sumM (cutW x) b))) ∧ Below w.heap.size w w' := by
  have hD := Blk.new w 27 (arr 32 fun _ => 0)
  have hb0 := below_new1 w (Obj.cells (arr 32 fun _ => 0) 27)
  go_enter Tryd.func53, Tryd.ntmps53
  go_wp2_with fail
  refine calls_at (fun W => Blk W w.heap.size 27 (arr 32 fun _ => 0) ∧ Below w.heap.size w W) ⟨hD, hb0⟩ ?_
  clear hD hb0
  rintro W ⟨hD, hbel⟩
  refine (sum_b v b W (hv.next hbel) (by omega) (hG.next hbel)).mono ?_
  rintro e w1 ⟨rfl, hb1⟩
  replace hD := hD.below hb1 hD.lt
  replace hbel := hbel.trans (hb1.mono hbel.size)
  clear hb1
  go_wp2_with fail
  refine (cutm_any x w1).mono ?_
  rintro e _ ⟨rfl, rfl⟩
  go_wp2_with fail
  refine (cut_any (sha b) (sha_length b) (cutW x) w1).mono ?_
  rintro e w2 ⟨rfl, hb1⟩
  replace hD := hD.below hb1 hD.lt
  replace hbel := hbel.trans (hb1.mono hbel.size)
  clear hb1
  go_wp2_with (first
    | (refine wpList_storeDat rfl rfl 27 (.tmp 4) (.tmp 9) rfl w.heap.size rfl _ _ rfl _ hD (by kernel_rfl) ?_; intro w10 hD10 hon10))
  have hb10 := below_only hbel hon10 (Nat.le_refl _) hbel.size
  exact bodyPost_ret (results_cell_row (p := 4) (ty := 27) rfl _ _ w.heap.size _ _ _ _ rfl hD10 Tryd.underlying27 rfl (by rw [dat_size]; kernel_rfl)) rfl ⟨rfl, hb10⟩
set_option maxRecDepth 100000 in
theorem mleaf_any (x : Int) (v : Value) (b : List UInt8) (w : World) (hv : BSl w w.heap.size v b) (hl : b.length ≤ 140737488355200) (hG : Glob w) :
    Calls Tryd.prog 45 #[.int .i64 x, v] w fun e w' => e = .returned (.agg (dat (leafM (cutW x) b))) ∧ Below w.heap.size w w' := by
  obtain ⟨A, c, rfl, h1, h2, hrd⟩ := hv
  have hv : BSl w w.heap.size (.slice A b.length c) b := ⟨A, c, rfl, h1, h2, hrd⟩
  clear hrd h1 h2
  obtain ⟨m, hm⟩ : ∃ m, b.length = m := ⟨_, rfl⟩
  have Hm := Lib.hid hm
  rw [hm] at hv hl ⊢
  clear hm
  have hD := (Blk.new w 27 (arr 32 fun _ => 0)).alloc (Obj.cells #[.int .u8 0] 5)
  have hK := Blk.new2 w (Obj.cells (arr 32 fun _ => 0) 27) 5 #[.int .u8 0]
  have hb2 := (below_new1 w (Obj.cells (arr 32 fun _ => 0) 27)).alloc (by simp) (Obj.cells #[.int .u8 0] 5)
  have hS0 := Blk.new3 w (Obj.cells (arr 32 fun _ => 0) 27) (Obj.cells #[.int .u8 0] 5) 32 #[.slice (some ⟨w.heap.size + 1, 0, none⟩) 1 1, .slice A m c]
  have hD3 := hD.alloc (Obj.cells #[.slice (some ⟨w.heap.size + 1, 0, none⟩) 1 1, .slice A m c] 32)
  have hK3 := hK.alloc (Obj.cells #[.slice (some ⟨w.heap.size + 1, 0, none⟩) 1 1, .slice A m c] 32)
  have hb3 := hb2.alloc hb2.size (Obj.cells #[.slice (some ⟨w.heap.size + 1, 0, none⟩) 1 1, .slice A m c] 32)
  clear hD hK hb2
  go_enter Tryd.func45, Tryd.ntmps45
  go_wp2_with fail
  refine calls_at (fun W => Blk W w.heap.size 27 (arr 32 fun _ => 0) ∧ Blk W (w.heap.size + 1) 5 #[.int .u8 0] ∧ Blk W (w.heap.size + 2) 32 #[.slice (some ⟨w.heap.size + 1, 0, none⟩) 1 1, .slice A m c] ∧ Below w.heap.size w W) ⟨hD3, hK3, hS0, hb3⟩ ?_
  clear hD3 hK3 hS0 hb3
  rintro W ⟨hD, hK, hS, hbel⟩
  have hk : BSl W W.heap.size (.slice (some ⟨w.heap.size + 1, 0, none⟩) 1 1) [0] := ⟨_, 1, rfl, by decide, by decide, (by have h0 := Reads.of_blk hK hK.lt 0; simpa using h0 : Reads W W.heap.size (some ⟨w.heap.size + 1, 0, none⟩) [Value.int .u8 0])⟩
  have hSS := SSl.two hS _ hS.lt hk (hv.next hbel)
  refine (join_any _ _ W hSS (by have := Hm.out; simp; omega)).mono ?_
  rintro e w1 ⟨u, rfl, hown, hb1⟩
  have hfl : ([[(0 : UInt8)], b] : List (List UInt8)).flatten = 0 :: b := by simp
  rw [hfl] at hown
  have hB := BSl.of_own hown
  replace hD := hD.below hb1 hD.lt
  replace hbel := hbel.trans (hb1.mono hbel.size)
  clear hb1 hown hS hK hk hSS hfl
  go_wp2_with fail
  refine (msum_any x u (0 :: b) w1 hB (by have := Hm.out; simp; omega) (hG.next hbel)).mono ?_
  rintro e w2 ⟨rfl, hb1⟩
  replace hD := hD.below hb1 hD.lt
  replace hbel := hbel.trans (hb1.mono hbel.size)
  clear hb1 hB
  go_wp2_with (first
    | (refine wpList_storeDat rfl rfl 27 (.tmp 4) (.tmp 10) rfl w.heap.size rfl _ _ rfl _ hD (by kernel_rfl) ?_; intro w10 hD10 hon10))
  have hb10 := below_only hbel hon10 (Nat.le_refl _) hbel.size
  exact bodyPost_ret (results_cell_row (p := 4) (ty := 27) rfl _ _ w.heap.size _ _ _ _ rfl hD10 Tryd.underlying27 rfl (by rw [dat_size]; kernel_rfl)) rfl ⟨rfl, hb10⟩
theorem dat_take {w : World} {g n : Nat} {d : List UInt8} (h : Blk w g 27 (dat d)) (hl : d.length = 32) (hn : n ≤ 32) : BSl w w.heap.size (.slice (some ⟨g, 0, none⟩) n 32) (d.take n) :=
  head_b (BSl.of_dat h w.heap.size h.lt hl) n hn
set_option maxHeartbeats 400000 in
set_option maxRecDepth 100000 in
theorem mnode_any (x : Int) (p q : List UInt8) (hp : p.length = 32) (hq : q.length = 32) (w : World) (hG : Glob w) :
    Calls Tryd.prog 17 #[.int .i64 x, .agg (dat p), .agg (dat q)] w fun e w' => e = .returned (.agg (dat (nodeM (cutW x) p q))) ∧ Below w.heap.size w w' := by
  have hP := ((Blk.new w 27 (dat p)).alloc (Obj.cells (dat q) 27)).alloc (Obj.cells (arr 32 fun _ => 0) 27)
  have hQ := (Blk.new2 w (Obj.cells (dat p) 27) 27 (dat q)).alloc (Obj.cells (arr 32 fun _ => 0) 27)
  have hD := Blk.new3 w (Obj.cells (dat p) 27) (Obj.cells (dat q) 27) 27 (arr 32 fun _ => 0)
  have hb3 := below_new3 w (Obj.cells (dat p) 27) (Obj.cells (dat q) 27) (Obj.cells (arr 32 fun _ => 0) 27)
  have Hp := Lib.hid hp
  have Hq := Lib.hid hq
  clear hp hq
  go_enter Tryd.func17, Tryd.ntmps17
  go_wp2_with fail
  refine calls_at (fun W => Blk W w.heap.size 27 (dat p) ∧ Blk W (w.heap.size + 1) 27 (dat q) ∧ Blk W (w.heap.size + 2) 27 (arr 32 fun _ => 0) ∧ Below w.heap.size w W) ⟨hP, hQ, hD, hb3⟩ ?_
  clear hP hQ hD hb3
  rintro W ⟨hP, hQ, hD, hbel⟩
  refine (cutm_any x W).mono ?_
  rintro e _ ⟨rfl, rfl⟩
  have hn1 := cutW_lo x
  have hn2 := cutW_hi x
  obtain ⟨n, hn⟩ : ∃ n, cutW x = n := ⟨_, rfl⟩
  rw [hn] at hn1 hn2 ⊢
  have Hn := Lib.hid hn
  clear hn
  go_wp2_with fail
  have i1 : (n : Int) ≤ 32 := by omega
  refine wp_region_mixT 9 (.plain 0 <| .plain 2 <| .plain 3 <| .plain 4 <| .plain 5 <| .only 1 <| .only 6 <| .only 7 <| .only 8 <| .done) (by kernel_rfl) (by kernel_rfl) (fun W1 hb1 => ?_)
  replace hP := hP.below hb1 hP.lt
  replace hQ := hQ.below hb1 hQ.lt
  replace hD := hD.below hb1 hD.lt
  replace hbel := hbel.trans (hb1.mono hbel.size)
  clear hb1
  iterate 5 (refine mix_plain rfl ?_; go_big_quiet_step (fail); refine wpQuiet_nil ?_)
  refine mix_only rfl (fun K hK => ?_)
  go_wp2_with fail
  refine hK _ _ (below_new1 W1 _) ?_
  clear hK K
  have hb1 := below_new1 W1 (Obj.cells #[.int .u8 1] 5)
  refine mix_at (fun W => Blk W W1.heap.size 5 #[.int .u8 1] ∧ Blk W w.heap.size 27 (dat p) ∧ Blk W (w.heap.size + 1) 27 (dat q) ∧ Blk W (w.heap.size + 2) 27 (arr 32 fun _ => 0) ∧ Below w.heap.size w W) ⟨Blk.new W1 5 #[.int .u8 1], hP.below hb1 hP.lt, hQ.below hb1 hQ.lt, hD.below hb1 hD.lt, hbel.trans (hb1.mono hbel.size)⟩ ?_
  clear hb1 hP hQ hD hbel
  rintro W2 ⟨hK1, hP, hQ, hD, hbel⟩
  generalize W1.heap.size = g1 at hK1 ⊢
  refine mix_only rfl (fun K hK => ?_)
  go_wp2_with fail
  refine hK _ _ (below_new1 W2 _) ?_
  clear hK K
  have hb1 := below_new1 W2 (Obj.cells #[.slice (some ⟨g1, 0, none⟩) 1 1, .slice (some ⟨w.heap.size, 0, none⟩) n 32, .slice (some ⟨w.heap.size + 1, 0, none⟩) n 32] 32)
  refine mix_at (fun W => Blk W W2.heap.size 32 #[.slice (some ⟨g1, 0, none⟩) 1 1, .slice (some ⟨w.heap.size, 0, none⟩) n 32, .slice (some ⟨w.heap.size + 1, 0, none⟩) n 32] ∧ Blk W g1 5 #[.int .u8 1] ∧ Blk W w.heap.size 27 (dat p) ∧ Blk W (w.heap.size + 1) 27 (dat q) ∧ Blk W (w.heap.size + 2) 27 (arr 32 fun _ => 0) ∧ Below w.heap.size w W) ⟨Blk.new W2 _ _, hK1.below hb1 hK1.lt, hP.below hb1 hP.lt, hQ.below hb1 hQ.lt, hD.below hb1 hD.lt, hbel.trans (hb1.mono hbel.size)⟩ ?_
  clear hb1 hK1 hP hQ hD hbel
  rintro W3 ⟨hS, hK1, hP, hQ, hD, hbel⟩
  generalize W2.heap.size = g2 at hS ⊢
  have hk : BSl W3 W3.heap.size (.slice (some ⟨g1, 0, none⟩) 1 1) [1] := ⟨_, 1, rfl, by decide, by decide, (by have h0 := Reads.of_blk hK1 hK1.lt 0; simpa using h0 : Reads W3 W3.heap.size (some ⟨g1, 0, none⟩) [Value.int .u8 1])⟩
  have hSS := SSl.three hS _ hS.lt hk (dat_take hP Hp.out hn2) (dat_take hQ Hq.out hn2)
  have hll : (p.take n).length ≤ 32 ∧ (q.take n).length ≤ 32 := by rw [List.length_take, List.length_take]; omega
  refine mix_only rfl (fun K hK => ?_)
  go_wp2_with fail
  refine (join_any _ _ W3 hSS (by simp only [List.flatten_cons, List.flatten_nil, List.append_nil, List.length_append, List.length_cons, List.length_nil]; omega)).mono ?_
  rintro e W4 ⟨u, rfl, hown, hb1⟩
  have hfl : ([[(1 : UInt8)], p.take n, q.take n] : List (List UInt8)).flatten = 1 :: (p.take n ++ q.take n) := by simp
  rw [hfl] at hown
  have hB := BSl.of_own hown
  go_wp2_with fail
  refine hK _ _ hb1 ?_
  clear hK K hown hfl
  replace hD := hD.below hb1 hD.lt
  replace hbel := hbel.trans (hb1.mono hbel.size)
  clear hb1 hS hK1 hP hQ hk hSS
  refine mix_only rfl (fun K hK => ?_)
  go_wp2_with fail
  refine (msum_any x u _ W4 hB (by simp only [List.length_cons, List.length_append]; omega) (hG.next hbel)).mono ?_
  rintro e W5 ⟨rfl, hb1⟩
  go_wp2_with fail
  refine hK _ _ hb1 ?_
  clear hK K
  replace hD := hD.below hb1 hD.lt
  replace hbel := hbel.trans (hb1.mono hbel.size)
  clear hb1 hB
  refine mix_done ?_
  simp only [List.drop_succ_cons, List.drop_zero]
  refine wpList_storeDat rfl rfl 27 (.tmp 6) (.tmp 18) rfl (w.heap.size + 2) rfl _ _ rfl _ hD (by kernel_rfl) ?_
  intro w10 hD10 hon10
  have hb10 := below_only hbel hon10 (by omega) hbel.size
  go_wp2
  refine bodyPost_ret (results_cell_row (p := 6) (ty := 27) rfl _ _ (w.heap.size + 2) _ _ _ _ rfl hD10 Tryd.underlying27 rfl (by rw [dat_size]; kernel_rfl)) rfl ⟨?_, hb10⟩
  rw [Hn.out]; rfl
end Go.Proofs.YtbhmmoecoijojaaDoor
