/- Texts that stand behind one another: Merkle, Bits, MerkP, CmpP, CmpQ. No condition. -/
import Derived.Test.YtkogehkmldbhgaaDoorP4
import Derived.Test.YtkogehkmldbhgaaDoorP5
import Derived.Test.YtkogehkmldbhgaaDoorP1
import Derived.Test.YtkogehkmldbhgaaDoorChecked
import Derived.WalkKit
import Derived.Lib.Hide
import Derived.Lib.Strings
import Derived.Lib.Slices
import Derived.Lib.Small
import Derived.Lib.Walk
import Derived.Lib.BitFns
import Derived.Deep.Light
/- The walks of merkle's cut, sum, Leaf and Node. No condition. -/
namespace Go.Proofs.YtkogehkmldbhgaaDoor
open Go.RowKit
attribute [local irreducible] mixW
attribute [local go_sem] n8_lo n8_hi n64_lo n64_hi n32_lo n32_hi
/-- a width that may be -/
def cutW (w : Int) : Nat := if w < 1 ∨ 32 < w then 32 else w.toNat
theorem cutW_lo (w : Int) : 1 ≤ cutW w := by unfold cutW; split <;> omega
theorem cutW_hi (w : Int) : cutW w ≤ 32 := by unfold cutW; split <;> omega
theorem cutm_any (x : Int) (w : World) : Calls Tryd.prog 59 #[.int .i64 x] w fun e w' => e = .returned (.int .i64 (cutW x)) ∧ w = w' := by
  by_cases h1 : x < 1
  · have Hd := Lib.hid (show cutW x = 32 from if_pos (.inl h1))
    go_enter Tryd.func59, Tryd.ntmps59
    go_wp2
    go_ret
    exact ⟨by rw [Hd.out]; rfl, rfl⟩
  · by_cases h2 : 32 < x
    · have Hd := Lib.hid (show cutW x = 32 from if_pos (.inr h2))
      go_enter Tryd.func59, Tryd.ntmps59
      go_wp2
      go_ret
      exact ⟨by rw [Hd.out]; rfl, rfl⟩
    · have h3 : (cutW x : Int) = x := by unfold cutW; rw [if_neg (by omega)]; omega
      have Hd := Lib.hid h3
      clear h3
      go_enter Tryd.func59, Tryd.ntmps59
      go_wp2
      go_ret
      exact ⟨by rw [Hd.out]; rfl, rfl⟩
/-- a text's hash, cut -/
def sumM (n : Nat) (b : List UInt8) : List UInt8 := cutL (sha b) (n : Int)
theorem sumM_length (n : Nat) (b : List UInt8) : (sumM n b).length = 32 := cutL_length _ _ (sha_length b)
def leafM (n : Nat) (b : List UInt8) : List UInt8 := sumM n (0 :: b)
def nodeM (n : Nat) (x y : List UInt8) : List UInt8 := sumM n (1 :: (x.take n ++ y.take n))
set_option maxRecDepth 100000 in
theorem msum_any (x : Int) (v : Value) (b : List UInt8) (w : World) (hv : BSl w w.heap.size v b) (hl : b.length ≤ 140737488355264) (hG : Glob w) :
    Calls Tryd.prog 47 #[.int .i64 x, v] w fun e w' => e = .returned (.agg (dat (sumM (cutW x) b))) ∧ Below w.heap.size w w' := by
  have hD := Blk.new w 43 (arr 32 fun _ => 0)
  have hb0 := below_new1 w (Obj.cells (arr 32 fun _ => 0) 43)
  go_enter Tryd.func47, Tryd.ntmps47
  go_wp2_with fail
  refine calls_at (fun W => Blk W w.heap.size 43 (arr 32 fun _ => 0) ∧ Below w.heap.size w W) ⟨hD, hb0⟩ ?_
  clear hD hb0
  rintro W ⟨hD, hbel⟩
  refine (sum_b v b W (hv.next hbel) (by omega) (hG.next hbel)).mono ?_
  rintro e w1 ⟨rfl, hb1⟩
  replace hD := hD.below hb1 hD.lt
  replace hbel := hbel.trans (hb1.mono hbel.size)
  clear hb1
  go_wp2_with fail
  refine (cutm_any x w1).mono ?_
  rintro e _ ⟨rfl, rfl⟩
  go_wp2_with fail
  refine (cut_any (sha b) (sha_length b) (cutW x) w1).mono ?_
  rintro e w2 ⟨rfl, hb1⟩
  replace hD := hD.below hb1 hD.lt
  replace hbel := hbel.trans (hb1.mono hbel.size)
  clear hb1
  go_wp2_with (first
    | (refine wpList_storeDat rfl rfl 43 (.tmp 4) (.tmp 9) rfl w.heap.size rfl _ _ rfl _ hD (by kernel_rfl) ?_; intro w10 hD10 hon10))
  have hb10 := below_only hbel hon10 (Nat.le_refl _) hbel.size
  exact bodyPost_ret (results_cell_row (p := 4) (ty := 43) rfl _ _ w.heap.size _ _ _ _ rfl hD10 Tryd.underlying43 rfl (by rw [dat_size]; kernel_rfl)) rfl ⟨rfl, hb10⟩
set_option maxRecDepth 100000 in
theorem mleaf_any (x : Int) (v : Value) (b : List UInt8) (w : World) (hv : BSl w w.heap.size v b) (hl : b.length ≤ 140737488355200) (hG : Glob w) :
    Calls Tryd.prog 31 #[.int .i64 x, v] w fun e w' => e = .returned (.agg (dat (leafM (cutW x) b))) ∧ Below w.heap.size w w' := by
  obtain ⟨A, c, rfl, h1, h2, hrd⟩ := hv
  have hv : BSl w w.heap.size (.slice A b.length c) b := ⟨A, c, rfl, h1, h2, hrd⟩
  clear hrd h1 h2
  obtain ⟨m, hm⟩ : ∃ m, b.length = m := ⟨_, rfl⟩
  have Hm := Lib.hid hm
  rw [hm] at hv hl ⊢
  clear hm
  have hD := (Blk.new w 43 (arr 32 fun _ => 0)).alloc (Obj.cells #[.int .u8 0] 5)
  have hK := Blk.new2 w (Obj.cells (arr 32 fun _ => 0) 43) 5 #[.int .u8 0]
  have hb2 := (below_new1 w (Obj.cells (arr 32 fun _ => 0) 43)).alloc (by simp) (Obj.cells #[.int .u8 0] 5)
  have hS0 := Blk.new3 w (Obj.cells (arr 32 fun _ => 0) 43) (Obj.cells #[.int .u8 0] 5) 62 #[.slice (some ⟨w.heap.size + 1, 0, none⟩) 1 1, .slice A m c]
  have hD3 := hD.alloc (Obj.cells #[.slice (some ⟨w.heap.size + 1, 0, none⟩) 1 1, .slice A m c] 62)
  have hK3 := hK.alloc (Obj.cells #[.slice (some ⟨w.heap.size + 1, 0, none⟩) 1 1, .slice A m c] 62)
  have hb3 := hb2.alloc hb2.size (Obj.cells #[.slice (some ⟨w.heap.size + 1, 0, none⟩) 1 1, .slice A m c] 62)
  clear hD hK hb2
  go_enter Tryd.func31, Tryd.ntmps31
  go_wp2_with fail
  refine calls_at (fun W => Blk W w.heap.size 43 (arr 32 fun _ => 0) ∧ Blk W (w.heap.size + 1) 5 #[.int .u8 0] ∧ Blk W (w.heap.size + 2) 62 #[.slice (some ⟨w.heap.size + 1, 0, none⟩) 1 1, .slice A m c] ∧ Below w.heap.size w W) ⟨hD3, hK3, hS0, hb3⟩ ?_
  clear hD3 hK3 hS0 hb3
  rintro W ⟨hD, hK, hS, hbel⟩
  have hk : BSl W W.heap.size (.slice (some ⟨w.heap.size + 1, 0, none⟩) 1 1) [0] := ⟨_, 1, rfl, by decide, by decide, (by have h0 := Reads.of_blk hK hK.lt 0; simpa using h0 : Reads W W.heap.size (some ⟨w.heap.size + 1, 0, none⟩) [Value.int .u8 0])⟩
  have hSS := SSl.two hS _ hS.lt hk (hv.next hbel)
  refine (join_any _ _ W hSS (by have := Hm.out; simp; omega)).mono ?_
  rintro e w1 ⟨u, rfl, hown, hb1⟩
  have hfl : ([[(0 : UInt8)], b] : List (List UInt8)).flatten = 0 :: b := by simp
  rw [hfl] at hown
  have hB := BSl.of_own hown
  replace hD := hD.below hb1 hD.lt
  replace hbel := hbel.trans (hb1.mono hbel.size)
  clear hb1 hown hS hK hk hSS hfl
  go_wp2_with fail
  refine (msum_any x u (0 :: b) w1 hB (by have := Hm.out; simp; omega) (hG.next hbel)).mono ?_
  rintro e w2 ⟨rfl, hb1⟩
  replace hD := hD.below hb1 hD.lt
  replace hbel := hbel.trans (hb1.mono hbel.size)
  clear hb1 hB
  go_wp2_with (first
    | (refine wpList_storeDat rfl rfl 43 (.tmp 4) (.tmp 10) rfl w.heap.size rfl _ _ rfl _ hD (by kernel_rfl) ?_; intro w10 hD10 hon10))
  have hb10 := below_only hbel hon10 (Nat.le_refl _) hbel.size
  exact bodyPost_ret (results_cell_row (p := 4) (ty := 43) rfl _ _ w.heap.size _ _ _ _ rfl hD10 Tryd.underlying43 rfl (by rw [dat_size]; kernel_rfl)) rfl ⟨rfl, hb10⟩
theorem dat_take {w : World} {g n : Nat} {d : List UInt8} (h : Blk w g 43 (dat d)) (hl : d.length = 32) (hn : n ≤ 32) : BSl w w.heap.size (.slice (some ⟨g, 0, none⟩) n 32) (d.take n) :=
  head_b (BSl.of_dat h w.heap.size h.lt hl) n hn
set_option maxHeartbeats 400000 in
set_option maxRecDepth 100000 in
theorem mnode_any (x : Int) (p q : List UInt8) (hp : p.length = 32) (hq : q.length = 32) (w : World) (hG : Glob w) :
    Calls Tryd.prog 45 #[.int .i64 x, .agg (dat p), .agg (dat q)] w fun e w' => e = .returned (.agg (dat (nodeM (cutW x) p q))) ∧ Below w.heap.size w w' := by
  have hP := ((Blk.new w 43 (dat p)).alloc (Obj.cells (dat q) 43)).alloc (Obj.cells (arr 32 fun _ => 0) 43)
  have hQ := (Blk.new2 w (Obj.cells (dat p) 43) 43 (dat q)).alloc (Obj.cells (arr 32 fun _ => 0) 43)
  have hD := Blk.new3 w (Obj.cells (dat p) 43) (Obj.cells (dat q) 43) 43 (arr 32 fun _ => 0)
  have hb3 := below_new3 w (Obj.cells (dat p) 43) (Obj.cells (dat q) 43) (Obj.cells (arr 32 fun _ => 0) 43)
  have Hp := Lib.hid hp
  have Hq := Lib.hid hq
  clear hp hq
  go_enter Tryd.func45, Tryd.ntmps45
  go_wp2_with fail
  refine calls_at (fun W => Blk W w.heap.size 43 (dat p) ∧ Blk W (w.heap.size + 1) 43 (dat q) ∧ Blk W (w.heap.size + 2) 43 (arr 32 fun _ => 0) ∧ Below w.heap.size w W) ⟨hP, hQ, hD, hb3⟩ ?_
  clear hP hQ hD hb3
  rintro W ⟨hP, hQ, hD, hbel⟩
  refine (cutm_any x W).mono ?_
  rintro e _ ⟨rfl, rfl⟩
  have hn1 := cutW_lo x
  have hn2 := cutW_hi x
  obtain ⟨n, hn⟩ : ∃ n, cutW x = n := ⟨_, rfl⟩
  rw [hn] at hn1 hn2 ⊢
  have Hn := Lib.hid hn
  clear hn
  go_wp2_with fail
  have i1 : (n : Int) ≤ 32 := by omega
  refine wp_region_mixT 9 (.plain 0 <| .plain 2 <| .plain 3 <| .plain 4 <| .plain 5 <| .only 1 <| .only 6 <| .only 7 <| .only 8 <| .done) (by kernel_rfl) (by kernel_rfl) (fun W1 hb1 => ?_)
  replace hP := hP.below hb1 hP.lt
  replace hQ := hQ.below hb1 hQ.lt
  replace hD := hD.below hb1 hD.lt
  replace hbel := hbel.trans (hb1.mono hbel.size)
  clear hb1
  iterate 5 (refine mix_plain rfl ?_; go_big_quiet_step (fail); refine wpQuiet_nil ?_)
  refine mix_only rfl (fun K hK => ?_)
  go_wp2_with fail
  refine hK _ _ (below_new1 W1 _) ?_
  clear hK K
  have hb1 := below_new1 W1 (Obj.cells #[.int .u8 1] 5)
  refine mix_at (fun W => Blk W W1.heap.size 5 #[.int .u8 1] ∧ Blk W w.heap.size 43 (dat p) ∧ Blk W (w.heap.size + 1) 43 (dat q) ∧ Blk W (w.heap.size + 2) 43 (arr 32 fun _ => 0) ∧ Below w.heap.size w W) ⟨Blk.new W1 5 #[.int .u8 1], hP.below hb1 hP.lt, hQ.below hb1 hQ.lt, hD.below hb1 hD.lt, hbel.trans (hb1.mono hbel.size)⟩ ?_
  clear hb1 hP hQ hD hbel
  rintro W2 ⟨hK1, hP, hQ, hD, hbel⟩
  generalize W1.heap.size = g1 at hK1 ⊢
  refine mix_only rfl (fun K hK => ?_)
  go_wp2_with fail
  refine hK _ _ (below_new1 W2 _) ?_
  clear hK K
  have hb1 := below_new1 W2 (Obj.cells #[.slice (some ⟨g1, 0, none⟩) 1 1, .slice (some ⟨w.heap.size, 0, none⟩) n 32, .slice (some ⟨w.heap.size + 1, 0, none⟩) n 32] 62)
  refine mix_at (fun W => Blk W W2.heap.size 62 #[.slice (some ⟨g1, 0, none⟩) 1 1, .slice (some ⟨w.heap.size, 0, none⟩) n 32, .slice (some ⟨w.heap.size + 1, 0, none⟩) n 32] ∧ Blk W g1 5 #[.int .u8 1] ∧ Blk W w.heap.size 43 (dat p) ∧ Blk W (w.heap.size + 1) 43 (dat q) ∧ Blk W (w.heap.size + 2) 43 (arr 32 fun _ => 0) ∧ Below w.heap.size w W) ⟨Blk.new W2 _ _, hK1.below hb1 hK1.lt, hP.below hb1 hP.lt, hQ.below hb1 hQ.lt, hD.below hb1 hD.lt, hbel.trans (hb1.mono hbel.size)⟩ ?_
  clear hb1 hK1 hP hQ hD hbel
  rintro W3 ⟨hS, hK1, hP, hQ, hD, hbel⟩
  generalize W2.heap.size = g2 at hS ⊢
  have hk : BSl W3 W3.heap.size (.slice (some ⟨g1, 0, none⟩) 1 1) [1] := ⟨_, 1, rfl, by decide, by decide, (by have h0 := Reads.of_blk hK1 hK1.lt 0; simpa using h0 : Reads W3 W3.heap.size (some ⟨g1, 0, none⟩) [Value.int .u8 1])⟩
  have hSS := SSl.three hS _ hS.lt hk (dat_take hP Hp.out hn2) (dat_take hQ Hq.out hn2)
  have hll : (p.take n).length ≤ 32 ∧ (q.take n).length ≤ 32 := by rw [List.length_take, List.length_take]; omega
  refine mix_only rfl (fun K hK => ?_)
  go_wp2_with fail
  refine (join_any _ _ W3 hSS (by simp only [List.flatten_cons, List.flatten_nil, List.append_nil, List.length_append, List.length_cons, List.length_nil]; omega)).mono ?_
  rintro e W4 ⟨u, rfl, hown, hb1⟩
  have hfl : ([[(1 : UInt8)], p.take n, q.take n] : List (List UInt8)).flatten = 1 :: (p.take n ++ q.take n) := by simp
  rw [hfl] at hown
  have hB := BSl.of_own hown
  go_wp2_with fail
  refine hK _ _ hb1 ?_
  clear hK K hown hfl
  replace hD := hD.below hb1 hD.lt
  replace hbel := hbel.trans (hb1.mono hbel.size)
  clear hb1 hS hK1 hP hQ hk hSS
  refine mix_only rfl (fun K hK => ?_)
  go_wp2_with fail
  refine (msum_any x u _ W4 hB (by simp only [List.length_cons, List.length_append]; omega) (hG.next hbel)).mono ?_
  rintro e W5 ⟨rfl, hb1⟩
  go_wp2_with fail
  refine hK _ _ hb1 ?_
  clear hK K
  replace hD := hD.below hb1 hD.lt
  replace hbel := hbel.trans (hb1.mono hbel.size)
  clear hb1 hB
  refine mix_done ?_
  simp only [List.drop_succ_cons, List.drop_zero]
  refine wpList_storeDat rfl rfl 43 (.tmp 6) (.tmp 18) rfl (w.heap.size + 2) rfl _ _ rfl _ hD (by kernel_rfl) ?_
  intro w10 hD10 hon10
  have hb10 := below_only hbel hon10 (by omega) hbel.size
  go_wp2
  refine bodyPost_ret (results_cell_row (p := 6) (ty := 43) rfl _ _ (w.heap.size + 2) _ _ _ _ rfl hD10 Tryd.underlying43 rfl (by rw [dat_size]; kernel_rfl)) rfl ⟨?_, hb10⟩
  rw [Hn.out]; rfl
end Go.Proofs.YtkogehkmldbhgaaDoor

/- The walks of math/bits' Len64 and Len, and of merkle's half. No condition. -/
namespace Go.Proofs.YtkogehkmldbhgaaDoor
open Go Go.RowKit
theorem len8s : (Lib.len8tab.size : Int) = 256 := by
  have : Lib.len8tab.size = 256 := by kernel_rfl
  omega
theorem wrapA (k a b : Nat) (hk : k ≤ 56) (ha : a ≤ 8) (hb : b = k + a) : RowKit.wrap64 ((k : Int) + RowKit.wrap64 (a : Int)) = (b : Int) := by
  unfold RowKit.wrap64
  omega
theorem wrapW (a : Nat) (ha : a ≤ 8) : RowKit.wrap64 (RowKit.wrap64 (a : Int)) = (a : Int) := by
  unfold RowKit.wrap64
  omega
theorem wrapO (a : Nat) (ha : a ≤ 8) : RowKit.wrap64 (a : Int) = (a : Int) := by
  unfold RowKit.wrap64
  omega
theorem len8g (y : Int) (h : y.toNat < Lib.len8tab.size) : ((Lib.len8tab[y.toNat]'h).toNat : Int) = Lib.len8 y := by
  unfold Lib.len8
  rw [getElem?_pos Lib.len8tab y.toNat h]
  rfl
set_option maxHeartbeats 8000000 in
set_option maxRecDepth 1000000 in
theorem len64_any (x : Int) (w : World) (h0 : 0 ≤ x) (h1 : x ≤ 18446744073709551615) :
    Calls Tryd.prog 70 #[.int .u64 x] w fun e w' => e = .returned (.int .i64 (Lib.bitLen x.toNat)) ∧ w' = w := by
  go_enter Tryd.func70, Tryd.ntmps70
  go_wp2
  all_goals first
    | (go_ret; refine ⟨congrArg Ending.returned (congrArg (Value.int IntKind.i64) ?_), rfl⟩; go_light)
    | (exfalso
       go_light
       have hs := len8s
       omega)
  all_goals first
    | (rw [len8g (x / 4294967296 / 65536 / 256) _, Lib.len8_of (x / 4294967296 / 65536 / 256) (by omega) (by omega)]
       have e : (x / 4294967296 / 65536 / 256).toNat = x.toNat / 72057594037927936 := by omega
       have l := Lib.bitLen_le8' (x / 4294967296 / 65536 / 256) (by omega) (by omega)
       have s := Lib.bitLen_shift56 x.toNat (by omega) (by omega)
       rw [e] at l ⊢
       exact wrapA 56 _ _ (by decide) l s)
    | (rw [len8g (x / 4294967296 / 65536) _, Lib.len8_of (x / 4294967296 / 65536) (by omega) (by omega)]
       have e : (x / 4294967296 / 65536).toNat = x.toNat / 281474976710656 := by omega
       have l := Lib.bitLen_le8' (x / 4294967296 / 65536) (by omega) (by omega)
       have s := Lib.bitLen_shift48 x.toNat (by omega) (by omega)
       rw [e] at l ⊢
       exact wrapA 48 _ _ (by decide) l s)
    | (rw [len8g (x / 4294967296 / 256) _, Lib.len8_of (x / 4294967296 / 256) (by omega) (by omega)]
       have e : (x / 4294967296 / 256).toNat = x.toNat / 1099511627776 := by omega
       have l := Lib.bitLen_le8' (x / 4294967296 / 256) (by omega) (by omega)
       have s := Lib.bitLen_shift40 x.toNat (by omega) (by omega)
       rw [e] at l ⊢
       exact wrapA 40 _ _ (by decide) l s)
    | (rw [len8g (x / 4294967296) _, Lib.len8_of (x / 4294967296) (by omega) (by omega)]
       have e : (x / 4294967296).toNat = x.toNat / 4294967296 := by omega
       have l := Lib.bitLen_le8' (x / 4294967296) (by omega) (by omega)
       have s := Lib.bitLen_shift32 x.toNat (by omega) (by omega)
       rw [e] at l ⊢
       exact wrapA 32 _ _ (by decide) l s)
    | (rw [len8g (x / 65536 / 256) _, Lib.len8_of (x / 65536 / 256) (by omega) (by omega)]
       have e : (x / 65536 / 256).toNat = x.toNat / 16777216 := by omega
       have l := Lib.bitLen_le8' (x / 65536 / 256) (by omega) (by omega)
       have s := Lib.bitLen_shift24 x.toNat (by omega) (by omega)
       rw [e] at l ⊢
       exact wrapA 24 _ _ (by decide) l s)
    | (rw [len8g (x / 65536) _, Lib.len8_of (x / 65536) (by omega) (by omega)]
       have e : (x / 65536).toNat = x.toNat / 65536 := by omega
       have l := Lib.bitLen_le8' (x / 65536) (by omega) (by omega)
       have s := Lib.bitLen_shift16 x.toNat (by omega) (by omega)
       rw [e] at l ⊢
       exact wrapA 16 _ _ (by decide) l s)
    | (rw [len8g (x / 256) _, Lib.len8_of (x / 256) (by omega) (by omega)]
       have e : (x / 256).toNat = x.toNat / 256 := by omega
       have l := Lib.bitLen_le8' (x / 256) (by omega) (by omega)
       have s := Lib.bitLen_shift8 x.toNat (by omega) (by omega)
       rw [e] at l ⊢
       exact wrapA 8 _ _ (by decide) l s)
    | (rw [len8g (x) _, Lib.len8_of (x) (by omega) (by omega)]
       have e : (x).toNat = x.toNat := by omega
       have l := Lib.bitLen_le8' (x) (by omega) (by omega)
       rw [e] at l ⊢
       first | exact wrapW _ l | exact wrapA 0 _ _ (by decide) l (by omega) | exact wrapO _ l)
theorem bitLen_log : ∀ x : Nat, x ≠ 0 → x < 2 ^ 64 → Lib.bitLen x = x.log2 + 1 := by
  intro x
  induction x using Nat.strongRecOn with
  | _ x ih =>
    intro h0 h1
    rw [Lib.bitLen_half x h0 h1]
    by_cases h2 : x = 1
    · subst h2; decide
    · have h3 : x / 2 ≠ 0 := by omega
      rw [ih (x / 2) (by omega) h3 (by omega)]
      rw [show x.log2 = (x / 2).log2 + 1 by rw [Nat.log2_def, if_pos (by omega)]]
      omega
theorem len_any (x : Int) (w : World) (h0 : 0 ≤ x) (h1 : x ≤ 18446744073709551615) :
    Calls Tryd.prog 63 #[.int .u64 x] w fun e w' => e = .returned (.int .i64 (Lib.bitLen x.toNat)) ∧ w' = w := by
  go_enter Tryd.func63, Tryd.ntmps63
  go_wp2_with fail
  refine (len64_any x w h0 h1).mono ?_
  rintro e w' ⟨rfl, rfl⟩
  go_wp2_with fail
  go_ret
  exact ⟨rfl, rfl⟩
/-- the greatest power of two below a number -/
def halfN (n : Nat) : Nat := 2 ^ (n - 1).log2
theorem halfN_le (n : Nat) (h : 2 ≤ n) : halfN n ≤ n - 1 := Nat.log2_self_le (by omega)
theorem halfN_pos (n : Nat) : 1 ≤ halfN n := Nat.one_le_two_pow
theorem halfN_twice (n : Nat) (h : 2 ≤ n) : n ≤ 2 * halfN n := by
  have := Nat.lt_log2_self (n := n - 1)
  unfold halfN
  rw [Nat.pow_succ] at this
  omega
set_option maxRecDepth 100000 in
theorem half_any (n : Nat) (h : 2 ≤ n) (hn : n ≤ 4611686018427387904) (w : World) :
    Calls Tryd.prog 50 #[.int .i64 n] w fun e w' => e = .returned (.int .i64 (halfN n)) ∧ w = w' := by
  have hb := bitLen_log (n - 1) (by omega) (by omega)
  obtain ⟨k, hk⟩ : ∃ k, (n - 1).log2 = k := ⟨_, rfl⟩
  have hk61 : k ≤ 61 := by
    have h1 := Nat.log2_self_le (n := n - 1) (by omega)
    rw [hk] at h1
    rcases Nat.lt_or_ge 61 k with h2 | h2
    · have := Nat.pow_le_pow_right (show 0 < 2 by decide) (show 62 ≤ k by omega)
      omega
    · exact h2
  have hh : halfN n = 2 ^ k := by unfold halfN; rw [hk]
  rw [hk] at hb
  obtain ⟨m, hm⟩ : ∃ m : Nat, m = n - 1 := ⟨_, rfl⟩
  have em : (n : Int) - 1 = (m : Int) := by omega
  have hm0 : (0 : Int) ≤ (m : Int) := by omega
  have hm1 : (m : Int) ≤ 18446744073709551615 := by omega
  rw [← hm] at hb
  have Hb := Lib.hid hb
  have Hh := Lib.hid hh
  clear hb hh hm hk h
  go_enter Tryd.func50, Tryd.ntmps50
  go_wp2_with fail
  refine (len_any (m : Int) w hm0 hm1).mono ?_
  rintro e w' ⟨rfl, rfl⟩
  rw [Int.toNat_natCast, Hb.out]
  have e1 : ((k + 1 : Nat) : Int) - 1 = (k : Int) := by omega
  go_wp2_with fail
  go_ret
  refine ⟨?_, rfl⟩
  rw [Hh.out]
  have e2 : ((2 : Int) ^ k) = ((2 ^ k : Nat) : Int) := by simp
  have h61 : 2 ^ k ≤ 2 ^ 61 := Nat.pow_le_pow_right (by decide) hk61
  have e3 : wrap64 ((2 : Int) ^ k) = ((2 ^ k : Nat) : Int) := by
    rw [e2]
    generalize (2 ^ k : Nat) = z at h61
    unfold wrap64
    omega
  rw [e3]; rfl
end Go.Proofs.YtkogehkmldbhgaaDoor

/- Plain Lean: the root of a list of texts. No condition. -/
namespace Go.Proofs.YtkogehkmldbhgaaDoor
def rootF (n : Nat) : Nat → List (List UInt8) → List UInt8
  | 0, _ => []
  | f + 1, l => if l.length ≤ 1 then leafM n (l.headD []) else nodeM n (rootF n f (l.take (halfN l.length))) (rootF n f (l.drop (halfN l.length)))
def rootM (n : Nat) (l : List (List UInt8)) : List UInt8 := if l.length = 0 then sumM n [] else rootF n l.length l
theorem half_parts (l : List (List UInt8)) (h : 2 ≤ l.length) : (l.take (halfN l.length)).length = halfN l.length ∧ (l.drop (halfN l.length)).length = l.length - halfN l.length ∧ 1 ≤ halfN l.length ∧ halfN l.length < l.length := by
  have h1 := halfN_le l.length h
  have h2 := halfN_pos l.length
  refine ⟨by rw [List.length_take]; omega, List.length_drop, h2, by omega⟩
theorem rootF_fuel (n : Nat) : ∀ (f : Nat) (l : List (List UInt8)), 1 ≤ l.length → l.length ≤ f → ∀ g, l.length ≤ g → rootF n f l = rootF n g l := by
  intro f
  induction f with
  | zero => intro l h1 h2; omega
  | succ f ih =>
    intro l h1 h2 g hg
    cases g with
    | zero => omega
    | succ g =>
      unfold rootF
      by_cases h : l.length ≤ 1
      · rw [if_pos h, if_pos h]
      · rw [if_neg h, if_neg h]
        obtain ⟨e1, e2, e3, e4⟩ := half_parts l (by omega)
        rw [ih (l.take (halfN l.length)) (by omega) (by omega) g (by omega), ih (l.drop (halfN l.length)) (by omega) (by omega) g (by omega)]
theorem rootM_one (n : Nat) (b : List UInt8) : rootM n [b] = leafM n b := rfl
theorem rootM_single (n : Nat) (l : List (List UInt8)) (h : l.length = 1) : rootM n l = leafM n (l.getD 0 []) := by
  match l, h with
  | [b], _ => rfl
theorem rootM_nil (n : Nat) : rootM n [] = sumM n [] := rfl
theorem rootM_node (n : Nat) (l : List (List UInt8)) (h : 2 ≤ l.length) : rootM n l = nodeM n (rootM n (l.take (halfN l.length))) (rootM n (l.drop (halfN l.length))) := by
  obtain ⟨e1, e2, e3, e4⟩ := half_parts l h
  have hl : rootM n l = rootF n ((l.length - 1) + 1) l := by unfold rootM; rw [if_neg (by omega), show l.length - 1 + 1 = l.length by omega]
  rw [hl]
  unfold rootF
  rw [if_neg (by omega)]
  unfold rootM
  rw [if_neg (by omega), if_neg (by omega)]
  rw [rootF_fuel n (l.length - 1) (l.take (halfN l.length)) (by omega) (by omega) _ (Nat.le_refl _), rootF_fuel n (l.length - 1) (l.drop (halfN l.length)) (by omega) (by omega) _ (Nat.le_refl _)]
/-- a leaf's path -/
def pathF (n : Nat) : Nat → List (List UInt8) → Nat → List (List UInt8)
  | 0, _, _ => []
  | f + 1, l, i => if l.length ≤ 1 then [] else if i < halfN l.length then pathF n f (l.take (halfN l.length)) i ++ [rootM n (l.drop (halfN l.length))] else pathF n f (l.drop (halfN l.length)) (i - halfN l.length) ++ [rootM n (l.take (halfN l.length))]
def pathM (n : Nat) (l : List (List UInt8)) (i : Nat) : List (List UInt8) := pathF n l.length l i
theorem pathF_fuel (n : Nat) : ∀ (f : Nat) (l : List (List UInt8)) (i : Nat), l.length ≤ f → ∀ g, l.length ≤ g → pathF n f l i = pathF n g l i := by
  intro f
  induction f with
  | zero =>
    intro l i h g hg
    cases g with
    | zero => rfl
    | succ g => unfold pathF; rw [if_pos (by omega)]
  | succ f ih =>
    intro l i h g hg
    cases g with
    | zero => unfold pathF; rw [if_pos (by omega)]
    | succ g =>
      unfold pathF
      by_cases h1 : l.length ≤ 1
      · rw [if_pos h1, if_pos h1]
      · rw [if_neg h1, if_neg h1]
        obtain ⟨e1, e2, e3, e4⟩ := half_parts l (by omega)
        rw [ih (l.take (halfN l.length)) i (by omega) g (by omega), ih (l.drop (halfN l.length)) (i - halfN l.length) (by omega) g (by omega)]
theorem pathM_one (n : Nat) (l : List (List UInt8)) (i : Nat) (h : l.length ≤ 1) : pathM n l i = [] := by
  unfold pathM
  match l, h with
  | [], _ => rfl
  | [b], _ => rfl
  | _ :: _ :: _, h => simp at h
theorem pathM_node (n : Nat) (l : List (List UInt8)) (i : Nat) (h : 2 ≤ l.length) : pathM n l i = if i < halfN l.length then pathM n (l.take (halfN l.length)) i ++ [rootM n (l.drop (halfN l.length))] else pathM n (l.drop (halfN l.length)) (i - halfN l.length) ++ [rootM n (l.take (halfN l.length))] := by
  obtain ⟨e1, e2, e3, e4⟩ := half_parts l h
  have hl : pathM n l i = pathF n ((l.length - 1) + 1) l i := by unfold pathM; rw [show l.length - 1 + 1 = l.length by omega]
  rw [hl]
  unfold pathF
  rw [if_neg (by omega)]
  unfold pathM
  rw [pathF_fuel n (l.length - 1) (l.take (halfN l.length)) i (by omega) _ (Nat.le_refl _), pathF_fuel n (l.length - 1) (l.drop (halfN l.length)) (i - halfN l.length) (by omega) _ (Nat.le_refl _)]
theorem leafM_length (n : Nat) (b : List UInt8) : (leafM n b).length = 32 := sumM_length _ _
theorem nodeM_length (n : Nat) (x y : List UInt8) : (nodeM n x y).length = 32 := sumM_length _ _
theorem rootM_length (n : Nat) (l : List (List UInt8)) : (rootM n l).length = 32 := by
  by_cases h : 2 ≤ l.length
  · rw [rootM_node n l h]; exact nodeM_length _ _ _
  · match l, h with
    | [], _ => exact sumM_length _ _
    | [b], _ => exact leafM_length _ _
    | _ :: _ :: _, h => simp at h
theorem pathM_mem (n : Nat) : ∀ (N : Nat) (l : List (List UInt8)) (i : Nat), l.length ≤ N → ∀ d ∈ pathM n l i, d.length = 32 := by
  intro N
  induction N with
  | zero => intro l i h d hd; rw [pathM_one n l i (by omega)] at hd; cases hd
  | succ N ih =>
    intro l i h d hd
    by_cases h1 : l.length ≤ 1
    · rw [pathM_one n l i h1] at hd; cases hd
    · obtain ⟨e1, e2, e3, e4⟩ := half_parts l (by omega)
      rw [pathM_node n l i (by omega)] at hd
      split at hd
      · rcases List.mem_append.1 hd with hd | hd
        · exact ih _ _ (by omega) d hd
        · rw [List.mem_singleton.1 hd]; exact rootM_length _ _
      · rcases List.mem_append.1 hd with hd | hd
        · exact ih _ _ (by omega) d hd
        · rw [List.mem_singleton.1 hd]; exact rootM_length _ _
/-- a path is no longer than the tree is deep -/
theorem pathM_depth (n : Nat) : ∀ (k : Nat) (l : List (List UInt8)) (i : Nat), l.length ≤ 2 ^ k → (pathM n l i).length ≤ k := by
  intro k
  induction k with
  | zero => intro l i h; rw [pathM_one n l i (by simpa using h)]; exact Nat.zero_le _
  | succ k ih =>
    intro l i h
    by_cases h1 : l.length ≤ 1
    · rw [pathM_one n l i h1]; exact Nat.zero_le _
    · obtain ⟨e1, e2, e3, e4⟩ := half_parts l (by omega)
      have h2 := halfN_twice l.length (by omega)
      have h3 : halfN l.length ≤ 2 ^ k := by
        unfold halfN
        have hlt : (l.length - 1).log2 < k + 1 := (Nat.log2_lt (by omega)).2 (by omega)
        exact Nat.pow_le_pow_right (by decide) (by omega)
      rw [pathM_node n l i (by omega)]
      split
      · have := ih (l.take (halfN l.length)) i (by omega)
        rw [List.length_append]; simp; omega
      · have := ih (l.drop (halfN l.length)) (i - halfN l.length) (by omega)
        rw [List.length_append]; simp; omega
/-- that a list begins with its first leaves -/
def subF (n : Nat) : Nat → List (List UInt8) → Nat → Bool → List (List UInt8)
  | 0, _, _, _ => []
  | f + 1, l, m, b => if m = l.length then (if b then [] else [rootM n l]) else if l.length ≤ 1 then [] else if m ≤ halfN l.length then subF n f (l.take (halfN l.length)) m b ++ [rootM n (l.drop (halfN l.length))] else subF n f (l.drop (halfN l.length)) (m - halfN l.length) false ++ [rootM n (l.take (halfN l.length))]
def subM (n : Nat) (l : List (List UInt8)) (m : Nat) (b : Bool) : List (List UInt8) := subF n (l.length + 1) l m b
theorem subF_fuel (n : Nat) : ∀ (f : Nat) (l : List (List UInt8)) (m : Nat) (b : Bool), l.length < f → ∀ g, l.length < g → subF n f l m b = subF n g l m b := by
  intro f
  induction f with
  | zero => intro l m b h; omega
  | succ f ih =>
    intro l m b h g hg
    cases g with
    | zero => omega
    | succ g =>
      unfold subF
      by_cases h0 : m = l.length
      · rw [if_pos h0, if_pos h0]
      · rw [if_neg h0, if_neg h0]
        by_cases h1 : l.length ≤ 1
        · rw [if_pos h1, if_pos h1]
        · rw [if_neg h1, if_neg h1]
          obtain ⟨e1, e2, e3, e4⟩ := half_parts l (by omega)
          rw [ih (l.take (halfN l.length)) m b (by omega) g (by omega), ih (l.drop (halfN l.length)) (m - halfN l.length) false (by omega) g (by omega)]
theorem subM_all (n : Nat) (l : List (List UInt8)) (m : Nat) (b : Bool) (h : m = l.length) : subM n l m b = if b then [] else [rootM n l] := by
  unfold subM subF; rw [if_pos h]
theorem subM_node (n : Nat) (l : List (List UInt8)) (m : Nat) (b : Bool) (h0 : m ≠ l.length) (h : 2 ≤ l.length) : subM n l m b = if m ≤ halfN l.length then subM n (l.take (halfN l.length)) m b ++ [rootM n (l.drop (halfN l.length))] else subM n (l.drop (halfN l.length)) (m - halfN l.length) false ++ [rootM n (l.take (halfN l.length))] := by
  obtain ⟨e1, e2, e3, e4⟩ := half_parts l h
  have hl : subM n l m b = if m ≤ halfN l.length then subF n l.length (l.take (halfN l.length)) m b ++ [rootM n (l.drop (halfN l.length))] else subF n l.length (l.drop (halfN l.length)) (m - halfN l.length) false ++ [rootM n (l.take (halfN l.length))] := by
    unfold subM
    rw [subF, if_neg h0, if_neg (by omega)]
  rw [hl]
  unfold subM
  rw [subF_fuel n l.length (l.take (halfN l.length)) m b (by omega) ((l.take (halfN l.length)).length + 1) (by omega), subF_fuel n l.length (l.drop (halfN l.length)) (m - halfN l.length) false (by omega) ((l.drop (halfN l.length)).length + 1) (by omega)]
theorem subM_depth (n : Nat) : ∀ (k : Nat) (l : List (List UInt8)) (m : Nat) (b : Bool), 1 ≤ m → m ≤ l.length → l.length ≤ 2 ^ k → (subM n l m b).length ≤ k + 1 := by
  intro k
  induction k with
  | zero =>
    intro l m b h1 h2 h
    rw [subM_all n l m b (by simp at h; omega)]
    split <;> simp
  | succ k ih =>
    intro l m b h1 h2 h
    by_cases h0 : m = l.length
    · rw [subM_all n l m b h0]
      split <;> simp
    · obtain ⟨e1, e2, e3, e4⟩ := half_parts l (by omega)
      have h2' := halfN_twice l.length (by omega)
      have h3 : halfN l.length ≤ 2 ^ k := by
        unfold halfN
        have hlt : (l.length - 1).log2 < k + 1 := (Nat.log2_lt (by omega)).2 (by omega)
        exact Nat.pow_le_pow_right (by decide) (by omega)
      rw [subM_node n l m b h0 (by omega)]
      split
      · have := ih (l.take (halfN l.length)) m b h1 (by omega) (by omega)
        rw [List.length_append]; simp; omega
      · have := ih (l.drop (halfN l.length)) (m - halfN l.length) false (by omega) (by omega) (by omega)
        rw [List.length_append]; simp; omega
theorem subM_mem (n : Nat) : ∀ (N : Nat) (l : List (List UInt8)) (m : Nat) (b : Bool), l.length ≤ N → ∀ d ∈ subM n l m b, d.length = 32 := by
  intro N
  induction N with
  | zero =>
    intro l m b h d hd
    by_cases h0 : m = l.length
    · rw [subM_all n l m b h0] at hd
      split at hd
      · cases hd
      · rw [List.mem_singleton.1 hd]; exact rootM_length _ _
    · unfold subM subF at hd
      rw [if_neg h0, if_pos (by omega)] at hd; cases hd
  | succ N ih =>
    intro l m b h d hd
    by_cases h0 : m = l.length
    · rw [subM_all n l m b h0] at hd
      split at hd
      · cases hd
      · rw [List.mem_singleton.1 hd]; exact rootM_length _ _
    · by_cases h1 : l.length ≤ 1
      · unfold subM subF at hd
        rw [if_neg h0, if_pos h1] at hd; cases hd
      · obtain ⟨e1, e2, e3, e4⟩ := half_parts l (by omega)
        rw [subM_node n l m b h0 (by omega)] at hd
        split at hd
        · rcases List.mem_append.1 hd with hd | hd
          · exact ih _ _ _ (by omega) d hd
          · rw [List.mem_singleton.1 hd]; exact rootM_length _ _
        · rcases List.mem_append.1 hd with hd | hd
          · exact ih _ _ _ (by omega) d hd
          · rw [List.mem_singleton.1 hd]; exact rootM_length _ _
end Go.Proofs.YtkogehkmldbhgaaDoor

/- Ranges in plain Lean: blocks, and how ranges are joined. No condition. -/
namespace Go.Proofs.YtkogehkmldbhgaaDoor
open Go.RowKit
/-- powers of two: which divides which -/
theorem p2_le {j k : Nat} (h : (2 : Nat) ^ j ≤ 2 ^ k) : j ≤ k := (Nat.pow_le_pow_iff_right (by decide)).1 h
theorem p2_dvd {j k : Nat} (h : j ≤ k) : (2 : Nat) ^ j ∣ 2 ^ k := Nat.pow_dvd_pow 2 h
theorem p2_pos (k : Nat) : 0 < (2 : Nat) ^ k := Nat.two_pow_pos k
theorem p2_lt {j k : Nat} (h : j < k) : 2 * (2 : Nat) ^ j ≤ 2 ^ k := by
  rw [← Nat.pow_succ']; exact Nat.pow_le_pow_right (by decide) h
theorem p2_succ (k : Nat) : (2 : Nat) ^ (k + 1) = 2 * 2 ^ k := Nat.pow_succ'
/-- the greatest block at a place: 2 ^ k -/
def IsBlk (a e k : Nat) : Prop := 2 ^ k ∣ a ∧ a + 2 ^ k ≤ e ∧ ∀ j, 2 ^ j ∣ a → a + 2 ^ j ≤ e → j ≤ k
theorem IsBlk.uniq {a e j k : Nat} (h : IsBlk a e j) (h' : IsBlk a e k) : j = k := Nat.le_antisymm (h'.2.2 j h.1 h.2.1) (h.2.2 k h'.1 h'.2.1)
/-- found from above: it grows while it may -/
theorem IsBlk.mk' {a e k : Nat} (h1 : 2 ^ k ∣ a) (h2 : a + 2 ^ k ≤ e) (h3 : ¬(2 * 2 ^ k ∣ a ∧ a + 2 * 2 ^ k ≤ e)) : IsBlk a e k := by
  refine ⟨h1, h2, fun j hj1 hj2 => Nat.le_of_not_lt fun hlt => h3 ?_⟩
  have h4 := p2_lt hlt
  have h5 : 2 * 2 ^ k ∣ 2 ^ j := by rw [← p2_succ]; exact p2_dvd hlt
  exact ⟨Nat.dvd_trans h5 hj1, by omega⟩
def blkF : Nat → Nat → Nat → Nat
  | 0, _, _ => 0
  | k + 1, a, e => if 2 ^ (k + 1) ∣ a ∧ a + 2 ^ (k + 1) ≤ e then k + 1 else blkF k a e
theorem blkF_le : ∀ k a e, blkF k a e ≤ k
  | 0, _, _ => Nat.le_refl 0
  | k + 1, a, e => by
    unfold blkF
    split
    · exact Nat.le_refl _
    · exact Nat.le_succ_of_le (blkF_le k a e)
theorem blkF_ok : ∀ k a e, a < e → 2 ^ blkF k a e ∣ a ∧ a + 2 ^ blkF k a e ≤ e ∧ ∀ j, j ≤ k → 2 ^ j ∣ a → a + 2 ^ j ≤ e → j ≤ blkF k a e
  | 0, a, e, h => ⟨by simp [blkF], by simp [blkF]; omega, fun j hj _ _ => by simp [blkF]; omega⟩
  | k + 1, a, e, h => by
    unfold blkF
    split
    · rename_i hc
      exact ⟨hc.1, hc.2, fun j hj _ _ => hj⟩
    · rename_i hc
      obtain ⟨h1, h2, h3⟩ := blkF_ok k a e h
      refine ⟨h1, h2, fun j hj hj1 hj2 => ?_⟩
      rcases Nat.lt_or_ge k j with hk | hk
      · have : j = k + 1 := by omega
        subst this
        exact (hc ⟨hj1, hj2⟩).elim
      · exact h3 j hk hj1 hj2
theorem blk_is {a e : Nat} (h : a < e) : IsBlk a e (blkF e a e) := by
  obtain ⟨h1, h2, h3⟩ := blkF_ok e a e h
  exact ⟨h1, h2, fun j hj1 hj2 => h3 j (by have := Nat.lt_two_pow_self (n := j); omega) hj1 hj2⟩
/-- a range's blocks -/
def blocksF : Nat → Nat → Nat → List Nat
  | 0, _, _ => []
  | f + 1, a, e => if a < e then 2 ^ blkF e a e :: blocksF f (a + 2 ^ blkF e a e) e else []
def blocksL (a e : Nat) : List Nat := blocksF (e - a) a e
theorem blocksF_fuel : ∀ f g a e, e - a ≤ f → e - a ≤ g → blocksF f a e = blocksF g a e
  | 0, g, a, e, hf, _ => by
    cases g with
    | zero => rfl
    | succ g => unfold blocksF; rw [if_neg (by omega)]
  | f + 1, g, a, e, hf, hg => by
    cases g with
    | zero => unfold blocksF; rw [if_neg (by omega)]
    | succ g =>
      unfold blocksF
      split
      · have := p2_pos (blkF e a e)
        rw [blocksF_fuel f g _ e (by omega) (by omega)]
      · rfl
theorem blocksL_nil {a e : Nat} (h : e ≤ a) : blocksL a e = [] := by
  unfold blocksL; rw [show e - a = 0 by omega]; rfl
theorem blocksL_cons {a e k : Nat} (h : IsBlk a e k) : blocksL a e = 2 ^ k :: blocksL (a + 2 ^ k) e := by
  have hp := p2_pos k
  have hlt : a < e := by have := h.2.1; omega
  have hk := (blk_is hlt).uniq h
  show blocksF (e - a) a e = _
  rw [blocksF_fuel (e - a) ((e - a - 1) + 1) a e (by omega) (by omega)]
  show (if a < e then _ else _) = _
  rw [if_pos hlt, hk]
  congr 1
  exact blocksF_fuel _ _ _ _ (by omega) (Nat.le_refl _)
/-- a tiling by powers of two at their places in which no two neighbours may become one -/
def Red : Nat → Nat → List Nat → Prop
  | a, e, [] => a = e
  | a, e, s :: l => (∃ k, s = 2 ^ k) ∧ s ∣ a ∧ ¬(l.head? = some s ∧ 2 * s ∣ a) ∧ Red (a + s) e l
theorem Red.le : ∀ {l : List Nat} {a e : Nat}, Red a e l → a ≤ e
  | [], _, _, h => Nat.le_of_eq h
  | s :: l, a, e, h => by have := Red.le h.2.2.2; omega
theorem Red.first : ∀ (k : Nat) {x e : Nat} {l : List Nat}, 2 ^ k ∣ x → x + 2 ^ k ≤ e → Red x e l → ∃ s l', l = s :: l' ∧ 2 ^ k ≤ s
  | 0, x, e, l, _, h2, h => by
    cases l with
    | nil => have : x = e := h; simp at h2; omega
    | cons s l =>
      obtain ⟨⟨k, rfl⟩, _⟩ := h
      exact ⟨_, _, rfl, p2_pos k⟩
  | k + 1, x, e, l, h1, h2, h => by
    have hp := p2_pos k
    have e1 := p2_succ k
    obtain ⟨t, l', rfl, ht⟩ := Red.first k (Nat.dvd_trans (p2_dvd (Nat.le_succ k)) h1) (by omega) h
    obtain ⟨⟨j, rfl⟩, hd, hno, hr⟩ := h
    rcases Nat.lt_or_ge k j with hkj | hkj
    · exact ⟨_, _, rfl, Nat.pow_le_pow_right (by decide) hkj⟩
    · have hj : j = k := Nat.le_antisymm hkj (p2_le ht)
      subst hj
      obtain ⟨t', l'', rfl, ht'⟩ := Red.first j (Nat.dvd_add hd (Nat.dvd_refl _)) (by omega) hr
      obtain ⟨⟨i, rfl⟩, hd', _⟩ := hr
      exfalso
      have hji : j ≤ i := p2_le ht'
      rcases Nat.lt_or_ge j i with hlt | hge
      · have h5 : 2 ^ (j + 1) ∣ x + 2 ^ j := Nat.dvd_trans (p2_dvd hlt) hd'
        have h6 : 2 ^ (j + 1) ∣ 2 ^ j := (Nat.dvd_add_right h1).1 h5
        have := Nat.le_of_dvd hp h6
        omega
      · have : i = j := Nat.le_antisymm hge hji
        subst this
        exact hno ⟨rfl, by rw [← e1]; exact h1⟩
theorem Red.blk {a e s : Nat} {l : List Nat} (h : Red a e (s :: l)) : ∃ k, s = 2 ^ k ∧ IsBlk a e k := by
  obtain ⟨⟨k, rfl⟩, hd, hno, hr⟩ := h
  refine ⟨k, rfl, hd, hr.le, fun j hj1 hj2 => ?_⟩
  obtain ⟨s', l', he, hle⟩ := Red.first j hj1 hj2 (show Red a e (2 ^ k :: l) from ⟨⟨k, rfl⟩, hd, hno, hr⟩)
  injection he with h1 _
  subst h1
  exact p2_le hle
theorem Red.eq : ∀ {l : List Nat} {a e : Nat}, Red a e l → l = blocksL a e
  | [], a, e, h => (blocksL_nil (Nat.le_of_eq (Eq.symm h))).symm
  | s :: l, a, e, h => by
    obtain ⟨k, rfl, hb⟩ := h.blk
    rw [blocksL_cons hb, ← Red.eq h.2.2.2]
theorem blocks_red : ∀ (n a e : Nat), e - a ≤ n → a ≤ e → Red a e (blocksL a e)
  | 0, a, e, hn, h => by
    have : a = e := by omega
    subst this
    rw [blocksL_nil (Nat.le_refl _)]
    exact rfl
  | n + 1, a, e, hn, h => by
    rcases Nat.lt_or_ge a e with hlt | hge
    · have hb := blk_is hlt
      generalize blkF e a e = k at hb
      have hp := p2_pos k
      have hr := blocks_red n (a + 2 ^ k) e (by omega) hb.2.1
      rw [blocksL_cons hb]
      refine ⟨⟨k, rfl⟩, hb.1, fun ⟨h1, h2⟩ => ?_, hr⟩
      generalize blocksL (a + 2 ^ k) e = l at h1 hr
      cases l with
      | nil => cases h1
      | cons s l =>
        injection h1 with h1
        subst h1
        have := hr.2.2.2.le
        rw [← p2_succ] at h2
        have h5 := hb.2.2 (k + 1) h2 (by rw [p2_succ]; omega)
        omega
    · have : a = e := by omega
      subst this
      rw [blocksL_nil (Nat.le_refl _)]
      exact rfl
theorem blocks_ok {a e : Nat} (h : a ≤ e) : Red a e (blocksL a e) := blocks_red _ a e (Nat.le_refl _) h
/-- how many there are, from a place that is a multiple of more than the range -/
theorem Red.few : ∀ (k : Nat) {x e : Nat} {l : List Nat}, Red x e l → 2 ^ k ∣ x → e < x + 2 ^ k → l.length ≤ k
  | 0, x, e, l, h, _, h2 => by
    cases l with
    | nil => exact Nat.le_refl _
    | cons s l => have := h.2.2.2.le; obtain ⟨⟨k, rfl⟩, _⟩ := h; have := p2_pos k; simp at h2; omega
  | k + 1, x, e, l, h, h1, h2 => by
    have e1 := p2_succ k
    have hd : 2 ^ k ∣ x := Nat.dvd_trans (p2_dvd (Nat.le_succ k)) h1
    rcases Nat.lt_or_ge e (x + 2 ^ k) with hlt | hge
    · exact Nat.le_succ_of_le (Red.few k h hd hlt)
    · obtain ⟨s, l', rfl, hs⟩ := Red.first k hd hge h
      have hr := h.2.2.2
      have := hr.le
      obtain ⟨⟨j, rfl⟩, _⟩ := h
      have hj : j = k := by
        rcases Nat.lt_or_ge k j with hkj | hkj
        · have := p2_lt hkj; omega
        · exact Nat.le_antisymm hkj (p2_le hs)
      subst hj
      have := Red.few j hr (Nat.dvd_add hd (Nat.dvd_refl _)) (by omega)
      simp only [List.length_cons]
      omega
/-- how many there are in all: twice the depth -/
theorem Red.many (K : Nat) : ∀ {l : List Nat} {a e j : Nat}, Red a e l → e ≤ 2 ^ K → j ≤ K → 2 ^ j ∣ a → a < e → l.length + j ≤ 2 * K ∨ l.length ≤ 1
  | [], _, _, _, _, _, _, _, _ => .inr (Nat.zero_le _)
  | s :: l, a, e, j, h, he, hjK, hj, hlt => by
    have hh := h
    have hle := h.2.2.2.le
    obtain ⟨⟨i, rfl⟩, hd, hno, hr⟩ := h
    have hiK : i ≤ K := p2_le (by omega)
    rcases Nat.eq_or_lt_of_le hle with heq | hlt2
    · -- the last one
      rw [← heq] at hr
      cases l with
      | nil => exact .inr (Nat.le_refl _)
      | cons t l => have := hr.2.2.2.le; obtain ⟨⟨m, rfl⟩, _⟩ := hr; have := p2_pos m; omega
    · have hi1 : i < K := by
        rcases Nat.lt_or_ge i K with h1 | h1
        · exact h1
        · have := Nat.le_antisymm hiK h1; subst this; omega
      by_cases h2 : 2 ^ (i + 1) ∣ a
      · left
        have hb := hh.blk
        obtain ⟨k, hk, hb⟩ := hb
        have hik : i = k := Nat.le_antisymm (p2_le (Nat.le_of_eq hk)) (p2_le (Nat.le_of_eq hk.symm))
        subst hik
        have h3 : e < a + 2 ^ (i + 1) := Nat.lt_of_not_le fun h4 => by have := hb.2.2 (i + 1) h2 h4; omega
        have h4 := Red.few (i + 1) hh h2 h3
        omega
      · have hji : j ≤ i := Nat.le_of_not_lt fun h3 => h2 (Nat.dvd_trans (p2_dvd h3) hj)
        have h5 : 2 ^ (i + 1) ∣ a + 2 ^ i := by
          obtain ⟨c, rfl⟩ := hd
          rw [p2_succ] at h2 ⊢
          have hodd : c % 2 = 1 := by
            rcases Nat.mod_two_eq_zero_or_one c with h6 | h6
            · exact (h2 ⟨c / 2, by rw [show 2 ^ i * c = 2 ^ i * (2 * (c / 2)) by rw [show 2 * (c / 2) = c by omega]]; rw [← Nat.mul_assoc, Nat.mul_comm (2 ^ i) 2]⟩).elim
            · exact h6
          refine ⟨(c + 1) / 2, ?_⟩
          rw [Nat.mul_comm 2, Nat.mul_assoc, show 2 * ((c + 1) / 2) = c + 1 by omega, Nat.mul_add, Nat.mul_one]
        rcases Red.many K hr he (by omega) h5 hlt2 with h6 | h6
        · left; simp only [List.length_cons]; omega
        · left; simp only [List.length_cons]; omega
/-- tiles: powers of two at their places -/
def Til : Nat → Nat → List Nat → Prop
  | a, e, [] => a = e
  | a, e, s :: l => (∃ k, s = 2 ^ k) ∧ s ∣ a ∧ Til (a + s) e l
theorem Red.til : ∀ {l : List Nat} {a e : Nat}, Red a e l → Til a e l
  | [], _, _, h => h
  | _ :: _, _, _, h => ⟨h.1, h.2.1, Red.til h.2.2.2⟩
theorem Til.append : ∀ {l m : List Nat} {a b e : Nat}, Til a b l → Til b e m → Til a e (l ++ m)
  | [], _, _, _, _, h, h' => by have h : _ = _ := h; subst h; exact h'
  | _ :: _, _, _, _, _, h, h' => ⟨h.1, h.2.1, Til.append h.2.2 h'⟩
theorem Til.le : ∀ {l : List Nat} {a e : Nat}, Til a e l → a ≤ e
  | [], _, _, h => Nat.le_of_eq h
  | s :: l, a, e, h => by have := Til.le h.2.2; omega
theorem Red.snoc : ∀ {l : List Nat} {a q k : Nat}, Red a q l → 2 ^ k ∣ q → (∀ l0 s, l = l0 ++ [s] → ¬(s = 2 ^ k ∧ 2 * s ∣ q - s)) → Red a (q + 2 ^ k) (l ++ [2 ^ k])
  | [], a, q, k, h, hd, _ => by
    have h : a = q := h
    subst h
    exact ⟨⟨k, rfl⟩, hd, (fun h => by cases h.1), rfl⟩
  | s :: l, a, q, k, h, hd, hno => by
    refine ⟨h.1, h.2.1, fun hm => ?_, Red.snoc h.2.2.2 hd (fun l0 s' e => hno (s :: l0) s' (by rw [e]; rfl))⟩
    cases l with
    | nil =>
      have h4 : a + s = q := h.2.2.2
      have h5 : 2 ^ k = s := by have := hm.1; simpa using this
      exact hno [] s rfl ⟨h5.symm, by rw [← h4, Nat.add_sub_cancel]; exact hm.2⟩
    | cons t l => exact h.2.2.1 ⟨by have := hm.1; simpa using this, hm.2⟩
/-- a block's hash out of the tiles that lie in it -/
inductive Gath (nd : List UInt8 → List UInt8 → List UInt8) : Nat → List (Nat × List UInt8) → List UInt8 → Prop
  | tile (k : Nat) (d : List UInt8) : Gath nd k [(2 ^ k, d)] d
  | node {k : Nat} {l m : List (Nat × List UInt8)} {a b : List UInt8} : Gath nd k l a → Gath nd k m b → Gath nd (k + 1) (l ++ m) (nd a b)
theorem Gath.head {nd : List UInt8 → List UInt8 → List UInt8} {k : Nat} {l : List (Nat × List UInt8)} {d : List UInt8} (h : Gath nd k l d) : ∃ j d' l', l = (2 ^ j, d') :: l' ∧ j ≤ k := by
  induction h with
  | tile k d => exact ⟨k, d, [], rfl, Nat.le_refl _⟩
  | node _ _ h1 _ => obtain ⟨j, d', l', rfl, hj⟩ := h1; exact ⟨j, d', _, rfl, by omega⟩
/-- the stack of blocks, the last one ahead -/
def pushF (nd : List UInt8 → List UInt8 → List UInt8) : List (Nat × List UInt8) → Nat → Nat → List UInt8 → List (Nat × List UInt8)
  | [], _, s, h => [(s, h)]
  | (t, d) :: st, p, s, h => if t = s ∧ (p - s) % (2 * s) = 0 then pushF nd st (p - s) (2 * s) (nd d h) else (s, h) :: (t, d) :: st
def joinF (nd : List UInt8 → List UInt8 → List UInt8) : List (Nat × List UInt8) → Nat → List (Nat × List UInt8) → List (Nat × List UInt8)
  | st, _, [] => st
  | st, p, (s, h) :: r => joinF nd (pushF nd st p s h) (p + s) r
inductive Stk (nd : List UInt8 → List UInt8 → List UInt8) (a : Nat) : Nat → List (Nat × List UInt8) → List (Nat × List UInt8) → Prop
  | nil : Stk nd a a [] []
  | cons {q k : Nat} {st ts g : List (Nat × List UInt8)} {d : List UInt8} : Stk nd a q st ts → Gath nd k g d → 2 ^ k ∣ q → (∀ t c st', st = (t, c) :: st' → ¬(t = 2 ^ k ∧ 2 * t ∣ q - t)) → Stk nd a (q + 2 ^ k) ((2 ^ k, d) :: st) (ts ++ g)
theorem Stk.push {nd : List UInt8 → List UInt8 → List UInt8} {a : Nat} {p : Nat} {st ts : List (Nat × List UInt8)} (h : Stk nd a p st ts) : ∀ {k : Nat} {g : List (Nat × List UInt8)} {d : List UInt8}, Gath nd k g d → 2 ^ k ∣ p → Stk nd a (p + 2 ^ k) (pushF nd st p (2 ^ k) d) (ts ++ g) := by
  induction h with
  | nil => intro k g d hg hd; exact .cons .nil hg hd (fun _ _ _ e => by cases e)
  | @cons q j st ts g' d' hs hg' hd' hno ih =>
    intro k g d hg hd
    unfold pushF
    split
    · rename_i hc
      have hjk : j = k := Nat.le_antisymm (p2_le (Nat.le_of_eq hc.1)) (p2_le (Nat.le_of_eq hc.1.symm))
      subst hjk
      have e1 : q + 2 ^ j - 2 ^ j = q := Nat.add_sub_cancel ..
      rw [e1] at hc ⊢
      have h2 : 2 ^ (j + 1) ∣ q := by rw [p2_succ]; exact Nat.dvd_of_mod_eq_zero hc.2
      have := ih (Gath.node hg' hg) h2
      rw [p2_succ] at this
      rw [show q + 2 ^ j + 2 ^ j = q + 2 * 2 ^ j by omega, List.append_assoc]
      exact this
    · rename_i hc
      refine .cons (.cons hs hg' hd' hno) hg hd (fun t c st' e hm => hc ?_)
      injection e with e1 e2
      injection e1 with e1 _
      subst e1
      refine ⟨hm.1, ?_⟩
      rw [← hm.1]
      exact Nat.mod_eq_zero_of_dvd hm.2
theorem Stk.join {nd : List UInt8 → List UInt8 → List UInt8} {a : Nat} : ∀ {r : List (Nat × List UInt8)} {p e : Nat} {st ts : List (Nat × List UInt8)}, Stk nd a p st ts → Til p e (r.map Prod.fst) → Stk nd a e (joinF nd st p r) (ts ++ r)
  | [], p, e, st, ts, h, ht => by
    have ht : p = e := ht
    subst ht
    rw [List.append_nil]; exact h
  | (s, d) :: r, p, e, st, ts, h, ht => by
    obtain ⟨⟨k, hk⟩, hd, hr⟩ := ht
    have hk : s = 2 ^ k := hk
    subst hk
    have := Stk.join (h.push (.tile k d) hd) hr
    rw [List.append_assoc] at this
    exact this
theorem Stk.red {nd : List UInt8 → List UInt8 → List UInt8} {a p : Nat} {st ts : List (Nat × List UInt8)} (h : Stk nd a p st ts) : Red a p (st.reverse.map Prod.fst) := by
  induction h with
  | nil => exact rfl
  | @cons q k st ts g d hs hg hd hno ih =>
    rw [List.reverse_cons, List.map_append]
    refine ih.snoc hd (fun l0 s e hm => ?_)
    cases st with
    | nil => simp at e
    | cons x st =>
      obtain ⟨t, c⟩ := x
      rw [List.reverse_cons, List.map_append] at e
      have e2 := List.append_inj_right' e rfl
      have e3 : t = s := by simpa using e2
      subst e3
      exact hno t c st rfl hm
theorem Stk.runs {nd : List UInt8 → List UInt8 → List UInt8} {a p : Nat} {st ts : List (Nat × List UInt8)} (h : Stk nd a p st ts) : ∃ rs : List (Nat × List (Nat × List UInt8) × List UInt8), (∀ r ∈ rs, Gath nd r.1 r.2.1 r.2.2) ∧ st.reverse = rs.map (fun r => (2 ^ r.1, r.2.2)) ∧ ts = (rs.map (fun r => r.2.1)).flatten := by
  induction h with
  | nil => exact ⟨[], (fun _ h => by cases h), rfl, rfl⟩
  | @cons q k st ts g d hs hg hd hno ih =>
    obtain ⟨rs, h1, h2, h3⟩ := ih
    refine ⟨rs ++ [(k, g, d)], fun r hr => ?_, ?_, ?_⟩
    · rcases List.mem_append.1 hr with h | h
      · exact h1 r h
      · rw [List.mem_singleton.1 h]; exact hg
    · rw [List.reverse_cons, h2, List.map_append]; rfl
    · rw [List.map_append, List.flatten_append, ← h3]; simp
/-- hashes that are a function of the place and the size -/
def Val (f : Nat → Nat → List UInt8) : Nat → List (Nat × List UInt8) → Prop
  | _, [] => True
  | p, (s, d) :: r => d = f p s ∧ Val f (p + s) r
def sumT (l : List (Nat × List UInt8)) : Nat := (l.map Prod.fst).sum
theorem Val.append {f : Nat → Nat → List UInt8} : ∀ {l m : List (Nat × List UInt8)} {p : Nat}, Val f p (l ++ m) ↔ Val f p l ∧ Val f (p + sumT l) m
  | [], m, p => by simp [Val, sumT]
  | (s, d) :: l, m, p => by
    show (d = f p s ∧ Val f (p + s) (l ++ m)) ↔ (d = f p s ∧ Val f (p + s) l) ∧ _
    rw [Val.append, and_assoc, show p + sumT ((s, d) :: l) = p + s + sumT l by simp [sumT]; omega]
theorem Gath.sum {nd : List UInt8 → List UInt8 → List UInt8} {k : Nat} {l : List (Nat × List UInt8)} {d : List UInt8} (h : Gath nd k l d) : sumT l = 2 ^ k := by
  induction h with
  | tile k d => simp [sumT]
  | node _ _ h1 h2 => rw [p2_succ]; unfold sumT at h1 h2 ⊢; rw [List.map_append, List.sum_append, h1, h2]; omega
theorem Gath.val {nd : List UInt8 → List UInt8 → List UInt8} {f : Nat → Nat → List UInt8} {N : Nat} (hf : ∀ p k, p + 2 ^ (k + 1) ≤ N → f p (2 ^ (k + 1)) = nd (f p (2 ^ k)) (f (p + 2 ^ k) (2 ^ k))) {k : Nat} {l : List (Nat × List UInt8)} {d : List UInt8} (h : Gath nd k l d) : ∀ {p : Nat}, Val f p l → p + 2 ^ k ≤ N → d = f p (2 ^ k) := by
  induction h with
  | tile k d => intro p hv _; exact hv.1
  | @node k l m a b h1 h2 i1 i2 =>
    intro p hv hp
    have hs := h1.sum
    rw [Val.append, hs] at hv
    have := p2_succ k
    rw [hf p k hp, ← i1 hv.1 (by omega), ← i2 hv.2 (by omega)]
theorem Stk.sum {nd : List UInt8 → List UInt8 → List UInt8} {a p : Nat} {st ts : List (Nat × List UInt8)} (h : Stk nd a p st ts) : a + sumT st = p ∧ a + sumT ts = p := by
  induction h with
  | nil => simp [sumT]
  | @cons q k st ts g d hs hg hd hno ih =>
    have h1 := hg.sum
    unfold sumT at *
    simp only [List.map_cons, List.sum_cons, List.map_append, List.sum_append]
    omega
theorem sumT_reverse (l : List (Nat × List UInt8)) : sumT l.reverse = sumT l := by
  unfold sumT; rw [List.map_reverse, List.sum_reverse]
theorem Stk.val {nd : List UInt8 → List UInt8 → List UInt8} {f : Nat → Nat → List UInt8} {N : Nat} (hf : ∀ p k, p + 2 ^ (k + 1) ≤ N → f p (2 ^ (k + 1)) = nd (f p (2 ^ k)) (f (p + 2 ^ k) (2 ^ k))) {a p : Nat} {st ts : List (Nat × List UInt8)} (h : Stk nd a p st ts) (hp : p ≤ N) (hv : Val f a ts) : Val f a st.reverse := by
  induction h with
  | nil => trivial
  | @cons q k st ts g d hs hg hd hno ih =>
    rw [Val.append] at hv
    have h1 := hs.sum
    rw [h1.2] at hv
    rw [List.reverse_cons, Val.append, sumT_reverse, h1.1]
    exact ⟨ih (by omega) hv.1, hg.val hf hv.2 hp, trivial⟩
/-- the hashes of a range's blocks -/
def valsL (f : Nat → Nat → List UInt8) : Nat → List Nat → List (List UInt8)
  | _, [] => []
  | p, s :: l => f p s :: valsL f (p + s) l
theorem valsL_length (f : Nat → Nat → List UInt8) : ∀ (l : List Nat) (p : Nat), (valsL f p l).length = l.length
  | [], _ => rfl
  | s :: l, p => congrArg (· + 1) (valsL_length f l (p + s))
theorem Val.eq {f : Nat → Nat → List UInt8} : ∀ {l : List (Nat × List UInt8)} {p : Nat}, Val f p l → l.map Prod.snd = valsL f p (l.map Prod.fst)
  | [], _, _ => rfl
  | (s, d) :: l, p, h => by
    show d :: _ = f p s :: _
    rw [h.1, Val.eq h.2]
theorem Val.of (f : Nat → Nat → List UInt8) : ∀ (l : List Nat) (p : Nat), Val f p (l.zip (valsL f p l))
  | [], _ => trivial
  | s :: l, p => ⟨rfl, Val.of f l (p + s)⟩
end Go.Proofs.YtkogehkmldbhgaaDoor

/- Ranges of a list's leaves, in plain Lean. No condition. -/
namespace Go.Proofs.YtkogehkmldbhgaaDoor
open Go.RowKit
theorem half_btw {n K : Nat} (h1 : 2 ^ K < n) (h2 : n ≤ 2 * 2 ^ K) : halfN n = 2 ^ K := by
  unfold halfN
  have h0 := p2_pos K
  have h3 : (n - 1).log2 = K := (Nat.log2_eq_iff (by omega)).2 ⟨by omega, by rw [p2_succ]; omega⟩
  rw [h3]
/-- the root of so many leaves from a place on -/
def segM (c : Nat) (l : List (List UInt8)) (p s : Nat) : List UInt8 := rootM c ((l.drop p).take s)
theorem segM_length (c : Nat) (l : List (List UInt8)) (p s : Nat) : (segM c l p s).length = 32 := rootM_length _ _
theorem segM_two (c : Nat) (l : List (List UInt8)) (p s K : Nat) (h1 : 2 ^ K < s) (h2 : s ≤ 2 * 2 ^ K) (h3 : p + s ≤ l.length) : segM c l p s = nodeM c (segM c l p (2 ^ K)) (segM c l (p + 2 ^ K) (s - 2 ^ K)) := by
  have h0 := p2_pos K
  have hl : ((l.drop p).take s).length = s := by rw [List.length_take, List.length_drop]; omega
  have := rootM_node c ((l.drop p).take s) (by omega)
  rw [hl, half_btw h1 h2, List.take_take, List.drop_take, List.drop_drop, show min (2 ^ K) s = 2 ^ K by omega] at this
  exact this
theorem segM_node (c : Nat) (l : List (List UInt8)) : ∀ p k, p + 2 ^ (k + 1) ≤ l.length → segM c l p (2 ^ (k + 1)) = nodeM c (segM c l p (2 ^ k)) (segM c l (p + 2 ^ k) (2 ^ k)) := by
  intro p k h
  have h0 := p2_pos k
  have e := p2_succ k
  rw [e] at h ⊢
  have := segM_two c l p (2 * 2 ^ k) k (by omega) (Nat.le_refl _) h
  rw [show 2 * 2 ^ k - 2 ^ k = 2 ^ k by omega] at this
  exact this
/-- a range of leaves: its blocks' roots -/
def rangeM (c : Nat) (l : List (List UInt8)) (a e : Nat) : List (List UInt8) := valsL (segM c l) a (blocksL a e)
theorem rangeM_length (c : Nat) (l : List (List UInt8)) (a e : Nat) : (rangeM c l a e).length = (blocksL a e).length := valsL_length _ _ _
theorem valsL_mem {f : Nat → Nat → List UInt8} (hf : ∀ p s, (f p s).length = 32) : ∀ {l : List Nat} {p : Nat}, ∀ d ∈ valsL f p l, d.length = 32
  | [], _, _, h => by cases h
  | s :: l, p, d, h => by
    rcases List.mem_cons.1 h with rfl | h
    · exact hf p s
    · exact valsL_mem hf d h
theorem rangeM_mem (c : Nat) (l : List (List UInt8)) (a e : Nat) : ∀ d ∈ rangeM c l a e, d.length = 32 := valsL_mem (segM_length c l)
/-- two ranges side by side, put together -/
def joinT (a m e : Nat) (x y : List (List UInt8)) : List (Nat × List UInt8) := (blocksL a m).zip x ++ (blocksL m e).zip y
def joinM (c a m e : Nat) (x y : List (List UInt8)) : List (List UInt8) := (joinF (nodeM c) [] a (joinT a m e x y)).reverse.map Prod.snd
theorem zip_fst {x : List Nat} {y : List (List UInt8)} (h : y.length = x.length) : (x.zip y).map Prod.fst = x := List.map_fst_zip (Nat.le_of_eq h.symm)
theorem joinT_til {a m e : Nat} {x y : List (List UInt8)} (h1 : a ≤ m) (h2 : m ≤ e) (hx : x.length = (blocksL a m).length) (hy : y.length = (blocksL m e).length) : Til a e ((joinT a m e x y).map Prod.fst) := by
  unfold joinT
  rw [List.map_append, zip_fst hx, zip_fst hy]
  exact (blocks_ok h1).til.append (blocks_ok h2).til
theorem join_stk (c : Nat) {a m e : Nat} {x y : List (List UInt8)} (h1 : a ≤ m) (h2 : m ≤ e) (hx : x.length = (blocksL a m).length) (hy : y.length = (blocksL m e).length) : Stk (nodeM c) a e (joinF (nodeM c) [] a (joinT a m e x y)) (joinT a m e x y) := by
  have := Stk.join (nd := nodeM c) .nil (joinT_til h1 h2 hx hy)
  exact this
theorem join_blocks (c : Nat) {a m e : Nat} {x y : List (List UInt8)} (h1 : a ≤ m) (h2 : m ≤ e) (hx : x.length = (blocksL a m).length) (hy : y.length = (blocksL m e).length) : (joinF (nodeM c) [] a (joinT a m e x y)).reverse.map Prod.fst = blocksL a e := (join_stk c h1 h2 hx hy).red.eq
theorem joinM_length (c : Nat) {a m e : Nat} {x y : List (List UInt8)} (h1 : a ≤ m) (h2 : m ≤ e) (hx : x.length = (blocksL a m).length) (hy : y.length = (blocksL m e).length) : (joinM c a m e x y).length = (blocksL a e).length := by
  rw [← join_blocks c h1 h2 hx hy]; simp [joinM]
theorem joinM_range (c : Nat) (l : List (List UInt8)) {a m e : Nat} (h1 : a ≤ m) (h2 : m ≤ e) (h3 : e ≤ l.length) : joinM c a m e (rangeM c l a m) (rangeM c l m e) = rangeM c l a e := by
  have hs := join_stk c h1 h2 (rangeM_length c l a m) (rangeM_length c l m e)
  have hb := join_blocks c h1 h2 (rangeM_length c l a m) (rangeM_length c l m e)
  have hv : Val (segM c l) a (joinT a m e (rangeM c l a m) (rangeM c l m e)) := by
    unfold joinT
    rw [Val.append]
    refine ⟨Val.of _ _ _, ?_⟩
    have : a + sumT ((blocksL a m).zip (rangeM c l a m)) = m := by
      have hs2 := (Stk.join (nd := nodeM c) (st := []) (ts := []) (r := (blocksL a m).zip (rangeM c l a m)) (e := m) .nil (by rw [zip_fst (rangeM_length c l a m)]; exact (blocks_ok h1).til)).sum
      exact hs2.2
    rw [this]
    exact Val.of _ _ _
  have := (hs.val (segM_node c l) h3 hv).eq
  rw [hb] at this
  exact this
theorem rangeM_one (c : Nat) (l : List (List UInt8)) (i : Nat) (h : i < l.length) : rangeM c l i (i + 1) = [leafM c (l.getD i [])] := by
  have hb : blocksL i (i + 1) = [1] := (show Red i (i + 1) [1] from ⟨⟨0, rfl⟩, Nat.one_dvd _, (fun h => by cases h.1), rfl⟩).eq.symm
  unfold rangeM
  rw [hb]
  show [segM c l i 1] = _
  unfold segM
  rw [rootM_single c _ (by rw [List.length_take, List.length_drop]; omega)]
  congr 2
  rw [List.getD_eq_getElem?_getD, List.getElem?_take, List.getElem?_drop, List.getD_eq_getElem?_getD]
  simp
theorem blocks_one (i : Nat) : blocksL i (i + 1) = [1] := (show Red i (i + 1) [1] from ⟨⟨0, rfl⟩, Nat.one_dvd _, (fun h => by cases h.1), rfl⟩).eq.symm
/-- hashes folded from behind -/
def foldM (c : Nat) : List (List UInt8) → List UInt8
  | [] => sumM c []
  | [d] => d
  | d :: t :: r => nodeM c d (foldM c (t :: r))
theorem foldM_cons (c : Nat) (d : List UInt8) {t : List (List UInt8)} (h : t ≠ []) : foldM c (d :: t) = nodeM c d (foldM c t) := by
  cases t with
  | nil => exact (h rfl).elim
  | cons _ _ => rfl
theorem fold_seg (c : Nat) (l : List (List UInt8)) : ∀ (K : Nat) {p e : Nat} {b : List Nat}, Red p e b → 2 ^ K ∣ p → e < p + 2 ^ K → p < e → e ≤ l.length → foldM c (valsL (segM c l) p b) = segM c l p (e - p)
  | 0, p, e, b, _, _, h2, h3, _ => by simp at h2; omega
  | K + 1, p, e, b, h, h1, h2, h3, h4 => by
    have e1 := p2_succ K
    have hd : 2 ^ K ∣ p := Nat.dvd_trans (p2_dvd (Nat.le_succ K)) h1
    rcases Nat.lt_or_ge e (p + 2 ^ K) with hlt | hge
    · exact fold_seg c l K h hd hlt h3 h4
    · obtain ⟨s, l', rfl, hs⟩ := Red.first K hd hge h
      have hr := h.2.2.2
      have := hr.le
      obtain ⟨⟨j, rfl⟩, _⟩ := h
      have hj : j = K := by
        rcases Nat.lt_or_ge K j with hkj | hkj
        · have := p2_lt hkj; omega
        · exact Nat.le_antisymm hkj (p2_le hs)
      subst hj
      cases l' with
      | nil =>
        have hr : p + 2 ^ j = e := hr
        subst hr
        rw [Nat.add_sub_cancel_left]
        rfl
      | cons t l' =>
        have hlt : p + 2 ^ j < e := by
          obtain ⟨⟨i, rfl⟩, _, _, hr2⟩ := hr
          have := hr2.le
          have := p2_pos i
          omega
        show foldM c (segM c l p (2 ^ j) :: valsL (segM c l) (p + 2 ^ j) (t :: l')) = _
        rw [foldM_cons c _ (fun h => by cases h), fold_seg c l j hr (Nat.dvd_add hd (Nat.dvd_refl _)) (by omega) hlt h4, segM_two c l p (e - p) j (by omega) (by omega) (by omega), show e - p - 2 ^ j = e - (p + 2 ^ j) by omega]
theorem fold_root (c : Nat) (l : List (List UInt8)) : foldM c (rangeM c l 0 l.length) = rootM c l := by
  rcases Nat.eq_zero_or_pos l.length with h | h
  · have : l = [] := List.eq_nil_of_length_eq_zero h
    subst this
    rfl
  · unfold rangeM
    rw [fold_seg c l l.length (blocks_ok (Nat.zero_le _)) ⟨0, rfl⟩ (by have := Nat.lt_two_pow_self (n := l.length); omega) h (Nat.le_refl _)]
    unfold segM
    simp
theorem foldM_length (c : Nat) : ∀ l : List (List UInt8), (∀ d ∈ l, d.length = 32) → (foldM c l).length = 32
  | [], _ => sumM_length _ _
  | [d], h => h d (List.mem_singleton.2 rfl)
  | d :: t :: r, _ => nodeM_length _ _ _
theorem blocks_few (k : Nat) {e : Nat} (h : e < 2 ^ k) : (blocksL 0 e).length ≤ k := (blocks_ok (Nat.zero_le e)).few k ⟨0, rfl⟩ (by omega)
theorem blocks_many (K : Nat) (hK : 0 < K) {a e : Nat} (h : e ≤ 2 ^ K) : (blocksL a e).length ≤ 2 * K := by
  rcases Nat.lt_or_ge a e with hlt | hge
  · rcases (blocks_ok (Nat.le_of_lt hlt)).many K h (Nat.zero_le K) (Nat.one_dvd _) hlt with h1 | h1
    · exact h1
    · omega
  · rw [blocksL_nil hge]; exact Nat.zero_le _
end Go.Proofs.YtkogehkmldbhgaaDoor
