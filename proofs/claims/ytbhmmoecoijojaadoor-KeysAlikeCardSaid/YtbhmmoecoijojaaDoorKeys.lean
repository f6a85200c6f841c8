/- The walks of keys' Key, Bytes, Sign, Holds. No condition. -/
import Derived.Test.YtbhmmoecoijojaaDoorCodec
import Derived.Test.YtbhmmoecoijojaaDoorShaE
import Derived.Deep.MidRow
namespace Go.Proofs.YtbhmmoecoijojaaDoor
open Go.RowKit
attribute [local go_sem] n8_lo n8_hi n64_lo n64_hi n32_lo n32_hi
theorem Wrt.below {w w' : World} {B : Nat} {p : Value} {bs : List UInt8} (h : Wrt w B p bs) (hb : Below w.heap.size w w') : Wrt w' B p bs := by
  obtain ⟨g, v, rfl, hg, hblk, hown, hne⟩ := h
  exact ⟨g, v, rfl, hg, hblk.below hb hblk.lt, own_below hown hb, hne⟩
def keyB (tree epoch : Int) (draw : UInt32) : List UInt8 := keyTxt ++ (numB (i64u tree) 1 ++ numB (i64u epoch) 4 ++ numB draw.toUInt64 4)
theorem keyB_length (tree epoch : Int) (draw : UInt32) : (keyB tree epoch draw).length = 12 := by simp [keyB, keyTxt, numB_length]
/-- a key of the document -/
def keyL' (seed : List UInt8) (tree epoch : Int) (draw : UInt32) : List UInt8 := mac seed (keyB tree epoch draw)
theorem cv32_64 (x : UInt32) : n32 x % 18446744073709551616 = n64 x.toUInt64 := by
  unfold n32 n64; have := x.toNat_lt; rw [UInt32.toNat_toUInt64]; omega
set_option maxHeartbeats 1000000 in
set_option maxRecDepth 100000 in
theorem key_any (u : Value) (seed : List UInt8) (tree epoch : Int) (draw : UInt32) (w : World) (hu : BSl w w.heap.size u seed) (hl : seed.length ≤ 140737488355264) (hG : Glob w)
    (ht : -9223372036854775808 ≤ tree ∧ tree ≤ 9223372036854775807) (he : -9223372036854775808 ≤ epoch ∧ epoch ≤ 9223372036854775807) :
    Calls Tryd.prog 31 #[u, .int .i64 tree, .int .i64 epoch, .int .u32 (n32 draw)] w fun e w' => e = .returned (.agg (dat (keyL' seed tree epoch draw))) ∧ Below w.heap.size w w' := by
  obtain ⟨ht1, ht2⟩ := ht
  obtain ⟨he1, he2⟩ := he
  have v1 := Lib.hid ((wrap_u64' tree).trans (i64u_val tree))
  have v2 := Lib.hid ((wrap_u64' epoch).trans (i64u_val epoch))
  have hD := Blk.new w 27 (arr 32 fun _ => 0)
  have hb0 := below_new1 w (Obj.cells (arr 32 fun _ => 0) 27)
  go_enter Tryd.func31, Tryd.ntmps31
  go_wp2_with fail
  refine calls_at (fun W => Blk W w.heap.size 27 (arr 32 fun _ => 0) ∧ Below w.heap.size w W) ⟨hD, hb0⟩ ?_
  clear hD hb0
  rintro W ⟨hD, hb0⟩
  refine (newWriter_any W).mono ?_
  rintro e w1 ⟨p, rfl, hW1, hb1⟩
  have hD1 := hD.below hb1 hD.lt
  have hbel1 := hb0.trans (hb1.mono hb0.size)
  have hBw : w.heap.size < W.heap.size := hD.lt
  have hB1 : W.heap.size ≤ w1.heap.size := hb1.size
  clear hD hb0 hb1
  generalize W.heap.size = B at hW1 hBw hB1
  go_wp2_with fail
  rw [v1.out]
  refine (number_any p [] (i64u tree) 1 (by decide) w1 B hW1 hB1 (by simp)).mono ?_
  rintro e w2 ⟨rfl, hW2, hb2⟩
  rw [show clamp8 1 = 1 from rfl, List.nil_append] at hW2
  have hD2 := hD1.below hb2 hBw
  have hbel2 := hbel1.trans (hb2.mono (by omega))
  have hB2 := Nat.le_trans hB1 hb2.size
  clear hD1 hbel1 hb2 hW1
  go_wp2_with fail
  rw [v2.out]
  refine (number_any p _ (i64u epoch) 4 (by decide) w2 B hW2 hB2 (by simp [numB_length])).mono ?_
  rintro e w3 ⟨rfl, hW3, hb3⟩
  rw [show clamp8 4 = 4 from rfl] at hW3
  have hD3 := hD2.below hb3 hBw
  have hbel3 := hbel2.trans (hb3.mono (by omega))
  have hB3 := Nat.le_trans hB2 hb3.size
  clear hD2 hbel2 hb3 hW2
  go_wp2_with fail
  rw [show IntKind.u64.wrap (n32 draw) = n64 draw.toUInt64 from (wrap_u64' _).trans (cv32_64 draw)]
  refine (number_any p _ draw.toUInt64 4 (by decide) w3 B hW3 hB3 (by simp [numB_length])).mono ?_
  rintro e w4 ⟨rfl, hW4, hb4⟩
  rw [show clamp8 4 = 4 from rfl] at hW4
  have hD4 := hD3.below hb4 hBw
  have hbel4 := hbel3.trans (hb4.mono (by omega))
  have hB4 := Nat.le_trans hB3 hb4.size
  clear hD3 hbel3 hb4 hW3
  have kc := fun (w : World) (C : Array Value) (n c : Nat) => Lib.run_convert_bytes_const (P := Tryd.prog) w 32 5 C n c Tryd.underlying32 Tryd.underlying5
  go_wp2_with fail
  clear kc
  have hX : (w4.alloc (Obj.cells #[.int .u8 107, .int .u8 101, .int .u8 121] 5 (3, 4))).heap[w4.heap.size]? = some (.cells (keyTxt.map v8).toArray 5 (3, 4)) := heap_alloc_new _ _
  have hb5 := below_new1 w4 (Obj.cells #[.int .u8 107, .int .u8 101, .int .u8 121] 5 (3, 4))
  have hK5 := BSl.of_marked hX (w4.alloc (Obj.cells #[.int .u8 107, .int .u8 101, .int .u8 121] 5 (3, 4))).heap.size (by simp) (by decide)
  refine calls_at (fun W => BSl W W.heap.size (.slice (some ⟨w4.heap.size, 0, none⟩) 3 3) keyTxt ∧ Below w4.heap.size w4 W) ⟨hK5, hb5⟩ ?_
  clear hX hb5 hK5
  rintro w5 ⟨hK5, hb5⟩
  have hD5 := hD4.below hb5 hD4.lt
  have hbel5 := hbel4.trans (hb5.mono hbel4.size)
  have hW5 := hW4.below hb5
  clear hD4 hbel4 hb5 hW4 hB4
  refine (done_any p _ w5 B hW5 (by simp [numB_length])).mono ?_
  rintro e w6 ⟨v6, rfl, hv6, _, hb6⟩
  have hD6 := hD5.below hb6 hD5.lt
  have hbel6 := hbel5.trans (hb6.mono hbel5.size)
  have hK6 := hK5.next hb6
  clear hD5 hbel5 hK5 hW5 hb6
  obtain ⟨A6, c6, rfl, hc61, hc62, hr6⟩ := hv6
  have hv6 : BSl w6 w6.heap.size (.slice A6 (numB (i64u tree) 1 ++ numB (i64u epoch) 4 ++ numB draw.toUInt64 4).length c6) (numB (i64u tree) 1 ++ numB (i64u epoch) 4 ++ numB draw.toUInt64 4) := ⟨A6, c6, rfl, hc61, hc62, hr6⟩
  have hkd : keyTxt ++ (numB (i64u tree) 1 ++ numB (i64u epoch) 4 ++ numB draw.toUInt64 4) = keyB tree epoch draw := rfl
  generalize numB (i64u tree) 1 ++ numB (i64u epoch) 4 ++ numB draw.toUInt64 4 = N at hv6 hkd ⊢
  have hkl : (keyTxt ++ N).length = 12 := by rw [hkd]; exact keyB_length _ _ _
  have Hkd := Lib.hid hkd
  have Hkl := Lib.hid hkl
  clear hc61 hc62 hr6 hkd hkl
  generalize N.length = nN at hv6 ⊢
  go_wp2_with fail
  have hX := Blk.new w6 32 #[.slice (some ⟨w4.heap.size, 0, none⟩) 3 3, .slice A6 nN c6]
  have hb7 := below_new1 w6 (Obj.cells #[.slice (some ⟨w4.heap.size, 0, none⟩) 3 3, .slice A6 nN c6] 32)
  have hS := SSl.two hX _ hX.lt (hK6.next hb7) (hv6.next hb7)
  refine calls_at (fun W => SSl W W.heap.size (.slice (some ⟨w6.heap.size, 0, none⟩) 2 2) [keyTxt, N] ∧ Below w6.heap.size w6 W) ⟨hS, hb7⟩ ?_
  clear hX hb7 hS hK6 hv6
  rintro w7 ⟨hS, hb7⟩
  have hD7 := hD6.below hb7 hD6.lt
  have hbel7 := hbel6.trans (hb7.mono hbel6.size)
  clear hD6 hbel6 hb7
  refine (join_any _ _ _ hS (by simp only [List.flatten_cons, List.flatten_nil, List.append_nil]; rw [Hkl.out]; decide)).mono ?_
  rintro e w8 ⟨v8, rfl, hown8, hb8⟩
  simp only [List.flatten_cons, List.flatten_nil, List.append_nil] at hown8
  have hB8 := BSl.of_own hown8
  have hD8 := hD7.below hb8 hD7.lt
  have hbel8 := hbel7.trans (hb8.mono hbel7.size)
  clear hown8 hS hD7 hbel7 hb8
  go_wp2_with fail
  refine (mac_any u v8 seed (keyTxt ++ N) w8 (hu.next hbel8) hB8 hl (by rw [Hkl.out]; decide) (hG.next hbel8)).mono ?_
  rintro e w9 ⟨rfl, hb9⟩
  have hD9 := hD8.below hb9 hD8.lt
  have hbel9 := hbel8.trans (hb9.mono hbel8.size)
  go_wp2_with (first
    | (refine wpList_storeDat rfl rfl 27 (.tmp 8) (.tmp 30) rfl w.heap.size rfl _ _ rfl _ hD9 (by kernel_rfl) ?_; intro w10 hD10 hon10))
  have hb10 := below_only hbel9 hon10 (Nat.le_refl _) hbel9.size
  refine bodyPost_ret (results_cell_row (p := 8) (ty := 27) rfl _ _ w.heap.size _ _ _ _ rfl hD10 Tryd.underlying27 rfl (by rw [dat_size]; kernel_rfl)) rfl ⟨?_, hb10⟩
  rw [Hkd.out]; rfl
/-- a head's cells -/
def headC (h : HeadL) : Array Value := #[.int .i64 h.tree, .int .i64 h.epoch, .int .u64 (n64 h.size), .int .u64 (n64 h.clock)] ++ dat h.root
theorem headC_0 (h : HeadL) : (headC h)[0]? = some (.int .i64 h.tree) := by unfold headC; rw [Array.getElem?_append_left (by simp)]; rfl
theorem headC_1 (h : HeadL) : (headC h)[1]? = some (.int .i64 h.epoch) := by unfold headC; rw [Array.getElem?_append_left (by simp)]; rfl
theorem headC_2 (h : HeadL) : (headC h)[2]? = some (.int .u64 (n64 h.size)) := by unfold headC; rw [Array.getElem?_append_left (by simp)]; rfl
theorem headC_3 (h : HeadL) : (headC h)[3]? = some (.int .u64 (n64 h.clock)) := by unfold headC; rw [Array.getElem?_append_left (by simp)]; rfl
theorem headC_size (h : HeadL) : (headC h).size = 36 := by simp [headC, dat_size]
theorem headC_root (h : HeadL) (j : Nat) : (headC h)[4 + j]? = (dat h.root)[j]? := by
  unfold headC
  rw [Array.getElem?_append_right (by simp)]
  simp
theorem head_range {w : World} {g : Nat} {t : TypeId} {h : HeadL} (hB : Blk w g t (headC h)) (hr : h.root.length = 32) : w.rangeAt g 4 (h.root.map v8) := by
  intro j v hj
  rw [hB.cell, headC_root, dat_eq _ hr]
  simpa using hj
set_option maxHeartbeats 1000000 in
set_option maxRecDepth 100000 in
theorem bytes_any (h : HeadL) (hok : h.ok) (w : World) :
    Calls Tryd.prog 34 #[.agg (headC h)] w fun e w' => ∃ v, e = .returned v ∧ BSl w' w'.heap.size v (headB h) ∧ Below w.heap.size w w' := by
  obtain ⟨hr, ⟨ht1, ht2⟩, he1, he2⟩ := hok
  have v1 := Lib.hid ((wrap_u64' h.tree).trans (i64u_val h.tree))
  have v2 := Lib.hid ((wrap_u64' h.epoch).trans (i64u_val h.epoch))
  have Hr := Lib.hid hr
  have Hrl := Lib.hid (show (h.root.map v8).length = 32 by rw [List.length_map]; exact hr)
  clear hr
  have hD := Blk.new w 49 (headC h)
  have hb0 := below_new1 w (Obj.cells (headC h) 49)
  go_enter Tryd.func34, Tryd.ntmps34
  go_wp2_with fail
  refine calls_at (fun W => Blk W w.heap.size 49 (headC h) ∧ Below w.heap.size w W) ⟨hD, hb0⟩ ?_
  clear hD hb0
  rintro W ⟨hD, hb0⟩
  refine (newWriter_any W).mono ?_
  rintro e w1 ⟨p, rfl, hW1, hb1⟩
  have hD1 := hD.below hb1 hD.lt
  have hbel1 := hb0.trans (hb1.mono hb0.size)
  have hBw : w.heap.size < W.heap.size := hD.lt
  have hB1 : W.heap.size ≤ w1.heap.size := hb1.size
  clear hD hb0 hb1
  generalize W.heap.size = B at hW1 hBw hB1
  have c0 : w1.cell? ⟨w.heap.size, 0, none⟩ = some (.int .i64 h.tree) := by rw [hD1.cell]; exact headC_0 h
  go_wp2_with fail
  rw [v1.out]
  refine (number_any p _ (i64u h.tree) 1 (by decide) w1 B hW1 hB1 (by simp [numB_length])).mono ?_
  rintro e w2 ⟨rfl, hW2, hb2⟩
  rw [show clamp8 1 = 1 from rfl, List.nil_append] at hW2
  have hD2 := hD1.below hb2 hBw
  have hbel2 := hbel1.trans (hb2.mono (by omega))
  have hB2 := Nat.le_trans hB1 hb2.size
  clear hD1 hbel1 hb2 hW1 c0
  have c1 : w2.cell? ⟨w.heap.size, 1, none⟩ = some (.int .i64 h.epoch) := by rw [hD2.cell]; exact headC_1 h
  go_wp2_with fail
  rw [v2.out]
  refine (number_any p _ (i64u h.epoch) 4 (by decide) w2 B hW2 hB2 (by simp [numB_length])).mono ?_
  rintro e w3 ⟨rfl, hW3, hb3⟩
  rw [show clamp8 4 = 4 from rfl] at hW3
  have hD3 := hD2.below hb3 hBw
  have hbel3 := hbel2.trans (hb3.mono (by omega))
  have hB3 := Nat.le_trans hB2 hb3.size
  clear hD2 hbel2 hb3 hW2 c1
  have c2 : w3.cell? ⟨w.heap.size, 2, none⟩ = some (.int .u64 (n64 h.size)) := by rw [hD3.cell]; exact headC_2 h
  go_wp2_with fail
  refine (number_any p _ (h.size) 8 (by decide) w3 B hW3 hB3 (by simp [numB_length])).mono ?_
  rintro e w4 ⟨rfl, hW4, hb4⟩
  rw [show clamp8 8 = 8 from rfl] at hW4
  have hD4 := hD3.below hb4 hBw
  have hbel4 := hbel3.trans (hb4.mono (by omega))
  have hB4 := Nat.le_trans hB3 hb4.size
  clear hD3 hbel3 hb4 hW3 c2
  have c3 : w4.cell? ⟨w.heap.size, 3, none⟩ = some (.int .u64 (n64 h.clock)) := by rw [hD4.cell]; exact headC_3 h
  go_wp2_with fail
  refine (number_any p _ (h.clock) 8 (by decide) w4 B hW4 hB4 (by simp [numB_length])).mono ?_
  rintro e w5 ⟨rfl, hW5, hb5⟩
  rw [show clamp8 8 = 8 from rfl] at hW5
  have hD5 := hD4.below hb5 hBw
  have hbel5 := hbel4.trans (hb5.mono (by omega))
  have hB5 := Nat.le_trans hB4 hb5.size
  clear hD4 hbel4 hb5 hW4 c3
  have hrg := head_range hD5 Hr.out
  go_wp2_with (first
    | (refine wpList_load_mid rfl 27 (.tmp 24) rfl w.heap.size 4 rfl _ _ hrg Tryd.underlying27 rfl (by rw [Hrl.out]; kernel_rfl) ?_))
  rw [← dat_eq h.root Hr.out]
  refine (digest_any p _ h.root Hr.out w5 B hW5 hB5 (by simp [numB_length])).mono ?_
  rintro e w6 ⟨rfl, hW6, hb6⟩
  have hbel6 := hbel5.trans (hb6.mono (by omega))
  clear hD5 hbel5 hb6 hW5 hrg
  have kc := fun (w : World) (C : Array Value) (n c : Nat) => Lib.run_convert_bytes_const (P := Tryd.prog) w 32 5 C n c Tryd.underlying32 Tryd.underlying5
  go_wp2_with fail
  clear kc
  have hX : (w6.alloc (Obj.cells #[.int .u8 104, .int .u8 101, .int .u8 97, .int .u8 100] 5 (4, 5))).heap[w6.heap.size]? = some (.cells (headTxt.map v8).toArray 5 (4, 5)) := heap_alloc_new _ _
  have hb7 := below_new1 w6 (Obj.cells #[.int .u8 104, .int .u8 101, .int .u8 97, .int .u8 100] 5 (4, 5))
  have hK7 := BSl.of_marked hX (w6.alloc (Obj.cells #[.int .u8 104, .int .u8 101, .int .u8 97, .int .u8 100] 5 (4, 5))).heap.size (by simp) (by decide)
  refine calls_at (fun W => BSl W W.heap.size (.slice (some ⟨w6.heap.size, 0, none⟩) 4 4) headTxt ∧ Below w6.heap.size w6 W) ⟨hK7, hb7⟩ ?_
  clear hX hb7 hK7
  rintro w7 ⟨hK7, hb7⟩
  have hbel7 := hbel6.trans (hb7.mono hbel6.size)
  have hW7 := hW6.below hb7
  clear hbel6 hb7 hW6
  refine (done_any p _ w7 B hW7 (by simp [numB_length, Hr.out])).mono ?_
  rintro e w8 ⟨v8, rfl, hv8, _, hb8⟩
  have hbel8 := hbel7.trans (hb8.mono hbel7.size)
  have hK8 := hK7.next hb8
  clear hbel7 hK7 hW7 hb8
  obtain ⟨A8, c8, rfl, hc81, hc82, hr8⟩ := hv8
  have hv8 : BSl w8 w8.heap.size (.slice A8 (numB (i64u h.tree) 1 ++ numB (i64u h.epoch) 4 ++ numB h.size 8 ++ numB h.clock 8 ++ h.root).length c8) (numB (i64u h.tree) 1 ++ numB (i64u h.epoch) 4 ++ numB h.size 8 ++ numB h.clock 8 ++ h.root) := ⟨A8, c8, rfl, hc81, hc82, hr8⟩
  have hkl : (headTxt ++ (numB (i64u h.tree) 1 ++ numB (i64u h.epoch) 4 ++ numB h.size 8 ++ numB h.clock 8 ++ h.root)).length = 57 := headB_length h Hr.out
  have hkd : headTxt ++ (numB (i64u h.tree) 1 ++ numB (i64u h.epoch) 4 ++ numB h.size 8 ++ numB h.clock 8 ++ h.root) = headB h := rfl
  generalize numB (i64u h.tree) 1 ++ numB (i64u h.epoch) 4 ++ numB h.size 8 ++ numB h.clock 8 ++ h.root = N at hv8 hkd hkl ⊢
  have Hkd := Lib.hid hkd
  have Hkl := Lib.hid hkl
  clear hc81 hc82 hr8 hkd hkl
  generalize N.length = nN at hv8 ⊢
  go_wp2_with fail
  have hX := Blk.new w8 32 #[.slice (some ⟨w6.heap.size, 0, none⟩) 4 4, .slice A8 nN c8]
  have hb9 := below_new1 w8 (Obj.cells #[.slice (some ⟨w6.heap.size, 0, none⟩) 4 4, .slice A8 nN c8] 32)
  have hS := SSl.two hX _ hX.lt (hK8.next hb9) (hv8.next hb9)
  refine calls_at (fun W => SSl W W.heap.size (.slice (some ⟨w8.heap.size, 0, none⟩) 2 2) [headTxt, N] ∧ Below w8.heap.size w8 W) ⟨hS, hb9⟩ ?_
  clear hX hb9 hS hK8 hv8
  rintro w9 ⟨hS, hb9⟩
  have hbel9 := hbel8.trans (hb9.mono hbel8.size)
  clear hbel8 hb9
  refine (join_any _ _ _ hS (by simp only [List.flatten_cons, List.flatten_nil, List.append_nil]; rw [Hkl.out]; decide)).mono ?_
  rintro e w10 ⟨v10, rfl, hown10, hb10⟩
  simp only [List.flatten_cons, List.flatten_nil, List.append_nil] at hown10
  rw [Hkd.out] at hown10
  have hB10 := BSl.of_own hown10
  have hbel10 := hbel9.trans (hb10.mono hbel9.size)
  clear hown10 hS hbel9 hb10
  go_wp2_with fail
  go_ret
  exact ⟨_, rfl, hB10, hbel10⟩
end Go.Proofs.YtbhmmoecoijojaaDoor
