/- The walk of the law CompactThree. Condition: the tables. -/
import Derived.Test.YtkogehkmldbhgaaDoorP19
import Derived.Test.YtkogehkmldbhgaaDoorP17
import Derived.Test.YtkogehkmldbhgaaDoorP10
namespace Go.Proofs.YtkogehkmldbhgaaDoor
open Go Go.RowKit
attribute [local irreducible] mixW
attribute [local go_sem] n8_lo n8_hi n64_lo n64_hi n32_lo n32_hi
set_option maxHeartbeats 4000000 in
set_option maxRecDepth 100000 in
theorem compactThree_walk (w : World) (hG : Glob w) (hT : Tz w) (x0 : Int) (hx0 : -9223372036854775808 ≤ x0 ∧ x0 ≤ 9223372036854775807) (n0 : Int) (hn0 : -9223372036854775808 ≤ n0 ∧ n0 ≤ 9223372036854775807) (a0 : Int) (ha0 : -9223372036854775808 ≤ a0 ∧ a0 ≤ 9223372036854775807) (b0 : Int) (hb0 : -9223372036854775808 ≤ b0 ∧ b0 ≤ 9223372036854775807) :
    Calls Tryd.prog 6 #[.int .i64 x0, .int .i64 n0, .int .i64 a0, .int .i64 b0] w fun r w' => r = .returned (.bool true) ∧ Below w.heap.size w w' := by
  go_enter Tryd.func6, Tryd.ntmps6
  go_wp2_with fail
  refine (within_any n0 0 60 w (by decide) (by decide) (by decide) hn0.1 hn0.2).mono ?_
  rintro r _ ⟨rfl, rfl⟩
  have bn := withinI_bounds n0 0 60 (by decide)
  obtain ⟨N, hN⟩ : ∃ N : Nat, withinI n0 0 60 = (N : Int) := ⟨(withinI n0 0 60).toNat, by omega⟩
  rw [hN] at bn ⊢
  clear hN
  go_wp2_with fail
  refine (list10_any (N : Int) (by omega) (by omega) w).mono ?_
  rintro r w1 ⟨u, rfl, hL, hbel⟩
  rw [Int.toNat_natCast] at hL
  have hLl := listE_length N
  have hLm : ∀ c ∈ listE N, c.length ≤ 2 := fun c hc => by rw [listE_mem hc]; exact Nat.le_refl _
  generalize listE N = L at hL hLl hLm
  have Hm := Lib.hid hLm
  have Hl := Lib.hid hLl
  clear hLm hLl
  obtain ⟨A0, cap0, _, rfl, _⟩ := id hL
  go_wp2_with fail
  refine (within_any a0 0 N w1 (by decide) (by omega) (by omega) ha0.1 ha0.2).mono ?_
  rintro r _ ⟨rfl, rfl⟩
  have bi := withinI_bounds a0 0 N (by omega)
  obtain ⟨I, hI⟩ : ∃ I : Nat, withinI a0 0 N = (I : Int) := ⟨(withinI a0 0 N).toNat, by omega⟩
  rw [hI] at bi ⊢
  clear hI
  go_wp2_with fail
  have hsub : wrap64 ((N : Int) - (I : Int)) = (N : Int) - I := by unfold wrap64; omega
  refine (within_any b0 0 ((N : Int) - I) w1 (by decide) (by omega) (by omega) hb0.1 hb0.2).mono ?_
  rintro r _ ⟨rfl, rfl⟩
  have bk := withinI_bounds b0 0 ((N : Int) - I) (by omega)
  obtain ⟨J, hJ⟩ : ∃ J : Nat, withinI b0 0 ((N : Int) - I) = (J : Int) := ⟨(withinI b0 0 ((N : Int) - I)).toNat, by omega⟩
  rw [hJ] at bk ⊢
  clear hJ hsub
  obtain ⟨K, hK⟩ : ∃ K : Nat, I + J = K := ⟨_, rfl⟩
  have hKI : (I : Int) + (J : Int) = (K : Int) := by omega
  have hN60 : N ≤ 60 := by omega
  have hIK : I ≤ K := by omega
  have hKN : K ≤ N := by omega
  have hwI : IntKind.u64.wrap (I : Int) = (I : Int) := IntWalk.u64_in _ (by omega)
  have hwK : IntKind.u64.wrap (K : Int) = (K : Int) := IntWalk.u64_in _ (by omega)
  have hwN : IntKind.u64.wrap (N : Int) = (N : Int) := IntWalk.u64_in _ (by omega)
  clear bn bi bk hK
  have H := Lib.hid (And.intro hL hbel)
  clear hL hbel
  go_wp2_with fail

  refine calls_at (fun V => SSl V V.heap.size (.slice A0 L.length cap0) L ∧ Below w.heap.size w V) ⟨H.out.1, H.out.2⟩ ?_
  clear H
  rintro V0 H0
  have H := Lib.hid H0
  clear H0
  refine (of_ok x0 A0 cap0 L 0 I V0 H.out.1 (by have := Hl.out; omega) (fun c hc => by have := Hm.out c hc; omega) (Nat.zero_le _) (by have := Hl.out; omega) (hG.next H.out.2) (hT.next H.out.2)).mono ?_
  rintro r W0 ⟨v0, rfl, hown, hbx⟩
  obtain ⟨R0, hR0⟩ : ∃ R, rangeM (cutW x0) L 0 I = R := ⟨_, rfl⟩
  have HR0 : Hid (rangeM (cutW x0) L 0 I = R0 ∧ R0.length ≤ 64 ∧ ∀ d ∈ R0, d.length = 32) := Lib.hid ⟨hR0, by rw [← hR0]; exact rangeM_64 _ _ (by omega), by rw [← hR0]; exact rangeM_mem _ _ _ _⟩
  rw [hR0] at hown
  clear hR0
  obtain ⟨A1, c1, rfl⟩ := own_slice hown
  have Hk := Lib.hid (And.intro hown hbx)
  clear hown hbx
  have hn1 := below_new1 W0 (Obj.cells #[.int .u64 (((0 : Nat)) : Int), .int .u64 (((I : Nat)) : Int), .slice A1 R0.length c1] 31)
  have Hx : Hid (SSl (W0.alloc (Obj.cells #[.int .u64 ((0 : Nat) : Int), .int .u64 ((I : Nat) : Int), .slice A1 R0.length c1] 31)) (W0.alloc (Obj.cells #[.int .u64 ((0 : Nat) : Int), .int .u64 ((I : Nat) : Int), .slice A1 R0.length c1] 31)).heap.size (.slice A0 L.length cap0) L ∧ Below w.heap.size w (W0.alloc (Obj.cells #[.int .u64 ((0 : Nat) : Int), .int .u64 ((I : Nat) : Int), .slice A1 R0.length c1] 31)) ∧ Rg (W0.alloc (Obj.cells #[.int .u64 ((0 : Nat) : Int), .int .u64 ((I : Nat) : Int), .slice A1 R0.length c1] 31)) W0.heap.size 0 I A1 c1 R0) := Lib.hid ⟨(H.out.1.next Hk.out.2).next hn1, (H.out.2.trans (Hk.out.2.mono H.out.2.size)).trans (hn1.mono (Nat.le_trans H.out.2.size Hk.out.2.size)), Rg.mk (b := 0) (e := I) Hk.out.1⟩
  clear H Hk hn1
  simp only [rgC, nU]
  go_wp2_with fail
  refine calls_at (fun V => SSl V V.heap.size (.slice A0 L.length cap0) L ∧ Below w.heap.size w V ∧ Rg V W0.heap.size 0 I A1 c1 R0) Hx.out ?_
  clear Hx
  rintro V1 H0
  have H := Lib.hid H0
  clear H0
  refine (of_ok x0 A0 cap0 L I K V1 H.out.1 (by have := Hl.out; omega) (fun c hc => by have := Hm.out c hc; omega) hIK (by have := Hl.out; omega) (hG.next H.out.2.1) (hT.next H.out.2.1)).mono ?_
  rintro r W1 ⟨v1, rfl, hown, hbx⟩
  obtain ⟨R1, hR1⟩ : ∃ R, rangeM (cutW x0) L I K = R := ⟨_, rfl⟩
  have HR1 : Hid (rangeM (cutW x0) L I K = R1 ∧ R1.length ≤ 64 ∧ ∀ d ∈ R1, d.length = 32) := Lib.hid ⟨hR1, by rw [← hR1]; exact rangeM_64 _ _ (by omega), by rw [← hR1]; exact rangeM_mem _ _ _ _⟩
  rw [hR1] at hown
  clear hR1
  obtain ⟨A2, c2, rfl⟩ := own_slice hown
  have Hk := Lib.hid (And.intro hown hbx)
  clear hown hbx
  have hn1 := below_new1 W1 (Obj.cells #[.int .u64 (((I : Nat)) : Int), .int .u64 (((K : Nat)) : Int), .slice A2 R1.length c2] 31)
  have Hx : Hid (SSl (W1.alloc (Obj.cells #[.int .u64 ((I : Nat) : Int), .int .u64 ((K : Nat) : Int), .slice A2 R1.length c2] 31)) (W1.alloc (Obj.cells #[.int .u64 ((I : Nat) : Int), .int .u64 ((K : Nat) : Int), .slice A2 R1.length c2] 31)).heap.size (.slice A0 L.length cap0) L ∧ Below w.heap.size w (W1.alloc (Obj.cells #[.int .u64 ((I : Nat) : Int), .int .u64 ((K : Nat) : Int), .slice A2 R1.length c2] 31)) ∧ Rg (W1.alloc (Obj.cells #[.int .u64 ((I : Nat) : Int), .int .u64 ((K : Nat) : Int), .slice A2 R1.length c2] 31)) W0.heap.size 0 I A1 c1 R0 ∧ Rg (W1.alloc (Obj.cells #[.int .u64 ((I : Nat) : Int), .int .u64 ((K : Nat) : Int), .slice A2 R1.length c2] 31)) W1.heap.size I K A2 c2 R1) := Lib.hid ⟨(H.out.1.next Hk.out.2).next hn1, (H.out.2.1.trans (Hk.out.2.mono H.out.2.1.size)).trans (hn1.mono (Nat.le_trans H.out.2.1.size Hk.out.2.size)), (H.out.2.2.next Hk.out.2).next hn1, Rg.mk (b := I) (e := K) Hk.out.1⟩
  clear H Hk hn1
  simp only [rgC, nU]
  go_wp2_with fail
  refine calls_at (fun V => SSl V V.heap.size (.slice A0 L.length cap0) L ∧ Below w.heap.size w V ∧ Rg V W0.heap.size 0 I A1 c1 R0 ∧ Rg V W1.heap.size I K A2 c2 R1) Hx.out ?_
  clear Hx
  rintro V2 H0
  have H := Lib.hid H0
  clear H0
  refine (of_ok x0 A0 cap0 L K N V2 H.out.1 (by have := Hl.out; omega) (fun c hc => by have := Hm.out c hc; omega) hKN (by have := Hl.out; omega) (hG.next H.out.2.1) (hT.next H.out.2.1)).mono ?_
  rintro r W2 ⟨v2, rfl, hown, hbx⟩
  obtain ⟨R2, hR2⟩ : ∃ R, rangeM (cutW x0) L K N = R := ⟨_, rfl⟩
  have HR2 : Hid (rangeM (cutW x0) L K N = R2 ∧ R2.length ≤ 64 ∧ ∀ d ∈ R2, d.length = 32) := Lib.hid ⟨hR2, by rw [← hR2]; exact rangeM_64 _ _ (by omega), by rw [← hR2]; exact rangeM_mem _ _ _ _⟩
  rw [hR2] at hown
  clear hR2
  obtain ⟨A3, c3, rfl⟩ := own_slice hown
  have Hk := Lib.hid (And.intro hown hbx)
  clear hown hbx
  have hn1 := below_new1 W2 (Obj.cells #[.int .u64 (((K : Nat)) : Int), .int .u64 (((N : Nat)) : Int), .slice A3 R2.length c3] 31)
  have Hx : Hid (SSl (W2.alloc (Obj.cells #[.int .u64 ((K : Nat) : Int), .int .u64 ((N : Nat) : Int), .slice A3 R2.length c3] 31)) (W2.alloc (Obj.cells #[.int .u64 ((K : Nat) : Int), .int .u64 ((N : Nat) : Int), .slice A3 R2.length c3] 31)).heap.size (.slice A0 L.length cap0) L ∧ Below w.heap.size w (W2.alloc (Obj.cells #[.int .u64 ((K : Nat) : Int), .int .u64 ((N : Nat) : Int), .slice A3 R2.length c3] 31)) ∧ Rg (W2.alloc (Obj.cells #[.int .u64 ((K : Nat) : Int), .int .u64 ((N : Nat) : Int), .slice A3 R2.length c3] 31)) W0.heap.size 0 I A1 c1 R0 ∧ Rg (W2.alloc (Obj.cells #[.int .u64 ((K : Nat) : Int), .int .u64 ((N : Nat) : Int), .slice A3 R2.length c3] 31)) W1.heap.size I K A2 c2 R1 ∧ Rg (W2.alloc (Obj.cells #[.int .u64 ((K : Nat) : Int), .int .u64 ((N : Nat) : Int), .slice A3 R2.length c3] 31)) W2.heap.size K N A3 c3 R2) := Lib.hid ⟨(H.out.1.next Hk.out.2).next hn1, (H.out.2.1.trans (Hk.out.2.mono H.out.2.1.size)).trans (hn1.mono (Nat.le_trans H.out.2.1.size Hk.out.2.size)), (H.out.2.2.1.next Hk.out.2).next hn1, (H.out.2.2.2.next Hk.out.2).next hn1, Rg.mk (b := K) (e := N) Hk.out.1⟩
  clear H Hk hn1
  simp only [rgC, nU]
  go_wp2_with (first
    | (refine wpList_load_row rfl _ (.tmp 12) rfl (W0.heap.size) rfl _ _ _ _ (Hx.out.2.2.1).1 Tryd.underlying31 rfl (by kernel_rfl) ?_)
    | (refine wpList_load_row rfl _ (.tmp 14) rfl (W1.heap.size) rfl _ _ _ _ (Hx.out.2.2.2.1).1 Tryd.underlying31 rfl (by kernel_rfl) ?_))
  refine calls_at (fun V => SSl V V.heap.size (.slice A0 L.length cap0) L ∧ Below w.heap.size w V ∧ Rg V W0.heap.size 0 I A1 c1 R0 ∧ Rg V W1.heap.size I K A2 c2 R1 ∧ Rg V W2.heap.size K N A3 c3 R2) Hx.out ?_
  clear Hx
  rintro V3 H0
  have H := Lib.hid H0
  clear H0
  refine (merge_any x0 0 I I K (by omega) (by omega) (by omega) (by omega) A1 c1 A2 c2 R0 R1 (fun d hd => by rcases List.mem_append.1 hd with h | h; exact HR0.out.2.2 d h; exact HR1.out.2.2 d h) V3 H.out.2.2.1.2 H.out.2.2.2.1.2 (hG.next H.out.2.1) (hT.next H.out.2.1)).mono ?_
  rintro r W3 ⟨v3, rfl, hown, hbx⟩
  rw [show mergeV (cutW x0) 0 I R0 I K R1 = ⟨0, K, rangeM (cutW x0) L 0 K, 0⟩ by rw [← HR0.out.1, ← HR1.out.1]; exact mergeV_range (cutW x0) L (by omega) (by omega) (by have := Hl.out; omega) (by have := Hl.out; omega)] at hown ⊢
  have hown : W3.ownsRow V3.heap.size 43 32 v3 (rangeM (cutW x0) L 0 K).length (dcells (rangeM (cutW x0) L 0 K)) := hown
  obtain ⟨R3, hR3⟩ : ∃ R, rangeM (cutW x0) L 0 K = R := ⟨_, rfl⟩
  have HR3 : Hid (rangeM (cutW x0) L 0 K = R3 ∧ R3.length ≤ 64 ∧ ∀ d ∈ R3, d.length = 32) := Lib.hid ⟨hR3, by rw [← hR3]; exact rangeM_64 _ _ (by omega), by rw [← hR3]; exact rangeM_mem _ _ _ _⟩
  rw [hR3] at hown
  clear hR3
  obtain ⟨A4, c4, rfl⟩ := own_slice hown
  have Hk := Lib.hid (And.intro hown hbx)
  clear hown hbx
  have hn1 := below_new1 W3 (Obj.cells #[.int .u64 (((0 : Nat)) : Int), .int .u64 (((K : Nat)) : Int), .slice A4 R3.length c4] 31)
  have Hx : Hid (SSl (W3.alloc (Obj.cells #[.int .u64 ((0 : Nat) : Int), .int .u64 ((K : Nat) : Int), .slice A4 R3.length c4] 31)) (W3.alloc (Obj.cells #[.int .u64 ((0 : Nat) : Int), .int .u64 ((K : Nat) : Int), .slice A4 R3.length c4] 31)).heap.size (.slice A0 L.length cap0) L ∧ Below w.heap.size w (W3.alloc (Obj.cells #[.int .u64 ((0 : Nat) : Int), .int .u64 ((K : Nat) : Int), .slice A4 R3.length c4] 31)) ∧ Rg (W3.alloc (Obj.cells #[.int .u64 ((0 : Nat) : Int), .int .u64 ((K : Nat) : Int), .slice A4 R3.length c4] 31)) W0.heap.size 0 I A1 c1 R0 ∧ Rg (W3.alloc (Obj.cells #[.int .u64 ((0 : Nat) : Int), .int .u64 ((K : Nat) : Int), .slice A4 R3.length c4] 31)) W1.heap.size I K A2 c2 R1 ∧ Rg (W3.alloc (Obj.cells #[.int .u64 ((0 : Nat) : Int), .int .u64 ((K : Nat) : Int), .slice A4 R3.length c4] 31)) W2.heap.size K N A3 c3 R2 ∧ Rg (W3.alloc (Obj.cells #[.int .u64 ((0 : Nat) : Int), .int .u64 ((K : Nat) : Int), .slice A4 R3.length c4] 31)) W3.heap.size 0 K A4 c4 R3) := Lib.hid ⟨(H.out.1.next Hk.out.2).next hn1, (H.out.2.1.trans (Hk.out.2.mono H.out.2.1.size)).trans (hn1.mono (Nat.le_trans H.out.2.1.size Hk.out.2.size)), (H.out.2.2.1.next Hk.out.2).next hn1, (H.out.2.2.2.1.next Hk.out.2).next hn1, (H.out.2.2.2.2.next Hk.out.2).next hn1, Rg.mk (b := 0) (e := K) Hk.out.1⟩
  clear H Hk hn1
  simp only [rgC, nU]
  go_wp2_with (first
    | (refine wpList_load_row rfl _ (.tmp 14) rfl (W1.heap.size) rfl _ _ _ _ (Hx.out.2.2.2.1).1 Tryd.underlying31 rfl (by kernel_rfl) ?_)
    | (refine wpList_load_row rfl _ (.tmp 16) rfl (W2.heap.size) rfl _ _ _ _ (Hx.out.2.2.2.2.1).1 Tryd.underlying31 rfl (by kernel_rfl) ?_))
  refine calls_at (fun V => SSl V V.heap.size (.slice A0 L.length cap0) L ∧ Below w.heap.size w V ∧ Rg V W0.heap.size 0 I A1 c1 R0 ∧ Rg V W1.heap.size I K A2 c2 R1 ∧ Rg V W2.heap.size K N A3 c3 R2 ∧ Rg V W3.heap.size 0 K A4 c4 R3) Hx.out ?_
  clear Hx
  rintro V4 H0
  have H := Lib.hid H0
  clear H0
  refine (merge_any x0 I K K N (by omega) (by omega) (by omega) (by omega) A2 c2 A3 c3 R1 R2 (fun d hd => by rcases List.mem_append.1 hd with h | h; exact HR1.out.2.2 d h; exact HR2.out.2.2 d h) V4 H.out.2.2.2.1.2 H.out.2.2.2.2.1.2 (hG.next H.out.2.1) (hT.next H.out.2.1)).mono ?_
  rintro r W4 ⟨v4, rfl, hown, hbx⟩
  rw [show mergeV (cutW x0) I K R1 K N R2 = ⟨I, N, rangeM (cutW x0) L I N, 0⟩ by rw [← HR1.out.1, ← HR2.out.1]; exact mergeV_range (cutW x0) L (by omega) (by omega) (by have := Hl.out; omega) (by have := Hl.out; omega)] at hown ⊢
  have hown : W4.ownsRow V4.heap.size 43 32 v4 (rangeM (cutW x0) L I N).length (dcells (rangeM (cutW x0) L I N)) := hown
  obtain ⟨R4, hR4⟩ : ∃ R, rangeM (cutW x0) L I N = R := ⟨_, rfl⟩
  have HR4 : Hid (rangeM (cutW x0) L I N = R4 ∧ R4.length ≤ 64 ∧ ∀ d ∈ R4, d.length = 32) := Lib.hid ⟨hR4, by rw [← hR4]; exact rangeM_64 _ _ (by omega), by rw [← hR4]; exact rangeM_mem _ _ _ _⟩
  rw [hR4] at hown
  clear hR4
  obtain ⟨A5, c5, rfl⟩ := own_slice hown
  have Hk := Lib.hid (And.intro hown hbx)
  clear hown hbx
  have hn1 := below_new1 W4 (Obj.cells #[.int .u64 (((I : Nat)) : Int), .int .u64 (((N : Nat)) : Int), .slice A5 R4.length c5] 31)
  have Hx : Hid (SSl (W4.alloc (Obj.cells #[.int .u64 ((I : Nat) : Int), .int .u64 ((N : Nat) : Int), .slice A5 R4.length c5] 31)) (W4.alloc (Obj.cells #[.int .u64 ((I : Nat) : Int), .int .u64 ((N : Nat) : Int), .slice A5 R4.length c5] 31)).heap.size (.slice A0 L.length cap0) L ∧ Below w.heap.size w (W4.alloc (Obj.cells #[.int .u64 ((I : Nat) : Int), .int .u64 ((N : Nat) : Int), .slice A5 R4.length c5] 31)) ∧ Rg (W4.alloc (Obj.cells #[.int .u64 ((I : Nat) : Int), .int .u64 ((N : Nat) : Int), .slice A5 R4.length c5] 31)) W0.heap.size 0 I A1 c1 R0 ∧ Rg (W4.alloc (Obj.cells #[.int .u64 ((I : Nat) : Int), .int .u64 ((N : Nat) : Int), .slice A5 R4.length c5] 31)) W1.heap.size I K A2 c2 R1 ∧ Rg (W4.alloc (Obj.cells #[.int .u64 ((I : Nat) : Int), .int .u64 ((N : Nat) : Int), .slice A5 R4.length c5] 31)) W2.heap.size K N A3 c3 R2 ∧ Rg (W4.alloc (Obj.cells #[.int .u64 ((I : Nat) : Int), .int .u64 ((N : Nat) : Int), .slice A5 R4.length c5] 31)) W3.heap.size 0 K A4 c4 R3 ∧ Rg (W4.alloc (Obj.cells #[.int .u64 ((I : Nat) : Int), .int .u64 ((N : Nat) : Int), .slice A5 R4.length c5] 31)) W4.heap.size I N A5 c5 R4) := Lib.hid ⟨(H.out.1.next Hk.out.2).next hn1, (H.out.2.1.trans (Hk.out.2.mono H.out.2.1.size)).trans (hn1.mono (Nat.le_trans H.out.2.1.size Hk.out.2.size)), (H.out.2.2.1.next Hk.out.2).next hn1, (H.out.2.2.2.1.next Hk.out.2).next hn1, (H.out.2.2.2.2.1.next Hk.out.2).next hn1, (H.out.2.2.2.2.2.next Hk.out.2).next hn1, Rg.mk (b := I) (e := N) Hk.out.1⟩
  clear H Hk hn1
  simp only [rgC, nU]
  go_wp2_with (first
    | (refine wpList_load_row rfl _ (.tmp 18) rfl (W3.heap.size) rfl _ _ _ _ (Hx.out.2.2.2.2.2.1).1 Tryd.underlying31 rfl (by kernel_rfl) ?_)
    | (refine wpList_load_row rfl _ (.tmp 16) rfl (W2.heap.size) rfl _ _ _ _ (Hx.out.2.2.2.2.1).1 Tryd.underlying31 rfl (by kernel_rfl) ?_))
  refine calls_at (fun V => SSl V V.heap.size (.slice A0 L.length cap0) L ∧ Below w.heap.size w V ∧ Rg V W0.heap.size 0 I A1 c1 R0 ∧ Rg V W1.heap.size I K A2 c2 R1 ∧ Rg V W2.heap.size K N A3 c3 R2 ∧ Rg V W3.heap.size 0 K A4 c4 R3 ∧ Rg V W4.heap.size I N A5 c5 R4) Hx.out ?_
  clear Hx
  rintro V5 H0
  have H := Lib.hid H0
  clear H0
  refine (merge_any x0 0 K K N (by omega) (by omega) (by omega) (by omega) A4 c4 A3 c3 R3 R2 (fun d hd => by rcases List.mem_append.1 hd with h | h; exact HR3.out.2.2 d h; exact HR2.out.2.2 d h) V5 H.out.2.2.2.2.2.1.2 H.out.2.2.2.2.1.2 (hG.next H.out.2.1) (hT.next H.out.2.1)).mono ?_
  rintro r W5 ⟨v5, rfl, hown, hbx⟩
  rw [show mergeV (cutW x0) 0 K R3 K N R2 = ⟨0, N, rangeM (cutW x0) L 0 N, 0⟩ by rw [← HR3.out.1, ← HR2.out.1]; exact mergeV_range (cutW x0) L (by omega) (by omega) (by have := Hl.out; omega) (by have := Hl.out; omega)] at hown ⊢
  have hown : W5.ownsRow V5.heap.size 43 32 v5 (rangeM (cutW x0) L 0 N).length (dcells (rangeM (cutW x0) L 0 N)) := hown
  obtain ⟨R5, hR5⟩ : ∃ R, rangeM (cutW x0) L 0 N = R := ⟨_, rfl⟩
  have HR5 : Hid (rangeM (cutW x0) L 0 N = R5 ∧ R5.length ≤ 64 ∧ ∀ d ∈ R5, d.length = 32) := Lib.hid ⟨hR5, by rw [← hR5]; exact rangeM_64 _ _ (by omega), by rw [← hR5]; exact rangeM_mem _ _ _ _⟩
  rw [hR5] at hown
  clear hR5
  obtain ⟨A6, c6, rfl⟩ := own_slice hown
  have Hk := Lib.hid (And.intro hown hbx)
  clear hown hbx
  have hn1 := below_new1 W5 (Obj.cells #[.int .u64 (((0 : Nat)) : Int), .int .u64 (((N : Nat)) : Int), .slice A6 R5.length c6] 31)
  have Hx : Hid (SSl (W5.alloc (Obj.cells #[.int .u64 ((0 : Nat) : Int), .int .u64 ((N : Nat) : Int), .slice A6 R5.length c6] 31)) (W5.alloc (Obj.cells #[.int .u64 ((0 : Nat) : Int), .int .u64 ((N : Nat) : Int), .slice A6 R5.length c6] 31)).heap.size (.slice A0 L.length cap0) L ∧ Below w.heap.size w (W5.alloc (Obj.cells #[.int .u64 ((0 : Nat) : Int), .int .u64 ((N : Nat) : Int), .slice A6 R5.length c6] 31)) ∧ Rg (W5.alloc (Obj.cells #[.int .u64 ((0 : Nat) : Int), .int .u64 ((N : Nat) : Int), .slice A6 R5.length c6] 31)) W0.heap.size 0 I A1 c1 R0 ∧ Rg (W5.alloc (Obj.cells #[.int .u64 ((0 : Nat) : Int), .int .u64 ((N : Nat) : Int), .slice A6 R5.length c6] 31)) W1.heap.size I K A2 c2 R1 ∧ Rg (W5.alloc (Obj.cells #[.int .u64 ((0 : Nat) : Int), .int .u64 ((N : Nat) : Int), .slice A6 R5.length c6] 31)) W2.heap.size K N A3 c3 R2 ∧ Rg (W5.alloc (Obj.cells #[.int .u64 ((0 : Nat) : Int), .int .u64 ((N : Nat) : Int), .slice A6 R5.length c6] 31)) W3.heap.size 0 K A4 c4 R3 ∧ Rg (W5.alloc (Obj.cells #[.int .u64 ((0 : Nat) : Int), .int .u64 ((N : Nat) : Int), .slice A6 R5.length c6] 31)) W4.heap.size I N A5 c5 R4 ∧ Rg (W5.alloc (Obj.cells #[.int .u64 ((0 : Nat) : Int), .int .u64 ((N : Nat) : Int), .slice A6 R5.length c6] 31)) W5.heap.size 0 N A6 c6 R5) := Lib.hid ⟨(H.out.1.next Hk.out.2).next hn1, (H.out.2.1.trans (Hk.out.2.mono H.out.2.1.size)).trans (hn1.mono (Nat.le_trans H.out.2.1.size Hk.out.2.size)), (H.out.2.2.1.next Hk.out.2).next hn1, (H.out.2.2.2.1.next Hk.out.2).next hn1, (H.out.2.2.2.2.1.next Hk.out.2).next hn1, (H.out.2.2.2.2.2.1.next Hk.out.2).next hn1, (H.out.2.2.2.2.2.2.next Hk.out.2).next hn1, Rg.mk (b := 0) (e := N) Hk.out.1⟩
  clear H Hk hn1
  simp only [rgC, nU]
  go_wp2_with (first
    | (refine wpList_load_row rfl _ (.tmp 12) rfl (W0.heap.size) rfl _ _ _ _ (Hx.out.2.2.1).1 Tryd.underlying31 rfl (by kernel_rfl) ?_)
    | (refine wpList_load_row rfl _ (.tmp 20) rfl (W4.heap.size) rfl _ _ _ _ (Hx.out.2.2.2.2.2.2.1).1 Tryd.underlying31 rfl (by kernel_rfl) ?_))
  refine calls_at (fun V => SSl V V.heap.size (.slice A0 L.length cap0) L ∧ Below w.heap.size w V ∧ Rg V W0.heap.size 0 I A1 c1 R0 ∧ Rg V W1.heap.size I K A2 c2 R1 ∧ Rg V W2.heap.size K N A3 c3 R2 ∧ Rg V W3.heap.size 0 K A4 c4 R3 ∧ Rg V W4.heap.size I N A5 c5 R4 ∧ Rg V W5.heap.size 0 N A6 c6 R5) Hx.out ?_
  clear Hx
  rintro V6 H0
  have H := Lib.hid H0
  clear H0
  refine (merge_any x0 0 I I N (by omega) (by omega) (by omega) (by omega) A1 c1 A5 c5 R0 R4 (fun d hd => by rcases List.mem_append.1 hd with h | h; exact HR0.out.2.2 d h; exact HR4.out.2.2 d h) V6 H.out.2.2.1.2 H.out.2.2.2.2.2.2.1.2 (hG.next H.out.2.1) (hT.next H.out.2.1)).mono ?_
  rintro r W6 ⟨v6, rfl, hown, hbx⟩
  rw [show mergeV (cutW x0) 0 I R0 I N R4 = ⟨0, N, rangeM (cutW x0) L 0 N, 0⟩ by rw [← HR0.out.1, ← HR4.out.1]; exact mergeV_range (cutW x0) L (by omega) (by omega) (by have := Hl.out; omega) (by have := Hl.out; omega)] at hown ⊢
  have hown : W6.ownsRow V6.heap.size 43 32 v6 (rangeM (cutW x0) L 0 N).length (dcells (rangeM (cutW x0) L 0 N)) := hown
  obtain ⟨R6, hR6⟩ : ∃ R, rangeM (cutW x0) L 0 N = R := ⟨_, rfl⟩
  have HR6 : Hid (rangeM (cutW x0) L 0 N = R6 ∧ R6.length ≤ 64 ∧ ∀ d ∈ R6, d.length = 32) := Lib.hid ⟨hR6, by rw [← hR6]; exact rangeM_64 _ _ (by omega), by rw [← hR6]; exact rangeM_mem _ _ _ _⟩
  rw [hR6] at hown
  clear hR6
  obtain ⟨A7, c7, rfl⟩ := own_slice hown
  have Hk := Lib.hid (And.intro hown hbx)
  clear hown hbx
  have hn1 := below_new1 W6 (Obj.cells #[.int .u64 (((0 : Nat)) : Int), .int .u64 (((N : Nat)) : Int), .slice A7 R6.length c7] 31)
  have Hx : Hid (SSl (W6.alloc (Obj.cells #[.int .u64 ((0 : Nat) : Int), .int .u64 ((N : Nat) : Int), .slice A7 R6.length c7] 31)) (W6.alloc (Obj.cells #[.int .u64 ((0 : Nat) : Int), .int .u64 ((N : Nat) : Int), .slice A7 R6.length c7] 31)).heap.size (.slice A0 L.length cap0) L ∧ Below w.heap.size w (W6.alloc (Obj.cells #[.int .u64 ((0 : Nat) : Int), .int .u64 ((N : Nat) : Int), .slice A7 R6.length c7] 31)) ∧ Rg (W6.alloc (Obj.cells #[.int .u64 ((0 : Nat) : Int), .int .u64 ((N : Nat) : Int), .slice A7 R6.length c7] 31)) W0.heap.size 0 I A1 c1 R0 ∧ Rg (W6.alloc (Obj.cells #[.int .u64 ((0 : Nat) : Int), .int .u64 ((N : Nat) : Int), .slice A7 R6.length c7] 31)) W1.heap.size I K A2 c2 R1 ∧ Rg (W6.alloc (Obj.cells #[.int .u64 ((0 : Nat) : Int), .int .u64 ((N : Nat) : Int), .slice A7 R6.length c7] 31)) W2.heap.size K N A3 c3 R2 ∧ Rg (W6.alloc (Obj.cells #[.int .u64 ((0 : Nat) : Int), .int .u64 ((N : Nat) : Int), .slice A7 R6.length c7] 31)) W3.heap.size 0 K A4 c4 R3 ∧ Rg (W6.alloc (Obj.cells #[.int .u64 ((0 : Nat) : Int), .int .u64 ((N : Nat) : Int), .slice A7 R6.length c7] 31)) W4.heap.size I N A5 c5 R4 ∧ Rg (W6.alloc (Obj.cells #[.int .u64 ((0 : Nat) : Int), .int .u64 ((N : Nat) : Int), .slice A7 R6.length c7] 31)) W5.heap.size 0 N A6 c6 R5 ∧ Rg (W6.alloc (Obj.cells #[.int .u64 ((0 : Nat) : Int), .int .u64 ((N : Nat) : Int), .slice A7 R6.length c7] 31)) W6.heap.size 0 N A7 c7 R6) := Lib.hid ⟨(H.out.1.next Hk.out.2).next hn1, (H.out.2.1.trans (Hk.out.2.mono H.out.2.1.size)).trans (hn1.mono (Nat.le_trans H.out.2.1.size Hk.out.2.size)), (H.out.2.2.1.next Hk.out.2).next hn1, (H.out.2.2.2.1.next Hk.out.2).next hn1, (H.out.2.2.2.2.1.next Hk.out.2).next hn1, (H.out.2.2.2.2.2.1.next Hk.out.2).next hn1, (H.out.2.2.2.2.2.2.1.next Hk.out.2).next hn1, (H.out.2.2.2.2.2.2.2.next Hk.out.2).next hn1, Rg.mk (b := 0) (e := N) Hk.out.1⟩
  clear H Hk hn1
  simp only [rgC, nU]
  go_upto_region 14 with fail
  refine wp_region_mixP (.plain 0 <| .plain 1 <| .plain 2 <| .plain 3 <| .plain 4 <| .plain 5 <| .plain 6 <| .plain 7 <| .plain 8 <| .only 9 <| .only 10 <| .plain 11 <| .plain 12 <| .plain 13 <| .plain 14 <| .plain 15 <| .plain 16 <| .plain 17 <| .plain 18 <| .plain 19 <| .plain 20 <| .plain 21 <| .plain 22 <| .plain 23 <| .plain 24 <| .only 25 <| .plain 26 <| .plain 27 <| .done) (by kernel_rfl) (by kernel_rfl) (fun X1 hb1 => ?_)
  have HU := Lib.hid (Hx.out.2.2.2.2.2.2.2.1.next hb1)
  have HV := Lib.hid (Hx.out.2.2.2.2.2.2.2.2.next hb1)
  have HY := Lib.hid (Hx.out.2.2.2.1.next hb1)
  have hbel := Hx.out.2.1.trans (hb1.mono Hx.out.2.1.size)
  clear hb1 Hx
  have HB := Lib.hid hbel
  clear hbel
  have he : R6 = R5 := HR6.out.1.symm.trans HR5.out.1
  subst he
  have h6 : (R6.length : Int) ≤ 6 := by
    have h1 : R6.length = (blocksL 0 N).length := by rw [← HR6.out.1]; exact rangeM_length _ _ _ _
    have h2 := blocks_few 6 (e := N) (by omega)
    omega
  have h12 : (R1.length : Int) ≤ 12 := by
    have h1 : R1.length = (blocksL I K).length := by rw [← HR1.out.1]; exact rangeM_length _ _ _ _
    have h2 := blocks_many 6 (by decide) (a := I) (e := K) (by omega)
    omega
  iterate 9 (refine mix_plain rfl ?_; (first
    | (refine wpQuiet_load rfl _ (.tmp 22) rfl (W5.heap.size) rfl _ (rgC 0 N (.slice A6 R6.length c6)) _ _ (fun _ ⟨e, he⟩ => by rw [he]; exact HU.out.1.plus e) Tryd.underlying31 rfl (by kernel_rfl) ?_; simp only [Act.put, List.setIfInBounds_toArray, List.set_cons_zero, List.set_cons_succ])
    | (refine wpQuiet_load rfl _ (.tmp 24) rfl (W6.heap.size) rfl _ (rgC 0 N (.slice A7 R6.length c7)) _ _ (fun _ ⟨e, he⟩ => by rw [he]; exact HV.out.1.plus e) Tryd.underlying31 rfl (by kernel_rfl) ?_; simp only [Act.put, List.setIfInBounds_toArray, List.set_cons_zero, List.set_cons_succ])
    | go_big_quiet_step (fail)); refine wpQuiet_nil ?_)
  refine mix_only_in rfl (fun K hK => ?_)
  refine wpList_unguard rfl ?_
  go_wp2_with fail
  refine (plain_any 0 N A7 R6.length c7 X1).mono ?_
  rintro r X2 ⟨rfl, hb2⟩
  go_wp2_with fail
  refine hK _ _ (below_plus hb2) ?_
  clear hK K
  refine mix_only_in rfl (fun K hK => ?_)
  refine wpList_unguard rfl ?_
  go_wp2_with fail
  refine (same10_any 0 N A6 A7 c6 c7 R6 HR6.out.2.2 (by have := HR6.out.2.1; omega) X2 (HU.out.2.next hb2) (HV.out.2.next hb2)).mono ?_
  rintro r X3 ⟨rfl, hb3⟩
  have hb13 := hb2.trans (hb3.mono hb2.size)
  go_wp2_with fail
  refine hK _ _ (below_plus hb13) ?_
  clear hK K hb2 hb3
  iterate 14 (refine mix_plain rfl ?_; (first
    | (refine wpQuiet_load1 rfl _ (.tmp 127) rfl _ rfl _ Tryd.underlying29 rfl (.slice A6 R6.length c6) (fun _ ⟨e, he⟩ => by rw [he]; exact (HU.out.1.plus e).cell 2) ?_; simp only [Act.put, List.setIfInBounds_toArray, List.set_cons_zero, List.set_cons_succ])
    | (refine wpQuiet_load1 rfl _ (.tmp 133) rfl _ rfl _ Tryd.underlying29 rfl (.slice A2 R1.length c2) (fun _ ⟨e, he⟩ => by rw [he]; exact (HY.out.1.plus e).cell 2) ?_; simp only [Act.put, List.setIfInBounds_toArray, List.set_cons_zero, List.set_cons_succ])
    | go_big_quiet_step (fail)); refine wpQuiet_nil ?_)
  refine mix_only_in rfl (fun K hK => ?_)
  refine wpList_unguard rfl ?_
  go_wp2_with fail
  have hbel3 := HB.out.trans (hb13.mono HB.out.size)
  refine (known10_any X3 (hG.next hbel3) (hT.next hbel3)).mono ?_
  rintro r X4 ⟨rfl, hb4⟩
  have hb14 := hb13.trans (hb4.mono hb13.size)
  go_wp2_with fail
  refine hK _ _ (below_plus hb14) ?_
  clear hK K
  iterate 2 (refine mix_plain rfl ?_; go_big_quiet_step (fail); refine wpQuiet_nil ?_)
  refine mix_done ?_
  go_wp2_with fail
  go_ret
  exact ⟨rfl, hbel3.trans (hb4.mono hbel3.size)⟩
end Go.Proofs.YtkogehkmldbhgaaDoor
