/- The walk of the law VerifyNumbers. No condition. -/
import Derived.Test.YtppglfgggfkcmaaDoorP18
import Derived.Test.YtppglfgggfkcmaaDoorP19
namespace Go.Proofs.YtppglfgggfkcmaaDoor
open Go Go.RowKit
attribute [local irreducible] mixW
attribute [local go_sem] n8_lo n8_hi n64_lo n64_hi n32_lo n32_hi
theorem byte_v8 (i : Nat) (hi : i < 256) : Value.int .u8 (i : Int) = v8 (UInt8.ofNat i) := by
  unfold v8 n8
  rw [UInt8.toNat_ofNat_of_lt' (by show i < 256; exact hi)]
theorem oneB (W : World) (i : Nat) (hi : i < 256) : BSl (W.alloc (.cells #[.int .u8 (i : Int)] 5)) (W.alloc (.cells #[.int .u8 (i : Int)] 5)).heap.size (.slice (some ⟨W.heap.size, 0, none⟩) 1 1) [UInt8.ofNat i] := by
  have h := Blk.new W 5 #[.int .u8 (i : Int)]
  refine ⟨_, 1, rfl, Nat.le_refl _, by decide, ?_⟩
  have h2 := Reads.of_blk h h.lt 0
  rw [List.map_singleton, ← byte_v8 i hi]
  simpa using h2
theorem twoB (W : World) (i : Nat) (hi : i < 256) : BSl (W.alloc (.cells #[.int .u8 0, .int .u8 (i : Int)] 5)) (W.alloc (.cells #[.int .u8 0, .int .u8 (i : Int)] 5)).heap.size (.slice (some ⟨W.heap.size, 0, none⟩) 2 2) [0, UInt8.ofNat i] := by
  have h := Blk.new W 5 #[.int .u8 0, .int .u8 (i : Int)]
  refine ⟨_, 2, rfl, Nat.le_refl _, by decide, ?_⟩
  have h2 := Reads.of_blk h h.lt 0
  rw [List.map_cons, List.map_singleton, ← byte_v8 i hi, show v8 0 = Value.int .u8 0 from rfl]
  simpa using h2
theorem kw1b : cutW 1 = 1 := by decide
set_option maxRecDepth 100000 in
theorem vn_ab : decide (leafM 32 [97] = leafM 32 [98]) = false := by decide +kernel
set_option maxRecDepth 100000 in
theorem vn_pair : leafM 1 [UInt8.ofNat 8] = leafM 1 [UInt8.ofNat 1] := by decide +kernel
theorem collS_one (n : Nat) (a b : List UInt8) (h : leafM n a = leafM n b) (hne : a ≠ b) : collS n a b 0 1 [] [] = some (0 :: a, 0 :: b) := collS_swap n a b 0 1 [] (leafM n a) h hne (leafS_self n a)
theorem collS_same (n : Nat) (a : List UInt8) (i s : Nat) (p q : List (List UInt8)) : collS n a a i s p q = none := if_pos rfl
theorem collS_two (n : Nat) (a b : List UInt8) (hne : a ≠ b) (h : leafM n a ≠ leafM n b) : collS n a b 0 1 [] [] = none := by
  unfold collS
  rw [if_neg hne, if_neg (by decide), wayS_nil, if_pos rfl, wayS_nil, if_pos rfl]
  exact if_neg h
theorem prefS_over (n : Nat) (o r : List UInt8) (p : List (List UInt8)) : prefS n 2 1 o r p = false := if_pos (.inr (by decide))
theorem prefS_short (n : Nat) (o r : List UInt8) : prefS n 1 2 o r [] = false := by
  unfold prefS
  rw [if_neg (by decide), if_neg (by decide), if_pos rfl]
theorem prefS_two (n : Nat) (o r : List UInt8) (h : cutL o (n : Int) ≠ cutL r (n : Int)) : prefS n 2 2 o r [] = false := by
  unfold prefS
  rw [if_neg (by decide), if_pos rfl, decide_eq_false h, Bool.and_false]
theorem leafS_out (n : Nat) (b : List UInt8) (i : Nat) (p : List (List UInt8)) (r : List UInt8) : leafS n b i i p r = false := if_pos (Nat.le_refl _)
set_option maxHeartbeats 4000000 in
set_option maxRecDepth 100000 in
theorem verifyNumbers_walk (w : World) (hG : Glob w) :
    Calls Tryd.prog 6 #[] w fun e w' => e = .returned (.bool true) ∧ Below w.heap.size w w' := by
  have hne0 := of_decide_eq_false vn_ab
  obtain ⟨Ra, hRa⟩ : ∃ L, leafM 32 [97] = L := ⟨_, rfl⟩
  obtain ⟨Rb, hRb⟩ : ∃ L, leafM 32 [98] = L := ⟨_, rfl⟩
  have HL : Hid (leafM 32 [97] = Ra ∧ leafM 32 [98] = Rb ∧ Ra.length = 32 ∧ Rb.length = 32 ∧ prefS 32 2 2 Ra Rb [] = false ∧ collS 32 [97] [98] 0 1 [] [] = none) := Lib.hid ⟨hRa, hRb, by rw [← hRa]; exact sumM_length _ _, by rw [← hRb]; exact sumM_length _ _, by rw [← hRa, ← hRb]; exact prefS_two _ _ _ (by rw [leafM_cut, leafM_cut]; exact hne0), collS_two _ _ _ (by decide) hne0⟩
  clear hRa hRb hne0
  go_enter Tryd.func6, Tryd.ntmps6
  go_wp2_with (first
    | (refine wpList_convLit rfl (.tmp 14) rfl w 1 [97] rfl (by decide) rfl rfl ?_; intro W1 hL1 hb1))
  refine (mleaf_any 32 _ [97] W1 hL1 (by simp) (hG.next hb1)).mono ?_
  rintro e w1 ⟨rfl, hb2⟩
  rw [kw32b, HL.out.1]
  have hbel := hb1.trans (hb2.mono hb1.size)
  clear hb1 hb2 hL1
  have hD := Blk.new w1 26 (arr 32 fun _ => 0)
  have hbn := below_new1 w1 (Obj.cells (arr 32 fun _ => 0) 26)
  go_upto_region 2 with (first
    | (refine wpList_storeDat rfl rfl 26 (.tmp 1) (.tmp 16) rfl w1.heap.size rfl _ _ rfl _ hD (by kernel_rfl) ?_; intro w2 hA2 hon2))
  refine wp_at (fun W => Blk W w1.heap.size 26 (dat Ra) ∧ Below w.heap.size w W) ⟨hA2, hbel.trans ((below_only hbn hon2 (Nat.le_refl _) hbn.size).mono hbel.size)⟩ ?_
  obtain ⟨g1, hg1⟩ : ∃ g, w1.heap.size = g := ⟨_, rfl⟩
  rw [hg1]
  clear hA2 hon2 hbn hD hbel hg1 w2
  rintro w2 ⟨hA, hbel⟩
  go_wp2_with (first
    | (refine wpList_convLit rfl (.tmp 17) rfl w2 1 [98] rfl (by decide) rfl rfl ?_; intro W3 hL3 hb3; replace hA := hA.below hb3 hA.lt; replace hbel := hbel.trans (hb3.mono hbel.size); clear hb3))
  refine (mleaf_any 32 _ [98] W3 hL3 (by simp) (hG.next hbel)).mono ?_
  rintro e w4 ⟨rfl, hb⟩
  rw [kw32b, HL.out.2.1]
  replace hA := hA.below hb hA.lt
  replace hbel := hbel.trans (hb.mono hbel.size)
  clear hb hL3
  have hD := Blk.new w4 26 (arr 32 fun _ => 0)
  have hbn := below_new1 w4 (Obj.cells (arr 32 fun _ => 0) 26)
  go_upto_region 3 with (first
    | (refine wpList_storeDat rfl rfl 26 (.tmp 2) (.tmp 19) rfl w4.heap.size rfl _ _ rfl _ hD (by kernel_rfl) ?_; intro w5 hB5 hon5))
  have hb5 := below_only hbn hon5 (Nat.le_refl _) hbn.size
  refine wp_at (fun W => Blk W w4.heap.size 26 (dat Rb) ∧ Blk W g1 26 (dat Ra) ∧ Below w.heap.size w W) ⟨hB5, hA.below hb5 hA.lt, hbel.trans (hb5.mono hbel.size)⟩ ?_
  obtain ⟨g2, hg2⟩ : ∃ g, w4.heap.size = g := ⟨_, rfl⟩
  rw [hg2]
  clear hB5 hon5 hb5 hbn hD hbel hg2 w5 hA
  rintro w5 ⟨hB, hA, hbel⟩
  go_wp2_with (first
    | (refine wpList_convLit rfl (.tmp 21) rfl w5 1 [97] rfl (by decide) rfl rfl ?_; intro W6 hL6 hb6; replace hA := hA.below hb6 hA.lt; replace hB := hB.below hb6 hB.lt; replace hbel := hbel.trans (hb6.mono hbel.size); clear hb6)
    | (refine wpList_convLit rfl (.tmp 23) rfl W6 1 [97] rfl (by decide) rfl rfl ?_; intro W7 hL7 hb7; replace hA := hA.below hb7 hA.lt; replace hB := hB.below hb7 hB.lt; replace hL6 := hL6.next hb7; replace hbel := hbel.trans (hb7.mono hbel.size); clear hb7))
  refine (vcoll_any 32 _ _ [97] [97] 0 1 (by decide) (by decide) _ _ [] [] (fun d hd => by cases hd) (fun d hd => by cases hd) (by decide) (by decide) W7 hL6 hL7 (by simp) (by simp) (DX.nil_ W7) (DX.nil_ W7) (hG.next hbel)).mono ?_
  rintro e w8 ⟨⟨x8, y8, rfl, -, -⟩, hb⟩
  rw [collS_same]
  replace hA := hA.below hb hA.lt
  replace hB := hB.below hb hB.lt
  replace hbel := hbel.trans (hb.mono hbel.size)
  clear hb hL6 hL7
  simp only [Option.isSome_none]
  go_wp2_with (first
    | (refine wpList_convLit rfl (.tmp 30) rfl w8 1 [97] rfl (by decide) rfl rfl ?_; intro W9 hL9 hb9; replace hA := hA.below hb9 hA.lt; replace hB := hB.below hb9 hB.lt; replace hbel := hbel.trans (hb9.mono hbel.size); clear hb9)
    | (refine wpList_convLit rfl (.tmp 32) rfl W9 1 [98] rfl (by decide) rfl rfl ?_; intro W10 hL10 hb10; replace hA := hA.below hb10 hA.lt; replace hB := hB.below hb10 hB.lt; replace hL9 := hL9.next hb10; replace hbel := hbel.trans (hb10.mono hbel.size); clear hb10))
  refine (vcoll_any 32 _ _ [97] [98] 0 1 (by decide) (by decide) _ _ [] [] (fun d hd => by cases hd) (fun d hd => by cases hd) (by decide) (by decide) W10 hL9 hL10 (by simp) (by simp) (DX.nil_ W10) (DX.nil_ W10) (hG.next hbel)).mono ?_
  rintro e w11 ⟨⟨x11, y11, rfl, -, -⟩, hb⟩
  rw [kw32b, HL.out.2.2.2.2.2]
  replace hA := hA.below hb hA.lt
  replace hB := hB.below hb hB.lt
  replace hbel := hbel.trans (hb.mono hbel.size)
  clear hb hL9 hL10
  simp only [Option.isSome_none]
  go_wp2_with (first
    | (refine wpList_unguard rfl ?_; refine wpList_convLit rfl (.tmp 43) rfl w11 1 [97] rfl (by decide) rfl rfl ?_; intro W12 hL12 hb12; replace hA := hA.below hb12 hA.lt; replace hB := hB.below hb12 hB.lt; replace hbel := hbel.trans (hb12.mono hbel.size); clear hb12)
    | (refine wpList_loadW (by rfl) 26 (.tmp 1) rfl g1 rfl _ _ _ hA Tryd.underlying26 rfl (by kernel_rfl) ?_))
  refine (vLeaf_any 32 _ [97] 0 0 (by decide) (by decide) _ [] (fun d hd => by cases hd) (by decide) Ra HL.out.2.2.1 W12 hL12 (by simp) (DX.nil_ W12) (hG.next hbel)).mono ?_
  rintro e w13 ⟨rfl, hb⟩
  rw [leafS_out]
  replace hA := hA.below hb hA.lt
  replace hB := hB.below hb hB.lt
  replace hbel := hbel.trans (hb.mono hbel.size)
  clear hb hL12
  go_wp2_with (first
    | (refine wpList_unguard rfl ?_; refine wpList_convLit rfl (.tmp 49) rfl w13 1 [97] rfl (by decide) rfl rfl ?_; intro W14 hL14 hb14; replace hA := hA.below hb14 hA.lt; replace hB := hB.below hb14 hB.lt; replace hbel := hbel.trans (hb14.mono hbel.size); clear hb14)
    | (refine wpList_loadW (by rfl) 26 (.tmp 1) rfl g1 rfl _ _ _ hA Tryd.underlying26 rfl (by kernel_rfl) ?_))
  refine (vLeaf_any 32 _ [97] 1 1 (by decide) (by decide) _ [] (fun d hd => by cases hd) (by decide) Ra HL.out.2.2.1 W14 hL14 (by simp) (DX.nil_ W14) (hG.next hbel)).mono ?_
  rintro e w15 ⟨rfl, hb⟩
  rw [leafS_out]
  replace hA := hA.below hb hA.lt
  replace hB := hB.below hb hB.lt
  replace hbel := hbel.trans (hb.mono hbel.size)
  clear hb hL14
  go_wp2_with (first
    | (refine wpList_loadW (by rfl) 26 (.tmp 1) rfl g1 rfl _ _ _ hA Tryd.underlying26 rfl (by kernel_rfl) ?_)
    | (refine wpList_loadW (by rfl) 26 (.tmp 2) rfl g2 rfl _ _ _ hB Tryd.underlying26 rfl (by kernel_rfl) ?_))
  refine (vprefix_any 32 2 2 (by decide) (by decide) Ra Rb HL.out.2.2.1 HL.out.2.2.2.1 _ [] (fun d hd => by cases hd) (by decide) w15 (DX.nil_ w15) (hG.next hbel)).mono ?_
  rintro e w16 ⟨rfl, hb⟩
  rw [kw32b, HL.out.2.2.2.2.1]
  replace hA := hA.below hb hA.lt
  replace hB := hB.below hb hB.lt
  replace hbel := hbel.trans (hb.mono hbel.size)
  clear hb
  go_wp2_with (first
    | (refine wpList_loadW (by rfl) 26 (.tmp 1) rfl g1 rfl _ _ _ hA Tryd.underlying26 rfl (by kernel_rfl) ?_)
    | (refine wpList_loadW (by rfl) 26 (.tmp 2) rfl g2 rfl _ _ _ hB Tryd.underlying26 rfl (by kernel_rfl) ?_))
  refine (vprefix_any 32 2 1 (by decide) (by decide) Ra Ra HL.out.2.2.1 HL.out.2.2.1 _ [] (fun d hd => by cases hd) (by decide) w16 (DX.nil_ w16) (hG.next hbel)).mono ?_
  rintro e w17 ⟨rfl, hb⟩
  rw [prefS_over]
  replace hA := hA.below hb hA.lt
  replace hB := hB.below hb hB.lt
  replace hbel := hbel.trans (hb.mono hbel.size)
  clear hb
  go_wp2_with (first
    | (refine wpList_loadW (by rfl) 26 (.tmp 1) rfl g1 rfl _ _ _ hA Tryd.underlying26 rfl (by kernel_rfl) ?_)
    | (refine wpList_loadW (by rfl) 26 (.tmp 2) rfl g2 rfl _ _ _ hB Tryd.underlying26 rfl (by kernel_rfl) ?_))
  refine (vprefix_any 32 1 2 (by decide) (by decide) Ra Rb HL.out.2.2.1 HL.out.2.2.2.1 _ [] (fun d hd => by cases hd) (by decide) w17 (DX.nil_ w17) (hG.next hbel)).mono ?_
  rintro e w18 ⟨rfl, hb⟩
  rw [prefS_short]
  replace hbel := hbel.trans (hb.mono hbel.size)
  clear hb hA hB
  go_wp2_with fail
  go_loopw [9] (fun iv wr => ∃ i : Nat, i ≤ 256 ∧ iv = .int .i64 i ∧ Aside (∀ a, a < i → ∀ b, b < a → leafM 1 [UInt8.ofNat a] ≠ leafM 1 [UInt8.ofNat b]) ∧ Below w.heap.size w wr) (fun iv _ => 256 - (intOf iv).toNat)
  case atStart => exact ⟨0, by omega, rfl, (fun a ha => by omega), hbel⟩
  clear hbel
  case round =>
    obtain ⟨i, hil, rfl, hI, hbel⟩ := hrel
    have HI := Lib.hid hI.out
    clear hI
    by_cases hi : i < 256
    case neg =>
      obtain rfl : i = 256 := by omega
      exact absurd vn_pair (HI.out 8 (by decide) 1 (by decide))
    have hi' : (i : Int) < 256 := by omega
    go_wp2_with fail
    go_loopw [10] (fun kv wr => ∃ k : Nat, k ≤ i ∧ kv = .int .i64 k ∧ Aside (∀ b, b < k → leafM 1 [UInt8.ofNat i] ≠ leafM 1 [UInt8.ofNat b]) ∧ Below w.heap.size w wr) (fun kv _ => i - (intOf kv).toNat)
    case atStart => exact ⟨0, Nat.zero_le _, rfl, (fun b hb => by omega), hbel⟩
    clear hbel
    case round =>
      obtain ⟨k, hkl, rfl, hK, hbel⟩ := hrel
      have HK := Lib.hid hK.out
      clear hK
      by_cases hk : k < i
      case neg =>
        obtain rfl : k = i := by omega
        have hkk : ¬ (k : Int) < (k : Int) := by omega
        go_wp2_with fail
        go_roundw
        case rel =>
          refine ⟨k + 1, by omega, by go_num, ?_, hbel⟩
          intro a ha b hb
          by_cases hak : a < k
          · exact HI.out a hak b hb
          · obtain rfl : a = k := by omega
            exact HK.out b hb
        case measure => simp [intOf]; omega
      have hk' : (k : Int) < (i : Int) := by omega
      have hk256 : k < 256 := by omega
      go_wp2_with fail
      refine (mleaf_any 1 _ [UInt8.ofNat i] _ (oneB wr i hi) (by simp) (hG.next (hbel.trans ((below_new1 wr _).mono hbel.size)))).mono ?_
      rintro e W2 ⟨rfl, hb⟩
      rw [kw1b]
      replace hbel := hbel.trans (((below_new1 wr _).trans (hb.mono (below_new1 wr _).size)).mono hbel.size)
      clear hb
      have Hl1 : Hid ((leafM 1 [UInt8.ofNat i]).length = 32) := Lib.hid (sumM_length _ _)
      obtain ⟨d1, hd1⟩ : ∃ d, leafM 1 [UInt8.ofNat i] = d := ⟨_, rfl⟩
      rw [hd1] at Hl1 ⊢
      have HD1 := Lib.hid hd1
      clear hd1
      go_wp2_with fail
      refine (mleaf_any 1 _ [UInt8.ofNat k] _ (oneB W2 k hk256) (by simp) (hG.next (hbel.trans ((below_new1 W2 _).mono hbel.size)))).mono ?_
      rintro e W3 ⟨rfl, hb⟩
      rw [kw1b]
      replace hbel := hbel.trans (((below_new1 W2 _).trans (hb.mono (below_new1 W2 _).size)).mono hbel.size)
      clear hb
      have Hl2 : Hid ((leafM 1 [UInt8.ofNat k]).length = 32) := Lib.hid (sumM_length _ _)
      obtain ⟨d2, hd2⟩ : ∃ d, leafM 1 [UInt8.ofNat k] = d := ⟨_, rfl⟩
      rw [hd2] at Hl2 ⊢
      have HD2 := Lib.hid hd2
      clear hd2
      obtain ⟨e1, he1⟩ : ∃ e, decide (d1 = d2) = e := ⟨_, rfl⟩
      have HE := Lib.hid he1
      clear he1
      cases e1 with
      | false =>
        go_wp2_with (first
          | (refine wpList_eqD rfl (.tmp 81) (.tmp 85) _ rfl d1 d2 rfl rfl Hl1.out Hl2.out false HE.out ?_))
        go_roundw
        case rel =>
          refine ⟨k + 1, by omega, by go_num, ?_, hbel⟩
          intro b hb
          by_cases hbk : b < k
          · exact HK.out b hbk
          · obtain rfl : b = k := by omega
            rw [HD1.out, HD2.out]
            exact of_decide_eq_false HE.out
        case measure => simp [intOf]; omega
      | true =>
        have hne : ([UInt8.ofNat i] : List UInt8) ≠ [UInt8.ofNat k] := fun h => by
          have h1 := congrArg UInt8.toNat (List.cons.inj h).1
          rw [UInt8.toNat_ofNat_of_lt' (by show i < 256; exact hi), UInt8.toNat_ofNat_of_lt' (by show k < 256; exact hk256)] at h1
          omega
        have HC := Lib.hid (collS_one 1 [UInt8.ofNat i] [UInt8.ofNat k] (by rw [HD1.out, HD2.out]; exact of_decide_eq_true HE.out) hne)
        clear hne
        go_wp2_with (first
          | (refine wpList_eqD rfl (.tmp 81) (.tmp 85) _ rfl d1 d2 rfl rfl Hl1.out Hl2.out true HE.out ?_))
        have hb34 := (below_new1 W3 (Obj.cells #[.int .u8 (i : Int)] 5)).alloc (below_new1 W3 _).size (Obj.cells #[.int .u8 (k : Int)] 5)
        have hB1 := (oneB W3 i hi).next (below_new1 (W3.alloc (Obj.cells #[.int .u8 (i : Int)] 5)) (Obj.cells #[.int .u8 (k : Int)] 5))
        have hB2 := oneB (W3.alloc (Obj.cells #[.int .u8 (i : Int)] 5)) k hk256
        have hz3 : (W3.alloc (Obj.cells #[.int .u8 (i : Int)] 5)).heap.size = W3.heap.size + 1 := by simp
        have hB3 : BSl ((W3.alloc (Obj.cells #[.int .u8 (i : Int)] 5)).alloc (Obj.cells #[.int .u8 (k : Int)] 5)) ((W3.alloc (Obj.cells #[.int .u8 (i : Int)] 5)).alloc (Obj.cells #[.int .u8 (k : Int)] 5)).heap.size (.slice (some ⟨W3.heap.size + 1, 0, none⟩) 1 1) [UInt8.ofNat k] := by rw [← hz3]; exact hB2
        refine calls_at (fun W => BSl W W.heap.size (.slice (some ⟨W3.heap.size, 0, none⟩) 1 1) [UInt8.ofNat i] ∧ BSl W W.heap.size (.slice (some ⟨W3.heap.size + 1, 0, none⟩) 1 1) [UInt8.ofNat k] ∧ Below w.heap.size w W) ⟨hB1, hB3, hbel.trans (hb34.mono hbel.size)⟩ ?_
        clear hB1 hB2 hB3 hz3 hb34 hbel
        rintro W34 ⟨hB1, hB3, hbel⟩
        refine (vcoll_any 1 _ _ [UInt8.ofNat i] [UInt8.ofNat k] 0 1 (by decide) (by decide) _ _ [] [] (fun d hd => by cases hd) (fun d hd => by cases hd) (by decide) (by decide) W34 hB1 hB3 (by simp) (by simp) (DX.nil_ W34) (DX.nil_ W34) (hG.next hbel)).mono ?_
        rintro e W4 ⟨⟨cu, cv, rfl, hcu4, hcv4⟩, hb⟩
        rw [kw1b, HC.out] at hcu4 hcv4 ⊢
        replace hbel := hbel.trans (hb.mono hbel.size)
        clear hb hB1 hB3
        have hcu5 : BSl W4 W4.heap.size cu [0, UInt8.ofNat i] := hcu4
        have hcv5 : BSl W4 W4.heap.size cv [0, UInt8.ofNat k] := hcv4
        have HV := Lib.hid (And.intro hcu5 hcv5)
        clear hcu4 hcv4 hcu5 hcv5
        simp only [Option.isSome_some]
        have hT1 := twoB W4 i hi
        have hT2 := twoB (W4.alloc (Obj.cells #[.int .u8 0, .int .u8 (i : Int)] 5)) k hk256
        have hz4 : (W4.alloc (Obj.cells #[.int .u8 0, .int .u8 (i : Int)] 5)).heap.size = W4.heap.size + 1 := by simp
        have hT3 : BSl ((W4.alloc (Obj.cells #[.int .u8 0, .int .u8 (i : Int)] 5)).alloc (Obj.cells #[.int .u8 0, .int .u8 (k : Int)] 5)) ((W4.alloc (Obj.cells #[.int .u8 0, .int .u8 (i : Int)] 5)).alloc (Obj.cells #[.int .u8 0, .int .u8 (k : Int)] 5)).heap.size (.slice (some ⟨W4.heap.size + 1, 0, none⟩) 2 2) [0, UInt8.ofNat k] := by rw [← hz4]; exact hT2
        have HT := Lib.hid (And.intro hT1 hT3)
        clear hT1 hT2 hT3 hz4
        go_wp2_with (first
          | (refine wpList_unguard rfl ?_; refine wpList_str rfl (.tmp 100) rfl cu [0, UInt8.ofNat i] _ rfl HV.out.1 ?_)
          | (refine wpList_unguard rfl ?_; refine wpList_str rfl (.tmp 104) rfl (.slice (some ⟨W4.heap.size, 0, none⟩) 2 2) [0, UInt8.ofNat i] _ rfl HT.out.1 ?_)
          | (refine wpList_unguard rfl ?_; refine wpList_eqStr rfl (.tmp 101) (.tmp 105) _ rfl [0, UInt8.ofNat i] [0, UInt8.ofNat i] rfl rfl true (decide_eq_true rfl) ?_)
          | (refine wpList_unguard rfl ?_; refine wpList_str rfl (.tmp 109) rfl cv [0, UInt8.ofNat k] _ rfl (HV.out.2.next (below_new1 W4 _)) ?_)
          | (refine wpList_unguard rfl ?_; refine wpList_str rfl (.tmp 113) rfl (.slice (some ⟨W4.heap.size + 1, 0, none⟩) 2 2) [0, UInt8.ofNat k] _ rfl HT.out.2 ?_)
          | (refine wpList_unguard rfl ?_; refine wpList_eqStr rfl (.tmp 110) (.tmp 114) _ rfl [0, UInt8.ofNat k] [0, UInt8.ofNat k] rfl rfl true (decide_eq_true rfl) ?_))
        have hb45 := (below_new1 W4 (Obj.cells #[.int .u8 0, .int .u8 (i : Int)] 5)).alloc (below_new1 W4 _).size (Obj.cells #[.int .u8 0, .int .u8 (k : Int)] 5)
        replace hbel := hbel.trans (hb45.mono hbel.size)
        clear hb45
        refine (known9_any _ (hG.next hbel)).mono ?_
        rintro e w9 ⟨rfl, hb1⟩
        go_wp2_with fail
        try rw [Exit.noGoto_ret]
        go_ret
        exact ⟨rfl, hbel.trans (hb1.mono hbel.size)⟩
end Go.Proofs.YtppglfgggfkcmaaDoor
