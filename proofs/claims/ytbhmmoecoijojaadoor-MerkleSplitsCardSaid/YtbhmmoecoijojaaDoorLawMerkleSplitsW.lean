/- The walk of the law MerkleSplits. No condition. -/
import Derived.Test.YtbhmmoecoijojaaDoorMerkK
import Derived.Test.YtbhmmoecoijojaaDoorWithin
namespace Go.Proofs.YtbhmmoecoijojaaDoor
open Go.RowKit
attribute [local irreducible] mixW
attribute [local go_sem] n8_lo n8_hi n64_lo n64_hi n32_lo n32_hi
theorem rootM_sum (n : Nat) (l : List (List UInt8)) : ∃ b, rootM n l = sumM n b := by
  by_cases h : 2 ≤ l.length
  · rw [rootM_node n l h]; exact ⟨_, rfl⟩
  · match l, h with
    | [], _ => exact ⟨[], rfl⟩
    | [b], _ => exact ⟨_, rfl⟩
    | _ :: _ :: _, h => simp at h
theorem rootM_tail (n : Nat) (l : List (List UInt8)) (i : Nat) (hi : n ≤ i) : (rootM n l).getD i 0 = 0 := by
  obtain ⟨b, hb⟩ := rootM_sum n l
  rw [hb]
  unfold sumM cutL
  rw [List.getD_eq_getElem?_getD, List.getElem?_append_right (by rw [List.length_take, sha_length]; omega), List.getElem?_replicate]
  split <;> rfl
theorem halfN_pow (j : Nat) : halfN (2 * 2 ^ j) = 2 ^ j := by
  unfold halfN
  have h1 : 1 ≤ 2 ^ j := Nat.one_le_two_pow
  have h2 : (2 * 2 ^ j - 1).log2 = j := (Nat.log2_eq_iff (by omega)).2 ⟨by omega, by rw [Nat.pow_succ]; omega⟩
  rw [h2]
theorem rootM_split (n j : Nat) (l : List (List UInt8)) (h : l.length = 2 * 2 ^ j) : rootM n l = nodeM n (rootM n (l.take (2 ^ j))) (rootM n (l.drop (2 ^ j))) := by
  have h1 : 1 ≤ 2 ^ j := Nat.one_le_two_pow
  have := rootM_node n l (by omega)
  rw [h, halfN_pow] at this
  exact this
set_option maxHeartbeats 1000000 in
set_option maxRecDepth 100000 in
theorem merkleSplits_walk (w : World) (hG : Glob w) (x : Int) (hx : -9223372036854775808 ≤ x ∧ x ≤ 9223372036854775807) (k : Int) (hk : -9223372036854775808 ≤ k ∧ k ≤ 9223372036854775807) (c : UInt8) :
    Calls Tryd.prog 3 #[.int .i64 x, .int .i64 k, .int .u8 (n8 c)] w fun e w' => e = .returned (.bool true) ∧ Below w.heap.size w w' := by
  go_enter Tryd.func3, Tryd.ntmps3
  go_wp2_with fail
  refine (within_any k 0 6 w (by decide) (by decide) (by decide) hk.1 hk.2).mono ?_
  rintro e _ ⟨rfl, rfl⟩
  have hb := withinI_bounds k 0 6 (by decide)
  obtain ⟨j, hj⟩ : ∃ j : Nat, withinI k 0 6 = (j : Int) := ⟨(withinI k 0 6).toNat, by omega⟩
  rw [hj] at hb ⊢
  have hj6 : j ≤ 6 := by omega
  clear hj hb
  have e2 : ((2 : Int) ^ j) = ((2 ^ j : Nat) : Int) := by simp
  have h64 : 2 ^ j ≤ 2 ^ 6 := Nat.pow_le_pow_right (by decide) hj6
  have h1 : 1 ≤ 2 ^ j := Nat.one_le_two_pow
  obtain ⟨N, hN⟩ : ∃ N, 2 ^ j = N := ⟨_, rfl⟩
  have HN := Lib.hid hN
  rw [hN] at e2 h64 h1
  have hsh : wrap64 ((2 : Int) ^ j) = (N : Int) := by
    rw [e2]; unfold wrap64; omega
  have hN2 : (N : Int) ≤ 64 := by omega
  have hN1 : (1 : Int) ≤ (N : Int) := by omega
  clear hN e2 h64 h1
  go_wp2_with fail
  rw [hsh]
  clear hsh hj6
  refine (list_any (2 * (N : Int)) c (by omega) (by omega) w).mono ?_
  rintro e w1 ⟨v, rfl, hL, hbel⟩
  rw [show (2 * (N : Int)).toNat = 2 * N by omega] at hL
  have hll := listL_length (2 * N) c
  have hall : ∀ b ∈ listL (2 * N) c, b.length ≤ 140737488355200 := fun b hb => by rw [listL_mem hb]; decide
  have hr := rootM_split (cutW x) j (listL (2 * N) c) (by rw [hll, HN.out])
  rw [HN.out] at hr
  have htail := fun i hi => rootM_tail (cutW x) (listL (2 * N) c) i hi
  have hRl := rootM_length (cutW x) (listL (2 * N) c)
  have hPl := rootM_length (cutW x) ((listL (2 * N) c).take N)
  have hQl := rootM_length (cutW x) ((listL (2 * N) c).drop N)
  obtain ⟨A, cap, vs, rfl, h2, h3, h4, h5, h6⟩ := hL
  have hL : SSl w1 w1.heap.size (.slice A (listL (2 * N) c).length cap) (listL (2 * N) c) := ⟨A, cap, vs, rfl, h2, h3, h4, h5, h6⟩
  clear h4 h5 h6 vs
  rw [hll] at hL h2 ⊢
  generalize listL (2 * N) c = L at hL hll hall hr htail hRl hPl hQl
  obtain ⟨R, hR⟩ : ∃ R, rootM (cutW x) L = R := ⟨_, rfl⟩
  obtain ⟨P, hP⟩ : ∃ P, rootM (cutW x) (L.take N) = P := ⟨_, rfl⟩
  obtain ⟨Q, hQ⟩ : ∃ Q, rootM (cutW x) (L.drop N) = Q := ⟨_, rfl⟩
  rw [hR, hP, hQ] at hr
  rw [hR] at htail hRl
  rw [hP] at hPl
  rw [hQ] at hQl
  have HF := Lib.hid (And.intro hR (And.intro hP (And.intro hQ (And.intro hr (And.intro htail (And.intro hRl (And.intro hPl (And.intro hQl (And.intro hll hall)))))))))
  clear hR hP hQ hr htail hRl hPl hQl hll hall
  go_wp2_with fail
  refine (mroot_any x _ L w1 hL (by rw [HF.out.2.2.2.2.2.2.2.2.1]; omega) HF.out.2.2.2.2.2.2.2.2.2 (hG.next hbel)).mono ?_
  rintro e w2 ⟨rfl, hb1⟩
  rw [HF.out.1]
  replace hL := hL.next hb1
  replace hbel := hbel.trans (hb1.mono hbel.size)
  clear hb1
  have hD := Blk.new w2 27 (arr 32 fun _ => 0)
  have hbn := below_new1 w2 (Obj.cells (arr 32 fun _ => 0) 27)
  go_upto_region 4 with (first
    | (refine wpList_storeDat rfl rfl 27 (.tmp 9) (.tmp 21) rfl w2.heap.size rfl _ _ rfl _ hD (by kernel_rfl) ?_; intro w3 hA hon2))
  have hb1 := below_only hbn hon2 (Nat.le_refl _) hbn.size
  replace hL := hL.next hb1
  replace hbel := hbel.trans (hb1.mono hbel.size)
  clear hb1 hbn hon2 hD
  have hNc : (N : Int) ≤ (cap : Int) := by omega
  have hN0 : (0 : Int) ≤ (N : Int) := by omega
  refine wp_region_mixP (.plain 0 <| .plain 1 <| .plain 2 <| .plain 3 <| .plain 4 <| .plain 5 <| .plain 7 <| .plain 8 <| .plain 9 <| .plain 10 <| .only 6 <| .only 11 <| .only 12 <| .plain 13 <| .done) (by kernel_rfl) (by kernel_rfl) (fun W0 hb1 => ?_)
  replace hL := hL.next hb1
  replace hA := hA.below hb1 hA.lt
  replace hbel := hbel.trans (hb1.mono hbel.size)
  clear hb1
  have hT := hL.take N (by omega)
  have hU := hL.drop N (by omega)
  clear hL
  iterate 10 (refine mix_plain rfl ?_; (first
    | (refine wpQuiet_load rfl 27 (.tmp 9) rfl w2.heap.size rfl _ _ _ _ (fun _ ⟨e, he⟩ => by rw [he]; exact hA.plus e) Tryd.underlying27 rfl (by rw [dat_size]; kernel_rfl) ?_; simp only [Act.put, List.setIfInBounds_toArray, List.set_cons_zero, List.set_cons_succ])
    | (refine wpQuiet_cutL rfl _ (.tmp 30) (.tmp 31) rfl 32 Tryd.underlying24 (by kernel_rfl) A (2 * N) cap N rfl rfl (by omega) ?_; simp only [Act.put, List.setIfInBounds_toArray, List.set_cons_zero, List.set_cons_succ])
    | go_big_quiet_step (fail)); refine wpQuiet_nil ?_)
  refine mix_only rfl (fun K hK => ?_)
  go_wp2_with fail
  refine (mroot_any x _ (L.take N) W0 hT (by rw [List.length_take]; have := HF.out.2.2.2.2.2.2.2.2.1; omega) (fun b hb => HF.out.2.2.2.2.2.2.2.2.2 b (List.mem_of_mem_take hb)) (hG.next hbel)).mono ?_
  rintro e W1 ⟨rfl, hb1⟩
  rw [HF.out.2.1]
  go_wp2_with fail
  refine hK _ _ hb1 ?_
  clear hK K hT
  replace hU := hU.next hb1
  replace hA := hA.below hb1 hA.lt
  replace hbel := hbel.trans (hb1.mono hbel.size)
  clear hb1
  refine mix_only rfl (fun K hK => ?_)
  go_wp2_with fail
  refine (mroot_any x _ (L.drop N) W1 hU (by rw [List.length_drop]; have := HF.out.2.2.2.2.2.2.2.2.1; omega) (fun b hb => HF.out.2.2.2.2.2.2.2.2.2 b (List.mem_of_mem_drop hb)) (hG.next hbel)).mono ?_
  rintro e W2 ⟨rfl, hb1⟩
  rw [HF.out.2.2.1]
  go_wp2_with fail
  refine hK _ _ hb1 ?_
  clear hK K hU
  replace hA := hA.below hb1 hA.lt
  replace hbel := hbel.trans (hb1.mono hbel.size)
  clear hb1
  refine mix_only rfl (fun K hK => ?_)
  go_wp2_with fail
  refine (mnode_any x P Q HF.out.2.2.2.2.2.2.1 HF.out.2.2.2.2.2.2.2.1 W2 (hG.next hbel)).mono ?_
  rintro e W3 ⟨rfl, hb1⟩
  rw [← HF.out.2.2.2.1]
  go_wp2_with fail
  refine hK _ _ hb1 ?_
  clear hK K
  replace hA := hA.below hb1 hA.lt
  replace hbel := hbel.trans (hb1.mono hbel.size)
  clear hb1
  iterate 1 (refine mix_plain rfl ?_; (first
    | (refine wpQuiet_neD rfl (.tmp 22) (.tmp 34) _ rfl R R rfl rfl HF.out.2.2.2.2.2.1 HF.out.2.2.2.2.2.1 true (decide_eq_true rfl) ?_; simp only [Act.put, List.setIfInBounds_toArray, List.set_cons_zero, List.set_cons_succ])
    | go_big_quiet_step (fail)); refine wpQuiet_nil ?_)
  refine mix_done ?_
  have HA := Lib.hid (And.intro hA hbel)
  clear hA hbel
  go_wp2_with fail
  go_loopw [10] (fun iv wr => ∃ i : Nat, i ≤ 32 ∧ iv = .int .i64 i ∧ Blk wr w2.heap.size 27 (dat R) ∧ Below w.heap.size w wr) (fun iv _ => 32 - (intOf iv).toNat)
  case atStart => exact ⟨0, by omega, rfl, HA.out.1, HA.out.2⟩
  case round =>
    clear HA
    obtain ⟨i, hi, rfl, hA, hbel⟩ := hrel
    by_cases hlt : i < 32
    case neg =>
      obtain rfl : i = 32 := by omega
      clear hA hlt hi
      go_wp2_with fail
      refine (known8_any wr (hG.next hbel)).mono ?_
      rintro e w14 ⟨rfl, hb1⟩
      replace hbel := hbel.trans (hb1.mono hbel.size)
      clear hb1
      go_wp2_with fail
      go_ret
      exact ⟨rfl, hbel⟩
    have hlt' : (i : Int) < 32 := by omega
    have cA := dat_cell hA i hlt
    by_cases a1 : 1 ≤ x
    case neg =>
      have b1 : x < 1 := by omega
      clear cA
      have HX := Lib.hid (And.intro hA hbel)
      clear hA hbel
      go_wp2_with fail
      go_roundw
      case rel => exact ⟨i + 1, by omega, by go_num, HX.out.1, HX.out.2⟩
      case measure => simp [intOf]; omega
    by_cases a2 : x ≤ 32
    case neg =>
      have b1 : 32 < x := by omega
      clear cA
      have HX := Lib.hid (And.intro hA hbel)
      clear hA hbel
      go_wp2_with fail
      go_roundw
      case rel => exact ⟨i + 1, by omega, by go_num, HX.out.1, HX.out.2⟩
      case measure => simp [intOf]; omega
    by_cases a3 : x ≤ (i : Int)
    case neg =>
      have b1 : (i : Int) < x := by omega
      clear cA
      have HX := Lib.hid (And.intro hA hbel)
      clear hA hbel
      go_wp2_with fail
      go_roundw
      case rel => exact ⟨i + 1, by omega, by go_num, HX.out.1, HX.out.2⟩
      case measure => simp [intOf]; omega
    have hcw : cutW x = x.toNat := by unfold cutW; rw [if_neg (by omega)]
    have h0 : R.getD i 0 = 0 := HF.out.2.2.2.2.1 i (by rw [hcw]; omega)
    rw [h0, show n8 0 = 0 from rfl] at cA
    clear hcw h0
    have HX := Lib.hid (And.intro hA hbel)
    clear hA hbel
    go_wp2_with fail
    go_roundw
    case rel => exact ⟨i + 1, by omega, by go_num, HX.out.1, HX.out.2⟩
    case measure => simp [intOf]; omega
end Go.Proofs.YtbhmmoecoijojaaDoor
