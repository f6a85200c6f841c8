/- The walk of the law ShaParts. -/
import Derived.Test.YtilndfodlbcmjaaDoorShaF
import Derived.Test.YtilndfodlbcmjaaDoorCut
namespace Go.Proofs.YtilndfodlbcmjaaDoor
open Go.RowKit
set_option maxRecDepth 100000 in
set_option maxHeartbeats 1000000 in
theorem shaParts_walk (w : World) (hG : Glob w) (A : Option Addr) (cap : Nat) (b : List UInt8) (hb : BSl w w.heap.size (.slice A b.length cap) b) (hc : cap ≤ 140737488351232)
    (m : Int) (hm : -9223372036854775808 ≤ m ∧ m ≤ 9223372036854775807) (n : Int) (hn : -9223372036854775808 ≤ n ∧ n ≤ 9223372036854775807) :
    Calls Tryd.prog 5 #[.slice A b.length cap, .int .i64 m, .int .i64 n] w fun e w' => e = .returned (.bool true) ∧ Below w.heap.size w w' := by
  obtain ⟨A', cap', e1, hc1, hc2, hr⟩ := hb
  injection e1 with e1 _ e2
  subst e1; subst e2
  have hb : BSl w w.heap.size (.slice A b.length cap) b := ⟨A, cap, rfl, hc1, hc2, hr⟩
  obtain ⟨hm1, hm2⟩ := hm
  obtain ⟨hn1, hn2⟩ := hn
  have bx := withinI_bounds m 0 b.length (by omega)
  obtain ⟨i, hi⟩ : ∃ i : Nat, withinI m 0 b.length = i := ⟨(withinI m 0 b.length).toNat, by omega⟩
  rw [hi] at bx
  have hib : i ≤ b.length := by omega
  have by' := withinI_bounds n 0 ((b.length : Int) - i) (by omega)
  obtain ⟨j, hj⟩ : ∃ j : Nat, withinI n 0 ((b.length : Int) - i) = j := ⟨(withinI n 0 ((b.length : Int) - i)).toNat, by omega⟩
  rw [hj] at by'
  obtain ⟨k, hk⟩ : ∃ k : Nat, k = i + j := ⟨_, rfl⟩
  have hkb : k ≤ b.length := by omega
  have hik : i ≤ k := by omega
  clear bx by'
  have ek : (i : Int) + (j : Int) = (k : Int) := by omega
  have ekw : IntKind.i64.wrap (k : Int) = k := IntWalk.i64_in _ (by omega)
  clear hk
  go_enter Tryd.func5, Tryd.ntmps5
  go_wp2_with (go_at_call 11; refine (within_any _ _ _ _ (by omega) (by omega) (by omega) (by omega) (by omega)).mono ?_; rintro e w' ⟨rfl, rfl⟩)
  refine wp_region_mixP (.plain 0 <| .plain 1 <| .plain 2 <| .plain 3 <| .plain 4 <| .plain 5 <| .plain 6 <| .plain 7 <| .plain 8 <| .plain 9 <| .plain 13 <| .only 10 <| .only 11 <| .only 12 <| .only 14 <| .plain 15 <| .plain 16 <| .plain 17 <| .plain 18 <| .plain 19 <| .plain 22 <| .plain 23 <| .plain 24 <| .plain 28 <| .only 20 <| .only 21 <| .only 25 <| .only 26 <| .only 27 <| .only 29 <| .plain 30 <| .plain 31 <| .plain 32 <| .only 33 <| .plain 34 <| .plain 35 <| .done) (by kernel_rfl) (by kernel_rfl) (fun W hbel0 => ?_)
  have hG1 := hG.next hbel0
  have hb1 := hb.next hbel0
  have eq1 := Lib.hid (show [b.take i, (b.take k).drop i, (b.take b.length).drop k].flatten = b by
    simp only [List.flatten_cons, List.flatten_nil, List.append_nil, List.take_length]
    rw [← List.append_assoc, show b.take i = (b.take k).take i by rw [List.take_take, Nat.min_eq_left hik], List.take_append_drop, List.take_append_drop])
  have eq2 := Lib.hid (show [[b.take i].flatten, (b.take b.length).drop i].flatten = b by
    simp only [List.flatten_cons, List.flatten_nil, List.append_nil, List.take_length, List.take_append_drop])
  have eq3 := Lib.hid (show [b.take i].flatten.length ≤ b.length by simp; omega)
  have hA := head_b hb1 i hib
  have hM := cut_b hb1 i k hik hkb
  have hT := cut_b hb1 k b.length hkb (Nat.le_refl _)
  have hT2 := cut_b hb1 i b.length hib (Nat.le_refl _)
  have hlb := Lib.hid (show b.length ≤ 140737488351232 by omega)
  have hsl := Lib.hid (sha_length b)
  clear hb hr ek ekw
  repeat (refine mix_plain rfl ?_; (first
    | (refine wpQuiet_cutLH rfl _ (.tmp 24) (.tmp 25) (.tmp 26) rfl 5 Tryd.underlying22 (by kernel_rfl) A b.length cap i k rfl rfl rfl hik (by omega) ?_; simp only [Act.put, List.setIfInBounds_toArray, List.set_cons_zero, List.set_cons_succ])
    | (refine wpQuiet_cutL rfl _ (.tmp 28) (.tmp 29) rfl 5 Tryd.underlying22 (by kernel_rfl) A b.length cap k rfl rfl hkb ?_; simp only [Act.put, List.setIfInBounds_toArray, List.set_cons_zero, List.set_cons_succ])
    | go_big_quiet_step (fail)); refine wpQuiet_nil ?_)
  obtain ⟨AM, cM, eM⟩ : ∃ AM cM, cutV A cap i k = .slice AM (k - i) cM := ⟨_, _, rfl⟩
  obtain ⟨AT, cT, eT⟩ : ∃ AT cT, cutV A cap k b.length = .slice AT (b.length - k) cT := ⟨_, _, rfl⟩
  rw [eM] at hM ⊢
  rw [eT] at hT ⊢
  clear eM eT
  -- the three parts, in a row of their own
  refine mix_only rfl (fun K hK => ?_)
  go_wp2_with fail
  refine hK _ _ (below_new1 W _) ?_
  clear hK K
  have hX := Blk.new W 22 #[.slice A i cap, .slice AM (k - i) cM, .slice AT (b.length - k) cT]
  have hb2 := below_new1 W (Obj.cells #[.slice A i cap, .slice AM (k - i) cM, .slice AT (b.length - k) cT] 22)
  have hS := SSl.three hX _ hX.lt (hA.next hb2) (hM.next hb2) (hT.next hb2)
  refine mix_at (fun W2 => SSl W2 W2.heap.size (.slice (some ⟨W.heap.size, 0, none⟩) 3 3) [b.take i, (b.take k).drop i, (b.take b.length).drop k] ∧ Below W.heap.size W W2) ⟨hS, hb2⟩ ?_
  clear hX hb2 hS
  rintro W2 ⟨hS, hb2⟩
  -- Join
  refine mix_only rfl (fun K hK => ?_)
  go_wp2_with fail
  refine (join_any _ _ _ hS (by rw [eq1.out]; have := hlb.out; omega)).mono ?_
  rintro e W3 ⟨v3, rfl, hown3, hb3⟩
  rw [eq1.out] at hown3
  go_wp2_with fail
  refine hK _ _ hb3 ?_
  clear hK K
  have hB3 := BSl.of_own hown3
  have hb3' := hb2.trans (hb3.mono hb2.size)
  clear hown3 hS hb2 hb3
  -- Sum
  refine mix_only rfl (fun K hK => ?_)
  go_wp2_with fail
  refine (sum_b _ b W3 hB3 (by have := hlb.out; omega) (hG1.next hb3')).mono ?_
  rintro e W4 ⟨rfl, hb4⟩
  go_wp2_with fail
  refine hK _ _ hb4 ?_
  clear hK K hB3
  have hb4' := hb3'.trans (hb4.mono hb3'.size)
  clear hb3' hb4
  refine mix_only rfl (fun K hK => ?_)
  go_wp2_with fail
  refine (sum_b _ b W4 (hb1.next hb4') (by have := hlb.out; omega) (hG1.next hb4')).mono ?_
  rintro e W5 ⟨rfl, hb5⟩
  go_wp2_with fail
  refine hK _ _ hb5 ?_
  clear hK K
  have hb5' := hb4'.trans (hb5.mono hb4'.size)
  clear hb4' hb5
  repeat (refine mix_plain rfl ?_; (first
    | (refine wpQuiet_eqD rfl (.tmp 33) (.tmp 35) _ rfl (sha b) (sha b) rfl rfl hsl.out hsl.out true (decide_eq_true rfl) ?_; simp only [Act.put, List.setIfInBounds_toArray, List.set_cons_zero, List.set_cons_succ])
    | (refine wpQuiet_cutL rfl _ (.tmp 43) (.tmp 44) rfl 5 Tryd.underlying22 (by kernel_rfl) A b.length cap i rfl rfl hib ?_; simp only [Act.put, List.setIfInBounds_toArray, List.set_cons_zero, List.set_cons_succ])
    | go_big_quiet_step (fail)); refine wpQuiet_nil ?_)
  obtain ⟨AI, cI, eI⟩ : ∃ AI cI, cutV A cap i b.length = .slice AI (b.length - i) cI := ⟨_, _, rfl⟩
  rw [eI] at hT2 ⊢
  clear eI hM hT
  have hB1 := hb1.next hb5'
  have hA1 := hA.next hb5'
  have hT1 := hT2.next hb5'
  have hG5 := hG1.next hb5'
  have hbel5 := hbel0.trans (hb5'.mono hbel0.size)
  clear hb5' hA hT2 hG1 hb1 hbel0
  -- a row of one part, Join
  refine mix_only rfl (fun K hK => ?_)
  go_wp2_with fail
  refine hK _ _ (below_new1 W5 _) ?_
  clear hK K
  have hX := Blk.new W5 22 #[.slice A i cap]
  have hb6 := below_new1 W5 (Obj.cells #[.slice A i cap] 22)
  have hS := SSl.one hX _ hX.lt (hA1.next hb6)
  refine mix_at (fun W2 => SSl W2 W2.heap.size (.slice (some ⟨W5.heap.size, 0, none⟩) 1 1) [b.take i] ∧ Below W5.heap.size W5 W2) ⟨hS, hb6⟩ ?_
  clear hX hb6 hS
  rintro W6 ⟨hS, hb6⟩
  refine mix_only rfl (fun K hK => ?_)
  go_wp2_with fail
  refine (join_any _ _ _ hS (by have := eq3.out; have := hlb.out; omega)).mono ?_
  rintro e W7 ⟨v7, rfl, hown7, hb7⟩
  go_wp2_with fail
  refine hK _ _ hb7 ?_
  clear hK K
  have hB7 := BSl.of_own hown7
  have hb7' := hb6.trans (hb7.mono hb6.size)
  clear hown7 hS hb6 hb7
  obtain ⟨A7, c7, e7, hc71, hc72, hr7⟩ := hB7
  subst e7
  have hB7 : BSl W7 W7.heap.size (.slice A7 [b.take i].flatten.length c7) [b.take i].flatten := ⟨A7, c7, rfl, hc71, hc72, hr7⟩
  clear hr7
  generalize hF : [b.take i].flatten = F at hB7 eq2 eq3 hc71 ⊢
  clear hF
  generalize F.length = nF at hB7 ⊢
  -- a row of both, Join
  refine mix_only rfl (fun K hK => ?_)
  go_wp2_with fail
  refine hK _ _ (below_new1 W7 _) ?_
  clear hK K
  have hX := Blk.new W7 22 #[.slice A7 nF c7, .slice AI (b.length - i) cI]
  have hb8 := below_new1 W7 (Obj.cells #[.slice A7 nF c7, .slice AI (b.length - i) cI] 22)
  have hS := SSl.two hX _ hX.lt (hB7.next hb8) ((hT1.next hb7').next hb8)
  have hb8' := hb7'.trans (hb8.mono hb7'.size)
  refine mix_at (fun W2 => SSl W2 W2.heap.size (.slice (some ⟨W7.heap.size, 0, none⟩) 2 2) [F, (b.take b.length).drop i] ∧ Below W5.heap.size W5 W2) ⟨hS, hb8'⟩ ?_
  clear hX hb8 hS hb8' hb7'
  rintro W8 ⟨hS, hb8⟩
  refine mix_only rfl (fun K hK => ?_)
  go_wp2_with fail
  refine (join_any _ _ _ hS (by rw [eq2.out]; have := hlb.out; omega)).mono ?_
  rintro e W9 ⟨v9, rfl, hown9, hb9⟩
  rw [eq2.out] at hown9
  go_wp2_with fail
  refine hK _ _ hb9 ?_
  clear hK K
  have hB9 := BSl.of_own hown9
  have hb9' := hb8.trans (hb9.mono hb8.size)
  clear hown9 hS hb8 hb9
  refine mix_only rfl (fun K hK => ?_)
  go_wp2_with fail
  refine (sum_b _ b W9 hB9 (by have := hlb.out; omega) (hG5.next hb9')).mono ?_
  rintro e W10 ⟨rfl, hb10⟩
  go_wp2_with fail
  refine hK _ _ hb10 ?_
  clear hK K hB9
  have hb10' := hb9'.trans (hb10.mono hb9'.size)
  clear hb9' hb10
  refine mix_only rfl (fun K hK => ?_)
  go_wp2_with fail
  refine (sum_b _ b W10 (hB1.next hb10') (by have := hlb.out; omega) (hG5.next hb10')).mono ?_
  rintro e W11 ⟨rfl, hb11⟩
  go_wp2_with fail
  refine hK _ _ hb11 ?_
  clear hK K
  have hb11' := hb10'.trans (hb11.mono hb10'.size)
  clear hb10' hb11
  repeat (refine mix_plain rfl ?_; (first
    | (refine wpQuiet_eqD rfl (.tmp 48) (.tmp 50) _ rfl (sha b) (sha b) rfl rfl hsl.out hsl.out true (decide_eq_true rfl) ?_; simp only [Act.put, List.setIfInBounds_toArray, List.set_cons_zero, List.set_cons_succ])
    | go_big_quiet_step (fail)); refine wpQuiet_nil ?_)
  refine mix_only rfl (fun K hK => ?_)
  go_wp2_with fail
  refine (known_any W11 (hG5.next hb11')).mono ?_
  rintro e W12 ⟨rfl, hb12⟩
  go_wp2_with fail
  refine hK _ _ hb12 ?_
  clear hK K
  have hb12' := hb11'.trans (hb12.mono hb11'.size)
  repeat (refine mix_plain rfl ?_; go_big_quiet_step (fail); refine wpQuiet_nil ?_)
  refine mix_done ?_
  go_wp2_with fail
  go_ret
  exact ⟨rfl, hbel5.trans (hb12'.mono hbel5.size)⟩
end Go.Proofs.YtilndfodlbcmjaaDoor
