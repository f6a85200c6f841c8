/- The walk of the law MerkleRoots. No condition. -/
import Derived.Test.YtbhmmoecoijojaaDoorMerkK
import Derived.Test.YtbhmmoecoijojaaDoorMerkT
import Derived.Test.YtbhmmoecoijojaaDoorRefN
import Derived.Test.YtbhmmoecoijojaaDoorFew
import Derived.Test.YtbhmmoecoijojaaDoorMixS
import Derived.Test.YtbhmmoecoijojaaDoorLit
namespace Go.Proofs.YtbhmmoecoijojaaDoor
open Go Go.RowKit
attribute [local irreducible] mixW
attribute [local go_sem] n8_lo n8_hi n64_lo n64_hi n32_lo n32_hi
theorem fewL_idem (ls : List (List UInt8)) (n m : Nat) : fewL (fewL ls n m) n m = fewL ls n m := by
  unfold fewL
  rw [← List.map_take, List.take_take, Nat.min_self, List.map_map]
  apply List.map_congr_left
  intro b _
  simp [List.take_take]
theorem SSl.shape {w : World} {v : Value} {ls : List (List UInt8)} (h : SSl w w.heap.size v ls) : ∃ A cap, v = .slice A ls.length cap := by
  obtain ⟨A, cap, _, h, _⟩ := h
  exact ⟨A, cap, h⟩
def aTxt : List UInt8 := [97]
set_option maxHeartbeats 2000000 in
set_option maxRecDepth 100000 in
theorem merkleRoots_walk (w : World) (hG : Glob w) (x0 : Int) (hx0 : -9223372036854775808 ≤ x0 ∧ x0 ≤ 9223372036854775807) (v : Value) (ls : List (List UInt8)) (hv : SSl w w.heap.size v ls) (ix fr : UInt64) :
    Calls Tryd.prog 11 #[.int .i64 x0, v, .int .u64 (n64 ix), .int .u64 (n64 fr)] w fun e w' => e = .returned (.bool true) ∧ Below w.heap.size w w' := by
  have hix := ix.toNat_lt
  have hfr := fr.toNat_lt
  have e1 : n64 ix = (ix.toNat : Int) := rfl
  have e2 : n64 fr = (fr.toNat : Int) := rfl
  rw [e1, e2]
  generalize ix.toNat = I at hix ⊢
  generalize fr.toNat = J at hfr ⊢
  clear e1 e2
  have HI : Hid (I < 18446744073709551616 ∧ J < 18446744073709551616) := Lib.hid (And.intro hix hfr)
  clear hix hfr
  go_enter Tryd.func11, Tryd.ntmps11
  obtain ⟨A0, cap0, rfl⟩ := hv.shape
  go_wp2_with fail
  refine (few_any _ ls 40 300 (by decide) (by decide) w hv).mono ?_
  rintro e w1 ⟨u1, rfl, ⟨vs1, hO⟩, hbel⟩
  have hL40 : (fewL ls 40 300).length ≤ 40 := by rw [fewL_length]; omega
  have hL300 : ∀ c ∈ fewL ls 40 300, c.length ≤ 300 := fun c hc => fewL_mem hc
  have hidem := fewL_idem ls 40 300
  generalize fewL ls 40 300 = L at hO hL40 hL300 hidem
  have HL := Lib.hid (And.intro hL40 (And.intro hL300 hidem))
  have v1 := hO.ssl
  clear hL40 hL300 hidem hv hO
  obtain ⟨A1, cap1, rfl⟩ := v1.shape
  go_wp2_with fail
  refine (few_any _ L 40 300 (by decide) (by decide) w1 v1).mono ?_
  rintro e w2 ⟨u2, rfl, ⟨vs2, hO⟩, hb1⟩
  rw [HL.out.2.2] at hO
  have v2 := hO.ssl
  clear hO
  obtain ⟨A2, cap2, rfl⟩ := v2.shape
  replace v1 := v1.next hb1
  replace hbel := hbel.trans (hb1.mono hbel.size)
  clear hb1
  go_wp2_with fail
  refine (hasher_any x0 w2).mono ?_
  rintro e w4 ⟨h, rfl, hH, hb1⟩
  replace v1 := v1.next hb1
  replace v2 := v2.next hb1
  replace hbel := hbel.trans (hb1.mono hbel.size)
  clear hb1
  go_wp2_with fail
  refine (prove_tot x0 _ L I (by have := HI.out; omega) w4 v1 (by have := HL.out.1; omega) (fun c hc => by have := HL.out.2.1 c hc; omega) (hG.next hbel)).mono ?_
  rintro e w5 ⟨A5, c5, rfl, hd5, hb1⟩
  replace v1 := v1.next hb1
  replace v2 := v2.next hb1
  replace hH := hH.nxt hb1
  replace hbel := hbel.trans (hb1.mono hbel.size)
  clear hb1
  go_wp2_with fail
  refine (r8prove_tot _ (cutW x0) _ L I (by have := HI.out; omega) w5 v1 (by have := HL.out.1; omega) (fun c hc => by have := HL.out.2.1 c hc; omega) hH).mono ?_
  rintro e w6 ⟨A6, c6, rfl, hd6, hb1⟩
  replace v1 := v1.next hb1
  replace v2 := v2.next hb1
  replace hH := hH.nxt hb1
  replace hd5 := hd5.next hb1
  replace hbel := hbel.trans (hb1.mono hbel.size)
  clear hb1
  go_wp2_with fail
  refine (compare_tot x0 _ L J (by have := HI.out; omega) w6 v1 (by have := HL.out.1; omega) (fun c hc => by have := HL.out.2.1 c hc; omega) (hG.next hbel)).mono ?_
  rintro e w7 ⟨A7, c7, rfl, hd7, hb1⟩
  replace v1 := v1.next hb1
  replace v2 := v2.next hb1
  replace hH := hH.nxt hb1
  replace hd5 := hd5.next hb1
  replace hd6 := hd6.next hb1
  replace hbel := hbel.trans (hb1.mono hbel.size)
  clear hb1
  go_wp2_with fail
  refine (r8compare_tot _ (cutW x0) _ L J (by have := HI.out; omega) w7 v1 (by have := HL.out.1; omega) (fun c hc => by have := HL.out.2.1 c hc; omega) hH).mono ?_
  rintro e w8 ⟨A8, c8, rfl, hd8, hb1⟩
  replace v1 := v1.next hb1
  replace v2 := v2.next hb1
  replace hH := hH.nxt hb1
  replace hd5 := hd5.next hb1
  replace hd6 := hd6.next hb1
  replace hd7 := hd7.next hb1
  replace hbel := hbel.trans (hb1.mono hbel.size)
  clear hb1
  have HP : Hid ((∀ d ∈ pathX (cutW x0) L I, d.length = 32) ∧ (pathX (cutW x0) L I).length ≤ 6) := Lib.hid ⟨pathX_mem _ _ _, pathX_depth _ 6 L _ (by have := HL.out.1; omega)⟩
  have HS : Hid ((∀ d ∈ subX (cutW x0) L J, d.length = 32) ∧ (subX (cutW x0) L J).length ≤ 7) := Lib.hid ⟨subX_mem _ _ _, subX_depth _ 6 L _ (by have := HL.out.1; omega)⟩
  generalize pathX (cutW x0) L I = P at HP hd5 hd6 ⊢
  generalize subX (cutW x0) L J = Q at HS hd7 hd8 ⊢
  generalize pathE L I = ep
  generalize subE L J = es
  have HH := Lib.hid (And.intro v1 (And.intro v2 (And.intro hH (And.intro hd5 (And.intro hd6 (And.intro hd7 hd8))))))
  clear v1 v2 hH hd5 hd6 hd7 hd8
  have hL : Lit (w8.alloc (Obj.cells #[.int .u8 97] 5)) w8.heap.size aTxt := Lit.new w8 aTxt 5
  have hn1 := below_new1 w8 (Obj.cells #[.int .u8 97] 5)
  go_wp2_with (first
    | (refine wpList_convSelf rfl _ 5 (.tmp 55) rfl Tryd.underlying32 Tryd.underlying5 w8.heap.size 1 1 rfl aTxt hL ?_; intro kk; have hL2 := hL.freeze ⟨w8.heap.size, kk, none⟩ 1; have hb4 := below_freeze hn1 ⟨w8.heap.size, kk, none⟩ (Nat.le_refl _) 1; refine wpl_at (fun W => Lit W w8.heap.size aTxt ∧ Below w8.heap.size w8 W) ⟨hL2, hb4⟩ ?_; clear hL2 hb4; rintro w9 ⟨hL4, hb4⟩))
  have hbel := hbel.trans (hb4.mono hbel.size)
  refine (mleaf_any x0 _ aTxt w9 (hL4.bsl 1 rfl (by decide)) (by decide) (hG.next hbel)).mono ?_
  rintro e w10 ⟨rfl, hb5⟩
  have hb1 := hb4.trans (hb5.mono hb4.size)
  have hbel := hbel.trans (hb5.mono hbel.size)
  clear hL hn1 hL4 hb4 hb5
  have HF := Lib.hid (leafM_length (cutW x0) aTxt)
  generalize leafM (cutW x0) aTxt = F at HF ⊢
  have hD := Blk.new w10 27 (arr 32 fun _ => 0)
  have hbn := below_new1 w10 (Obj.cells (arr 32 fun _ => 0) 27)
  go_upto_region 9 with (first
    | (refine wpList_storeDat rfl rfl 27 (.tmp 19) (.tmp 57) rfl w10.heap.size rfl _ _ rfl _ hD (by kernel_rfl) ?_; intro w11 hA hon2))
  have hb6 := below_only hbn hon2 (Nat.le_refl _) hbn.size
  have hbel := hbel.trans (hb6.mono hbel.size)
  replace hb1 := hb1.trans (hb6.mono hb1.size)
  clear hb6 hbn hon2 hD
  generalize w10.heap.size = gA at hA ⊢
  obtain ⟨v1, v2, hH, hd5, hd6, hd7, hd8⟩ := HH.out
  clear HH
  replace v1 := v1.next hb1
  replace v2 := v2.next hb1
  replace hH := hH.nxt hb1
  replace hd5 := hd5.next hb1
  replace hd6 := hd6.next hb1
  replace hd7 := hd7.next hb1
  replace hd8 := hd8.next hb1
  clear hb1
  have HR := Lib.hid (rootM_length (cutW x0) L)
  obtain ⟨R, hR⟩ : ∃ R, rootM (cutW x0) L = R := ⟨_, rfl⟩
  rw [hR] at HR
  have HRr := Lib.hid hR
  clear hR
  refine wp_region_mixP (.plain 0 <| .plain 1 <| .plain 3 <| .plain 4 <| .only 2 <| .only 5 <| .plain 6 <| .plain 7 <| .plain 8 <| .plain 9 <| .only 10 <| .plain 11 <| .plain 12 <| .plain 13 <| .plain 14 <| .plain 15 <| .plain 16 <| .plain 17 <| .plain 18 <| .plain 19 <| .only 20 <| .plain 21 <| .plain 22 <| .plain 23 <| .plain 24 <| .plain 25 <| .plain 26 <| .plain 27 <| .plain 28 <| .plain 29 <| .plain 30 <| .plain 31 <| .plain 34 <| .plain 35 <| .plain 36 <| .plain 37 <| .only 32 <| .only 33 <| .only 38 <| .only 39 <| .plain 40 <| .plain 41 <| .plain 42 <| .plain 43 <| .plain 44 <| .only 45 <| .plain 46 <| .plain 47 <| .only 48 <| .plain 49 <| .plain 50 <| .done) (by kernel_rfl) (by kernel_rfl) (fun W0 hb1 => ?_)
  replace v1 := v1.next hb1
  replace v2 := v2.next hb1
  replace hH := hH.nxt hb1
  replace hA := hA.below hb1 hA.lt
  replace hd5 := hd5.next hb1
  replace hd6 := hd6.next hb1
  replace hd7 := hd7.next hb1
  replace hd8 := hd8.next hb1
  replace hbel := hbel.trans (hb1.mono hbel.size)
  clear hb1
  iterate 4 (refine mix_plain rfl ?_; (first
    | (refine wpQuiet_eqD rfl (.tmp 60) (.tmp 63) _ rfl R R rfl rfl HR.out HR.out true (decide_eq_true rfl) ?_; simp only [Act.put, List.setIfInBounds_toArray, List.set_cons_zero, List.set_cons_succ])
    | (refine wpQuiet_eqD rfl (.tmp 91) (.tmp 97) _ rfl N N rfl rfl HN.out HN.out true (decide_eq_true rfl) ?_; simp only [Act.put, List.setIfInBounds_toArray, List.set_cons_zero, List.set_cons_succ])
    | (refine wpQuiet_load rfl 27 (.tmp 19) rfl gA rfl _ _ _ _ (fun _ ⟨e, he⟩ => by rw [he]; exact hA.plus e) Tryd.underlying27 rfl (by rw [dat_size]; kernel_rfl) ?_; simp only [Act.put, List.setIfInBounds_toArray, List.set_cons_zero, List.set_cons_succ])
    | go_big_quiet_step (fail)); refine wpQuiet_nil ?_)
  refine mix_only rfl (fun K hK => ?_)
  go_wp2_with fail
  refine (mroot_any x0 _ L W0 v1 (by have := HL.out.1; omega) (fun c hc => by have := HL.out.2.1 c hc; omega) (hG.next hbel)).mono ?_
  rintro e W1 ⟨rfl, hb1⟩
  rw [HRr.out]
  go_wp2_with fail
  refine hK _ _ hb1 ?_
  clear hK K
  replace v1 := v1.next hb1
  replace v2 := v2.next hb1
  replace hH := hH.nxt hb1
  replace hA := hA.below hb1 hA.lt
  replace hd5 := hd5.next hb1
  replace hd6 := hd6.next hb1
  replace hd7 := hd7.next hb1
  replace hd8 := hd8.next hb1
  replace hbel := hbel.trans (hb1.mono hbel.size)
  clear hb1
  refine mix_only rfl (fun K hK => ?_)
  go_wp2_with fail
  refine (r8root_any _ (cutW x0) L.length L (Nat.le_refl _) (by have := HL.out.1; omega) (fun c hc => by have := HL.out.2.1 c hc; omega) _ W1 v1 hH).mono ?_
  rintro e W2 ⟨rfl, hb1⟩
  rw [HRr.out]
  go_wp2_with fail
  refine hK _ _ hb1 ?_
  clear hK K
  replace v1 := v1.next hb1
  replace v2 := v2.next hb1
  replace hH := hH.nxt hb1
  replace hA := hA.below hb1 hA.lt
  replace hd5 := hd5.next hb1
  replace hd6 := hd6.next hb1
  replace hd7 := hd7.next hb1
  replace hd8 := hd8.next hb1
  replace hbel := hbel.trans (hb1.mono hbel.size)
  clear hb1
  iterate 4 (refine mix_plain rfl ?_; (first
    | (refine wpQuiet_eqD rfl (.tmp 60) (.tmp 63) _ rfl R R rfl rfl HR.out HR.out true (decide_eq_true rfl) ?_; simp only [Act.put, List.setIfInBounds_toArray, List.set_cons_zero, List.set_cons_succ])
    | (refine wpQuiet_eqD rfl (.tmp 91) (.tmp 97) _ rfl N N rfl rfl HN.out HN.out true (decide_eq_true rfl) ?_; simp only [Act.put, List.setIfInBounds_toArray, List.set_cons_zero, List.set_cons_succ])
    | (refine wpQuiet_load rfl 27 (.tmp 19) rfl gA rfl _ _ _ _ (fun _ ⟨e, he⟩ => by rw [he]; exact hA.plus e) Tryd.underlying27 rfl (by rw [dat_size]; kernel_rfl) ?_; simp only [Act.put, List.setIfInBounds_toArray, List.set_cons_zero, List.set_cons_succ])
    | go_big_quiet_step (fail)); refine wpQuiet_nil ?_)
  refine mix_only rfl (fun K hK => ?_)
  go_wp2_with fail
  refine (same8_any _ _ P HP.out.1 (by have := HP.out.2; omega) W2 hd5 hd6).mono ?_
  rintro e W3 ⟨rfl, hb1⟩
  go_wp2_with fail
  refine hK _ _ hb1 ?_
  clear hK K
  replace v1 := v1.next hb1
  replace v2 := v2.next hb1
  replace hH := hH.nxt hb1
  replace hA := hA.below hb1 hA.lt
  replace hd5 := hd5.next hb1
  replace hd6 := hd6.next hb1
  replace hd7 := hd7.next hb1
  replace hd8 := hd8.next hb1
  replace hbel := hbel.trans (hb1.mono hbel.size)
  clear hb1
  iterate 9 (refine mix_plain rfl ?_; (first
    | (refine wpQuiet_eqD rfl (.tmp 60) (.tmp 63) _ rfl R R rfl rfl HR.out HR.out true (decide_eq_true rfl) ?_; simp only [Act.put, List.setIfInBounds_toArray, List.set_cons_zero, List.set_cons_succ])
    | (refine wpQuiet_eqD rfl (.tmp 91) (.tmp 97) _ rfl N N rfl rfl HN.out HN.out true (decide_eq_true rfl) ?_; simp only [Act.put, List.setIfInBounds_toArray, List.set_cons_zero, List.set_cons_succ])
    | (refine wpQuiet_load rfl 27 (.tmp 19) rfl gA rfl _ _ _ _ (fun _ ⟨e, he⟩ => by rw [he]; exact hA.plus e) Tryd.underlying27 rfl (by rw [dat_size]; kernel_rfl) ?_; simp only [Act.put, List.setIfInBounds_toArray, List.set_cons_zero, List.set_cons_succ])
    | go_big_quiet_step (fail)); refine wpQuiet_nil ?_)
  refine mix_only rfl (fun K hK => ?_)
  go_wp2_with fail
  refine (same8_any _ _ Q HS.out.1 (by have := HS.out.2; omega) W3 hd7 hd8).mono ?_
  rintro e W4 ⟨rfl, hb1⟩
  go_wp2_with fail
  refine hK _ _ hb1 ?_
  clear hK K
  replace v1 := v1.next hb1
  replace v2 := v2.next hb1
  replace hH := hH.nxt hb1
  replace hA := hA.below hb1 hA.lt
  replace hd5 := hd5.next hb1
  replace hd6 := hd6.next hb1
  replace hd7 := hd7.next hb1
  replace hd8 := hd8.next hb1
  replace hbel := hbel.trans (hb1.mono hbel.size)
  clear hb1
  iterate 15 (refine mix_plain rfl ?_; (first
    | (refine wpQuiet_eqD rfl (.tmp 60) (.tmp 63) _ rfl R R rfl rfl HR.out HR.out true (decide_eq_true rfl) ?_; simp only [Act.put, List.setIfInBounds_toArray, List.set_cons_zero, List.set_cons_succ])
    | (refine wpQuiet_eqD rfl (.tmp 91) (.tmp 97) _ rfl N N rfl rfl HN.out HN.out true (decide_eq_true rfl) ?_; simp only [Act.put, List.setIfInBounds_toArray, List.set_cons_zero, List.set_cons_succ])
    | (refine wpQuiet_load rfl 27 (.tmp 19) rfl gA rfl _ _ _ _ (fun _ ⟨e, he⟩ => by rw [he]; exact hA.plus e) Tryd.underlying27 rfl (by rw [dat_size]; kernel_rfl) ?_; simp only [Act.put, List.setIfInBounds_toArray, List.set_cons_zero, List.set_cons_succ])
    | go_big_quiet_step (fail)); refine wpQuiet_nil ?_)
  refine mix_only rfl (fun K hK => ?_)
  go_wp2_with fail
  refine (mroot_any x0 _ L W4 v1 (by have := HL.out.1; omega) (fun c hc => by have := HL.out.2.1 c hc; omega) (hG.next hbel)).mono ?_
  rintro e W5 ⟨rfl, hb1⟩
  rw [HRr.out]
  go_wp2_with fail
  refine hK _ _ hb1 ?_
  clear hK K
  replace v1 := v1.next hb1
  replace v2 := v2.next hb1
  replace hH := hH.nxt hb1
  replace hA := hA.below hb1 hA.lt
  replace hd5 := hd5.next hb1
  replace hd6 := hd6.next hb1
  replace hd7 := hd7.next hb1
  replace hd8 := hd8.next hb1
  replace hbel := hbel.trans (hb1.mono hbel.size)
  clear hb1
  refine mix_only rfl (fun K hK => ?_)
  go_wp2_with fail
  refine (mnode_any x0 F R HF.out HR.out W5 (hG.next hbel)).mono ?_
  rintro e W6 ⟨rfl, hb1⟩
  have HN := Lib.hid (nodeM_length (cutW x0) F R)
  obtain ⟨N, hN⟩ : ∃ N, nodeM (cutW x0) F R = N := ⟨_, rfl⟩
  rw [hN] at HN ⊢
  have HNn := Lib.hid hN
  clear hN
  go_wp2_with fail
  refine hK _ _ hb1 ?_
  clear hK K
  replace v1 := v1.next hb1
  replace v2 := v2.next hb1
  replace hH := hH.nxt hb1
  replace hA := hA.below hb1 hA.lt
  replace hd5 := hd5.next hb1
  replace hd6 := hd6.next hb1
  replace hd7 := hd7.next hb1
  replace hd8 := hd8.next hb1
  replace hbel := hbel.trans (hb1.mono hbel.size)
  clear hb1
  refine mix_only rfl (fun K hK => ?_)
  go_wp2_with fail
  refine (r8root_any _ (cutW x0) L.length L (Nat.le_refl _) (by have := HL.out.1; omega) (fun c hc => by have := HL.out.2.1 c hc; omega) _ W6 v1 hH).mono ?_
  rintro e W7 ⟨rfl, hb1⟩
  rw [HRr.out]
  go_wp2_with fail
  refine hK _ _ hb1 ?_
  clear hK K
  replace v1 := v1.next hb1
  replace v2 := v2.next hb1
  replace hH := hH.nxt hb1
  replace hA := hA.below hb1 hA.lt
  replace hd5 := hd5.next hb1
  replace hd6 := hd6.next hb1
  replace hd7 := hd7.next hb1
  replace hd8 := hd8.next hb1
  replace hbel := hbel.trans (hb1.mono hbel.size)
  clear hb1
  refine mix_only rfl (fun K hK => ?_)
  go_wp2_with fail
  refine (r8node_any _ (cutW x0) F R HF.out HR.out W7 hH).mono ?_
  rintro e W8 ⟨rfl, hb1⟩
  rw [HNn.out]
  go_wp2_with fail
  refine hK _ _ hb1 ?_
  clear hK K
  replace v1 := v1.next hb1
  replace v2 := v2.next hb1
  replace hH := hH.nxt hb1
  replace hA := hA.below hb1 hA.lt
  replace hd5 := hd5.next hb1
  replace hd6 := hd6.next hb1
  replace hd7 := hd7.next hb1
  replace hd8 := hd8.next hb1
  replace hbel := hbel.trans (hb1.mono hbel.size)
  clear hb1
  iterate 5 (refine mix_plain rfl ?_; (first
    | (refine wpQuiet_eqD rfl (.tmp 60) (.tmp 63) _ rfl R R rfl rfl HR.out HR.out true (decide_eq_true rfl) ?_; simp only [Act.put, List.setIfInBounds_toArray, List.set_cons_zero, List.set_cons_succ])
    | (refine wpQuiet_eqD rfl (.tmp 91) (.tmp 97) _ rfl N N rfl rfl HN.out HN.out true (decide_eq_true rfl) ?_; simp only [Act.put, List.setIfInBounds_toArray, List.set_cons_zero, List.set_cons_succ])
    | (refine wpQuiet_load rfl 27 (.tmp 19) rfl gA rfl _ _ _ _ (fun _ ⟨e, he⟩ => by rw [he]; exact hA.plus e) Tryd.underlying27 rfl (by rw [dat_size]; kernel_rfl) ?_; simp only [Act.put, List.setIfInBounds_toArray, List.set_cons_zero, List.set_cons_succ])
    | go_big_quiet_step (fail)); refine wpQuiet_nil ?_)
  refine mix_only rfl (fun K hK => ?_)
  go_wp2_with fail
  refine (sames_any _ _ L W8 v1 v2).mono ?_
  rintro e W9 ⟨rfl, hb1⟩
  go_wp2_with fail
  refine hK _ _ hb1 ?_
  clear hK K
  replace v1 := v1.next hb1
  replace v2 := v2.next hb1
  replace hH := hH.nxt hb1
  replace hA := hA.below hb1 hA.lt
  replace hd5 := hd5.next hb1
  replace hd6 := hd6.next hb1
  replace hd7 := hd7.next hb1
  replace hd8 := hd8.next hb1
  replace hbel := hbel.trans (hb1.mono hbel.size)
  clear hb1
  iterate 2 (refine mix_plain rfl ?_; (first
    | (refine wpQuiet_eqD rfl (.tmp 60) (.tmp 63) _ rfl R R rfl rfl HR.out HR.out true (decide_eq_true rfl) ?_; simp only [Act.put, List.setIfInBounds_toArray, List.set_cons_zero, List.set_cons_succ])
    | (refine wpQuiet_eqD rfl (.tmp 91) (.tmp 97) _ rfl N N rfl rfl HN.out HN.out true (decide_eq_true rfl) ?_; simp only [Act.put, List.setIfInBounds_toArray, List.set_cons_zero, List.set_cons_succ])
    | (refine wpQuiet_load rfl 27 (.tmp 19) rfl gA rfl _ _ _ _ (fun _ ⟨e, he⟩ => by rw [he]; exact hA.plus e) Tryd.underlying27 rfl (by rw [dat_size]; kernel_rfl) ?_; simp only [Act.put, List.setIfInBounds_toArray, List.set_cons_zero, List.set_cons_succ])
    | go_big_quiet_step (fail)); refine wpQuiet_nil ?_)
  refine mix_only rfl (fun K hK => ?_)
  go_wp2_with fail
  refine (known8_any W9 (hG.next hbel)).mono ?_
  rintro e W10 ⟨rfl, hb1⟩
  go_wp2_with fail
  refine hK _ _ hb1 ?_
  clear hK K
  replace v1 := v1.next hb1
  replace v2 := v2.next hb1
  replace hH := hH.nxt hb1
  replace hA := hA.below hb1 hA.lt
  replace hd5 := hd5.next hb1
  replace hd6 := hd6.next hb1
  replace hd7 := hd7.next hb1
  replace hd8 := hd8.next hb1
  replace hbel := hbel.trans (hb1.mono hbel.size)
  clear hb1
  iterate 2 (refine mix_plain rfl ?_; (first
    | (refine wpQuiet_eqD rfl (.tmp 60) (.tmp 63) _ rfl R R rfl rfl HR.out HR.out true (decide_eq_true rfl) ?_; simp only [Act.put, List.setIfInBounds_toArray, List.set_cons_zero, List.set_cons_succ])
    | (refine wpQuiet_eqD rfl (.tmp 91) (.tmp 97) _ rfl N N rfl rfl HN.out HN.out true (decide_eq_true rfl) ?_; simp only [Act.put, List.setIfInBounds_toArray, List.set_cons_zero, List.set_cons_succ])
    | (refine wpQuiet_load rfl 27 (.tmp 19) rfl gA rfl _ _ _ _ (fun _ ⟨e, he⟩ => by rw [he]; exact hA.plus e) Tryd.underlying27 rfl (by rw [dat_size]; kernel_rfl) ?_; simp only [Act.put, List.setIfInBounds_toArray, List.set_cons_zero, List.set_cons_succ])
    | go_big_quiet_step (fail)); refine wpQuiet_nil ?_)
  refine mix_done ?_
  go_wp2_with fail
  go_ret
  exact ⟨rfl, hbel⟩
end Go.Proofs.YtbhmmoecoijojaaDoor
