/- The walk of the law ShaSums. -/
import Derived.Test.YtilndfodlbcmjaaDoorRefG
import Derived.Test.YtilndfodlbcmjaaDoorRefH
import Derived.Test.YtilndfodlbcmjaaDoorBook
namespace Go.Proofs.YtilndfodlbcmjaaDoor
open Go.RowKit
attribute [local go_sem] n8_lo n8_hi
theorem Tbl.nextT {w w' : World} {t : Value} (h : Tbl w w.heap.size t) (hb : Below w.heap.size w w') : Tbl w' w'.heap.size t := by
  obtain ⟨g, rfl, hg, hT⟩ := h; exact ⟨g, rfl, Nat.lt_of_lt_of_le hg hb.size, hT.below hb hg⟩
set_option maxHeartbeats 1000000 in
set_option maxRecDepth 100000 in
theorem shaSums_walk (w : World) (hG : Glob w) (A : Option Addr) (cap : Nat) (key : List UInt8) (hk : BSl w w.heap.size (.slice A key.length cap) key) (hkc : cap ≤ 140737488351232)
    (Ab : Option Addr) (capb : Nat) (b : List UInt8) (hb : BSl w w.heap.size (.slice Ab b.length capb) b) (hbc : capb ≤ 140737488351232)
    (n : Int) (hn : -9223372036854775808 ≤ n ∧ n ≤ 9223372036854775807) :
    Calls Tryd.prog 9 #[.slice A key.length cap, .slice Ab b.length capb, .int .i64 n] w fun e w' => e = .returned (.bool true) ∧ Below w.heap.size w w' := by
  obtain ⟨hn1, hn2⟩ := hn
  have hbl : b.length ≤ capb := by obtain ⟨_, _, e, h, _⟩ := hb; injection e with _ _ e3; omega
  have hkl : key.length ≤ cap := by obtain ⟨_, _, e, h, _⟩ := hk; injection e with _ _ e3; omega
  go_enter Tryd.func9, Tryd.ntmps9
  go_upto_if 13 with fail
  go_cut [1] (fun s1 wx => s1 = .slice Ab (b.take 2000).length capb ∧ wx = w)
  case first =>
    by_cases h40 : 2000 < b.length
    · have e40 : (b.take 2000).length = 2000 := by rw [List.length_take]; omega
      have He40 := Lib.hid e40
      clear e40
      go_wp2_with fail
      go_meet
      exact ⟨by rw [He40.out], rfl⟩
    · have e40 : (b.take 2000).length = b.length := by rw [List.length_take]; omega
      have He40 := Lib.hid e40
      clear e40
      go_wp2_with fail
      go_meet
      exact ⟨by rw [He40.out], rfl⟩
  case rest =>
    obtain ⟨rfl, rfl⟩ := hcut
    have hb1 := take_b hb 2000
    have hb2000 : (b.take 2000).length ≤ 2000 := by rw [List.length_take]; omega
    generalize b.take 2000 = b at hb1 hb2000 ⊢
    clear hb hbl
    go_upto_if 18 with fail
    go_cut [0] (fun s1 wx => s1 = .slice A (key.take 300).length cap ∧ wx = wc)
    case first =>
      by_cases h40 : 300 < key.length
      · have e40 : (key.take 300).length = 300 := by rw [List.length_take]; omega
        have He40 := Lib.hid e40
        clear e40
        go_wp2_with fail
        go_meet
        exact ⟨by rw [He40.out], rfl⟩
      · have e40 : (key.take 300).length = key.length := by rw [List.length_take]; omega
        have He40 := Lib.hid e40
        clear e40
        go_wp2_with fail
        go_meet
        exact ⟨by rw [He40.out], rfl⟩
    case rest =>
      obtain ⟨rfl, rfl⟩ := hcut
      have hk1 := take_b hk 300
      have hk300 : (key.take 300).length ≤ 300 := by rw [List.length_take]; omega
      generalize key.take 300 = key at hk1 hk300 ⊢
      clear hk hkl
      go_wp2_with fail
      refine (new_any wc).mono ?_
      rintro e w1 ⟨t1, rfl, ht1, hb1'⟩
      go_wp2_with fail
      refine (roomy_any _ key 165 w1 (hk1.next hb1') (by omega)).mono ?_
      rintro e w2 ⟨vk, rfl, hvk, hb2⟩
      have hb2' := hb1'.trans (hb2.mono hb1'.size)
      have ht2 := ht1.nextT hb2
      clear ht1 hb2 hb1'
      go_wp2_with fail
      refine (roomy_any _ b 165 w2 (hb1.next hb2') (by omega)).mono ?_
      rintro e w3 ⟨vb, rfl, hvb, hb3⟩
      have hb3' := hb2'.trans (hb3.mono hb2'.size)
      have ht3 := ht2.nextT hb3
      have hvk3 := hvk.next hb3
      clear ht2 hb3 hb2' hvk
      obtain ⟨Ak, ck, ek, hck1, hck2, hrk⟩ := hvk3
      obtain ⟨Ax, cx, ex, hcx1, hcx2, hrx⟩ := hvb
      subst ek
      subst ex
      have hvk : BSl w3 w3.heap.size (.slice Ak (key ++ List.replicate 80 165).length ck) (key ++ List.replicate 80 165) := ⟨Ak, ck, rfl, hck1, hck2, hrk⟩
      have hvb : BSl w3 w3.heap.size (.slice Ax (b ++ List.replicate 80 165).length cx) (b ++ List.replicate 80 165) := ⟨Ax, cx, rfl, hcx1, hcx2, hrx⟩
      clear hrk hrx
      have hxk := head_b hvk key.length (by simp)
      have hxb := head_b hvb b.length (by simp)
      rw [List.take_left] at hxk hxb
      rw [show (key ++ List.replicate 80 (165 : UInt8)).length = key.length + 80 by simp] at hvk hck1 ⊢
      rw [show (b ++ List.replicate 80 (165 : UInt8)).length = b.length + 80 by simp] at hvb hcx1 ⊢
      have kb1 : (b.length : Int) ≤ (cx : Int) := by omega
      have kb2 : (key.length : Int) ≤ (ck : Int) := by omega
      go_wp2_with fail
      refine (sum_b _ b w3 hxb (by omega) (hG.next hb3')).mono ?_
      rintro e w4 ⟨rfl, hb4⟩
      have hb4' := hb3'.trans (hb4.mono hb3'.size)
      have hD := Blk.new w4 24 (arr 32 fun _ => 0)
      have hb5 := below_new1 w4 (Obj.cells (arr 32 fun _ => 0) 24)
      have hsl := Lib.hid (sha_length b)
      have hml := Lib.hid (mac_length key b)
      have hcl := Lib.hid (cutL_length (sha b) n (sha_length b))
      go_wp2_with (first
        | (refine wpList_storeDat rfl rfl 24 (.tmp 10) (.tmp 30) rfl w4.heap.size rfl _ _ rfl _ hD (by kernel_rfl) ?_; intro w5 hD5 hon5))
      have hb5' := below_only hb5 hon5 (Nat.le_refl _) hb5.size
      have hb45 := hb4.trans (hb5'.mono hb4.size)
      have ht5 := ht3.nextT hb45
      have hvk5 := hvk.next hb45
      have hvb5 := hvb.next hb45
      have hxk5 := hxk.next hb45
      have hxb5 := hxb.next hb45
      have hb05 := hb3'.trans (hb45.mono hb3'.size)
      have hk5 := hk1.next hb05
      have hbb5 := hb1.next hb05
      have hG5 := hG.next hb05
      clear hD hb5 hon5 hb5' hb45 ht3 hvk hvb hxk hxb hk1 hb1 hb4 hb4' hb3'
      refine wp_region_mixP (.plain 0 <| .plain 1 <| .plain 2 <| .only 3 <| .plain 4 <| .plain 5 <| .plain 6 <| .plain 7 <| .plain 8 <| .plain 9 <| .plain 10 <| .plain 11 <| .plain 12 <| .plain 13 <| .plain 15 <| .plain 16 <| .plain 17 <| .only 14 <| .only 18 <| .plain 19 <| .plain 20 <| .plain 21 <| .plain 22 <| .plain 23 <| .plain 25 <| .plain 26 <| .only 24 <| .only 27 <| .plain 28 <| .plain 29 <| .plain 30 <| .plain 31 <| .plain 32 <| .only 33 <| .plain 34 <| .plain 35 <| .plain 36 <| .plain 37 <| .only 38 <| .plain 39 <| .plain 40 <| .only 41 <| .plain 42 <| .plain 43 <| .done) (by kernel_rfl) (by kernel_rfl) (fun W hbel0 => ?_)
      have hDW := hD5.below hbel0 hD5.lt
      repeat (refine mix_plain rfl ?_; (first
        | (refine wpQuiet_load rfl 24 (.tmp 10) rfl w4.heap.size rfl _ _ _ _ (fun _ ⟨e, he⟩ => by rw [he]; exact hDW.plus e) Tryd.underlying24 rfl (by rw [dat_size]; kernel_rfl) ?_; simp only [Act.put, List.setIfInBounds_toArray, List.set_cons_zero, List.set_cons_succ])
        | go_big_quiet_step (fail)); refine wpQuiet_nil ?_)
      -- t.Sum(b)
      refine mix_only rfl (fun K hK => ?_)
      go_wp2_with fail
      refine (rsum_any _ _ b W (ht5.nextT hbel0) (hbb5.next hbel0) (by omega)).mono ?_
      rintro e W1 ⟨rfl, hb1⟩
      go_wp2_with fail
      refine hK _ _ hb1 ?_
      clear hK K
      have hb1' := hbel0.trans (hb1.mono hbel0.size)
      clear hb1 hbel0 hDW
      have hDW := hD5.below hb1' hD5.lt
      repeat (refine mix_plain rfl ?_; (first
        | (refine wpQuiet_eqD rfl (.tmp 31) (.tmp 34) _ rfl (sha b) (sha b) rfl rfl hsl.out hsl.out true (decide_eq_true rfl) ?_; simp only [Act.put, List.setIfInBounds_toArray, List.set_cons_zero, List.set_cons_succ])
        | go_big_quiet_step (fail)); refine wpQuiet_nil ?_)
      -- sha.Mac, t.Mac
      refine mix_only rfl (fun K hK => ?_)
      go_wp2_with fail
      refine (mac_any _ _ key b W1 (hxk5.next hb1') (hxb5.next hb1') (by omega) (by omega) (hG5.next hb1')).mono ?_
      rintro e W2 ⟨rfl, hb2⟩
      go_wp2_with fail
      refine hK _ _ hb2 ?_
      clear hK K
      have hb2' := hb1'.trans (hb2.mono hb1'.size)
      clear hb2 hb1' hDW
      refine mix_only rfl (fun K hK => ?_)
      go_wp2_with fail
      refine (rmac_any _ _ _ key b W2 (ht5.nextT hb2') (hk5.next hb2') (hbb5.next hb2') (by omega) (by omega)).mono ?_
      rintro e W3 ⟨rfl, hb3⟩
      go_wp2_with fail
      refine hK _ _ hb3 ?_
      clear hK K
      have hb3' := hb2'.trans (hb3.mono hb2'.size)
      clear hb3 hb2'
      have hDW := hD5.below hb3' hD5.lt
      repeat (refine mix_plain rfl ?_; (first
        | (refine wpQuiet_eqD rfl (.tmp 45) (.tmp 49) _ rfl (mac key b) (mac key b) rfl rfl hml.out hml.out true (decide_eq_true rfl) ?_; simp only [Act.put, List.setIfInBounds_toArray, List.set_cons_zero, List.set_cons_succ])
        | (refine wpQuiet_load rfl 24 (.tmp 10) rfl w4.heap.size rfl _ _ _ _ (fun _ ⟨e, he⟩ => by rw [he]; exact hDW.plus e) Tryd.underlying24 rfl (by rw [dat_size]; kernel_rfl) ?_; simp only [Act.put, List.setIfInBounds_toArray, List.set_cons_zero, List.set_cons_succ])
        | go_big_quiet_step (fail)); refine wpQuiet_nil ?_)
      -- both Cuts
      refine mix_only rfl (fun K hK => ?_)
      go_wp2_with fail
      refine (cut_any (sha b) hsl.out n W3).mono ?_
      rintro e W4 ⟨rfl, hb4⟩
      go_wp2_with fail
      refine hK _ _ hb4 ?_
      clear hK K
      have hb4' := hb3'.trans (hb4.mono hb3'.size)
      clear hb4 hb3' hDW
      refine mix_only rfl (fun K hK => ?_)
      go_wp2_with fail
      refine (rcut_any (sha b) hsl.out n W4).mono ?_
      rintro e W5 ⟨rfl, hb5⟩
      go_wp2_with fail
      refine hK _ _ hb5 ?_
      clear hK K
      have hb5' := hb4'.trans (hb5.mono hb4'.size)
      clear hb5 hb4'
      repeat (refine mix_plain rfl ?_; (first
        | (refine wpQuiet_eqD rfl (.tmp 55) (.tmp 58) _ rfl (cutL (sha b) n) (cutL (sha b) n) rfl rfl hcl.out hcl.out true (decide_eq_true rfl) ?_; simp only [Act.put, List.setIfInBounds_toArray, List.set_cons_zero, List.set_cons_succ])
        | go_big_quiet_step (fail)); refine wpQuiet_nil ?_)
      have e80 : ∀ (l : List UInt8), (l ++ List.replicate 80 (165 : UInt8)).length = l.length + 80 := fun l => by simp
      -- Intact
      refine mix_only rfl (fun K hK => ?_)
      go_wp2_with fail
      refine (intact_any _ _ key 165 W5 (hvk5.next hb5') (hk5.next hb5') (by omega)).mono ?_
      rintro e W6 ⟨rfl, hb6⟩
      go_wp2_with fail
      refine hK _ _ hb6 ?_
      clear hK K
      have hb6' := hb5'.trans (hb6.mono hb5'.size)
      clear hb6 hb5'
      repeat (refine mix_plain rfl ?_; go_big_quiet_step (fail); refine wpQuiet_nil ?_)
      refine mix_only rfl (fun K hK => ?_)
      go_wp2_with fail
      refine (intact_any _ _ b 165 W6 (hvb5.next hb6') (hbb5.next hb6') (by omega)).mono ?_
      rintro e W7 ⟨rfl, hb7⟩
      go_wp2_with fail
      refine hK _ _ hb7 ?_
      clear hK K
      have hb7' := hb6'.trans (hb7.mono hb6'.size)
      clear hb7 hb6'
      repeat (refine mix_plain rfl ?_; go_big_quiet_step (fail); refine wpQuiet_nil ?_)
      refine mix_only rfl (fun K hK => ?_)
      go_wp2_with fail
      refine (known_any W7 (hG5.next hb7')).mono ?_
      rintro e W8 ⟨rfl, hb8⟩
      go_wp2_with fail
      refine hK _ _ hb8 ?_
      clear hK K
      have hb8' := hb7'.trans (hb8.mono hb7'.size)
      clear hb8 hb7'
      repeat (refine mix_plain rfl ?_; go_big_quiet_step (fail); refine wpQuiet_nil ?_)
      refine mix_done ?_
      go_wp2_with fail
      go_ret
      exact ⟨rfl, hb05.trans (hb8'.mono hb05.size)⟩
end Go.Proofs.YtilndfodlbcmjaaDoor
