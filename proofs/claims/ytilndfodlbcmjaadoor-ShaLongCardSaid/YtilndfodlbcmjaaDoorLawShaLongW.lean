/- The walk of the law ShaLong. -/
import Derived.Test.YtilndfodlbcmjaaDoorShaF
import Derived.Test.YtilndfodlbcmjaaDoorZeros
import Derived.Deep.DeepMust
import Derived.Deep.DeepCutAuto
namespace Go.Proofs.YtilndfodlbcmjaaDoor
open Go.RowKit
theorem mac_long (key b : List UInt8) (h : 64 < key.length) : mac key b = mac (sha key) b := by
  have h1 : keyL key = sha key := if_pos h
  have h2 : keyL (sha key) = sha key := if_neg (by rw [sha_length]; decide)
  have h3 : ∀ c, keyX key c = keyX (sha key) c := by intro c; unfold keyX; rw [h1, h2]
  unfold mac; rw [h3, h3]
theorem mac_zeros (key b : List UInt8) (n : Nat) (h : key.length + n ≤ 64) : mac (key ++ List.replicate n 0) b = mac key b := by
  have h1 : keyL key = key := if_neg (by omega)
  have h2 : keyL (key ++ List.replicate n 0) = key ++ List.replicate n 0 := if_neg (by rw [List.length_append, List.length_replicate]; omega)
  have h3 : ∀ c, keyX (key ++ List.replicate n 0) c = keyX key c := by
    intro c; unfold keyX; rw [h1, h2]
    apply List.map_congr_left
    intro p _
    congr 1
    rw [List.getD_eq_getElem?_getD, List.getD_eq_getElem?_getD]
    by_cases hp : p < key.length
    · rw [List.getElem?_append_left hp]
    · rw [List.getElem?_append_right (by omega), List.getElem?_eq_none (l := key) (by omega), List.getElem?_replicate]
      split <;> rfl
  unfold mac; rw [h3, h3]
theorem map_v8_append (xs : List UInt8) (m : Nat) : xs.map v8 ++ List.replicate m (v8 0) = (xs ++ List.replicate m 0).map v8 := by simp
set_option maxRecDepth 100000 in
theorem shaLong_walk (w : World) (hG : Glob w) (A : Option Addr) (cap : Nat) (key : List UInt8) (hk : BSl w w.heap.size (.slice A key.length cap) key) (hkc : cap ≤ 140737488351232)
    (Ab : Option Addr) (capb : Nat) (b : List UInt8) (hb : BSl w w.heap.size (.slice Ab b.length capb) b) (hbc : capb ≤ 140737488351232)
    (n : Int) (hn : -9223372036854775808 ≤ n ∧ n ≤ 9223372036854775807) :
    Calls Tryd.prog 7 #[.slice A key.length cap, .slice Ab b.length capb, .int .i64 n] w fun e w' => e = .returned (.bool true) ∧ Below w.heap.size w w' := by
  obtain ⟨A', cap', e1, hc1, hc2, hr⟩ := hk
  injection e1 with e1 _ e2
  subst e1; subst e2
  have hk : BSl w w.heap.size (.slice A key.length cap) key := ⟨A, cap, rfl, hc1, hc2, hr⟩
  have hbl : b.length ≤ 140737488351232 := by
    obtain ⟨A2, cap2, e3, h3, _, _⟩ := hb
    injection e3 with _ _ e4
    omega
  obtain ⟨hn1, hn2⟩ := hn
  obtain ⟨i0, hi, hz0, hz1, hz2⟩ := info_parts (by kernel_rfl : (Tryd.prog.info? 5).map (fun i => (i.zero, i.size, i.bytes)) = some (some (.int .u8 0), 1, 1))
  go_enter Tryd.func7, Tryd.ntmps7
  have s1 := Lib.hid (show ([] : List Value).length + key.length ≤ maxLen by unfold maxLen; simp; omega)
  have s2 := Lib.hid (show (([] : List Value).length + key.length) * 1 ≤ 140737488355328 by simp; omega)
  have s3 := Lib.hid (show (([] : List Value) ++ key.map v8).length + 65 ≤ maxLen by unfold maxLen; simp; omega)
  have s4 := Lib.hid (show ((([] : List Value) ++ key.map v8).length + 65) * 1 ≤ 140737488355328 by simp; omega)
  go_wp2_with (first
    | (at_builtin; refine wpList_appendR rfl (.tmp 10) (.tmp 11) _ rfl w.heap.size 5 i0 _ 1 Tryd.underlying22 hi hz0 hz1 hz2 rfl _ [] rfl (own_empty w _ _ (Nat.le_refl _)) _ A _ _ _ rfl (hr.below (below_new1 w _)) (by rw [List.length_map]) (oneCell_v8 _) s1.out s2.out (below_new1 w _).size ?_; intro u1 w1 hown1 hg1 hat1; have hb1 := below_own (below_new1 w _) (own_empty w _ 5 (Nat.le_refl _)) hg1 (below_new1 w _).size)
    | (at_builtin; refine wpList_appendZ rfl (.tmp 12) _ _ _ rfl w.heap.size 5 i0 _ 1 .i64 .i64 Tryd.underlying22 Tryd.underlying3 hi hz0 hz1 hz2 rfl rfl u1 _ rfl hown1 65 rfl s3.out s4.out hb1.size (by decide) ?_; intro u2 w2 hown2 hg2 hat2; have hb2 := below_own hb1 hown1 hg2 hb1.size; simp only [List.nil_append] at hown2))
  clear hg1 hat1 hown1 hg2 hat2 hb1 s1 s2 s3 s4
  obtain ⟨L, hL⟩ : ∃ L, L = key ++ List.replicate 65 (0 : UInt8) := ⟨_, rfl⟩
  rw [show (Value.int IntKind.u8 0) = v8 0 from rfl, map_v8_append, ← hL] at hown2
  have hLl : 64 < L.length := by rw [hL, List.length_append, List.length_replicate]; omega
  have hLu : L.length ≤ 140737488355264 := by rw [hL, List.length_append, List.length_replicate]; omega
  have hBL := BSl.of_own hown2
  have q1 := Lib.hid (decide_eq_true (mac_long L b hLl))
  clear hown2 hL
  have hshaL := Lib.hid (sha_length L)
  refine (sum_b _ L w2 hBL (by omega) (hG.next hb2)).mono ?_
  rintro e w3 ⟨rfl, hb3⟩
  have hBL3 := hBL.next hb3
  have hD := Blk.new w3 24 (arr 32 fun _ => 0)
  have hbel3 := (hb2.trans (hb3.mono hb2.size)).alloc (Nat.le_trans hb2.size hb3.size) (Obj.cells (arr 32 fun _ => 0) 24)
  have hBL4 := hBL3.next (below_new1 w3 (Obj.cells (arr 32 fun _ => 0) 24))
  go_wp2_with (first
    | (refine wpList_storeDat rfl rfl 24 (.tmp 8) (.tmp 15) rfl w3.heap.size rfl _ _ rfl _ hD (by kernel_rfl) ?_; intro w4 hD4 hon4))
  have hon4' : (w3.alloc (Obj.cells (arr 32 fun _ => 0) 24)).grownBy w4 (some w3.heap.size) := hon4
  have hbel4 := below_only hbel3 hon4' (Nat.le_trans hb2.size hb3.size) hbel3.size
  have hBL5 : BSl w4 w4.heap.size u2 L := by
    have hx : Below w3.heap.size w3 w4 := below_only (below_new1 w3 (Obj.cells (arr 32 fun _ => 0) 24)) hon4' (Nat.le_refl _) (by simp)
    exact hBL3.next hx
  have hG4 := hG.next hbel4
  have hb4 := hb.next hbel4
  clear hon4 hon4' hBL hBL3 hBL4 hbel3 hb3 hb2 hD
  refine wp_region_quiet_plus (by kernel_rfl) (by kernel_rfl) ?_
  repeat (first
    | (refine wpQuiet_neD rfl (.tmp 18) (.tmp 21) _ rfl (mac L b) (mac (sha L) b) rfl rfl (mac_length _ _) (mac_length _ _) true q1.out ?_; simp only [Act.put, List.setIfInBounds_toArray, List.set_cons_zero, List.set_cons_succ, Bool.not_true])
    | go_big_quiet_step (first
        | (go_at_call_of 20 u2; exact calls_plus (mac_any _ _ _ _ _ (hBL5.next (plus_below _ _)) (hb4.next (plus_below _ _)) (by omega) (by omega) (hG4.next (plus_below _ _))))
        | (go_at_call 20; exact calls_plus (mac_any _ _ _ _ _ (BSl.of_dat (hD4.plus _) _ (hD4.plus _).lt hshaL.out) (hb4.next (plus_below _ _)) (by rw [hshaL.out]; decide) (by omega) (hG4.next (plus_below _ _))))))
  refine wpQuiet_nil ?_
  rintro _ ⟨e5, rfl⟩
  have hbel5 := hbel4.trans ((plus_below w4 e5).mono hbel4.size)
  clear q1 hBL5 hb4 hG4 hbel4 hD4
  generalize plus w4 e5 = w5 at hbel5 ⊢
  go_upto_if 25 with fail
  go_cut [0] (fun s0 wx => s0 = .slice A (key.take 40).length cap ∧ wx = w5)
  case first =>
    by_cases h40 : 40 < key.length
    · have e40 : (key.take 40).length = 40 := by rw [List.length_take]; omega
      have He40 := Lib.hid e40
      clear e40
      go_wp2_with fail
      go_meet
      exact ⟨by rw [He40.out], rfl⟩
    · have e40 : (key.take 40).length = key.length := by rw [List.length_take]; omega
      have He40 := Lib.hid e40
      clear e40
      go_wp2_with fail
      go_meet
      exact ⟨by rw [He40.out], rfl⟩
  case rest =>
    obtain ⟨rfl, rfl⟩ := hcut
    have hk5 : BSl wc wc.heap.size (.slice A (key.take 40).length cap) (key.take 40) := ⟨A, cap, rfl, by rw [List.length_take]; omega, hc2, by rw [List.map_take]; exact (hr.below hbel5).more hbel5.size |>.take 40⟩
    have hb5 : BSl wc wc.heap.size (.slice Ab b.length capb) b := hb.next hbel5
    have hG5 := hG.next hbel5
    have hk40 : (key.take 40).length ≤ 40 := by rw [List.length_take]; omega
    obtain ⟨m, hm⟩ : ∃ m : Nat, withinI n 0 24 = (m : Int) := ⟨(withinI n 0 24).toNat, by have := withinI_bounds n 0 24 (by decide); omega⟩
    have hm24 : m ≤ 24 := by have := withinI_bounds n 0 24 (by decide); omega
    generalize key.take 40 = k4 at hk5 hk40 ⊢
    clear hr hk hb hc1 hG
    obtain ⟨_, _, e6, _, _, hr5⟩ := hk5
    injection e6 with e6 _ e7
    subst e6; subst e7
    have s1 := Lib.hid (show ([] : List Value).length + k4.length ≤ maxLen by unfold maxLen; simp; omega)
    have s2 := Lib.hid (show (([] : List Value).length + k4.length) * 1 ≤ 140737488355328 by simp; omega)
    have s3 := Lib.hid (show (([] : List Value) ++ k4.map v8).length + m ≤ maxLen by unfold maxLen; simp; omega)
    have s4 := Lib.hid (show ((([] : List Value) ++ k4.map v8).length + m) * 1 ≤ 140737488355328 by simp; omega)
    go_wp2_with (first
      | (at_builtin; refine wpList_appendR rfl (.tmp 28) (.tmp 29) _ rfl wc.heap.size 5 i0 _ 1 Tryd.underlying22 hi hz0 hz1 hz2 rfl _ [] rfl (own_empty wc _ _ (Nat.le_refl _)) _ A _ _ _ rfl (hr5.below (below_new1 wc _)) (by rw [List.length_map]) (oneCell_v8 _) s1.out s2.out (below_new1 wc _).size ?_; intro u6 w6 hown6 hg6 hat6; have hb6 := below_own (below_new1 wc _) (own_empty wc _ 5 (Nat.le_refl _)) hg6 (below_new1 wc _).size))
    refine (within_any n 0 24 _ (by decide) (by decide) (by decide) hn1 hn2).mono ?_
    rintro e w7 ⟨rfl, rfl⟩
    rw [hm]
    go_wp2_with (first
      | (at_builtin; refine wpList_appendZ rfl (.tmp 30) _ _ _ rfl wc.heap.size 5 i0 _ 1 .i64 .i64 Tryd.underlying22 Tryd.underlying3 hi hz0 hz1 hz2 rfl rfl u6 _ rfl hown6 m rfl s3.out s4.out hb6.size (by decide) ?_; intro u8 w8 hown8 hg8 hat8; have hb8 := below_own hb6 hown6 hg8 hb6.size; simp only [List.nil_append] at hown8))
    clear s1 s2 s3 s4 hown6 hg6 hat6 hg8 hat8 hb6
    rw [show (Value.int IntKind.u8 0) = v8 0 from rfl, map_v8_append] at hown8
    have hBk := BSl.of_own hown8
    have q1 := Lib.hid (decide_eq_true (mac_zeros k4 b m (by omega)))
    have hl := Lib.hid (show (k4 ++ List.replicate m (0 : UInt8)).length ≤ 140737488355264 by rw [List.length_append, List.length_replicate]; omega)
    generalize k4 ++ List.replicate m (0 : UInt8) = K4 at hBk q1 hl
    clear hown8 hm24
    refine (mac_any _ _ _ _ _ hBk (hb5.next hb8) hl.out (by omega) (hG5.next hb8)).mono ?_
    rintro e w9 ⟨rfl, hb9⟩
    have hb9' := hb8.trans (hb9.mono hb8.size)
    go_wp2_with fail
    refine (mac_any _ _ k4 b _ ((show BSl wc wc.heap.size (.slice A k4.length cap) k4 from ⟨A, cap, rfl, by omega, hc2, hr5⟩).next hb9') (hb5.next hb9') (by omega) (by omega) (hG5.next hb9')).mono ?_
    rintro e w10 ⟨rfl, hb10⟩
    have hb10' := hb9'.trans (hb10.mono hb9'.size)
    go_wp2_with (first
      | (refine wpList_eqD rfl _ _ _ rfl (mac K4 b) (mac k4 b) rfl rfl (mac_length _ _) (mac_length _ _) true q1.out ?_))
    refine (known_any _ (hG5.next hb10')).mono ?_
    rintro e w11 ⟨rfl, hb11⟩
    have hb11' := hb10'.trans (hb11.mono hb10'.size)
    go_wp2_with fail
    go_ret
    exact ⟨rfl, hbel5.trans (hb11'.mono hbel5.size)⟩
end Go.Proofs.YtilndfodlbcmjaaDoor
