/- The walk of the law ShaCuts. -/
import Derived.Test.YtilndfodlbcmjaaDoorShaF
namespace Go.Proofs.YtilndfodlbcmjaaDoor
open Go.RowKit
set_option maxRecDepth 100000 in
theorem shaCuts_walk (w : World) (hG : Glob w) (A : Option Addr) (cap : Nat) (b : List UInt8) (hb : BSl w w.heap.size (.slice A b.length cap) b) (hc : cap ≤ 140737488351232)
    (m : Int) (hm : -9223372036854775808 ≤ m ∧ m ≤ 9223372036854775807) (n : Int) (hn : -9223372036854775808 ≤ n ∧ n ≤ 9223372036854775807) :
    Calls Tryd.prog 3 #[.slice A b.length cap, .int .i64 m, .int .i64 n] w fun e w' => e = .returned (.bool true) ∧ Below w.heap.size w w' := by
  obtain ⟨A', cap', e1, hc1, hc2, hr⟩ := hb
  injection e1 with e1 _ e2
  subst e1; subst e2
  have hb : BSl w w.heap.size (.slice A b.length cap) b := ⟨A, cap, rfl, hc1, hc2, hr⟩
  obtain ⟨hm1, hm2⟩ := hm
  obtain ⟨hn1, hn2⟩ := hn
  obtain ⟨x, hx⟩ : ∃ x, x = withinI m 0 40 := ⟨_, rfl⟩
  obtain ⟨y, hy⟩ : ∃ y, y = withinI n 0 40 := ⟨_, rfl⟩
  have bx := withinI_bounds m 0 40 (by decide)
  have by' := withinI_bounds n 0 40 (by decide)
  rw [← hx] at bx
  rw [← hy] at by'
  obtain ⟨bx1, bx2⟩ := bx
  obtain ⟨by1, by2⟩ := by'
  have hx' : withinI m 0 40 = x := hx.symm
  have hy' : withinI n 0 40 = y := hy.symm
  clear hx hy
  have hd := sha_length b
  have hmin : cutL (cutL (sha b) x) y = cutL (sha b) (min x y) := cutL_cutL _ _ _ hd
  obtain ⟨L, hL⟩ : ∃ L, L = min x y := ⟨_, rfl⟩
  rw [← hL] at hmin
  have hsel : (y < x ∧ L = y) ∨ (x ≤ y ∧ L = x) := by
    by_cases h : y < x
    · exact .inl ⟨h, by rw [hL]; exact Int.min_eq_right (by omega)⟩
    · exact .inr ⟨by omega, by rw [hL]; exact Int.min_eq_left (by omega)⟩
  have q1 := eqi_true _ _ (cutL_length _ y (cutL_length _ x hd)) (cutL_length _ L hd) hmin
  have q2 := eqi_true _ _ hd hd rfl
  have Hd := Lib.hid hd
  clear hd hL hmin
  rcases hsel with ⟨hsel, rfl⟩ | ⟨hsel, rfl⟩
  all_goals
    go_enter Tryd.func3, Tryd.ntmps3
    go_wp2_with fail
    refine (sum_b _ b w hb (by omega) hG).mono ?_
    rintro e w1 ⟨rfl, hb1⟩
    have hD := Blk.new w1 24 (arr 32 fun _ => 0)
    have hbel1 := hb1.alloc hb1.size (Obj.cells (arr 32 fun _ => 0) 24)
    go_wp2_with (first
      | (refine wpList_storeDat rfl rfl 24 (.tmp 7) (.tmp 10) rfl w1.heap.size rfl _ _ rfl _ hD (by kernel_rfl) ?_; intro w2 hD2 hon2)
      | (go_at_call 11; refine (within_any _ _ _ _ (by decide) (by decide) (by decide) (by omega) (by omega)).mono ?_; rintro e w' ⟨rfl, rfl⟩))
    have hon2' : (w1.alloc (Obj.cells (arr 32 fun _ => 0) 24)).grownBy w2 (some w1.heap.size) := hon2
    have hbel2 := below_only hbel1 hon2' hb1.size hbel1.size
    have hG2 := hG.next hbel2
    clear hon2
    refine wp_region_quiet_plus (by kernel_rfl) (by kernel_rfl) ?_
    repeat (first
      | (refine wpQuiet_load rfl 24 (.tmp 7) rfl w1.heap.size rfl _ _ _ _ (by rintro _ ⟨e, rfl⟩; exact hD2.plus e) Tryd.underlying24 rfl (by kernel_rfl) ?_; simp only [Act.put, List.setIfInBounds_toArray, List.set_cons_zero, List.set_cons_succ])
      | go_big_quiet_step (first
          | (go_at_call 12; exact calls_plus (cut_any _ (by first | exact Hd.out | exact cutL_length _ _ Hd.out) _ _))
          | (go_at_call 10; exact calls_plus (sum_b _ b _ (hb.next (hbel2.trans ((plus_below _ _).mono hbel2.size))) (by omega) (hG2.next (plus_below _ _))))
          | (go_at_call 13; exact calls_plus (known_any _ (hG2.next (plus_below _ _))))))
    refine wpQuiet_nil ?_
    rintro _ ⟨e9, rfl⟩
    go_wp2
    go_ret
    exact ⟨rfl, hbel2.trans ((plus_below _ _).mono hbel2.size)⟩
end Go.Proofs.YtilndfodlbcmjaaDoor
