/- The walk of the law CompactOf. Condition: the tables. -/
import Derived.Test.YtkogehkmldbhgaaDoorP17
import Derived.Test.YtkogehkmldbhgaaDoorP12
import Derived.Test.YtkogehkmldbhgaaDoorP10
namespace Go.Proofs.YtkogehkmldbhgaaDoor
open Go Go.RowKit
attribute [local irreducible] mixW
attribute [local go_sem] n8_lo n8_hi n64_lo n64_hi n32_lo n32_hi
theorem SSl.shapeO {w : World} {v : Value} {ls : List (List UInt8)} (h : SSl w w.heap.size v ls) : ∃ A cap, v = .slice A ls.length cap := by
  obtain ⟨A, cap, _, h, _⟩ := h
  exact ⟨A, cap, h⟩
set_option maxHeartbeats 2000000 in
set_option maxRecDepth 100000 in
theorem compactOf_walk (w : World) (hG : Glob w) (hT : Tz w) (x0 : Int) (hx0 : -9223372036854775808 ≤ x0 ∧ x0 ≤ 9223372036854775807) (v : Value) (ls : List (List UInt8)) (hv : SSl w w.heap.size v ls) (b0 e0 : UInt64) :
    Calls Tryd.prog 4 #[.int .i64 x0, v, .int .u64 (n64 b0), .int .u64 (n64 e0)] w fun r w' => r = .returned (.bool true) ∧ Below w.heap.size w w' := by
  obtain ⟨b, hb⟩ : ∃ b : Nat, b0.toNat = b := ⟨_, rfl⟩
  obtain ⟨e, he⟩ : ∃ e : Nat, e0.toNat = e := ⟨_, rfl⟩
  rw [show n64 b0 = (b : Int) by rw [← hb]; rfl, show n64 e0 = (e : Int) by rw [← he]; rfl]
  clear hb he
  go_enter Tryd.func4, Tryd.ntmps4
  obtain ⟨A0, cap0, rfl⟩ := hv.shapeO
  go_wp2_with fail
  refine (few_any _ ls 40 60 (by decide) (by decide) w hv).mono ?_
  rintro r w1 ⟨u1, rfl, ⟨vs1, hO⟩, hbel⟩
  have hL40 : (fewL ls 40 60).length ≤ 40 := by rw [fewL_length]; omega
  have hL300 : ∀ c ∈ fewL ls 40 60, c.length ≤ 60 := fun c hc => fewL_mem hc
  generalize fewL ls 40 60 = L at hO hL40 hL300
  have HL := Lib.hid (And.intro hL40 hL300)
  have v1 := hO.ssl
  clear hL40 hL300 hv hO
  obtain ⟨A1, cap1, rfl⟩ := v1.shapeO
  by_cases hin : b ≤ e ∧ e ≤ L.length
  · have Hin := Lib.hid hin
    clear hin
    go_wp2_with fail
    refine (of_ok x0 A1 cap1 L b e w1 v1 (by have := HL.out.1; omega) (fun c hc => by have := HL.out.2 c hc; omega) Hin.out.1 Hin.out.2 (hG.next hbel) (hT.next hbel)).mono ?_
    rintro r w2 ⟨u2, rfl, hown2, hb2⟩
    obtain ⟨A2, c2, rfl⟩ := own_slice hown2
    have hX2 := DX.of_own hown2
    have hll : (rangeM (cutW x0) L b e).length ≤ 64 := by rw [rangeM_length]; exact blocks_many 32 (by decide) (by have := Hin.out; have := HL.out.1; omega)
    have hlm := rangeM_mem (cutW x0) L b e
    obtain ⟨R, hRe⟩ : ∃ R, rangeM (cutW x0) L b e = R := ⟨_, rfl⟩
    rw [hRe] at hown2 hX2 hll hlm ⊢
    have HR := Lib.hid (And.intro hRe (And.intro hll hlm))
    clear hRe hll hlm hown2
    have hbel2 := hbel.trans (hb2.mono hbel.size)
    have v2 := v1.next hb2
    have hr9 := Blk.new w2 31 (rgC b e (.slice A2 R.length c2))
    have hb3 := below_new1 w2 (Obj.cells (rgC b e (.slice A2 R.length c2)) 31)
    have HX2 := Lib.hid (hX2)
    clear hb2 v1 hbel
    unfold rgC at *
    simp only [nU] at *
    go_wp2_with fail
    refine calls_at (fun W => Blk W w2.heap.size 31 (rgC b e (.slice A2 R.length c2)) ∧ Below w2.heap.size w2 W) ⟨hr9, hb3⟩ ?_
    clear hr9 hb3
    rintro W3 ⟨hr9, hb3⟩
    refine (hasher10_any x0 W3).mono ?_
    rintro r w4 ⟨h, rfl, hH, hb4⟩
    have hb24 := hb3.trans (hb4.mono hb3.size)
    replace hr9 := hr9.below hb4 hr9.lt
    clear hb3 hb4
    go_wp2_with fail
    refine (rof_ok h (cutW x0) A1 cap1 L b e w4 (v2.next hb24) (by have := HL.out.1; omega) (fun c hc => by have := HL.out.2 c hc; omega) Hin.out.1 Hin.out.2 hH).mono ?_
    rintro r w5 ⟨u5, rfl, hown5, hb5⟩
    replace hr9 := hr9.below hb5 hr9.lt
    have hb25 := hb24.trans (hb5.mono hb24.size)
    obtain ⟨A5, c5, rfl⟩ := own_slice hown5
    have hX5 := DX.of_own hown5
    rw [HR.out.1] at hX5
    clear hown5
    rw [HR.out.1]
    have hr11 := Blk.new w5 35 (rgC b e (.slice A5 R.length c5))
    have hb6 := below_new1 w5 (Obj.cells (rgC b e (.slice A5 R.length c5)) 35)
    replace hr9 := hr9.below hb6 hr9.lt
    have HX5 := Lib.hid ((hX5).next hb6)
    have HX26 := Lib.hid ((HX2.out.next hb25).next hb6)
    have hbel6 := (hbel2.trans (hb25.mono hbel2.size)).trans (hb6.mono (Nat.le_trans hbel2.size hb25.size))
    clear hb5 hb24 hb25 hb6 HX2 hbel2 v2 hH
    unfold rgC at *
    simp only [nU] at *
    go_wp2_with (first
      | (refine wpList_load_row rfl _ (.tmp 9) rfl w2.heap.size rfl _ _ _ _ hr9 Tryd.underlying31 rfl (by kernel_rfl) ?_)
      | (refine wpList_load_row rfl _ (.tmp 11) rfl w5.heap.size rfl _ _ _ _ hr11 Tryd.underlying35 rfl (by kernel_rfl) ?_))
    refine (same10_any b e A2 A5 c2 c5 R HR.out.2.2 (by have := HR.out.2.1; omega) _ HX26.out HX5.out).mono ?_
    rintro r w7 ⟨rfl, hb7⟩
    have hbel7 := hbel6.trans (hb7.mono hbel6.size)
    go_wp2_with fail
    refine (known10_any w7 (hG.next hbel7) (hT.next hbel7)).mono ?_
    rintro r w8 ⟨rfl, hb8⟩
    go_wp2_with fail
    go_ret
    exact ⟨rfl, hbel7.trans (hb8.mono hbel7.size)⟩
  · have Hin := Lib.hid hin
    clear hin
    go_wp2_with fail
    refine (of_no x0 A1 L.length cap1 b e (by have := HL.out.1; omega) Hin.out w1).mono ?_
    rintro r w2 ⟨rfl, hb2⟩
    have hbel2 := hbel.trans (hb2.mono hbel.size)
    have v2 := v1.next hb2
    have hr9 := Blk.new w2 31 (rgC 0 0 (.slice none 0 0))
    have hb3 := below_new1 w2 (Obj.cells (rgC 0 0 (.slice none 0 0)) 31)
    have HX2 := Lib.hid (DX.nil_ w2)
    clear hb2 v1 hbel
    unfold rgC at *
    simp only [nU] at *
    go_wp2_with fail
    refine calls_at (fun W => Blk W w2.heap.size 31 (rgC 0 0 (.slice none 0 0)) ∧ Below w2.heap.size w2 W) ⟨hr9, hb3⟩ ?_
    clear hr9 hb3
    rintro W3 ⟨hr9, hb3⟩
    refine (hasher10_any x0 W3).mono ?_
    rintro r w4 ⟨h, rfl, hH, hb4⟩
    have hb24 := hb3.trans (hb4.mono hb3.size)
    replace hr9 := hr9.below hb4 hr9.lt
    clear hb3 hb4
    go_wp2_with fail
    refine (rof_no h A1 L.length cap1 b e (by have := HL.out.1; omega) Hin.out w4).mono ?_
    rintro r w5 ⟨rfl, hb5⟩
    replace hr9 := hr9.below hb5 hr9.lt
    have hb25 := hb24.trans (hb5.mono hb24.size)
    have hr11 := Blk.new w5 35 (rgC 0 0 (.slice none 0 0))
    have hb6 := below_new1 w5 (Obj.cells (rgC 0 0 (.slice none 0 0)) 35)
    replace hr9 := hr9.below hb6 hr9.lt
    have HX5 := Lib.hid ((DX.nil_ w5).next hb6)
    have HX26 := Lib.hid ((HX2.out.next hb25).next hb6)
    have hbel6 := (hbel2.trans (hb25.mono hbel2.size)).trans (hb6.mono (Nat.le_trans hbel2.size hb25.size))
    clear hb5 hb24 hb25 hb6 HX2 hbel2 v2 hH
    unfold rgC at *
    simp only [nU] at *
    go_wp2_with (first
      | (refine wpList_load_row rfl _ (.tmp 9) rfl w2.heap.size rfl _ _ _ _ hr9 Tryd.underlying31 rfl (by kernel_rfl) ?_)
      | (refine wpList_load_row rfl _ (.tmp 11) rfl w5.heap.size rfl _ _ _ _ hr11 Tryd.underlying35 rfl (by kernel_rfl) ?_))
    refine (same10_any 0 0 none none 0 0 [] (fun _ h => by cases h) (by decide) _ HX26.out HX5.out).mono ?_
    rintro r w7 ⟨rfl, hb7⟩
    have hbel7 := hbel6.trans (hb7.mono hbel6.size)
    go_wp2_with fail
    refine (known10_any w7 (hG.next hbel7) (hT.next hbel7)).mono ?_
    rintro r w8 ⟨rfl, hb8⟩
    go_wp2_with fail
    go_ret
    exact ⟨rfl, hbel7.trans (hb8.mono hbel7.size)⟩
end Go.Proofs.YtkogehkmldbhgaaDoor
