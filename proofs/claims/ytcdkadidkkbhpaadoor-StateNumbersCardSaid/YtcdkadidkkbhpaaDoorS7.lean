/- Texts that stand behind one another: RefB. No condition. -/
import Derived.Test.YtcdkadidkkbhpaaDoorS6
import Derived.Deep.DeepMust
import Derived.Deep.DeepCutAuto
/- The walks of the reference's below, root. No condition. -/
namespace Go.Proofs.YtcdkadidkkbhpaaDoor
open Go.RowKit
attribute [local go_sem] and64_c shr64_16 shr64_32 shr64_48 wrap_mul64 wrap_add64 wrap_sub64 n64_lo n64_hi
theorem n64_ne (x y : UInt64) : decide (n64 x = n64 y) = decide (x = y) := decide_eq_decide.2 ⟨n64_inj, fun h => by rw [h]⟩
theorem n64_lt (x y : UInt64) : decide (n64 x < n64 y) = decide (x < y) := decide_eq_decide.2 (by rw [UInt64.lt_iff_toNat_lt]; unfold n64; omega)
set_option maxRecDepth 100000 in
theorem below_any (x p : UInt64) (c : Bool) (hp : p.toNat < 4294967296) (w : World) :
    Calls Tryd.prog 75 #[.int .u64 (n64 x), .int .u64 (n64 p), .bool c] w fun e w' => e = .returned (.bool (belowU x p c)) ∧ Below w.heap.size w w' := by
  obtain ⟨i0, hi, hz0, hz1, hz2⟩ := info_parts (by kernel_rfl : (Tryd.prog.info? 27).map (fun i => (i.zero, i.size, i.bytes)) = some (some (.int .u64 0), 1, 8))
  have q2 := Lib.hid (below_sq x p hp)
  have q3 := Lib.hid (below_cb x p hp)
  have hll : (limbsU x).length = 4 := rfl
  have htl : (timesU (limbsU x) (limbsU x)).length = 8 := tOut_length _ _ _
  go_enter Tryd.func75, Tryd.ntmps75
  go_wp2_with fail
  refine (limbs_any x w).mono ?_
  rintro e w1 ⟨v1, rfl, hU1, hb1⟩
  go_wp2_with fail
  refine (times_any _ _ _ _ _ hU1 hU1 (by omega) (by omega) (by omega) (by omega)).mono ?_
  rintro e w2 ⟨v2, rfl, hU2, hb2⟩
  have hb2' := hb1.trans (hb2.mono hb1.size)
  have hU1' := hU1.next hb2
  generalize timesU (limbsU x) (limbsU x) = T2 at *
  generalize limbsU x = L at *
  clear hU1 hb1 hb2
  go_upto_if 17 with fail
  go_cut [8, 9] (fun s8 s9 wx => ∃ (B : List UInt64) (n m : Nat), USl wx wx.heap.size s8 B ∧ B.length = m ∧ s9 = .int .i64 n ∧ n + 1 < m ∧ m ≤ 12 ∧ Hid (cmpU B (wantU n m p) m = belowU x p c) ∧ Below w.heap.size w wx)
  case first =>
    by_cases hc : c = true
    · subst hc
      go_wp2_with fail
      refine (times_any _ _ _ _ _ hU2 hU1' (by omega) (by omega) (by omega) (by omega)).mono ?_
      rintro e w3 ⟨v3, rfl, hU3, hb3⟩
      go_wp2_with fail
      go_meet
      exact ⟨_, 6, 12, hU3, (by rw [timesU, tOut_length]; omega), rfl, by decide, by decide, q3, hb2'.trans (hb3.mono hb2'.size)⟩
    · have hc' : c = false := by simpa using hc
      subst hc'
      clear hc
      go_wp2_with fail
      go_meet
      exact ⟨_, 4, 8, hU2, htl, rfl, by decide, by decide, q2, hb2'⟩
  case rest =>
    obtain ⟨B, n, m, hUB, hBl, rfl, hn, hm, hq, hbel⟩ := hcut
    clear q2 q3 hU2 hb2' hU1' htl hll
    obtain ⟨A, cap, rfl, hc1, hc2, hr⟩ := hUB
    obtain ⟨bb, off, rfl, hbb, hcb⟩ := hr (by rw [List.length_map]; omega)
    clear hr
    subst hBl
    go_wp2_with (first
      | (refine wpList_makeB rfl _ _ _ rfl 27 i0 _ Tryd.underlying127 hi hz0 hz1 rfl _ _ B.length rfl rfl (by rw [hz2]; omega) (by omega) ?_; refine wpl_at (fun W => Blk W wc.heap.size 27 ((List.replicate B.length (0 : UInt64)).map v64).toArray ∧ Below wc.heap.size wc W) ⟨(by rw [List.map_replicate]; exact Blk.new _ _ _), below_new1 wc _⟩ ?_; rintro w4 ⟨hB4, hb4⟩)
      | (refine wpList_store1 rfl rfl 27 (.tmp 28) (.tmp 27) rfl wc.heap.size n rfl (v64 (p &&& 65535)) rfl _ _ hB4 (by kernel_rfl) (by simp; omega) rfl rfl ?_; intro w5 hB5 hon5; have hb5 := below_only hb4 hon5 (Nat.le_refl _) hb4.size)
      | (refine wpList_store1 rfl rfl 27 (.tmp 39) (.tmp 38) rfl wc.heap.size (n + 1) rfl (v64 (p >>> 16)) rfl _ _ hB5 (by kernel_rfl) (by simp; omega) rfl rfl ?_; intro w6 hB6 hon6; have hb6 := below_only hb5 hon6 (Nat.le_refl _) hb5.size))
    have hW : Blk w6 wc.heap.size 27 ((wantU n B.length p).map v64).toArray := by
      rw [wantU, List.map_set, List.map_set]; rw [List.setIfInBounds_toArray, List.setIfInBounds_toArray] at hB6; exact hB6
    have hWl : (wantU n B.length p).length = B.length := by simp [wantU]
    generalize wantU n B.length p = Wt at *
    have hbb6 : bb < w6.heap.size := Nat.lt_of_lt_of_le hbb hb6.size
    have hcb6 : ∀ j, j < B.length → w6.cell? ⟨bb, off + j, none⟩ = some (.int .u64 (n64 (B.getD j 0))) := fun j hj => (hb6.cell (p := ⟨bb, _, none⟩) hbb).trans (hcb j _ (v64_at B j hj))
    have hbel6 := hbel.trans (hb6.mono hbel.size)
    clear hB4 hb4 hB5 hon5 hb5 hB6 hon6 hb6 hcb
    go_loopw [11] (fun iv wr => ∃ i : Nat, i ≤ B.length ∧ iv = .int .i64 ((i : Int) - 1) ∧ Hid (cmpU B Wt i = belowU x p c) ∧ Below w6.heap.size w6 wr) (fun iv _ => (intOf iv + 1).toNat)
    case atStart => exact ⟨B.length, Nat.le_refl _, rfl, hq, Below.refl _ _⟩
    case round =>
      obtain ⟨i, hil, rfl, hqi, hbw⟩ := hrel
      obtain rfl | ⟨j, rfl⟩ : i = 0 ∨ ∃ j, i = j + 1 := by cases i with | zero => exact .inl rfl | succ j => exact .inr ⟨j, rfl⟩
      · go_wp2
        go_ret
        exact ⟨by rw [← hqi.out]; rfl, hbel6.trans (hbw.mono hbel6.size)⟩
      · rw [show ((j + 1 : Nat) : Int) - 1 = (j : Int) by omega]
        have cB : wr.cell? ⟨bb, off + j, none⟩ = some (.int .u64 (n64 (B.getD j 0))) := (hbw.cell (p := ⟨bb, _, none⟩) hbb6).trans (hcb6 j (by omega))
        have cW : wr.cell? ⟨wc.heap.size, j, none⟩ = some (.int .u64 (n64 (Wt.getD j 0))) := by
          rw [(hW.below hbw hW.lt).cell]; simpa using v64_at Wt j (by omega)
        have e1 : cmpU B Wt (j + 1) = if B.getD j 0 = Wt.getD j 0 then cmpU B Wt j else decide (B.getD j 0 < Wt.getD j 0) := rfl
        have e2 := hqi.out
        clear hqi hq
        rw [e1] at e2
        generalize B.getD j 0 = bj at *
        generalize Wt.getD j 0 = wj at *
        by_cases he : bj = wj
        · rw [if_pos he] at e2
          subst he
          have H2 := Lib.hid e2
          clear e1 e2
          go_wp2
          go_quiet (fail)
          go_wp2
          go_roundw
          case rel => exact ⟨j, by omega, by go_num, H2, below_drewN hbw nq⟩
          case measure => simp [intOf]
        · rw [if_neg he] at e2
          have hne : ¬ (n64 bj = n64 wj) := fun h => he (n64_inj h)
          have H2 := Lib.hid e2
          clear e1 e2 he
          go_wp2
          go_quiet (fail)
          go_wp2
          go_quiet (fail)
          go_wp2
          go_ret
          refine ⟨?_, hbel6.trans ((below_drewN (below_drewN hbw _) _).mono hbel6.size)⟩
          rw [← H2.out, ← n64_lt]
          rfl
theorem root_mid (lo hi : UInt64) (h : lo.toNat + 1 < hi.toNat) (hh : hi.toNat ≤ 171798691840) : ∃ m : UInt64, m.toNat = (lo.toNat + hi.toNat) / 2 ∧ IntKind.u64.wrap ((n64 (lo + hi)).tdiv 2) = n64 m := by
  have e : (lo + hi).toNat = lo.toNat + hi.toNat := by rw [UInt64.toNat_add]; omega
  have e2 : (UInt64.ofNat ((lo.toNat + hi.toNat) / 2)).toNat = (lo.toNat + hi.toNat) / 2 := UInt64.toNat_ofNat_of_lt' (by show _ < 18446744073709551616; omega)
  exact ⟨_, e2, by rw [wrap_u64', Int.tdiv_eq_ediv_of_nonneg (n64_lo _)]; unfold n64; rw [e, e2]; omega⟩
set_option maxRecDepth 100000 in
theorem root_any (p : UInt64) (c : Bool) (hp : p.toNat < 1600) (w : World) :
    Calls Tryd.prog 62 #[.int .u64 (n64 p), .bool c] w fun e w' => ∃ r : Nat, e = .returned (.int .u32 (n32 (UInt32.ofNat r))) ∧ IsRoot p c r ∧ Below w.heap.size w w' := by
  have hlo0 : Hid (belowU 0 p c = true) := Lib.hid (by unfold belowU; cases c <;> simp)
  have hhi0 : Hid (belowU 171798691840 p c = false) := Lib.hid (by
    unfold belowU
    have e : (171798691840 : UInt64).toNat = 171798691840 := rfl
    rw [e]
    cases c
    · simp; omega
    · simp; omega)
  go_enter Tryd.func62, Tryd.ntmps62
  go_wp2
  go_loopw [5, 6] (fun l h wr => ∃ lo hi : UInt64, l = .int .u64 (n64 lo) ∧ h = .int .u64 (n64 hi) ∧ lo.toNat < hi.toNat ∧ hi.toNat ≤ 171798691840 ∧ Hid (belowU lo p c = true) ∧ Hid (belowU hi p c = false) ∧ Below w.heap.size w wr) (fun l h _ => (intOf h).toNat - (intOf l).toNat)
  case atStart => exact ⟨0, 171798691840, rfl, rfl, by decide, by decide, hlo0, hhi0, Below.refl _ _⟩
  case round =>
    obtain ⟨lo, hi, rfl, rfl, hlt, hle, h1, h2, hbel⟩ := hrel
    clear hlo0 hhi0
    have es : n64 (hi - lo) = (hi.toNat : Int) - lo.toNat := by unfold n64; rw [UInt64.toNat_sub_of_le _ _ (by rw [UInt64.le_iff_toNat_le]; omega)]; omega
    by_cases hg : lo.toNat + 1 < hi.toNat
    · obtain ⟨m, hm, em⟩ := root_mid lo hi hg hle
      have hgt : 1 < n64 (hi - lo) := by omega
      clear es
      go_wp2_with fail
      clear em hgt
      refine (below_any m p c (by omega) wr).mono ?_
      rintro e w1 ⟨rfl, hb1⟩
      have hbel1 := hbel.trans (hb1.mono hbel.size)
      cases hq : belowU m p c with
      | true =>
        have Hq := Lib.hid hq
        clear hq
        go_wp2_with fail
        go_roundw
        case rel => exact ⟨m, hi, rfl, rfl, by omega, hle, Hq, h2, hbel1⟩
        case measure => simp only [intOf, n64]; omega
      | false =>
        have Hq := Lib.hid hq
        clear hq
        go_wp2_with fail
        go_roundw
        case rel => exact ⟨lo, m, rfl, rfl, by omega, by omega, h1, Hq, hbel1⟩
        case measure => simp only [intOf, n64]; omega
    · have hgt : ¬ 1 < n64 (hi - lo) := by omega
      clear es
      go_wp2_with fail
      go_ret
      have ee : n64 lo % 4294967296 = n32 (UInt32.ofNat lo.toNat) := by unfold n64 n32; rw [UInt32.toNat_ofNat']; omega
      refine ⟨lo.toNat, ?_, ⟨of_decide_eq_true h1.out, ?_⟩, hbel⟩
      · rw [← ee]; rfl
      · have := of_decide_eq_false h2.out
        rw [show hi.toNat = lo.toNat + 1 by omega] at this
        omega
theorem root_K (i : Nat) (hi : i < 64) (w : World) : Calls Tryd.prog 62 #[.int .u64 (n64 (primeL.getD i 0)), .bool true] w fun e w' => e = .returned (.int .u32 (n32 (K0.getD i 0))) ∧ Below w.heap.size w w' := by
  refine (root_any _ true ((by decide +kernel : ∀ i, i < 64 → (primeL.getD i 0).toNat < 1600) i hi) w).mono ?_
  rintro e w' ⟨r, rfl, hr, hb⟩
  rw [hr.unique (cubeL_ok i hi), cubeL_K i hi]
  exact ⟨rfl, hb⟩
theorem root_H (i : Nat) (hi : i < 8) (w : World) : Calls Tryd.prog 62 #[.int .u64 (n64 (primeL.getD i 0)), .bool false] w fun e w' => e = .returned (.int .u32 (n32 (H0.list.getD i 0))) ∧ Below w.heap.size w w' := by
  refine (root_any _ false ((by decide +kernel : ∀ i, i < 64 → (primeL.getD i 0).toNat < 1600) i (by omega)) w).mono ?_
  rintro e w' ⟨r, rfl, hr, hb⟩
  rw [hr.unique (squareL_ok i hi), squareL_H i hi]
  exact ⟨rfl, hb⟩
end Go.Proofs.YtcdkadidkkbhpaaDoor
