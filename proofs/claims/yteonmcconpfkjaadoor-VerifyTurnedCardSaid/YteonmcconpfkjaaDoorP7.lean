/- Texts that stand behind one another: RefA, RefB, RefC, ListP, RefD. No condition. -/
import Derived.Test.YteonmcconpfkjaaDoorP6
import Derived.Test.YteonmcconpfkjaaDoorP5
import Derived.Deep.DeepMust
import Derived.Deep.DeepCutAuto
import Derived.Test.YteonmcconpfkjaaDoorP3
/- The walks of the reference's limbs, times, below, root. No condition. -/
namespace Go.Proofs.YteonmcconpfkjaaDoor
open Go.RowKit
attribute [local go_sem] and64_c shr64_16 shr64_32 shr64_48 wrap_mul64 wrap_add64 n64_lo n64_hi
theorem limbs_any (x : UInt64) (w : World) : Calls Tryd.prog 171 #[.int .u64 (n64 x)] w fun e w' => ∃ v, e = .returned v ∧ USl w' w'.heap.size v (limbsU x) ∧ Below w.heap.size w w' := by
  go_enter Tryd.func171, Tryd.ntmps171
  go_wp2
  go_ret
  have hb := Blk.new w 41 ((limbsU x).map v64).toArray
  exact ⟨_, rfl, USl.of_blk hb _ hb.lt 4 (by simp [limbsU]) (by decide), below_new1 w _⟩
set_option maxRecDepth 100000 in
theorem times_any (u v : Value) (a b : List UInt64) (w : World) (ha : USl w w.heap.size u a) (hb : USl w w.heap.size v b) (hla : a.length ≤ 16) (hlb : b.length ≤ 16) (hpa : 0 < a.length) (hpb : 0 < b.length) :
    Calls Tryd.prog 172 #[u, v] w fun e w' => ∃ v', e = .returned v' ∧ USl w' w'.heap.size v' (timesU a b) ∧ Below w.heap.size w w' := by
  obtain ⟨A, cap, rfl, hc1, hc2, hr⟩ := ha
  obtain ⟨Ab, capb, rfl, hd1, hd2, hrb⟩ := hb
  obtain ⟨ba, offa, rfl, hba, hca⟩ := hr (by rw [List.length_map]; exact hpa)
  obtain ⟨bb, offb, rfl, hbb, hcb⟩ := hrb (by rw [List.length_map]; exact hpb)
  obtain ⟨i0, hi, hz0, hz1, hz2⟩ := info_parts (by kernel_rfl : (Tryd.prog.info? 41).map (fun i => (i.zero, i.size, i.bytes)) = some (some (.int .u64 0), 1, 8))
  clear hr hrb
  go_enter Tryd.func172, Tryd.ntmps172
  go_wp2_with (first
    | (refine wpList_makeB rfl _ _ _ rfl 41 i0 _ Tryd.underlying123 hi hz0 hz1 rfl _ _ (a.length + b.length) rfl rfl (by rw [hz2]; omega) (by omega) ?_))
  go_loopw [6] (fun iv wr => ∃ i : Nat, i ≤ a.length ∧ iv = .int .i64 i ∧ Blk wr w.heap.size 41 ((tOut a b i).map v64).toArray ∧ Below w.heap.size w wr) (fun iv _ => a.length - (intOf iv).toNat)
  case atStart => exact ⟨0, by omega, rfl, by rw [tOut, List.map_replicate]; exact Blk.new _ _ _, below_new1 w _⟩
  case round =>
    obtain ⟨i, hil, rfl, hblk, hbel⟩ := hrel
    by_cases hlt : i < a.length
    · go_wp2
      go_loopw [7, 8] (fun c kv wr => ∃ k : Nat, k ≤ b.length ∧ kv = .int .i64 k ∧ c = v64 (tIn i (a.getD i 0) b (tOut a b i) k).2 ∧ Blk wr w.heap.size 41 ((tIn i (a.getD i 0) b (tOut a b i) k).1.map v64).toArray ∧ Below w.heap.size w wr) (fun _ kv _ => b.length - (intOf kv).toNat)
      case atStart => exact ⟨0, by omega, rfl, rfl, hblk, hbel⟩
      case round =>
        clear hblk hbel
        obtain ⟨k, hk, rfl, rfl, hblk, hbel⟩ := hrel
        by_cases hlk : k < b.length
        · have hOl : (tIn i (a.getD i 0) b (tOut a b i) k).1.length = a.length + b.length := by rw [tIn_length, tOut_length]
          have cO : wr.cell? ⟨w.heap.size, i + k, none⟩ = some (.int .u64 (n64 ((tIn i (a.getD i 0) b (tOut a b i) k).1.getD (i + k) 0))) := by
            rw [hblk.cell]; simpa using v64_at (tIn i (a.getD i 0) b (tOut a b i) k).1 (i + k) (by omega)
          have cA : wr.cell? ⟨ba, offa + i, none⟩ = some (.int .u64 (n64 (a.getD i 0))) := (hbel.cell (p := ⟨ba, _, none⟩) hba).trans (hca i _ (v64_at a i hlt))
          have cB : wr.cell? ⟨bb, offb + k, none⟩ = some (.int .u64 (n64 (b.getD k 0))) := (hbel.cell (p := ⟨bb, _, none⟩) hbb).trans (hcb k _ (v64_at b k hlk))
          have fO := hblk.frozen (i + k)
          have e1 := tIn_succ i (a.getD i 0) b (tOut a b i) k
          clear hca hcb
          generalize tIn i (a.getD i 0) b (tOut a b i) k = O at *
          generalize hai : a.getD i 0 = ai at *
          generalize hbk : b.getD k 0 = bk at *
          generalize hok : O.1.getD (i + k) 0 = ok at *
          have He := Lib.hid e1
          have H1 := Lib.hid (And.intro hai (And.intro hbk hok))
          clear e1 hai hbk hok
          simp only [v64]
          go_wp2
          go_quiet (fail)
          go_wp2
          go_roundw
          case rel =>
            refine ⟨k + 1, by omega, by go_num, ?_, ?_, (below_drewN hbel nq).setCell (Nat.le_refl _) _⟩
            · rw [He.out]
            · rw [He.out, List.map_set]
              have := (hblk.drewN nq).set (i + k) (v64 (ok + ai * bk + O.2 &&& 65535))
              simpa [v64] using this
          case measure => simp [intOf]; omega
        · have ek : k = b.length := by omega
          subst ek
          have hOl : (tIn i (a.getD i 0) b (tOut a b i) b.length).1.length = a.length + b.length := by rw [tIn_length, tOut_length]
          have cO : wr.cell? ⟨w.heap.size, i + b.length, none⟩ = some (.int .u64 (n64 ((tIn i (a.getD i 0) b (tOut a b i) b.length).1.getD (i + b.length) 0))) := by
            rw [hblk.cell]; simpa using v64_at (tIn i (a.getD i 0) b (tOut a b i) b.length).1 (i + b.length) (by omega)
          have fO := hblk.frozen (i + b.length)
          have e1 := tOut_succ a b i
          generalize tIn i (a.getD i 0) b (tOut a b i) b.length = O at *
          generalize hok : O.1.getD (i + b.length) 0 = ok at *
          have He := Lib.hid e1
          clear e1 hok hca hcb
          simp only [v64]
          go_wp2
          go_roundw
          case rel =>
            refine ⟨i + 1, by omega, by go_num, ?_, (hbel).setCell (Nat.le_refl _) _⟩
            rw [He.out, List.map_set]
            have := hblk.set (i + b.length) (v64 (ok + O.2))
            simpa [v64] using this
          case measure => simp [intOf]; omega
    · have ei : i = a.length := by omega
      subst ei
      have hOl := tOut_length a b a.length
      go_wp2
      go_ret
      have hU := USl.of_blk hblk wr.heap.size hblk.lt (a.length + b.length) (by omega) (by omega)
      rw [hOl] at hU
      exact ⟨_, rfl, hU, hbel⟩
end Go.Proofs.YteonmcconpfkjaaDoor

/- The walks of the reference's below, root. No condition. -/
namespace Go.Proofs.YteonmcconpfkjaaDoor
open Go.RowKit
attribute [local go_sem] and64_c shr64_16 shr64_32 shr64_48 wrap_mul64 wrap_add64 wrap_sub64 n64_lo n64_hi
theorem n64_ne (x y : UInt64) : decide (n64 x = n64 y) = decide (x = y) := decide_eq_decide.2 ⟨n64_inj, fun h => by rw [h]⟩
theorem n64_lt (x y : UInt64) : decide (n64 x < n64 y) = decide (x < y) := decide_eq_decide.2 (by rw [UInt64.lt_iff_toNat_lt]; unfold n64; omega)
set_option maxRecDepth 100000 in
theorem below_any (x p : UInt64) (c : Bool) (hp : p.toNat < 4294967296) (w : World) :
    Calls Tryd.prog 154 #[.int .u64 (n64 x), .int .u64 (n64 p), .bool c] w fun e w' => e = .returned (.bool (belowU x p c)) ∧ Below w.heap.size w w' := by
  obtain ⟨i0, hi, hz0, hz1, hz2⟩ := info_parts (by kernel_rfl : (Tryd.prog.info? 41).map (fun i => (i.zero, i.size, i.bytes)) = some (some (.int .u64 0), 1, 8))
  have q2 := Lib.hid (below_sq x p hp)
  have q3 := Lib.hid (below_cb x p hp)
  have hll : (limbsU x).length = 4 := rfl
  have htl : (timesU (limbsU x) (limbsU x)).length = 8 := tOut_length _ _ _
  go_enter Tryd.func154, Tryd.ntmps154
  go_wp2_with fail
  refine (limbs_any x w).mono ?_
  rintro e w1 ⟨v1, rfl, hU1, hb1⟩
  go_wp2_with fail
  refine (times_any _ _ _ _ _ hU1 hU1 (by omega) (by omega) (by omega) (by omega)).mono ?_
  rintro e w2 ⟨v2, rfl, hU2, hb2⟩
  have hb2' := hb1.trans (hb2.mono hb1.size)
  have hU1' := hU1.next hb2
  generalize timesU (limbsU x) (limbsU x) = T2 at *
  generalize limbsU x = L at *
  clear hU1 hb1 hb2
  go_upto_if 17 with fail
  go_cut [8, 9] (fun s8 s9 wx => ∃ (B : List UInt64) (n m : Nat), USl wx wx.heap.size s8 B ∧ B.length = m ∧ s9 = .int .i64 n ∧ n + 1 < m ∧ m ≤ 12 ∧ Hid (cmpU B (wantU n m p) m = belowU x p c) ∧ Below w.heap.size w wx)
  case first =>
    by_cases hc : c = true
    · subst hc
      go_wp2_with fail
      refine (times_any _ _ _ _ _ hU2 hU1' (by omega) (by omega) (by omega) (by omega)).mono ?_
      rintro e w3 ⟨v3, rfl, hU3, hb3⟩
      go_wp2_with fail
      go_meet
      exact ⟨_, 6, 12, hU3, (by rw [timesU, tOut_length]; omega), rfl, by decide, by decide, q3, hb2'.trans (hb3.mono hb2'.size)⟩
    · have hc' : c = false := by simpa using hc
      subst hc'
      clear hc
      go_wp2_with fail
      go_meet
      exact ⟨_, 4, 8, hU2, htl, rfl, by decide, by decide, q2, hb2'⟩
  case rest =>
    obtain ⟨B, n, m, hUB, hBl, rfl, hn, hm, hq, hbel⟩ := hcut
    clear q2 q3 hU2 hb2' hU1' htl hll
    obtain ⟨A, cap, rfl, hc1, hc2, hr⟩ := hUB
    obtain ⟨bb, off, rfl, hbb, hcb⟩ := hr (by rw [List.length_map]; omega)
    clear hr
    subst hBl
    go_wp2_with (first
      | (refine wpList_makeB rfl _ _ _ rfl 41 i0 _ Tryd.underlying123 hi hz0 hz1 rfl _ _ B.length rfl rfl (by rw [hz2]; omega) (by omega) ?_; refine wpl_at (fun W => Blk W wc.heap.size 41 ((List.replicate B.length (0 : UInt64)).map v64).toArray ∧ Below wc.heap.size wc W) ⟨(by rw [List.map_replicate]; exact Blk.new _ _ _), below_new1 wc _⟩ ?_; rintro w4 ⟨hB4, hb4⟩)
      | (refine wpList_store1 rfl rfl 41 (.tmp 28) (.tmp 27) rfl wc.heap.size n rfl (v64 (p &&& 65535)) rfl _ _ hB4 (by kernel_rfl) (by simp; omega) rfl rfl ?_; intro w5 hB5 hon5; have hb5 := below_only hb4 hon5 (Nat.le_refl _) hb4.size)
      | (refine wpList_store1 rfl rfl 41 (.tmp 39) (.tmp 38) rfl wc.heap.size (n + 1) rfl (v64 (p >>> 16)) rfl _ _ hB5 (by kernel_rfl) (by simp; omega) rfl rfl ?_; intro w6 hB6 hon6; have hb6 := below_only hb5 hon6 (Nat.le_refl _) hb5.size))
    have hW : Blk w6 wc.heap.size 41 ((wantU n B.length p).map v64).toArray := by
      rw [wantU, List.map_set, List.map_set]; rw [List.setIfInBounds_toArray, List.setIfInBounds_toArray] at hB6; exact hB6
    have hWl : (wantU n B.length p).length = B.length := by simp [wantU]
    generalize wantU n B.length p = Wt at *
    have hbb6 : bb < w6.heap.size := Nat.lt_of_lt_of_le hbb hb6.size
    have hcb6 : ∀ j, j < B.length → w6.cell? ⟨bb, off + j, none⟩ = some (.int .u64 (n64 (B.getD j 0))) := fun j hj => (hb6.cell (p := ⟨bb, _, none⟩) hbb).trans (hcb j _ (v64_at B j hj))
    have hbel6 := hbel.trans (hb6.mono hbel.size)
    clear hB4 hb4 hB5 hon5 hb5 hB6 hon6 hb6 hcb
    go_loopw [11] (fun iv wr => ∃ i : Nat, i ≤ B.length ∧ iv = .int .i64 ((i : Int) - 1) ∧ Hid (cmpU B Wt i = belowU x p c) ∧ Below w6.heap.size w6 wr) (fun iv _ => (intOf iv + 1).toNat)
    case atStart => exact ⟨B.length, Nat.le_refl _, rfl, hq, Below.refl _ _⟩
    case round =>
      obtain ⟨i, hil, rfl, hqi, hbw⟩ := hrel
      obtain rfl | ⟨j, rfl⟩ : i = 0 ∨ ∃ j, i = j + 1 := by cases i with | zero => exact .inl rfl | succ j => exact .inr ⟨j, rfl⟩
      · go_wp2
        go_ret
        exact ⟨by rw [← hqi.out]; rfl, hbel6.trans (hbw.mono hbel6.size)⟩
      · rw [show ((j + 1 : Nat) : Int) - 1 = (j : Int) by omega]
        have cB : wr.cell? ⟨bb, off + j, none⟩ = some (.int .u64 (n64 (B.getD j 0))) := (hbw.cell (p := ⟨bb, _, none⟩) hbb6).trans (hcb6 j (by omega))
        have cW : wr.cell? ⟨wc.heap.size, j, none⟩ = some (.int .u64 (n64 (Wt.getD j 0))) := by
          rw [(hW.below hbw hW.lt).cell]; simpa using v64_at Wt j (by omega)
        have e1 : cmpU B Wt (j + 1) = if B.getD j 0 = Wt.getD j 0 then cmpU B Wt j else decide (B.getD j 0 < Wt.getD j 0) := rfl
        have e2 := hqi.out
        clear hqi hq
        rw [e1] at e2
        generalize B.getD j 0 = bj at *
        generalize Wt.getD j 0 = wj at *
        by_cases he : bj = wj
        · rw [if_pos he] at e2
          subst he
          have H2 := Lib.hid e2
          clear e1 e2
          go_wp2
          go_quiet (fail)
          go_wp2
          go_roundw
          case rel => exact ⟨j, by omega, by go_num, H2, below_drewN hbw nq⟩
          case measure => simp [intOf]
        · rw [if_neg he] at e2
          have hne : ¬ (n64 bj = n64 wj) := fun h => he (n64_inj h)
          have H2 := Lib.hid e2
          clear e1 e2 he
          go_wp2
          go_quiet (fail)
          go_wp2
          go_quiet (fail)
          go_wp2
          go_ret
          refine ⟨?_, hbel6.trans ((below_drewN (below_drewN hbw _) _).mono hbel6.size)⟩
          rw [← H2.out, ← n64_lt]
          rfl
theorem root_mid (lo hi : UInt64) (h : lo.toNat + 1 < hi.toNat) (hh : hi.toNat ≤ 171798691840) : ∃ m : UInt64, m.toNat = (lo.toNat + hi.toNat) / 2 ∧ IntKind.u64.wrap ((n64 (lo + hi)).tdiv 2) = n64 m := by
  have e : (lo + hi).toNat = lo.toNat + hi.toNat := by rw [UInt64.toNat_add]; omega
  have e2 : (UInt64.ofNat ((lo.toNat + hi.toNat) / 2)).toNat = (lo.toNat + hi.toNat) / 2 := UInt64.toNat_ofNat_of_lt' (by show _ < 18446744073709551616; omega)
  exact ⟨_, e2, by rw [wrap_u64', Int.tdiv_eq_ediv_of_nonneg (n64_lo _)]; unfold n64; rw [e, e2]; omega⟩
set_option maxRecDepth 100000 in
theorem root_any (p : UInt64) (c : Bool) (hp : p.toNat < 1600) (w : World) :
    Calls Tryd.prog 91 #[.int .u64 (n64 p), .bool c] w fun e w' => ∃ r : Nat, e = .returned (.int .u32 (n32 (UInt32.ofNat r))) ∧ IsRoot p c r ∧ Below w.heap.size w w' := by
  have hlo0 : Hid (belowU 0 p c = true) := Lib.hid (by unfold belowU; cases c <;> simp)
  have hhi0 : Hid (belowU 171798691840 p c = false) := Lib.hid (by
    unfold belowU
    have e : (171798691840 : UInt64).toNat = 171798691840 := rfl
    rw [e]
    cases c
    · simp; omega
    · simp; omega)
  go_enter Tryd.func91, Tryd.ntmps91
  go_wp2
  go_loopw [5, 6] (fun l h wr => ∃ lo hi : UInt64, l = .int .u64 (n64 lo) ∧ h = .int .u64 (n64 hi) ∧ lo.toNat < hi.toNat ∧ hi.toNat ≤ 171798691840 ∧ Hid (belowU lo p c = true) ∧ Hid (belowU hi p c = false) ∧ Below w.heap.size w wr) (fun l h _ => (intOf h).toNat - (intOf l).toNat)
  case atStart => exact ⟨0, 171798691840, rfl, rfl, by decide, by decide, hlo0, hhi0, Below.refl _ _⟩
  case round =>
    obtain ⟨lo, hi, rfl, rfl, hlt, hle, h1, h2, hbel⟩ := hrel
    clear hlo0 hhi0
    have es : n64 (hi - lo) = (hi.toNat : Int) - lo.toNat := by unfold n64; rw [UInt64.toNat_sub_of_le _ _ (by rw [UInt64.le_iff_toNat_le]; omega)]; omega
    by_cases hg : lo.toNat + 1 < hi.toNat
    · obtain ⟨m, hm, em⟩ := root_mid lo hi hg hle
      have hgt : 1 < n64 (hi - lo) := by omega
      clear es
      go_wp2_with fail
      clear em hgt
      refine (below_any m p c (by omega) wr).mono ?_
      rintro e w1 ⟨rfl, hb1⟩
      have hbel1 := hbel.trans (hb1.mono hbel.size)
      cases hq : belowU m p c with
      | true =>
        have Hq := Lib.hid hq
        clear hq
        go_wp2_with fail
        go_roundw
        case rel => exact ⟨m, hi, rfl, rfl, by omega, hle, Hq, h2, hbel1⟩
        case measure => simp only [intOf, n64]; omega
      | false =>
        have Hq := Lib.hid hq
        clear hq
        go_wp2_with fail
        go_roundw
        case rel => exact ⟨lo, m, rfl, rfl, by omega, by omega, h1, Hq, hbel1⟩
        case measure => simp only [intOf, n64]; omega
    · have hgt : ¬ 1 < n64 (hi - lo) := by omega
      clear es
      go_wp2_with fail
      go_ret
      have ee : n64 lo % 4294967296 = n32 (UInt32.ofNat lo.toNat) := by unfold n64 n32; rw [UInt32.toNat_ofNat']; omega
      refine ⟨lo.toNat, ?_, ⟨of_decide_eq_true h1.out, ?_⟩, hbel⟩
      · rw [← ee]; rfl
      · have := of_decide_eq_false h2.out
        rw [show hi.toNat = lo.toNat + 1 by omega] at this
        omega
theorem root_K (i : Nat) (hi : i < 64) (w : World) : Calls Tryd.prog 91 #[.int .u64 (n64 (primeL.getD i 0)), .bool true] w fun e w' => e = .returned (.int .u32 (n32 (K0.getD i 0))) ∧ Below w.heap.size w w' := by
  refine (root_any _ true ((by decide +kernel : ∀ i, i < 64 → (primeL.getD i 0).toNat < 1600) i hi) w).mono ?_
  rintro e w' ⟨r, rfl, hr, hb⟩
  rw [hr.unique (cubeL_ok i hi), cubeL_K i hi]
  exact ⟨rfl, hb⟩
theorem root_H (i : Nat) (hi : i < 8) (w : World) : Calls Tryd.prog 91 #[.int .u64 (n64 (primeL.getD i 0)), .bool false] w fun e w' => e = .returned (.int .u32 (n32 (H0.list.getD i 0))) ∧ Below w.heap.size w w' := by
  refine (root_any _ false ((by decide +kernel : ∀ i, i < 64 → (primeL.getD i 0).toNat < 1600) i (by omega)) w).mono ?_
  rintro e w' ⟨r, rfl, hr, hb⟩
  rw [hr.unique (squareL_ok i hi), squareL_H i hi]
  exact ⟨rfl, hb⟩
end Go.Proofs.YteonmcconpfkjaaDoor

/- The walks of the reference's primes, New. No condition. -/
namespace Go.Proofs.YteonmcconpfkjaaDoor
open Go.RowKit
/-- the k-th number that is tried -/
def pN (k : Nat) : UInt64 := UInt64.ofNat (k + 2)
theorem pN_val (k : Nat) (h : k ≤ 1000) : n64 (pN k) = (k : Int) + 2 := by
  unfold n64 pN; rw [UInt64.toNat_ofNat_of_lt' (by show _ < 18446744073709551616; omega)]; omega
theorem pN_nz (k : Nat) (h : k ≤ 1000) : pN k ≠ 0 := fun e => by
  have h1 := pN_val k h
  rw [e] at h1
  have h2 : n64 0 = 0 := rfl
  omega
/-- the primes below k + 2 -/
def pl : Nat → List UInt64
  | 0 => []
  | k + 1 => if (pl k).all (fun q => pN k % q != 0) then pl k ++ [pN k] else pl k
theorem pl_mono : ∀ (k d : Nat), (pl k).length ≤ (pl (k + d)).length
  | k, 0 => Nat.le_refl _
  | k, d + 1 => Nat.le_trans (pl_mono k d) (by
      show (pl (k + d)).length ≤ (pl (k + d + 1)).length
      rw [pl]; split
      · simp
      · exact Nat.le_refl _)
theorem pl_succ (k : Nat) : pl (k + 1) = if (pl k).all (fun q => pN k % q != 0) then pl k ++ [pN k] else pl k := rfl
theorem pl_309 : (pl 309).length = 63 := by decide +kernel
theorem pl_310 : pl 310 = primeL := by decide +kernel
theorem pl_lt (k : Nat) (h : k < 310) : (pl k).length < 64 := by
  have := pl_mono k (309 - k)
  rw [show k + (309 - k) = 309 by omega, pl_309] at this; omega
theorem pl_nz : ∀ k, k ≤ 310 → ∀ x ∈ pl k, x ≠ 0
  | 0, _, _, h => by simp [pl] at h
  | k + 1, hk, x, h => by
    rw [pl] at h
    split at h
    · rcases List.mem_append.1 h with h | h
      · exact pl_nz k (by omega) x h
      · rw [List.mem_singleton] at h
        subst h
        exact pN_nz k (by omega)
    · exact pl_nz k (by omega) x h
/-- the inner loop's flag -/
def isP (l : List UInt64) (p : UInt64) : Nat → Bool
  | 0 => true
  | i + 1 => isP l p i && p % l.getD i 0 != 0
theorem isP_all (l : List UInt64) (p : UInt64) : ∀ i, i ≤ l.length → isP l p i = (l.take i).all (fun q => p % q != 0)
  | 0, _ => by simp [isP]
  | i + 1, h => by
    rw [isP, isP_all l p i (by omega), List.take_succ_eq_append_getElem (by omega), List.all_append, List.getD_eq_getElem?_getD, List.getElem?_eq_getElem (by omega)]
    simp
theorem wrap_mod64 (x y : UInt64) : IntKind.u64.wrap ((n64 x).tmod (n64 y)) = n64 (x % y) := by
  rw [wrap_u64', Int.tmod_eq_emod_of_nonneg (n64_lo _)]
  unfold n64
  rw [UInt64.toNat_mod]
  have := Nat.mod_le x.toNat y.toNat
  have := x.toNat_lt
  omega
theorem tmod64 (x y : UInt64) : (n64 x).tmod (n64 y) = n64 (x % y) := by
  rw [Int.tmod_eq_emod_of_nonneg (n64_lo _)]
  unfold n64
  rw [UInt64.toNat_mod]; rfl
theorem n64_bne0 (z : UInt64) : (n64 z != 0) = (z != 0) := by
  by_cases h : z = 0
  · subst h; rfl
  · have : n64 z ≠ 0 := fun e => h (n64_inj (by rw [e]; rfl))
    rw [bne_iff_ne.2 this, bne_iff_ne.2 h]
theorem Reads.own {w : World} {base : Nat} {e : TypeId} {n : Nat} {v : Value} {xs : List Value} (h : w.ownsRow base e 1 v n xs) : ∃ A cap, v = .slice A n cap ∧ n ≤ cap ∧ cap ≤ 9223372036854775807 ∧ Reads w w.heap.size A xs := by
  rcases h.2 with ⟨rfl, h0⟩ | ⟨g, cap, cur, hv, _, _, hnc, hcap, _, _⟩
  · subst h0
    have : xs = [] := List.eq_nil_of_length_eq_zero (by have := h.1; omega)
    subst this
    exact ⟨none, 0, rfl, Nat.le_refl _, by decide, Reads.nil_⟩
  · subst hv
    exact ⟨_, cap, rfl, hnc, hcap, Reads.of_own h⟩
theorem own_none (w : World) (base : Nat) (e : TypeId) : w.ownsRow base e 1 (.slice none 0 0) ([] : List Value).length [] := ⟨rfl, .inl ⟨rfl, rfl⟩⟩
attribute [local go_sem] and64_c wrap_n64 wrap_mod64 wrap_add64 wrap_sub64 n64_lo n64_hi
theorem own_below {w w' : World} {base : Nat} {e : TypeId} {size n : Nat} {v : Value} {xs : List Value} (h : w.ownsRow base e size v n xs) (hb : Below w.heap.size w w') : w'.ownsRow base e size v n xs := by
  refine ⟨h.1, ?_⟩
  rcases h.2 with h0 | ⟨g, cap, cur, hv, hbs, hh, hrest⟩
  · exact .inl h0
  · exact .inr ⟨g, cap, cur, hv, hbs, Blk.below (show Blk w g e cur from hh) hb (Blk.lt (show Blk w g e cur from hh)), hrest⟩
set_option maxRecDepth 100000 in
theorem primes_any (w : World) :
    Calls Tryd.prog 90 #[.int .i64 64] w fun e w' => ∃ v, e = .returned v ∧ w'.ownsRow w.heap.size 41 1 v 64 (primeL.map v64) ∧ Below w.heap.size w w' := by
  obtain ⟨i0, hi, hz0, hz1, hz2⟩ := info_parts (by kernel_rfl : (Tryd.prog.info? 41).map (fun i => (i.zero, i.size, i.bytes)) = some (some (.int .u64 0), 1, 8))
  go_enter Tryd.func90, Tryd.ntmps90
  go_wp2
  go_loopw [3, 4] (fun v p wr => ∃ k : Nat, k ≤ 310 ∧ wr.ownsRow w.heap.size 41 1 v ((pl k).map v64).length ((pl k).map v64) ∧ p = .int .u64 (n64 (pN k)) ∧ Below w.heap.size w wr) (fun _ p _ => 400 - (intOf p).toNat)
  case atStart => exact ⟨0, by omega, own_none _ _ _, rfl, Below.refl _ _⟩
  case round =>
    obtain ⟨k, hk, hown, rfl, hbel⟩ := hrel
    obtain ⟨A, cap, rfl, hc1, hc2, hr⟩ := Reads.own hown
    rw [List.length_map] at *
    by_cases hlt : k < 310
    · have hl := pl_lt k hlt
      have hnz := pl_nz k (by omega)
      have hpl := pl_succ k
      have hall := isP_all (pl k) (pN k) (pl k).length (Nat.le_refl _)
      rw [List.take_length] at hall
      rw [← hall] at hpl
      have hpb := pN_val k (by omega)
      have hpb' := pN_val (k + 1) (by omega)
      have hnx : n64 (pN k) + 1 = n64 (pN (k + 1)) := by rw [hpb, hpb']; omega
      clear hall
      have Hpl := Lib.hid hpl
      have Hpb := Lib.hid (And.intro hpb hpb')
      clear hpl hpb hpb'
      go_wp2_with fail
      go_loopw [5, 6] (fun b iv wr' => ∃ i : Nat, i ≤ (pl k).length ∧ iv = .int .i64 i ∧ b = .bool (isP (pl k) (pN k) i) ∧ wr' = wr) (fun _ iv _ => (pl k).length - (intOf iv).toNat)
      case atStart => exact ⟨0, by omega, rfl, rfl, rfl⟩
      case round =>
        obtain ⟨i, hil, rfl, rfl, rfl⟩ := hrel
        by_cases hi' : i < (pl k).length
        · obtain ⟨g, off, rfl, hg, hc⟩ := hr (by rw [List.length_map]; omega)
          have cq := hc i _ (v64_at (pl k) i hi')
          have hq0 : n64 ((pl k).getD i 0) ≠ 0 := by
            have h9 := hnz ((pl k).getD i 0) (by rw [List.getD_eq_getElem?_getD, List.getElem?_eq_getElem hi']; exact List.getElem_mem _)
            intro e; exact h9 (n64_inj (by rw [e]; rfl))
          have e1 : isP (pl k) (pN k) (i + 1) = (isP (pl k) (pN k) i && (pN k % (pl k).getD i 0 != 0)) := rfl
          have He := Lib.hid e1
          clear e1 hc hnz hown hr
          generalize hqq : (pl k).getD i 0 = q at *
          have Hqq := Lib.hid hqq
          clear hqq
          cases hb : isP (pl k) (pN k) i with
          | true =>
            have Hb := Lib.hid hb
            clear hb
            go_wp2_with fail
            go_roundw
            case rel =>
              refine ⟨i + 1, by omega, by go_num, ?_, by trivial⟩
              rw [He.out, Hb.out, tmod64, n64_bne0, Bool.true_and]
            case measure => simp [intOf]; omega
          | false =>
            have Hb := Lib.hid hb
            clear hb
            go_wp2_with fail
            go_roundw
            case rel => exact ⟨i + 1, by omega, by go_num, by rw [He.out, Hb.out]; rfl, by trivial⟩
            case measure => simp [intOf]; omega
        · have ei : i = (pl k).length := by omega
          subst ei
          have s1 := Lib.hid (show ((pl k).map v64).length + 1 ≤ maxLen by unfold maxLen; simp; omega)
          have s2 := Lib.hid (show (((pl k).map v64).length + 1) * 8 ≤ 140737488355328 by simp; omega)
          have hownA : wr.ownsRow w.heap.size 41 1 (.slice A (pl k).length cap) ((pl k).map v64).length ((pl k).map v64) := by rw [List.length_map]; exact hown
          clear hown
          cases hb : isP (pl k) (pN k) (pl k).length with
          | true =>
            have e2 := Hpl.out
            rw [hb, if_pos rfl] at e2
            have He := Lib.hid e2
            have Hb := Lib.hid hb
            clear hb e2
            go_wp2_with (first
              | (at_builtin; refine wpList_appendR rfl (.tmp 30) (.tmp 32) _ rfl w.heap.size 41 i0 _ 8 Tryd.underlying123 hi hz0 hz1 hz2 rfl _ _ rfl (own_below hownA (below_new1 wr _)) (wr.heap.size + 1) (some ⟨wr.heap.size, 0, none⟩) 1 1 [v64 (pN k)] rfl (show Reads (wr.alloc (Obj.cells #[v64 (pN k)] 41)) (wr.heap.size + 1) (some ⟨wr.heap.size, 0, none⟩) [v64 (pN k)] from Reads.of_blk (Blk.new wr 41 #[v64 (pN k)]) (by omega) 0) rfl (fun u hu => by rw [List.mem_singleton] at hu; subst hu; rfl) s1.out s2.out (Nat.le_trans hbel.size (below_new1 wr _).size) ?_; intro u1 w1 hown1 hg1 hat1; have hb1 := below_own (hbel.trans ((below_new1 wr _).mono hbel.size)) (own_below hownA (below_new1 wr _)) hg1 (Nat.le_trans hbel.size (below_new1 wr _).size)))
            go_roundw
            case rel =>
              refine ⟨k + 1, by omega, ?_, rfl, hb1⟩
              rw [He.out, List.map_append]; exact hown1
            case measure => have := Hpb.out; simp only [intOf]; omega
          | false =>
            have e2 := Hpl.out
            rw [hb, if_neg (by simp)] at e2
            have He := Lib.hid e2
            have Hb := Lib.hid hb
            clear hb e2
            go_wp2_with fail
            go_roundw
            case rel =>
              refine ⟨k + 1, by omega, ?_, rfl, hbel⟩
              rw [He.out]; exact hownA
            case measure => have := Hpb.out; simp only [intOf]; omega
    · have ek : k = 310 := by omega
      subst ek
      rw [pl_310] at *
      have hpl : primeL.length = 64 := rfl
      rw [hpl] at *
      clear hpl
      go_wp2
      go_ret
      exact ⟨_, rfl, hown, hbel⟩
theorem arr_table : (List.replicate 72 (Value.int .u32 0)).toArray = (((List.replicate 64 (0 : UInt32)) ++ (List.replicate 8 (0 : UInt32))).map v32).toArray := by rfl
end Go.Proofs.YteonmcconpfkjaaDoor

/- Lists of short texts. No condition. -/
namespace Go.Proofs.YteonmcconpfkjaaDoor
open Go Go.RowKit
attribute [local go_sem] n8_lo n8_hi n64_lo n64_hi n32_lo n32_hi
def elemL (c : UInt8) (i : Nat) : List UInt8 := [c, UInt8.ofNat i, UInt8.ofNat (i / 256)]
def listL (n : Nat) (c : UInt8) : List (List UInt8) := (List.range n).map (elemL c)
theorem listL_length (n : Nat) (c : UInt8) : (listL n c).length = n := by simp [listL]
theorem listL_at (n : Nat) (c : UInt8) (i : Nat) (h : i < n) : (listL n c).getD i [] = elemL c i := by
  unfold listL; rw [List.getD_eq_getElem?_getD, List.getElem?_map, List.getElem?_range h]; rfl
theorem listL_mem {n : Nat} {c : UInt8} {b : List UInt8} (h : b ∈ listL n c) : b.length = 3 := by
  unfold listL at h
  obtain ⟨i, _, rfl⟩ := List.mem_map.1 h; rfl
theorem byte_nat (k : Nat) : (k : Int) % 256 = n8 (UInt8.ofNat k) := by
  unfold n8; rw [UInt8.toNat_ofNat']; omega
/-- u is a slice that reads some bytes, all of a block -/
def Whole (w : World) (u : Value) (b : List UInt8) : Prop := ∃ g, u = .slice (some ⟨g, 0, none⟩) b.length b.length ∧ Blk w g 5 (b.map v8).toArray
theorem Whole.below {w w' : World} {u : Value} {b : List UInt8} (h : Whole w u b) (hb : Below w.heap.size w w') : Whole w' u b := by
  obtain ⟨g, e, h⟩ := h; exact ⟨g, e, h.below hb h.lt⟩
theorem Whole.grown {w w' : World} {u v : Value} {b : List UInt8} {base n : Nat} {xs : List Value} (h : Whole w u b) (hown : w.ownsRow base 22 1 v n xs) (hg : w.grownBy w' v.ownBlock) : Whole w' u b := by
  obtain ⟨g, e, h⟩ := h
  refine ⟨g, e, h.grown hg (fun e2 => ?_)⟩
  rcases hown.2 with ⟨rfl, _⟩ | ⟨g', cap, cur, rfl, _, hb, _⟩
  · cases e2
  · have e3 : g = g' := by injection e2
    subst e3
    unfold Blk at h
    rw [h] at hb
    injection hb with hb
    injection hb with _ hb
    exact absurd hb (by decide)
theorem Whole.bsl {w : World} {u : Value} {b : List UInt8} (h : Whole w u b) (hl : b.length ≤ 9223372036854775807) : BSl w w.heap.size u b := by
  obtain ⟨g, rfl, h⟩ := h
  refine ⟨_, _, rfl, Nat.le_refl _, hl, ?_⟩
  have := Reads.of_blk h h.lt 0
  simpa using this
theorem SSl.of_own {w : World} {base : Nat} {e : TypeId} {v : Value} {vs : List Value} {ls : List (List UInt8)} (h : w.ownsRow base e 1 v vs.length vs) (hl : vs.length = ls.length) (hel : ∀ i, i < ls.length → BSl w w.heap.size (vs.getD i undef) (ls.getD i [])) : SSl w w.heap.size v ls := by
  obtain ⟨A, cap, hv, h1, h2, hr⟩ := Reads.own h
  exact ⟨A, cap, vs, by rw [hv, hl], by omega, h2, hr, hl, hel⟩
end Go.Proofs.YteonmcconpfkjaaDoor

/- The walk of the reference's New. No condition. -/
namespace Go.Proofs.YteonmcconpfkjaaDoor
open Go.RowKit
/-- the table: K, then H -/
def tabL : List UInt32 := K0 ++ H0.list
/-- the table while it is filled -/
def tabK (k : Nat) : List UInt32 := K0.take k ++ List.replicate (72 - k) 0
def tabH (k : Nat) : List UInt32 := K0 ++ (H0.list.take k ++ List.replicate (8 - k) 0)
theorem tabK_len : ∀ k, k ≤ 64 → (tabK k).length = 72 := by decide +kernel
theorem tabK_set : ∀ k, k < 64 → (tabK k).set k (K0.getD k 0) = tabK (k + 1) := by decide +kernel
theorem tabH_len : ∀ k, k ≤ 8 → (tabH k).length = 72 := by decide +kernel
theorem tabH_set : ∀ k, k < 8 → (tabH k).set (64 + k) (H0.list.getD k 0) = tabH (k + 1) := by decide +kernel
theorem tabK_64 : tabK 64 = tabH 0 := by decide +kernel
theorem tabH_8 : tabH 8 = tabL := by decide +kernel
/-- v points at the table -/
def Tbl (w : World) (B : Nat) (v : Value) : Prop := ∃ g, v = .pointer (some ⟨g, 0, none⟩) ∧ g < B ∧ Blk w g 158 (tabL.map v32).toArray
set_option maxRecDepth 100000 in
theorem new_at (w : World) : Calls Tryd.prog 20 #[] w fun e w' => e = .returned (.pointer (some ⟨w.heap.size, 0, none⟩)) ∧ Blk w' w.heap.size 158 (tabL.map v32).toArray ∧ Below w.heap.size w w' := by
  go_enter Tryd.func20, Tryd.ntmps20
  have hzv : ∀ w, (zeroValue 158).run Tryd.prog w = .ok (.agg (((tabK 0).map v32).toArray)) w := fun _ => by kernel_rfl
  go_wp2_with fail
  refine (primes_any _).mono ?_
  rintro e w1 ⟨v1, rfl, hown, hb1⟩
  have hT := (Blk.new w 158 ((tabK 0).map v32).toArray).below hb1 (Blk.new w 158 ((tabK 0).map v32).toArray).lt
  have hbel := (below_new1 w (Obj.cells ((tabK 0).map v32).toArray 158)).trans (hb1.mono (below_new1 w _).size)
  obtain ⟨A, cap, rfl, hc1, hc2, hr⟩ := Reads.own hown
  obtain ⟨bb, off, rfl, hbb, hcb⟩ := hr (by decide)
  have hne : w.heap.size < bb := by
    have := own_ge hown bb rfl
    have h2 : (w.alloc (Obj.cells ((tabK 0).map v32).toArray 158)).heap.size = w.heap.size + 1 := by simp
    omega
  have hcb1 : ∀ j, j < 64 → w1.cell? ⟨bb, off + j, none⟩ = some (.int .u64 (n64 (primeL.getD j 0))) := fun j hj => hcb j _ (v64_at primeL j hj)
  clear hr hcb hown hb1 hzv
  go_wp2_with fail
  go_loopw [3] (fun iv wr => ∃ k : Nat, k ≤ 64 ∧ iv = .int .i64 k ∧ Blk wr w.heap.size 158 ((tabK k).map v32).toArray ∧ (∀ j, j < 64 → wr.cell? ⟨bb, off + j, none⟩ = some (.int .u64 (n64 (primeL.getD j 0)))) ∧ bb < wr.heap.size ∧ Below w.heap.size w wr) (fun iv _ => 64 - (intOf iv).toNat)
  case atStart => exact ⟨0, by omega, rfl, hT, hcb1, hbb, hbel⟩
  case round =>
    clear hT hcb1 hbb hbel
    obtain ⟨k, hk, rfl, hT, hcb, hbb, hbel⟩ := hrel
    by_cases hlt : k < 64
    · have cp : ∀ e, (plus wr e).cell? ⟨bb, off + k, none⟩ = some (.int .u64 (n64 (primeL.getD k 0))) := fun e => ((plus_below wr e).cell (p := ⟨bb, _, none⟩) hbb).trans (hcb k hlt)
      have hroot := root_K k hlt
      have hset := tabK_set k hlt
      have hlen := tabK_len k hk
      generalize primeL.getD k 0 = p at cp hroot
      generalize K0.getD k 0 = kv at hroot hset
      have Hset := Lib.hid hset
      clear hset
      go_wp2_with fail
      refine wp_region_quiet_tail_plus 10 (by kernel_rfl) (by kernel_rfl) ?_
      simp only [List.take_succ_cons, List.take_zero, List.drop_succ_cons, List.drop_zero]
      repeat (go_big_quiet_step ((go_at_call 91; exact calls_plus (hroot _))))
      refine wpQuiet_nil ?_
      rintro _ ⟨e5, rfl⟩
      have hT5 := hT.plus e5
      have hbel5 := hbel.trans ((plus_below wr e5).mono hbel.size)
      have hbb5 : bb < (plus wr e5).heap.size := Nat.lt_of_lt_of_le hbb (plus_below wr e5).size
      have hcb5 : ∀ j, j < 64 → (plus wr e5).cell? ⟨bb, off + j, none⟩ = some (.int .u64 (n64 (primeL.getD j 0))) := fun j hj => ((plus_below wr e5).cell (p := ⟨bb, _, none⟩) hbb).trans (hcb j hj)
      clear cp hcb hT hbel hbb hroot
      generalize plus wr e5 = w5 at hT5 hbel5 hbb5 hcb5 ⊢
      go_wp2_with (first
        | (refine wpList_store1 rfl rfl 40 (.tmp 21) (.tmp 18) rfl w.heap.size k rfl (v32 kv) rfl _ _ hT5 (by kernel_rfl) (by simp; omega) rfl rfl ?_; intro w6 hT6 hon6))
      have hbel6 := below_only hbel5 hon6 (Nat.le_refl _) hbel5.size
      have hbb6 : bb < w6.heap.size := Nat.lt_of_lt_of_le hbb5 hon6.size
      have hcb6 : ∀ j, j < 64 → w6.cell? ⟨bb, off + j, none⟩ = some (.int .u64 (n64 (primeL.getD j 0))) := fun j hj => hon6.cell (hcb5 j hj) (by simp; omega)
      clear hcb5
      go_roundw
      case rel =>
        refine ⟨k + 1, by omega, by go_num, ?_, hcb6, hbb6, hbel6⟩
        rw [← Hset.out, List.map_set]
        rw [List.setIfInBounds_toArray] at hT6
        exact hT6
      case measure => simp [intOf]; omega
    · have ek : k = 64 := by omega
      subst ek
      rw [tabK_64] at hT
      go_wp2_with fail
      go_loopw [4] (fun iv wr => ∃ k : Nat, k ≤ 8 ∧ iv = .int .i64 k ∧ Blk wr w.heap.size 158 ((tabH k).map v32).toArray ∧ (∀ j, j < 64 → wr.cell? ⟨bb, off + j, none⟩ = some (.int .u64 (n64 (primeL.getD j 0)))) ∧ bb < wr.heap.size ∧ Below w.heap.size w wr) (fun iv _ => 8 - (intOf iv).toNat)
      case atStart => exact ⟨0, by omega, rfl, hT, hcb, hbb, hbel⟩
      case round =>
        clear hT hcb hbb hbel
        obtain ⟨k, hk, rfl, hT, hcb, hbb, hbel⟩ := hrel
        by_cases hlt : k < 8
        · have cp : ∀ e, (plus wr e).cell? ⟨bb, off + k, none⟩ = some (.int .u64 (n64 (primeL.getD k 0))) := fun e => ((plus_below wr e).cell (p := ⟨bb, _, none⟩) hbb).trans (hcb k (by omega))
          have hroot := root_H k hlt
          have hset := tabH_set k hlt
          have hlen := tabH_len k hk
          generalize primeL.getD k 0 = p at cp hroot
          generalize H0.list.getD k 0 = kv at hroot hset
          have Hset := Lib.hid hset
          clear hset
          go_wp2_with fail
          refine wp_region_quiet_tail_plus 10 (by kernel_rfl) (by kernel_rfl) ?_
          simp only [List.take_succ_cons, List.take_zero, List.drop_succ_cons, List.drop_zero]
          repeat (go_big_quiet_step ((go_at_call 91; exact calls_plus (hroot _))))
          refine wpQuiet_nil ?_
          rintro _ ⟨e5, rfl⟩
          have hT5 := hT.plus e5
          have hbel5 := hbel.trans ((plus_below wr e5).mono hbel.size)
          have hbb5 : bb < (plus wr e5).heap.size := Nat.lt_of_lt_of_le hbb (plus_below wr e5).size
          have hcb5 : ∀ j, j < 64 → (plus wr e5).cell? ⟨bb, off + j, none⟩ = some (.int .u64 (n64 (primeL.getD j 0))) := fun j hj => ((plus_below wr e5).cell (p := ⟨bb, _, none⟩) hbb).trans (hcb j hj)
          clear cp hcb hT hbel hbb hroot
          generalize plus wr e5 = w5 at hT5 hbel5 hbb5 hcb5 ⊢
          go_wp2_with (first
            | (refine wpList_store1 rfl rfl 40 (.tmp 35) (.tmp 32) rfl w.heap.size (64 + k) rfl (v32 kv) rfl _ _ hT5 (by kernel_rfl) (by simp; omega) rfl rfl ?_; intro w6 hT6 hon6))
          have hbel6 := below_only hbel5 hon6 (Nat.le_refl _) hbel5.size
          have hbb6 : bb < w6.heap.size := Nat.lt_of_lt_of_le hbb5 hon6.size
          have hcb6 : ∀ j, j < 64 → w6.cell? ⟨bb, off + j, none⟩ = some (.int .u64 (n64 (primeL.getD j 0))) := fun j hj => hon6.cell (hcb5 j hj) (by simp; omega)
          clear hcb5
          go_roundw
          case rel =>
            refine ⟨k + 1, by omega, by go_num, ?_, hcb6, hbb6, hbel6⟩
            rw [← Hset.out, List.map_set]
            rw [List.setIfInBounds_toArray] at hT6
            exact hT6
          case measure => simp [intOf]; omega
        · have ek : k = 8 := by omega
          subst ek
          rw [tabH_8] at hT
          go_wp2_with fail
          go_ret
          exact ⟨rfl, hT, hbel⟩
theorem new_any (w : World) : Calls Tryd.prog 20 #[] w fun e w' => ∃ v, e = .returned v ∧ Tbl w' w'.heap.size v ∧ Below w.heap.size w w' :=
  (new_at w).mono fun _ _ ⟨h1, h2, h3⟩ => ⟨_, h1, ⟨_, rfl, h2.lt, h2⟩, h3⟩
end Go.Proofs.YteonmcconpfkjaaDoor
