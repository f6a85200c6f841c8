/- Texts that stand behind one another: ShaE, Within, ShaF, Str, StrEq. No condition. -/
import Derived.Test.YteonmcconpfkjaaDoorP3
import Derived.Deep.DeepCutAuto
import Derived.Test.YteonmcconpfkjaaDoorP1
import Derived.Test.YteonmcconpfkjaaDoorChecked
import Derived.WalkKit
import Derived.Lib.Hide
import Derived.Lib.SlBytesConst
import Derived.Laws.BytesArg
import Derived.Laws.StructEq
/- The walk of sha's Mac. No condition. -/
namespace Go.Proofs.YteonmcconpfkjaaDoor
open Go.RowKit
attribute [local go_sem] n8_lo n8_hi xor8_54 xor8_92
/-- a key of more than 64 bytes is hashed -/
def keyL (key : List UInt8) : List UInt8 := if 64 < key.length then sha key else key
def keyX (key : List UInt8) (c : UInt8) : List UInt8 := (List.range 64).map fun p => (keyL key).getD p 0 ^^^ c
/-- a text's tag by a key -/
def mac (key b : List UInt8) : List UInt8 := sha (keyX key 92 ++ sha (keyX key 54 ++ b))
theorem keyX_length (key : List UInt8) (c : UInt8) : (keyX key c).length = 64 := by simp [keyX]
def xorB (key : List UInt8) (c : UInt8) (k p : Nat) : UInt8 := if p < k then (keyL key).getD p 0 ^^^ c else (keyL key).getD p 0
theorem xorB_step (key : List UInt8) (c : UInt8) (k : Nat) : (fun p => if p = k then (keyL key).getD k 0 ^^^ c else xorB key c k p) = xorB key c (k + 1) := by
  funext p
  unfold xorB
  by_cases h : p = k
  · rw [if_pos h, if_pos (show p < k + 1 by omega), h]
  · rw [if_neg h]
    by_cases h1 : p < k
    · rw [if_pos h1, if_pos (show p < k + 1 by omega)]
    · rw [if_neg h1, if_neg (show ¬ p < k + 1 by omega)]
theorem xorB_at (key : List UInt8) (c : UInt8) (k : Nat) : xorB key c k k = (keyL key).getD k 0 := by unfold xorB; rw [if_neg (Nat.lt_irrefl _)]
theorem xorB_all (key : List UInt8) (c : UInt8) : ∀ p, p < 64 → xorB key c 64 p = (keyX key c).getD p 0 := by
  intro p hp
  unfold xorB keyX
  rw [if_pos hp]; simp [hp]
theorem xorB_0 (key : List UInt8) (c : UInt8) (n : Nat) (h : (keyL key).length ≤ n) : arr n (fun p => if 0 ≤ p ∧ p < 0 + Nat.min (keyL key).length n then (keyL key).getD (p - 0) 0 else 0) = arr n (xorB key c 0) := by
  apply arr_congr
  intro p hp
  unfold xorB
  rw [if_neg (show ¬ p < 0 by omega), show Nat.min (keyL key).length n = (keyL key).length from by show min _ _ = _; omega]
  by_cases h1 : p < (keyL key).length
  · rw [if_pos (show 0 ≤ p ∧ p < 0 + (keyL key).length by omega)]; rfl
  · rw [if_neg (show ¬ (0 ≤ p ∧ p < 0 + (keyL key).length) by omega), List.getD_eq_getElem?_getD, List.getElem?_eq_none (by omega)]; rfl
theorem keyL_length (key : List UInt8) : (keyL key).length ≤ 64 := by
  unfold keyL; split
  · rw [sha_length]; omega
  · omega
theorem mac_length (key b : List UInt8) : (mac key b).length = 32 := sha_length _
set_option maxRecDepth 100000 in
theorem mac_any (u v : Value) (key b : List UInt8) (w : World) (hk : BSl w w.heap.size u key) (hb : BSl w w.heap.size v b) (hkl : key.length ≤ 140737488355264) (hbl : b.length ≤ 140737488355264) (hG : Glob w) :
    Calls Tryd.prog 143 #[u, v] w fun e w' => e = .returned (.agg (dat (mac key b))) ∧ Below w.heap.size w w' := by
  obtain ⟨A, cap, rfl, hc1, hc2, hr⟩ := hk
  obtain ⟨Ab, capb, rfl, hcb1, hcb2, hrb⟩ := hb
  have hb : BSl w w.heap.size (.slice Ab b.length capb) b := ⟨Ab, capb, rfl, hcb1, hcb2, hrb⟩
  clear hcb1 hcb2 hrb
  go_enter Tryd.func143, Tryd.ntmps143
  go_upto_if 12 with fail
  refine wp_at (fun W => Blk W w.heap.size 43 (arr 32 fun _ => 0) ∧ Blk W (w.heap.size + 1) 251 (arr 64 fun _ => 0) ∧ Blk W (w.heap.size + 2) 251 (arr 64 fun _ => 0) ∧ Below w.heap.size w W)
    ⟨((Blk.new w _ _).alloc _).alloc _, (Blk.new2 _ _ _ _).alloc _, Blk.new3 _ _ _ _ _, below_new3 _ _ _ _⟩ ?_
  intro W ⟨hR, hI, hO, hbel⟩
  go_cut [0] (fun s0 wx => (∃ A0 cap0, s0 = .slice A0 (keyL key).length cap0 ∧ (keyL key).length ≤ cap0 ∧ cap0 ≤ 9223372036854775807 ∧ Reads wx wx.heap.size A0 ((keyL key).map v8) ∧ ∀ g off, A0 = some ⟨g, off, none⟩ → (keyL key).length ≠ 0 → g < w.heap.size ∨ w.heap.size + 2 < g) ∧ Blk wx w.heap.size 43 (arr 32 fun _ => 0) ∧ Blk wx (w.heap.size + 1) 251 (arr 64 fun _ => 0) ∧ Blk wx (w.heap.size + 2) 251 (arr 64 fun _ => 0) ∧ Below w.heap.size w wx)
  case first =>
    have hkW : BSl W W.heap.size (.slice A key.length cap) key := BSl.next ⟨A, cap, rfl, hc1, hc2, hr⟩ hbel
    by_cases h64 : 64 < key.length
    · have hkey : keyL key = sha key := if_pos h64
      go_wp2_with fail
      refine (sum_b _ key W hkW (by omega) (hG.next hbel)).mono ?_
      rintro e w1 ⟨rfl, hb1⟩
      have hR1 := hR.below hb1 hR.lt
      have hI1 := hI.below hb1 hI.lt
      have hO1 := hO.below hb1 hO.lt
      have hl1 := hb1.size
      have hl0 := hO.lt
      have hbel1 := hbel.trans (hb1.mono hbel.size)
      have hD := Blk.new w1 43 (arr 32 fun _ => 0)
      have hR2 := hR1.alloc (Obj.cells (arr 32 fun _ => 0) 43)
      have hI2 := hI1.alloc (Obj.cells (arr 32 fun _ => 0) 43)
      have hO2 := hO1.alloc (Obj.cells (arr 32 fun _ => 0) 43)
      have hbel2 := hbel1.alloc hbel1.size (Obj.cells (arr 32 fun _ => 0) 43)
      go_wp2_with (first
        | (refine wpList_storeArr rfl rfl 43 (.tmp 7) (.tmp 14) rfl w1.heap.size rfl 32 (fun p => (sha key).getD p 0) _ rfl _ hD (by kernel_rfl) ?_; intro w3 hD3 hon3))
      go_meet
      have hon3' : (w1.alloc (Obj.cells (arr 32 fun _ => 0) 43)).grownBy w3 (some w1.heap.size) := hon3
      rw [hkey]
      obtain ⟨A4, cap4, e4, h41, h42, h43⟩ := BSl.of_arr hD3 _ hD3.lt _ (sha_length key) (fun _ _ => rfl) (by decide)
      have e5 : (sha key).length = 32 := sha_length key
      refine ⟨⟨A4, cap4, by rw [← e4], h41, h42, h43, fun g off hg _ => ?_⟩, hR2.grown hon3' (by simp; omega), hI2.grown hon3' (by simp; omega), hO2.grown hon3' (by simp; omega), below_only hbel2 hon3' (by omega) hbel2.size⟩
      right
      injection e4 with e6
      rw [hg] at e6
      injection e6 with e6
      injection e6 with e6
      omega
    · have hkey : keyL key = key := if_neg h64
      go_wp2_with fail
      go_meet
      rw [hkey]
      refine ⟨⟨A, cap, rfl, hc1, hc2, (hr.below hbel).more hbel.size, fun g off hg hne => ?_⟩, hR, hI, hO, hbel⟩
      obtain ⟨b0, o0, e0, hb0, _⟩ := hr (by rw [List.length_map]; omega)
      rw [hg] at e0
      injection e0 with e0
      injection e0 with e0
      left; omega
  case rest =>
    clear hR hI hO hbel
    obtain ⟨⟨A0, cap0, rfl, hc01, hc02, hr0, hap⟩, hR, hI, hO, hbel⟩ := hcut
    have hkl64 := keyL_length key
    have hlO := hO.lt
    have ec := copied_arr 64 (fun _ => 0) 0 (keyL key) 64 (by show 0 + min (keyL key).length 64 ≤ 64; omega)
    have hfit : 0 + Nat.min (keyL key).length 64 ≤ (arr 64 (fun _ => (0 : UInt8))).size := by rw [arr_size]; show 0 + min (keyL key).length 64 ≤ 64; omega
    have Hec := Lib.hid ec
    have Hap := Lib.hid hap
    have Hfit := Lib.hid hfit
    clear ec hap hfit
    have hr1 : ∀ w2, wc.grownBy w2 (some (w.heap.size + 1)) → Reads w2 wc.heap.size A0 ((keyL key).map v8) := by
      intro w2 h2
      by_cases h0 : (keyL key).length = 0
      · have := List.eq_nil_of_length_eq_zero h0
        rw [this]; exact Reads.nil_
      · exact hr0.grown' h2 (Nat.le_refl _) (fun b off hb => by have := Hap.out b off hb h0; omega)
    have Hr1 := Lib.hid hr1
    clear hr1
    go_wp2_with (first
      | (refine wpList_copyR rfl (.tmp 16) (.tmp 17) _ _ rfl 5 Tryd.underlying22 (by kernel_rfl) (w.heap.size + 1) 0 64 64 A0 _ cap0 rfl rfl _ _ hI _ _ hr0 (by rw [List.length_map]) Hfit.out (oneCell_v8 _) ?_; intro w2 hI2 hon2)
      | (refine wpList_copyR rfl (.tmp 19) (.tmp 20) _ _ rfl 5 Tryd.underlying22 (by kernel_rfl) (w.heap.size + 2) 0 64 64 A0 _ cap0 rfl rfl _ _ (hO.grown hon2 (by simp)) _ _ (Hr1.out _ hon2) (by rw [List.length_map]) Hfit.out (oneCell_v8 _) ?_; intro w3 hO3 hon3))
    rw [Hec.out, xorB_0 key 54 64 hkl64] at hI2
    rw [Hec.out, xorB_0 key 92 64 hkl64] at hO3
    have hl2 := hon2.size
    have hI3 := hI2.grown hon3 (by simp)
    have hR3 := (hR.grown hon2 (by simp)).grown hon3 (by simp)
    have hbel3 := below_only (below_only hbel hon2 (by omega) hbel.size) hon3 (by omega) (Nat.le_trans hbel.size hl2)
    clear hR hI hO hbel hI2 hon2 hon3 hl2 Hap Hec Hr1 Hfit
    go_loopw [8, 22] (fun _ i wr => ∃ k : Nat, k ≤ 64 ∧ i = .int .i64 k ∧ Blk wr (w.heap.size + 1) 251 (arr 64 (xorB key 54 k)) ∧ Blk wr (w.heap.size + 2) 251 (arr 64 (xorB key 92 k)) ∧ Blk wr w.heap.size 43 (arr 32 fun _ => 0) ∧ Below w.heap.size w wr) (fun _ i _ => 64 - (intOf i).toNat)
    case atStart => exact ⟨0, by omega, rfl, hI3, hO3, hR3, hbel3⟩
    case round =>
      clear hI3 hO3 hR3 hbel3 hlO
      obtain ⟨k, hk, rfl, hI, hO, hR, hbel⟩ := hrel
      by_cases hlt : k < 64
      · have cI := hI.cell k
        rw [arr_at _ _ _ hlt, xorB_at] at cI
        have cO := hO.cell k
        rw [arr_at _ _ _ hlt, xorB_at] at cO
        have fI := hI.frozen k
        have fO := hO.frozen k
        go_wp2
        go_roundw
        case rel =>
          have s1 := hI.set k (v8 ((keyL key).getD k 0 ^^^ 54))
          rw [arr_set, xorB_step] at s1
          have s2 := (hO.far (p := ⟨w.heap.size + 1, k, none⟩) (by show _ ≠ w.heap.size + 1; omega) (v8 ((keyL key).getD k 0 ^^^ 54))).set k (v8 ((keyL key).getD k 0 ^^^ 92))
          rw [arr_set, xorB_step] at s2
          exact ⟨k + 1, by omega, by go_num, s1.far (p := ⟨w.heap.size + 2, k, none⟩) (by show _ ≠ w.heap.size + 2; omega) _, s2,
            (hR.far (p := ⟨w.heap.size + 1, k, none⟩) (by show _ ≠ w.heap.size + 1; omega) _).far (p := ⟨w.heap.size + 2, k, none⟩) (by show _ ≠ w.heap.size + 2; omega) _,
            below_far (p := ⟨w.heap.size + 2, k, none⟩) (below_far (p := ⟨w.heap.size + 1, k, none⟩) hbel (by show _ ≤ w.heap.size + 1; omega) _) (by show _ ≤ w.heap.size + 2; omega) _⟩
        case measure => simp [intOf]; omega
      · have ek : k = 64 := by omega
        rw [ek] at hI hO
        clear ek
        have hlO := hO.lt
        go_wp2_with fail
        have hX := Blk.new wr 22 #[.slice (some ⟨w.heap.size + 1, 0, none⟩) 64 64, .slice Ab b.length capb]
        have hI1 := hI.alloc (Obj.cells #[.slice (some ⟨w.heap.size + 1, 0, none⟩) 64 64, .slice Ab b.length capb] 22)
        have hO1 := hO.alloc (Obj.cells #[.slice (some ⟨w.heap.size + 1, 0, none⟩) 64 64, .slice Ab b.length capb] 22)
        have hR1 := hR.alloc (Obj.cells #[.slice (some ⟨w.heap.size + 1, 0, none⟩) 64 64, .slice Ab b.length capb] 22)
        have hbel1 := hbel.alloc hbel.size (Obj.cells #[.slice (some ⟨w.heap.size + 1, 0, none⟩) 64 64, .slice Ab b.length capb] 22)
        generalize wr.alloc (Obj.cells #[.slice (some ⟨w.heap.size + 1, 0, none⟩) 64 64, .slice Ab b.length capb] 22) = w4 at hX hI1 hO1 hR1 hbel1 ⊢
        have hl4 := hX.lt
        have hS4 : SSl w4 w4.heap.size (.slice (some ⟨wr.heap.size, 0, none⟩) 2 2) [keyX key 54, b] :=
          SSl.two hX _ hX.lt (BSl.of_arr hI1 _ hI1.lt _ (keyX_length _ _) (xorB_all key 54) (by decide)) (hb.next hbel1)
        refine (join_any _ _ _ hS4 (by simp [keyX_length]; omega)).mono ?_
        rintro e w5 ⟨v5, rfl, hown5, hb5⟩
        have hB5 := BSl.of_own hown5
        have hI5 := hI1.below hb5 hI1.lt
        have hO5 := hO1.below hb5 hO1.lt
        have hR5 := hR1.below hb5 hR1.lt
        have hbel5 := hbel1.trans (hb5.mono hbel1.size)
        have hl5 := hb5.size
        clear hI1 hO1 hR1 hbel1 hown5
        go_wp2_with fail
        refine (sum_b _ _ _ hB5 (by simp [keyX_length]; omega) (hG.next hbel5)).mono ?_
        rintro e w6 ⟨rfl, hb6⟩
        have hO6 := hO5.below hb6 hO5.lt
        have hR6 := hR5.below hb6 hR5.lt
        have hbel6 := hbel5.trans (hb6.mono hbel5.size)
        have hl6 := hb6.size
        have hD := Blk.new w6 43 (arr 32 fun _ => 0)
        have hO7 := hO6.alloc (Obj.cells (arr 32 fun _ => 0) 43)
        have hR7 := hR6.alloc (Obj.cells (arr 32 fun _ => 0) 43)
        have hbel7 := hbel6.alloc hbel6.size (Obj.cells (arr 32 fun _ => 0) 43)
        clear hI5 hO5 hR5 hbel5 hO6 hR6 hbel6
        go_wp2_with (first
          | (refine wpList_storeDat rfl rfl 43 (.tmp 9) (.tmp 40) rfl w6.heap.size rfl _ _ rfl _ hD (by kernel_rfl) ?_; intro w8 hD8 hon8))
        have hon8' : (w6.alloc (Obj.cells (arr 32 fun _ => 0) 43)).grownBy w8 (some w6.heap.size) := hon8
        have hO8 := hO7.grown hon8' (by simp; omega)
        have hR8 := hR7.grown hon8' (by simp; omega)
        have hbel8 := below_only hbel7 hon8' (by omega) hbel7.size
        clear hon8 hO7 hR7 hbel7 hD
        refine wp_region_quiet_tail 2 (fun W' => ∃ n, W' = w8.drewN n) (by kernel_rfl) (by kernel_rfl) ⟨1, rfl⟩ ?_
        simp only [List.take_succ_cons, List.take_zero, List.drop_succ_cons, List.drop_zero]
        repeat (go_big_quiet_step (fail))
        refine wpQuiet_nil ?_
        intro W' hW'
        obtain ⟨nq, rfl⟩ := hW'
        have hD9 := hD8.drewN nq
        have hO9 := hO8.drewN nq
        have hR9 := hR8.drewN nq
        have hbel9 := below_drewN hbel8 nq
        generalize w8.drewN nq = w9 at hD9 hO9 hR9 hbel9 ⊢
        clear hD8 hO8 hR8 hbel8
        go_wp2_with fail
        have hX := Blk.new w9 22 #[.slice (some ⟨w.heap.size + 2, 0, none⟩) 64 64, .slice (some ⟨w6.heap.size, 0, none⟩) 32 32]
        have hD1 := hD9.alloc (Obj.cells #[.slice (some ⟨w.heap.size + 2, 0, none⟩) 64 64, .slice (some ⟨w6.heap.size, 0, none⟩) 32 32] 22)
        have hO1 := hO9.alloc (Obj.cells #[.slice (some ⟨w.heap.size + 2, 0, none⟩) 64 64, .slice (some ⟨w6.heap.size, 0, none⟩) 32 32] 22)
        have hR1 := hR9.alloc (Obj.cells #[.slice (some ⟨w.heap.size + 2, 0, none⟩) 64 64, .slice (some ⟨w6.heap.size, 0, none⟩) 32 32] 22)
        have hbel1 := hbel9.alloc hbel9.size (Obj.cells #[.slice (some ⟨w.heap.size + 2, 0, none⟩) 64 64, .slice (some ⟨w6.heap.size, 0, none⟩) 32 32] 22)
        have hS4 : SSl (w9.alloc (Obj.cells #[.slice (some ⟨w.heap.size + 2, 0, none⟩) 64 64, .slice (some ⟨w6.heap.size, 0, none⟩) 32 32] 22)) _ (.slice (some ⟨w9.heap.size, 0, none⟩) 2 2) [keyX key 92, sha (keyX key 54 ++ b)] :=
          SSl.two hX _ hX.lt (BSl.of_arr hO1 _ hO1.lt _ (keyX_length _ _) (xorB_all key 92) (by decide)) (BSl.of_dat hD1 _ hD1.lt (sha_length _))
        have hfl : ([keyX key 92, sha (keyX key 54 ++ b)].flatten).length = 96 := by
          generalize hq : sha (keyX key 54 ++ b) = q
          have hq2 : q.length = 32 := by rw [← hq]; exact sha_length _
          simp [keyX_length, hq2]
        have Hfl := Lib.hid hfl
        clear hfl
        refine (join_any _ _ _ hS4 (by rw [Hfl.out]; omega)).mono ?_
        rintro e w10 ⟨v10, rfl, hown10, hb10⟩
        have hB10 := BSl.of_own hown10
        have hR10 := hR1.below hb10 hR1.lt
        have hbel10 := hbel1.trans (hb10.mono hbel1.size)
        have hl10 := hb10.size
        clear hown10 hD1 hO1 hR1 hbel1
        go_wp2_with fail
        refine (sum_b _ _ _ hB10 (by rw [Hfl.out]; omega) (hG.next hbel10)).mono ?_
        rintro e w11 ⟨rfl, hb11⟩
        have hR11 := hR10.below hb11 hR10.lt
        have hbel11 := hbel10.trans (hb11.mono hbel10.size)
        go_wp2_with (first
          | (refine wpList_storeDat rfl rfl 43 (.tmp 4) (.tmp 45) rfl w.heap.size rfl _ _ rfl _ hR11 (by kernel_rfl) ?_; intro w12 hR12 hon12))
        have hb12 := below_only hbel11 hon12 (Nat.le_refl _) hbel11.size
        refine bodyPost_ret (results_cell_row (p := 4) (ty := 43) rfl _ _ w.heap.size _ _ _ _ rfl hR12 Tryd.underlying43 rfl (by kernel_rfl)) rfl ⟨?_, hb12⟩
        simp [mac]
end Go.Proofs.YteonmcconpfkjaaDoor

/- The walk of deponentbook's Within. No condition. -/
namespace Go.Proofs.YteonmcconpfkjaaDoor
open Go.RowKit
def withinI (x lo hi : Int) : Int := if x.tmod (hi - lo + 1) < 0 then lo + (x.tmod (hi - lo + 1) + hi - lo + 1) else lo + x.tmod (hi - lo + 1)
theorem withinI_bounds (x lo hi : Int) (h1 : lo ≤ hi) : lo ≤ withinI x lo hi ∧ withinI x lo hi ≤ hi := by
  have b1 := Int.tmod_lt_of_pos x (show 0 < hi - lo + 1 by omega)
  have b2 := Int.lt_tmod_of_pos x (show 0 < hi - lo + 1 by omega)
  unfold withinI
  split <;> omega
theorem within_any (x lo hi : Int) (w : World) (h0 : 0 ≤ lo) (h1 : lo ≤ hi) (h2 : hi < 4611686018427387904) (_hx : -9223372036854775808 ≤ x) (_hx2 : x ≤ 9223372036854775807) :
    Calls Tryd.prog 28 #[.int .i64 x, .int .i64 lo, .int .i64 hi] w fun e w' => e = .returned (.int .i64 (withinI x lo hi)) ∧ w = w' := by
  have b1 := Int.tmod_lt_of_pos x (show 0 < hi - lo + 1 by omega)
  have b2 := Int.lt_tmod_of_pos x (show 0 < hi - lo + 1 by omega)
  by_cases hm : x.tmod (hi - lo + 1) < 0
  · have e : withinI x lo hi = lo + (x.tmod (hi - lo + 1) + hi - lo + 1) := if_pos hm
    have He := Lib.hid e
    clear e
    go_enter Tryd.func28, Tryd.ntmps28
    go_wp2
    go_ret
    rw [He.out]
    exact ⟨rfl, rfl⟩
  · have e : withinI x lo hi = lo + x.tmod (hi - lo + 1) := if_neg hm
    have He := Lib.hid e
    clear e
    go_enter Tryd.func28, Tryd.ntmps28
    go_wp2
    go_ret
    rw [He.out]
    exact ⟨rfl, rfl⟩
end Go.Proofs.YteonmcconpfkjaaDoor

/- The walks of the statements' hex, known. No condition. -/
namespace Go.Proofs.YteonmcconpfkjaaDoor
open Go.RowKit
attribute [local go_sem] n8_lo n8_hi
def hexC : List UInt8 := [48, 49, 50, 51, 52, 53, 54, 55, 56, 57, 97, 98, 99, 100, 101, 102]
theorem hex_cut (a : Nat) (h : a < 16) : ({ data := #[48, 49, 50, 51, 52, 53, 54, 55, 56, 57, 97, 98, 99, 100, 101, 102] } : ByteArray).extract a (a + 1) = ⟨[hexC.getD a 0].toArray⟩ := by
  have : a = 0 ∨ a = 1 ∨ a = 2 ∨ a = 3 ∨ a = 4 ∨ a = 5 ∨ a = 6 ∨ a = 7 ∨ a = 8 ∨ a = 9 ∨ a = 10 ∨ a = 11 ∨ a = 12 ∨ a = 13 ∨ a = 14 ∨ a = 15 := by omega
  rcases this with rfl | rfl | rfl | rfl | rfl | rfl | rfl | rfl | rfl | rfl | rfl | rfl | rfl | rfl | rfl | rfl <;> rfl
def hexL (d : List UInt8) : Nat → List UInt8
  | 0 => []
  | k + 1 => hexL d k ++ [hexC.getD ((d.getD k 0).toNat / 16) 0, hexC.getD ((d.getD k 0).toNat % 16) 0]
theorem hexL_length (d : List UInt8) (k : Nat) : (hexL d k).length = 2 * k := by
  induction k with
  | zero => rfl
  | succ k ih => simp [hexL, ih]; omega
theorem hex_any (d : List UInt8) (w : World) :
    Calls Tryd.prog 88 #[.agg (dat d)] w fun e w' => e = .returned (.string ⟨(hexL d 32).toArray⟩) ∧ Below w.heap.size w w' := by
  go_enter Tryd.func88, Tryd.ntmps88
  go_wp2
  refine wp_at (fun W => Blk W w.heap.size 43 (dat d) ∧ Below w.heap.size w W) ⟨Blk.new _ _ _, below_new1 _ _⟩ ?_
  intro W ⟨hB, hbel⟩
  go_loopw [3, 4] (fun u i wr => ∃ k : Nat, k ≤ 32 ∧ i = .int .i64 k ∧ u = .string ⟨(hexL d k).toArray⟩ ∧ Blk wr w.heap.size 43 (dat d) ∧ Below w.heap.size w wr) (fun _ i _ => 32 - (intOf i).toNat)
  case atStart => exact ⟨0, by omega, rfl, rfl, hB, hbel⟩
  case round =>
    clear hB hbel
    obtain ⟨k, hk, rfl, rfl, hB, hbel⟩ := hrel
    by_cases hlt : k < 32
    · have cB : wr.cell? ⟨w.heap.size, k, none⟩ = some (.int .u8 (n8 (d.getD k 0))) := by rw [hB.cell]; exact arr_at _ _ _ hlt
      have hstep : hexL d (k + 1) = hexL d k ++ [hexC.getD ((d.getD k 0).toNat / 16) 0, hexC.getD ((d.getD k 0).toNat % 16) 0] := rfl
      have hl := hexL_length d k
      generalize d.getD k 0 = x at cB hstep
      generalize hexL d k = l at hl hstep
      have hl2 : l.length ≤ 64 := by omega
      obtain ⟨a, ha⟩ : ∃ a : Nat, a = x.toNat / 16 := ⟨_, rfl⟩
      obtain ⟨b, hb⟩ : ∃ b : Nat, b = x.toNat % 16 := ⟨_, rfl⟩
      have ha16 : a < 16 := by have := x.toNat_lt; omega
      have hb16 : b < 16 := by omega
      have ea : n8 x / 16 = (a : Int) := by unfold n8; omega
      have eb : bits .and .u8 (n8 x) 15 = (b : Int) := by rw [u8_and15 _ (n8_lo x) (n8_hi x)]; unfold n8; omega
      have ea1 : ((a : Int) + 1) % 256 = (a : Int) + 1 := by omega
      have eb1 : ((b : Int) + 1) % 256 = (b : Int) + 1 := by omega
      rw [← ha, ← hb] at hstep
      have Hstep := Lib.hid hstep
      have xa := hex_cut a ha16
      have xb := hex_cut b hb16
      clear ha hb hstep hl
      generalize hexC.getD a 0 = ca at xa Hstep
      generalize hexC.getD b 0 = cb at xb Hstep
      go_wp2
      refine wp_region_quiet_lit (by kernel_rfl) (by kernel_rfl) ?_
      repeat (go_big_quiet_step (fail))
      refine wpQuiet_nil ?_
      intro W' hW'
      obtain ⟨nq, rfl⟩ := hW'
      go_wp2
      go_roundw
      case rel =>
        refine ⟨k + 1, by omega, by go_num, ?_, hB.drewN nq, below_drewN hbel nq⟩
        rw [Hstep.out]
        rw [show (ByteArray.mk #[ca]) = ⟨[ca].toArray⟩ from rfl, show (ByteArray.mk #[cb]) = ⟨[cb].toArray⟩ from rfl, ByteArray.mk_append_mk, ByteArray.mk_append_mk, List.append_assoc]
        rfl
      case measure => simp [intOf]; omega
    · have ek : k = 32 := by omega
      have Hek := Lib.hid ek
      clear ek
      go_wp2
      go_ret
      refine ⟨?_, hbel⟩
      rw [Hek.out]
      rfl
theorem hex_nil : hexL (sha []) 32 = [101, 51, 98, 48, 99, 52, 52, 50, 57, 56, 102, 99, 49, 99, 49, 52, 57, 97, 102, 98, 102, 52, 99, 56, 57, 57, 54, 102, 98, 57, 50, 52, 50, 55, 97, 101, 52, 49, 101, 52, 54, 52, 57, 98, 57, 51, 52, 99, 97, 52, 57, 53, 57, 57, 49, 98, 55, 56, 53, 50, 98, 56, 53, 53] := by decide +kernel
theorem hex_abc : hexL (sha [97, 98, 99]) 32 = [98, 97, 55, 56, 49, 54, 98, 102, 56, 102, 48, 49, 99, 102, 101, 97, 52, 49, 52, 49, 52, 48, 100, 101, 53, 100, 97, 101, 50, 50, 50, 51, 98, 48, 48, 51, 54, 49, 97, 51, 57, 54, 49, 55, 55, 97, 57, 99, 98, 52, 49, 48, 102, 102, 54, 49, 102, 50, 48, 48, 49, 53, 97, 100] := by decide +kernel
theorem known_any (w : World) (hG : Glob w) : Calls Tryd.prog 19 #[] w fun e w' => e = .returned (.bool true) ∧ Below w.heap.size w w' := by
  go_enter Tryd.func19, Tryd.ntmps19
  go_wp2_with fail
  refine (sum_b _ [] _ BSl.nil_ (by simp) hG).mono ?_
  rintro e w1 ⟨rfl, hb1⟩
  go_wp2_with fail
  refine (hex_any _ _).mono ?_
  rintro e w2 ⟨rfl, hb2⟩
  rw [hex_nil]
  have hbel2 := hb1.trans (hb2.mono hb1.size)
  have hG2 := hG.next hbel2
  have kc := fun (w : World) (C : Array Value) (n c : Nat) => Lib.run_convert_bytes_const (P := Tryd.prog) w 22 5 C n c Tryd.underlying22 Tryd.underlying5
  go_wp2_with fail
  have hX : (w2.alloc (Obj.cells #[.int .u8 97, .int .u8 98, .int .u8 99] 5 (3, 4))).heap[w2.heap.size]? = some (.cells (([97, 98, 99] : List UInt8).map v8).toArray 5 (3, 4)) := heap_alloc_new _ _
  have hb3 := below_new1 w2 (Obj.cells #[.int .u8 97, .int .u8 98, .int .u8 99] 5 (3, 4))
  have hlt : w2.heap.size < (w2.alloc (Obj.cells #[.int .u8 97, .int .u8 98, .int .u8 99] 5 (3, 4))).heap.size := by simp
  have hbel3 := hbel2.trans (hb3.mono hbel2.size)
  refine (sum_b _ [97, 98, 99] _ (BSl.of_marked hX _ hlt (by decide)) (by decide) (hG.next hbel3)).mono ?_
  rintro e w4 ⟨rfl, hb4⟩
  clear kc
  go_wp2_with fail
  refine (hex_any _ _).mono ?_
  rintro e w5 ⟨rfl, hb5⟩
  rw [hex_abc]
  have hbel4 := hbel3.trans (hb4.mono hbel3.size)
  have hbel5 := hbel4.trans (hb5.mono hbel4.size)
  go_wp2
  go_ret
  exact ⟨rfl, hbel5⟩
end Go.Proofs.YteonmcconpfkjaaDoor

/- A slice of bytes as a string, in a quiet walk. No condition. -/
namespace Go.Proofs.YteonmcconpfkjaaDoor
open Go Go.RowKit
/-- the string of some bytes -/
def strV (bs : List UInt8) : Value := .string ⟨bs.toArray⟩
theorem nums_n8 (bs : List UInt8) : strOfNums (bs.map n8) = ⟨bs.toArray⟩ := by
  unfold strOfNums
  congr 1
  rw [List.map_map]
  congr 1
  apply List.ext_getElem (by simp)
  intro i h1 h2
  simp [n8]
theorem run_bytes_str {w : World} {B : Nat} {v : Value} {bs : List UInt8} (hv : BSl w B v bs) : (convert 22 9 v).run Tryd.prog w = .ok (strV bs) w := by
  obtain ⟨A, c, rfl, h1, h2, hr⟩ := hv
  cases A with
  | none =>
    have h0 : bs = [] := by
      cases bs with
      | nil => rfl
      | cons b l => obtain ⟨_, _, e, _⟩ := hr (by simp); cases e
    subst h0
    exact run_convert_bytes_nil w _ _ Tryd.underlying22 Tryd.underlying5 _ _ _ Tryd.underlying9
  | some p =>
    cases bs with
    | nil =>
      have hl : (loadCells p 0).run Tryd.prog w = .ok (([] : List Int).map (Value.int .u8)).toArray w := by
        have := run_loadCells_list (P := Tryd.prog) w p [] (fun j v hj => by simp at hj)
        simpa using this
      rw [List.length_nil, run_convert_bytes_string w _ _ _ _ 0 c Tryd.underlying22 Tryd.underlying5 Tryd.underlying9, run_bytesToString w p 0 c [] hl]
      rfl
    | cons b l =>
      obtain ⟨g, off, e, hb, hc⟩ := hr (by simp)
      cases e
      have h := run_convert_bytes_arg (P := Tryd.prog) w 22 5 Tryd.underlying22 Tryd.underlying5 g off (b :: l).length c ((b :: l).map n8) (by simp) (fun i hi => by
        have hh := hc i (v8 ((b :: l).getD i 0)) (by rw [List.getElem?_map, List.getElem?_eq_getElem hi]; simp [List.getD, List.getElem?_eq_getElem hi])
        rw [hh]
        rw [List.getD_eq_getElem?_getD, List.getD_eq_getElem?_getD, List.getElem?_map, List.getElem?_eq_getElem hi]
        rfl) 9 Tryd.underlying9
      rw [h, nums_n8]; rfl
section
variable {ops : Array Oper} {C : World → Prop} {Q : Act → Prop} {a : Act} {o : Oper} {rest : List Oper}
theorem wpQuiet_str (hw : Region.wanted o (yielded ops a.tmps) = true) (x : Operand) (ho : o.op = .convert 22 9 x) (v : Value) (bs : List UInt8) (B : Nat) (hx : a.eval x = v) (hv : ∀ w, C w → BSl w B v bs)
    (h : wpQuiet Tryd.prog ops C Q rest (a.put o.dst (strV bs))) : wpQuiet Tryd.prog ops C Q (o :: rest) a :=
  wpQuiet_wanted hw (strV bs) (fun w hC => by
    unfold Oper.quietAt execOp
    simp only [ho, hx, Sem.run_bind, run_bytes_str (hv w hC), Result.andThen_ok, Sem.run_pure]
    exact ⟨rfl, rfl⟩) h
end
end Go.Proofs.YteonmcconpfkjaaDoor

/- '==' on strings of bytes. No condition. -/
namespace Go.Proofs.YteonmcconpfkjaaDoor
open Go Go.RowKit
theorem bytes_beq (a b : List UInt8) : ((⟨a.toArray⟩ : ByteArray).toList == (⟨b.toArray⟩ : ByteArray).toList) = decide (a = b) := by
  rw [ByteArray.toList_eq, ByteArray.toList_eq]
  show (a.toArray.toList == b.toArray.toList) = decide (a = b)
  simp only [List.toList_toArray]
  by_cases h : a = b
  · subst h; simp
  · rw [decide_eq_false h, beq_eq_false_iff_ne]; exact h
theorem run_strEq (w : World) (a b : List UInt8) : (binOp .eql 9 (strV a) (strV b)).run Tryd.prog w = .ok (.bool (decide (a = b))) w := by
  unfold strV
  rw [binOp_string_eql, bytes_beq]
  simp
section
variable {ops : Array Oper} {C : World → Prop} {Q : Act → Prop} {a : Act} {o : Oper} {rest : List Oper}
theorem wpQuiet_eqStr (hw : Region.wanted o (yielded ops a.tmps) = true) (x y : Operand) (yt : TypeId) (ho : o.op = .binOp .eql 9 x y yt) (X Y : List UInt8) (hx : a.eval x = strV X) (hy : a.eval y = strV Y)
    (b : Bool) (hb : decide (X = Y) = b) (hk : wpQuiet Tryd.prog ops C Q rest (a.put o.dst (.bool b))) : wpQuiet Tryd.prog ops C Q (o :: rest) a :=
  wpQuiet_wanted hw (.bool b) (fun w _ => by
    have hg : (eqGuard .eql 9 x y (strV X) (strV Y)).run Tryd.prog w = .ok () w := by unfold strV; simp [eqGuard]
    unfold Oper.quietAt execOp
    simp only [ho, hx, hy, Sem.run_bind, Sem.run_pure, Result.andThen_ok, hg, run_strEq, hb]
    exact ⟨rfl, rfl⟩) hk
theorem run_strNe (w : World) (a b : List UInt8) : (binOp .neq 9 (strV a) (strV b)).run Tryd.prog w = .ok (.bool (!decide (a = b))) w := by
  have h : binOp .neq 9 (strV a) (strV b) = pure (.bool (!((⟨a.toArray⟩ : ByteArray).toList == (⟨b.toArray⟩ : ByteArray).toList))) := by unfold strV; simp [binOp, Op.stringOp, bne]
  rw [h, bytes_beq]
  simp
theorem wpQuiet_neStr (hw : Region.wanted o (yielded ops a.tmps) = true) (x y : Operand) (yt : TypeId) (ho : o.op = .binOp .neq 9 x y yt) (X Y : List UInt8) (hx : a.eval x = strV X) (hy : a.eval y = strV Y)
    (b : Bool) (hb : decide (X = Y) = b) (hk : wpQuiet Tryd.prog ops C Q rest (a.put o.dst (.bool (!b)))) : wpQuiet Tryd.prog ops C Q (o :: rest) a :=
  wpQuiet_wanted hw (.bool (!b)) (fun w _ => by
    have hg : (eqGuard .neq 9 x y (strV X) (strV Y)).run Tryd.prog w = .ok () w := by unfold strV; simp [eqGuard]
    unfold Oper.quietAt execOp
    simp only [ho, hx, hy, Sem.run_bind, Sem.run_pure, Result.andThen_ok, hg, run_strNe, hb]
    exact ⟨rfl, rfl⟩) hk
end
end Go.Proofs.YteonmcconpfkjaaDoor
