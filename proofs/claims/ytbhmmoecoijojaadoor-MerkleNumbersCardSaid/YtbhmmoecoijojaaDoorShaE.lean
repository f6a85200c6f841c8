/- The walk of sha's Mac. No condition. -/
import Derived.Test.YtbhmmoecoijojaaDoorShaD
import Derived.Deep.DeepCutAuto
namespace Go.Proofs.YtbhmmoecoijojaaDoor
open Go.RowKit
attribute [local go_sem] n8_lo n8_hi xor8_54 xor8_92
/-- a key of more than 64 bytes is hashed -/
def keyL (key : List UInt8) : List UInt8 := if 64 < key.length then sha key else key
def keyX (key : List UInt8) (c : UInt8) : List UInt8 := (List.range 64).map fun p => (keyL key).getD p 0 ^^^ c
/-- a text's tag by a key -/
def mac (key b : List UInt8) : List UInt8 := sha (keyX key 92 ++ sha (keyX key 54 ++ b))
theorem keyX_length (key : List UInt8) (c : UInt8) : (keyX key c).length = 64 := by simp [keyX]
def xorB (key : List UInt8) (c : UInt8) (k p : Nat) : UInt8 := if p < k then (keyL key).getD p 0 ^^^ c else (keyL key).getD p 0
theorem xorB_step (key : List UInt8) (c : UInt8) (k : Nat) : (fun p => if p = k then (keyL key).getD k 0 ^^^ c else xorB key c k p) = xorB key c (k + 1) := by
  funext p
  unfold xorB
  by_cases h : p = k
  · rw [if_pos h, if_pos (show p < k + 1 by omega), h]
  · rw [if_neg h]
    by_cases h1 : p < k
    · rw [if_pos h1, if_pos (show p < k + 1 by omega)]
    · rw [if_neg h1, if_neg (show ¬ p < k + 1 by omega)]
theorem xorB_at (key : List UInt8) (c : UInt8) (k : Nat) : xorB key c k k = (keyL key).getD k 0 := by unfold xorB; rw [if_neg (Nat.lt_irrefl _)]
theorem xorB_all (key : List UInt8) (c : UInt8) : ∀ p, p < 64 → xorB key c 64 p = (keyX key c).getD p 0 := by
  intro p hp
  unfold xorB keyX
  rw [if_pos hp]; simp [hp]
theorem xorB_0 (key : List UInt8) (c : UInt8) (n : Nat) (h : (keyL key).length ≤ n) : arr n (fun p => if 0 ≤ p ∧ p < 0 + Nat.min (keyL key).length n then (keyL key).getD (p - 0) 0 else 0) = arr n (xorB key c 0) := by
  apply arr_congr
  intro p hp
  unfold xorB
  rw [if_neg (show ¬ p < 0 by omega), show Nat.min (keyL key).length n = (keyL key).length from by show min _ _ = _; omega]
  by_cases h1 : p < (keyL key).length
  · rw [if_pos (show 0 ≤ p ∧ p < 0 + (keyL key).length by omega)]; rfl
  · rw [if_neg (show ¬ (0 ≤ p ∧ p < 0 + (keyL key).length) by omega), List.getD_eq_getElem?_getD, List.getElem?_eq_none (by omega)]; rfl
theorem keyL_length (key : List UInt8) : (keyL key).length ≤ 64 := by
  unfold keyL; split
  · rw [sha_length]; omega
  · omega
theorem mac_length (key b : List UInt8) : (mac key b).length = 32 := sha_length _
set_option maxRecDepth 100000 in
theorem mac_any (u v : Value) (key b : List UInt8) (w : World) (hk : BSl w w.heap.size u key) (hb : BSl w w.heap.size v b) (hkl : key.length ≤ 140737488355264) (hbl : b.length ≤ 140737488355264) (hG : Glob w) :
    Calls Tryd.prog 69 #[u, v] w fun e w' => e = .returned (.agg (dat (mac key b))) ∧ Below w.heap.size w w' := by
  obtain ⟨A, cap, rfl, hc1, hc2, hr⟩ := hk
  obtain ⟨Ab, capb, rfl, hcb1, hcb2, hrb⟩ := hb
  have hb : BSl w w.heap.size (.slice Ab b.length capb) b := ⟨Ab, capb, rfl, hcb1, hcb2, hrb⟩
  clear hcb1 hcb2 hrb
  go_enter Tryd.func69, Tryd.ntmps69
  go_upto_if 12 with fail
  refine wp_at (fun W => Blk W w.heap.size 27 (arr 32 fun _ => 0) ∧ Blk W (w.heap.size + 1) 133 (arr 64 fun _ => 0) ∧ Blk W (w.heap.size + 2) 133 (arr 64 fun _ => 0) ∧ Below w.heap.size w W)
    ⟨((Blk.new w _ _).alloc _).alloc _, (Blk.new2 _ _ _ _).alloc _, Blk.new3 _ _ _ _ _, below_new3 _ _ _ _⟩ ?_
  intro W ⟨hR, hI, hO, hbel⟩
  go_cut [0] (fun s0 wx => (∃ A0 cap0, s0 = .slice A0 (keyL key).length cap0 ∧ (keyL key).length ≤ cap0 ∧ cap0 ≤ 9223372036854775807 ∧ Reads wx wx.heap.size A0 ((keyL key).map v8) ∧ ∀ g off, A0 = some ⟨g, off, none⟩ → (keyL key).length ≠ 0 → g < w.heap.size ∨ w.heap.size + 2 < g) ∧ Blk wx w.heap.size 27 (arr 32 fun _ => 0) ∧ Blk wx (w.heap.size + 1) 133 (arr 64 fun _ => 0) ∧ Blk wx (w.heap.size + 2) 133 (arr 64 fun _ => 0) ∧ Below w.heap.size w wx)
  case first =>
    have hkW : BSl W W.heap.size (.slice A key.length cap) key := BSl.next ⟨A, cap, rfl, hc1, hc2, hr⟩ hbel
    by_cases h64 : 64 < key.length
    · have hkey : keyL key = sha key := if_pos h64
      go_wp2_with fail
      refine (sum_b _ key W hkW (by omega) (hG.next hbel)).mono ?_
      rintro e w1 ⟨rfl, hb1⟩
      have hR1 := hR.below hb1 hR.lt
      have hI1 := hI.below hb1 hI.lt
      have hO1 := hO.below hb1 hO.lt
      have hl1 := hb1.size
      have hl0 := hO.lt
      have hbel1 := hbel.trans (hb1.mono hbel.size)
      have hD := Blk.new w1 27 (arr 32 fun _ => 0)
      have hR2 := hR1.alloc (Obj.cells (arr 32 fun _ => 0) 27)
      have hI2 := hI1.alloc (Obj.cells (arr 32 fun _ => 0) 27)
      have hO2 := hO1.alloc (Obj.cells (arr 32 fun _ => 0) 27)
      have hbel2 := hbel1.alloc hbel1.size (Obj.cells (arr 32 fun _ => 0) 27)
      go_wp2_with (first
        | (refine wpList_storeArr rfl rfl 27 (.tmp 7) (.tmp 14) rfl w1.heap.size rfl 32 (fun p => (sha key).getD p 0) _ rfl _ hD (by kernel_rfl) ?_; intro w3 hD3 hon3))
      go_meet
      have hon3' : (w1.alloc (Obj.cells (arr 32 fun _ => 0) 27)).grownBy w3 (some w1.heap.size) := hon3
      rw [hkey]
      obtain ⟨A4, cap4, e4, h41, h42, h43⟩ := BSl.of_arr hD3 _ hD3.lt _ (sha_length key) (fun _ _ => rfl) (by decide)
      have e5 : (sha key).length = 32 := sha_length key
      refine ⟨⟨A4, cap4, by rw [← e4], h41, h42, h43, fun g off hg _ => ?_⟩, hR2.grown hon3' (by simp; omega), hI2.grown hon3' (by simp; omega), hO2.grown hon3' (by simp; omega), below_only hbel2 hon3' (by omega) hbel2.size⟩
      right
      injection e4 with e6
      rw [hg] at e6
      injection e6 with e6
      injection e6 with e6
      omega
    · have hkey : keyL key = key := if_neg h64
      go_wp2_with fail
      go_meet
      rw [hkey]
      refine ⟨⟨A, cap, rfl, hc1, hc2, (hr.below hbel).more hbel.size, fun g off hg hne => ?_⟩, hR, hI, hO, hbel⟩
      obtain ⟨b0, o0, e0, hb0, _⟩ := hr (by rw [List.length_map]; omega)
      rw [hg] at e0
      injection e0 with e0
      injection e0 with e0
      left; omega
  case rest =>
    clear hR hI hO hbel
    obtain ⟨⟨A0, cap0, rfl, hc01, hc02, hr0, hap⟩, hR, hI, hO, hbel⟩ := hcut
    have hkl64 := keyL_length key
    have hlO := hO.lt
    have ec := copied_arr 64 (fun _ => 0) 0 (keyL key) 64 (by show 0 + min (keyL key).length 64 ≤ 64; omega)
    have hfit : 0 + Nat.min (keyL key).length 64 ≤ (arr 64 (fun _ => (0 : UInt8))).size := by rw [arr_size]; show 0 + min (keyL key).length 64 ≤ 64; omega
    have Hec := Lib.hid ec
    have Hap := Lib.hid hap
    have Hfit := Lib.hid hfit
    clear ec hap hfit
    have hr1 : ∀ w2, wc.grownBy w2 (some (w.heap.size + 1)) → Reads w2 wc.heap.size A0 ((keyL key).map v8) := by
      intro w2 h2
      by_cases h0 : (keyL key).length = 0
      · have := List.eq_nil_of_length_eq_zero h0
        rw [this]; exact Reads.nil_
      · exact hr0.grown' h2 (Nat.le_refl _) (fun b off hb => by have := Hap.out b off hb h0; omega)
    have Hr1 := Lib.hid hr1
    clear hr1
    go_wp2_with (first
      | (refine wpList_copyR rfl (.tmp 16) (.tmp 17) _ _ rfl 5 Tryd.underlying32 (by kernel_rfl) (w.heap.size + 1) 0 64 64 A0 _ cap0 rfl rfl _ _ hI _ _ hr0 (by rw [List.length_map]) Hfit.out (oneCell_v8 _) ?_; intro w2 hI2 hon2)
      | (refine wpList_copyR rfl (.tmp 19) (.tmp 20) _ _ rfl 5 Tryd.underlying32 (by kernel_rfl) (w.heap.size + 2) 0 64 64 A0 _ cap0 rfl rfl _ _ (hO.grown hon2 (by simp)) _ _ (Hr1.out _ hon2) (by rw [List.length_map]) Hfit.out (oneCell_v8 _) ?_; intro w3 hO3 hon3))
    rw [Hec.out, xorB_0 key 54 64 hkl64] at hI2
    rw [Hec.out, xorB_0 key 92 64 hkl64] at hO3
    have hl2 := hon2.size
    have hI3 := hI2.grown hon3 (by simp)
    have hR3 := (hR.grown hon2 (by simp)).grown hon3 (by simp)
    have hbel3 := below_only (below_only hbel hon2 (by omega) hbel.size) hon3 (by omega) (Nat.le_trans hbel.size hl2)
    clear hR hI hO hbel hI2 hon2 hon3 hl2 Hap Hec Hr1 Hfit
    go_loopw [8, 22] (fun _ i wr => ∃ k : Nat, k ≤ 64 ∧ i = .int .i64 k ∧ Blk wr (w.heap.size + 1) 133 (arr 64 (xorB key 54 k)) ∧ Blk wr (w.heap.size + 2) 133 (arr 64 (xorB key 92 k)) ∧ Blk wr w.heap.size 27 (arr 32 fun _ => 0) ∧ Below w.heap.size w wr) (fun _ i _ => 64 - (intOf i).toNat)
    case atStart => exact ⟨0, by omega, rfl, hI3, hO3, hR3, hbel3⟩
    case round =>
      clear hI3 hO3 hR3 hbel3 hlO
      obtain ⟨k, hk, rfl, hI, hO, hR, hbel⟩ := hrel
      by_cases hlt : k < 64
      · have cI := hI.cell k
        rw [arr_at _ _ _ hlt, xorB_at] at cI
        have cO := hO.cell k
        rw [arr_at _ _ _ hlt, xorB_at] at cO
        have fI := hI.frozen k
        have fO := hO.frozen k
        go_wp2
        go_roundw
        case rel =>
          have s1 := hI.set k (v8 ((keyL key).getD k 0 ^^^ 54))
          rw [arr_set, xorB_step] at s1
          have s2 := (hO.far (p := ⟨w.heap.size + 1, k, none⟩) (by show _ ≠ w.heap.size + 1; omega) (v8 ((keyL key).getD k 0 ^^^ 54))).set k (v8 ((keyL key).getD k 0 ^^^ 92))
          rw [arr_set, xorB_step] at s2
          exact ⟨k + 1, by omega, by go_num, s1.far (p := ⟨w.heap.size + 2, k, none⟩) (by show _ ≠ w.heap.size + 2; omega) _, s2,
            (hR.far (p := ⟨w.heap.size + 1, k, none⟩) (by show _ ≠ w.heap.size + 1; omega) _).far (p := ⟨w.heap.size + 2, k, none⟩) (by show _ ≠ w.heap.size + 2; omega) _,
            below_far (p := ⟨w.heap.size + 2, k, none⟩) (below_far (p := ⟨w.heap.size + 1, k, none⟩) hbel (by show _ ≤ w.heap.size + 1; omega) _) (by show _ ≤ w.heap.size + 2; omega) _⟩
        case measure => simp [intOf]; omega
      · have ek : k = 64 := by omega
        rw [ek] at hI hO
        clear ek
        have hlO := hO.lt
        go_wp2_with fail
        have hX := Blk.new wr 32 #[.slice (some ⟨w.heap.size + 1, 0, none⟩) 64 64, .slice Ab b.length capb]
        have hI1 := hI.alloc (Obj.cells #[.slice (some ⟨w.heap.size + 1, 0, none⟩) 64 64, .slice Ab b.length capb] 32)
        have hO1 := hO.alloc (Obj.cells #[.slice (some ⟨w.heap.size + 1, 0, none⟩) 64 64, .slice Ab b.length capb] 32)
        have hR1 := hR.alloc (Obj.cells #[.slice (some ⟨w.heap.size + 1, 0, none⟩) 64 64, .slice Ab b.length capb] 32)
        have hbel1 := hbel.alloc hbel.size (Obj.cells #[.slice (some ⟨w.heap.size + 1, 0, none⟩) 64 64, .slice Ab b.length capb] 32)
        generalize wr.alloc (Obj.cells #[.slice (some ⟨w.heap.size + 1, 0, none⟩) 64 64, .slice Ab b.length capb] 32) = w4 at hX hI1 hO1 hR1 hbel1 ⊢
        have hl4 := hX.lt
        have hS4 : SSl w4 w4.heap.size (.slice (some ⟨wr.heap.size, 0, none⟩) 2 2) [keyX key 54, b] :=
          SSl.two hX _ hX.lt (BSl.of_arr hI1 _ hI1.lt _ (keyX_length _ _) (xorB_all key 54) (by decide)) (hb.next hbel1)
        refine (join_any _ _ _ hS4 (by simp [keyX_length]; omega)).mono ?_
        rintro e w5 ⟨v5, rfl, hown5, hb5⟩
        have hB5 := BSl.of_own hown5
        have hI5 := hI1.below hb5 hI1.lt
        have hO5 := hO1.below hb5 hO1.lt
        have hR5 := hR1.below hb5 hR1.lt
        have hbel5 := hbel1.trans (hb5.mono hbel1.size)
        have hl5 := hb5.size
        clear hI1 hO1 hR1 hbel1 hown5
        go_wp2_with fail
        refine (sum_b _ _ _ hB5 (by simp [keyX_length]; omega) (hG.next hbel5)).mono ?_
        rintro e w6 ⟨rfl, hb6⟩
        have hO6 := hO5.below hb6 hO5.lt
        have hR6 := hR5.below hb6 hR5.lt
        have hbel6 := hbel5.trans (hb6.mono hbel5.size)
        have hl6 := hb6.size
        have hD := Blk.new w6 27 (arr 32 fun _ => 0)
        have hO7 := hO6.alloc (Obj.cells (arr 32 fun _ => 0) 27)
        have hR7 := hR6.alloc (Obj.cells (arr 32 fun _ => 0) 27)
        have hbel7 := hbel6.alloc hbel6.size (Obj.cells (arr 32 fun _ => 0) 27)
        clear hI5 hO5 hR5 hbel5 hO6 hR6 hbel6
        go_wp2_with (first
          | (refine wpList_storeDat rfl rfl 27 (.tmp 9) (.tmp 40) rfl w6.heap.size rfl _ _ rfl _ hD (by kernel_rfl) ?_; intro w8 hD8 hon8))
        have hon8' : (w6.alloc (Obj.cells (arr 32 fun _ => 0) 27)).grownBy w8 (some w6.heap.size) := hon8
        have hO8 := hO7.grown hon8' (by simp; omega)
        have hR8 := hR7.grown hon8' (by simp; omega)
        have hbel8 := below_only hbel7 hon8' (by omega) hbel7.size
        clear hon8 hO7 hR7 hbel7 hD
        refine wp_region_quiet_tail 2 (fun W' => ∃ n, W' = w8.drewN n) (by kernel_rfl) (by kernel_rfl) ⟨1, rfl⟩ ?_
        simp only [List.take_succ_cons, List.take_zero, List.drop_succ_cons, List.drop_zero]
        repeat (go_big_quiet_step (fail))
        refine wpQuiet_nil ?_
        intro W' hW'
        obtain ⟨nq, rfl⟩ := hW'
        have hD9 := hD8.drewN nq
        have hO9 := hO8.drewN nq
        have hR9 := hR8.drewN nq
        have hbel9 := below_drewN hbel8 nq
        generalize w8.drewN nq = w9 at hD9 hO9 hR9 hbel9 ⊢
        clear hD8 hO8 hR8 hbel8
        go_wp2_with fail
        have hX := Blk.new w9 32 #[.slice (some ⟨w.heap.size + 2, 0, none⟩) 64 64, .slice (some ⟨w6.heap.size, 0, none⟩) 32 32]
        have hD1 := hD9.alloc (Obj.cells #[.slice (some ⟨w.heap.size + 2, 0, none⟩) 64 64, .slice (some ⟨w6.heap.size, 0, none⟩) 32 32] 32)
        have hO1 := hO9.alloc (Obj.cells #[.slice (some ⟨w.heap.size + 2, 0, none⟩) 64 64, .slice (some ⟨w6.heap.size, 0, none⟩) 32 32] 32)
        have hR1 := hR9.alloc (Obj.cells #[.slice (some ⟨w.heap.size + 2, 0, none⟩) 64 64, .slice (some ⟨w6.heap.size, 0, none⟩) 32 32] 32)
        have hbel1 := hbel9.alloc hbel9.size (Obj.cells #[.slice (some ⟨w.heap.size + 2, 0, none⟩) 64 64, .slice (some ⟨w6.heap.size, 0, none⟩) 32 32] 32)
        have hS4 : SSl (w9.alloc (Obj.cells #[.slice (some ⟨w.heap.size + 2, 0, none⟩) 64 64, .slice (some ⟨w6.heap.size, 0, none⟩) 32 32] 32)) _ (.slice (some ⟨w9.heap.size, 0, none⟩) 2 2) [keyX key 92, sha (keyX key 54 ++ b)] :=
          SSl.two hX _ hX.lt (BSl.of_arr hO1 _ hO1.lt _ (keyX_length _ _) (xorB_all key 92) (by decide)) (BSl.of_dat hD1 _ hD1.lt (sha_length _))
        have hfl : ([keyX key 92, sha (keyX key 54 ++ b)].flatten).length = 96 := by
          generalize hq : sha (keyX key 54 ++ b) = q
          have hq2 : q.length = 32 := by rw [← hq]; exact sha_length _
          simp [keyX_length, hq2]
        have Hfl := Lib.hid hfl
        clear hfl
        refine (join_any _ _ _ hS4 (by rw [Hfl.out]; omega)).mono ?_
        rintro e w10 ⟨v10, rfl, hown10, hb10⟩
        have hB10 := BSl.of_own hown10
        have hR10 := hR1.below hb10 hR1.lt
        have hbel10 := hbel1.trans (hb10.mono hbel1.size)
        have hl10 := hb10.size
        clear hown10 hD1 hO1 hR1 hbel1
        go_wp2_with fail
        refine (sum_b _ _ _ hB10 (by rw [Hfl.out]; omega) (hG.next hbel10)).mono ?_
        rintro e w11 ⟨rfl, hb11⟩
        have hR11 := hR10.below hb11 hR10.lt
        have hbel11 := hbel10.trans (hb11.mono hbel10.size)
        go_wp2_with (first
          | (refine wpList_storeDat rfl rfl 27 (.tmp 4) (.tmp 45) rfl w.heap.size rfl _ _ rfl _ hR11 (by kernel_rfl) ?_; intro w12 hR12 hon12))
        have hb12 := below_only hbel11 hon12 (Nat.le_refl _) hbel11.size
        refine bodyPost_ret (results_cell_row (p := 4) (ty := 27) rfl _ _ w.heap.size _ _ _ _ rfl hR12 Tryd.underlying27 rfl (by kernel_rfl)) rfl ⟨?_, hb12⟩
        simp [mac]
end Go.Proofs.YtbhmmoecoijojaaDoor
