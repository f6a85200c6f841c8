/- The walk of the law ShaEdges. -/
import Derived.Test.YtilndfodlbcmjaaDoorRefG
namespace Go.Proofs.YtilndfodlbcmjaaDoor
open Go.RowKit
attribute [local go_sem] n64_lo n64_hi n8_lo n8_hi
def edgeF (s : UInt8) (k p : Nat) : UInt8 := if p < k then s + UInt8.ofNat p else 0
theorem edge_val (s : UInt8) (k : Nat) : (n8 s + (k : Int)) % 256 = n8 (s + UInt8.ofNat k) := by
  unfold n8; rw [UInt8.toNat_add, UInt8.toNat_ofNat']; omega
theorem edge_0 (s : UInt8) (m : Nat) : (List.replicate m (Value.int .u8 0)).toArray = arr m (edgeF s 0) := by
  apply Array.ext
  · simp [arr]
  · intro i h1 h2
    simp [arr, edgeF]; rfl
/-- '==' on digests, under a guard that holds -/
theorem wpList_eqDw {w : World} {ops : Array Oper} {rest : List Oper} {o : Oper} {a : Act} {Q : Exit → Act → World → Prop} (hw : Region.wanted o (yielded ops a.tmps) = true) (x y : Operand) (yt : TypeId) (ho : o.op = .binOp .eql 24 x y yt) (X Y : List UInt8) (hx : a.eval x = .agg (dat X)) (hy : a.eval y = .agg (dat Y)) (hX : X.length = 32) (hY : Y.length = 32)
    (b : Bool) (hb : decide (X = Y) = b) (h : wpList Tryd.prog ops Q rest (a.put o.dst (.bool b)) w) : wpList Tryd.prog ops Q (o :: rest) a w :=
  wpList_step fun K hK => by
    simp only [hw, if_true]
    unfold Oper.wp execOp
    simp only [ho, hx, hy, Sem.run_bind, Sem.run_pure, Result.andThen_ok, eqGuard_dat, eql_dat X Y hX hY, hb]
    exact hK _ _ h
set_option maxHeartbeats 1000000 in
set_option maxRecDepth 100000 in
theorem shaEdges_walk0 (w : World) (hG : Glob w) (n : Int) (hn : -9223372036854775808 ≤ n ∧ n ≤ 9223372036854775807) (s : UInt8) :
    Calls Tryd.prog 6 #[.int .i64 n, .int .u8 (n8 s)] w fun e w' => e = .returned (.bool true) ∧ Below w.heap.size w w' := by
  obtain ⟨hn1, hn2⟩ := hn
  obtain ⟨i0, hi, hz0, hz1, hz2⟩ := info_parts (by kernel_rfl : (Tryd.prog.info? 5).map (fun i => (i.zero, i.size, i.bytes)) = some (some (.int .u8 0), 1, 1))
  go_enter Tryd.func6, Tryd.ntmps6
  go_wp2_with fail
  refine (new_any w).mono ?_
  rintro e w1 ⟨t1, rfl, ht1, hb1⟩
  go_wp2_with fail
  refine (within_any n 0 130 _ (by decide) (by decide) (by decide) hn1 hn2).mono ?_
  rintro e w2 ⟨rfl, rfl⟩
  obtain ⟨m, hm⟩ : ∃ m : Nat, withinI n 0 130 = (m : Int) := ⟨(withinI n 0 130).toNat, by have := withinI_bounds n 0 130 (by decide); omega⟩
  have hm130 : m ≤ 130 := by have := withinI_bounds n 0 130 (by decide); omega
  rw [hm]
  clear hm
  have hD := Blk.new w1 5 (List.replicate m (Value.int .u8 0)).toArray
  have hb2 := below_new1 w1 (Obj.cells (List.replicate m (Value.int .u8 0)).toArray 5)
  go_wp2_with (first
    | (refine wpList_makeB rfl _ _ _ rfl 5 i0 _ Tryd.underlying22 hi hz0 hz1 rfl _ _ m rfl rfl (by rw [hz2]; omega) (by omega) ?_; refine wpl_at (fun W => Blk W w1.heap.size 5 (List.replicate m (Value.int .u8 0)).toArray ∧ Below w1.heap.size w1 W) ⟨hD, hb2⟩ ?_; clear hD hb2; rintro w3 ⟨hD, hb3⟩))
  rw [edge_0 s] at hD
  go_loopw [7] (fun iv wr => ∃ k : Nat, k ≤ m ∧ iv = .int .i64 k ∧ Blk wr w1.heap.size 5 (arr m (edgeF s k)) ∧ Below w1.heap.size w1 wr) (fun iv _ => m - (intOf iv).toNat)
  case atStart => exact ⟨0, by omega, rfl, hD, hb3⟩
  case round =>
    clear hD hb3
    obtain ⟨k, hk, rfl, hD, hb3⟩ := hrel
    by_cases hlt : k < m
    · have cD := hD.cell k
      rw [arr_at _ _ _ hlt] at cD
      have fD := hD.frozen k
      go_wp2
      go_roundw
      case rel =>
        have hst := hD.set k (v8 (s + UInt8.ofNat k))
        rw [arr_set, arr_congr m _ (edgeF s (k + 1)) (fun p _ => by
          unfold edgeF
          by_cases h1 : p = k
          · rw [if_pos h1, if_pos (by omega), h1]
          · rw [if_neg h1]
            by_cases h2 : p < k
            · rw [if_pos h2, if_pos (by omega)]
            · rw [if_neg h2, if_neg (by omega)])] at hst
        refine ⟨k + 1, by omega, by go_num, ?_, hb3.setCell (p := ⟨_, _, none⟩) (Nat.le_refl _) _⟩
        rw [edge_val]; exact hst
      case measure => simp [intOf]; omega
    · have ek : k = m := by omega
      subst ek
      have hbel := hb1.trans (hb3.mono hb1.size)
      obtain ⟨L, hL⟩ : ∃ L : List UInt8, L = (List.range k).map fun p => s + UInt8.ofNat p := ⟨_, rfl⟩
      have hLl : L.length = k := by rw [hL]; simp
      have hBL : BSl wr wr.heap.size (.slice (some ⟨w1.heap.size, 0, none⟩) k k) L := BSl.of_arr hD _ hD.lt L hLl (fun p hp => by rw [hL]; unfold edgeF; rw [if_pos hp]; simp [hp]) (by omega)
      have ht := (show Tbl wr wr.heap.size t1 from by obtain ⟨g, rfl, hg, hT⟩ := ht1; exact ⟨g, rfl, Nat.lt_of_lt_of_le hg hb3.size, hT.below hb3 hg⟩)
      have hG3 := hG.next hbel
      clear hL hD
      have hs := Lib.hid (sha_length L)
      have hmm := Lib.hid (mac_length L L)
      go_wp2_with fail
      refine (sum_b _ L wr hBL (by omega) hG3).mono ?_
      rintro e w4 ⟨rfl, hb4⟩
      have tb : ∀ w', Below wr.heap.size wr w' → Tbl w' w'.heap.size t1 := fun w' hb => by obtain ⟨g, rfl, hg, hT⟩ := ht; exact ⟨g, rfl, Nat.lt_of_lt_of_le hg hb.size, hT.below hb hg⟩
      go_wp2_with fail
      refine (rsum_any _ _ L w4 (tb _ hb4) (hBL.next hb4) (by omega)).mono ?_
      rintro e w5 ⟨rfl, hb5⟩
      have hb5' := hb4.trans (hb5.mono hb4.size)
      go_wp2_with (first
        | (refine wpList_eqD rfl (.tmp 26) (.tmp 29) _ rfl (sha L) (sha L) rfl rfl hs.out hs.out true (decide_eq_true rfl) ?_))
      refine (mac_any _ _ L L w5 (hBL.next hb5') (hBL.next hb5') (by omega) (by omega) (hG3.next hb5')).mono ?_
      rintro e w6 ⟨rfl, hb6⟩
      have hb6' := hb5'.trans (hb6.mono hb5'.size)
      go_wp2_with fail
      refine (rmac_any _ _ _ L L w6 (tb _ hb6') (hBL.next hb6') (hBL.next hb6') (by omega) (by omega)).mono ?_
      rintro e w7 ⟨rfl, hb7⟩
      have hb7' := hb6'.trans (hb7.mono hb6'.size)
      go_wp2_with (first
        | (refine wpList_eqDw (by rfl) (.tmp 34) (.tmp 38) _ rfl (mac L L) (mac L L) rfl rfl hmm.out hmm.out true (decide_eq_true rfl) ?_))
      refine (known_any _ (hG3.next hb7')).mono ?_
      rintro e w8 ⟨rfl, hb8⟩
      have hb8' := hb7'.trans (hb8.mono hb7'.size)
      go_wp2_with fail
      go_ret
      exact ⟨rfl, hbel.trans (hb8'.mono hbel.size)⟩
theorem shaEdges_walk (w : World) (hG : Glob w) (n : Int) (hn : -9223372036854775808 ≤ n ∧ n ≤ 9223372036854775807) (a : Int) (ha : 0 ≤ a ∧ a ≤ 255) :
    Calls Tryd.prog 6 #[.int .i64 n, .int .u8 a] w fun e w' => e = .returned (.bool true) ∧ Below w.heap.size w w' := by
  have e : a = n8 (UInt8.ofNat a.toNat) := by unfold n8; rw [UInt8.toNat_ofNat']; omega
  rw [e]
  exact shaEdges_walk0 w hG n hn _
end Go.Proofs.YtilndfodlbcmjaaDoor
