/- The walk of the reference's Cut. No condition. -/
import Derived.Test.YtbhmmoecoijojaaDoorShaD
namespace Go.Proofs.YtbhmmoecoijojaaDoor
open Go.RowKit
attribute [local go_sem] n8_lo n8_hi
def rcutF (d : List UInt8) (n : Int) (k p : Nat) : UInt8 := if p < k ∧ n ≤ (p : Int) then 0 else d.getD p 0
theorem rcut_0 (d : List UInt8) (n : Int) : rcutF d n 0 = fun p => d.getD p 0 := by funext p; unfold rcutF; rw [if_neg (by omega)]
theorem rcut_step (d : List UInt8) (n : Int) (k : Nat) (h : n ≤ (k : Int)) : (fun p => if p = k then 0 else rcutF d n k p) = rcutF d n (k + 1) := by
  funext p
  unfold rcutF
  by_cases h1 : p = k
  · rw [if_pos h1, if_pos (by omega)]
  · rw [if_neg h1]
    by_cases h2 : p < k ∧ n ≤ (p : Int)
    · rw [if_pos h2, if_pos (by omega)]
    · rw [if_neg h2, if_neg (by omega)]
theorem rcut_stay (d : List UInt8) (n : Int) (k : Nat) (h : ¬ n ≤ (k : Int)) : rcutF d n k = rcutF d n (k + 1) := by
  funext p
  unfold rcutF
  by_cases h2 : p < k ∧ n ≤ (p : Int)
  · rw [if_pos h2, if_pos (by omega)]
  · rw [if_neg h2, if_neg (by omega)]
theorem rcut_end (d : List UInt8) (n : Int) (hd : d.length = 32) : arr 32 (rcutF d n 32) = dat (cutL d n) := by
  rw [dat_eq _ (cutL_length d n hd), cutL_arr d n hd]
  apply arr_congr
  intro p hp
  unfold rcutF
  by_cases h : (p : Int) < n
  · rw [if_pos h, if_neg (by omega)]
  · rw [if_neg h, if_pos (by omega)]
set_option maxRecDepth 100000 in
theorem rcut_any (d : List UInt8) (hd : d.length = 32) (n : Int) (w : World) :
    Calls Tryd.prog 82 #[.agg (dat d), .int .i64 n] w fun e w' => e = .returned (.agg (dat (cutL d n))) ∧ Below w.heap.size w w' := by
  have hE := Lib.hid (rcut_end d n hd)
  show Calls _ _ #[.agg (arr 32 fun p => d.getD p 0), .int .i64 n] _ _
  go_enter Tryd.func82, Tryd.ntmps82
  go_wp2
  refine wp_at (fun W => Blk W w.heap.size 27 (arr 32 (rcutF d n 0)) ∧ Blk W (w.heap.size + 1) 27 (arr 32 fun _ => 0) ∧ Below w.heap.size w W)
    ⟨by rw [rcut_0]; exact (Blk.new w _ _).alloc _, Blk.new2 _ _ _ _, ((Below.refl _ _).alloc (Nat.le_refl _) _).alloc (by simp) _⟩ ?_
  intro W ⟨hA, hB, hbel⟩
  go_loopw [5] (fun iv wr => ∃ k : Nat, k ≤ 32 ∧ iv = .int .i64 k ∧ Blk wr w.heap.size 27 (arr 32 (rcutF d n k)) ∧ Blk wr (w.heap.size + 1) 27 (arr 32 fun _ => 0) ∧ Below w.heap.size w wr) (fun iv _ => 32 - (intOf iv).toNat)
  case atStart => exact ⟨0, by omega, rfl, hA, hB, hbel⟩
  case round =>
    clear hA hB hbel
    obtain ⟨k, hk, rfl, hA, hB, hbel⟩ := hrel
    by_cases hlt : k < 32
    · have cD := hA.cell k
      rw [arr_at _ _ _ hlt] at cD
      have fD := hA.frozen k
      by_cases hn : n ≤ (k : Int)
      · go_wp2
        go_roundw
        case rel =>
          have hst := hA.set k (v8 0)
          rw [arr_set, rcut_step d n k hn] at hst
          exact ⟨k + 1, by omega, by go_num, hst, hB.far (p := ⟨w.heap.size, k, none⟩) (by show _ ≠ w.heap.size; omega) _, hbel.setCell (p := ⟨w.heap.size, k, none⟩) (Nat.le_refl _) _⟩
        case measure => simp [intOf]; omega
      · go_wp2
        go_roundw
        case rel =>
          rw [rcut_stay d n k hn] at hA
          exact ⟨k + 1, by omega, by go_num, hA, hB, hbel⟩
        case measure => simp [intOf]; omega
    · have ek : k = 32 := by omega
      rw [ek] at hA
      clear ek
      go_wp2_with (first
        | (refine wpList_load_row rfl 27 (.tmp 2) rfl w.heap.size rfl _ _ _ _ hA Tryd.underlying27 rfl (by kernel_rfl) ?_)
        | (refine wpList_storeArr rfl rfl 27 (.tmp 4) (.tmp 15) rfl (w.heap.size + 1) rfl 32 _ _ rfl _ hB (by kernel_rfl) ?_; intro w6 hR6 hon6))
      have hb6 := below_only hbel hon6 (by omega) hbel.size
      refine bodyPost_ret (results_cell_row (p := 4) (ty := 27) rfl _ _ (w.heap.size + 1) _ _ _ _ rfl hR6 Tryd.underlying27 rfl (by kernel_rfl)) rfl ⟨?_, hb6⟩
      rw [hE.out]
end Go.Proofs.YtbhmmoecoijojaaDoor
