/- Texts that stand behind one another: RefD. No condition. -/
import Derived.Test.YtkogehkmldbhgaaDoorP5
/- The walk of the reference's New. No condition. -/
namespace Go.Proofs.YtkogehkmldbhgaaDoor
open Go.RowKit
/-- the table: K, then H -/
def tabL : List UInt32 := K0 ++ H0.list
/-- the table while it is filled -/
def tabK (k : Nat) : List UInt32 := K0.take k ++ List.replicate (72 - k) 0
def tabH (k : Nat) : List UInt32 := K0 ++ (H0.list.take k ++ List.replicate (8 - k) 0)
theorem tabK_len : ∀ k, k ≤ 64 → (tabK k).length = 72 := by decide +kernel
theorem tabK_set : ∀ k, k < 64 → (tabK k).set k (K0.getD k 0) = tabK (k + 1) := by decide +kernel
theorem tabH_len : ∀ k, k ≤ 8 → (tabH k).length = 72 := by decide +kernel
theorem tabH_set : ∀ k, k < 8 → (tabH k).set (64 + k) (H0.list.getD k 0) = tabH (k + 1) := by decide +kernel
theorem tabK_64 : tabK 64 = tabH 0 := by decide +kernel
theorem tabH_8 : tabH 8 = tabL := by decide +kernel
/-- v points at the table -/
def Tbl (w : World) (B : Nat) (v : Value) : Prop := ∃ g, v = .pointer (some ⟨g, 0, none⟩) ∧ g < B ∧ Blk w g 95 (tabL.map v32).toArray
set_option maxRecDepth 100000 in
theorem new_at (w : World) : Calls Tryd.prog 39 #[] w fun e w' => e = .returned (.pointer (some ⟨w.heap.size, 0, none⟩)) ∧ Blk w' w.heap.size 95 (tabL.map v32).toArray ∧ Below w.heap.size w w' := by
  go_enter Tryd.func39, Tryd.ntmps39
  have hzv : ∀ w, (zeroValue 95).run Tryd.prog w = .ok (.agg (((tabK 0).map v32).toArray)) w := fun _ => by kernel_rfl
  go_wp2_with fail
  refine (primes_any _).mono ?_
  rintro e w1 ⟨v1, rfl, hown, hb1⟩
  have hT := (Blk.new w 95 ((tabK 0).map v32).toArray).below hb1 (Blk.new w 95 ((tabK 0).map v32).toArray).lt
  have hbel := (below_new1 w (Obj.cells ((tabK 0).map v32).toArray 95)).trans (hb1.mono (below_new1 w _).size)
  obtain ⟨A, cap, rfl, hc1, hc2, hr⟩ := Reads.own hown
  obtain ⟨bb, off, rfl, hbb, hcb⟩ := hr (by decide)
  have hne : w.heap.size < bb := by
    have := own_ge hown bb rfl
    have h2 : (w.alloc (Obj.cells ((tabK 0).map v32).toArray 95)).heap.size = w.heap.size + 1 := by simp
    omega
  have hcb1 : ∀ j, j < 64 → w1.cell? ⟨bb, off + j, none⟩ = some (.int .u64 (n64 (primeL.getD j 0))) := fun j hj => hcb j _ (v64_at primeL j hj)
  clear hr hcb hown hb1 hzv
  go_wp2_with fail
  go_loopw [3] (fun iv wr => ∃ k : Nat, k ≤ 64 ∧ iv = .int .i64 k ∧ Blk wr w.heap.size 95 ((tabK k).map v32).toArray ∧ (∀ j, j < 64 → wr.cell? ⟨bb, off + j, none⟩ = some (.int .u64 (n64 (primeL.getD j 0)))) ∧ bb < wr.heap.size ∧ Below w.heap.size w wr) (fun iv _ => 64 - (intOf iv).toNat)
  case atStart => exact ⟨0, by omega, rfl, hT, hcb1, hbb, hbel⟩
  case round =>
    clear hT hcb1 hbb hbel
    obtain ⟨k, hk, rfl, hT, hcb, hbb, hbel⟩ := hrel
    by_cases hlt : k < 64
    · have cp : ∀ e, (plus wr e).cell? ⟨bb, off + k, none⟩ = some (.int .u64 (n64 (primeL.getD k 0))) := fun e => ((plus_below wr e).cell (p := ⟨bb, _, none⟩) hbb).trans (hcb k hlt)
      have hroot := root_K k hlt
      have hset := tabK_set k hlt
      have hlen := tabK_len k hk
      generalize primeL.getD k 0 = p at cp hroot
      generalize K0.getD k 0 = kv at hroot hset
      have Hset := Lib.hid hset
      clear hset
      go_wp2_with fail
      refine wp_region_quiet_tail_plus 10 (by kernel_rfl) (by kernel_rfl) ?_
      simp only [List.take_succ_cons, List.take_zero, List.drop_succ_cons, List.drop_zero]
      repeat (go_big_quiet_step ((go_at_call 56; exact calls_plus (hroot _))))
      refine wpQuiet_nil ?_
      rintro _ ⟨e5, rfl⟩
      have hT5 := hT.plus e5
      have hbel5 := hbel.trans ((plus_below wr e5).mono hbel.size)
      have hbb5 : bb < (plus wr e5).heap.size := Nat.lt_of_lt_of_le hbb (plus_below wr e5).size
      have hcb5 : ∀ j, j < 64 → (plus wr e5).cell? ⟨bb, off + j, none⟩ = some (.int .u64 (n64 (primeL.getD j 0))) := fun j hj => ((plus_below wr e5).cell (p := ⟨bb, _, none⟩) hbb).trans (hcb j hj)
      clear cp hcb hT hbel hbb hroot
      generalize plus wr e5 = w5 at hT5 hbel5 hbb5 hcb5 ⊢
      go_wp2_with (first
        | (refine wpList_store1 rfl rfl 91 (.tmp 21) (.tmp 18) rfl w.heap.size k rfl (v32 kv) rfl _ _ hT5 (by kernel_rfl) (by simp; omega) rfl rfl ?_; intro w6 hT6 hon6))
      have hbel6 := below_only hbel5 hon6 (Nat.le_refl _) hbel5.size
      have hbb6 : bb < w6.heap.size := Nat.lt_of_lt_of_le hbb5 hon6.size
      have hcb6 : ∀ j, j < 64 → w6.cell? ⟨bb, off + j, none⟩ = some (.int .u64 (n64 (primeL.getD j 0))) := fun j hj => hon6.cell (hcb5 j hj) (by simp; omega)
      clear hcb5
      go_roundw
      case rel =>
        refine ⟨k + 1, by omega, by go_num, ?_, hcb6, hbb6, hbel6⟩
        rw [← Hset.out, List.map_set]
        rw [List.setIfInBounds_toArray] at hT6
        exact hT6
      case measure => simp [intOf]; omega
    · have ek : k = 64 := by omega
      subst ek
      rw [tabK_64] at hT
      go_wp2_with fail
      go_loopw [4] (fun iv wr => ∃ k : Nat, k ≤ 8 ∧ iv = .int .i64 k ∧ Blk wr w.heap.size 95 ((tabH k).map v32).toArray ∧ (∀ j, j < 64 → wr.cell? ⟨bb, off + j, none⟩ = some (.int .u64 (n64 (primeL.getD j 0)))) ∧ bb < wr.heap.size ∧ Below w.heap.size w wr) (fun iv _ => 8 - (intOf iv).toNat)
      case atStart => exact ⟨0, by omega, rfl, hT, hcb, hbb, hbel⟩
      case round =>
        clear hT hcb hbb hbel
        obtain ⟨k, hk, rfl, hT, hcb, hbb, hbel⟩ := hrel
        by_cases hlt : k < 8
        · have cp : ∀ e, (plus wr e).cell? ⟨bb, off + k, none⟩ = some (.int .u64 (n64 (primeL.getD k 0))) := fun e => ((plus_below wr e).cell (p := ⟨bb, _, none⟩) hbb).trans (hcb k (by omega))
          have hroot := root_H k hlt
          have hset := tabH_set k hlt
          have hlen := tabH_len k hk
          generalize primeL.getD k 0 = p at cp hroot
          generalize H0.list.getD k 0 = kv at hroot hset
          have Hset := Lib.hid hset
          clear hset
          go_wp2_with fail
          refine wp_region_quiet_tail_plus 10 (by kernel_rfl) (by kernel_rfl) ?_
          simp only [List.take_succ_cons, List.take_zero, List.drop_succ_cons, List.drop_zero]
          repeat (go_big_quiet_step ((go_at_call 56; exact calls_plus (hroot _))))
          refine wpQuiet_nil ?_
          rintro _ ⟨e5, rfl⟩
          have hT5 := hT.plus e5
          have hbel5 := hbel.trans ((plus_below wr e5).mono hbel.size)
          have hbb5 : bb < (plus wr e5).heap.size := Nat.lt_of_lt_of_le hbb (plus_below wr e5).size
          have hcb5 : ∀ j, j < 64 → (plus wr e5).cell? ⟨bb, off + j, none⟩ = some (.int .u64 (n64 (primeL.getD j 0))) := fun j hj => ((plus_below wr e5).cell (p := ⟨bb, _, none⟩) hbb).trans (hcb j hj)
          clear cp hcb hT hbel hbb hroot
          generalize plus wr e5 = w5 at hT5 hbel5 hbb5 hcb5 ⊢
          go_wp2_with (first
            | (refine wpList_store1 rfl rfl 91 (.tmp 35) (.tmp 32) rfl w.heap.size (64 + k) rfl (v32 kv) rfl _ _ hT5 (by kernel_rfl) (by simp; omega) rfl rfl ?_; intro w6 hT6 hon6))
          have hbel6 := below_only hbel5 hon6 (Nat.le_refl _) hbel5.size
          have hbb6 : bb < w6.heap.size := Nat.lt_of_lt_of_le hbb5 hon6.size
          have hcb6 : ∀ j, j < 64 → w6.cell? ⟨bb, off + j, none⟩ = some (.int .u64 (n64 (primeL.getD j 0))) := fun j hj => hon6.cell (hcb5 j hj) (by simp; omega)
          clear hcb5
          go_roundw
          case rel =>
            refine ⟨k + 1, by omega, by go_num, ?_, hcb6, hbb6, hbel6⟩
            rw [← Hset.out, List.map_set]
            rw [List.setIfInBounds_toArray] at hT6
            exact hT6
          case measure => simp [intOf]; omega
        · have ek : k = 8 := by omega
          subst ek
          rw [tabH_8] at hT
          go_wp2_with fail
          go_ret
          exact ⟨rfl, hT, hbel⟩
theorem new_any (w : World) : Calls Tryd.prog 39 #[] w fun e w' => ∃ v, e = .returned v ∧ Tbl w' w'.heap.size v ∧ Below w.heap.size w w' :=
  (new_at w).mono fun _ _ ⟨h1, h2, h3⟩ => ⟨_, h1, ⟨_, rfl, h2.lt, h2⟩, h3⟩
end Go.Proofs.YtkogehkmldbhgaaDoor
