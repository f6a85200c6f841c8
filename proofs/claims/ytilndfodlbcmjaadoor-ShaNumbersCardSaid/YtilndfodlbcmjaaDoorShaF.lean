/- The walks of the statements' hex, known; of deponentbook's Within. No condition. -/
import Derived.Test.YtilndfodlbcmjaaDoorShaE
import Derived.Lib.SlBytesConst
namespace Go.Proofs.YtilndfodlbcmjaaDoor
open Go.RowKit
attribute [local go_sem] n8_lo n8_hi
def withinI (x lo hi : Int) : Int := if x.tmod (hi - lo + 1) < 0 then lo + (x.tmod (hi - lo + 1) + hi - lo + 1) else lo + x.tmod (hi - lo + 1)
theorem withinI_bounds (x lo hi : Int) (h1 : lo ≤ hi) : lo ≤ withinI x lo hi ∧ withinI x lo hi ≤ hi := by
  have b1 := Int.tmod_lt_of_pos x (show 0 < hi - lo + 1 by omega)
  have b2 := Int.lt_tmod_of_pos x (show 0 < hi - lo + 1 by omega)
  unfold withinI
  split <;> omega
theorem within_any (x lo hi : Int) (w : World) (h0 : 0 ≤ lo) (h1 : lo ≤ hi) (h2 : hi < 4611686018427387904) (_hx : -9223372036854775808 ≤ x) (_hx2 : x ≤ 9223372036854775807) :
    Calls Tryd.prog 11 #[.int .i64 x, .int .i64 lo, .int .i64 hi] w fun e w' => e = .returned (.int .i64 (withinI x lo hi)) ∧ w = w' := by
  have b1 := Int.tmod_lt_of_pos x (show 0 < hi - lo + 1 by omega)
  have b2 := Int.lt_tmod_of_pos x (show 0 < hi - lo + 1 by omega)
  by_cases hm : x.tmod (hi - lo + 1) < 0
  · have e : withinI x lo hi = lo + (x.tmod (hi - lo + 1) + hi - lo + 1) := if_pos hm
    have He := Lib.hid e
    clear e
    go_enter Tryd.func11, Tryd.ntmps11
    go_wp2
    go_ret
    rw [He.out]
    exact ⟨rfl, rfl⟩
  · have e : withinI x lo hi = lo + x.tmod (hi - lo + 1) := if_neg hm
    have He := Lib.hid e
    clear e
    go_enter Tryd.func11, Tryd.ntmps11
    go_wp2
    go_ret
    rw [He.out]
    exact ⟨rfl, rfl⟩
def hexC : List UInt8 := [48, 49, 50, 51, 52, 53, 54, 55, 56, 57, 97, 98, 99, 100, 101, 102]
theorem hex_cut (a : Nat) (h : a < 16) : ({ data := #[48, 49, 50, 51, 52, 53, 54, 55, 56, 57, 97, 98, 99, 100, 101, 102] } : ByteArray).extract a (a + 1) = ⟨[hexC.getD a 0].toArray⟩ := by
  have : a = 0 ∨ a = 1 ∨ a = 2 ∨ a = 3 ∨ a = 4 ∨ a = 5 ∨ a = 6 ∨ a = 7 ∨ a = 8 ∨ a = 9 ∨ a = 10 ∨ a = 11 ∨ a = 12 ∨ a = 13 ∨ a = 14 ∨ a = 15 := by omega
  rcases this with rfl | rfl | rfl | rfl | rfl | rfl | rfl | rfl | rfl | rfl | rfl | rfl | rfl | rfl | rfl | rfl <;> rfl
def hexL (d : List UInt8) : Nat → List UInt8
  | 0 => []
  | k + 1 => hexL d k ++ [hexC.getD ((d.getD k 0).toNat / 16) 0, hexC.getD ((d.getD k 0).toNat % 16) 0]
theorem hexL_length (d : List UInt8) (k : Nat) : (hexL d k).length = 2 * k := by
  induction k with
  | zero => rfl
  | succ k ih => simp [hexL, ih]; omega
theorem hex_any (d : List UInt8) (w : World) :
    Calls Tryd.prog 22 #[.agg (dat d)] w fun e w' => e = .returned (.string ⟨(hexL d 32).toArray⟩) ∧ Below w.heap.size w w' := by
  go_enter Tryd.func22, Tryd.ntmps22
  go_wp2
  refine wp_at (fun W => Blk W w.heap.size 24 (dat d) ∧ Below w.heap.size w W) ⟨Blk.new _ _ _, below_new1 _ _⟩ ?_
  intro W ⟨hB, hbel⟩
  go_loopw [3, 4] (fun u i wr => ∃ k : Nat, k ≤ 32 ∧ i = .int .i64 k ∧ u = .string ⟨(hexL d k).toArray⟩ ∧ Blk wr w.heap.size 24 (dat d) ∧ Below w.heap.size w wr) (fun _ i _ => 32 - (intOf i).toNat)
  case atStart => exact ⟨0, by omega, rfl, rfl, hB, hbel⟩
  case round =>
    clear hB hbel
    obtain ⟨k, hk, rfl, rfl, hB, hbel⟩ := hrel
    by_cases hlt : k < 32
    · have cB : wr.cell? ⟨w.heap.size, k, none⟩ = some (.int .u8 (n8 (d.getD k 0))) := by rw [hB.cell]; exact arr_at _ _ _ hlt
      have hstep : hexL d (k + 1) = hexL d k ++ [hexC.getD ((d.getD k 0).toNat / 16) 0, hexC.getD ((d.getD k 0).toNat % 16) 0] := rfl
      have hl := hexL_length d k
      generalize d.getD k 0 = x at cB hstep
      generalize hexL d k = l at hl hstep
      have hl2 : l.length ≤ 64 := by omega
      obtain ⟨a, ha⟩ : ∃ a : Nat, a = x.toNat / 16 := ⟨_, rfl⟩
      obtain ⟨b, hb⟩ : ∃ b : Nat, b = x.toNat % 16 := ⟨_, rfl⟩
      have ha16 : a < 16 := by have := x.toNat_lt; omega
      have hb16 : b < 16 := by omega
      have ea : n8 x / 16 = (a : Int) := by unfold n8; omega
      have eb : bits .and .u8 (n8 x) 15 = (b : Int) := by rw [u8_and15 _ (n8_lo x) (n8_hi x)]; unfold n8; omega
      have ea1 : ((a : Int) + 1) % 256 = (a : Int) + 1 := by omega
      have eb1 : ((b : Int) + 1) % 256 = (b : Int) + 1 := by omega
      rw [← ha, ← hb] at hstep
      have Hstep := Lib.hid hstep
      have xa := hex_cut a ha16
      have xb := hex_cut b hb16
      clear ha hb hstep hl
      generalize hexC.getD a 0 = ca at xa Hstep
      generalize hexC.getD b 0 = cb at xb Hstep
      go_wp2
      refine wp_region_quiet_lit (by kernel_rfl) (by kernel_rfl) ?_
      repeat (go_big_quiet_step (fail))
      refine wpQuiet_nil ?_
      intro W' hW'
      obtain ⟨nq, rfl⟩ := hW'
      go_wp2
      go_roundw
      case rel =>
        refine ⟨k + 1, by omega, by go_num, ?_, hB.drewN nq, below_drewN hbel nq⟩
        rw [Hstep.out]
        rw [show (ByteArray.mk #[ca]) = ⟨[ca].toArray⟩ from rfl, show (ByteArray.mk #[cb]) = ⟨[cb].toArray⟩ from rfl, ByteArray.mk_append_mk, ByteArray.mk_append_mk, List.append_assoc]
        rfl
      case measure => simp [intOf]; omega
    · have ek : k = 32 := by omega
      have Hek := Lib.hid ek
      clear ek
      go_wp2
      go_ret
      refine ⟨?_, hbel⟩
      rw [Hek.out]
      rfl
theorem hex_nil : hexL (sha []) 32 = [101, 51, 98, 48, 99, 52, 52, 50, 57, 56, 102, 99, 49, 99, 49, 52, 57, 97, 102, 98, 102, 52, 99, 56, 57, 57, 54, 102, 98, 57, 50, 52, 50, 55, 97, 101, 52, 49, 101, 52, 54, 52, 57, 98, 57, 51, 52, 99, 97, 52, 57, 53, 57, 57, 49, 98, 55, 56, 53, 50, 98, 56, 53, 53] := by decide +kernel
theorem hex_abc : hexL (sha [97, 98, 99]) 32 = [98, 97, 55, 56, 49, 54, 98, 102, 56, 102, 48, 49, 99, 102, 101, 97, 52, 49, 52, 49, 52, 48, 100, 101, 53, 100, 97, 101, 50, 50, 50, 51, 98, 48, 48, 51, 54, 49, 97, 51, 57, 54, 49, 55, 55, 97, 57, 99, 98, 52, 49, 48, 102, 102, 54, 49, 102, 50, 48, 48, 49, 53, 97, 100] := by decide +kernel
theorem known_any (w : World) (hG : Glob w) : Calls Tryd.prog 13 #[] w fun e w' => e = .returned (.bool true) ∧ Below w.heap.size w w' := by
  go_enter Tryd.func13, Tryd.ntmps13
  go_wp2_with fail
  refine (sum_b _ [] _ BSl.nil_ (by simp) hG).mono ?_
  rintro e w1 ⟨rfl, hb1⟩
  go_wp2_with fail
  refine (hex_any _ _).mono ?_
  rintro e w2 ⟨rfl, hb2⟩
  rw [hex_nil]
  have hbel2 := hb1.trans (hb2.mono hb1.size)
  have hG2 := hG.next hbel2
  have kc := fun (w : World) (C : Array Value) (n c : Nat) => Lib.run_convert_bytes_const (P := Tryd.prog) w 22 5 C n c Tryd.underlying22 Tryd.underlying5
  go_wp2_with fail
  have hX : (w2.alloc (Obj.cells #[.int .u8 97, .int .u8 98, .int .u8 99] 5 (3, 4))).heap[w2.heap.size]? = some (.cells (([97, 98, 99] : List UInt8).map v8).toArray 5 (3, 4)) := heap_alloc_new _ _
  have hb3 := below_new1 w2 (Obj.cells #[.int .u8 97, .int .u8 98, .int .u8 99] 5 (3, 4))
  have hlt : w2.heap.size < (w2.alloc (Obj.cells #[.int .u8 97, .int .u8 98, .int .u8 99] 5 (3, 4))).heap.size := by simp
  have hbel3 := hbel2.trans (hb3.mono hbel2.size)
  refine (sum_b _ [97, 98, 99] _ (BSl.of_marked hX _ hlt (by decide)) (by decide) (hG.next hbel3)).mono ?_
  rintro e w4 ⟨rfl, hb4⟩
  clear kc
  go_wp2_with fail
  refine (hex_any _ _).mono ?_
  rintro e w5 ⟨rfl, hb5⟩
  rw [hex_abc]
  have hbel4 := hbel3.trans (hb4.mono hbel3.size)
  have hbel5 := hbel4.trans (hb5.mono hbel4.size)
  go_wp2
  go_ret
  exact ⟨rfl, hbel5⟩
end Go.Proofs.YtilndfodlbcmjaaDoor
