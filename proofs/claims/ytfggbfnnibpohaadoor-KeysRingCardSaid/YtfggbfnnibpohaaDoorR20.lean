/- Texts that stand behind one another: KeysKnown. No condition. -/
import Derived.Test.YtfggbfnnibpohaaDoorR15
/- The walk of deponentlaw11's known. No condition. -/
namespace Go.Proofs.YtfggbfnnibpohaaDoor
open Go.RowKit
attribute [local go_sem] n8_lo n8_hi n64_lo n64_hi n32_lo n32_hi
def seedTxt : List UInt8 := [115, 101, 101, 100]
def headA : HeadL := ⟨1, 7, 0, 0, List.replicate 32 0⟩
def headO : HeadL := ⟨0, 0, 0, 0, List.replicate 32 0⟩
def headS : HeadL := ⟨1, 0, 0, 0, List.replicate 32 0⟩
theorem headS_ok : headS.ok := ⟨by decide, by decide, by decide⟩
theorem headA_ok : headA.ok := ⟨by decide, by decide, by decide⟩
theorem headO_ok : headO.ok := ⟨by decide, by decide, by decide⟩
theorem built_A (w : World) : (Instr.build 37 #[(0, .int .i64 1), (1, .int .i64 7)]).run Tryd.prog w = .ok (.agg (headC headA)) w := by kernel_rfl
theorem built_O (w : World) : (Instr.build 37 #[]).run Tryd.prog w = .ok (.agg (headC headO)) w := by kernel_rfl
set_option maxHeartbeats 400000 in
set_option maxRecDepth 100000 in
theorem known11_any (w : World) (hG : Glob w) : Calls Tryd.prog 22 #[] w fun e w' => e = .returned (.bool true) ∧ Below w.heap.size w w' := by
  have kc := fun (w : World) (C : Array Value) (n c : Nat) => Lib.run_convert_bytes_const (P := Tryd.prog) w 22 5 C n c Tryd.underlying22 Tryd.underlying5
  go_enter Tryd.func22, Tryd.ntmps22
  go_wp2_with fail
  clear kc
  have hX : (w.alloc (Obj.cells #[.int .u8 115, .int .u8 101, .int .u8 101, .int .u8 100] 5 (4, 5))).heap[w.heap.size]? = some (.cells (seedTxt.map v8).toArray 5 (4, 5)) := heap_alloc_new _ _
  have hb1 := below_new1 w (Obj.cells #[.int .u8 115, .int .u8 101, .int .u8 101, .int .u8 100] 5 (4, 5))
  have hK1 := BSl.of_marked hX (w.alloc (Obj.cells #[.int .u8 115, .int .u8 101, .int .u8 101, .int .u8 100] 5 (4, 5))).heap.size (by simp) (by decide)
  refine calls_at (fun W => BSl W W.heap.size (.slice (some ⟨w.heap.size, 0, none⟩) 4 4) seedTxt ∧ Below w.heap.size w W) ⟨hK1, hb1⟩ ?_
  clear hX hb1 hK1
  rintro W ⟨hK, hbel⟩
  refine (newRing_any _ seedTxt W hK (by decide)).mono ?_
  rintro e w1 ⟨g, vs, rfl, hR, hb1⟩
  have hB1 := hb1.size
  have hz := hbel.size
  have hbel1 := hbel.trans (hb1.mono hz)
  clear hK hb1
  generalize W.heap.size = B at hR hB1 hz
  go_wp2_with fail
  refine (turn_ok g B seedTxt vs _ (fun _ => []) 1 (by decide) (by decide) 5 w1 hR hB1 (by decide) (hG.next hbel1)).mono ?_
  rintro e w2 ⟨rfl, ⟨rows, hR2⟩, hb2⟩
  have hbel2 := hbel1.trans (hb2.mono hz)
  clear hR hb2
  obtain ⟨ks, hks⟩ : ∃ ks : Nat → List (List UInt8), ks = fun j => if j = 1 then ([] : List (List UInt8)) ++ [keyL' seedTxt (1 : Nat) (([] : List (List UInt8)).length : Int) 5] else [] := ⟨_, rfl⟩
  obtain ⟨d, hdk, hdl⟩ : ∃ d, ks 1 = [d] ∧ d.length = 32 := ⟨keyL' seedTxt (1 : Nat) (([] : List (List UInt8)).length : Int) 5, by rw [hks]; rfl, mac_length _ _⟩
  rw [← hks] at hR2
  clear hks
  have hA : (⟨((1 : Nat) : Int), ((ks 1).length : Int) - 1, headA.size, headA.clock, headA.root⟩ : HeadL) = headS := by rw [hdk]; rfl
  have hT : tagL ((ks 1).getD ((ks 1).length - 1) []) headS = tagL d headS := by rw [hdk]; rfl
  have hbA := built_A
  have hzv := zero_sig
  go_wp2_with fail
  refine (rsign_ok g B seedTxt vs rows ks 1 (by decide) (by rw [hdk]; simp) (by rw [hdk]; simp) (fun k hk => by rw [hdk] at hk ⊢; have : k = 0 := (by simpa using hk); subst this; exact hdl) headA headA_ok rfl w2 hR2 (hG.next hbel2)).mono ?_
  rintro e w3 ⟨rfl, hb3⟩
  rw [hA, hT]
  have hR3 := hR2.below hb3
  have hbel3 := hbel2.trans (hb3.mono hbel2.size)
  clear hR2 hbel2 hb3 hA hT hbA
  have Hdk := Lib.hid hdk
  have Htl := Lib.hid (tagL_length d headS)
  obtain ⟨T, hTd⟩ : ∃ T, tagL d headS = T := ⟨_, rfl⟩
  have HT := Lib.hid hTd
  rw [hTd] at Htl ⊢
  clear hdk hTd
  have hD := Blk.new w3 45 (sigC zeroHead [])
  have hb4 := below_new1 w3 (Obj.cells (sigC zeroHead []) 45)
  go_upto_region 6 with (first
    | (refine wpList_storeB rfl rfl 45 (.tmp 4) (.tmp 20) rfl w3.heap.size 0 rfl (sigC headS T) rfl _ _ hD (by rw [sigC_size]; kernel_rfl) (by rw [sigC_size, sigC_size]; omega) (sigC_one _ _) ?_; intro w5 hS5 hon5))
  rw [copied_all _ _ (by rw [sigC_size, sigC_size])] at hS5
  have hb5 := below_only hb4 hon5 (Nat.le_refl _) hb4.size
  have hR5 := hR3.below hb5
  have hbel5 := hbel3.trans (hb5.mono hbel3.size)
  have c1 : w5.cell? ⟨w3.heap.size, 1, none⟩ = some (.int .i64 0) := by rw [hS5.cell, sigC_1]; rfl
  clear hD hb4 hon5 hb5 hR3 hbel3 hzv
  have hbO := built_O
  go_wp2_with (first
    | (refine wpList_loadW (by rfl) 45 (.tmp 4) rfl w3.heap.size rfl _ _ _ hS5 Tryd.underlying45 rfl (by rw [sigC_size]; kernel_rfl) ?_))
  refine (rholds_ok g B seedTxt vs rows ks 1 (by decide) 0 (by rw [Hdk.out]; simp) (by rw [Hdk.out]; simp) d (by rw [Hdk.out]; rfl) hdl headS headS_ok rfl rfl T Htl.out w5 hR5 (hG.next hbel5)).mono ?_
  rintro e w6 ⟨rfl, hb6⟩
  rw [decide_eq_true HT.out]
  have hbel6 := hbel5.trans (hb6.mono hbel5.size)
  clear hR5 hS5 c1 hbel5 hb6
  go_wp2_with fail
  refine (bytes_any headO headO_ok w6).mono ?_
  rintro e w7 ⟨v7, rfl, ⟨A7, c7, rfl, -, -, -⟩, hb7⟩
  have hbel7 := hbel6.trans (hb7.mono hbel6.size)
  have h57 := headB_length headO headO_ok.1
  rw [h57]
  clear hbel6 hb7 hbO h57
  go_wp2_with fail

  go_ret
  exact ⟨rfl, hbel7⟩
end Go.Proofs.YtfggbfnnibpohaaDoor
