/- The walk of the law CompactBlocks. Condition: the tables. -/
import Derived.Test.YtkogehkmldbhgaaDoorP16
namespace Go.Proofs.YtkogehkmldbhgaaDoor
open Go Go.RowKit
attribute [local irreducible] mixW
attribute [local go_sem] n8_lo n8_hi n64_lo n64_hi n32_lo n32_hi
theorem pow_and (j : Nat) : 2 ^ j &&& (2 ^ j - 1) = 0 := by rw [Nat.and_two_pow_sub_one_eq_mod]; exact Nat.mod_self _
set_option maxHeartbeats 1000000 in
set_option maxRecDepth 100000 in
theorem compactBlocks_walk (w : World) (hG : Glob w) (hT : Tz w) (b0 e0 : UInt64) :
    Calls Tryd.prog 3 #[.int .u64 (n64 b0), .int .u64 (n64 e0)] w fun r w' => r = .returned (.bool true) ∧ Below w.heap.size w w' := by
  obtain ⟨b, hb⟩ : ∃ b : Nat, b0.toNat = b := ⟨_, rfl⟩
  obtain ⟨e, he⟩ : ∃ e : Nat, e0.toNat = e := ⟨_, rfl⟩
  have hb64 : b < 18446744073709551616 := by rw [← hb]; exact b0.toNat_lt
  have he64 : e < 18446744073709551616 := by rw [← he]; exact e0.toNat_lt
  rw [show n64 b0 = (b : Int) by rw [← hb]; rfl, show n64 e0 = (e : Int) by rw [← he]; rfl]
  clear hb he
  go_enter Tryd.func3, Tryd.ntmps3
  go_wp2_with fail
  refine (blocks_any b e hb64 he64 w hT).mono ?_
  rintro r w1 ⟨u, rfl, hown, hbel⟩
  by_cases hno : e ≤ b ∨ 4294967296 < e
  · rw [toldL_nil hno] at hown
    obtain ⟨A, c, hu, _⟩ := hown.cells
    subst hu
    clear hown
    by_cases h1 : e ≤ b
    · have h1' : (e : Int) ≤ (b : Int) := by omega
      clear hno
      go_wp2_with fail
      refine (known10_any w1 (hG.next hbel) (hT.next hbel)).mono ?_
      rintro r w2 ⟨rfl, hb2⟩
      go_wp2_with fail
      go_ret
      exact ⟨rfl, hbel.trans (hb2.mono hbel.size)⟩
    · have h1' : ¬ (e : Int) ≤ (b : Int) := by omega
      have h2' : (4294967296 : Int) < (e : Int) := by omega
      clear hno
      go_wp2_with fail
      refine (known10_any w1 (hG.next hbel) (hT.next hbel)).mono ?_
      rintro r w2 ⟨rfl, hb2⟩
      go_wp2_with fail
      go_ret
      exact ⟨rfl, hbel.trans (hb2.mono hbel.size)⟩
  have h1' : ¬ (e : Int) ≤ (b : Int) := by omega
  have h2' : ¬ (4294967296 : Int) < (e : Int) := by omega
  have hE : e ≤ 4294967296 := by omega
  have hbe : b ≤ e := by omega
  have hl64 := toldL_le b e
  rw [show toldL b e = blocksL b e from if_pos hE] at hown hl64
  clear hno
  obtain ⟨A, c, hu, hcl, hcells⟩ := hown.cells
  subst hu
  obtain ⟨ns, hns⟩ : ∃ ns, blocksL b e = ns := ⟨_, rfl⟩
  rw [hns] at hcells hl64 hcl ⊢
  have HW := Lib.hid (And.intro hns hcells)
  clear hown hcells hns
  go_wp2_with fail
  clear h1' h2'
  go_loopw [6, 7] (fun va iv wr => ∃ (k a : Nat), k ≤ ns.length ∧ iv = .int .i64 k ∧ va = .int .u64 a ∧ a ≤ e ∧ ns.drop k = blocksL a e ∧ Below w1.heap.size w1 wr) (fun _ iv _ => ns.length - (intOf iv).toNat)
  case atStart => exact ⟨0, b, Nat.zero_le _, rfl, rfl, hbe, by rw [HW.out.1]; rfl, Below.refl _ _⟩
  case round =>
    obtain ⟨k, a, hk, rfl, rfl, hae, hdrop, hb⟩ := hrel
    by_cases hlt : k < ns.length
    · have hlt' : (k : Int) < (ns.length : Int) := by omega
      have hkc : (k : Int) < (c : Int) := by omega
      obtain ⟨g, rfl, hg1, hg2, hcell⟩ := HW.out.2 k hlt
      have hcw := (hb.cell (p := ⟨g, k, none⟩) hg2).trans hcell
      have hdrop1 : ns.drop k = ns.getD k 0 :: ns.drop (k + 1) := by rw [List.drop_eq_getElem_cons hlt, List.getD_eq_getElem?_getD, List.getElem?_eq_getElem hlt]; rfl
      have hlt2 : a < e := Nat.lt_of_not_le fun h => by rw [blocksL_nil h, hdrop1] at hdrop; cases hdrop
      have hblk := blk_is hlt2
      generalize blkF e a e = j at hblk
      have hs1 := blocksL_cons hblk
      rw [hs1, hdrop1] at hdrop
      injection hdrop with hse hdrop
      rw [hse] at hcw
      have hj1 := hblk.1
      have hj2 := hblk.2.1
      have hand := pow_and j
      have hpos := p2_pos j
      obtain ⟨s, hs⟩ : ∃ s, 2 ^ j = s := ⟨_, rfl⟩
      rw [hs] at hcw hdrop hj1 hj2 hand hpos
      have hcw' : wr.cell? ⟨g, k, none⟩ = some (.int .u64 (s : Int)) := hcw
      have hs0 : ((s : Int) == 0) = false := by simp; omega
      have hsub : IntKind.u64.wrap ((s : Int) - 1) = ((s - 1 : Nat) : Int) := by rw [IntWalk.u64_in _ (by omega)]; omega
      have hbit : bits BinOp.and IntKind.u64 (s : Int) ((s - 1 : Nat) : Int) = 0 := by rw [bits_and_u64_nat s (s - 1) (by omega) (by omega), hand]; rfl
      have hrem : (a : Int).tmod (s : Int) = 0 := by
        rw [Int.tmod_eq_emod_of_nonneg (by omega)]
        have : a % s = 0 := Nat.mod_eq_zero_of_dvd hj1
        omega
      have hadd : IntKind.u64.wrap ((a : Int) + s) = ((a + s : Nat) : Int) := by rw [IntWalk.u64_in _ (by omega)]; omega
      generalize hs1e : ((s - 1 : Nat) : Int) = s1 at hsub hbit
      have Hd := Lib.hid hdrop
      clear hblk hs1 hse hcw hj1 hand hs hdrop hdrop1 hcell hs1e
      go_upto_region 8 with fail
      refine wp_region_mixP (.plain 0 <| .plain 1 <| .plain 2 <| .plain 3 <| .plain 4 <| .plain 5 <| .plain 6 <| .plain 7 <| .plain 8 <| .plain 9 <| .plain 10 <| .plain 11 <| .plain 12 <| .plain 13 <| .plain 14 <| .plain 15 <| .plain 16 <| .plain 17 <| .plain 18 <| .plain 19 <| .plain 20 <| .plain 21 <| .plain 22 <| .plain 23 <| .plain 24 <| .plain 25 <| .plain 26 <| .done) (by kernel_rfl) (by kernel_rfl) (fun W1 hb1 => ?_)
      have hgw : g < wr.heap.size := Nat.lt_of_lt_of_le hg2 hb.size
      have hcW : W1.cell? ⟨g, k, none⟩ = some (.int .u64 (s : Int)) := (hb1.cell (p := ⟨g, k, none⟩) hgw).trans hcw'
      have hcp : ∀ x, (plus W1 x).cell? ⟨g, k, none⟩ = some (.int .u64 (s : Int)) := fun x => (plus_cell W1 x ⟨g, k, none⟩ (Nat.lt_of_lt_of_le hgw hb1.size)).trans hcW
      replace hb := hb.trans (hb1.mono hb.size)
      clear hb1 hcw' hgw
      iterate 27 (refine mix_plain rfl ?_; go_big_quiet_step (fail); refine wpQuiet_nil ?_)
      refine mix_done ?_
      clear hcp
      go_wp2_with fail
      go_roundw
      case rel => exact ⟨k + 1, a + s, by omega, by go_num, by go_num, hj2, Hd.out, hb⟩
      case measure => simp [intOf]; omega
    · have hlt' : ¬ ((k : Int) < (ns.length : Int)) := by omega
      have hkn : k = ns.length := by omega
      have hae2 : a = e := by
        rcases Nat.lt_or_ge a e with h | h
        · obtain ⟨s, h1, _⟩ := range_step 1 [] h
          rw [h1, hkn, List.drop_length] at hdrop
          cases hdrop
        · omega
      subst hae2
      have hbw := hbel.trans (hb.mono hbel.size)
      have hl64' : (ns.length : Int) ≤ 64 := by omega
      clear hdrop
      go_wp2_with fail
      refine (known10_any wr (hG.next hbw) (hT.next hbw)).mono ?_
      rintro r w2 ⟨rfl, hb2⟩
      go_wp2_with fail
      go_ret
      exact ⟨rfl, hbw.trans (hb2.mono hbw.size)⟩
end Go.Proofs.YtkogehkmldbhgaaDoor
