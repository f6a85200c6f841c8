/- Texts that stand behind one another: VerL. No condition. -/
import Derived.Test.YtppglfgggfkcmaaDoorP13
import Derived.Test.YtppglfgggfkcmaaDoorP19
/- The walk of deponentlaw9's found. No condition. -/
namespace Go.Proofs.YtppglfgggfkcmaaDoor
open Go Go.RowKit
attribute [local irreducible] mixW
attribute [local go_sem] n8_lo n8_hi n64_lo n64_hi n32_lo n32_hi
theorem kw1 : cutW 1 = 1 := by decide
/-- what found hands back -/
def FoundP (a : List UInt8) (w' : World) (e : Ending) : Prop :=
  (∃ u, e = .returned (.tuple #[u, .bool false])) ∨ ∃ u b, e = .returned (.tuple #[u, .bool true]) ∧ BSl w' w'.heap.size u b ∧ b.length = 3 ∧ leafM 1 b = leafM 1 a ∧ b ≠ a
set_option maxHeartbeats 2000000 in
set_option maxRecDepth 100000 in
theorem found_any (v : Value) (ls : List (List UInt8)) (i : Nat) (hi : i < ls.length) (hl6 : ls.length ≤ 1000000) (hall : ∀ b ∈ ls, b.length ≤ 140737488355200) (w : World) (hv : SSl w w.heap.size v ls) (hG : Glob w) :
    Calls Tryd.prog 36 #[v, .int .i64 i] w fun e w' => FoundP (ls.getD i []) w' e ∧ Below w.heap.size w w' := by
  obtain ⟨A, cap, vs, rfl, h2, h3, h4, h5, h6⟩ := hv
  have hv : SSl w w.heap.size (.slice A ls.length cap) ls := ⟨A, cap, vs, rfl, h2, h3, h4, h5, h6⟩
  clear h3 h4 h5 h6 vs
  have hlt : (i : Int) < (ls.length : Int) := by omega
  obtain ⟨b0, off, u, eA, hb0, hcu, hu⟩ := hv.cellAt i hi
  subst eA
  have Hal := Lib.hid (hall (ls.getD i []) (by rw [List.getD_eq_getElem?_getD, List.getElem?_eq_getElem hi]; exact List.getElem_mem _))
  generalize ls.getD i [] = a at hu Hal ⊢
  have Hla := Lib.hid (sumM_length 1 (0 :: a))
  have Hu := Lib.hid (And.intro hu hb0)
  clear hv hall hu
  go_enter Tryd.func36, Tryd.ntmps36
  go_wp2_with fail
  refine (mleaf_any 1 u a w Hu.out.1 Hal.out hG).mono ?_
  rintro e w1 ⟨rfl, hb1⟩
  rw [kw1]
  have hcu1 := (hb1.cell (p := ⟨b0, off + i, none⟩) Hu.out.2).trans hcu
  have hb01 : b0 < w1.heap.size := Nat.lt_of_lt_of_le Hu.out.2 hb1.size
  have Hu1 := Lib.hid (Hu.out.1.next hb1)
  have hD := Blk.new w1 26 (arr 32 fun _ => 0)
  have hbn := below_new1 w1 (Obj.cells (arr 32 fun _ => 0) 26)
  have Hla2 : Hid ((leafM 1 a).length = 32) := Hla
  obtain ⟨la, hla⟩ : ∃ la, leafM 1 a = la := ⟨_, rfl⟩
  rw [hla] at Hla2 ⊢
  have HA := Lib.hid hla
  clear hla hcu hb0
  go_upto_region 2 with (first
    | (refine wpList_storeDat rfl rfl 26 (.tmp 6) (.tmp 13) rfl w1.heap.size rfl _ _ rfl _ hD (by kernel_rfl) ?_; intro w2 hD2 hon2))
  have hb2 := below_only hbn hon2 (Nat.le_refl _) hbn.size
  refine wp_at (fun W => Blk W w1.heap.size 26 (dat la) ∧ W.cell? ⟨b0, off + i, none⟩ = some u ∧ b0 < W.heap.size ∧ BSl W W.heap.size u a ∧ Below w.heap.size w W) ⟨hD2, (hb2.cell (p := ⟨b0, off + i, none⟩) hb01).trans hcu1, Nat.lt_of_lt_of_le hb01 hb2.size, Hu1.out.next hb2, hb1.trans (hb2.mono hb1.size)⟩ ?_
  obtain ⟨g6, hg6⟩ : ∃ g, w1.heap.size = g := ⟨_, rfl⟩
  rw [hg6]
  clear hD2 hon2 hb2 hD hbn hcu1 hb01 hb1 hg6 w2 Hu1 Hu
  rintro wz ⟨hD, hcu, hb0, hu, hbel⟩
  have HZ := Lib.hid (And.intro hD (And.intro hcu (And.intro hb0 (And.intro hu hbel))))
  clear hD hcu hb0 hu hbel
  go_wp2_with fail
  go_loopg [7] 3000 (fun g iv wr => ∃ k : Nat, k + g = 3000 ∧ iv = .int .i64 k ∧ Below wz.heap.size wz wr)
  case atStart => exact ⟨0, rfl, rfl, Below.refl _ _⟩
  case round =>
    obtain ⟨k, hkg, rfl, hbel⟩ := hrel
    by_cases hk : k < 3000
    · have hk' : (k : Int) < 3000 := by omega
      have b1 := byte_nat k
      have b2 : (k : Int) / 256 = n8 (UInt8.ofNat (k / 256)) := by have := byte_nat (k / 256); omega
      have hE := Blk.new wr 5 #[.int .u8 (n8 (UInt8.ofNat k)), .int .u8 (n8 (UInt8.ofNat (k / 256))), .int .u8 200]
      have hbn := below_new1 wr (Obj.cells #[.int .u8 (n8 (UInt8.ofNat k)), .int .u8 (n8 (UInt8.ofNat (k / 256))), .int .u8 200] 5)
      have hW : BSl (wr.alloc (Obj.cells #[.int .u8 (n8 (UInt8.ofNat k)), .int .u8 (n8 (UInt8.ofNat (k / 256))), .int .u8 200] 5)) (wr.alloc (Obj.cells #[.int .u8 (n8 (UInt8.ofNat k)), .int .u8 (n8 (UInt8.ofNat (k / 256))), .int .u8 200] 5)).heap.size (.slice (some ⟨wr.heap.size, 0, none⟩) 3 3) [UInt8.ofNat k, UInt8.ofNat (k / 256), 200] := Whole.bsl (b := [UInt8.ofNat k, UInt8.ofNat (k / 256), 200]) ⟨wr.heap.size, rfl, hE⟩ (by simp)
      replace hbel := hbel.trans (hbn.mono hbel.size)
      clear hE hbn
      go_upto_region 6 with fail
      refine wp_at (fun W => BSl W W.heap.size (.slice (some ⟨wr.heap.size, 0, none⟩) 3 3) [UInt8.ofNat k, UInt8.ofNat (k / 256), 200] ∧ Below wz.heap.size wz W) ⟨hW, hbel⟩ ?_
      clear hW hbel b1 b2
      obtain ⟨bb, hbb⟩ : ∃ bb : List UInt8, [UInt8.ofNat k, UInt8.ofNat (k / 256), 200] = bb := ⟨_, rfl⟩
      have hbl : bb.length = 3 := by rw [← hbb]; rfl
      rw [hbb]
      clear hbb
      rintro W0 ⟨hW, hbel⟩
      refine wp_region_mixP (.plain 0 <| .plain 2 <| .only 1 <| .plain 3 <| .plain 4 <| .plain 5 <| .plain 6 <| .plain 7 <| .plain 8 <| .plain 9 <| .plain 10 <| .plain 11 <| .plain 12 <| .plain 13 <| .done) (by kernel_rfl) (by kernel_rfl) (fun W1 hb1 => ?_)
      replace hW := hW.next hb1
      replace hbel := hbel.trans (hb1.mono hbel.size)
      have hD := HZ.out.1.below hbel HZ.out.1.lt
      clear hb1
      iterate 2 (refine mix_plain rfl ?_; (first
        | (refine wpQuiet_load rfl _ (.tmp 6) rfl g6 rfl _ _ _ _ (fun _ ⟨e, he⟩ => by rw [he]; exact hD.plus e) Tryd.underlying26 rfl (by kernel_rfl) ?_; simp only [Act.put, List.setIfInBounds_toArray, List.set_cons_zero, List.set_cons_succ])
        | go_big_quiet_step (fail)); refine wpQuiet_nil ?_)
      refine mix_only rfl (fun K hK => ?_)
      go_wp2_with fail
      refine (mleaf_any 1 _ bb W1 hW (by omega) (hG.next (HZ.out.2.2.2.2.trans (hbel.mono HZ.out.2.2.2.2.size)))).mono ?_
      rintro e W2 ⟨rfl, hb1⟩
      rw [kw1]
      go_wp2_with fail
      refine hK _ _ hb1 ?_
      clear hK K hD
      replace hW := hW.next hb1
      replace hbel := hbel.trans (hb1.mono hbel.size)
      clear hb1
      have Hl3 : Hid ((leafM 1 bb).length = 32) := Lib.hid (sumM_length 1 (0 :: bb))
      obtain ⟨lb, hlb⟩ : ∃ lb, leafM 1 bb = lb := ⟨_, rfl⟩
      rw [hlb] at Hl3 ⊢
      have HB := Lib.hid hlb
      clear hlb
      obtain ⟨e1, he1⟩ : ∃ e, decide (lb = la) = e := ⟨_, rfl⟩
      obtain ⟨e2, he2⟩ : ∃ e, decide (bb = a) = e := ⟨_, rfl⟩
      have HE := Lib.hid (And.intro he1 he2)
      clear he1 he2
      iterate 2 (refine mix_plain rfl ?_; (first
        | (refine wpQuiet_eqD rfl (.tmp 25) (.tmp 26) _ rfl lb la rfl rfl Hl3.out Hla2.out e1 HE.out.1 ?_; simp only [Act.put, List.setIfInBounds_toArray, List.set_cons_zero, List.set_cons_succ])
        | go_big_quiet_step (fail)); refine wpQuiet_nil ?_)
      cases e1 with
      | false =>
        clear hW
        iterate 8 (refine mix_skip rfl rfl ?_; simp only [Act.put, List.setIfInBounds_toArray, List.set_cons_zero, List.set_cons_succ])
        refine mix_plain rfl ?_
        go_big_quiet_step (fail)
        refine wpQuiet_nil ?_
        refine mix_done ?_
        go_wp2_with fail
        go_roundg (gk - 1)
        case measure => omega
        case rel => exact ⟨k + 1, by omega, by go_num, hbel⟩
      | true =>
        have hcu2 : W2.cell? ⟨b0, off + i, none⟩ = some u := (hbel.cell (p := ⟨b0, off + i, none⟩) HZ.out.2.2.1).trans HZ.out.2.1
        have hb02 : b0 < W2.heap.size := Nat.lt_of_lt_of_le HZ.out.2.2.1 hbel.size
        have hu2 := HZ.out.2.2.2.1.next hbel
        have HU := Lib.hid (And.intro hu2 hW)
        clear hu2 hW
        iterate 9 (refine mix_plain rfl ?_; (first
          | (refine wpQuiet_str rfl (.tmp 29) rfl _ bb W2.heap.size rfl (fun _ ⟨e, he⟩ => by rw [he]; exact HU.out.2.below (plus_below W2 e)) ?_; simp only [Act.put, List.setIfInBounds_toArray, List.set_cons_zero, List.set_cons_succ])
          | (refine wpQuiet_load1 rfl _ (.tmp 33) rfl _ rfl _ Tryd.underlying22 rfl _ (fun _ ⟨e, he⟩ => by rw [he, plus_cell _ _ _ hb02]; exact hcu2) ?_; simp only [Act.put, List.setIfInBounds_toArray, List.set_cons_zero, List.set_cons_succ])
          | (refine wpQuiet_str rfl (.tmp 34) rfl u a W2.heap.size rfl (fun _ ⟨e, he⟩ => by rw [he]; exact HU.out.1.below (plus_below W2 e)) ?_; simp only [Act.put, List.setIfInBounds_toArray, List.set_cons_zero, List.set_cons_succ])
          | (refine wpQuiet_neStr rfl (.tmp 30) (.tmp 35) _ rfl bb a rfl rfl e2 HE.out.2 ?_; simp only [Act.put, List.setIfInBounds_toArray, List.set_cons_zero, List.set_cons_succ])
          | go_big_quiet_step (fail)); refine wpQuiet_nil ?_)
        clear hcu2 hb02
        refine mix_done ?_
        cases e2 with
        | true =>
          go_wp2_with fail
          go_roundg (gk - 1)
          case measure => omega
          case rel => exact ⟨k + 1, by omega, by go_num, hbel⟩
        | false =>
          go_wp2_with fail
          try rw [Exit.noGoto_ret]
          go_ret2
          exact ⟨.inr ⟨_, bb, rfl, HU.out.2, hbl, by rw [HB.out, HA.out]; exact of_decide_eq_true HE.out.1, of_decide_eq_false HE.out.2⟩, HZ.out.2.2.2.2.trans (hbel.mono HZ.out.2.2.2.2.size)⟩
    · obtain rfl : k = 3000 := by omega
      have hlt2 : ¬ ((3000 : Nat) : Int) < 3000 := by decide
      go_wp2_with fail
      try rw [Exit.noGoto_ret]
      go_ret2
      exact ⟨.inl ⟨_, rfl⟩, HZ.out.2.2.2.2.trans (hbel.mono HZ.out.2.2.2.2.size)⟩
end Go.Proofs.YtppglfgggfkcmaaDoor
