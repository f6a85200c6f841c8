/- The walks of the reference deponentref8: New, sum, the texts, Leaf, Node. No condition. -/
import Derived.Test.YtbhmmoecoijojaaDoorTbl
import Derived.Test.YtbhmmoecoijojaaDoorRefG
import Derived.Test.YtbhmmoecoijojaaDoorRefH
import Derived.Test.YtbhmmoecoijojaaDoorMerkP
import Derived.Test.YtbhmmoecoijojaaDoorLit
namespace Go.Proofs.YtbhmmoecoijojaaDoor
open Go.RowKit
attribute [local irreducible] mixW
attribute [local go_sem] n8_lo n8_hi n64_lo n64_hi n32_lo n32_hi
/-- v is a Hasher of a width, below block B -/
def Hsr (w : World) (B : Nat) (v : Value) (n : Nat) : Prop := ∃ g t, v = .pointer (some ⟨g, 0, none⟩) ∧ g < B ∧ Blk w g 129 #[t, .int .i64 n] ∧ Tbl w B t ∧ 1 ≤ n ∧ n ≤ 32
theorem Hsr.nxt {w w' : World} {v : Value} {n : Nat} (h : Hsr w w.heap.size v n) (hb : Below w.heap.size w w') : Hsr w' w'.heap.size v n := by
  obtain ⟨g, t, rfl, hg, hB, ⟨g2, rfl, hg2, hT⟩, h1, h2⟩ := h
  exact ⟨g, _, rfl, Nat.lt_of_lt_of_le hg hb.size, hB.below hb hg, ⟨g2, rfl, Nat.lt_of_lt_of_le hg2 hb.size, hT.below hb hg2⟩, h1, h2⟩
set_option maxRecDepth 100000 in
theorem new8_any (t : Value) (x : Int) (w : World) (hT : Tbl w w.heap.size t) :
    Calls Tryd.prog 58 #[t, .int .i64 x] w fun e w' => ∃ v, e = .returned v ∧ Hsr w' w'.heap.size v (cutW x) ∧ Below w.heap.size w w' := by
  obtain ⟨g, rfl, hg, hT⟩ := hT
  have fin : ∀ n : Nat, 1 ≤ n → n ≤ 32 → Hsr (w.alloc (Obj.cells #[.pointer (some ⟨g, 0, none⟩), .int .i64 n] 129)) (w.alloc (Obj.cells #[.pointer (some ⟨g, 0, none⟩), .int .i64 n] 129)).heap.size (.pointer (some ⟨w.heap.size, 0, none⟩)) n ∧ Below w.heap.size w (w.alloc (Obj.cells #[.pointer (some ⟨g, 0, none⟩), .int .i64 n] 129)) := fun n h1 h2 => by
    have hb := below_new1 w (Obj.cells #[.pointer (some ⟨g, 0, none⟩), .int .i64 n] 129)
    have hX := Blk.new w 129 #[.pointer (some ⟨g, 0, none⟩), .int .i64 n]
    exact ⟨⟨w.heap.size, _, rfl, hX.lt, hX, ⟨g, rfl, Nat.lt_of_lt_of_le hg hb.size, hT.below hb hg⟩, h1, h2⟩, hb⟩
  by_cases h1 : x < 1
  · have hc : cutW x = 32 := if_pos (.inl h1)
    rw [hc]
    have hf := fin 32 (by decide) (by decide)
    have Hf := Lib.hid hf
    clear fin hf hc
    go_enter Tryd.func58, Tryd.ntmps58
    go_wp2
    go_ret
    exact ⟨_, rfl, Hf.out.1, Hf.out.2⟩
  · by_cases h2 : 32 < x
    · have hc : cutW x = 32 := if_pos (.inr h2)
      rw [hc]
      have hf := fin 32 (by decide) (by decide)
      have Hf := Lib.hid hf
      clear fin hf hc
      go_enter Tryd.func58, Tryd.ntmps58
      go_wp2
      go_ret
      exact ⟨_, rfl, Hf.out.1, Hf.out.2⟩
    · have hf := fin (cutW x) (cutW_lo x) (cutW_hi x)
      have h3 : (cutW x : Int) = x := by unfold cutW; rw [if_neg (by omega)]; omega
      rw [h3] at hf
      have Hf := Lib.hid hf
      clear fin hf h3
      go_enter Tryd.func58, Tryd.ntmps58
      go_wp2
      go_ret
      exact ⟨_, rfl, Hf.out.1, Hf.out.2⟩
set_option maxRecDepth 100000 in
theorem hasher_any (x : Int) (w : World) :
    Calls Tryd.prog 20 #[.int .i64 x] w fun e w' => ∃ v, e = .returned v ∧ Hsr w' w'.heap.size v (cutW x) ∧ Below w.heap.size w w' := by
  go_enter Tryd.func20, Tryd.ntmps20
  go_wp2_with fail
  refine (new_any w).mono ?_
  rintro e w1 ⟨t, rfl, hT, hb⟩
  go_wp2_with fail
  refine (new8_any t x w1 hT).mono ?_
  rintro e w2 ⟨v, rfl, hv, hb2⟩
  go_wp2_with fail
  go_ret
  exact ⟨_, rfl, hv, hb.trans (hb2.mono hb.size)⟩
set_option maxHeartbeats 400000 in
set_option maxRecDepth 100000 in
theorem r8sum_any (h v : Value) (n : Nat) (b : List UInt8) (w : World) (hh : Hsr w w.heap.size h n) (hv : BSl w w.heap.size v b) (hl : b.length ≤ 140737488355200) :
    Calls Tryd.prog 59 #[h, v] w fun e w' => e = .returned (.agg (dat (sumM n b))) ∧ Below w.heap.size w w' := by
  obtain ⟨g, t, rfl, hg, hB, hT, hn1, hn2⟩ := hh
  obtain ⟨gt, rfl, hgt, hTb⟩ := hT
  have hT : Tbl w w.heap.size (.pointer (some ⟨gt, 0, none⟩)) := ⟨gt, rfl, hgt, hTb⟩
  clear hTb
  have hD := Blk.new w 27 (arr 32 fun _ => 0)
  have hb0 := below_new1 w (Obj.cells (arr 32 fun _ => 0) 27)
  go_enter Tryd.func59, Tryd.ntmps59
  go_upto_region 1 with fail
  refine wp_at (fun W => Blk W w.heap.size 27 (arr 32 fun _ => 0) ∧ Below w.heap.size w W) ⟨hD, hb0⟩ ?_
  clear hD hb0
  rintro W ⟨hD, hbel⟩
  refine wp_region_mixT 11 (.plain 0 <| .plain 1 <| .plain 2 <| .plain 3 <| .plain 4 <| .plain 6 <| .plain 7 <| .plain 8 <| .plain 9 <| .only 5 <| .only 10 <| .done) (by kernel_rfl) (by kernel_rfl) (fun W1 hb1 => ?_)
  replace hD := hD.below hb1 hD.lt
  replace hbel := hbel.trans (hb1.mono hbel.size)
  clear hb1
  have hB1 := hB.below hbel hg
  have c0 : W1.cell? ⟨g, 0, none⟩ = some (.pointer (some ⟨gt, 0, none⟩)) := by have := hB1.cell 0; simpa using this
  have c1 : W1.cell? ⟨g, 1, none⟩ = some (.int .i64 n) := by have := hB1.cell 1; simpa using this
  have hgl := hB1.lt
  clear hB
  iterate 9 (refine mix_plain rfl ?_; (first
    | (refine wpQuiet_nilCheck rfl (.tmp 5) rfl _ rfl ?_; simp only [Act.put, List.setIfInBounds_toArray, List.set_cons_zero, List.set_cons_succ])
    | (refine wpQuiet_nilCheck rfl (.tmp 11) rfl _ rfl ?_; simp only [Act.put, List.setIfInBounds_toArray, List.set_cons_zero, List.set_cons_succ])
    | (refine wpQuiet_load1 rfl _ (.tmp 7) rfl _ rfl _ Tryd.underlying57 rfl _ (fun _ ⟨e, he⟩ => by rw [he, plus_cell _ _ _ hgl]; exact c0) ?_; simp only [Act.put, List.setIfInBounds_toArray, List.set_cons_zero, List.set_cons_succ])
    | (refine wpQuiet_load1 rfl _ (.tmp 13) rfl _ rfl _ Tryd.underlying3 rfl _ (fun _ ⟨e, he⟩ => by rw [he, plus_cell _ _ _ hgl]; exact c1) ?_; simp only [Act.put, List.setIfInBounds_toArray, List.set_cons_zero, List.set_cons_succ])
    | go_big_quiet_step (fail)); refine wpQuiet_nil ?_)
  clear c0 c1
  refine mix_only rfl (fun K hK => ?_)
  go_wp2_with fail
  refine (rsum_any _ v b W1 (hT.nxt hbel) (hv.next hbel) hl).mono ?_
  rintro e W2 ⟨rfl, hb1⟩
  go_wp2_with fail
  refine hK _ _ hb1 ?_
  clear hK K hB1
  replace hD := hD.below hb1 hD.lt
  replace hbel := hbel.trans (hb1.mono hbel.size)
  clear hb1
  refine mix_only rfl (fun K hK => ?_)
  go_wp2_with fail
  refine (rcut_any (sha b) (sha_length b) (n : Int) W2).mono ?_
  rintro e W3 ⟨rfl, hb1⟩
  go_wp2_with fail
  refine hK _ _ hb1 ?_
  clear hK K
  replace hD := hD.below hb1 hD.lt
  replace hbel := hbel.trans (hb1.mono hbel.size)
  clear hb1
  refine mix_done ?_
  simp only [List.drop_succ_cons, List.drop_zero]
  refine wpList_storeDat rfl rfl 27 (.tmp 4) (.tmp 15) rfl w.heap.size rfl _ _ rfl _ hD (by kernel_rfl) ?_
  intro w10 hD10 hon10
  have hb10 := below_only hbel hon10 (Nat.le_refl _) hbel.size
  go_wp2
  exact bodyPost_ret (results_cell_row (p := 4) (ty := 27) rfl _ _ w.heap.size _ _ _ _ rfl hD10 Tryd.underlying27 rfl (by rw [dat_size]; kernel_rfl)) rfl ⟨rfl, hb10⟩
end Go.Proofs.YtbhmmoecoijojaaDoor
