/- The walks of codec's Writer. No condition. -/
import Derived.Test.YtbhmmoecoijojaaDoorKeysP
import Derived.Test.YtbhmmoecoijojaaDoorMixT
import Derived.Test.YtbhmmoecoijojaaDoorRefG
import Derived.Test.YtbhmmoecoijojaaDoorConst
import Derived.Lib.SliceRun
namespace Go.Proofs.YtbhmmoecoijojaaDoor
open Go.RowKit
attribute [local go_sem] n8_lo n8_hi n64_lo n64_hi
/-- the world at a call, by what is known of it -/
theorem calls_at {P : Program} {f : FuncId} {args : Array Value} {w : World} {R' : Ending → World → Prop} (R : World → Prop) (hR : R w) (h : ∀ W, R W → Calls P f args W R') : Calls P f args w R' := h w hR
theorem size_any (k : Int) (hk : -9223372036854775808 ≤ k ∧ k ≤ 9223372036854775807) (w : World) : Calls Tryd.prog 86 #[.int .i64 k] w fun e w' => e = .returned (.int .i64 (clamp8 k)) ∧ w = w' := by
  obtain ⟨h1, h2⟩ := hk
  have hc : clamp8 k = if k < 1 then 1 else if k > 8 then 8 else k.toNat := rfl
  by_cases a : k < 1
  · rw [if_pos a] at hc
    have Hc := Lib.hid hc
    clear hc
    go_enter Tryd.func86, Tryd.ntmps86
    go_wp2
    go_ret
    exact ⟨by rw [Hc.out]; rfl, rfl⟩
  · rw [if_neg a] at hc
    by_cases b : k > 8
    · rw [if_pos b] at hc
      have Hc := Lib.hid hc
      clear hc
      go_enter Tryd.func86, Tryd.ntmps86
      go_wp2
      go_ret
      exact ⟨by rw [Hc.out]; rfl, rfl⟩
    · rw [if_neg b] at hc
      have Hc := Lib.hid hc
      clear hc
      go_enter Tryd.func86, Tryd.ntmps86
      go_wp2
      go_ret
      exact ⟨by rw [Hc.out, Int.toNat_of_nonneg (by omega)]; rfl, rfl⟩
/-- p is a Writer of the call's own (from block B on), in which bs was written. -/
def Wrt (w : World) (B : Nat) (p : Value) (bs : List UInt8) : Prop :=
  ∃ g v, p = .pointer (some ⟨g, 0, none⟩) ∧ B ≤ g ∧ Blk w g 132 #[v] ∧ w.ownsRow B 5 1 v (bs.map v8).length (bs.map v8) ∧ v.ownBlock ≠ some g
theorem newWriter_any (w : World) : Calls Tryd.prog 67 #[] w fun e w' => ∃ p, e = .returned p ∧ Wrt w' w.heap.size p [] ∧ Below w.heap.size w w' := by
  go_enter Tryd.func67, Tryd.ntmps67
  go_wp2
  go_ret
  exact ⟨_, rfl, ⟨w.heap.size, .slice none 0 0, rfl, Nat.le_refl _, Blk.new w _ _, World.ownsRow_nil _ _ _ _, by intro h; cases h⟩, below_new1 w _⟩
set_option maxHeartbeats 1000000 in
set_option maxRecDepth 100000 in
theorem number_any (p : Value) (bs : List UInt8) (n : UInt64) (k : Int) (hk : -9223372036854775808 ≤ k ∧ k ≤ 9223372036854775807) (w : World) (B : Nat) (hW : Wrt w B p bs) (hB : B ≤ w.heap.size) (hl : bs.length ≤ 140737488355264) :
    Calls Tryd.prog 68 #[p, .int .u64 (n64 n), .int .i64 k] w fun e w' => e = .returned (.tuple #[]) ∧ Wrt w' B p (bs ++ numB n (clamp8 k)) ∧ Below B w w' := by
  obtain ⟨g, v, rfl, hg, hblk, hown, hne⟩ := hW
  have s1 := clamp8_lo k
  have s8 := clamp8_hi k
  go_enter Tryd.func68, Tryd.ntmps68
  go_wp2_with fail
  refine (size_any k hk _).mono ?_
  rintro e w' ⟨rfl, rfl⟩
  obtain ⟨s, hs⟩ : ∃ s, clamp8 k = s := ⟨_, rfl⟩
  rw [hs] at s1 s8
  have Hs := Lib.hid hs
  rw [hs]
  clear hs
  go_wp2_with fail
  have h0 := numTo_0 n s
  have hE := Lib.hid (numTo_end n s)
  have hS := Lib.hid (numTo_step n s)
  have hb0 := Lib.hid (byte_val n)
  go_loopw [6] (fun iv wr => ∃ (j : Nat) (u : Value), j ≤ s ∧ iv = .int .i64 ((j : Int) - 1) ∧ Blk wr g 132 #[u] ∧ wr.ownsRow B 5 1 u ((bs ++ numTo n s j).map v8).length ((bs ++ numTo n s j).map v8) ∧ u.ownBlock ≠ some g ∧ Below B w wr) (fun iv _ => ((intOf iv) + 1).toNat)
  case atStart => exact ⟨s, v, Nat.le_refl _, rfl, hblk, by rw [h0, List.append_nil]; exact hown, hne, Below.refl _ _⟩
  case round =>
    clear hblk hown hne h0 v
    obtain ⟨j, v, hj, rfl, hblk, hown, hne, hbel⟩ := hrel
    by_cases h0 : j = 0
    · subst h0
      have hd : decide ((0 : Int) ≤ ((0 : Nat) : Int) - 1) = false := by decide
      rw [hE.out] at hown
      go_wp2
      refine bodyPost_end (results_none rfl _ _ _) rfl ⟨rfl, ⟨g, v, rfl, hg, hblk, by rw [Hs.out]; exact hown, hne⟩, hbel⟩
    · obtain ⟨i, rfl⟩ : ∃ i, j = i + 1 := ⟨j - 1, by omega⟩
      have hi8 : i < 8 := by omega
      have hst := Lib.hid (hS.out i (by omega))
      have hbv := hb0.out i
      have hlt : (numTo n s (i + 1)).length ≤ 8 := by unfold numTo; rw [List.length_take, numB_length]; omega
      have hlen : ((bs ++ numTo n s (i + 1)).map v8).length + 1 ≤ 140737488355328 := by simp; omega
      have e8 : IntKind.i64.wrap (8 * (i : Int)) = ((8 * i : Nat) : Int) := by rw [IntWalk.i64_in _ (by omega)]; omega
      rw [show (((i + 1 : Nat) : Int) - 1) = (i : Int) by omega]
      have Hlen := Lib.hid hlen
      clear hlen
      go_wp2
      have hW0 := hblk.cell 0
      refine wp_region_mixS 14 (.plain 0 <| .plain 1 <| .plain 2 <| .plain 3 <| .plain 4 <| .plain 5 <| .plain 6 <| .plain 7 <| .plain 8 <| .plain 9 <| .only 10 <| .only 11 <| .plain 12 <| .plain 13 <| .done) (fun w' => w'.cell? ⟨g, 0, none⟩ = some v) (by kernel_rfl) (by kernel_rfl) hW0 ?_
      repeat (refine mix_plain rfl ?_; (first
        | (refine wpQuiet_nilCheck rfl (.tmp 15) rfl _ rfl ?_; simp only [Act.put, List.setIfInBounds_toArray, List.set_cons_zero, List.set_cons_succ])
        | (refine wpQuiet_nilCheck rfl (.tmp 14) rfl _ rfl ?_; simp only [Act.put, List.setIfInBounds_toArray, List.set_cons_zero, List.set_cons_succ])
        | (refine wpQuiet_load1 rfl _ (.tmp 17) rfl _ rfl _ Tryd.underlying32 rfl v (fun _ h => h) ?_; simp only [Act.put, List.setIfInBounds_toArray, List.set_cons_zero, List.set_cons_succ])
        | go_big_quiet_step ((intro _; rfl))
        | go_big_quiet_step (fail)); refine wpQuiet_nil ?_)
      rw [hbv]
      obtain ⟨i0, hi, hz0, hz1, hz2⟩ := info_parts (by kernel_rfl : (Tryd.prog.info? 5).map (fun i => (i.zero, i.size, i.bytes)) = some (some (.int .u8 0), 1, 1))
      have hownD : (wr.drewN 1).ownsRow B 5 1 v ((bs ++ numTo n s (i + 1)).map v8).length ((bs ++ numTo n s (i + 1)).map v8) := hown
      have hblkD := hblk.drewN 1
      have hbelD := below_drewN hbel 1
      have hsz := hbel.size
      clear hown hblk hbel hW0 e8 hbv
      have hBD : B ≤ (wr.drewN 1).heap.size := by show B ≤ wr.heap.size; omega
      generalize wr.drewN 1 = wd at hownD hblkD hbelD hBD ⊢
      have hn1 := below_new1 wd (Obj.cells #[.int .u8 (n8 (byteAt n i))] 5)
      have hblkA := hblkD.below hn1 hblkD.lt
      have hownA := own_below hownD hn1
      have hrd : Reads (wd.alloc (Obj.cells #[.int .u8 (n8 (byteAt n i))] 5)) (wd.heap.size + 1) (some ⟨wd.heap.size, 0, none⟩) [v8 (byteAt n i)] := Reads.of_blk (Blk.new wd 5 #[v8 (byteAt n i)]) (by omega) 0
      have hbelA := hbelD.alloc hBD (Obj.cells #[.int .u8 (n8 (byteAt n i))] 5)
      have hBA : B ≤ (wd.alloc (Obj.cells #[.int .u8 (n8 (byteAt n i))] 5)).heap.size := Nat.le_trans hBD hn1.size
      refine mix_only_in rfl (fun K hK => ?_)
      go_wp2_with fail
      refine hK _ _ (hblkA.cell 0) ?_
      clear hK K
      refine mix_only_in rfl (fun K hK => ?_)
      refine wpList_appendR rfl (.tmp 18) (.tmp 24) _ rfl B 5 i0 _ 1 Tryd.underlying32 hi hz0 hz1 hz2 rfl v _ rfl hownA (wd.heap.size + 1) (some ⟨wd.heap.size, 0, none⟩) 1 1 [v8 (byteAt n i)] rfl hrd rfl (oneCell_v8 [byteAt n i]) (by have := Hlen.out; unfold maxLen; omega) (by have := Hlen.out; omega) hBA ?_
      intro v' w2 hown2 hg2 hat2
      simp only [Act.put, List.setIfInBounds_toArray, List.set_cons_zero, List.set_cons_succ]
      have hneg : some g ≠ v.ownBlock := fun e => hne e.symm
      have hblk2 := hblkA.grown hg2 hneg
      have hbel2 := below_own hbelA hownA hg2 hBA
      have hne2 : v'.ownBlock ≠ some g := by
        rcases hat2 with e | e
        · rw [e]; exact hne
        · rw [e]; intro e2; injection e2 with e2; have := hblkA.lt; omega
      rw [show (bs ++ numTo n s (i + 1)).map v8 ++ [v8 (byteAt n i)] = (bs ++ numTo n s i).map v8 by rw [hst.out, ← List.append_assoc, List.map_append (l₁ := bs ++ numTo n s (i + 1))]; rfl] at hown2
      refine hK _ _ (hblk2.cell 0) ?_
      clear hK K hownA hrd hbelA hblkA hownD hblkD hbelD hg2 hat2 hneg hn1
      repeat (refine mix_plain rfl ?_; (first
        | (refine wpQuiet_nilCheck rfl (.tmp 14) rfl _ rfl ?_; simp only [Act.put, List.setIfInBounds_toArray, List.set_cons_zero, List.set_cons_succ])
        | go_big_quiet_step ((intro _; rfl))
        | go_big_quiet_step (fail)); refine wpQuiet_nil ?_)
      refine mix_done ?_
      simp only [List.drop_succ_cons, List.drop_zero]
      have h5 : w2.ownsRow B 5 1 v' ((bs ++ numTo n s i).map v8).length ((bs ++ numTo n s i).map v8) ∧ v'.ownBlock ≠ some g ∧ Below B w w2 := ⟨hown2, hne2, hbel2⟩
      have hv1 : v'.cells = #[v'] ∧ v'.oneCell' = true := by
        rcases hown2.2 with ⟨rfl, _⟩ | ⟨g', cap', cur, rfl, _⟩ <;> exact ⟨rfl, rfl⟩
      refine wpList_store1 rfl rfl _ (.tmp 27) (.tmp 25) rfl g 0 rfl v' rfl _ _ hblk2 (by kernel_rfl) (by simp) hv1.1 hv1.2 ?_
      intro w3 hblk3 hon3
      have hown3 := own_grown hown2 hon3 (fun g' hg' e => by injection e with e; subst e; exact hne2 hg')
      have hbel3 := below_only hbel2 hon3 hg (Nat.le_trans hB hbel2.size)
      have e3 : (#[v] : Array Value).setIfInBounds 0 v' = #[v'] := by simp
      rw [e3] at hblk3
      clear hblk2 hown2 hon3 hbel2 h5 hv1 e3 hst Hlen
      go_wp2
      go_roundw
      case rel => exact ⟨i, v', by omega, rfl, hblk3, hown3, hne2, hbel3⟩
      case measure => simp [intOf]
set_option maxRecDepth 100000 in
/-- slices.Clone of bytes -/
theorem clone_any (u : Value) (bs : List UInt8) (w : World) (hu : BSl w w.heap.size u bs) (hl : bs.length ≤ 140737488355328) :
    Calls Tryd.prog 63 #[u] w fun e w' => ∃ v, e = .returned v ∧ w'.ownsRow w.heap.size 5 1 v (bs.map v8).length (bs.map v8) ∧ Below w.heap.size w w' := by
  obtain ⟨A, c, rfl, h1, h2, hr⟩ := hu
  cases A with
  | none =>
    have hb : bs = [] := by
      cases bs with
      | nil => rfl
      | cons x xs => obtain ⟨_, _, e, _⟩ := hr (by simp); cases e
    subst hb
    have hnil : ∀ w, (binOp .eql 32 (.slice none 0 c) (.slice none 0 0)).run Tryd.prog w = .ok (.bool true) w := fun w => by rw [Lib.run_eql_slice_nil (P := Tryd.prog) w 32 5 none 0 c 0 0 Tryd.underlying32]; rfl
    go_enter Tryd.func63, Tryd.ntmps63
    go_wp2
    go_ret
    exact ⟨_, rfl, World.ownsRow_nil _ _ _ _, Below.refl _ _⟩
  | some A =>
    have hoe := own_emptyB w w.heap.size (Nat.le_refl _)
    have hb1 := below_new1 w (Obj.cells #[] 5)
    have hnil : ∀ w, (binOp .eql 32 (.slice (some A) bs.length c) (.slice none 0 0)).run Tryd.prog w = .ok (.bool false) w := fun w => by rw [Lib.run_eql_slice_nil (P := Tryd.prog) w 32 5 (some A) _ c 0 0 Tryd.underlying32]; rfl
    go_enter Tryd.func63, Tryd.ntmps63
    go_wp2_with (first
      | (at_builtin; refine wpList_appendS rfl (.tmp 5) (.tmp 6) rfl w.heap.size _ [] bs rfl hoe _ _ _ _ rfl rfl (hr.below hb1) (by simp; omega) hb1.size w hb1 ?_; intro u1 w1 hown1 hb2; simp only [List.nil_append] at hown1))
    go_ret
    exact ⟨_, rfl, hown1, hb2⟩
theorem done_any (p : Value) (bs : List UInt8) (w : World) (B : Nat) (hW : Wrt w B p bs) (hl : bs.length ≤ 140737488355328) :
    Calls Tryd.prog 70 #[p] w fun e w' => ∃ v, e = .returned v ∧ BSl w' w'.heap.size v bs ∧ w'.ownsRow w.heap.size 5 1 v (bs.map v8).length (bs.map v8) ∧ Below w.heap.size w w' := by
  obtain ⟨g, v, rfl, hg, hblk, hown, hne⟩ := hW
  have hc := hblk.cell 0
  have hB := BSl.of_own hown
  clear hblk hown hne
  go_enter Tryd.func70, Tryd.ntmps70
  go_wp2_with fail
  refine (clone_any v bs w hB hl).mono ?_
  rintro e w1 ⟨u, rfl, hown1, hb1⟩
  go_wp2_with fail
  go_ret
  exact ⟨_, rfl, BSl.of_own hown1, hown1, hb1⟩
set_option maxHeartbeats 1000000 in
set_option maxRecDepth 100000 in
theorem digest_any (p : Value) (bs d : List UInt8) (hd : d.length = 32) (w : World) (B : Nat) (hW : Wrt w B p bs) (hB : B ≤ w.heap.size) (hl : bs.length ≤ 140737488355264) :
    Calls Tryd.prog 73 #[p, .agg (dat d)] w fun e w' => e = .returned (.tuple #[]) ∧ Wrt w' B p (bs ++ d) ∧ Below B w w' := by
  obtain ⟨g, v, rfl, hg, hblk, hown, hne⟩ := hW
  obtain ⟨i0, hi, hz0, hz1, hz2⟩ := info_parts (by kernel_rfl : (Tryd.prog.info? 5).map (fun i => (i.zero, i.size, i.bytes)) = some (some (.int .u8 0), 1, 1))
  have hlt := hblk.lt
  have hD := Blk.new w 27 (dat d)
  have hb1 := below_new1 w (Obj.cells (dat d) 27)
  go_enter Tryd.func73, Tryd.ntmps73
  go_wp2
  refine wp_at (fun W => Blk W w.heap.size 27 (dat d) ∧ Below w.heap.size w W) ⟨hD, hb1⟩ ?_
  clear hD hb1
  rintro W ⟨hD, hb1⟩
  have hblkD := (hblk.below hb1 hlt).drewN 1
  have hownD : (W.drewN 1).ownsRow B 5 1 v (bs.map v8).length (bs.map v8) := own_below hown (below_drewN hb1 1)
  have hbelD := below_drewN (hb1.mono hB) 1
  have hDD := hD.drewN 1
  have hBD : B ≤ (W.drewN 1).heap.size := Nat.le_trans hB hb1.size
  have hrd := Reads.of_blk hDD hDD.lt 0
  rw [dat_eq d hd] at hrd
  have hlD : (d.map v8).length = 32 := by rw [List.length_map, hd]
  have HlD := Lib.hid hlD
  clear hlD
  refine wp_region_mixS 9 (.plain 0 <| .plain 1 <| .plain 2 <| .plain 3 <| .plain 4 <| .plain 5 <| .only 6 <| .plain 7 <| .plain 8 <| .done) (fun w' => w'.cell? ⟨g, 0, none⟩ = some v) (by kernel_rfl) (by kernel_rfl) (hblkD.cell 0) ?_
  clear hblk hown hb1 hD
  generalize W.drewN 1 = wd at hownD hblkD hbelD hBD hDD hrd ⊢
  repeat (refine mix_plain rfl ?_; (first
    | (refine wpQuiet_nilCheck rfl (.tmp 5) rfl _ rfl ?_; simp only [Act.put, List.setIfInBounds_toArray, List.set_cons_zero, List.set_cons_succ])
    | (refine wpQuiet_load1 rfl _ (.tmp 7) rfl _ rfl _ Tryd.underlying32 rfl v (fun _ h => h) ?_; simp only [Act.put, List.setIfInBounds_toArray, List.set_cons_zero, List.set_cons_succ])
    | go_big_quiet_step ((intro _; rfl))
    | go_big_quiet_step (fail)); refine wpQuiet_nil ?_)
  refine mix_only_in rfl (fun K hK => ?_)
  refine wpList_appendR rfl (.tmp 8) (.tmp 9) _ rfl B 5 i0 _ 1 Tryd.underlying32 hi hz0 hz1 hz2 rfl v _ rfl hownD wd.heap.size (some ⟨w.heap.size, 0, none⟩) 32 32 (d.map v8) rfl (by simpa using hrd) HlD.out (oneCell_v8 d) (by unfold maxLen; rw [List.length_map]; omega) (by rw [List.length_map]; omega) hBD ?_
  intro v' w2 hown2 hg2 hat2
  simp only [Act.put, List.setIfInBounds_toArray, List.set_cons_zero, List.set_cons_succ]
  have hneg : some g ≠ v.ownBlock := fun e => hne e.symm
  have hblk2 := hblkD.grown hg2 hneg
  have hbel2 := below_own hbelD hownD hg2 hBD
  have hne2 : v'.ownBlock ≠ some g := by
    rcases hat2 with e | e
    · rw [e]; exact hne
    · rw [e]; intro e2; injection e2 with e2; have := hblkD.lt; omega
  rw [← List.map_append] at hown2
  refine hK _ _ (hblk2.cell 0) ?_
  clear hK K hrd hownD hblkD hbelD hg2 hat2 hneg hDD
  repeat (refine mix_plain rfl ?_; (first
    | (refine wpQuiet_nilCheck rfl (.tmp 4) rfl _ rfl ?_; simp only [Act.put, List.setIfInBounds_toArray, List.set_cons_zero, List.set_cons_succ])
    | go_big_quiet_step ((intro _; rfl))
    | go_big_quiet_step (fail)); refine wpQuiet_nil ?_)
  refine mix_done ?_
  simp only [List.drop_succ_cons, List.drop_zero]
  have hv1 : v'.cells = #[v'] ∧ v'.oneCell' = true := by
    rcases hown2.2 with ⟨rfl, _⟩ | ⟨g', cap', cur, rfl, _⟩ <;> exact ⟨rfl, rfl⟩
  refine wpList_store1 rfl rfl _ (.tmp 12) (.tmp 10) rfl g 0 rfl v' rfl _ _ hblk2 (by kernel_rfl) (by simp) hv1.1 hv1.2 ?_
  intro w3 hblk3 hon3
  have hown3 := own_grown hown2 hon3 (fun g' hg' e => by injection e with e; subst e; exact hne2 hg')
  have hbel3 := below_only hbel2 hon3 hg (Nat.le_trans hB hbel2.size)
  have e3 : (#[v] : Array Value).setIfInBounds 0 v' = #[v'] := by simp
  rw [e3] at hblk3
  clear hblk2 hown2 hon3 hbel2 hv1 e3
  go_wp2
  exact bodyPost_end (results_none rfl _ _ _) rfl ⟨rfl, ⟨g, v', rfl, hg, hblk3, hown3, hne2⟩, hbel3⟩
end Go.Proofs.YtbhmmoecoijojaaDoor
