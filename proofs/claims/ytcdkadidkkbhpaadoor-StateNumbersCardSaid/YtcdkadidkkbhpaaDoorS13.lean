/- Texts that stand behind one another: Codec, Keys, Dig, KeysE, KeysS. No condition. -/
import Derived.Test.YtcdkadidkkbhpaaDoorS2
import Derived.Test.YtcdkadidkkbhpaaDoorS12
import Derived.Lib.SliceRun
import Derived.Deep.MidRow
import Derived.Test.YtcdkadidkkbhpaaDoorS8
import Derived.Maps.AppendAt
import Derived.Laws.StructEq
/- The walks of codec's Writer. No condition. -/
namespace Go.Proofs.YtcdkadidkkbhpaaDoor
open Go.RowKit
attribute [local go_sem] n8_lo n8_hi n64_lo n64_hi
theorem size_any (k : Int) (hk : -9223372036854775808 ≤ k ∧ k ≤ 9223372036854775807) (w : World) : Calls Tryd.prog 63 #[.int .i64 k] w fun e w' => e = .returned (.int .i64 (clamp8 k)) ∧ w = w' := by
  obtain ⟨h1, h2⟩ := hk
  have hc : clamp8 k = if k < 1 then 1 else if k > 8 then 8 else k.toNat := rfl
  by_cases a : k < 1
  · rw [if_pos a] at hc
    have Hc := Lib.hid hc
    clear hc
    go_enter Tryd.func63, Tryd.ntmps63
    go_wp2
    go_ret
    exact ⟨by rw [Hc.out]; rfl, rfl⟩
  · rw [if_neg a] at hc
    by_cases b : k > 8
    · rw [if_pos b] at hc
      have Hc := Lib.hid hc
      clear hc
      go_enter Tryd.func63, Tryd.ntmps63
      go_wp2
      go_ret
      exact ⟨by rw [Hc.out]; rfl, rfl⟩
    · rw [if_neg b] at hc
      have Hc := Lib.hid hc
      clear hc
      go_enter Tryd.func63, Tryd.ntmps63
      go_wp2
      go_ret
      exact ⟨by rw [Hc.out, Int.toNat_of_nonneg (by omega)]; rfl, rfl⟩
/-- p is a Writer of the call's own (from block B on), in which bs was written. -/
def Wrt (w : World) (B : Nat) (p : Value) (bs : List UInt8) : Prop :=
  ∃ g v, p = .pointer (some ⟨g, 0, none⟩) ∧ B ≤ g ∧ Blk w g 131 #[v] ∧ w.ownsRow B 5 1 v (bs.map v8).length (bs.map v8) ∧ v.ownBlock ≠ some g
theorem newWriter_any (w : World) : Calls Tryd.prog 39 #[] w fun e w' => ∃ p, e = .returned p ∧ Wrt w' w.heap.size p [] ∧ Below w.heap.size w w' := by
  go_enter Tryd.func39, Tryd.ntmps39
  go_wp2
  go_ret
  exact ⟨_, rfl, ⟨w.heap.size, .slice none 0 0, rfl, Nat.le_refl _, Blk.new w _ _, World.ownsRow_nil _ _ _ _, by intro h; cases h⟩, below_new1 w _⟩
set_option maxHeartbeats 1000000 in
set_option maxRecDepth 100000 in
theorem number_any (p : Value) (bs : List UInt8) (n : UInt64) (k : Int) (hk : -9223372036854775808 ≤ k ∧ k ≤ 9223372036854775807) (w : World) (B : Nat) (hW : Wrt w B p bs) (hB : B ≤ w.heap.size) (hl : bs.length ≤ 140737488355264) :
    Calls Tryd.prog 41 #[p, .int .u64 (n64 n), .int .i64 k] w fun e w' => e = .returned (.tuple #[]) ∧ Wrt w' B p (bs ++ numB n (clamp8 k)) ∧ Below B w w' := by
  obtain ⟨g, v, rfl, hg, hblk, hown, hne⟩ := hW
  have s1 := clamp8_lo k
  have s8 := clamp8_hi k
  go_enter Tryd.func41, Tryd.ntmps41
  go_wp2_with fail
  refine (size_any k hk _).mono ?_
  rintro e w' ⟨rfl, rfl⟩
  obtain ⟨s, hs⟩ : ∃ s, clamp8 k = s := ⟨_, rfl⟩
  rw [hs] at s1 s8
  have Hs := Lib.hid hs
  rw [hs]
  clear hs
  go_wp2_with fail
  have h0 := numTo_0 n s
  have hE := Lib.hid (numTo_end n s)
  have hS := Lib.hid (numTo_step n s)
  have hb0 := Lib.hid (byte_val n)
  go_loopw [6] (fun iv wr => ∃ (j : Nat) (u : Value), j ≤ s ∧ iv = .int .i64 ((j : Int) - 1) ∧ Blk wr g 131 #[u] ∧ wr.ownsRow B 5 1 u ((bs ++ numTo n s j).map v8).length ((bs ++ numTo n s j).map v8) ∧ u.ownBlock ≠ some g ∧ Below B w wr) (fun iv _ => ((intOf iv) + 1).toNat)
  case atStart => exact ⟨s, v, Nat.le_refl _, rfl, hblk, by rw [h0, List.append_nil]; exact hown, hne, Below.refl _ _⟩
  case round =>
    clear hblk hown hne h0 v
    obtain ⟨j, v, hj, rfl, hblk, hown, hne, hbel⟩ := hrel
    by_cases h0 : j = 0
    · subst h0
      have hd : decide ((0 : Int) ≤ ((0 : Nat) : Int) - 1) = false := by decide
      rw [hE.out] at hown
      go_wp2
      refine bodyPost_end (results_none rfl _ _ _) rfl ⟨rfl, ⟨g, v, rfl, hg, hblk, by rw [Hs.out]; exact hown, hne⟩, hbel⟩
    · obtain ⟨i, rfl⟩ : ∃ i, j = i + 1 := ⟨j - 1, by omega⟩
      have hi8 : i < 8 := by omega
      have hst := Lib.hid (hS.out i (by omega))
      have hbv := hb0.out i
      have hlt : (numTo n s (i + 1)).length ≤ 8 := by unfold numTo; rw [List.length_take, numB_length]; omega
      have hlen : ((bs ++ numTo n s (i + 1)).map v8).length + 1 ≤ 140737488355328 := by simp; omega
      have e8 : IntKind.i64.wrap (8 * (i : Int)) = ((8 * i : Nat) : Int) := by rw [IntWalk.i64_in _ (by omega)]; omega
      rw [show (((i + 1 : Nat) : Int) - 1) = (i : Int) by omega]
      have Hlen := Lib.hid hlen
      clear hlen
      go_wp2
      have hW0 := hblk.cell 0
      refine wp_region_mixS 14 (.plain 0 <| .plain 1 <| .plain 2 <| .plain 3 <| .plain 4 <| .plain 5 <| .plain 6 <| .plain 7 <| .plain 8 <| .plain 9 <| .only 10 <| .only 11 <| .plain 12 <| .plain 13 <| .done) (fun w' => w'.cell? ⟨g, 0, none⟩ = some v) (by kernel_rfl) (by kernel_rfl) hW0 ?_
      repeat (refine mix_plain rfl ?_; (first
        | (refine wpQuiet_nilCheck rfl (.tmp 15) rfl _ rfl ?_; simp only [Act.put, List.setIfInBounds_toArray, List.set_cons_zero, List.set_cons_succ])
        | (refine wpQuiet_nilCheck rfl (.tmp 14) rfl _ rfl ?_; simp only [Act.put, List.setIfInBounds_toArray, List.set_cons_zero, List.set_cons_succ])
        | (refine wpQuiet_load1 rfl _ (.tmp 17) rfl _ rfl _ Tryd.underlying23 rfl v (fun _ h => h) ?_; simp only [Act.put, List.setIfInBounds_toArray, List.set_cons_zero, List.set_cons_succ])
        | go_big_quiet_step ((intro _; rfl))
        | go_big_quiet_step (fail)); refine wpQuiet_nil ?_)
      rw [hbv]
      obtain ⟨i0, hi, hz0, hz1, hz2⟩ := info_parts (by kernel_rfl : (Tryd.prog.info? 5).map (fun i => (i.zero, i.size, i.bytes)) = some (some (.int .u8 0), 1, 1))
      have hownD : (wr.drewN 1).ownsRow B 5 1 v ((bs ++ numTo n s (i + 1)).map v8).length ((bs ++ numTo n s (i + 1)).map v8) := hown
      have hblkD := hblk.drewN 1
      have hbelD := below_drewN hbel 1
      have hsz := hbel.size
      clear hown hblk hbel hW0 e8 hbv
      have hBD : B ≤ (wr.drewN 1).heap.size := by show B ≤ wr.heap.size; omega
      generalize wr.drewN 1 = wd at hownD hblkD hbelD hBD ⊢
      have hn1 := below_new1 wd (Obj.cells #[.int .u8 (n8 (byteAt n i))] 5)
      have hblkA := hblkD.below hn1 hblkD.lt
      have hownA := own_below hownD hn1
      have hrd : Reads (wd.alloc (Obj.cells #[.int .u8 (n8 (byteAt n i))] 5)) (wd.heap.size + 1) (some ⟨wd.heap.size, 0, none⟩) [v8 (byteAt n i)] := Reads.of_blk (Blk.new wd 5 #[v8 (byteAt n i)]) (by omega) 0
      have hbelA := hbelD.alloc hBD (Obj.cells #[.int .u8 (n8 (byteAt n i))] 5)
      have hBA : B ≤ (wd.alloc (Obj.cells #[.int .u8 (n8 (byteAt n i))] 5)).heap.size := Nat.le_trans hBD hn1.size
      refine mix_only_in rfl (fun K hK => ?_)
      go_wp2_with fail
      refine hK _ _ (hblkA.cell 0) ?_
      clear hK K
      refine mix_only_in rfl (fun K hK => ?_)
      refine wpList_appendR rfl (.tmp 18) (.tmp 24) _ rfl B 5 i0 _ 1 Tryd.underlying23 hi hz0 hz1 hz2 rfl v _ rfl hownA (wd.heap.size + 1) (some ⟨wd.heap.size, 0, none⟩) 1 1 [v8 (byteAt n i)] rfl hrd rfl (oneCell_v8 [byteAt n i]) (by have := Hlen.out; unfold maxLen; omega) (by have := Hlen.out; omega) hBA ?_
      intro v' w2 hown2 hg2 hat2
      simp only [Act.put, List.setIfInBounds_toArray, List.set_cons_zero, List.set_cons_succ]
      have hneg : some g ≠ v.ownBlock := fun e => hne e.symm
      have hblk2 := hblkA.grown hg2 hneg
      have hbel2 := below_own hbelA hownA hg2 hBA
      have hne2 : v'.ownBlock ≠ some g := by
        rcases hat2 with e | e
        · rw [e]; exact hne
        · rw [e]; intro e2; injection e2 with e2; have := hblkA.lt; omega
      rw [show (bs ++ numTo n s (i + 1)).map v8 ++ [v8 (byteAt n i)] = (bs ++ numTo n s i).map v8 by rw [hst.out, ← List.append_assoc, List.map_append (l₁ := bs ++ numTo n s (i + 1))]; rfl] at hown2
      refine hK _ _ (hblk2.cell 0) ?_
      clear hK K hownA hrd hbelA hblkA hownD hblkD hbelD hg2 hat2 hneg hn1
      repeat (refine mix_plain rfl ?_; (first
        | (refine wpQuiet_nilCheck rfl (.tmp 14) rfl _ rfl ?_; simp only [Act.put, List.setIfInBounds_toArray, List.set_cons_zero, List.set_cons_succ])
        | go_big_quiet_step ((intro _; rfl))
        | go_big_quiet_step (fail)); refine wpQuiet_nil ?_)
      refine mix_done ?_
      simp only [List.drop_succ_cons, List.drop_zero]
      have h5 : w2.ownsRow B 5 1 v' ((bs ++ numTo n s i).map v8).length ((bs ++ numTo n s i).map v8) ∧ v'.ownBlock ≠ some g ∧ Below B w w2 := ⟨hown2, hne2, hbel2⟩
      have hv1 : v'.cells = #[v'] ∧ v'.oneCell' = true := by
        rcases hown2.2 with ⟨rfl, _⟩ | ⟨g', cap', cur, rfl, _⟩ <;> exact ⟨rfl, rfl⟩
      refine wpList_store1 rfl rfl _ (.tmp 27) (.tmp 25) rfl g 0 rfl v' rfl _ _ hblk2 (by kernel_rfl) (by simp) hv1.1 hv1.2 ?_
      intro w3 hblk3 hon3
      have hown3 := own_grown hown2 hon3 (fun g' hg' e => by injection e with e; subst e; exact hne2 hg')
      have hbel3 := below_only hbel2 hon3 hg (Nat.le_trans hB hbel2.size)
      have e3 : (#[v] : Array Value).setIfInBounds 0 v' = #[v'] := by simp
      rw [e3] at hblk3
      clear hblk2 hown2 hon3 hbel2 h5 hv1 e3 hst Hlen
      go_wp2
      go_roundw
      case rel => exact ⟨i, v', by omega, rfl, hblk3, hown3, hne2, hbel3⟩
      case measure => simp [intOf]
set_option maxRecDepth 100000 in
/-- slices.Clone of bytes -/
theorem clone_any (u : Value) (bs : List UInt8) (w : World) (hu : BSl w w.heap.size u bs) (hl : bs.length ≤ 140737488355328) :
    Calls Tryd.prog 25 #[u] w fun e w' => ∃ v, e = .returned v ∧ w'.ownsRow w.heap.size 5 1 v (bs.map v8).length (bs.map v8) ∧ Below w.heap.size w w' := by
  obtain ⟨A, c, rfl, h1, h2, hr⟩ := hu
  cases A with
  | none =>
    have hb : bs = [] := by
      cases bs with
      | nil => rfl
      | cons x xs => obtain ⟨_, _, e, _⟩ := hr (by simp); cases e
    subst hb
    have hnil : ∀ w, (binOp .eql 23 (.slice none 0 c) (.slice none 0 0)).run Tryd.prog w = .ok (.bool true) w := fun w => by rw [Lib.run_eql_slice_nil (P := Tryd.prog) w 23 5 none 0 c 0 0 Tryd.underlying23]; rfl
    go_enter Tryd.func25, Tryd.ntmps25
    go_wp2
    go_ret
    exact ⟨_, rfl, World.ownsRow_nil _ _ _ _, Below.refl _ _⟩
  | some A =>
    have hoe := own_emptyB w w.heap.size (Nat.le_refl _)
    have hb1 := below_new1 w (Obj.cells #[] 5)
    have hnil : ∀ w, (binOp .eql 23 (.slice (some A) bs.length c) (.slice none 0 0)).run Tryd.prog w = .ok (.bool false) w := fun w => by rw [Lib.run_eql_slice_nil (P := Tryd.prog) w 23 5 (some A) _ c 0 0 Tryd.underlying23]; rfl
    go_enter Tryd.func25, Tryd.ntmps25
    go_wp2_with (first
      | (at_builtin; refine wpList_appendS rfl (.tmp 5) (.tmp 6) rfl w.heap.size _ [] bs rfl hoe _ _ _ _ rfl rfl (hr.below hb1) (by simp; omega) hb1.size w hb1 ?_; intro u1 w1 hown1 hb2; simp only [List.nil_append] at hown1))
    go_ret
    exact ⟨_, rfl, hown1, hb2⟩
theorem done_any (p : Value) (bs : List UInt8) (w : World) (B : Nat) (hW : Wrt w B p bs) (hl : bs.length ≤ 140737488355328) :
    Calls Tryd.prog 45 #[p] w fun e w' => ∃ v, e = .returned v ∧ BSl w' w'.heap.size v bs ∧ w'.ownsRow w.heap.size 5 1 v (bs.map v8).length (bs.map v8) ∧ Below w.heap.size w w' := by
  obtain ⟨g, v, rfl, hg, hblk, hown, hne⟩ := hW
  have hc := hblk.cell 0
  have hB := BSl.of_own hown
  clear hblk hown hne
  go_enter Tryd.func45, Tryd.ntmps45
  go_wp2_with fail
  refine (clone_any v bs w hB hl).mono ?_
  rintro e w1 ⟨u, rfl, hown1, hb1⟩
  go_wp2_with fail
  go_ret
  exact ⟨_, rfl, BSl.of_own hown1, hown1, hb1⟩
set_option maxHeartbeats 1000000 in
set_option maxRecDepth 100000 in
theorem digest_any (p : Value) (bs d : List UInt8) (hd : d.length = 32) (w : World) (B : Nat) (hW : Wrt w B p bs) (hB : B ≤ w.heap.size) (hl : bs.length ≤ 140737488355264) :
    Calls Tryd.prog 44 #[p, .agg (dat d)] w fun e w' => e = .returned (.tuple #[]) ∧ Wrt w' B p (bs ++ d) ∧ Below B w w' := by
  obtain ⟨g, v, rfl, hg, hblk, hown, hne⟩ := hW
  obtain ⟨i0, hi, hz0, hz1, hz2⟩ := info_parts (by kernel_rfl : (Tryd.prog.info? 5).map (fun i => (i.zero, i.size, i.bytes)) = some (some (.int .u8 0), 1, 1))
  have hlt := hblk.lt
  have hD := Blk.new w 38 (dat d)
  have hb1 := below_new1 w (Obj.cells (dat d) 38)
  go_enter Tryd.func44, Tryd.ntmps44
  go_wp2
  refine wp_at (fun W => Blk W w.heap.size 38 (dat d) ∧ Below w.heap.size w W) ⟨hD, hb1⟩ ?_
  clear hD hb1
  rintro W ⟨hD, hb1⟩
  have hblkD := (hblk.below hb1 hlt).drewN 1
  have hownD : (W.drewN 1).ownsRow B 5 1 v (bs.map v8).length (bs.map v8) := own_below hown (below_drewN hb1 1)
  have hbelD := below_drewN (hb1.mono hB) 1
  have hDD := hD.drewN 1
  have hBD : B ≤ (W.drewN 1).heap.size := Nat.le_trans hB hb1.size
  have hrd := Reads.of_blk hDD hDD.lt 0
  rw [dat_eq d hd] at hrd
  have hlD : (d.map v8).length = 32 := by rw [List.length_map, hd]
  have HlD := Lib.hid hlD
  clear hlD
  refine wp_region_mixS 9 (.plain 0 <| .plain 1 <| .plain 2 <| .plain 3 <| .plain 4 <| .plain 5 <| .only 6 <| .plain 7 <| .plain 8 <| .done) (fun w' => w'.cell? ⟨g, 0, none⟩ = some v) (by kernel_rfl) (by kernel_rfl) (hblkD.cell 0) ?_
  clear hblk hown hb1 hD
  generalize W.drewN 1 = wd at hownD hblkD hbelD hBD hDD hrd ⊢
  repeat (refine mix_plain rfl ?_; (first
    | (refine wpQuiet_nilCheck rfl (.tmp 5) rfl _ rfl ?_; simp only [Act.put, List.setIfInBounds_toArray, List.set_cons_zero, List.set_cons_succ])
    | (refine wpQuiet_load1 rfl _ (.tmp 7) rfl _ rfl _ Tryd.underlying23 rfl v (fun _ h => h) ?_; simp only [Act.put, List.setIfInBounds_toArray, List.set_cons_zero, List.set_cons_succ])
    | go_big_quiet_step ((intro _; rfl))
    | go_big_quiet_step (fail)); refine wpQuiet_nil ?_)
  refine mix_only_in rfl (fun K hK => ?_)
  refine wpList_appendR rfl (.tmp 8) (.tmp 9) _ rfl B 5 i0 _ 1 Tryd.underlying23 hi hz0 hz1 hz2 rfl v _ rfl hownD wd.heap.size (some ⟨w.heap.size, 0, none⟩) 32 32 (d.map v8) rfl (by simpa using hrd) HlD.out (oneCell_v8 d) (by unfold maxLen; rw [List.length_map]; omega) (by rw [List.length_map]; omega) hBD ?_
  intro v' w2 hown2 hg2 hat2
  simp only [Act.put, List.setIfInBounds_toArray, List.set_cons_zero, List.set_cons_succ]
  have hneg : some g ≠ v.ownBlock := fun e => hne e.symm
  have hblk2 := hblkD.grown hg2 hneg
  have hbel2 := below_own hbelD hownD hg2 hBD
  have hne2 : v'.ownBlock ≠ some g := by
    rcases hat2 with e | e
    · rw [e]; exact hne
    · rw [e]; intro e2; injection e2 with e2; have := hblkD.lt; omega
  rw [← List.map_append] at hown2
  refine hK _ _ (hblk2.cell 0) ?_
  clear hK K hrd hownD hblkD hbelD hg2 hat2 hneg hDD
  repeat (refine mix_plain rfl ?_; (first
    | (refine wpQuiet_nilCheck rfl (.tmp 4) rfl _ rfl ?_; simp only [Act.put, List.setIfInBounds_toArray, List.set_cons_zero, List.set_cons_succ])
    | go_big_quiet_step ((intro _; rfl))
    | go_big_quiet_step (fail)); refine wpQuiet_nil ?_)
  refine mix_done ?_
  simp only [List.drop_succ_cons, List.drop_zero]
  have hv1 : v'.cells = #[v'] ∧ v'.oneCell' = true := by
    rcases hown2.2 with ⟨rfl, _⟩ | ⟨g', cap', cur, rfl, _⟩ <;> exact ⟨rfl, rfl⟩
  refine wpList_store1 rfl rfl _ (.tmp 12) (.tmp 10) rfl g 0 rfl v' rfl _ _ hblk2 (by kernel_rfl) (by simp) hv1.1 hv1.2 ?_
  intro w3 hblk3 hon3
  have hown3 := own_grown hown2 hon3 (fun g' hg' e => by injection e with e; subst e; exact hne2 hg')
  have hbel3 := below_only hbel2 hon3 hg (Nat.le_trans hB hbel2.size)
  have e3 : (#[v] : Array Value).setIfInBounds 0 v' = #[v'] := by simp
  rw [e3] at hblk3
  clear hblk2 hown2 hon3 hbel2 hv1 e3
  go_wp2
  exact bodyPost_end (results_none rfl _ _ _) rfl ⟨rfl, ⟨g, v', rfl, hg, hblk3, hown3, hne2⟩, hbel3⟩
end Go.Proofs.YtcdkadidkkbhpaaDoor

/- The walks of keys' Key, Bytes, Sign, Holds. No condition. -/
namespace Go.Proofs.YtcdkadidkkbhpaaDoor
open Go.RowKit
attribute [local go_sem] n8_lo n8_hi n64_lo n64_hi n32_lo n32_hi
theorem Wrt.below {w w' : World} {B : Nat} {p : Value} {bs : List UInt8} (h : Wrt w B p bs) (hb : Below w.heap.size w w') : Wrt w' B p bs := by
  obtain ⟨g, v, rfl, hg, hblk, hown, hne⟩ := h
  exact ⟨g, v, rfl, hg, hblk.below hb hblk.lt, own_below hown hb, hne⟩
def keyB (tree epoch : Int) (draw : UInt32) : List UInt8 := keyTxt ++ (numB (i64u tree) 1 ++ numB (i64u epoch) 4 ++ numB draw.toUInt64 4)
theorem keyB_length (tree epoch : Int) (draw : UInt32) : (keyB tree epoch draw).length = 12 := by simp [keyB, keyTxt, numB_length]
/-- a key of the document -/
def keyL' (seed : List UInt8) (tree epoch : Int) (draw : UInt32) : List UInt8 := mac seed (keyB tree epoch draw)
theorem cv32_64 (x : UInt32) : n32 x % 18446744073709551616 = n64 x.toUInt64 := by
  unfold n32 n64; have := x.toNat_lt; rw [UInt32.toNat_toUInt64]; omega
set_option maxHeartbeats 1000000 in
set_option maxRecDepth 100000 in
theorem key_any (u : Value) (seed : List UInt8) (tree epoch : Int) (draw : UInt32) (w : World) (hu : BSl w w.heap.size u seed) (hl : seed.length ≤ 140737488355264) (hG : Glob w)
    (ht : -9223372036854775808 ≤ tree ∧ tree ≤ 9223372036854775807) (he : -9223372036854775808 ≤ epoch ∧ epoch ≤ 9223372036854775807) :
    Calls Tryd.prog 22 #[u, .int .i64 tree, .int .i64 epoch, .int .u32 (n32 draw)] w fun e w' => e = .returned (.agg (dat (keyL' seed tree epoch draw))) ∧ Below w.heap.size w w' := by
  obtain ⟨ht1, ht2⟩ := ht
  obtain ⟨he1, he2⟩ := he
  have v1 := Lib.hid ((wrap_u64' tree).trans (i64u_val tree))
  have v2 := Lib.hid ((wrap_u64' epoch).trans (i64u_val epoch))
  have hD := Blk.new w 38 (arr 32 fun _ => 0)
  have hb0 := below_new1 w (Obj.cells (arr 32 fun _ => 0) 38)
  go_enter Tryd.func22, Tryd.ntmps22
  go_wp2_with fail
  refine calls_at (fun W => Blk W w.heap.size 38 (arr 32 fun _ => 0) ∧ Below w.heap.size w W) ⟨hD, hb0⟩ ?_
  clear hD hb0
  rintro W ⟨hD, hb0⟩
  refine (newWriter_any W).mono ?_
  rintro e w1 ⟨p, rfl, hW1, hb1⟩
  have hD1 := hD.below hb1 hD.lt
  have hbel1 := hb0.trans (hb1.mono hb0.size)
  have hBw : w.heap.size < W.heap.size := hD.lt
  have hB1 : W.heap.size ≤ w1.heap.size := hb1.size
  clear hD hb0 hb1
  generalize W.heap.size = B at hW1 hBw hB1
  go_wp2_with fail
  rw [v1.out]
  refine (number_any p [] (i64u tree) 1 (by decide) w1 B hW1 hB1 (by simp)).mono ?_
  rintro e w2 ⟨rfl, hW2, hb2⟩
  rw [show clamp8 1 = 1 from rfl, List.nil_append] at hW2
  have hD2 := hD1.below hb2 hBw
  have hbel2 := hbel1.trans (hb2.mono (by omega))
  have hB2 := Nat.le_trans hB1 hb2.size
  clear hD1 hbel1 hb2 hW1
  go_wp2_with fail
  rw [v2.out]
  refine (number_any p _ (i64u epoch) 4 (by decide) w2 B hW2 hB2 (by simp [numB_length])).mono ?_
  rintro e w3 ⟨rfl, hW3, hb3⟩
  rw [show clamp8 4 = 4 from rfl] at hW3
  have hD3 := hD2.below hb3 hBw
  have hbel3 := hbel2.trans (hb3.mono (by omega))
  have hB3 := Nat.le_trans hB2 hb3.size
  clear hD2 hbel2 hb3 hW2
  go_wp2_with fail
  rw [show IntKind.u64.wrap (n32 draw) = n64 draw.toUInt64 from (wrap_u64' _).trans (cv32_64 draw)]
  refine (number_any p _ draw.toUInt64 4 (by decide) w3 B hW3 hB3 (by simp [numB_length])).mono ?_
  rintro e w4 ⟨rfl, hW4, hb4⟩
  rw [show clamp8 4 = 4 from rfl] at hW4
  have hD4 := hD3.below hb4 hBw
  have hbel4 := hbel3.trans (hb4.mono (by omega))
  have hB4 := Nat.le_trans hB3 hb4.size
  clear hD3 hbel3 hb4 hW3
  have kc := fun (w : World) (C : Array Value) (n c : Nat) => Lib.run_convert_bytes_const (P := Tryd.prog) w 23 5 C n c Tryd.underlying23 Tryd.underlying5
  go_wp2_with fail
  clear kc
  have hX : (w4.alloc (Obj.cells #[.int .u8 107, .int .u8 101, .int .u8 121] 5 (3, 4))).heap[w4.heap.size]? = some (.cells (keyTxt.map v8).toArray 5 (3, 4)) := heap_alloc_new _ _
  have hb5 := below_new1 w4 (Obj.cells #[.int .u8 107, .int .u8 101, .int .u8 121] 5 (3, 4))
  have hK5 := BSl.of_marked hX (w4.alloc (Obj.cells #[.int .u8 107, .int .u8 101, .int .u8 121] 5 (3, 4))).heap.size (by simp) (by decide)
  refine calls_at (fun W => BSl W W.heap.size (.slice (some ⟨w4.heap.size, 0, none⟩) 3 3) keyTxt ∧ Below w4.heap.size w4 W) ⟨hK5, hb5⟩ ?_
  clear hX hb5 hK5
  rintro w5 ⟨hK5, hb5⟩
  have hD5 := hD4.below hb5 hD4.lt
  have hbel5 := hbel4.trans (hb5.mono hbel4.size)
  have hW5 := hW4.below hb5
  clear hD4 hbel4 hb5 hW4 hB4
  refine (done_any p _ w5 B hW5 (by simp [numB_length])).mono ?_
  rintro e w6 ⟨v6, rfl, hv6, _, hb6⟩
  have hD6 := hD5.below hb6 hD5.lt
  have hbel6 := hbel5.trans (hb6.mono hbel5.size)
  have hK6 := hK5.next hb6
  clear hD5 hbel5 hK5 hW5 hb6
  obtain ⟨A6, c6, rfl, hc61, hc62, hr6⟩ := hv6
  have hv6 : BSl w6 w6.heap.size (.slice A6 (numB (i64u tree) 1 ++ numB (i64u epoch) 4 ++ numB draw.toUInt64 4).length c6) (numB (i64u tree) 1 ++ numB (i64u epoch) 4 ++ numB draw.toUInt64 4) := ⟨A6, c6, rfl, hc61, hc62, hr6⟩
  have hkd : keyTxt ++ (numB (i64u tree) 1 ++ numB (i64u epoch) 4 ++ numB draw.toUInt64 4) = keyB tree epoch draw := rfl
  generalize numB (i64u tree) 1 ++ numB (i64u epoch) 4 ++ numB draw.toUInt64 4 = N at hv6 hkd ⊢
  have hkl : (keyTxt ++ N).length = 12 := by rw [hkd]; exact keyB_length _ _ _
  have Hkd := Lib.hid hkd
  have Hkl := Lib.hid hkl
  clear hc61 hc62 hr6 hkd hkl
  generalize N.length = nN at hv6 ⊢
  go_wp2_with fail
  have hX := Blk.new w6 23 #[.slice (some ⟨w4.heap.size, 0, none⟩) 3 3, .slice A6 nN c6]
  have hb7 := below_new1 w6 (Obj.cells #[.slice (some ⟨w4.heap.size, 0, none⟩) 3 3, .slice A6 nN c6] 23)
  have hS := SSl.two hX _ hX.lt (hK6.next hb7) (hv6.next hb7)
  refine calls_at (fun W => SSl W W.heap.size (.slice (some ⟨w6.heap.size, 0, none⟩) 2 2) [keyTxt, N] ∧ Below w6.heap.size w6 W) ⟨hS, hb7⟩ ?_
  clear hX hb7 hS hK6 hv6
  rintro w7 ⟨hS, hb7⟩
  have hD7 := hD6.below hb7 hD6.lt
  have hbel7 := hbel6.trans (hb7.mono hbel6.size)
  clear hD6 hbel6 hb7
  refine (join_any _ _ _ hS (by simp only [List.flatten_cons, List.flatten_nil, List.append_nil]; rw [Hkl.out]; decide)).mono ?_
  rintro e w8 ⟨v8, rfl, hown8, hb8⟩
  simp only [List.flatten_cons, List.flatten_nil, List.append_nil] at hown8
  have hB8 := BSl.of_own hown8
  have hD8 := hD7.below hb8 hD7.lt
  have hbel8 := hbel7.trans (hb8.mono hbel7.size)
  clear hown8 hS hD7 hbel7 hb8
  go_wp2_with fail
  refine (mac_any u v8 seed (keyTxt ++ N) w8 (hu.next hbel8) hB8 hl (by rw [Hkl.out]; decide) (hG.next hbel8)).mono ?_
  rintro e w9 ⟨rfl, hb9⟩
  have hD9 := hD8.below hb9 hD8.lt
  have hbel9 := hbel8.trans (hb9.mono hbel8.size)
  go_wp2_with (first
    | (refine wpList_storeDat rfl rfl 38 (.tmp 8) (.tmp 30) rfl w.heap.size rfl _ _ rfl _ hD9 (by kernel_rfl) ?_; intro w10 hD10 hon10))
  have hb10 := below_only hbel9 hon10 (Nat.le_refl _) hbel9.size
  refine bodyPost_ret (results_cell_row (p := 8) (ty := 38) rfl _ _ w.heap.size _ _ _ _ rfl hD10 Tryd.underlying38 rfl (by rw [dat_size]; kernel_rfl)) rfl ⟨?_, hb10⟩
  rw [Hkd.out]; rfl
/-- a head's cells -/
def headC (h : HeadL) : Array Value := #[.int .i64 h.tree, .int .i64 h.epoch, .int .u64 (n64 h.size), .int .u64 (n64 h.clock)] ++ dat h.root
theorem headC_0 (h : HeadL) : (headC h)[0]? = some (.int .i64 h.tree) := by unfold headC; rw [Array.getElem?_append_left (by simp)]; rfl
theorem headC_1 (h : HeadL) : (headC h)[1]? = some (.int .i64 h.epoch) := by unfold headC; rw [Array.getElem?_append_left (by simp)]; rfl
theorem headC_2 (h : HeadL) : (headC h)[2]? = some (.int .u64 (n64 h.size)) := by unfold headC; rw [Array.getElem?_append_left (by simp)]; rfl
theorem headC_3 (h : HeadL) : (headC h)[3]? = some (.int .u64 (n64 h.clock)) := by unfold headC; rw [Array.getElem?_append_left (by simp)]; rfl
theorem headC_size (h : HeadL) : (headC h).size = 36 := by simp [headC, dat_size]
theorem headC_root (h : HeadL) (j : Nat) : (headC h)[4 + j]? = (dat h.root)[j]? := by
  unfold headC
  rw [Array.getElem?_append_right (by simp)]
  simp
theorem head_range {w : World} {g : Nat} {t : TypeId} {h : HeadL} (hB : Blk w g t (headC h)) (hr : h.root.length = 32) : w.rangeAt g 4 (h.root.map v8) := by
  intro j v hj
  rw [hB.cell, headC_root, dat_eq _ hr]
  simpa using hj
set_option maxHeartbeats 1000000 in
set_option maxRecDepth 100000 in
theorem bytes_any (h : HeadL) (hok : h.ok) (w : World) :
    Calls Tryd.prog 59 #[.agg (headC h)] w fun e w' => ∃ v, e = .returned v ∧ BSl w' w'.heap.size v (headB h) ∧ Below w.heap.size w w' := by
  obtain ⟨hr, ⟨ht1, ht2⟩, he1, he2⟩ := hok
  have v1 := Lib.hid ((wrap_u64' h.tree).trans (i64u_val h.tree))
  have v2 := Lib.hid ((wrap_u64' h.epoch).trans (i64u_val h.epoch))
  have Hr := Lib.hid hr
  have Hrl := Lib.hid (show (h.root.map v8).length = 32 by rw [List.length_map]; exact hr)
  clear hr
  have hD := Blk.new w 40 (headC h)
  have hb0 := below_new1 w (Obj.cells (headC h) 40)
  go_enter Tryd.func59, Tryd.ntmps59
  go_wp2_with fail
  refine calls_at (fun W => Blk W w.heap.size 40 (headC h) ∧ Below w.heap.size w W) ⟨hD, hb0⟩ ?_
  clear hD hb0
  rintro W ⟨hD, hb0⟩
  refine (newWriter_any W).mono ?_
  rintro e w1 ⟨p, rfl, hW1, hb1⟩
  have hD1 := hD.below hb1 hD.lt
  have hbel1 := hb0.trans (hb1.mono hb0.size)
  have hBw : w.heap.size < W.heap.size := hD.lt
  have hB1 : W.heap.size ≤ w1.heap.size := hb1.size
  clear hD hb0 hb1
  generalize W.heap.size = B at hW1 hBw hB1
  have c0 : w1.cell? ⟨w.heap.size, 0, none⟩ = some (.int .i64 h.tree) := by rw [hD1.cell]; exact headC_0 h
  go_wp2_with fail
  rw [v1.out]
  refine (number_any p _ (i64u h.tree) 1 (by decide) w1 B hW1 hB1 (by simp [numB_length])).mono ?_
  rintro e w2 ⟨rfl, hW2, hb2⟩
  rw [show clamp8 1 = 1 from rfl, List.nil_append] at hW2
  have hD2 := hD1.below hb2 hBw
  have hbel2 := hbel1.trans (hb2.mono (by omega))
  have hB2 := Nat.le_trans hB1 hb2.size
  clear hD1 hbel1 hb2 hW1 c0
  have c1 : w2.cell? ⟨w.heap.size, 1, none⟩ = some (.int .i64 h.epoch) := by rw [hD2.cell]; exact headC_1 h
  go_wp2_with fail
  rw [v2.out]
  refine (number_any p _ (i64u h.epoch) 4 (by decide) w2 B hW2 hB2 (by simp [numB_length])).mono ?_
  rintro e w3 ⟨rfl, hW3, hb3⟩
  rw [show clamp8 4 = 4 from rfl] at hW3
  have hD3 := hD2.below hb3 hBw
  have hbel3 := hbel2.trans (hb3.mono (by omega))
  have hB3 := Nat.le_trans hB2 hb3.size
  clear hD2 hbel2 hb3 hW2 c1
  have c2 : w3.cell? ⟨w.heap.size, 2, none⟩ = some (.int .u64 (n64 h.size)) := by rw [hD3.cell]; exact headC_2 h
  go_wp2_with fail
  refine (number_any p _ (h.size) 8 (by decide) w3 B hW3 hB3 (by simp [numB_length])).mono ?_
  rintro e w4 ⟨rfl, hW4, hb4⟩
  rw [show clamp8 8 = 8 from rfl] at hW4
  have hD4 := hD3.below hb4 hBw
  have hbel4 := hbel3.trans (hb4.mono (by omega))
  have hB4 := Nat.le_trans hB3 hb4.size
  clear hD3 hbel3 hb4 hW3 c2
  have c3 : w4.cell? ⟨w.heap.size, 3, none⟩ = some (.int .u64 (n64 h.clock)) := by rw [hD4.cell]; exact headC_3 h
  go_wp2_with fail
  refine (number_any p _ (h.clock) 8 (by decide) w4 B hW4 hB4 (by simp [numB_length])).mono ?_
  rintro e w5 ⟨rfl, hW5, hb5⟩
  rw [show clamp8 8 = 8 from rfl] at hW5
  have hD5 := hD4.below hb5 hBw
  have hbel5 := hbel4.trans (hb5.mono (by omega))
  have hB5 := Nat.le_trans hB4 hb5.size
  clear hD4 hbel4 hb5 hW4 c3
  have hrg := head_range hD5 Hr.out
  go_wp2_with (first
    | (refine wpList_load_mid rfl 38 (.tmp 24) rfl w.heap.size 4 rfl _ _ hrg Tryd.underlying38 rfl (by rw [Hrl.out]; kernel_rfl) ?_))
  rw [← dat_eq h.root Hr.out]
  refine (digest_any p _ h.root Hr.out w5 B hW5 hB5 (by simp [numB_length])).mono ?_
  rintro e w6 ⟨rfl, hW6, hb6⟩
  have hbel6 := hbel5.trans (hb6.mono (by omega))
  clear hD5 hbel5 hb6 hW5 hrg
  have kc := fun (w : World) (C : Array Value) (n c : Nat) => Lib.run_convert_bytes_const (P := Tryd.prog) w 23 5 C n c Tryd.underlying23 Tryd.underlying5
  go_wp2_with fail
  clear kc
  have hX : (w6.alloc (Obj.cells #[.int .u8 104, .int .u8 101, .int .u8 97, .int .u8 100] 5 (4, 5))).heap[w6.heap.size]? = some (.cells (headTxt.map v8).toArray 5 (4, 5)) := heap_alloc_new _ _
  have hb7 := below_new1 w6 (Obj.cells #[.int .u8 104, .int .u8 101, .int .u8 97, .int .u8 100] 5 (4, 5))
  have hK7 := BSl.of_marked hX (w6.alloc (Obj.cells #[.int .u8 104, .int .u8 101, .int .u8 97, .int .u8 100] 5 (4, 5))).heap.size (by simp) (by decide)
  refine calls_at (fun W => BSl W W.heap.size (.slice (some ⟨w6.heap.size, 0, none⟩) 4 4) headTxt ∧ Below w6.heap.size w6 W) ⟨hK7, hb7⟩ ?_
  clear hX hb7 hK7
  rintro w7 ⟨hK7, hb7⟩
  have hbel7 := hbel6.trans (hb7.mono hbel6.size)
  have hW7 := hW6.below hb7
  clear hbel6 hb7 hW6
  refine (done_any p _ w7 B hW7 (by simp [numB_length, Hr.out])).mono ?_
  rintro e w8 ⟨v8, rfl, hv8, _, hb8⟩
  have hbel8 := hbel7.trans (hb8.mono hbel7.size)
  have hK8 := hK7.next hb8
  clear hbel7 hK7 hW7 hb8
  obtain ⟨A8, c8, rfl, hc81, hc82, hr8⟩ := hv8
  have hv8 : BSl w8 w8.heap.size (.slice A8 (numB (i64u h.tree) 1 ++ numB (i64u h.epoch) 4 ++ numB h.size 8 ++ numB h.clock 8 ++ h.root).length c8) (numB (i64u h.tree) 1 ++ numB (i64u h.epoch) 4 ++ numB h.size 8 ++ numB h.clock 8 ++ h.root) := ⟨A8, c8, rfl, hc81, hc82, hr8⟩
  have hkl : (headTxt ++ (numB (i64u h.tree) 1 ++ numB (i64u h.epoch) 4 ++ numB h.size 8 ++ numB h.clock 8 ++ h.root)).length = 57 := headB_length h Hr.out
  have hkd : headTxt ++ (numB (i64u h.tree) 1 ++ numB (i64u h.epoch) 4 ++ numB h.size 8 ++ numB h.clock 8 ++ h.root) = headB h := rfl
  generalize numB (i64u h.tree) 1 ++ numB (i64u h.epoch) 4 ++ numB h.size 8 ++ numB h.clock 8 ++ h.root = N at hv8 hkd hkl ⊢
  have Hkd := Lib.hid hkd
  have Hkl := Lib.hid hkl
  clear hc81 hc82 hr8 hkd hkl
  generalize N.length = nN at hv8 ⊢
  go_wp2_with fail
  have hX := Blk.new w8 23 #[.slice (some ⟨w6.heap.size, 0, none⟩) 4 4, .slice A8 nN c8]
  have hb9 := below_new1 w8 (Obj.cells #[.slice (some ⟨w6.heap.size, 0, none⟩) 4 4, .slice A8 nN c8] 23)
  have hS := SSl.two hX _ hX.lt (hK8.next hb9) (hv8.next hb9)
  refine calls_at (fun W => SSl W W.heap.size (.slice (some ⟨w8.heap.size, 0, none⟩) 2 2) [headTxt, N] ∧ Below w8.heap.size w8 W) ⟨hS, hb9⟩ ?_
  clear hX hb9 hS hK8 hv8
  rintro w9 ⟨hS, hb9⟩
  have hbel9 := hbel8.trans (hb9.mono hbel8.size)
  clear hbel8 hb9
  refine (join_any _ _ _ hS (by simp only [List.flatten_cons, List.flatten_nil, List.append_nil]; rw [Hkl.out]; decide)).mono ?_
  rintro e w10 ⟨v10, rfl, hown10, hb10⟩
  simp only [List.flatten_cons, List.flatten_nil, List.append_nil] at hown10
  rw [Hkd.out] at hown10
  have hB10 := BSl.of_own hown10
  have hbel10 := hbel9.trans (hb10.mono hbel9.size)
  clear hown10 hS hbel9 hb10
  go_wp2_with fail
  go_ret
  exact ⟨_, rfl, hB10, hbel10⟩
end Go.Proofs.YtcdkadidkkbhpaaDoor

/- Lists of digests: their cells, a literal of one, append of one onto a row of the call's own. No condition. -/
namespace Go.Proofs.YtcdkadidkkbhpaaDoor
open Go Go.RowKit
/-- the cells of a list of digests -/
def dcells (l : List (List UInt8)) : List Value := (l.map fun d => (dat d).toList).flatten
theorem dcells_snoc (l : List (List UInt8)) (d : List UInt8) : dcells (l ++ [d]) = dcells l ++ (dat d).toList := by simp [dcells]
theorem dcells_length (l : List (List UInt8)) : (dcells l).length = l.length * 32 := by
  unfold dcells
  induction l with
  | nil => rfl
  | cons d l ih => simp only [List.map_cons, List.flatten_cons, List.length_append, ih]; rw [show (dat d).toList.length = 32 by rw [Array.length_toList, dat_size]]; simp; omega
theorem dcells_at (l : List (List UInt8)) (k : Nat) (hk : k < l.length) (j : Nat) (hj : j < 32) : (dcells l)[k * 32 + j]? = (dat (l.getD k []))[j]? := by
  induction l generalizing k with
  | nil => simp at hk
  | cons d l ih =>
    have hd : (dat d).toList.length = 32 := by rw [Array.length_toList, dat_size]
    have e : dcells (d :: l) = (dat d).toList ++ dcells l := by simp [dcells]
    rw [e]
    cases k with
    | zero => rw [List.getElem?_append_left (by omega)]; simp
    | succ k =>
      rw [List.getElem?_append_right (by omega), hd, show (k + 1) * 32 + j - 32 = k * 32 + j by omega, ih k (by simpa using hk)]; simp
theorem own_oneD (w : World) (base : Nat) (hb : base ≤ w.heap.size) (d : List UInt8) : (w.alloc (.cells (dat d) 38)).ownsRow base 38 32 (.slice (some ⟨w.heap.size, 0, none⟩) 1 1) ([d] : List (List UInt8)).length (dcells [d]) := by
  have hl : (dcells [d]) = (dat d).toList := by simp [dcells]
  refine ⟨by rw [hl, Array.length_toList, dat_size]; rfl, .inr ⟨w.heap.size, 1, dat d, rfl, hb, heap_alloc_new w _, Nat.le_refl _, by decide, by rw [dat_size], ?_⟩⟩
  rw [hl, List.take_of_length_le (by rw [Array.length_toList, dat_size]; show 32 ≤ 1 * 32; decide)]
theorem range_plus {w : World} {b off : Nat} {cs : List Value} (h : w.rangeAt b off cs) (e : Ext) : (plus w e).rangeAt b off cs := fun j v hj => by
  have h1 := h j v hj
  rw [plus_cell w e ⟨b, off + j, none⟩ (block_lt_of_cell h1)]; exact h1
section
variable {ops : Array Oper} {Q : Act → Prop} {a : Act} {o : Oper} {rest : List Oper}
theorem wpQuiet_loadMid {P : Program} {C : World → Prop} (hw : Region.wanted o (yielded ops a.tmps) = true) (ty : TypeId) (x : Operand) (ho : o.op = .load ty x) (b off : Nat) (hx : a.eval x = .pointer (some ⟨b, off, none⟩)) (cs : Array Value) (d : TypeDesc) (hS : ∀ w, C w → w.rangeAt b off cs.toList)
    (hu : P.underlying ty = some d) (hd : d.isRow = true) (hi : (P.info? ty).map (·.size) = some cs.size) (hk : wpQuiet P ops C Q rest (a.put o.dst (.agg cs))) : wpQuiet P ops C Q (o :: rest) a :=
  wpQuiet_wanted hw _ (fun w hC => by
    unfold Oper.quietAt execOp
    simp only [ho, hx, Instr.loadAt, Instr.sureAddr, Sem.run_bind, Sem.run_pure, Result.andThen_ok, run_loadVar_mid w b off ty cs.toList d (hS w hC) hu hd (by simpa using hi)]
    exact ⟨rfl, by simp⟩) hk
end
theorem wpList_loadMid {P : Program} {w : World} {ops : Array Oper} {rest : List Oper} {o : Oper} {a : Act} {Q : Exit → Act → World → Prop} (hw : Region.wanted o (yielded ops a.tmps) = true) (ty : TypeId) (x : Operand) (ho : o.op = .load ty x) (b off : Nat) (hx : a.eval x = .pointer (some ⟨b, off, none⟩)) (cs : Array Value) (d : TypeDesc)
    (hS : w.rangeAt b off cs.toList) (hu : P.underlying ty = some d) (hd : d.isRow = true) (hi : (P.info? ty).map (·.size) = some cs.size)
    (h : wpList P ops Q rest (a.put o.dst (.agg cs)) w) : wpList P ops Q (o :: rest) a w :=
  wpList_step fun K hK => by
    simp only [hw, if_true]
    unfold Oper.wp execOp
    simp only [ho, hx, Instr.loadAt, Instr.sureAddr, Sem.run_bind, Sem.run_pure, Result.andThen_ok, run_loadVar_mid w b off ty cs.toList d hS hu hd (by simpa using hi)]
    exact hK _ _ h
end Go.Proofs.YtcdkadidkkbhpaaDoor

/- '==' on heads and on signed heads. No condition. -/
namespace Go.Proofs.YtcdkadidkkbhpaaDoor
open Go Go.RowKit
def headEq (h h' : HeadL) : Bool := (h.tree == h'.tree) && (h.epoch == h'.epoch) && (n64 h.size == n64 h'.size) && (n64 h.clock == n64 h'.clock) && decide (h.root = h'.root)
theorem headEq_self (h : HeadL) : headEq h h = true := by simp [headEq]
/-- a signed head's cells -/
def sigC (h : HeadL) (tag : List UInt8) : Array Value := headC h ++ dat tag
theorem eqi_datD (d : Nat) (X Y : List UInt8) (hX : X.length = 32) (hY : Y.length = 32) (W : World) : (Op.equalIn (d + 2) 38 (.agg (dat X)) (.agg (dat Y))).run Tryd.prog W = .ok (decide (X = Y)) W := by
  rw [dat_eq X hX, dat_eq Y hY]
  obtain ⟨i0, hi, _⟩ := info_parts (by kernel_rfl : (Tryd.prog.info? 5).map (fun i => (i.zero, i.size, i.bytes)) = some (some (.int .u8 0), 1, 1))
  rw [run_equalIn_array W (d + 1) _ _ Tryd.underlying38 hi, List.range_eq_range', run_eqItems_bytes W d Tryd.underlying5 (by kernel_rfl) X Y 32 0 (by omega) (by omega)]
  simp
theorem run_part_int (w : World) {e : TypeId} {k : IntKind} (he : Tryd.prog.underlying e = some (.int k)) (cs : Array Value) (i : Nat) (v : Value) (h : cs[i]? = some v) : (part e cs i).run Tryd.prog w = .ok v w := by
  simp [part, isAgg, run_underlying he, h]
theorem run_part_dat (w : World) (cs : Array Value) (off : Nat) (X : List UInt8) (h : cs.extract off (off + 32) = dat X) : (part 38 cs off).run Tryd.prog w = .ok (.agg (dat X)) w := by
  have hs : (sizeOf 38).run Tryd.prog w = .ok 32 w := by kernel_rfl
  have ha : (isAgg 38).run Tryd.prog w = .ok true w := by kernel_rfl
  simp [part, ha, hs, h]
theorem run_part_head (w : World) (cs : Array Value) (off : Nat) (h : HeadL) (hx : cs.extract off (off + 36) = headC h) : (part 40 cs off).run Tryd.prog w = .ok (.agg (headC h)) w := by
  have hs : (sizeOf 40).run Tryd.prog w = .ok 36 w := by kernel_rfl
  have ha : (isAgg 40).run Tryd.prog w = .ok true w := by kernel_rfl
  simp [part, ha, hs, hx]
theorem eqi_int (d : Nat) (w : World) {e : TypeId} {k : IntKind} (he : Tryd.prog.underlying e = some (.int k)) (a b : Int) : (Op.equalIn (d + 1) e (.int k a) (.int k b)).run Tryd.prog w = .ok (a == b) w := by
  simp [Op.equalIn, run_underlying he]
theorem headC_ext (h : HeadL) : (headC h).extract 4 (4 + 32) = dat h.root := by
  unfold headC
  rw [Array.extract_append]
  simp [dat_size]
theorem eqField_step {d : Nat} {xs ys : Array Value} {nm tg pk : String} {ty : TypeId} {off bo : Nat} {em : Bool} {fs : List Field} {w : World} {a b : Value} {r : Bool} (hn : nm ≠ "_") (pa : (part ty xs off).run Tryd.prog w = .ok a w) (pb : (part ty ys off).run Tryd.prog w = .ok b w)
    (e : (Op.equalIn d ty a b).run Tryd.prog w = .ok r w) : (Op.eqFields d xs ys ({ name := nm, type := ty, offset := off, embedded := em, tag := tg, pkgPath := pk, byteOffset := bo } :: fs)).run Tryd.prog w = if r = true then (Op.eqFields d xs ys fs).run Tryd.prog w else .ok false w := by
  rw [Op.eqFields.eq_2, if_pos hn]
  simp only [Sem.run_bind, pa, pb, e, Result.andThen_ok]
  cases r <;> simp
theorem eqFields_end {d : Nat} {xs ys : Array Value} {w : World} : (Op.eqFields d xs ys []).run Tryd.prog w = .ok true w := by simp [Op.eqFields]
set_option maxRecDepth 100000 in
theorem eqi_head (d : Nat) (h h' : HeadL) (hr : h.root.length = 32) (hr' : h'.root.length = 32) (w : World) : (Op.equalIn (d + 3) 40 (.agg (headC h)) (.agg (headC h'))).run Tryd.prog w = .ok (headEq h h') w := by
  rw [run_equalIn_struct w (d + 2) _ _ _ (by kernel_rfl) (by kernel_rfl)]
  have p0 := run_part_int w Tryd.underlying3 (headC h) 0 _ (headC_0 h)
  have p1 := run_part_int w Tryd.underlying3 (headC h) 1 _ (headC_1 h)
  have p2 := run_part_int w Tryd.underlying27 (headC h) 2 _ (headC_2 h)
  have p3 := run_part_int w Tryd.underlying27 (headC h) 3 _ (headC_3 h)
  have p4 := run_part_dat w (headC h) 4 h.root (headC_ext h)
  have q0 := run_part_int w Tryd.underlying3 (headC h') 0 _ (headC_0 h')
  have q1 := run_part_int w Tryd.underlying3 (headC h') 1 _ (headC_1 h')
  have q2 := run_part_int w Tryd.underlying27 (headC h') 2 _ (headC_2 h')
  have q3 := run_part_int w Tryd.underlying27 (headC h') 3 _ (headC_3 h')
  have q4 := run_part_dat w (headC h') 4 h'.root (headC_ext h')
  have e0 := eqi_int (d + 1) w Tryd.underlying3 h.tree h'.tree
  have e1 := eqi_int (d + 1) w Tryd.underlying3 h.epoch h'.epoch
  have e2 := eqi_int (d + 1) w Tryd.underlying27 (n64 h.size) (n64 h'.size)
  have e3 := eqi_int (d + 1) w Tryd.underlying27 (n64 h.clock) (n64 h'.clock)
  have e4 := eqi_datD d h.root h'.root hr hr' w
  simp only [Program.fieldsOf, Tryd.underlying40]
  rw [eqField_step (by simp) p0 q0 e0, eqField_step (by simp) p1 q1 e1, eqField_step (by simp) p2 q2 e2, eqField_step (by simp) p3 q3 e3, eqField_step (by simp) p4 q4 e4, eqFields_end]
  unfold headEq
  clear p0 p1 p2 p3 p4 q0 q1 q2 q3 q4 e0 e1 e2 e3 e4
  generalize (h.tree == h'.tree) = b0
  generalize (h.epoch == h'.epoch) = b1
  generalize (n64 h.size == n64 h'.size) = b2
  generalize (n64 h.clock == n64 h'.clock) = b3
  generalize decide (h.root = h'.root) = b4
  cases b0 <;> cases b1 <;> cases b2 <;> cases b3 <;> cases b4 <;> rfl
theorem sigC_head (h : HeadL) (tag : List UInt8) : (sigC h tag).extract 0 (0 + 36) = headC h := by
  unfold sigC
  rw [Array.extract_append]
  simp [headC_size]
theorem sigC_tag (h : HeadL) (tag : List UInt8) : (sigC h tag).extract 36 (36 + 32) = dat tag := by
  unfold sigC
  rw [Array.extract_append]
  simp [headC_size]
  rw [← dat_size tag]; simp
  exact Nat.min_le_left _ _
set_option maxRecDepth 100000 in
theorem eqi_sig (d : Nat) (h h' : HeadL) (hr : h.root.length = 32) (hr' : h'.root.length = 32) (t t' : List UInt8) (ht : t.length = 32) (ht' : t'.length = 32) (w : World) :
    (Op.equalIn (d + 4) 42 (.agg (sigC h t)) (.agg (sigC h' t'))).run Tryd.prog w = .ok (headEq h h' && decide (t = t')) w := by
  rw [run_equalIn_struct w (d + 3) _ _ _ (by kernel_rfl) (by kernel_rfl)]
  have p0 := run_part_head w (sigC h t) 0 h (sigC_head h t)
  have p1 := run_part_dat w (sigC h t) 36 t (sigC_tag h t)
  have q0 := run_part_head w (sigC h' t') 0 h' (sigC_head h' t')
  have q1 := run_part_dat w (sigC h' t') 36 t' (sigC_tag h' t')
  have e0 := eqi_head d h h' hr hr' w
  have e1 := eqi_datD (d + 1) t t' ht ht' w
  simp only [Program.fieldsOf, Tryd.underlying42]
  rw [eqField_step (by simp) p0 q0 e0, eqField_step (by simp) p1 q1 e1, eqFields_end]
  clear p0 p1 q0 q1 e0 e1
  generalize headEq h h' = b0
  generalize decide (t = t') = b1
  cases b0 <;> cases b1 <;> rfl
theorem eql_sig (h h' : HeadL) (hr : h.root.length = 32) (hr' : h'.root.length = 32) (t t' : List UInt8) (ht : t.length = 32) (ht' : t'.length = 32) (w : World) :
    (binOp .eql 42 (.agg (sigC h t)) (.agg (sigC h' t'))).run Tryd.prog w = .ok (.bool (headEq h h' && decide (t = t'))) w := by
  rw [run_eql_struct, eqi_sig 9996 h h' hr hr' t t' ht ht']; rfl
theorem eql_head (h h' : HeadL) (hr : h.root.length = 32) (hr' : h'.root.length = 32) (w : World) :
    (binOp .eql 40 (.agg (headC h)) (.agg (headC h'))).run Tryd.prog w = .ok (.bool (headEq h h')) w := by
  rw [run_eql_struct, eqi_head 9997 h h' hr hr']; rfl
section
variable {ops : Array Oper} {C : World → Prop} {Q : Act → Prop} {a : Act} {o : Oper} {rest : List Oper}
theorem wpQuiet_eqS (hw : Region.wanted o (yielded ops a.tmps) = true) (x y : Operand) (yt : TypeId) (ho : o.op = .binOp .eql 42 x y yt) (h h' : HeadL) (t t' : List UInt8) (hx : a.eval x = .agg (sigC h t)) (hy : a.eval y = .agg (sigC h' t'))
    (hr : h.root.length = 32) (hr' : h'.root.length = 32) (ht : t.length = 32) (ht' : t'.length = 32)
    (b : Bool) (hb : (headEq h h' && decide (t = t')) = b) (hk : wpQuiet Tryd.prog ops C Q rest (a.put o.dst (.bool b))) : wpQuiet Tryd.prog ops C Q (o :: rest) a :=
  wpQuiet_wanted hw (.bool b) (fun w _ => by
    unfold Oper.quietAt execOp
    simp only [ho, hx, hy, Sem.run_bind, Sem.run_pure, Result.andThen_ok, run_eqGuard_agg (P := Tryd.prog) w .eql 42 x y _ _ (by kernel_rfl), eql_sig h h' hr hr' t t' ht ht', hb]
    exact ⟨rfl, rfl⟩) hk
theorem wpQuiet_eqH (hw : Region.wanted o (yielded ops a.tmps) = true) (x y : Operand) (yt : TypeId) (ho : o.op = .binOp .eql 40 x y yt) (h h' : HeadL) (hx : a.eval x = .agg (headC h)) (hy : a.eval y = .agg (headC h'))
    (hr : h.root.length = 32) (hr' : h'.root.length = 32)
    (b : Bool) (hb : headEq h h' = b) (hk : wpQuiet Tryd.prog ops C Q rest (a.put o.dst (.bool b))) : wpQuiet Tryd.prog ops C Q (o :: rest) a :=
  wpQuiet_wanted hw (.bool b) (fun w _ => by
    unfold Oper.quietAt execOp
    simp only [ho, hx, hy, Sem.run_bind, Sem.run_pure, Result.andThen_ok, run_eqGuard_agg (P := Tryd.prog) w .eql 40 x y _ _ (by kernel_rfl), eql_head h h' hr hr', hb]
    exact ⟨rfl, rfl⟩) hk
theorem wpQuiet_build {P : Program} {C : World → Prop} (hw : Region.wanted o (yielded ops a.tmps) = true) (t : TypeId) (parts : Array (Nat × Operand)) (ho : o.op = .build t parts) (cells : Array Value) (hb : P.built t (parts.map fun (i, x) => (i, a.eval x)).toList = some cells)
    (hk : wpQuiet P ops C Q rest (a.put o.dst (.agg cells))) : wpQuiet P ops C Q (o :: rest) a :=
  wpQuiet_wanted hw _ (fun w _ => by
    unfold Oper.quietAt execOp
    simp only [ho, Sem.run_bind, run_build w t _ cells hb, Result.andThen_ok, Sem.run_pure]
    exact ⟨rfl, rfl⟩) hk
theorem wpQuiet_build2 {P : Program} {C : World → Prop} (hw : Region.wanted o (yielded ops a.tmps) = true) (t : TypeId) (x y : Operand) (ho : o.op = .build t #[(0, x), (1, y)]) (vx vy : Value) (hx : a.eval x = vx) (hy : a.eval y = vy) (cells : Array Value) (hb : P.built t [(0, vx), (1, vy)] = some cells)
    (hk : wpQuiet P ops C Q rest (a.put o.dst (.agg cells))) : wpQuiet P ops C Q (o :: rest) a :=
  wpQuiet_build hw t _ ho cells (by simpa [hx, hy] using hb) hk
end
theorem sig_head_range {w : World} {g : Nat} {t : TypeId} {h : HeadL} {tag : List UInt8} (hB : Blk w g t (sigC h tag)) : w.rangeAt g 0 (headC h).toList := by
  intro j v hj
  have hlt : j < (headC h).size := by simpa using (List.getElem?_eq_some_iff.1 hj).1
  rw [Nat.zero_add, hB.cell]
  unfold sigC
  rw [Array.getElem?_append_left hlt, ← hj]; simp
theorem sig_tag_range {w : World} {g : Nat} {t : TypeId} {h : HeadL} {tag : List UInt8} (hB : Blk w g t (sigC h tag)) : w.rangeAt g 36 (dat tag).toList := by
  intro j v hj
  rw [hB.cell]
  unfold sigC
  rw [Array.getElem?_append_right (by rw [headC_size]; omega), headC_size, show 36 + j - 36 = j by omega, ← hj]; simp
theorem built_sig (h : HeadL) (t : List UInt8) : Tryd.prog.built 42 [(0, .agg (headC h)), (1, .agg (dat t))] = some (sigC h t) := by kernel_rfl
end Go.Proofs.YtcdkadidkkbhpaaDoor

/- The walks of keys' Sign and Holds. No condition. -/
namespace Go.Proofs.YtcdkadidkkbhpaaDoor
open Go.RowKit
attribute [local go_sem] n8_lo n8_hi n64_lo n64_hi
def zeroHead : HeadL := ⟨0, 0, 0, 0, []⟩
theorem sigC_size (h : HeadL) (t : List UInt8) : (sigC h t).size = 68 := by simp [sigC, headC_size, dat_size]
theorem zero_sig (w : World) : (zeroValue 42).run Tryd.prog w = .ok (.agg (sigC zeroHead [])) w := by kernel_rfl
theorem headC_one (h : HeadL) : ∀ v ∈ (headC h).toList, v.oneCell' = true := by
  intro v hv
  unfold headC at hv
  rw [Array.toList_append, List.mem_append] at hv
  rcases hv with hv | hv
  · simp at hv
    rcases hv with rfl | rfl | rfl | rfl <;> rfl
  · exact arr_one _ _ v hv
theorem sigC_one (h : HeadL) (t : List UInt8) : ∀ v ∈ (sigC h t).toList, v.oneCell' = true := by
  intro v hv
  unfold sigC at hv
  rw [Array.toList_append, List.mem_append] at hv
  rcases hv with hv | hv
  · exact headC_one h v hv
  · exact arr_one _ _ v hv
/-- a tag of the document -/
def tagL (key : List UInt8) (h : HeadL) : List UInt8 := mac key (headB h)
theorem tagL_length (key : List UInt8) (h : HeadL) : (tagL key h).length = 32 := mac_length _ _
set_option maxHeartbeats 200000 in
set_option maxRecDepth 100000 in
theorem sign_any (key : List UInt8) (hkl : key.length = 32) (h : HeadL) (hok : h.ok) (w : World) (hG : Glob w) :
    Calls Tryd.prog 21 #[.agg (dat key), .agg (headC h)] w fun e w' => e = .returned (.agg (sigC h (tagL key h))) ∧ Below w.heap.size w w' := by
  have Hk := Lib.hid hkl
  clear hkl
  have Hb57 := Lib.hid (headB_length h hok.1)
  have hzv := zero_sig
  go_enter Tryd.func21, Tryd.ntmps21
  go_wp2
  clear hzv
  refine wp_at (fun W => Blk W w.heap.size 38 (dat key) ∧ Blk W (w.heap.size + 1) 40 (headC h) ∧ Blk W (w.heap.size + 2) 42 (sigC zeroHead []) ∧ Below w.heap.size w W)
    ⟨((Blk.new w _ _).alloc _).alloc _, (Blk.new2 _ _ _ _).alloc _, Blk.new3 _ _ _ _ _, below_new3 _ _ _ _⟩ ?_
  rintro W ⟨hK, hH, hS, hbel⟩
  refine wp_region_mixT 6 (.plain 0 <| .plain 1 <| .plain 2 <| .only 3 <| .only 4 <| .plain 5 <| .done) (by kernel_rfl) (by kernel_rfl) (fun W1 hb1 => ?_)
  have hK1 := hK.below hb1 hK.lt
  have hH1 := hH.below hb1 hH.lt
  have hS1 := hS.below hb1 hS.lt
  have hbel1 := hbel.trans (hb1.mono hbel.size)
  clear hK hH hS hbel hb1
  repeat (refine mix_plain rfl ?_; (first
    | (refine wpQuiet_load rfl 40 (.tmp 3) rfl (w.heap.size + 1) rfl _ _ _ _ (fun _ ⟨e, he⟩ => by rw [he]; exact hH1.plus e) Tryd.underlying40 rfl (by rw [headC_size]; kernel_rfl) ?_; simp only [Act.put, List.setIfInBounds_toArray, List.set_cons_zero, List.set_cons_succ])
    | go_big_quiet_step (fail)); refine wpQuiet_nil ?_)
  refine mix_only rfl (fun K hK => ?_)
  go_wp2_with fail
  refine (bytes_any h hok W1).mono ?_
  rintro e W2 ⟨v2, rfl, hv2, hb2⟩
  go_wp2_with fail
  refine hK _ _ hb2 ?_
  clear hK K
  have hK2 := hK1.below hb2 hK1.lt
  have hS2 := hS1.below hb2 hS1.lt
  have hbel2 := hbel1.trans (hb2.mono hbel1.size)
  clear hK1 hH1 hS1 hbel1 hb2
  refine mix_only rfl (fun K hK => ?_)
  go_wp2_with fail
  refine (mac_any _ v2 key (headB h) W2 (BSl.of_dat hK2 _ hK2.lt Hk.out) hv2 (by rw [Hk.out]; decide) (by rw [Hb57.out]; decide) (hG.next hbel2)).mono ?_
  rintro e W3 ⟨rfl, hb3⟩
  go_wp2_with fail
  refine hK _ _ hb3 ?_
  clear hK K
  have hS3 := hS2.below hb3 hS2.lt
  have hbel3 := hbel2.trans (hb3.mono hbel2.size)
  clear hK2 hS2 hbel2 hb3 hv2
  refine mix_plain rfl ?_
  refine wpQuiet_build2 rfl 42 (.tmp 5) (.tmp 9) rfl _ _ rfl rfl (sigC h (mac key (headB h))) (built_sig h (mac key (headB h))) ?_
  simp only [Act.put, List.setIfInBounds_toArray, List.set_cons_zero, List.set_cons_succ]
  refine wpQuiet_nil ?_
  refine mix_done ?_
  simp only [List.drop_succ_cons, List.drop_zero]
  refine wpList_storeB rfl rfl 42 (.tmp 4) (.tmp 10) rfl (w.heap.size + 2) 0 rfl (sigC h (mac key (headB h))) rfl _ _ hS3 (by rw [sigC_size]; kernel_rfl) (by rw [sigC_size, sigC_size]; omega) (sigC_one _ _) ?_
  intro W4 hS4 hon4
  rw [copied_all _ _ (by rw [sigC_size, sigC_size])] at hS4
  have hb4 := below_only hbel3 hon4 (by omega) hbel3.size
  go_wp2
  exact bodyPost_ret (results_cell_row (p := 4) (ty := 42) rfl _ _ (w.heap.size + 2) _ _ _ _ rfl hS4 Tryd.underlying42 rfl (by rw [sigC_size]; kernel_rfl)) rfl ⟨rfl, hb4⟩
end Go.Proofs.YtcdkadidkkbhpaaDoor
