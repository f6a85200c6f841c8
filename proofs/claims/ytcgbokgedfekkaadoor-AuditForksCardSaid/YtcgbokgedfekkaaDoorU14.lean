/- Texts that stand behind one another: Const, Codec, Wrt, Keys. No condition. -/
import Derived.Test.YtcgbokgedfekkaaDoorU11
import Derived.Lib.SlBytesConst
import Derived.Test.YtcgbokgedfekkaaDoorU13
import Derived.Lib.SliceRun
import Derived.Deep.MidRow
/- Two constant texts as bytes in one region that draws its order: literals' rows, and the conversion of a literal's row to its own type, which marks it. No condition. -/
namespace Go.Proofs.YtcgbokgedfekkaaDoor
open Go Go.RowKit
/-- Block g is just these bytes (marked or not). -/
def Lit (V : World) (g : Nat) (bs : List UInt8) : Prop := ∃ t fr, V.heap[g]? = some (.cells (bs.map v8).toArray t fr)
theorem Lit.lt {V : World} {g : Nat} {bs : List UInt8} (h : Lit V g bs) : g < V.heap.size := by
  obtain ⟨t, fr, h⟩ := h
  rcases Nat.lt_or_ge g V.heap.size with hlt | hge
  · exact hlt
  · rw [Array.getElem?_eq_none hge] at h; cases h
theorem Lit.bsl {V : World} {g : Nat} {bs : List UInt8} (h : Lit V g bs) (n : Nat) (hn : bs.length = n) (hc : n ≤ 9223372036854775807) : BSl V V.heap.size (.slice (some ⟨g, 0, none⟩) n n) bs := by
  subst hn
  have hl := h.lt
  obtain ⟨t, fr, h⟩ := h
  exact BSl.of_marked h _ hl hc
theorem Lit.new (V : World) (bs : List UInt8) (t : TypeId) : Lit (V.alloc (.cells (bs.map v8).toArray t)) V.heap.size bs := ⟨t, _, heap_alloc_new V _⟩
theorem Lit.alloc {V : World} {g : Nat} {bs : List UInt8} (h : Lit V g bs) (o : Obj) : Lit (V.alloc o) g bs := by
  have hl := h.lt
  obtain ⟨t, fr, h⟩ := h
  exact ⟨t, fr, (Below.heap_alloc V o g hl).trans h⟩
theorem freeze_block (V : World) (a : Addr) (n g : Nat) {cs : Array Value} {t : TypeId} {fr : Nat × Nat} (h : V.heap[g]? = some (.cells cs t fr)) : ∃ fr', (V.freeze a n).heap[g]? = some (.cells cs t fr') := by
  unfold World.freeze
  split
  · exact ⟨fr, h⟩
  · rw [Array.getElem?_modify]
    by_cases hg : a.block = g
    · subst hg
      rw [if_pos rfl, h]
      exact ⟨_, rfl⟩
    · rw [if_neg hg]; exact ⟨fr, h⟩
theorem Lit.freeze {V : World} {g : Nat} {bs : List UInt8} (h : Lit V g bs) (a : Addr) (n : Nat) : Lit (V.freeze a n) g bs := by
  obtain ⟨t, fr, h⟩ := h
  obtain ⟨fr', h'⟩ := freeze_block V a n g h
  exact ⟨t, fr', h'⟩
theorem below_freeze {B : Nat} {W V : World} (h : Below B W V) (a : Addr) (ha : B ≤ a.block) (n : Nat) : Below B W (V.freeze a n) := by
  refine ⟨?_, ?_, ?_, ?_, fun k hk => ?_⟩
  · unfold World.freeze; split <;> exact h.os
  · unfold World.freeze; split <;> exact h.tape
  · unfold World.freeze; split <;> exact h.output
  · unfold World.freeze; split
    · exact h.size
    · simpa using h.size
  · unfold World.freeze; split
    · exact h.block k hk
    · simp only
      rw [Array.getElem?_modify, if_neg (by omega)]; exact h.block k hk
theorem wpList_convSelf {P : Program} {V : World} {ops : Array Oper} {rest : List Oper} {o : Oper} {a : Act} {Q : Exit → Act → World → Prop} (hgd : o.guard = none) (t e : TypeId) (x : Operand) (ho : o.op = .convert t t x)
    (ht : P.underlying t = some (.slice e)) (he : P.underlying e = some (.int .u8)) (g n c : Nat) (hx : a.eval x = .slice (some ⟨g, 0, none⟩) n c) (bs : List UInt8) (hg : Lit V g bs)
    (h : ∀ k, wpList P ops Q rest (a.put o.dst (.slice (some ⟨g, 0, none⟩) n c)) (V.freeze ⟨g, k, none⟩ 1)) : wpList P ops Q (o :: rest) a V := by
  refine wpList_plain hgd fun K hK => ?_
  obtain ⟨t', fr, hg⟩ := hg
  have hsh : V.shape? g = some (t', bs.length) := by unfold World.shape?; rw [hg]; simp
  have hr : (convert t t (.slice (some ⟨g, 0, none⟩) n c)).run P V = .ok (.slice (some ⟨g, 0, none⟩) n c) (V.freeze ⟨g, bs.length, none⟩ 1) := by
    simp [convert, run_underlying ht, run_underlying he, markStringish, hsh]
  unfold Oper.wp execOp
  simp only [ho, hx, Sem.run_bind, hr, Result.andThen_ok, Sem.run_pure]
  exact hK _ _ (h _)
/-- the world behind a point of a walk by plan, the class staying -/
theorem mix_atC {P : Program} {ops : Array Oper} {K : Act → World → Prop} {p : Plan} {S : World → Prop} {a : Act} {w : World} (R : World → Prop) (hR : R w) (h : ∀ W, R W → mixW P ops K p S a W) : mixW P ops K p S a w := h w hR
end Go.Proofs.YtcgbokgedfekkaaDoor

/- The walks of codec's Writer. No condition. -/
namespace Go.Proofs.YtcgbokgedfekkaaDoor
open Go.RowKit
attribute [local go_sem] n8_lo n8_hi n64_lo n64_hi
theorem size_any (k : Int) (hk : -9223372036854775808 ≤ k ∧ k ≤ 9223372036854775807) (w : World) : Calls Tryd.prog 121 #[.int .i64 k] w fun e w' => e = .returned (.int .i64 (clamp8 k)) ∧ w = w' := by
  obtain ⟨h1, h2⟩ := hk
  have hc : clamp8 k = if k < 1 then 1 else if k > 8 then 8 else k.toNat := rfl
  by_cases a : k < 1
  · rw [if_pos a] at hc
    have Hc := Lib.hid hc
    clear hc
    go_enter Tryd.func121, Tryd.ntmps121
    go_wp2
    go_ret
    exact ⟨by rw [Hc.out]; rfl, rfl⟩
  · rw [if_neg a] at hc
    by_cases b : k > 8
    · rw [if_pos b] at hc
      have Hc := Lib.hid hc
      clear hc
      go_enter Tryd.func121, Tryd.ntmps121
      go_wp2
      go_ret
      exact ⟨by rw [Hc.out]; rfl, rfl⟩
    · rw [if_neg b] at hc
      have Hc := Lib.hid hc
      clear hc
      go_enter Tryd.func121, Tryd.ntmps121
      go_wp2
      go_ret
      exact ⟨by rw [Hc.out, Int.toNat_of_nonneg (by omega)]; rfl, rfl⟩
/-- p is a Writer of the call's own (from block B on), in which bs was written. -/
def Wrt (w : World) (B : Nat) (p : Value) (bs : List UInt8) : Prop :=
  ∃ g v, p = .pointer (some ⟨g, 0, none⟩) ∧ B ≤ g ∧ Blk w g 200 #[v] ∧ w.ownsRow B 5 1 v (bs.map v8).length (bs.map v8) ∧ v.ownBlock ≠ some g
theorem newWriter_any (w : World) : Calls Tryd.prog 87 #[] w fun e w' => ∃ p, e = .returned p ∧ Wrt w' w.heap.size p [] ∧ Below w.heap.size w w' := by
  go_enter Tryd.func87, Tryd.ntmps87
  go_wp2
  go_ret
  exact ⟨_, rfl, ⟨w.heap.size, .slice none 0 0, rfl, Nat.le_refl _, Blk.new w _ _, World.ownsRow_nil _ _ _ _, by intro h; cases h⟩, below_new1 w _⟩
set_option maxHeartbeats 1000000 in
set_option maxRecDepth 100000 in
theorem number_any (p : Value) (bs : List UInt8) (n : UInt64) (k : Int) (hk : -9223372036854775808 ≤ k ∧ k ≤ 9223372036854775807) (w : World) (B : Nat) (hW : Wrt w B p bs) (hB : B ≤ w.heap.size) (hl : bs.length ≤ 140737488355264) :
    Calls Tryd.prog 89 #[p, .int .u64 (n64 n), .int .i64 k] w fun e w' => e = .returned (.tuple #[]) ∧ Wrt w' B p (bs ++ numB n (clamp8 k)) ∧ Below B w w' := by
  obtain ⟨g, v, rfl, hg, hblk, hown, hne⟩ := hW
  have s1 := clamp8_lo k
  have s8 := clamp8_hi k
  go_enter Tryd.func89, Tryd.ntmps89
  go_wp2_with fail
  refine (size_any k hk _).mono ?_
  rintro e w' ⟨rfl, rfl⟩
  obtain ⟨s, hs⟩ : ∃ s, clamp8 k = s := ⟨_, rfl⟩
  rw [hs] at s1 s8
  have Hs := Lib.hid hs
  rw [hs]
  clear hs
  go_wp2_with fail
  have h0 := numTo_0 n s
  have hE := Lib.hid (numTo_end n s)
  have hS := Lib.hid (numTo_step n s)
  have hb0 := Lib.hid (byte_val n)
  go_loopw [6] (fun iv wr => ∃ (j : Nat) (u : Value), j ≤ s ∧ iv = .int .i64 ((j : Int) - 1) ∧ Blk wr g 200 #[u] ∧ wr.ownsRow B 5 1 u ((bs ++ numTo n s j).map v8).length ((bs ++ numTo n s j).map v8) ∧ u.ownBlock ≠ some g ∧ Below B w wr) (fun iv _ => ((intOf iv) + 1).toNat)
  case atStart => exact ⟨s, v, Nat.le_refl _, rfl, hblk, by rw [h0, List.append_nil]; exact hown, hne, Below.refl _ _⟩
  case round =>
    clear hblk hown hne h0 v
    obtain ⟨j, v, hj, rfl, hblk, hown, hne, hbel⟩ := hrel
    by_cases h0 : j = 0
    · subst h0
      have hd : decide ((0 : Int) ≤ ((0 : Nat) : Int) - 1) = false := by decide
      rw [hE.out] at hown
      go_wp2
      refine bodyPost_end (results_none rfl _ _ _) rfl ⟨rfl, ⟨g, v, rfl, hg, hblk, by rw [Hs.out]; exact hown, hne⟩, hbel⟩
    · obtain ⟨i, rfl⟩ : ∃ i, j = i + 1 := ⟨j - 1, by omega⟩
      have hi8 : i < 8 := by omega
      have hst := Lib.hid (hS.out i (by omega))
      have hbv := hb0.out i
      have hlt : (numTo n s (i + 1)).length ≤ 8 := by unfold numTo; rw [List.length_take, numB_length]; omega
      have hlen : ((bs ++ numTo n s (i + 1)).map v8).length + 1 ≤ 140737488355328 := by simp; omega
      have e8 : IntKind.i64.wrap (8 * (i : Int)) = ((8 * i : Nat) : Int) := by rw [IntWalk.i64_in _ (by omega)]; omega
      rw [show (((i + 1 : Nat) : Int) - 1) = (i : Int) by omega]
      have Hlen := Lib.hid hlen
      clear hlen
      go_wp2
      have hW0 := hblk.cell 0
      refine wp_region_mixS 14 (.plain 0 <| .plain 1 <| .plain 2 <| .plain 3 <| .plain 4 <| .plain 5 <| .plain 6 <| .plain 7 <| .plain 8 <| .plain 9 <| .only 10 <| .only 11 <| .plain 12 <| .plain 13 <| .done) (fun w' => w'.cell? ⟨g, 0, none⟩ = some v) (by kernel_rfl) (by kernel_rfl) hW0 ?_
      repeat (refine mix_plain rfl ?_; (first
        | (refine wpQuiet_nilCheck rfl (.tmp 15) rfl _ rfl ?_; simp only [Act.put, List.setIfInBounds_toArray, List.set_cons_zero, List.set_cons_succ])
        | (refine wpQuiet_nilCheck rfl (.tmp 14) rfl _ rfl ?_; simp only [Act.put, List.setIfInBounds_toArray, List.set_cons_zero, List.set_cons_succ])
        | (refine wpQuiet_load1 rfl _ (.tmp 17) rfl _ rfl _ Tryd.underlying46 rfl v (fun _ h => h) ?_; simp only [Act.put, List.setIfInBounds_toArray, List.set_cons_zero, List.set_cons_succ])
        | go_big_quiet_step ((intro _; rfl))
        | go_big_quiet_step (fail)); refine wpQuiet_nil ?_)
      rw [hbv]
      obtain ⟨i0, hi, hz0, hz1, hz2⟩ := info_parts (by kernel_rfl : (Tryd.prog.info? 5).map (fun i => (i.zero, i.size, i.bytes)) = some (some (.int .u8 0), 1, 1))
      have hownD : (wr.drewN 1).ownsRow B 5 1 v ((bs ++ numTo n s (i + 1)).map v8).length ((bs ++ numTo n s (i + 1)).map v8) := hown
      have hblkD := hblk.drewN 1
      have hbelD := below_drewN hbel 1
      have hsz := hbel.size
      clear hown hblk hbel hW0 e8 hbv
      have hBD : B ≤ (wr.drewN 1).heap.size := by show B ≤ wr.heap.size; omega
      generalize wr.drewN 1 = wd at hownD hblkD hbelD hBD ⊢
      have hn1 := below_new1 wd (Obj.cells #[.int .u8 (n8 (byteAt n i))] 5)
      have hblkA := hblkD.below hn1 hblkD.lt
      have hownA := own_below hownD hn1
      have hrd : Reads (wd.alloc (Obj.cells #[.int .u8 (n8 (byteAt n i))] 5)) (wd.heap.size + 1) (some ⟨wd.heap.size, 0, none⟩) [v8 (byteAt n i)] := Reads.of_blk (Blk.new wd 5 #[v8 (byteAt n i)]) (by omega) 0
      have hbelA := hbelD.alloc hBD (Obj.cells #[.int .u8 (n8 (byteAt n i))] 5)
      have hBA : B ≤ (wd.alloc (Obj.cells #[.int .u8 (n8 (byteAt n i))] 5)).heap.size := Nat.le_trans hBD hn1.size
      refine mix_only_in rfl (fun K hK => ?_)
      go_wp2_with fail
      refine hK _ _ (hblkA.cell 0) ?_
      clear hK K
      refine mix_only_in rfl (fun K hK => ?_)
      refine wpList_appendR rfl (.tmp 18) (.tmp 24) _ rfl B 5 i0 _ 1 Tryd.underlying46 hi hz0 hz1 hz2 rfl v _ rfl hownA (wd.heap.size + 1) (some ⟨wd.heap.size, 0, none⟩) 1 1 [v8 (byteAt n i)] rfl hrd rfl (oneCell_v8 [byteAt n i]) (by have := Hlen.out; unfold maxLen; omega) (by have := Hlen.out; omega) hBA ?_
      intro v' w2 hown2 hg2 hat2
      simp only [Act.put, List.setIfInBounds_toArray, List.set_cons_zero, List.set_cons_succ]
      have hneg : some g ≠ v.ownBlock := fun e => hne e.symm
      have hblk2 := hblkA.grown hg2 hneg
      have hbel2 := below_own hbelA hownA hg2 hBA
      have hne2 : v'.ownBlock ≠ some g := by
        rcases hat2 with e | e
        · rw [e]; exact hne
        · rw [e]; intro e2; injection e2 with e2; have := hblkA.lt; omega
      rw [show (bs ++ numTo n s (i + 1)).map v8 ++ [v8 (byteAt n i)] = (bs ++ numTo n s i).map v8 by rw [hst.out, ← List.append_assoc, List.map_append (l₁ := bs ++ numTo n s (i + 1))]; rfl] at hown2
      refine hK _ _ (hblk2.cell 0) ?_
      clear hK K hownA hrd hbelA hblkA hownD hblkD hbelD hg2 hat2 hneg hn1
      repeat (refine mix_plain rfl ?_; (first
        | (refine wpQuiet_nilCheck rfl (.tmp 14) rfl _ rfl ?_; simp only [Act.put, List.setIfInBounds_toArray, List.set_cons_zero, List.set_cons_succ])
        | go_big_quiet_step ((intro _; rfl))
        | go_big_quiet_step (fail)); refine wpQuiet_nil ?_)
      refine mix_done ?_
      simp only [List.drop_succ_cons, List.drop_zero]
      have h5 : w2.ownsRow B 5 1 v' ((bs ++ numTo n s i).map v8).length ((bs ++ numTo n s i).map v8) ∧ v'.ownBlock ≠ some g ∧ Below B w w2 := ⟨hown2, hne2, hbel2⟩
      have hv1 : v'.cells = #[v'] ∧ v'.oneCell' = true := by
        rcases hown2.2 with ⟨rfl, _⟩ | ⟨g', cap', cur, rfl, _⟩ <;> exact ⟨rfl, rfl⟩
      refine wpList_store1 rfl rfl _ (.tmp 27) (.tmp 25) rfl g 0 rfl v' rfl _ _ hblk2 (by kernel_rfl) (by simp) hv1.1 hv1.2 ?_
      intro w3 hblk3 hon3
      have hown3 := own_grown hown2 hon3 (fun g' hg' e => by injection e with e; subst e; exact hne2 hg')
      have hbel3 := below_only hbel2 hon3 hg (Nat.le_trans hB hbel2.size)
      have e3 : (#[v] : Array Value).setIfInBounds 0 v' = #[v'] := by simp
      rw [e3] at hblk3
      clear hblk2 hown2 hon3 hbel2 h5 hv1 e3 hst Hlen
      go_wp2
      go_roundw
      case rel => exact ⟨i, v', by omega, rfl, hblk3, hown3, hne2, hbel3⟩
      case measure => simp [intOf]
set_option maxRecDepth 100000 in
/-- slices.Clone of bytes -/
theorem clone_any (u : Value) (bs : List UInt8) (w : World) (hu : BSl w w.heap.size u bs) (hl : bs.length ≤ 140737488355328) :
    Calls Tryd.prog 74 #[u] w fun e w' => ∃ v, e = .returned v ∧ w'.ownsRow w.heap.size 5 1 v (bs.map v8).length (bs.map v8) ∧ Below w.heap.size w w' := by
  obtain ⟨A, c, rfl, h1, h2, hr⟩ := hu
  cases A with
  | none =>
    have hb : bs = [] := by
      cases bs with
      | nil => rfl
      | cons x xs => obtain ⟨_, _, e, _⟩ := hr (by simp); cases e
    subst hb
    have hnil : ∀ w, (binOp .eql 46 (.slice none 0 c) (.slice none 0 0)).run Tryd.prog w = .ok (.bool true) w := fun w => by rw [Lib.run_eql_slice_nil (P := Tryd.prog) w 46 5 none 0 c 0 0 Tryd.underlying46]; rfl
    go_enter Tryd.func74, Tryd.ntmps74
    go_wp2
    go_ret
    exact ⟨_, rfl, World.ownsRow_nil _ _ _ _, Below.refl _ _⟩
  | some A =>
    have hoe := own_emptyB w w.heap.size (Nat.le_refl _)
    have hb1 := below_new1 w (Obj.cells #[] 5)
    have hnil : ∀ w, (binOp .eql 46 (.slice (some A) bs.length c) (.slice none 0 0)).run Tryd.prog w = .ok (.bool false) w := fun w => by rw [Lib.run_eql_slice_nil (P := Tryd.prog) w 46 5 (some A) _ c 0 0 Tryd.underlying46]; rfl
    go_enter Tryd.func74, Tryd.ntmps74
    go_wp2_with (first
      | (at_builtin; refine wpList_appendS rfl (.tmp 5) (.tmp 6) rfl w.heap.size _ [] bs rfl hoe _ _ _ _ rfl rfl (hr.below hb1) (by simp; omega) hb1.size w hb1 ?_; intro u1 w1 hown1 hb2; simp only [List.nil_append] at hown1))
    go_ret
    exact ⟨_, rfl, hown1, hb2⟩
theorem done_any (p : Value) (bs : List UInt8) (w : World) (B : Nat) (hW : Wrt w B p bs) (hl : bs.length ≤ 140737488355328) :
    Calls Tryd.prog 93 #[p] w fun e w' => ∃ v, e = .returned v ∧ BSl w' w'.heap.size v bs ∧ w'.ownsRow w.heap.size 5 1 v (bs.map v8).length (bs.map v8) ∧ Below w.heap.size w w' := by
  obtain ⟨g, v, rfl, hg, hblk, hown, hne⟩ := hW
  have hc := hblk.cell 0
  have hB := BSl.of_own hown
  clear hblk hown hne
  go_enter Tryd.func93, Tryd.ntmps93
  go_wp2_with fail
  refine (clone_any v bs w hB hl).mono ?_
  rintro e w1 ⟨u, rfl, hown1, hb1⟩
  go_wp2_with fail
  go_ret
  exact ⟨_, rfl, BSl.of_own hown1, hown1, hb1⟩
set_option maxHeartbeats 1000000 in
set_option maxRecDepth 100000 in
theorem digest_any (p : Value) (bs d : List UInt8) (hd : d.length = 32) (w : World) (B : Nat) (hW : Wrt w B p bs) (hB : B ≤ w.heap.size) (hl : bs.length ≤ 140737488355264) :
    Calls Tryd.prog 92 #[p, .agg (dat d)] w fun e w' => e = .returned (.tuple #[]) ∧ Wrt w' B p (bs ++ d) ∧ Below B w w' := by
  obtain ⟨g, v, rfl, hg, hblk, hown, hne⟩ := hW
  obtain ⟨i0, hi, hz0, hz1, hz2⟩ := info_parts (by kernel_rfl : (Tryd.prog.info? 5).map (fun i => (i.zero, i.size, i.bytes)) = some (some (.int .u8 0), 1, 1))
  have hlt := hblk.lt
  have hD := Blk.new w 35 (dat d)
  have hb1 := below_new1 w (Obj.cells (dat d) 35)
  go_enter Tryd.func92, Tryd.ntmps92
  go_wp2
  refine wp_at (fun W => Blk W w.heap.size 35 (dat d) ∧ Below w.heap.size w W) ⟨hD, hb1⟩ ?_
  clear hD hb1
  rintro W ⟨hD, hb1⟩
  have hblkD := (hblk.below hb1 hlt).drewN 1
  have hownD : (W.drewN 1).ownsRow B 5 1 v (bs.map v8).length (bs.map v8) := own_below hown (below_drewN hb1 1)
  have hbelD := below_drewN (hb1.mono hB) 1
  have hDD := hD.drewN 1
  have hBD : B ≤ (W.drewN 1).heap.size := Nat.le_trans hB hb1.size
  have hrd := Reads.of_blk hDD hDD.lt 0
  rw [dat_eq d hd] at hrd
  have hlD : (d.map v8).length = 32 := by rw [List.length_map, hd]
  have HlD := Lib.hid hlD
  clear hlD
  refine wp_region_mixS 9 (.plain 0 <| .plain 1 <| .plain 2 <| .plain 3 <| .plain 4 <| .plain 5 <| .only 6 <| .plain 7 <| .plain 8 <| .done) (fun w' => w'.cell? ⟨g, 0, none⟩ = some v) (by kernel_rfl) (by kernel_rfl) (hblkD.cell 0) ?_
  clear hblk hown hb1 hD
  generalize W.drewN 1 = wd at hownD hblkD hbelD hBD hDD hrd ⊢
  repeat (refine mix_plain rfl ?_; (first
    | (refine wpQuiet_nilCheck rfl (.tmp 5) rfl _ rfl ?_; simp only [Act.put, List.setIfInBounds_toArray, List.set_cons_zero, List.set_cons_succ])
    | (refine wpQuiet_load1 rfl _ (.tmp 7) rfl _ rfl _ Tryd.underlying46 rfl v (fun _ h => h) ?_; simp only [Act.put, List.setIfInBounds_toArray, List.set_cons_zero, List.set_cons_succ])
    | go_big_quiet_step ((intro _; rfl))
    | go_big_quiet_step (fail)); refine wpQuiet_nil ?_)
  refine mix_only_in rfl (fun K hK => ?_)
  refine wpList_appendR rfl (.tmp 8) (.tmp 9) _ rfl B 5 i0 _ 1 Tryd.underlying46 hi hz0 hz1 hz2 rfl v _ rfl hownD wd.heap.size (some ⟨w.heap.size, 0, none⟩) 32 32 (d.map v8) rfl (by simpa using hrd) HlD.out (oneCell_v8 d) (by unfold maxLen; rw [List.length_map]; omega) (by rw [List.length_map]; omega) hBD ?_
  intro v' w2 hown2 hg2 hat2
  simp only [Act.put, List.setIfInBounds_toArray, List.set_cons_zero, List.set_cons_succ]
  have hneg : some g ≠ v.ownBlock := fun e => hne e.symm
  have hblk2 := hblkD.grown hg2 hneg
  have hbel2 := below_own hbelD hownD hg2 hBD
  have hne2 : v'.ownBlock ≠ some g := by
    rcases hat2 with e | e
    · rw [e]; exact hne
    · rw [e]; intro e2; injection e2 with e2; have := hblkD.lt; omega
  rw [← List.map_append] at hown2
  refine hK _ _ (hblk2.cell 0) ?_
  clear hK K hrd hownD hblkD hbelD hg2 hat2 hneg hDD
  repeat (refine mix_plain rfl ?_; (first
    | (refine wpQuiet_nilCheck rfl (.tmp 4) rfl _ rfl ?_; simp only [Act.put, List.setIfInBounds_toArray, List.set_cons_zero, List.set_cons_succ])
    | go_big_quiet_step ((intro _; rfl))
    | go_big_quiet_step (fail)); refine wpQuiet_nil ?_)
  refine mix_done ?_
  simp only [List.drop_succ_cons, List.drop_zero]
  have hv1 : v'.cells = #[v'] ∧ v'.oneCell' = true := by
    rcases hown2.2 with ⟨rfl, _⟩ | ⟨g', cap', cur, rfl, _⟩ <;> exact ⟨rfl, rfl⟩
  refine wpList_store1 rfl rfl _ (.tmp 12) (.tmp 10) rfl g 0 rfl v' rfl _ _ hblk2 (by kernel_rfl) (by simp) hv1.1 hv1.2 ?_
  intro w3 hblk3 hon3
  have hown3 := own_grown hown2 hon3 (fun g' hg' e => by injection e with e; subst e; exact hne2 hg')
  have hbel3 := below_only hbel2 hon3 hg (Nat.le_trans hB hbel2.size)
  have e3 : (#[v] : Array Value).setIfInBounds 0 v' = #[v'] := by simp
  rw [e3] at hblk3
  clear hblk2 hown2 hon3 hbel2 hv1 e3
  go_wp2
  exact bodyPost_end (results_none rfl _ _ _) rfl ⟨rfl, ⟨g, v', rfl, hg, hblk3, hown3, hne2⟩, hbel3⟩
end Go.Proofs.YtcgbokgedfekkaaDoor

/- The walks of codec's Writer with an exact frame: of what was there only its own block and its row's may turn. No condition. -/
namespace Go.Proofs.YtcgbokgedfekkaaDoor
open Go Go.RowKit
attribute [local irreducible] mixW
attribute [local go_sem] n8_lo n8_hi n64_lo n64_hi
/-- Of what was there only block g and the row of v may have turned; u is where the row is now. -/
structure Two (w w' : World) (g : Nat) (v u : Value) : Prop where
  os : w'.os = w.os
  tape : w'.tape = w.tape
  output : w'.output = w.output
  size : w.heap.size ≤ w'.heap.size
  block : ∀ i, i < w.heap.size → i ≠ g → some i ≠ v.ownBlock → w'.heap[i]? = w.heap[i]?
  at_ : u.ownBlock = v.ownBlock ∨ ∃ k, w.heap.size ≤ k ∧ u.ownBlock = some k
section
variable {a w w' : World} {g B : Nat} {v u u' : Value}
theorem Two.refl (w : World) (g : Nat) (v : Value) : Two w w g v v := ⟨rfl, rfl, rfl, Nat.le_refl _, fun _ _ _ _ => rfl, .inl rfl⟩
theorem Two.drewN (h : Two a w g v u) (n : Nat) : Two a (w.drewN n) g v u := ⟨h.os, h.tape, h.output, h.size, h.block, h.at_⟩
theorem Two.below (h : Two a w g v u) (hb : Below w.heap.size w w') : Two a w' g v u :=
  ⟨hb.os.trans h.os, hb.tape.trans h.tape, hb.output.trans h.output, Nat.le_trans h.size hb.size, fun i hi h1 h2 => (hb.block i (Nat.lt_of_lt_of_le hi h.size)).trans (h.block i hi h1 h2), h.at_⟩
theorem Two.app (h : Two a w g v u) (hg : w.grownBy w' u.ownBlock) (hat : u'.ownBlock = u.ownBlock ∨ u'.ownBlock = some w.heap.size) : Two a w' g v u' := by
  have hs := h.size
  refine ⟨hg.os.trans h.os, hg.tape.trans h.tape, hg.output.trans h.output, Nat.le_trans h.size hg.size, fun i hi h1 h2 => (hg.block i (Nat.lt_of_lt_of_le hi h.size) (fun e => ?_)).trans (h.block i hi h1 h2), ?_⟩
  · rcases h.at_ with e1 | ⟨k, hk, e1⟩
    · exact h2 (e.trans e1)
    · rw [e1] at e; injection e with e; omega
  · rcases hat with e | e
    · rw [e]; exact h.at_
    · exact .inr ⟨_, h.size, e⟩
theorem Two.store (h : Two a w g v u) (hg : w.grownBy w' (some g)) : Two a w' g v u :=
  ⟨hg.os.trans h.os, hg.tape.trans h.tape, hg.output.trans h.output, Nat.le_trans h.size hg.size, fun i hi h1 h2 => (hg.block i (Nat.lt_of_lt_of_le hi h.size) (fun e => h1 (by injection e))).trans (h.block i hi h1 h2), h.at_⟩
theorem Two.trans (h : Two a w g v u) (h' : Two w w' g u u') : Two a w' g v u' := by
  have hs := h.size
  refine ⟨h'.os.trans h.os, h'.tape.trans h.tape, h'.output.trans h.output, Nat.le_trans h.size h'.size, fun i hi h1 h2 => (h'.block i (Nat.lt_of_lt_of_le hi h.size) h1 (fun e => ?_)).trans (h.block i hi h1 h2), ?_⟩
  · rcases h.at_ with e1 | ⟨k, hk, e1⟩
    · exact h2 (e.trans e1)
    · rw [e1] at e; injection e with e; omega
  · rcases h'.at_ with e | ⟨k, hk, e⟩
    · rw [e]; exact h.at_
    · exact .inr ⟨k, Nat.le_trans h.size hk, e⟩
theorem Two.bel (h : Two w w' g v u) (hg : B ≤ g) (hv : ∀ k, v.ownBlock = some k → B ≤ k) (hB : B ≤ w.heap.size) : Below B w w' :=
  ⟨h.os, h.tape, h.output, h.size, fun i hi => h.block i (by omega) (by omega) (fun e => by have := hv i e.symm; omega)⟩
theorem Two.blk {k : Nat} {t : TypeId} {cs : Array Value} (h : Two w w' g v u) (hk : Blk w k t cs) (h1 : k ≠ g) (h2 : some k ≠ v.ownBlock) : Blk w' k t cs := (h.block k hk.lt h1 h2).trans hk
theorem Two.own {base s n : Nat} {e : TypeId} {x : Value} {xs : List Value} (h : Two w w' g v u) (hx : w.ownsRow base e s x n xs) (h1 : x.ownBlock ≠ some g) (h2 : ∀ k, x.ownBlock = some k → v.ownBlock ≠ some k) : w'.ownsRow base e s x n xs := by
  refine ⟨hx.1, ?_⟩
  rcases hx.2 with h0 | ⟨k, cap, cur, rfl, hB, hh, h3⟩
  · exact .inl h0
  · refine .inr ⟨k, cap, cur, rfl, hB, ?_, h3⟩
    have hlt : k < w.heap.size := by
      rcases Nat.lt_or_ge k w.heap.size with h' | h'
      · exact h'
      · rw [Array.getElem?_eq_none h'] at hh; cases hh
    exact (h.block k hlt (fun e => h1 (by subst e; rfl)) (fun e => h2 k rfl e.symm)).trans hh
theorem Two.reads {A : Option Addr} {xs : List Value} (h : Two w w' g v u) (hr : Reads w w.heap.size A xs) (h1 : 0 < xs.length → ∀ b o, A = some ⟨b, o, none⟩ → b ≠ g ∧ some b ≠ v.ownBlock) : Reads w' w'.heap.size A xs := by
  intro hx
  obtain ⟨b, off, e, hb, hc⟩ := hr hx
  have hs := h.size
  refine ⟨b, off, e, by omega, fun j x hj => ?_⟩
  have hk := h.block b hb (h1 hx b off e).1 (h1 hx b off e).2
  exact (World.cell?_of_block (a := ⟨b, off + j, none⟩) hk).trans (hc j x hj)
end
/-- a Writer of the call's own in block g, its row v -/
def Wr (w : World) (B g : Nat) (v : Value) (bs : List UInt8) : Prop :=
  B ≤ g ∧ Blk w g 200 #[v] ∧ w.ownsRow B 5 1 v (bs.map v8).length (bs.map v8)
theorem own_ne {w : World} {g base s n : Nat} {t e : TypeId} {cs : Array Value} {v : Value} {xs : List Value} (hb : Blk w g t cs) (h : w.ownsRow base e s v n xs) (ht : t ≠ e) : v.ownBlock ≠ some g := by
  intro hv
  rcases h.2 with ⟨rfl, _⟩ | ⟨k, cap, cur, rfl, _, hh, _⟩
  · cases hv
  · have hk : k = g := by injection hv
    subst hk
    have : some (Obj.cells _ _ _) = some (Obj.cells _ _ _) := hb.symm.trans hh
    injection this with this
    injection this with _ h3 _
    exact ht h3
theorem Wr.ne {w : World} {B g : Nat} {v : Value} {bs : List UInt8} (h : Wr w B g v bs) : v.ownBlock ≠ some g := own_ne h.2.1 h.2.2 (by decide)
theorem Wr.wrt {w : World} {B g : Nat} {v : Value} {bs : List UInt8} (h : Wr w B g v bs) : Wrt w B (.pointer (some ⟨g, 0, none⟩)) bs := ⟨g, v, rfl, h.1, h.2.1, h.2.2, h.ne⟩
theorem Wr.below {w w' : World} {B g : Nat} {v : Value} {bs : List UInt8} (h : Wr w B g v bs) (hb : Below w.heap.size w w') : Wr w' B g v bs := ⟨h.1, h.2.1.below hb h.2.1.lt, own_below h.2.2 hb⟩
theorem Wr.low {w : World} {B g : Nat} {v : Value} {bs : List UInt8} (h : Wr w B g v bs) : ∀ k, v.ownBlock = some k → B ≤ k := by
  intro k hk
  rcases h.2.2.2 with ⟨rfl, _⟩ | ⟨k', cap, cur, rfl, hB, _⟩
  · cases hk
  · have : k' = k := by injection hk
    omega
theorem Wr.of_new {w : World} {B : Nat} {p : Value} (h : Wrt w B p []) : ∃ g v, p = .pointer (some ⟨g, 0, none⟩) ∧ Wr w B g v [] := by
  obtain ⟨g, v, rfl, hg, hb, ho, _⟩ := h
  exact ⟨g, v, rfl, hg, hb, ho⟩
set_option maxHeartbeats 1000000 in
set_option maxRecDepth 100000 in
theorem number_two (g : Nat) (v0 : Value) (bs : List UInt8) (n : UInt64) (k : Int) (hk : -9223372036854775808 ≤ k ∧ k ≤ 9223372036854775807) (w : World) (B : Nat) (hW : Wr w B g v0 bs) (hB : B ≤ w.heap.size) (hl : bs.length ≤ 140737488355264) :
    Calls Tryd.prog 89 #[.pointer (some ⟨g, 0, none⟩), .int .u64 (n64 n), .int .i64 k] w fun e w' => e = .returned (.tuple #[]) ∧ ∃ u, Wr w' B g u (bs ++ numB n (clamp8 k)) ∧ Two w w' g v0 u := by
  have hne := hW.ne
  obtain ⟨hg, hblk, hown⟩ := hW
  have s1 := clamp8_lo k
  have s8 := clamp8_hi k
  go_enter Tryd.func89, Tryd.ntmps89
  go_wp2_with fail
  refine (size_any k hk _).mono ?_
  rintro e w' ⟨rfl, rfl⟩
  obtain ⟨s, hs⟩ : ∃ s, clamp8 k = s := ⟨_, rfl⟩
  rw [hs] at s1 s8
  have Hs := Lib.hid hs
  rw [hs]
  clear hs
  go_wp2_with fail
  have h0 := numTo_0 n s
  have hE := Lib.hid (numTo_end n s)
  have hS := Lib.hid (numTo_step n s)
  have hb0 := Lib.hid (byte_val n)
  go_loopw [6] (fun iv wr => ∃ (j : Nat) (u : Value), j ≤ s ∧ iv = .int .i64 ((j : Int) - 1) ∧ Blk wr g 200 #[u] ∧ wr.ownsRow B 5 1 u ((bs ++ numTo n s j).map v8).length ((bs ++ numTo n s j).map v8) ∧ u.ownBlock ≠ some g ∧ Two w wr g v0 u) (fun iv _ => ((intOf iv) + 1).toNat)
  case atStart => exact ⟨s, v0, Nat.le_refl _, rfl, hblk, by rw [h0, List.append_nil]; exact hown, hne, Two.refl _ _ _⟩
  case round =>
    clear hblk hown hne h0
    obtain ⟨j, v, hj, rfl, hblk, hown, hne, htw⟩ := hrel
    by_cases h0 : j = 0
    · subst h0
      have hd : decide ((0 : Int) ≤ ((0 : Nat) : Int) - 1) = false := by decide
      rw [hE.out] at hown
      have HT := Lib.hid htw
      clear htw
      go_wp2
      refine bodyPost_end (results_none rfl _ _ _) rfl ⟨rfl, v, ⟨hg, hblk, by rw [Hs.out]; exact hown⟩, HT.out⟩
    · obtain ⟨i, rfl⟩ : ∃ i, j = i + 1 := ⟨j - 1, by omega⟩
      have hi8 : i < 8 := by omega
      have hst := Lib.hid (hS.out i (by omega))
      have hbv := hb0.out i
      have hlt : (numTo n s (i + 1)).length ≤ 8 := by unfold numTo; rw [List.length_take, numB_length]; omega
      have hlen : ((bs ++ numTo n s (i + 1)).map v8).length + 1 ≤ 140737488355328 := by simp; omega
      have e8 : IntKind.i64.wrap (8 * (i : Int)) = ((8 * i : Nat) : Int) := by rw [IntWalk.i64_in _ (by omega)]; omega
      rw [show (((i + 1 : Nat) : Int) - 1) = (i : Int) by omega]
      have Hlen := Lib.hid hlen
      have HT := Lib.hid htw
      clear hlen htw
      go_wp2
      have hW0 := hblk.cell 0
      refine wp_region_mixS 14 (.plain 0 <| .plain 1 <| .plain 2 <| .plain 3 <| .plain 4 <| .plain 5 <| .plain 6 <| .plain 7 <| .plain 8 <| .plain 9 <| .only 10 <| .only 11 <| .plain 12 <| .plain 13 <| .done) (fun w' => w'.cell? ⟨g, 0, none⟩ = some v) (by kernel_rfl) (by kernel_rfl) hW0 ?_
      repeat (refine mix_plain rfl ?_; (first
        | (refine wpQuiet_nilCheck rfl (.tmp 15) rfl _ rfl ?_; simp only [Act.put, List.setIfInBounds_toArray, List.set_cons_zero, List.set_cons_succ])
        | (refine wpQuiet_nilCheck rfl (.tmp 14) rfl _ rfl ?_; simp only [Act.put, List.setIfInBounds_toArray, List.set_cons_zero, List.set_cons_succ])
        | (refine wpQuiet_load1 rfl _ (.tmp 17) rfl _ rfl _ Tryd.underlying46 rfl v (fun _ h => h) ?_; simp only [Act.put, List.setIfInBounds_toArray, List.set_cons_zero, List.set_cons_succ])
        | go_big_quiet_step ((intro _; rfl))
        | go_big_quiet_step (fail)); refine wpQuiet_nil ?_)
      rw [hbv]
      obtain ⟨i0, hi, hz0, hz1, hz2⟩ := info_parts (by kernel_rfl : (Tryd.prog.info? 5).map (fun i => (i.zero, i.size, i.bytes)) = some (some (.int .u8 0), 1, 1))
      have hownD : (wr.drewN 1).ownsRow B 5 1 v ((bs ++ numTo n s (i + 1)).map v8).length ((bs ++ numTo n s (i + 1)).map v8) := hown
      have hblkD := hblk.drewN 1
      have htwD := HT.out.drewN 1
      have hsz := HT.out.size
      clear hown hblk hW0 e8 hbv
      have hBD : B ≤ (wr.drewN 1).heap.size := by show B ≤ wr.heap.size; omega
      generalize wr.drewN 1 = wd at hownD hblkD htwD hBD ⊢
      have hn1 := below_new1 wd (Obj.cells #[.int .u8 (n8 (byteAt n i))] 5)
      have hblkA := hblkD.below hn1 hblkD.lt
      have hownA := own_below hownD hn1
      have hrd : Reads (wd.alloc (Obj.cells #[.int .u8 (n8 (byteAt n i))] 5)) (wd.heap.size + 1) (some ⟨wd.heap.size, 0, none⟩) [v8 (byteAt n i)] := Reads.of_blk (Blk.new wd 5 #[v8 (byteAt n i)]) (by omega) 0
      have HTA := Lib.hid (htwD.below hn1)
      have hBA : B ≤ (wd.alloc (Obj.cells #[.int .u8 (n8 (byteAt n i))] 5)).heap.size := Nat.le_trans hBD hn1.size
      clear htwD
      refine mix_only_in rfl (fun K hK => ?_)
      go_wp2_with fail
      refine hK _ _ (hblkA.cell 0) ?_
      clear hK K
      refine mix_only_in rfl (fun K hK => ?_)
      refine wpList_appendR rfl (.tmp 18) (.tmp 24) _ rfl B 5 i0 _ 1 Tryd.underlying46 hi hz0 hz1 hz2 rfl v _ rfl hownA (wd.heap.size + 1) (some ⟨wd.heap.size, 0, none⟩) 1 1 [v8 (byteAt n i)] rfl hrd rfl (oneCell_v8 [byteAt n i]) (by have := Hlen.out; unfold maxLen; omega) (by have := Hlen.out; omega) hBA ?_
      intro v' w2 hown2 hg2 hat2
      simp only [Act.put, List.setIfInBounds_toArray, List.set_cons_zero, List.set_cons_succ]
      have hneg : some g ≠ v.ownBlock := fun e => hne e.symm
      have hblk2 := hblkA.grown hg2 hneg
      have HT2 := Lib.hid (HTA.out.app hg2 hat2)
      have hB2 : B ≤ w2.heap.size := Nat.le_trans hBA hg2.size
      rw [show (bs ++ numTo n s (i + 1)).map v8 ++ [v8 (byteAt n i)] = (bs ++ numTo n s i).map v8 by rw [hst.out, ← List.append_assoc, List.map_append (l₁ := bs ++ numTo n s (i + 1))]; rfl] at hown2
      have hne2 : v'.ownBlock ≠ some g := own_ne hblk2 hown2 (by decide)
      refine hK _ _ (hblk2.cell 0) ?_
      clear hK K hownA hrd hblkA hownD hblkD hg2 hat2 hneg hn1
      repeat (refine mix_plain rfl ?_; (first
        | (refine wpQuiet_nilCheck rfl (.tmp 14) rfl _ rfl ?_; simp only [Act.put, List.setIfInBounds_toArray, List.set_cons_zero, List.set_cons_succ])
        | go_big_quiet_step ((intro _; rfl))
        | go_big_quiet_step (fail)); refine wpQuiet_nil ?_)
      refine mix_done ?_
      simp only [List.drop_succ_cons, List.drop_zero]
      have hv1 : v'.cells = #[v'] ∧ v'.oneCell' = true := by
        rcases hown2.2 with ⟨rfl, _⟩ | ⟨g', cap', cur, rfl, _⟩ <;> exact ⟨rfl, rfl⟩
      refine wpList_store1 rfl rfl _ (.tmp 27) (.tmp 25) rfl g 0 rfl v' rfl _ _ hblk2 (by kernel_rfl) (by simp) hv1.1 hv1.2 ?_
      intro w3 hblk3 hon3
      have hown3 := own_grown hown2 hon3 (fun g' hg' e => by injection e with e; subst e; exact hne2 hg')
      have HT3 := Lib.hid (HT2.out.store hon3)
      have e3 : (#[v] : Array Value).setIfInBounds 0 v' = #[v'] := by simp
      rw [e3] at hblk3
      clear hblk2 hown2 hon3 hv1 e3 hst Hlen HT HTA HT2
      go_wp2
      go_roundw
      case rel => exact ⟨i, v', by omega, rfl, hblk3, hown3, hne2, HT3.out⟩
      case measure => simp [intOf]
end Go.Proofs.YtcgbokgedfekkaaDoor

/- The walks of keys' Key, Bytes, Sign, Holds. No condition. -/
namespace Go.Proofs.YtcgbokgedfekkaaDoor
open Go.RowKit
attribute [local go_sem] n8_lo n8_hi n64_lo n64_hi n32_lo n32_hi
theorem Wrt.below {w w' : World} {B : Nat} {p : Value} {bs : List UInt8} (h : Wrt w B p bs) (hb : Below w.heap.size w w') : Wrt w' B p bs := by
  obtain ⟨g, v, rfl, hg, hblk, hown, hne⟩ := h
  exact ⟨g, v, rfl, hg, hblk.below hb hblk.lt, own_below hown hb, hne⟩
def keyB (tree epoch : Int) (draw : UInt32) : List UInt8 := keyTxt ++ (numB (i64u tree) 1 ++ numB (i64u epoch) 4 ++ numB draw.toUInt64 4)
theorem keyB_length (tree epoch : Int) (draw : UInt32) : (keyB tree epoch draw).length = 12 := by simp [keyB, keyTxt, numB_length]
/-- a key of the document -/
def keyL' (seed : List UInt8) (tree epoch : Int) (draw : UInt32) : List UInt8 := mac seed (keyB tree epoch draw)
theorem cv32_64 (x : UInt32) : n32 x % 18446744073709551616 = n64 x.toUInt64 := by
  unfold n32 n64; have := x.toNat_lt; rw [UInt32.toNat_toUInt64]; omega
set_option maxHeartbeats 1000000 in
set_option maxRecDepth 100000 in
theorem key_any (u : Value) (seed : List UInt8) (tree epoch : Int) (draw : UInt32) (w : World) (hu : BSl w w.heap.size u seed) (hl : seed.length ≤ 140737488355264) (hG : Glob w)
    (ht : -9223372036854775808 ≤ tree ∧ tree ≤ 9223372036854775807) (he : -9223372036854775808 ≤ epoch ∧ epoch ≤ 9223372036854775807) :
    Calls Tryd.prog 71 #[u, .int .i64 tree, .int .i64 epoch, .int .u32 (n32 draw)] w fun e w' => e = .returned (.agg (dat (keyL' seed tree epoch draw))) ∧ Below w.heap.size w w' := by
  obtain ⟨ht1, ht2⟩ := ht
  obtain ⟨he1, he2⟩ := he
  have v1 := Lib.hid ((wrap_u64' tree).trans (i64u_val tree))
  have v2 := Lib.hid ((wrap_u64' epoch).trans (i64u_val epoch))
  have hD := Blk.new w 35 (arr 32 fun _ => 0)
  have hb0 := below_new1 w (Obj.cells (arr 32 fun _ => 0) 35)
  go_enter Tryd.func71, Tryd.ntmps71
  go_wp2_with fail
  refine calls_at (fun W => Blk W w.heap.size 35 (arr 32 fun _ => 0) ∧ Below w.heap.size w W) ⟨hD, hb0⟩ ?_
  clear hD hb0
  rintro W ⟨hD, hb0⟩
  refine (newWriter_any W).mono ?_
  rintro e w1 ⟨p, rfl, hW1, hb1⟩
  have hD1 := hD.below hb1 hD.lt
  have hbel1 := hb0.trans (hb1.mono hb0.size)
  have hBw : w.heap.size < W.heap.size := hD.lt
  have hB1 : W.heap.size ≤ w1.heap.size := hb1.size
  clear hD hb0 hb1
  generalize W.heap.size = B at hW1 hBw hB1
  go_wp2_with fail
  rw [v1.out]
  refine (number_any p [] (i64u tree) 1 (by decide) w1 B hW1 hB1 (by simp)).mono ?_
  rintro e w2 ⟨rfl, hW2, hb2⟩
  rw [show clamp8 1 = 1 from rfl, List.nil_append] at hW2
  have hD2 := hD1.below hb2 hBw
  have hbel2 := hbel1.trans (hb2.mono (by omega))
  have hB2 := Nat.le_trans hB1 hb2.size
  clear hD1 hbel1 hb2 hW1
  go_wp2_with fail
  rw [v2.out]
  refine (number_any p _ (i64u epoch) 4 (by decide) w2 B hW2 hB2 (by simp [numB_length])).mono ?_
  rintro e w3 ⟨rfl, hW3, hb3⟩
  rw [show clamp8 4 = 4 from rfl] at hW3
  have hD3 := hD2.below hb3 hBw
  have hbel3 := hbel2.trans (hb3.mono (by omega))
  have hB3 := Nat.le_trans hB2 hb3.size
  clear hD2 hbel2 hb3 hW2
  go_wp2_with fail
  rw [show IntKind.u64.wrap (n32 draw) = n64 draw.toUInt64 from (wrap_u64' _).trans (cv32_64 draw)]
  refine (number_any p _ draw.toUInt64 4 (by decide) w3 B hW3 hB3 (by simp [numB_length])).mono ?_
  rintro e w4 ⟨rfl, hW4, hb4⟩
  rw [show clamp8 4 = 4 from rfl] at hW4
  have hD4 := hD3.below hb4 hBw
  have hbel4 := hbel3.trans (hb4.mono (by omega))
  have hB4 := Nat.le_trans hB3 hb4.size
  clear hD3 hbel3 hb4 hW3
  have kc := fun (w : World) (C : Array Value) (n c : Nat) => Lib.run_convert_bytes_const (P := Tryd.prog) w 46 5 C n c Tryd.underlying46 Tryd.underlying5
  go_wp2_with fail
  clear kc
  have hX : (w4.alloc (Obj.cells #[.int .u8 107, .int .u8 101, .int .u8 121] 5 (3, 4))).heap[w4.heap.size]? = some (.cells (keyTxt.map v8).toArray 5 (3, 4)) := heap_alloc_new _ _
  have hb5 := below_new1 w4 (Obj.cells #[.int .u8 107, .int .u8 101, .int .u8 121] 5 (3, 4))
  have hK5 := BSl.of_marked hX (w4.alloc (Obj.cells #[.int .u8 107, .int .u8 101, .int .u8 121] 5 (3, 4))).heap.size (by simp) (by decide)
  refine calls_at (fun W => BSl W W.heap.size (.slice (some ⟨w4.heap.size, 0, none⟩) 3 3) keyTxt ∧ Below w4.heap.size w4 W) ⟨hK5, hb5⟩ ?_
  clear hX hb5 hK5
  rintro w5 ⟨hK5, hb5⟩
  have hD5 := hD4.below hb5 hD4.lt
  have hbel5 := hbel4.trans (hb5.mono hbel4.size)
  have hW5 := hW4.below hb5
  clear hD4 hbel4 hb5 hW4 hB4
  refine (done_any p _ w5 B hW5 (by simp [numB_length])).mono ?_
  rintro e w6 ⟨v6, rfl, hv6, _, hb6⟩
  have hD6 := hD5.below hb6 hD5.lt
  have hbel6 := hbel5.trans (hb6.mono hbel5.size)
  have hK6 := hK5.next hb6
  clear hD5 hbel5 hK5 hW5 hb6
  obtain ⟨A6, c6, rfl, hc61, hc62, hr6⟩ := hv6
  have hv6 : BSl w6 w6.heap.size (.slice A6 (numB (i64u tree) 1 ++ numB (i64u epoch) 4 ++ numB draw.toUInt64 4).length c6) (numB (i64u tree) 1 ++ numB (i64u epoch) 4 ++ numB draw.toUInt64 4) := ⟨A6, c6, rfl, hc61, hc62, hr6⟩
  have hkd : keyTxt ++ (numB (i64u tree) 1 ++ numB (i64u epoch) 4 ++ numB draw.toUInt64 4) = keyB tree epoch draw := rfl
  generalize numB (i64u tree) 1 ++ numB (i64u epoch) 4 ++ numB draw.toUInt64 4 = N at hv6 hkd ⊢
  have hkl : (keyTxt ++ N).length = 12 := by rw [hkd]; exact keyB_length _ _ _
  have Hkd := Lib.hid hkd
  have Hkl := Lib.hid hkl
  clear hc61 hc62 hr6 hkd hkl
  generalize N.length = nN at hv6 ⊢
  go_wp2_with fail
  have hX := Blk.new w6 46 #[.slice (some ⟨w4.heap.size, 0, none⟩) 3 3, .slice A6 nN c6]
  have hb7 := below_new1 w6 (Obj.cells #[.slice (some ⟨w4.heap.size, 0, none⟩) 3 3, .slice A6 nN c6] 46)
  have hS := SSl.two hX _ hX.lt (hK6.next hb7) (hv6.next hb7)
  refine calls_at (fun W => SSl W W.heap.size (.slice (some ⟨w6.heap.size, 0, none⟩) 2 2) [keyTxt, N] ∧ Below w6.heap.size w6 W) ⟨hS, hb7⟩ ?_
  clear hX hb7 hS hK6 hv6
  rintro w7 ⟨hS, hb7⟩
  have hD7 := hD6.below hb7 hD6.lt
  have hbel7 := hbel6.trans (hb7.mono hbel6.size)
  clear hD6 hbel6 hb7
  refine (join_any _ _ _ hS (by simp only [List.flatten_cons, List.flatten_nil, List.append_nil]; rw [Hkl.out]; decide)).mono ?_
  rintro e w8 ⟨v8, rfl, hown8, hb8⟩
  simp only [List.flatten_cons, List.flatten_nil, List.append_nil] at hown8
  have hB8 := BSl.of_own hown8
  have hD8 := hD7.below hb8 hD7.lt
  have hbel8 := hbel7.trans (hb8.mono hbel7.size)
  clear hown8 hS hD7 hbel7 hb8
  go_wp2_with fail
  refine (mac_any u v8 seed (keyTxt ++ N) w8 (hu.next hbel8) hB8 hl (by rw [Hkl.out]; decide) (hG.next hbel8)).mono ?_
  rintro e w9 ⟨rfl, hb9⟩
  have hD9 := hD8.below hb9 hD8.lt
  have hbel9 := hbel8.trans (hb9.mono hbel8.size)
  go_wp2_with (first
    | (refine wpList_storeDat rfl rfl 35 (.tmp 8) (.tmp 30) rfl w.heap.size rfl _ _ rfl _ hD9 (by kernel_rfl) ?_; intro w10 hD10 hon10))
  have hb10 := below_only hbel9 hon10 (Nat.le_refl _) hbel9.size
  refine bodyPost_ret (results_cell_row (p := 8) (ty := 35) rfl _ _ w.heap.size _ _ _ _ rfl hD10 Tryd.underlying35 rfl (by rw [dat_size]; kernel_rfl)) rfl ⟨?_, hb10⟩
  rw [Hkd.out]; rfl
/-- a head's cells -/
def headC (h : HeadL) : Array Value := #[.int .i64 h.tree, .int .i64 h.epoch, .int .u64 (n64 h.size), .int .u64 (n64 h.clock)] ++ dat h.root
theorem headC_0 (h : HeadL) : (headC h)[0]? = some (.int .i64 h.tree) := by unfold headC; rw [Array.getElem?_append_left (by simp)]; rfl
theorem headC_1 (h : HeadL) : (headC h)[1]? = some (.int .i64 h.epoch) := by unfold headC; rw [Array.getElem?_append_left (by simp)]; rfl
theorem headC_2 (h : HeadL) : (headC h)[2]? = some (.int .u64 (n64 h.size)) := by unfold headC; rw [Array.getElem?_append_left (by simp)]; rfl
theorem headC_3 (h : HeadL) : (headC h)[3]? = some (.int .u64 (n64 h.clock)) := by unfold headC; rw [Array.getElem?_append_left (by simp)]; rfl
theorem headC_size (h : HeadL) : (headC h).size = 36 := by simp [headC, dat_size]
theorem headC_root (h : HeadL) (j : Nat) : (headC h)[4 + j]? = (dat h.root)[j]? := by
  unfold headC
  rw [Array.getElem?_append_right (by simp)]
  simp
theorem head_range {w : World} {g : Nat} {t : TypeId} {h : HeadL} (hB : Blk w g t (headC h)) (hr : h.root.length = 32) : w.rangeAt g 4 (h.root.map v8) := by
  intro j v hj
  rw [hB.cell, headC_root, dat_eq _ hr]
  simpa using hj
set_option maxHeartbeats 1000000 in
set_option maxRecDepth 100000 in
theorem bytes_any (h : HeadL) (hok : h.ok) (w : World) :
    Calls Tryd.prog 120 #[.agg (headC h)] w fun e w' => ∃ v, e = .returned v ∧ BSl w' w'.heap.size v (headB h) ∧ Below w.heap.size w w' := by
  obtain ⟨hr, ⟨ht1, ht2⟩, he1, he2⟩ := hok
  have v1 := Lib.hid ((wrap_u64' h.tree).trans (i64u_val h.tree))
  have v2 := Lib.hid ((wrap_u64' h.epoch).trans (i64u_val h.epoch))
  have Hr := Lib.hid hr
  have Hrl := Lib.hid (show (h.root.map v8).length = 32 by rw [List.length_map]; exact hr)
  clear hr
  have hD := Blk.new w 64 (headC h)
  have hb0 := below_new1 w (Obj.cells (headC h) 64)
  go_enter Tryd.func120, Tryd.ntmps120
  go_wp2_with fail
  refine calls_at (fun W => Blk W w.heap.size 64 (headC h) ∧ Below w.heap.size w W) ⟨hD, hb0⟩ ?_
  clear hD hb0
  rintro W ⟨hD, hb0⟩
  refine (newWriter_any W).mono ?_
  rintro e w1 ⟨p, rfl, hW1, hb1⟩
  have hD1 := hD.below hb1 hD.lt
  have hbel1 := hb0.trans (hb1.mono hb0.size)
  have hBw : w.heap.size < W.heap.size := hD.lt
  have hB1 : W.heap.size ≤ w1.heap.size := hb1.size
  clear hD hb0 hb1
  generalize W.heap.size = B at hW1 hBw hB1
  have c0 : w1.cell? ⟨w.heap.size, 0, none⟩ = some (.int .i64 h.tree) := by rw [hD1.cell]; exact headC_0 h
  go_wp2_with fail
  rw [v1.out]
  refine (number_any p _ (i64u h.tree) 1 (by decide) w1 B hW1 hB1 (by simp [numB_length])).mono ?_
  rintro e w2 ⟨rfl, hW2, hb2⟩
  rw [show clamp8 1 = 1 from rfl, List.nil_append] at hW2
  have hD2 := hD1.below hb2 hBw
  have hbel2 := hbel1.trans (hb2.mono (by omega))
  have hB2 := Nat.le_trans hB1 hb2.size
  clear hD1 hbel1 hb2 hW1 c0
  have c1 : w2.cell? ⟨w.heap.size, 1, none⟩ = some (.int .i64 h.epoch) := by rw [hD2.cell]; exact headC_1 h
  go_wp2_with fail
  rw [v2.out]
  refine (number_any p _ (i64u h.epoch) 4 (by decide) w2 B hW2 hB2 (by simp [numB_length])).mono ?_
  rintro e w3 ⟨rfl, hW3, hb3⟩
  rw [show clamp8 4 = 4 from rfl] at hW3
  have hD3 := hD2.below hb3 hBw
  have hbel3 := hbel2.trans (hb3.mono (by omega))
  have hB3 := Nat.le_trans hB2 hb3.size
  clear hD2 hbel2 hb3 hW2 c1
  have c2 : w3.cell? ⟨w.heap.size, 2, none⟩ = some (.int .u64 (n64 h.size)) := by rw [hD3.cell]; exact headC_2 h
  go_wp2_with fail
  refine (number_any p _ (h.size) 8 (by decide) w3 B hW3 hB3 (by simp [numB_length])).mono ?_
  rintro e w4 ⟨rfl, hW4, hb4⟩
  rw [show clamp8 8 = 8 from rfl] at hW4
  have hD4 := hD3.below hb4 hBw
  have hbel4 := hbel3.trans (hb4.mono (by omega))
  have hB4 := Nat.le_trans hB3 hb4.size
  clear hD3 hbel3 hb4 hW3 c2
  have c3 : w4.cell? ⟨w.heap.size, 3, none⟩ = some (.int .u64 (n64 h.clock)) := by rw [hD4.cell]; exact headC_3 h
  go_wp2_with fail
  refine (number_any p _ (h.clock) 8 (by decide) w4 B hW4 hB4 (by simp [numB_length])).mono ?_
  rintro e w5 ⟨rfl, hW5, hb5⟩
  rw [show clamp8 8 = 8 from rfl] at hW5
  have hD5 := hD4.below hb5 hBw
  have hbel5 := hbel4.trans (hb5.mono (by omega))
  have hB5 := Nat.le_trans hB4 hb5.size
  clear hD4 hbel4 hb5 hW4 c3
  have hrg := head_range hD5 Hr.out
  go_wp2_with (first
    | (refine wpList_load_mid rfl 35 (.tmp 24) rfl w.heap.size 4 rfl _ _ hrg Tryd.underlying35 rfl (by rw [Hrl.out]; kernel_rfl) ?_))
  rw [← dat_eq h.root Hr.out]
  refine (digest_any p _ h.root Hr.out w5 B hW5 hB5 (by simp [numB_length])).mono ?_
  rintro e w6 ⟨rfl, hW6, hb6⟩
  have hbel6 := hbel5.trans (hb6.mono (by omega))
  clear hD5 hbel5 hb6 hW5 hrg
  have kc := fun (w : World) (C : Array Value) (n c : Nat) => Lib.run_convert_bytes_const (P := Tryd.prog) w 46 5 C n c Tryd.underlying46 Tryd.underlying5
  go_wp2_with fail
  clear kc
  have hX : (w6.alloc (Obj.cells #[.int .u8 104, .int .u8 101, .int .u8 97, .int .u8 100] 5 (4, 5))).heap[w6.heap.size]? = some (.cells (headTxt.map v8).toArray 5 (4, 5)) := heap_alloc_new _ _
  have hb7 := below_new1 w6 (Obj.cells #[.int .u8 104, .int .u8 101, .int .u8 97, .int .u8 100] 5 (4, 5))
  have hK7 := BSl.of_marked hX (w6.alloc (Obj.cells #[.int .u8 104, .int .u8 101, .int .u8 97, .int .u8 100] 5 (4, 5))).heap.size (by simp) (by decide)
  refine calls_at (fun W => BSl W W.heap.size (.slice (some ⟨w6.heap.size, 0, none⟩) 4 4) headTxt ∧ Below w6.heap.size w6 W) ⟨hK7, hb7⟩ ?_
  clear hX hb7 hK7
  rintro w7 ⟨hK7, hb7⟩
  have hbel7 := hbel6.trans (hb7.mono hbel6.size)
  have hW7 := hW6.below hb7
  clear hbel6 hb7 hW6
  refine (done_any p _ w7 B hW7 (by simp [numB_length, Hr.out])).mono ?_
  rintro e w8 ⟨v8, rfl, hv8, _, hb8⟩
  have hbel8 := hbel7.trans (hb8.mono hbel7.size)
  have hK8 := hK7.next hb8
  clear hbel7 hK7 hW7 hb8
  obtain ⟨A8, c8, rfl, hc81, hc82, hr8⟩ := hv8
  have hv8 : BSl w8 w8.heap.size (.slice A8 (numB (i64u h.tree) 1 ++ numB (i64u h.epoch) 4 ++ numB h.size 8 ++ numB h.clock 8 ++ h.root).length c8) (numB (i64u h.tree) 1 ++ numB (i64u h.epoch) 4 ++ numB h.size 8 ++ numB h.clock 8 ++ h.root) := ⟨A8, c8, rfl, hc81, hc82, hr8⟩
  have hkl : (headTxt ++ (numB (i64u h.tree) 1 ++ numB (i64u h.epoch) 4 ++ numB h.size 8 ++ numB h.clock 8 ++ h.root)).length = 57 := headB_length h Hr.out
  have hkd : headTxt ++ (numB (i64u h.tree) 1 ++ numB (i64u h.epoch) 4 ++ numB h.size 8 ++ numB h.clock 8 ++ h.root) = headB h := rfl
  generalize numB (i64u h.tree) 1 ++ numB (i64u h.epoch) 4 ++ numB h.size 8 ++ numB h.clock 8 ++ h.root = N at hv8 hkd hkl ⊢
  have Hkd := Lib.hid hkd
  have Hkl := Lib.hid hkl
  clear hc81 hc82 hr8 hkd hkl
  generalize N.length = nN at hv8 ⊢
  go_wp2_with fail
  have hX := Blk.new w8 46 #[.slice (some ⟨w6.heap.size, 0, none⟩) 4 4, .slice A8 nN c8]
  have hb9 := below_new1 w8 (Obj.cells #[.slice (some ⟨w6.heap.size, 0, none⟩) 4 4, .slice A8 nN c8] 46)
  have hS := SSl.two hX _ hX.lt (hK8.next hb9) (hv8.next hb9)
  refine calls_at (fun W => SSl W W.heap.size (.slice (some ⟨w8.heap.size, 0, none⟩) 2 2) [headTxt, N] ∧ Below w8.heap.size w8 W) ⟨hS, hb9⟩ ?_
  clear hX hb9 hS hK8 hv8
  rintro w9 ⟨hS, hb9⟩
  have hbel9 := hbel8.trans (hb9.mono hbel8.size)
  clear hbel8 hb9
  refine (join_any _ _ _ hS (by simp only [List.flatten_cons, List.flatten_nil, List.append_nil]; rw [Hkl.out]; decide)).mono ?_
  rintro e w10 ⟨v10, rfl, hown10, hb10⟩
  simp only [List.flatten_cons, List.flatten_nil, List.append_nil] at hown10
  rw [Hkd.out] at hown10
  have hB10 := BSl.of_own hown10
  have hbel10 := hbel9.trans (hb10.mono hbel9.size)
  clear hown10 hS hbel9 hb10
  go_wp2_with fail
  go_ret
  exact ⟨_, rfl, hB10, hbel10⟩
end Go.Proofs.YtcgbokgedfekkaaDoor
