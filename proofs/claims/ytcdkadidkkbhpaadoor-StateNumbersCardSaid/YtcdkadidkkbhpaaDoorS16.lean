/- Texts that stand behind one another: AudS, Wrt, AudN, Ring, RingR. No condition. -/
import Derived.Test.YtcdkadidkkbhpaaDoorS15
import Derived.Test.YtcdkadidkkbhpaaDoorS13
import Derived.Test.YtcdkadidkkbhpaaDoorS14
import Derived.Maps.AppendAt
import Derived.Test.YtcdkadidkkbhpaaDoorS2
/- The walk of law24's seed. No condition. -/
namespace Go.Proofs.YtcdkadidkkbhpaaDoor
open Go Go.RowKit
attribute [local irreducible] mixW
attribute [local go_sem] n8_lo n8_hi n64_lo n64_hi n32_lo n32_hi
def seed24 : List UInt8 := [115, 101, 101, 100]
end Go.Proofs.YtcdkadidkkbhpaaDoor

/- The walks of codec's Writer with an exact frame: of what was there only its own block and its row's may turn. No condition. -/
namespace Go.Proofs.YtcdkadidkkbhpaaDoor
open Go Go.RowKit
attribute [local irreducible] mixW
attribute [local go_sem] n8_lo n8_hi n64_lo n64_hi
/-- Of what was there only block g and the row of v may have turned; u is where the row is now. -/
structure Two (w w' : World) (g : Nat) (v u : Value) : Prop where
  os : w'.os = w.os
  tape : w'.tape = w.tape
  output : w'.output = w.output
  size : w.heap.size ≤ w'.heap.size
  block : ∀ i, i < w.heap.size → i ≠ g → some i ≠ v.ownBlock → w'.heap[i]? = w.heap[i]?
  at_ : u.ownBlock = v.ownBlock ∨ ∃ k, w.heap.size ≤ k ∧ u.ownBlock = some k
section
variable {a w w' : World} {g B : Nat} {v u u' : Value}
theorem Two.refl (w : World) (g : Nat) (v : Value) : Two w w g v v := ⟨rfl, rfl, rfl, Nat.le_refl _, fun _ _ _ _ => rfl, .inl rfl⟩
theorem Two.drewN (h : Two a w g v u) (n : Nat) : Two a (w.drewN n) g v u := ⟨h.os, h.tape, h.output, h.size, h.block, h.at_⟩
theorem Two.below (h : Two a w g v u) (hb : Below w.heap.size w w') : Two a w' g v u :=
  ⟨hb.os.trans h.os, hb.tape.trans h.tape, hb.output.trans h.output, Nat.le_trans h.size hb.size, fun i hi h1 h2 => (hb.block i (Nat.lt_of_lt_of_le hi h.size)).trans (h.block i hi h1 h2), h.at_⟩
theorem Two.app (h : Two a w g v u) (hg : w.grownBy w' u.ownBlock) (hat : u'.ownBlock = u.ownBlock ∨ u'.ownBlock = some w.heap.size) : Two a w' g v u' := by
  have hs := h.size
  refine ⟨hg.os.trans h.os, hg.tape.trans h.tape, hg.output.trans h.output, Nat.le_trans h.size hg.size, fun i hi h1 h2 => (hg.block i (Nat.lt_of_lt_of_le hi h.size) (fun e => ?_)).trans (h.block i hi h1 h2), ?_⟩
  · rcases h.at_ with e1 | ⟨k, hk, e1⟩
    · exact h2 (e.trans e1)
    · rw [e1] at e; injection e with e; omega
  · rcases hat with e | e
    · rw [e]; exact h.at_
    · exact .inr ⟨_, h.size, e⟩
theorem Two.store (h : Two a w g v u) (hg : w.grownBy w' (some g)) : Two a w' g v u :=
  ⟨hg.os.trans h.os, hg.tape.trans h.tape, hg.output.trans h.output, Nat.le_trans h.size hg.size, fun i hi h1 h2 => (hg.block i (Nat.lt_of_lt_of_le hi h.size) (fun e => h1 (by injection e))).trans (h.block i hi h1 h2), h.at_⟩
theorem Two.trans (h : Two a w g v u) (h' : Two w w' g u u') : Two a w' g v u' := by
  have hs := h.size
  refine ⟨h'.os.trans h.os, h'.tape.trans h.tape, h'.output.trans h.output, Nat.le_trans h.size h'.size, fun i hi h1 h2 => (h'.block i (Nat.lt_of_lt_of_le hi h.size) h1 (fun e => ?_)).trans (h.block i hi h1 h2), ?_⟩
  · rcases h.at_ with e1 | ⟨k, hk, e1⟩
    · exact h2 (e.trans e1)
    · rw [e1] at e; injection e with e; omega
  · rcases h'.at_ with e | ⟨k, hk, e⟩
    · rw [e]; exact h.at_
    · exact .inr ⟨k, Nat.le_trans h.size hk, e⟩
theorem Two.bel (h : Two w w' g v u) (hg : B ≤ g) (hv : ∀ k, v.ownBlock = some k → B ≤ k) (hB : B ≤ w.heap.size) : Below B w w' :=
  ⟨h.os, h.tape, h.output, h.size, fun i hi => h.block i (by omega) (by omega) (fun e => by have := hv i e.symm; omega)⟩
theorem Two.blk {k : Nat} {t : TypeId} {cs : Array Value} (h : Two w w' g v u) (hk : Blk w k t cs) (h1 : k ≠ g) (h2 : some k ≠ v.ownBlock) : Blk w' k t cs := (h.block k hk.lt h1 h2).trans hk
theorem Two.own {base s n : Nat} {e : TypeId} {x : Value} {xs : List Value} (h : Two w w' g v u) (hx : w.ownsRow base e s x n xs) (h1 : x.ownBlock ≠ some g) (h2 : ∀ k, x.ownBlock = some k → v.ownBlock ≠ some k) : w'.ownsRow base e s x n xs := by
  refine ⟨hx.1, ?_⟩
  rcases hx.2 with h0 | ⟨k, cap, cur, rfl, hB, hh, h3⟩
  · exact .inl h0
  · refine .inr ⟨k, cap, cur, rfl, hB, ?_, h3⟩
    have hlt : k < w.heap.size := by
      rcases Nat.lt_or_ge k w.heap.size with h' | h'
      · exact h'
      · rw [Array.getElem?_eq_none h'] at hh; cases hh
    exact (h.block k hlt (fun e => h1 (by subst e; rfl)) (fun e => h2 k rfl e.symm)).trans hh
theorem Two.reads {A : Option Addr} {xs : List Value} (h : Two w w' g v u) (hr : Reads w w.heap.size A xs) (h1 : 0 < xs.length → ∀ b o, A = some ⟨b, o, none⟩ → b ≠ g ∧ some b ≠ v.ownBlock) : Reads w' w'.heap.size A xs := by
  intro hx
  obtain ⟨b, off, e, hb, hc⟩ := hr hx
  have hs := h.size
  refine ⟨b, off, e, by omega, fun j x hj => ?_⟩
  have hk := h.block b hb (h1 hx b off e).1 (h1 hx b off e).2
  exact (World.cell?_of_block (a := ⟨b, off + j, none⟩) hk).trans (hc j x hj)
end
/-- a Writer of the call's own in block g, its row v -/
def Wr (w : World) (B g : Nat) (v : Value) (bs : List UInt8) : Prop :=
  B ≤ g ∧ Blk w g 131 #[v] ∧ w.ownsRow B 5 1 v (bs.map v8).length (bs.map v8)
theorem own_ne {w : World} {g base s n : Nat} {t e : TypeId} {cs : Array Value} {v : Value} {xs : List Value} (hb : Blk w g t cs) (h : w.ownsRow base e s v n xs) (ht : t ≠ e) : v.ownBlock ≠ some g := by
  intro hv
  rcases h.2 with ⟨rfl, _⟩ | ⟨k, cap, cur, rfl, _, hh, _⟩
  · cases hv
  · have hk : k = g := by injection hv
    subst hk
    have : some (Obj.cells _ _ _) = some (Obj.cells _ _ _) := hb.symm.trans hh
    injection this with this
    injection this with _ h3 _
    exact ht h3
theorem Wr.ne {w : World} {B g : Nat} {v : Value} {bs : List UInt8} (h : Wr w B g v bs) : v.ownBlock ≠ some g := own_ne h.2.1 h.2.2 (by decide)
theorem Wr.wrt {w : World} {B g : Nat} {v : Value} {bs : List UInt8} (h : Wr w B g v bs) : Wrt w B (.pointer (some ⟨g, 0, none⟩)) bs := ⟨g, v, rfl, h.1, h.2.1, h.2.2, h.ne⟩
theorem Wr.below {w w' : World} {B g : Nat} {v : Value} {bs : List UInt8} (h : Wr w B g v bs) (hb : Below w.heap.size w w') : Wr w' B g v bs := ⟨h.1, h.2.1.below hb h.2.1.lt, own_below h.2.2 hb⟩
theorem Wr.low {w : World} {B g : Nat} {v : Value} {bs : List UInt8} (h : Wr w B g v bs) : ∀ k, v.ownBlock = some k → B ≤ k := by
  intro k hk
  rcases h.2.2.2 with ⟨rfl, _⟩ | ⟨k', cap, cur, rfl, hB, _⟩
  · cases hk
  · have : k' = k := by injection hk
    omega
theorem Wr.of_new {w : World} {B : Nat} {p : Value} (h : Wrt w B p []) : ∃ g v, p = .pointer (some ⟨g, 0, none⟩) ∧ Wr w B g v [] := by
  obtain ⟨g, v, rfl, hg, hb, ho, _⟩ := h
  exact ⟨g, v, rfl, hg, hb, ho⟩
set_option maxHeartbeats 1000000 in
set_option maxRecDepth 100000 in
theorem number_two (g : Nat) (v0 : Value) (bs : List UInt8) (n : UInt64) (k : Int) (hk : -9223372036854775808 ≤ k ∧ k ≤ 9223372036854775807) (w : World) (B : Nat) (hW : Wr w B g v0 bs) (hB : B ≤ w.heap.size) (hl : bs.length ≤ 140737488355264) :
    Calls Tryd.prog 41 #[.pointer (some ⟨g, 0, none⟩), .int .u64 (n64 n), .int .i64 k] w fun e w' => e = .returned (.tuple #[]) ∧ ∃ u, Wr w' B g u (bs ++ numB n (clamp8 k)) ∧ Two w w' g v0 u := by
  have hne := hW.ne
  obtain ⟨hg, hblk, hown⟩ := hW
  have s1 := clamp8_lo k
  have s8 := clamp8_hi k
  go_enter Tryd.func41, Tryd.ntmps41
  go_wp2_with fail
  refine (size_any k hk _).mono ?_
  rintro e w' ⟨rfl, rfl⟩
  obtain ⟨s, hs⟩ : ∃ s, clamp8 k = s := ⟨_, rfl⟩
  rw [hs] at s1 s8
  have Hs := Lib.hid hs
  rw [hs]
  clear hs
  go_wp2_with fail
  have h0 := numTo_0 n s
  have hE := Lib.hid (numTo_end n s)
  have hS := Lib.hid (numTo_step n s)
  have hb0 := Lib.hid (byte_val n)
  go_loopw [6] (fun iv wr => ∃ (j : Nat) (u : Value), j ≤ s ∧ iv = .int .i64 ((j : Int) - 1) ∧ Blk wr g 131 #[u] ∧ wr.ownsRow B 5 1 u ((bs ++ numTo n s j).map v8).length ((bs ++ numTo n s j).map v8) ∧ u.ownBlock ≠ some g ∧ Two w wr g v0 u) (fun iv _ => ((intOf iv) + 1).toNat)
  case atStart => exact ⟨s, v0, Nat.le_refl _, rfl, hblk, by rw [h0, List.append_nil]; exact hown, hne, Two.refl _ _ _⟩
  case round =>
    clear hblk hown hne h0
    obtain ⟨j, v, hj, rfl, hblk, hown, hne, htw⟩ := hrel
    by_cases h0 : j = 0
    · subst h0
      have hd : decide ((0 : Int) ≤ ((0 : Nat) : Int) - 1) = false := by decide
      rw [hE.out] at hown
      have HT := Lib.hid htw
      clear htw
      go_wp2
      refine bodyPost_end (results_none rfl _ _ _) rfl ⟨rfl, v, ⟨hg, hblk, by rw [Hs.out]; exact hown⟩, HT.out⟩
    · obtain ⟨i, rfl⟩ : ∃ i, j = i + 1 := ⟨j - 1, by omega⟩
      have hi8 : i < 8 := by omega
      have hst := Lib.hid (hS.out i (by omega))
      have hbv := hb0.out i
      have hlt : (numTo n s (i + 1)).length ≤ 8 := by unfold numTo; rw [List.length_take, numB_length]; omega
      have hlen : ((bs ++ numTo n s (i + 1)).map v8).length + 1 ≤ 140737488355328 := by simp; omega
      have e8 : IntKind.i64.wrap (8 * (i : Int)) = ((8 * i : Nat) : Int) := by rw [IntWalk.i64_in _ (by omega)]; omega
      rw [show (((i + 1 : Nat) : Int) - 1) = (i : Int) by omega]
      have Hlen := Lib.hid hlen
      have HT := Lib.hid htw
      clear hlen htw
      go_wp2
      have hW0 := hblk.cell 0
      refine wp_region_mixS 14 (.plain 0 <| .plain 1 <| .plain 2 <| .plain 3 <| .plain 4 <| .plain 5 <| .plain 6 <| .plain 7 <| .plain 8 <| .plain 9 <| .only 10 <| .only 11 <| .plain 12 <| .plain 13 <| .done) (fun w' => w'.cell? ⟨g, 0, none⟩ = some v) (by kernel_rfl) (by kernel_rfl) hW0 ?_
      repeat (refine mix_plain rfl ?_; (first
        | (refine wpQuiet_nilCheck rfl (.tmp 15) rfl _ rfl ?_; simp only [Act.put, List.setIfInBounds_toArray, List.set_cons_zero, List.set_cons_succ])
        | (refine wpQuiet_nilCheck rfl (.tmp 14) rfl _ rfl ?_; simp only [Act.put, List.setIfInBounds_toArray, List.set_cons_zero, List.set_cons_succ])
        | (refine wpQuiet_load1 rfl _ (.tmp 17) rfl _ rfl _ Tryd.underlying23 rfl v (fun _ h => h) ?_; simp only [Act.put, List.setIfInBounds_toArray, List.set_cons_zero, List.set_cons_succ])
        | go_big_quiet_step ((intro _; rfl))
        | go_big_quiet_step (fail)); refine wpQuiet_nil ?_)
      rw [hbv]
      obtain ⟨i0, hi, hz0, hz1, hz2⟩ := info_parts (by kernel_rfl : (Tryd.prog.info? 5).map (fun i => (i.zero, i.size, i.bytes)) = some (some (.int .u8 0), 1, 1))
      have hownD : (wr.drewN 1).ownsRow B 5 1 v ((bs ++ numTo n s (i + 1)).map v8).length ((bs ++ numTo n s (i + 1)).map v8) := hown
      have hblkD := hblk.drewN 1
      have htwD := HT.out.drewN 1
      have hsz := HT.out.size
      clear hown hblk hW0 e8 hbv
      have hBD : B ≤ (wr.drewN 1).heap.size := by show B ≤ wr.heap.size; omega
      generalize wr.drewN 1 = wd at hownD hblkD htwD hBD ⊢
      have hn1 := below_new1 wd (Obj.cells #[.int .u8 (n8 (byteAt n i))] 5)
      have hblkA := hblkD.below hn1 hblkD.lt
      have hownA := own_below hownD hn1
      have hrd : Reads (wd.alloc (Obj.cells #[.int .u8 (n8 (byteAt n i))] 5)) (wd.heap.size + 1) (some ⟨wd.heap.size, 0, none⟩) [v8 (byteAt n i)] := Reads.of_blk (Blk.new wd 5 #[v8 (byteAt n i)]) (by omega) 0
      have HTA := Lib.hid (htwD.below hn1)
      have hBA : B ≤ (wd.alloc (Obj.cells #[.int .u8 (n8 (byteAt n i))] 5)).heap.size := Nat.le_trans hBD hn1.size
      clear htwD
      refine mix_only_in rfl (fun K hK => ?_)
      go_wp2_with fail
      refine hK _ _ (hblkA.cell 0) ?_
      clear hK K
      refine mix_only_in rfl (fun K hK => ?_)
      refine wpList_appendR rfl (.tmp 18) (.tmp 24) _ rfl B 5 i0 _ 1 Tryd.underlying23 hi hz0 hz1 hz2 rfl v _ rfl hownA (wd.heap.size + 1) (some ⟨wd.heap.size, 0, none⟩) 1 1 [v8 (byteAt n i)] rfl hrd rfl (oneCell_v8 [byteAt n i]) (by have := Hlen.out; unfold maxLen; omega) (by have := Hlen.out; omega) hBA ?_
      intro v' w2 hown2 hg2 hat2
      simp only [Act.put, List.setIfInBounds_toArray, List.set_cons_zero, List.set_cons_succ]
      have hneg : some g ≠ v.ownBlock := fun e => hne e.symm
      have hblk2 := hblkA.grown hg2 hneg
      have HT2 := Lib.hid (HTA.out.app hg2 hat2)
      have hB2 : B ≤ w2.heap.size := Nat.le_trans hBA hg2.size
      rw [show (bs ++ numTo n s (i + 1)).map v8 ++ [v8 (byteAt n i)] = (bs ++ numTo n s i).map v8 by rw [hst.out, ← List.append_assoc, List.map_append (l₁ := bs ++ numTo n s (i + 1))]; rfl] at hown2
      have hne2 : v'.ownBlock ≠ some g := own_ne hblk2 hown2 (by decide)
      refine hK _ _ (hblk2.cell 0) ?_
      clear hK K hownA hrd hblkA hownD hblkD hg2 hat2 hneg hn1
      repeat (refine mix_plain rfl ?_; (first
        | (refine wpQuiet_nilCheck rfl (.tmp 14) rfl _ rfl ?_; simp only [Act.put, List.setIfInBounds_toArray, List.set_cons_zero, List.set_cons_succ])
        | go_big_quiet_step ((intro _; rfl))
        | go_big_quiet_step (fail)); refine wpQuiet_nil ?_)
      refine mix_done ?_
      simp only [List.drop_succ_cons, List.drop_zero]
      have hv1 : v'.cells = #[v'] ∧ v'.oneCell' = true := by
        rcases hown2.2 with ⟨rfl, _⟩ | ⟨g', cap', cur, rfl, _⟩ <;> exact ⟨rfl, rfl⟩
      refine wpList_store1 rfl rfl _ (.tmp 27) (.tmp 25) rfl g 0 rfl v' rfl _ _ hblk2 (by kernel_rfl) (by simp) hv1.1 hv1.2 ?_
      intro w3 hblk3 hon3
      have hown3 := own_grown hown2 hon3 (fun g' hg' e => by injection e with e; subst e; exact hne2 hg')
      have HT3 := Lib.hid (HT2.out.store hon3)
      have e3 : (#[v] : Array Value).setIfInBounds 0 v' = #[v'] := by simp
      rw [e3] at hblk3
      clear hblk2 hown2 hon3 hv1 e3 hst Hlen HT HTA HT2
      go_wp2
      go_roundw
      case rel => exact ⟨i, v', by omega, rfl, hblk3, hown3, hne2, HT3.out⟩
      case measure => simp [intOf]
end Go.Proofs.YtcdkadidkkbhpaaDoor

/- slices.Clone of numbers; the walk of audit's New at the laws' draws. No condition. -/
namespace Go.Proofs.YtcdkadidkkbhpaaDoor
open Go Go.RowKit
attribute [local irreducible] mixW
attribute [local go_sem] n8_lo n8_hi n64_lo n64_hi n32_lo n32_hi
theorem own_emptyW (w : World) (base : Nat) (hb : base ≤ w.heap.size) : (w.alloc (Obj.cells #[] 22)).ownsRow base 22 1 (.slice (some ⟨w.heap.size, 0, none⟩) 0 0) ([] : List Value).length [] :=
  ⟨rfl, .inr ⟨w.heap.size, 0, #[], rfl, hb, heap_alloc_new w _, Nat.le_refl _, by decide, rfl, rfl⟩⟩
set_option maxRecDepth 100000 in
/-- slices.Clone of a list of numbers -/
theorem cloneW_any (A : Addr) (c : Nat) (xs : List UInt32) (w : World) (hr : Reads w w.heap.size (some A) (xs.map v32)) (hl : xs.length ≤ 1000000) :
    Calls Tryd.prog 29 #[.slice (some A) xs.length c] w fun e w' => ∃ v, e = .returned v ∧ w'.ownsRow w.heap.size 22 1 v xs.length (xs.map v32) ∧ Below w.heap.size w w' := by
  obtain ⟨i0, hi, hz0, hz1, hz2⟩ := info_parts (by kernel_rfl : (Tryd.prog.info? 22).map (fun i => (i.zero, i.size, i.bytes)) = some (some (.int .u32 0), 1, 4))
  have hoe := own_emptyW w w.heap.size (Nat.le_refl _)
  have hb1 := below_new1 w (Obj.cells #[] 22)
  have hnil : ∀ w, (binOp .eql 47 (.slice (some A) xs.length c) (.slice none 0 0)).run Tryd.prog w = .ok (.bool false) w := fun w => by rw [Lib.run_eql_slice_nil (P := Tryd.prog) w 47 22 (some A) _ c 0 0 Tryd.underlying47]; rfl
  go_enter Tryd.func29, Tryd.ntmps29
  go_wp2_with (first
    | (at_builtin; refine wpList_appendR rfl (.tmp 5) (.tmp 6) 47 rfl w.heap.size 22 i0 _ 4 Tryd.underlying47 hi hz0 hz1 hz2 rfl _ [] rfl hoe w.heap.size (some A) xs.length c (xs.map v32) rfl (hr.below hb1) (by simp) (fun u hu => by obtain ⟨n, _, rfl⟩ := List.mem_map.1 hu; rfl) (by unfold maxLen; simp; omega) (by simp; omega) hb1.size ?_; intro u1 w1 hown1 hg1 _; rw [List.nil_append, List.length_map] at hown1))
  go_ret
  exact ⟨_, rfl, hown1, below_own hb1 hoe hg1 hb1.size⟩
end Go.Proofs.YtcdkadidkkbhpaaDoor

/- The walks of keys' Ring. No condition. -/
namespace Go.Proofs.YtcdkadidkkbhpaaDoor
open Go.RowKit
attribute [local go_sem] n8_lo n8_hi n64_lo n64_hi n32_lo n32_hi
theorem results_cell_tmp {P : Program} {fn : Func} {p q : Tmp} {ty : TypeId} (h : fn.results = #[.cell p ty, .tmp q]) (tmps : Array Value) (w : World) (g : Nat) (t : TypeId) (cs : Array Value) (fr : Nat × Nat) (d : TypeDesc)
    (hp : tmps.getD p undef = .pointer (some ⟨g, 0, none⟩)) (hg : w.heap[g]? = some (.cells cs t fr))
    (hu : P.underlying ty = some d) (hd : (match d with | .struct _ | .array _ _ => true | _ => false) = true) (hi : (P.info? ty).map (·.size) = some cs.size) :
    (results fn tmps).run P w = .ok (.tuple #[.agg cs, tmps.getD q undef]) w := by
  have hp' : tmps[p]?.getD undef = .pointer (some ⟨g, 0, none⟩) := by simpa using hp
  simp [results, h, hp', asAddr, run_loadVar_row w g t ty cs fr d hg hu hd hi]
theorem headC_epoch (h : HeadL) (t k : Int) (ht : h.tree = t) : (headC h).setIfInBounds 1 (.int .i64 k) = headC ⟨t, k, h.size, h.clock, h.root⟩ := by
  subst ht
  unfold headC
  apply Array.toList_inj.1
  rw [Array.toList_setIfInBounds, Array.toList_append, Array.toList_append]
  rfl
theorem sigC_0 (h : HeadL) (tag : List UInt8) : (sigC h tag)[0]? = some (.int .i64 h.tree) := by unfold sigC; rw [Array.getElem?_append_left (by rw [headC_size]; omega)]; exact headC_0 h
theorem sigC_1 (h : HeadL) (tag : List UInt8) : (sigC h tag)[1]? = some (.int .i64 h.epoch) := by unfold sigC; rw [Array.getElem?_append_left (by rw [headC_size]; omega)]; exact headC_1 h
end Go.Proofs.YtcdkadidkkbhpaaDoor

/- The refusals of keys' Ring. No condition. -/
namespace Go.Proofs.YtcdkadidkkbhpaaDoor
open Go.RowKit
attribute [local irreducible] mixW
attribute [local go_sem] n8_lo n8_hi n64_lo n64_hi n32_lo n32_hi
theorem built_S0 : Tryd.prog.built 42 [] = some (sigC zeroHead []) := by kernel_rfl
theorem wpList_build {P : Program} {w : World} {ops : Array Oper} {rest : List Oper} {o : Oper} {a : Act} {Q : Exit → Act → World → Prop} (hg : o.guard = none) (t : TypeId) (parts : Array (Nat × Operand)) (ho : o.op = .build t parts) (cells : Array Value) (hb : P.built t (parts.map fun (i, x) => (i, a.eval x)).toList = some cells)
    (hk : wpList P ops Q rest (a.put o.dst (.agg cells)) w) : wpList P ops Q (o :: rest) a w :=
  wpList_plain hg fun K hK => by
    unfold Oper.wp execOp
    simp only [ho, Sem.run_bind, run_build w t _ cells hb, Result.andThen_ok, Sem.run_pure]
    exact hK _ _ hk
end Go.Proofs.YtcdkadidkkbhpaaDoor
