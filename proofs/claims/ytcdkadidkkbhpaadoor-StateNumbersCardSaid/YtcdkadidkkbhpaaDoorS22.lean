/- Texts that stand behind one another: EncK, Enc1, EncP. No condition. -/
import Derived.Test.YtcdkadidkkbhpaaDoorS21
import Derived.Test.YtcdkadidkkbhpaaDoorS15
/- The walks of codec's Writer with a frame by the blocks' types; state.flag. No condition. -/
namespace Go.Proofs.YtcdkadidkkbhpaaDoor
open Go Go.RowKit
attribute [local irreducible] mixW
attribute [local go_sem] n8_lo n8_hi n64_lo n64_hi n32_lo n32_hi
set_option maxHeartbeats 1000000 in
set_option maxRecDepth 100000 in
theorem digest_twoE (g : Nat) (v : Value) (bs d : List UInt8) (hd : d.length = 32) (w : World) (B : Nat) (hW : Wr w B g v bs) (hB : B ≤ w.heap.size) (hl : bs.length ≤ 140737488355264) :
    Calls Tryd.prog 44 #[.pointer (some ⟨g, 0, none⟩), .agg (dat d)] w fun e w' => e = .returned (.tuple #[]) ∧ ∃ u, Wr w' B g u (bs ++ d) ∧ Two w w' g v u := by
  have hne := hW.ne
  obtain ⟨hg, hblk, hown⟩ := hW
  obtain ⟨i0, hi, hz0, hz1, hz2⟩ := info_parts (by kernel_rfl : (Tryd.prog.info? 5).map (fun i => (i.zero, i.size, i.bytes)) = some (some (.int .u8 0), 1, 1))
  have hlt := hblk.lt
  have hD := Blk.new w 38 (dat d)
  have hb1 := below_new1 w (Obj.cells (dat d) 38)
  go_enter Tryd.func44, Tryd.ntmps44
  go_wp2
  refine wp_at (fun W => Blk W w.heap.size 38 (dat d) ∧ Below w.heap.size w W) ⟨hD, hb1⟩ ?_
  clear hD hb1
  rintro W ⟨hD, hb1⟩
  have hblkD := (hblk.below hb1 hlt).drewN 1
  have hownD : (W.drewN 1).ownsRow B 5 1 v (bs.map v8).length (bs.map v8) := own_below hown (below_drewN hb1 1)
  have htwD := ((Two.refl w g v).below hb1).drewN 1
  have hDD := hD.drewN 1
  have hBD : B ≤ (W.drewN 1).heap.size := Nat.le_trans hB hb1.size
  have hrd := Reads.of_blk hDD hDD.lt 0
  rw [dat_eq d hd] at hrd
  have hlD : (d.map v8).length = 32 := by rw [List.length_map, hd]
  have HlD := Lib.hid hlD
  clear hlD
  refine wp_region_mixS 9 (.plain 0 <| .plain 1 <| .plain 2 <| .plain 3 <| .plain 4 <| .plain 5 <| .only 6 <| .plain 7 <| .plain 8 <| .done) (fun w' => w'.cell? ⟨g, 0, none⟩ = some v) (by kernel_rfl) (by kernel_rfl) (hblkD.cell 0) ?_
  clear hblk hown hb1 hD
  generalize W.drewN 1 = wd at hownD hblkD htwD hBD hDD hrd ⊢
  repeat (refine mix_plain rfl ?_; (first
    | (refine wpQuiet_nilCheck rfl (.tmp 5) rfl _ rfl ?_; simp only [Act.put, List.setIfInBounds_toArray, List.set_cons_zero, List.set_cons_succ])
    | (refine wpQuiet_load1 rfl _ (.tmp 7) rfl _ rfl _ Tryd.underlying23 rfl v (fun _ h => h) ?_; simp only [Act.put, List.setIfInBounds_toArray, List.set_cons_zero, List.set_cons_succ])
    | go_big_quiet_step ((intro _; rfl))
    | go_big_quiet_step (fail)); refine wpQuiet_nil ?_)
  refine mix_only_in rfl (fun K hK => ?_)
  refine wpList_appendR rfl (.tmp 8) (.tmp 9) _ rfl B 5 i0 _ 1 Tryd.underlying23 hi hz0 hz1 hz2 rfl v _ rfl hownD wd.heap.size (some ⟨w.heap.size, 0, none⟩) 32 32 (d.map v8) rfl (by simpa using hrd) HlD.out (oneCell_v8 d) (by unfold maxLen; rw [List.length_map]; omega) (by rw [List.length_map]; omega) hBD ?_
  intro v' w2 hown2 hg2 hat2
  simp only [Act.put, List.setIfInBounds_toArray, List.set_cons_zero, List.set_cons_succ]
  have hneg : some g ≠ v.ownBlock := fun e => hne e.symm
  have hblk2 := hblkD.grown hg2 hneg
  have HT2 := Lib.hid (htwD.app hg2 hat2)
  rw [← List.map_append] at hown2
  have hne2 : v'.ownBlock ≠ some g := own_ne hblk2 hown2 (by decide)
  refine hK _ _ (hblk2.cell 0) ?_
  clear hK K hrd hownD hblkD htwD hg2 hat2 hneg hDD
  repeat (refine mix_plain rfl ?_; (first
    | (refine wpQuiet_nilCheck rfl (.tmp 4) rfl _ rfl ?_; simp only [Act.put, List.setIfInBounds_toArray, List.set_cons_zero, List.set_cons_succ])
    | go_big_quiet_step ((intro _; rfl))
    | go_big_quiet_step (fail)); refine wpQuiet_nil ?_)
  refine mix_done ?_
  simp only [List.drop_succ_cons, List.drop_zero]
  have hv1 : v'.cells = #[v'] ∧ v'.oneCell' = true := by
    rcases hown2.2 with ⟨rfl, _⟩ | ⟨g', cap', cur, rfl, _⟩ <;> exact ⟨rfl, rfl⟩
  refine wpList_store1 rfl rfl _ (.tmp 12) (.tmp 10) rfl g 0 rfl v' rfl _ _ hblk2 (by kernel_rfl) (by simp) hv1.1 hv1.2 ?_
  intro w3 hblk3 hon3
  have hown3 := own_grown hown2 hon3 (fun g' hg' e => by injection e with e; subst e; exact hne2 hg')
  have HT3 := Lib.hid (HT2.out.store hon3)
  have e3 : (#[v] : Array Value).setIfInBounds 0 v' = #[v'] := by simp
  rw [e3] at hblk3
  clear hblk2 hown2 hon3 HT2 hv1 e3
  go_wp2
  exact bodyPost_end (results_none rfl _ _ _) rfl ⟨rfl, v', ⟨hg, hblk3, hown3⟩, HT3.out⟩
/-- what is below block B stays; so do all blocks that are no Writer's and no bytes -/
def KW (B : Nat) (w w' : World) : Prop := Below B w w' ∧ ∀ k t cs, Blk w k t cs → t ≠ 131 → t ≠ 5 → Blk w' k t cs
theorem KW.refl (B : Nat) (w : World) : KW B w w := ⟨Below.refl _ _, fun _ _ _ h _ _ => h⟩
theorem KW.trans {B : Nat} {w w' w'' : World} (h : KW B w w') (h' : KW B w' w'') : KW B w w'' := ⟨h.1.trans h'.1, fun k t cs q h1 h2 => h'.2 k t cs (h.2 k t cs q h1 h2) h1 h2⟩
theorem KW.of_below {B : Nat} {w w' : World} (h : Below w.heap.size w w') (hB : B ≤ w.heap.size) : KW B w w' := ⟨h.mono hB, fun _ _ _ q _ _ => q.below h q.lt⟩
/-- a new block is written -/
theorem KW.of_only {B g : Nat} {w w' : World} {t : TypeId} {cs : Array Value} (h : w.grownBy w' (some g)) (hg : w.heap.size ≤ g) (hB : B ≤ w.heap.size) : KW B w w' :=
  ⟨⟨h.os, h.tape, h.output, h.size, fun i hi => h.block i (by omega) (fun e => by injection e with e; omega)⟩, fun k t cs q _ _ => q.grown h (fun e => by injection e with e; have := q.lt; omega)⟩
theorem KW.of_two {B g : Nat} {v u : Value} {bs : List UInt8} {w w' : World} (hW : Wr w B g v bs) (h : Two w w' g v u) (hB : B ≤ w.heap.size) : KW B w w' :=
  ⟨h.bel hW.1 hW.low hB, fun k t cs q h1 h2 => h.blk q (fun e => by
    subst e
    have hh : some (Obj.cells cs t (0, 0)) = some (Obj.cells _ _ (0, 0)) := q.symm.trans hW.2.1
    injection hh with hh
    injection hh with _ hh
    exact h1 hh) (fun e => own_ne q hW.2.2 h2 e.symm)⟩
/-- a Writer in block g -/
def WrE (w : World) (B g : Nat) (bs : List UInt8) : Prop := ∃ v, Wr w B g v bs
theorem WrE.below {w w' : World} {B g : Nat} {bs : List UInt8} (h : WrE w B g bs) (hb : Below w.heap.size w w') : WrE w' B g bs := by
  obtain ⟨v, h⟩ := h
  exact ⟨v, h.below hb⟩
theorem numK (g : Nat) (bs : List UInt8) (n : UInt64) (k : Int) (hk : -9223372036854775808 ≤ k ∧ k ≤ 9223372036854775807) (w : World) (B : Nat) (hW : WrE w B g bs) (hB : B ≤ w.heap.size) (hl : bs.length ≤ 140737488355264) :
    Calls Tryd.prog 41 #[.pointer (some ⟨g, 0, none⟩), .int .u64 (n64 n), .int .i64 k] w fun e w' => e = .returned (.tuple #[]) ∧ WrE w' B g (bs ++ numB n (clamp8 k)) ∧ KW B w w' := by
  obtain ⟨v, hW⟩ := hW
  exact (number_two g v bs n k hk w B hW hB hl).mono fun e w' ⟨h1, u, h2, h3⟩ => ⟨h1, ⟨u, h2⟩, KW.of_two hW h3 hB⟩
theorem digK (g : Nat) (bs d : List UInt8) (hd : d.length = 32) (w : World) (B : Nat) (hW : WrE w B g bs) (hB : B ≤ w.heap.size) (hl : bs.length ≤ 140737488355264) :
    Calls Tryd.prog 44 #[.pointer (some ⟨g, 0, none⟩), .agg (dat d)] w fun e w' => e = .returned (.tuple #[]) ∧ WrE w' B g (bs ++ d) ∧ KW B w w' := by
  obtain ⟨v, hW⟩ := hW
  exact (digest_twoE g v bs d hd w B hW hB hl).mono fun e w' ⟨h1, u, h2, h3⟩ => ⟨h1, ⟨u, h2⟩, KW.of_two hW h3 hB⟩
theorem bytK (g : Nat) (bs : List UInt8) (u : Value) (xs : List UInt8) (w : World) (B : Nat) (hW : WrE w B g bs) (hB : B ≤ w.heap.size) (hu : BSl w B u xs) (hl : bs.length ≤ 140737488289728) :
    Calls Tryd.prog 42 #[.pointer (some ⟨g, 0, none⟩), u] w fun e w' => e = .returned (.tuple #[]) ∧ WrE w' B g (bs ++ txtB xs) ∧ KW B w w' := by
  obtain ⟨v, hW⟩ := hW
  obtain ⟨A, cap, rfl, h1, h2, h3⟩ := hu
  have hu : BSl w w.heap.size (.slice A xs.length cap) xs := BSl.more ⟨A, cap, rfl, h1, h2, h3⟩ hB
  refine (wbytes_two g v bs A cap xs w B hW hB hu (fun hx b o e => ?_) hl).mono fun e w' ⟨h1, u, h2, h3⟩ => ⟨h1, ⟨u, h2⟩, KW.of_two hW h3 hB⟩
  obtain ⟨b', o', e', hb', _⟩ := h3 (by rw [List.length_map]; exact hx)
  rw [e] at e'
  injection e' with e'
  injection e' with e' _
  subst e'
  refine ⟨fun e => ?_, fun e => ?_⟩
  · subst e; have := hW.1; omega
  · have := hW.low b e.symm; omega
def flagB (b : Bool) : List UInt8 := [if b then 1 else 0]
set_option maxRecDepth 100000 in
theorem flagK (g : Nat) (bs : List UInt8) (b : Bool) (w : World) (B : Nat) (hW : WrE w B g bs) (hB : B ≤ w.heap.size) (hl : bs.length ≤ 140737488355264) :
    Calls Tryd.prog 43 #[.pointer (some ⟨g, 0, none⟩), .bool b] w fun e w' => e = .returned (.tuple #[]) ∧ WrE w' B g (bs ++ flagB b) ∧ KW B w w' := by
  have m := numK g bs (if b then 1 else 0) 1 (by decide) w B hW hB hl
  have e1 : numB (if b then 1 else 0) (clamp8 1) = flagB b := by cases b <;> rfl
  rw [e1] at m
  clear hW e1
  cases b with
  | true =>
    have e2 : n64 (if true = true then (1 : UInt64) else 0) = 1 := by decide
    rw [e2] at m
    go_enter Tryd.func43, Tryd.ntmps43
    go_wp2_with fail
    refine m.mono ?_
    rintro e w' ⟨rfl, h1, h2⟩
    go_wp2_with fail
    refine bodyPost_end (results_none rfl _ _ _) rfl ⟨rfl, h1, h2⟩
  | false =>
    have e2 : n64 (if false = true then (1 : UInt64) else 0) = 0 := by decide
    rw [e2] at m
    go_enter Tryd.func43, Tryd.ntmps43
    go_wp2_with fail
    refine m.mono ?_
    rintro e w' ⟨rfl, h1, h2⟩
    go_wp2_with fail
    refine bodyPost_end (results_none rfl _ _ _) rfl ⟨rfl, h1, h2⟩
end Go.Proofs.YtcdkadidkkbhpaaDoor

/- The walk of state.Encode's inner function: a list of texts is written. No condition. -/
namespace Go.Proofs.YtcdkadidkkbhpaaDoor
open Go Go.RowKit
attribute [local irreducible] mixW
attribute [local go_sem] n8_lo n8_hi n64_lo n64_hi n32_lo n32_hi
def encL (l : List (List UInt8)) : List UInt8 := numB (UInt64.ofNat l.length) 2 ++ l.flatMap txtB
theorem txtB_len (xs : List UInt8) : (txtB xs).length ≤ 65537 := by
  unfold txtB
  rw [List.length_append, numB_length, List.length_take]
  omega
theorem flatMap_le {α β : Type} (f : α → List β) (m : Nat) (h : ∀ x, (f x).length ≤ m) : ∀ (l : List α), (l.flatMap f).length ≤ l.length * m
  | [] => by simp
  | x :: l => by
    have h1 := flatMap_le f m h l
    have h2 := h x
    rw [List.flatMap_cons, List.length_append, List.length_cons, Nat.add_mul]; omega
theorem flatMap_take {α β : Type} (f : α → List β) (l : List α) (k : Nat) (d : α) (hk : k < l.length) : (l.take (k + 1)).flatMap f = (l.take k).flatMap f ++ f (l.getD k d) := by
  rw [List.take_succ_eq_append_getElem hk, List.flatMap_append, List.getD_eq_getElem?_getD, List.getElem?_eq_getElem hk]
  simp
theorem encL_len (l : List (List UInt8)) (h : l.length ≤ 1000000) : (encL l).length ≤ 65537000002 := by
  unfold encL
  have := flatMap_le txtB 65537 txtB_len l
  rw [List.length_append, numB_length]
  have h2 : l.length * 65537 ≤ 1000000 * 65537 := Nat.mul_le_mul_right _ h
  omega
theorem n64_ofNatE (n : Nat) (h : n < 18446744073709551616) : n64 (UInt64.ofNat n) = (n : Int) := by
  unfold n64; rw [UInt64.toNat_ofNat_of_lt' (by show n < 18446744073709551616; omega)]
set_option maxHeartbeats 1000000 in
set_option maxRecDepth 100000 in
theorem enc1_any (g pb : Nat) (bs : List UInt8) (lv : Value) (ls : List (List UInt8)) (w : World) (B : Nat) (hP : Blk w pb 97 #[.pointer (some ⟨g, 0, none⟩)]) (hW : WrE w B g bs) (hB : B ≤ w.heap.size) (hl : SSl w B lv ls) (hn : ls.length ≤ 1000000) (hbs : bs.length ≤ 140000000000000) :
    Calls Tryd.prog 40 #[lv, .pointer (some ⟨pb, 0, none⟩)] w fun e w' => e = .returned (.tuple #[]) ∧ WrE w' B g (bs ++ encL ls) ∧ KW B w w' := by
  obtain ⟨A, cap, vs, rfl, h2, h3, h4, h5, h6⟩ := hl
  have hl : SSl w B (.slice A ls.length cap) ls := ⟨A, cap, vs, rfl, h2, h3, h4, h5, h6⟩
  clear h4 h5 h6 vs
  have m1 := numK g bs (UInt64.ofNat ls.length) 2 (by decide) w B hW hB (by omega)
  rw [n64_ofNatE _ (by omega), show clamp8 2 = 2 by decide] at m1
  have cP : w.cell? ⟨pb, 0, none⟩ = some (.pointer (some ⟨g, 0, none⟩)) := hP.cell 0
  have HH := Lib.hid (And.intro hP (And.intro hW hl))
  have e64 : (ls.length : Int) % 18446744073709551616 = (ls.length : Int) := by omega
  clear hP hW hl
  go_enter Tryd.func40, Tryd.ntmps40
  go_upto_region 1 with (first
    | (go_at_call 41; refine m1.mono ?_; clear m1; rintro e w1 ⟨rfl, hW1, hK1⟩))
  obtain ⟨hd, hhd⟩ : ∃ hd, bs ++ numB (UInt64.ofNat ls.length) 2 = hd := ⟨_, rfl⟩
  rw [hhd] at hW1
  have H1 := Lib.hid (And.intro hW1 (And.intro hK1 (show hd.length ≤ 140000000000002 by rw [← hhd, List.length_append, numB_length]; omega)))
  have Hhd := Lib.hid hhd
  clear hW1 hK1 hhd cP
  go_upto_region 2 with fail
  go_loopg [4, 12] (ls.length + 1) (fun gk bv iv wr => ∃ k : Nat, ls.length + 1 ≤ k + gk ∧ k ≤ ls.length ∧ iv = .int .i64 (k : Int) ∧ WrE wr B g (hd ++ (ls.take k).flatMap txtB) ∧ KW B w wr)
  case atStart => exact ⟨0, by omega, by omega, rfl, by rw [List.take_zero, List.flatMap_nil, List.append_nil]; exact H1.out.1, H1.out.2.1⟩
  case round =>
    obtain ⟨k, hk, hkn, rfl, hWk, hKk⟩ := hrel
    have HX := Lib.hid (And.intro hk (And.intro hWk hKk))
    clear hk hWk hKk
    by_cases hlt : k < ls.length
    · have hki : (k : Int) < (ls.length : Int) := by omega
      have hgk : 0 < gk := by have := HX.out.1; omega
      have hBw : B ≤ wr.heap.size := Nat.le_trans hB HX.out.2.2.1.size
      obtain ⟨b, off, u, rfl, hb, hcu, hu⟩ := (HH.out.2.2.below HX.out.2.2.1).cellAt k hlt
      have cP : wr.cell? ⟨pb, 0, none⟩ = some (.pointer (some ⟨g, 0, none⟩)) := (HX.out.2.2.2 _ _ _ HH.out.1 (by decide) (by decide)).cell 0
      have m2 := bytK g (hd ++ (ls.take k).flatMap txtB) u (ls.getD k []) wr B HX.out.2.1 hBw hu (by
        have := flatMap_le txtB 65537 txtB_len (ls.take k)
        rw [List.length_append]
        have h2 : (ls.take k).length ≤ 1000000 := by rw [List.length_take]; omega
        have h3 : (ls.take k).length * 65537 ≤ 1000000 * 65537 := Nat.mul_le_mul_right _ h2
        have := H1.out.2.2
        omega)
      rw [List.append_assoc, ← flatMap_take txtB ls k [] hlt] at m2
      generalize ls.getD k [] = tx at m2 hu
      obtain ⟨Au, cu, rfl⟩ : ∃ A c, u = .slice A tx.length c := by obtain ⟨A, c, e, _⟩ := hu; exact ⟨A, c, e⟩
      clear hu
      go_wp2_with (first
        | (go_at_call 42; refine m2.mono ?_; clear m2; rintro e w2 ⟨rfl, hW2, hK2⟩))
      have HY := Lib.hid (And.intro hW2 (HX.out.2.2.trans hK2))
      clear hW2 hK2 hcu cP
      go_roundg (gk - 1)
      case measure => omega
      case rel => exact ⟨k + 1, by have := HX.out.1; omega, by omega, by go_num, HY.out.1, HY.out.2⟩
    · obtain rfl : k = ls.length := by omega
      go_wp2_with fail
      refine bodyPost_end (results_none rfl _ _ _) rfl ⟨rfl, ?_, HX.out.2.2⟩
      have := HX.out.2.1
      rw [List.take_length, ← Hhd.out, List.append_assoc] at this
      exact this
end Go.Proofs.YtcdkadidkkbhpaaDoor

/- Chapter 19's bytes of a state, in plain Lean. No condition. -/
namespace Go.Proofs.YtcdkadidkkbhpaaDoor
open Go Go.RowKit
def tenN (t : TenL) : List UInt32 := [t.rate, t.burst, t.tokens, t.store, t.used]
def num4 (d : UInt32) : List UInt8 := numB d.toUInt64 4
def encTen (t : TenL) : List UInt8 := flagB t.on ++ (tenN t).flatMap num4
def encHd (h : HeadL) (tag : List UInt8) : List UInt8 := numB (i64u h.tree) 1 ++ numB (i64u h.epoch) 4 ++ numB h.size 8 ++ numB h.clock 8 ++ h.root ++ tag
def encTreA (t : TreL) : List UInt8 := numB (i64u t.state) 1 ++ numB (i64u t.tenant) 1 ++ numB (i64u t.weight) 1 ++ numB (i64u t.deficit) 4 ++ numB (UInt64.ofNat t.draws.length) 2
def encTre (t : TreL) : List UInt8 := encTreA t ++ t.draws.flatMap num4 ++ encL t.leaves ++ encL t.queue ++ encHd t.head t.tag
def encGra (g : GraL) : List UInt8 := numB (i64u g.tenant) 1 ++ numB (i64u g.role) 1 ++ numB g.expires 8 ++ flagB g.revoked
def encA (s : StaL) : List UInt8 := numB s.clock 8 ++ numB s.draw.toUInt64 4 ++ numB (i64u s.lane) 4 ++ numB (UInt64.ofNat s.tenants.length) 2 ++ numB (UInt64.ofNat s.trees.length) 2 ++ numB (UInt64.ofNat s.grants.length) 2
def encS (s : StaL) : List UInt8 := encA s ++ s.tenants.flatMap encTen ++ s.trees.flatMap encTre ++ s.grants.flatMap encGra
theorem num4_len (d : UInt32) : (num4 d).length = 4 := numB_length _ _
theorem encTen_len (t : TenL) : (encTen t).length = 21 := by simp [encTen, tenN, num4, flagB, numB_length]
theorem encA_len (s : StaL) : (encA s).length = 22 := by simp [encA, numB_length]
theorem encGra_len (g : GraL) : (encGra g).length = 11 := by simp [encGra, flagB, numB_length]
theorem encHd_len (h : HeadL) (tag : List UInt8) (hr : h.root.length = 32) (ht : tag.length = 32) : (encHd h tag).length = 85 := by simp [encHd, numB_length, hr, ht]
theorem encTreA_len (t : TreL) : (encTreA t).length = 9 := by simp [encTreA, numB_length]
theorem num4s_len (l : List UInt32) : (l.flatMap num4).length = l.length * 4 := by
  induction l with
  | nil => rfl
  | cons x l ih => rw [List.flatMap_cons, List.length_append, ih, num4_len, List.length_cons]; omega
theorem encTre_len (t : TreL) (h : t.ok) : (encTre t).length ≤ 131080000000 := by
  obtain ⟨-, -, -, -, h5, h6, h7, h8, h9, -, -⟩ := h
  have e1 := encL_len t.leaves h8
  have e2 := encL_len t.queue h9
  have e3 := num4s_len t.draws
  have e4 := encHd_len t.head t.tag h5.1 h6
  have e5 := encTreA_len t
  unfold encTre
  rw [List.length_append, List.length_append, List.length_append, List.length_append, e3, e4, e5]
  omega
end Go.Proofs.YtcdkadidkkbhpaaDoor
