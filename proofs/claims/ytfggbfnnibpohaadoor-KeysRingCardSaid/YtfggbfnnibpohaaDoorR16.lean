/- Texts that stand behind one another: RingR, RingK, Tbl, RingS, Wrt. No condition. -/
import Derived.Test.YtfggbfnnibpohaaDoorR15
import Derived.Test.YtfggbfnnibpohaaDoorR11
import Derived.Test.YtfggbfnnibpohaaDoorR7
import Derived.Test.YtfggbfnnibpohaaDoorR13
/- The refusals of keys' Ring. No condition. -/
namespace Go.Proofs.YtfggbfnnibpohaaDoor
open Go.RowKit
attribute [local irreducible] mixW
attribute [local go_sem] n8_lo n8_hi n64_lo n64_hi n32_lo n32_hi
set_option maxRecDepth 100000 in
theorem turn_out (p : Value) (t : Int) (ht : ¬ (0 ≤ t ∧ t < 16)) (draw : Value) (w : World) :
    Calls Tryd.prog 13 #[p, .int .i64 t, draw] w fun e w' => e = .returned (.tuple #[.int .i64 0, .int .i64 1]) ∧ w = w' := by
  have Hd := Lib.hid (decide_eq_false ht)
  clear ht
  go_enter Tryd.func13, Tryd.ntmps13
  go_wp2_with fail
  refine (has_any _ _).mono ?_
  rintro e w' ⟨rfl, rfl⟩
  rw [Hd.out]
  go_wp2_with fail
  go_ret2
  exact ⟨rfl, rfl⟩
set_option maxRecDepth 100000 in
theorem turn_many (g B : Nat) (seed : List UInt8) (vs : Value) (rows : List Value) (ks : Nat → List (List UInt8)) (t : Nat) (ht : t < 16) (hk : (ks t).length = 32) (draw : Value) (w : World) (hR : Rng w g B seed vs rows ks) :
    Calls Tryd.prog 13 #[.pointer (some ⟨g, 0, none⟩), .int .i64 t, draw] w fun e w' => e = .returned (.tuple #[.int .i64 0, .int .i64 4]) ∧ w = w' := by
  have hrow := hR.row t ht
  obtain ⟨Ar, cr, er⟩ := hR.rowLen t ht
  rw [er, hk] at hrow
  clear er hk
  have hd : decide ((0 : Int) ≤ (t : Int) ∧ (t : Int) < 16) = true := decide_eq_true (by omega)
  have Hd := Lib.hid hd
  clear hd
  go_enter Tryd.func13, Tryd.ntmps13
  go_wp2_with fail
  refine (has_any _ _).mono ?_
  rintro e w' ⟨rfl, rfl⟩
  rw [Hd.out]
  go_wp2_with fail
  go_ret2
  exact ⟨rfl, rfl⟩
theorem built_S0 : Tryd.prog.built 45 [] = some (sigC zeroHead []) := by kernel_rfl
theorem wpList_build {P : Program} {w : World} {ops : Array Oper} {rest : List Oper} {o : Oper} {a : Act} {Q : Exit → Act → World → Prop} (hg : o.guard = none) (t : TypeId) (parts : Array (Nat × Operand)) (ho : o.op = .build t parts) (cells : Array Value) (hb : P.built t (parts.map fun (i, x) => (i, a.eval x)).toList = some cells)
    (hk : wpList P ops Q rest (a.put o.dst (.agg cells)) w) : wpList P ops Q (o :: rest) a w :=
  wpList_plain hg fun K hK => by
    unfold Oper.wp execOp
    simp only [ho, Sem.run_bind, run_build w t _ cells hb, Result.andThen_ok, Sem.run_pure]
    exact hK _ _ hk
set_option maxHeartbeats 400000 in
set_option maxRecDepth 100000 in
theorem rsign_out (p : Value) (h : HeadL) (ht : ¬ (0 ≤ h.tree ∧ h.tree < 16)) (w : World) :
    Calls Tryd.prog 15 #[p, .agg (headC h)] w fun e w' => e = .returned (.tuple #[.agg (sigC zeroHead []), .int .i64 1]) ∧ Below w.heap.size w w' := by
  have Hd := Lib.hid (decide_eq_false ht)
  clear ht
  have hzv := zero_sig
  go_enter Tryd.func15, Tryd.ntmps15
  go_upto_region 1 with fail
  clear hzv
  refine wp_at (fun W => Blk W w.heap.size 37 (headC h) ∧ Blk W (w.heap.size + 1) 45 (sigC zeroHead []) ∧ Below w.heap.size w W)
    ⟨(Blk.new w _ _).alloc _, Blk.new2 _ _ _ _, ((Below.refl _ _).alloc (Nat.le_refl _) _).alloc (by simp) _⟩ ?_
  rintro W ⟨hH, hS, hbel⟩
  have c0 : W.cell? ⟨w.heap.size, 0, none⟩ = some (.int .i64 h.tree) := by rw [hH.cell, headC_0]
  go_wp2_with fail
  refine (has_any _ _).mono ?_
  rintro e w' ⟨rfl, rfl⟩
  rw [Hd.out]
  clear c0
  have hbS := built_S0
  go_wp2_with (first
    | (refine wpList_build rfl 45 _ rfl (sigC zeroHead []) built_S0 ?_)
    | (refine wpList_storeB rfl rfl 45 (.tmp 4) (.tmp 12) rfl (w.heap.size + 1) 0 rfl (sigC zeroHead []) rfl _ _ hS (by rw [sigC_size]; kernel_rfl) (by rw [sigC_size]; omega) (sigC_one _ _) ?_; intro W5 hS5 hon5))
  rw [copied_all _ _ (by rw [sigC_size])] at hS5
  have hb5 := below_only hbel hon5 (by omega) hbel.size
  refine bodyPost_ret (results_cell_tmp (p := 4) (q := 5) (ty := 45) rfl _ _ (w.heap.size + 1) _ _ _ _ rfl hS5 Tryd.underlying45 rfl (by rw [sigC_size]; kernel_rfl)) rfl ⟨?_, hb5⟩
  rfl
set_option maxHeartbeats 400000 in
set_option maxRecDepth 100000 in
theorem rsign_none (g B : Nat) (seed : List UInt8) (vs : Value) (rows : List Value) (ks : Nat → List (List UInt8)) (t : Nat) (ht : t < 16) (hk : ks t = []) (h : HeadL) (htr : h.tree = t) (w : World) (hR : Rng w g B seed vs rows ks) :
    Calls Tryd.prog 15 #[.pointer (some ⟨g, 0, none⟩), .agg (headC h)] w fun e w' => e = .returned (.tuple #[.agg (sigC zeroHead []), .int .i64 23]) ∧ Below w.heap.size w w' := by
  have hd : decide ((0 : Int) ≤ (t : Int) ∧ (t : Int) < 16) = true := decide_eq_true (by omega)
  have Hd := Lib.hid hd
  have Hk := Lib.hid hk
  have Htr := Lib.hid htr
  clear hd hk htr
  have hzv := zero_sig
  go_enter Tryd.func15, Tryd.ntmps15
  go_upto_region 1 with fail
  clear hzv
  refine wp_at (fun W => Blk W w.heap.size 37 (headC h) ∧ Blk W (w.heap.size + 1) 45 (sigC zeroHead []) ∧ Below w.heap.size w W)
    ⟨(Blk.new w _ _).alloc _, Blk.new2 _ _ _ _, ((Below.refl _ _).alloc (Nat.le_refl _) _).alloc (by simp) _⟩ ?_
  rintro W ⟨hH, hS, hbel⟩
  have c0 : W.cell? ⟨w.heap.size, 0, none⟩ = some (.int .i64 t) := by rw [hH.cell, headC_0, Htr.out]
  have hRW := hR.below hbel
  go_wp2_with fail
  refine (has_any _ _).mono ?_
  rintro e w' ⟨rfl, rfl⟩
  rw [Hd.out]
  go_wp2_with fail
  refine (epoch_none g B seed vs rows ks t ht Hk.out W hRW).mono ?_
  rintro e w' ⟨rfl, rfl⟩
  clear c0
  go_wp2_with (first
    | (refine wpList_build rfl 45 _ rfl (sigC zeroHead []) built_S0 ?_)
    | (refine wpList_storeB rfl rfl 45 (.tmp 4) (.tmp 22) rfl (w.heap.size + 1) 0 rfl (sigC zeroHead []) rfl _ _ hS (by rw [sigC_size]; kernel_rfl) (by rw [sigC_size]; omega) (sigC_one _ _) ?_; intro W5 hS5 hon5))
  rw [copied_all _ _ (by rw [sigC_size])] at hS5
  have hb5 := below_only hbel hon5 (by omega) hbel.size
  refine bodyPost_ret (results_cell_tmp (p := 4) (q := 5) (ty := 45) rfl _ _ (w.heap.size + 1) _ _ _ _ rfl hS5 Tryd.underlying45 rfl (by rw [sigC_size]; kernel_rfl)) rfl ⟨?_, hb5⟩
  rfl
set_option maxHeartbeats 600000 in
set_option maxRecDepth 100000 in
/-- what was never signed by an epoch of a tree does not hold -/
theorem rholds_no (g B : Nat) (seed : List UInt8) (vs : Value) (rows : List Value) (ks : Nat → List (List UInt8)) (hk2 : ∀ i, i < 16 → (ks i).length ≤ 32) (h : HeadL) (hno : ¬ (0 ≤ h.tree ∧ h.tree < 16 ∧ 0 ≤ h.epoch ∧ h.epoch < (ks h.tree.toNat).length)) (tag : List UInt8) (w : World) (hR : Rng w g B seed vs rows ks) :
    Calls Tryd.prog 19 #[.pointer (some ⟨g, 0, none⟩), .agg (sigC h tag)] w fun e w' => e = .returned (.bool false) ∧ Below w.heap.size w w' := by
  have Hno := Lib.hid hno
  have Hk2 := Lib.hid hk2
  clear hno hk2
  go_enter Tryd.func19, Tryd.ntmps19
  go_wp2
  refine wp_at (fun W => Blk W w.heap.size 45 (sigC h tag) ∧ Below w.heap.size w W) ⟨Blk.new w _ _, below_new1 w _⟩ ?_
  rintro W ⟨hS, hbel⟩
  refine wp_region_mixP (.plain 0 <| .plain 1 <| .plain 2 <| .plain 3 <| .plain 4 <| .plain 5 <| .plain 6 <| .plain 7 <| .done) (by kernel_rfl) (by kernel_rfl) (fun W1 hb1 => ?_)
  have hS1 := hS.below hb1 hS.lt
  have hbel1 := hbel.trans (hb1.mono hbel.size)
  have c0 : W1.cell? ⟨w.heap.size, 0, none⟩ = some (.int .i64 h.tree) := by rw [hS1.cell, sigC_0]
  have c1 : W1.cell? ⟨w.heap.size, 1, none⟩ = some (.int .i64 h.epoch) := by rw [hS1.cell, sigC_1]
  clear hS hbel hb1
  repeat (refine mix_plain rfl ?_; (first
    | (refine wpQuiet_load1 rfl _ (.tmp 8) rfl _ rfl _ Tryd.underlying3 rfl _ (fun _ ⟨e, he⟩ => by rw [he, plus_cell _ _ _ hS1.lt]; exact c0) ?_; simp only [Act.put, List.setIfInBounds_toArray, List.set_cons_zero, List.set_cons_succ])
    | (refine wpQuiet_load1 rfl _ (.tmp 11) rfl _ rfl _ Tryd.underlying3 rfl _ (fun _ ⟨e, he⟩ => by rw [he, plus_cell _ _ _ hS1.lt]; exact c1) ?_; simp only [Act.put, List.setIfInBounds_toArray, List.set_cons_zero, List.set_cons_succ])
    | go_big_quiet_step (fail)); refine wpQuiet_nil ?_)
  refine mix_done ?_
  clear c0 c1
  go_wp2
  have hPL := True.intro
  refine wp_region_mixP (.plain 0 <| .only 1 <| .plain 2 <| .plain 3 <| .plain 4 <| .plain 5 <| .plain 6 <| .plain 7 <| .plain 8 <| .plain 9 <| .plain 10 <| .plain 11 <| .plain 12 <| .plain 13 <| .plain 14 <| .plain 15 <| .plain 16 <| .plain 17 <| .plain 18 <| .plain 19 <| .plain 20 <| .plain 21 <| .plain 22 <| .plain 23 <| .plain 24 <| .plain 25 <| .plain 26 <| .plain 27 <| .only 28 <| .plain 29 <| .plain 30 <| .done) (by kernel_rfl) (by kernel_rfl) (fun W2 hb2 => ?_)
  have hS2 := hS1.below hb2 hS1.lt
  have hbel2 := hbel1.trans (hb2.mono hbel1.size)
  clear hS1 hbel1 hb2 hPL
  repeat (refine mix_plain rfl ?_; go_big_quiet_step (fail); refine wpQuiet_nil ?_)
  refine mix_only rfl (fun K hK => ?_)
  go_wp2_with fail
  refine (has_any _ _).mono ?_
  rintro e w' ⟨rfl, rfl⟩
  have hR2 := hR.below hbel2
  by_cases ht : 0 ≤ h.tree ∧ h.tree < 16
  · rw [decide_eq_true ht]
    obtain ⟨t, htt⟩ : ∃ t : Nat, h.tree = (t : Int) := ⟨h.tree.toNat, by omega⟩
    have ht16 : t < 16 := by omega
    have Hno2 : Hid (¬ (0 ≤ h.epoch ∧ h.epoch < ((ks t).length : Int))) := Lib.hid (fun hh => Hno.out ⟨ht.1, ht.2, hh.1, by rw [htt]; exact hh.2⟩)
    rw [htt] at *
    clear ht htt Hno
    go_wp2_with fail
    refine hK _ _ (Below.refl _ _) ?_
    clear hK K
    by_cases he : 0 ≤ h.epoch
    · have hrow := hR2.row t ht16
      obtain ⟨Ar, cr, er⟩ := hR2.rowLen t ht16
      rw [er] at hrow
      have hgl := hR2.blk.lt
      have hlt1 : decide (h.epoch < ((ks t).length : Int)) = false := decide_eq_false (fun hh => Hno2.out ⟨he, hh⟩)
      clear er
      iterate 14 (refine mix_plain rfl ?_; (first
        | (refine wpQuiet_nilCheck rfl (.tmp 21) rfl _ rfl ?_; simp only [Act.put, List.setIfInBounds_toArray, List.set_cons_zero, List.set_cons_succ])
        | (refine wpQuiet_load1 rfl _ (.tmp 25) rfl _ rfl _ Tryd.underlying112 rfl _ (fun _ ⟨e, he⟩ => by rw [he, plus_cell _ _ _ hgl]; exact hrow) ?_; simp only [Act.put, List.setIfInBounds_toArray, List.set_cons_zero, List.set_cons_succ])
        | go_big_quiet_step (fail)); refine wpQuiet_nil ?_)
      iterate 2 (refine mix_plain rfl ?_; go_big_quiet_step (fail); refine wpQuiet_nil ?_)
      iterate 10 (refine mix_skip rfl rfl ?_; simp only [Act.put, List.setIfInBounds_toArray, List.set_cons_zero, List.set_cons_succ])
      refine mix_only rfl (fun K hK => ?_)
      go_wp2_with fail
      refine hK _ _ (Below.refl _ _) ?_
      clear hK K
      iterate 2 (refine mix_plain rfl ?_; go_big_quiet_step (fail); refine wpQuiet_nil ?_)
      refine mix_done ?_
      go_wp2
      go_ret
      exact ⟨rfl, hbel2⟩
    · have he2 : decide (0 ≤ h.epoch) = false := decide_eq_false he
      iterate 5 (refine mix_plain rfl ?_; go_big_quiet_step (fail); refine wpQuiet_nil ?_)
      iterate 9 (refine mix_skip rfl rfl ?_; simp only [Act.put, List.setIfInBounds_toArray, List.set_cons_zero, List.set_cons_succ])
      iterate 2 (refine mix_plain rfl ?_; go_big_quiet_step (fail); refine wpQuiet_nil ?_)
      iterate 10 (refine mix_skip rfl rfl ?_; simp only [Act.put, List.setIfInBounds_toArray, List.set_cons_zero, List.set_cons_succ])
      refine mix_only rfl (fun K hK => ?_)
      go_wp2_with fail
      refine hK _ _ (Below.refl _ _) ?_
      clear hK K
      iterate 2 (refine mix_plain rfl ?_; go_big_quiet_step (fail); refine wpQuiet_nil ?_)
      refine mix_done ?_
      go_wp2
      go_ret
      exact ⟨rfl, hbel2⟩
  · rw [decide_eq_false ht]
    go_wp2_with fail
    refine hK _ _ (Below.refl _ _) ?_
    clear hK K ht
    iterate 1 (refine mix_plain rfl ?_; go_big_quiet_step (fail); refine wpQuiet_nil ?_)
    iterate 2 (refine mix_skip rfl rfl ?_; simp only [Act.put, List.setIfInBounds_toArray, List.set_cons_zero, List.set_cons_succ])
    iterate 2 (refine mix_plain rfl ?_; go_big_quiet_step (fail); refine wpQuiet_nil ?_)
    iterate 9 (refine mix_skip rfl rfl ?_; simp only [Act.put, List.setIfInBounds_toArray, List.set_cons_zero, List.set_cons_succ])
    iterate 2 (refine mix_plain rfl ?_; go_big_quiet_step (fail); refine wpQuiet_nil ?_)
    iterate 10 (refine mix_skip rfl rfl ?_; simp only [Act.put, List.setIfInBounds_toArray, List.set_cons_zero, List.set_cons_succ])
    refine mix_only rfl (fun K hK => ?_)
    go_wp2_with fail
    refine hK _ _ (Below.refl _ _) ?_
    clear hK K
    iterate 2 (refine mix_plain rfl ?_; go_big_quiet_step (fail); refine wpQuiet_nil ?_)
    refine mix_done ?_
    go_wp2
    go_ret
    exact ⟨rfl, hbel2⟩
end Go.Proofs.YtfggbfnnibpohaaDoor

/- What stays when a ring turns. No condition. -/
namespace Go.Proofs.YtfggbfnnibpohaaDoor
open Go.RowKit
/-- block b is none of the ring's -/
structure Away (b g : Nat) (vs : Value) (rows : List Value) : Prop where
  ring : b ≠ g
  seed : vs.ownBlock ≠ some b
  row : ∀ i, i < 16 → (rows.getD i undef).ownBlock ≠ some b
/-- how a turn changes the world -/
structure Turned (w w' : World) (g t : Nat) (rows : List Value) (v' : Value) : Prop where
  ex : ∃ W2 W3, Below w.heap.size w W2 ∧ W2.grownBy W3 (rows.getD t undef).ownBlock ∧ W3.grownBy w' (some g) ∧ (v'.ownBlock = (rows.getD t undef).ownBlock ∨ v'.ownBlock = some W2.heap.size)
section
variable {w w' : World} {g B : Nat} {seed : List UInt8} {vs : Value} {rows : List Value} {ks : Nat → List (List UInt8)} {t b : Nat} {v' : Value}
theorem Rng.away (h : Rng w g B seed vs rows ks) (hb : w.heap.size ≤ b) : Away b g vs rows :=
  ⟨by have := h.blk.lt; omega, fun e => by have := own_lt h.seedOwn b e; omega, fun i hi e => by have := own_lt (h.own i hi) b e; omega⟩
theorem Turned.size (h : Turned w w' g t rows v') : w.heap.size ≤ w'.heap.size := by
  obtain ⟨W2, W3, h1, h2, h3, _⟩ := h
  exact Nat.le_trans h1.size (Nat.le_trans h2.size h3.size)
theorem Turned.blk {ty : TypeId} {cs : Array Value} (h : Turned w w' g t rows v') (ht : t < 16) (ha : Away b g vs rows) (hB : Blk w b ty cs) : Blk w' b ty cs := by
  obtain ⟨W2, W3, h1, h2, h3, _⟩ := h
  exact ((hB.below h1 hB.lt).grown h2 (fun e => ha.row t ht e.symm)).grown h3 (fun e => ha.ring (Option.some.inj e))
theorem Turned.away (h : Turned w w' g t rows v') (ht : t < 16) (hl : rows.length = 16) (hb : b < w.heap.size) (ha : Away b g vs rows) : Away b g vs (rows.set t v') := by
  obtain ⟨W2, W3, h1, h2, h3, h4⟩ := h
  refine ⟨ha.ring, ha.seed, fun i hi => ?_⟩
  rw [List.getD_eq_getElem?_getD, List.getElem?_set]
  by_cases he : t = i
  · subst he
    rw [if_pos rfl, if_pos (by omega)]
    show v'.ownBlock ≠ some b
    rcases h4 with e | e
    · rw [e]; exact ha.row t ht
    · rw [e]; intro e2; have := Option.some.inj e2; have := h1.size; omega
  · rw [if_neg he, ← List.getD_eq_getElem?_getD]; exact ha.row i hi
set_option maxRecDepth 100000 in
theorem turn_all (g B : Nat) (seed : List UInt8) (vs : Value) (rows : List Value) (ks : Nat → List (List UInt8)) (t : Nat) (ht : t < 16) (hk : (ks t).length < 32) (draw : UInt32) (w : World) (hR : Rng w g B seed vs rows ks) (hB : B ≤ w.heap.size) (hl : seed.length ≤ 140737488355264) (hG : Glob w) :
    Calls Tryd.prog 13 #[.pointer (some ⟨g, 0, none⟩), .int .i64 t, .int .u32 (n32 draw)] w fun e w' => e = .returned (.tuple #[.int .i64 (ks t).length, .int .i64 0]) ∧ (∃ v', Rng w' g B seed vs (rows.set t v') (fun j => if j = t then ks t ++ [keyL' seed t (ks t).length draw] else ks j) ∧ Turned w w' g t rows v') ∧ Below B w w' :=
  (turn_at g B seed vs rows ks t ht hk draw w hR hB hl hG).mono (fun _ _ ⟨h1, ⟨v', W2, W3, h2, h4⟩, h3⟩ => ⟨h1, ⟨v', h2, ⟨W2, W3, h4⟩⟩, h3⟩)
end
end Go.Proofs.YtfggbfnnibpohaaDoor

/- The reference's table stays in later worlds. No condition. -/
namespace Go.Proofs.YtfggbfnnibpohaaDoor
open Go.RowKit
theorem Tbl.nxt {w w' : World} {t : Value} (h : Tbl w w.heap.size t) (hb : Below w.heap.size w w') : Tbl w' w'.heap.size t := by
  obtain ⟨g, rfl, hg, hT⟩ := h; exact ⟨g, rfl, Nat.lt_of_lt_of_le hg hb.size, hT.below hb hg⟩
end Go.Proofs.YtfggbfnnibpohaaDoor

/- Rings side by side. No condition. -/
namespace Go.Proofs.YtfggbfnnibpohaaDoor
open Go.RowKit
/-- block b is one of the ring's -/
def Mine (b g : Nat) (vs : Value) (rows : List Value) : Prop := b = g ∨ vs.ownBlock = some b ∨ ∃ i, i < 16 ∧ (rows.getD i undef).ownBlock = some b
def Sep (g : Nat) (vs : Value) (rows : List Value) (g2 : Nat) (vs2 : Value) (rows2 : List Value) : Prop := ∀ b, Mine b g vs rows → Mine b g2 vs2 rows2 → False
section
variable {w w' : World} {g B : Nat} {seed : List UInt8} {vs : Value} {rows : List Value} {ks : Nat → List (List UInt8)} {g2 B2 : Nat} {seed2 : List UInt8} {vs2 : Value} {rows2 : List Value} {ks2 : Nat → List (List UInt8)} {t b : Nat} {v' : Value}
theorem away_of (h : ¬ Mine b g vs rows) : Away b g vs rows := ⟨fun e => h (.inl e), fun e => h (.inr (.inl e)), fun i hi e => h (.inr (.inr ⟨i, hi, e⟩))⟩
theorem Away.not (h : Away b g vs rows) : ¬ Mine b g vs rows := fun hm => by
  rcases hm with e | e | ⟨i, hi, e⟩
  · exact h.ring e
  · exact h.seed e
  · exact h.row i hi e
theorem Sep.symm (h : Sep g vs rows g2 vs2 rows2) : Sep g2 vs2 rows2 g vs rows := fun b h1 h2 => h b h2 h1
theorem Rng.mine_lt (h : Rng w g B seed vs rows ks) (hm : Mine b g vs rows) : b < w.heap.size := by
  rcases hm with e | e | ⟨i, hi, e⟩
  · rw [e]; exact h.blk.lt
  · exact own_lt h.seedOwn b e
  · exact own_lt (h.own i hi) b e
theorem Rng.mine_ge (h : Rng w g B seed vs rows ks) (hm : Mine b g vs rows) : B ≤ b := by
  rcases hm with e | e | ⟨i, hi, e⟩
  · rw [e]; exact h.base
  · exact own_ge h.seedOwn b e
  · exact own_ge (h.own i hi) b e
theorem sep_new (h : Rng w g B seed vs rows ks) (h2 : Rng w' g2 B2 seed2 vs2 rows2 ks2) (hb : w.heap.size ≤ B2) : Sep g vs rows g2 vs2 rows2 := fun b m1 m2 => by
  have := h.mine_lt m1; have := h2.mine_ge m2; omega
theorem Turned.sep (h : Turned w w' g t rows v') (ht : t < 16) (hl : rows.length = 16) (h2 : Rng w g2 B2 seed2 vs2 rows2 ks2) (hs : Sep g vs rows g2 vs2 rows2) : Sep g vs (rows.set t v') g2 vs2 rows2 := fun b m1 m2 =>
  (h.away ht hl (h2.mine_lt m2) (away_of (fun m => hs b m m2))).not m1
theorem Turned.own {e : TypeId} {size n : Nat} {v : Value} {xs : List Value} {base : Nat} (h : Turned w w' g t rows v') (ht : t < 16) (ho : w.ownsRow base e size v n xs) (ha : ∀ b, v.ownBlock = some b → Away b g vs rows) : w'.ownsRow base e size v n xs := by
  obtain ⟨W2, W3, h1, h2, h3, _⟩ := h
  refine own_grown (own_grown (own_below ho h1) h2 (fun b hb e => (ha b hb).row t ht e)) h3 (fun b hb e => (ha b hb).ring (Option.some.inj e).symm)
/-- another ring stays -/
theorem Turned.rng (h : Turned w w' g t rows v') (ht : t < 16) (h2 : Rng w g2 B2 seed2 vs2 rows2 ks2) (hs : Sep g vs rows g2 vs2 rows2) : Rng w' g2 B2 seed2 vs2 rows2 ks2 :=
  ⟨h2.base, h2.len, h.blk ht (away_of (fun m => hs g2 m (.inl rfl))) h2.blk, h.own ht h2.seedOwn (fun b e => away_of (vs := vs) (fun m => hs b m (.inr (.inl e)))), h2.seedNot,
   fun i hi => h.own ht (h2.own i hi) (fun b e => away_of (vs := vs) (fun m => hs b m (.inr (.inr ⟨i, hi, e⟩)))), h2.ownNot, h2.apart, h2.parted⟩
theorem Turned.tbl {tv : Value} (h : Turned w w' g t rows v') (ht : t < 16) (hT : Tbl w w.heap.size tv) (ha : ∀ b, tv = .pointer (some ⟨b, 0, none⟩) → Away b g vs rows) : Tbl w' w'.heap.size tv := by
  obtain ⟨b, rfl, hb, hB⟩ := hT
  exact ⟨b, rfl, Nat.lt_of_lt_of_le hb h.size, h.blk ht (ha b rfl) hB⟩
theorem Rng.grown {x : Nat} (h : Rng w g B seed vs rows ks) (hg : w.grownBy w' (some x)) (ha : Away x g vs rows) : Rng w' g B seed vs rows ks :=
  ⟨h.base, h.len, h.blk.grown hg (fun e => ha.ring (Option.some.inj e).symm), own_grown h.seedOwn hg (fun b hb e => ha.seed (by rw [hb, ← e])), h.seedNot,
   fun i hi => own_grown (h.own i hi) hg (fun b hb e => ha.row i hi (by rw [hb, ← e])), h.ownNot, h.apart, h.parted⟩
theorem Rng.away_low {x : Nat} (h : Rng w g B seed vs rows ks) (hx : x < B) : Away x g vs rows :=
  away_of (fun m => by have := h.mine_ge m; omega)
end
theorem neql_sig (h h' : HeadL) (hr : h.root.length = 32) (hr' : h'.root.length = 32) (t t' : List UInt8) (ht : t.length = 32) (ht' : t'.length = 32) (w : World) :
    (binOp .neq 45 (.agg (sigC h t)) (.agg (sigC h' t'))).run Tryd.prog w = .ok (.bool (!(headEq h h' && decide (t = t')))) w := by
  rw [run_neq_struct, eqi_sig 9996 h h' hr hr' t t' ht ht']; rfl
theorem wpQuiet_neS {ops : Array Oper} {C : World → Prop} {Q : Act → Prop} {a : Act} {o : Oper} {rest : List Oper} (hw : Region.wanted o (yielded ops a.tmps) = true) (x y : Operand) (yt : TypeId) (ho : o.op = .binOp .neq 45 x y yt) (h h' : HeadL) (t t' : List UInt8) (hx : a.eval x = .agg (sigC h t)) (hy : a.eval y = .agg (sigC h' t'))
    (hr : h.root.length = 32) (hr' : h'.root.length = 32) (ht : t.length = 32) (ht' : t'.length = 32)
    (b : Bool) (hb : (!(headEq h h' && decide (t = t'))) = b) (hk : wpQuiet Tryd.prog ops C Q rest (a.put o.dst (.bool b))) : wpQuiet Tryd.prog ops C Q (o :: rest) a :=
  wpQuiet_wanted hw (.bool b) (fun w _ => by
    unfold Oper.quietAt execOp
    simp only [ho, hx, hy, Sem.run_bind, Sem.run_pure, Result.andThen_ok, run_eqGuard_agg (P := Tryd.prog) w .neq 45 x y _ _ (by kernel_rfl), neql_sig h h' hr hr' t t' ht ht', hb]
    exact ⟨rfl, rfl⟩) hk
/-- the keys of a tree that turned so many times -/
def keysOf (seed : List UInt8) (t : Nat) (ds : List UInt32) (k : Nat) : List (List UInt8) := (List.range k).map fun (i : Nat) => keyL' seed t i (ds.getD i 0)
def ksOf (seed : List UInt8) (t : Nat) (ds : List UInt32) (k : Nat) : Nat → List (List UInt8) := fun j => if j = t then keysOf seed t ds k else []
theorem keysOf_length (seed : List UInt8) (t : Nat) (ds : List UInt32) (k : Nat) : (keysOf seed t ds k).length = k := by simp [keysOf]
theorem keysOf_at (seed : List UInt8) (t : Nat) (ds : List UInt32) (k i : Nat) (h : i < k) : (keysOf seed t ds k).getD i [] = keyL' seed t i (ds.getD i 0) := by
  unfold keysOf
  rw [List.getD_eq_getElem?_getD, List.getElem?_map, List.getElem?_range h]; rfl
theorem ksOf_self (seed : List UInt8) (t : Nat) (ds : List UInt32) (k : Nat) : ksOf seed t ds k t = keysOf seed t ds k := if_pos rfl
theorem ksOf_zero (seed : List UInt8) (t : Nat) (ds : List UInt32) : ksOf seed t ds 0 = fun _ => [] := by
  funext j; unfold ksOf keysOf; split <;> rfl
theorem ksOf_turn (seed : List UInt8) (t : Nat) (ds : List UInt32) (k : Nat) : (fun j => if j = t then ksOf seed t ds k t ++ [keyL' seed t ((ksOf seed t ds k t).length : Nat) (ds.getD k 0)] else ksOf seed t ds k j) = ksOf seed t ds (k + 1) := by
  funext j
  by_cases hj : j = t
  · subst hj
    rw [if_pos rfl, ksOf_self, ksOf_self, keysOf_length]
    unfold keysOf
    rw [List.range_succ, List.map_append]; rfl
  · rw [if_neg hj]; unfold ksOf; rw [if_neg hj, if_neg hj]
/-- Three rings side by side, each of which turned one tree; beside them the reference's table. -/
structure Trio (w : World) (t : Nat) (ds : List UInt32) (tv : Value) (gA BA : Nat) (sA : List UInt8) (vA : Value) (kA : Nat) (gB BB : Nat) (sB : List UInt8) (vB : Value) (kB : Nat) (gC BC : Nat) (sC : List UInt8) (vC : Value) (kC : Nat) : Prop where
  ex : ∃ rA rB rC, Rng w gA BA sA vA rA (ksOf sA t ds kA) ∧ Rng w gB BB sB vB rB (ksOf sB t ds kB) ∧ Rng w gC BC sC vC rC (ksOf sC t ds kC) ∧ Sep gA vA rA gB vB rB ∧ Sep gA vA rA gC vC rC ∧ Sep gB vB rB gC vC rC ∧
    Tbl w w.heap.size tv ∧ (∀ b, tv = .pointer (some ⟨b, 0, none⟩) → Away b gA vA rA ∧ Away b gB vB rB ∧ Away b gC vC rC)
section
variable {w w' : World} {t : Nat} {ds : List UInt32} {tv : Value} {gA BA : Nat} {sA : List UInt8} {vA : Value} {kA : Nat} {gB BB : Nat} {sB : List UInt8} {vB : Value} {kB : Nat} {gC BC : Nat} {sC : List UInt8} {vC : Value} {kC : Nat}
theorem Trio.rot (h : Trio w t ds tv gA BA sA vA kA gB BB sB vB kB gC BC sC vC kC) : Trio w t ds tv gB BB sB vB kB gC BC sC vC kC gA BA sA vA kA := by
  obtain ⟨rA, rB, rC, h1, h2, h3, h4, h5, h6, h7, h8⟩ := h
  exact ⟨rB, rC, rA, h2, h3, h1, h6, h4.symm, h5.symm, h7, fun b e => ⟨(h8 b e).2.1, (h8 b e).2.2, (h8 b e).1⟩⟩
theorem Trio.next (h : Trio w t ds tv gA BA sA vA kA gB BB sB vB kB gC BC sC vC kC) (hb : Below w.heap.size w w') : Trio w' t ds tv gA BA sA vA kA gB BB sB vB kB gC BC sC vC kC := by
  obtain ⟨rA, rB, rC, h1, h2, h3, h4, h5, h6, h7, h8⟩ := h
  exact ⟨rA, rB, rC, h1.below hb, h2.below hb, h3.below hb, h4, h5, h6, h7.nxt hb, h8⟩
theorem Trio.tbl (h : Trio w t ds tv gA BA sA vA kA gB BB sB vB kB gC BC sC vC kC) : Tbl w w.heap.size tv := by
  obtain ⟨rA, rB, rC, h1, h2, h3, h4, h5, h6, h7, h8⟩ := h
  exact h7
theorem Trio.first (h : Trio w t ds tv gA BA sA vA kA gB BB sB vB kB gC BC sC vC kC) : ∃ rA, Rng w gA BA sA vA rA (ksOf sA t ds kA) := by
  obtain ⟨rA, rB, rC, h1, h2, h3, h4, h5, h6, h7, h8⟩ := h
  exact ⟨rA, h1⟩
/-- the first of three rings turns -/
theorem trio_turn (h : Trio w t ds tv gA BA sA vA kA gB BB sB vB kB gC BC sC vC kC) (ht : t < 16) (hk : kA < 32) (hB : BA ≤ w.heap.size) (hl : sA.length ≤ 140737488355264) (hG : Glob w) :
    Calls Tryd.prog 13 #[.pointer (some ⟨gA, 0, none⟩), .int .i64 t, .int .u32 (n32 (ds.getD kA 0))] w fun e w' => e = .returned (.tuple #[.int .i64 kA, .int .i64 0]) ∧ Trio w' t ds tv gA BA sA vA (kA + 1) gB BB sB vB kB gC BC sC vC kC ∧ Below BA w w' := by
  obtain ⟨rA, rB, rC, h1, h2, h3, h4, h5, h6, h7, h8⟩ := h
  have hlen : (ksOf sA t ds kA t).length = kA := by rw [ksOf_self, keysOf_length]
  refine (turn_all gA BA sA vA rA (ksOf sA t ds kA) t ht (by rw [hlen]; exact hk) (ds.getD kA 0) w h1 hB hl hG).mono ?_
  rintro e w' ⟨rfl, ⟨v', hR, htn⟩, hb⟩
  rw [ksOf_turn] at hR
  refine ⟨by rw [hlen], ⟨rA.set t v', rB, rC, hR, htn.rng ht h2 h4, htn.rng ht h3 h5, htn.sep ht h1.len h2 h4, htn.sep ht h1.len h3 h5, h6, htn.tbl ht h7 (fun b e => (h8 b e).1), fun b e => ⟨?_, (h8 b e).2⟩⟩, hb⟩
  obtain ⟨b', e', hb', hB'⟩ := h7
  obtain rfl : b = b' := by rw [e] at e'; injection e' with e'; injection e' with e'; injection e'
  exact htn.away ht h1.len hb' (h8 b e).1
end
end Go.Proofs.YtfggbfnnibpohaaDoor

/- The walks of codec's Writer with an exact frame: of what was there only its own block and its row's may turn. No condition. -/
namespace Go.Proofs.YtfggbfnnibpohaaDoor
open Go Go.RowKit
attribute [local irreducible] mixW
attribute [local go_sem] n8_lo n8_hi n64_lo n64_hi
/-- Of what was there only block g and the row of v may have turned; u is where the row is now. -/
structure Two (w w' : World) (g : Nat) (v u : Value) : Prop where
  os : w'.os = w.os
  tape : w'.tape = w.tape
  output : w'.output = w.output
  size : w.heap.size ≤ w'.heap.size
  block : ∀ i, i < w.heap.size → i ≠ g → some i ≠ v.ownBlock → w'.heap[i]? = w.heap[i]?
  at_ : u.ownBlock = v.ownBlock ∨ ∃ k, w.heap.size ≤ k ∧ u.ownBlock = some k
section
variable {a w w' : World} {g B : Nat} {v u u' : Value}
theorem Two.refl (w : World) (g : Nat) (v : Value) : Two w w g v v := ⟨rfl, rfl, rfl, Nat.le_refl _, fun _ _ _ _ => rfl, .inl rfl⟩
theorem Two.drewN (h : Two a w g v u) (n : Nat) : Two a (w.drewN n) g v u := ⟨h.os, h.tape, h.output, h.size, h.block, h.at_⟩
theorem Two.below (h : Two a w g v u) (hb : Below w.heap.size w w') : Two a w' g v u :=
  ⟨hb.os.trans h.os, hb.tape.trans h.tape, hb.output.trans h.output, Nat.le_trans h.size hb.size, fun i hi h1 h2 => (hb.block i (Nat.lt_of_lt_of_le hi h.size)).trans (h.block i hi h1 h2), h.at_⟩
theorem Two.app (h : Two a w g v u) (hg : w.grownBy w' u.ownBlock) (hat : u'.ownBlock = u.ownBlock ∨ u'.ownBlock = some w.heap.size) : Two a w' g v u' := by
  have hs := h.size
  refine ⟨hg.os.trans h.os, hg.tape.trans h.tape, hg.output.trans h.output, Nat.le_trans h.size hg.size, fun i hi h1 h2 => (hg.block i (Nat.lt_of_lt_of_le hi h.size) (fun e => ?_)).trans (h.block i hi h1 h2), ?_⟩
  · rcases h.at_ with e1 | ⟨k, hk, e1⟩
    · exact h2 (e.trans e1)
    · rw [e1] at e; injection e with e; omega
  · rcases hat with e | e
    · rw [e]; exact h.at_
    · exact .inr ⟨_, h.size, e⟩
theorem Two.store (h : Two a w g v u) (hg : w.grownBy w' (some g)) : Two a w' g v u :=
  ⟨hg.os.trans h.os, hg.tape.trans h.tape, hg.output.trans h.output, Nat.le_trans h.size hg.size, fun i hi h1 h2 => (hg.block i (Nat.lt_of_lt_of_le hi h.size) (fun e => h1 (by injection e))).trans (h.block i hi h1 h2), h.at_⟩
theorem Two.trans (h : Two a w g v u) (h' : Two w w' g u u') : Two a w' g v u' := by
  have hs := h.size
  refine ⟨h'.os.trans h.os, h'.tape.trans h.tape, h'.output.trans h.output, Nat.le_trans h.size h'.size, fun i hi h1 h2 => (h'.block i (Nat.lt_of_lt_of_le hi h.size) h1 (fun e => ?_)).trans (h.block i hi h1 h2), ?_⟩
  · rcases h.at_ with e1 | ⟨k, hk, e1⟩
    · exact h2 (e.trans e1)
    · rw [e1] at e; injection e with e; omega
  · rcases h'.at_ with e | ⟨k, hk, e⟩
    · rw [e]; exact h.at_
    · exact .inr ⟨k, Nat.le_trans h.size hk, e⟩
theorem Two.bel (h : Two w w' g v u) (hg : B ≤ g) (hv : ∀ k, v.ownBlock = some k → B ≤ k) (hB : B ≤ w.heap.size) : Below B w w' :=
  ⟨h.os, h.tape, h.output, h.size, fun i hi => h.block i (by omega) (by omega) (fun e => by have := hv i e.symm; omega)⟩
theorem Two.blk {k : Nat} {t : TypeId} {cs : Array Value} (h : Two w w' g v u) (hk : Blk w k t cs) (h1 : k ≠ g) (h2 : some k ≠ v.ownBlock) : Blk w' k t cs := (h.block k hk.lt h1 h2).trans hk
theorem Two.own {base s n : Nat} {e : TypeId} {x : Value} {xs : List Value} (h : Two w w' g v u) (hx : w.ownsRow base e s x n xs) (h1 : x.ownBlock ≠ some g) (h2 : ∀ k, x.ownBlock = some k → v.ownBlock ≠ some k) : w'.ownsRow base e s x n xs := by
  refine ⟨hx.1, ?_⟩
  rcases hx.2 with h0 | ⟨k, cap, cur, rfl, hB, hh, h3⟩
  · exact .inl h0
  · refine .inr ⟨k, cap, cur, rfl, hB, ?_, h3⟩
    have hlt : k < w.heap.size := by
      rcases Nat.lt_or_ge k w.heap.size with h' | h'
      · exact h'
      · rw [Array.getElem?_eq_none h'] at hh; cases hh
    exact (h.block k hlt (fun e => h1 (by subst e; rfl)) (fun e => h2 k rfl e.symm)).trans hh
theorem Two.reads {A : Option Addr} {xs : List Value} (h : Two w w' g v u) (hr : Reads w w.heap.size A xs) (h1 : 0 < xs.length → ∀ b o, A = some ⟨b, o, none⟩ → b ≠ g ∧ some b ≠ v.ownBlock) : Reads w' w'.heap.size A xs := by
  intro hx
  obtain ⟨b, off, e, hb, hc⟩ := hr hx
  have hs := h.size
  refine ⟨b, off, e, by omega, fun j x hj => ?_⟩
  have hk := h.block b hb (h1 hx b off e).1 (h1 hx b off e).2
  exact (World.cell?_of_block (a := ⟨b, off + j, none⟩) hk).trans (hc j x hj)
end
/-- a Writer of the call's own in block g, its row v -/
def Wr (w : World) (B g : Nat) (v : Value) (bs : List UInt8) : Prop :=
  B ≤ g ∧ Blk w g 216 #[v] ∧ w.ownsRow B 5 1 v (bs.map v8).length (bs.map v8)
theorem own_ne {w : World} {g base s n : Nat} {t e : TypeId} {cs : Array Value} {v : Value} {xs : List Value} (hb : Blk w g t cs) (h : w.ownsRow base e s v n xs) (ht : t ≠ e) : v.ownBlock ≠ some g := by
  intro hv
  rcases h.2 with ⟨rfl, _⟩ | ⟨k, cap, cur, rfl, _, hh, _⟩
  · cases hv
  · have hk : k = g := by injection hv
    subst hk
    have : some (Obj.cells _ _ _) = some (Obj.cells _ _ _) := hb.symm.trans hh
    injection this with this
    injection this with _ h3 _
    exact ht h3
theorem Wr.ne {w : World} {B g : Nat} {v : Value} {bs : List UInt8} (h : Wr w B g v bs) : v.ownBlock ≠ some g := own_ne h.2.1 h.2.2 (by decide)
theorem Wr.wrt {w : World} {B g : Nat} {v : Value} {bs : List UInt8} (h : Wr w B g v bs) : Wrt w B (.pointer (some ⟨g, 0, none⟩)) bs := ⟨g, v, rfl, h.1, h.2.1, h.2.2, h.ne⟩
theorem Wr.below {w w' : World} {B g : Nat} {v : Value} {bs : List UInt8} (h : Wr w B g v bs) (hb : Below w.heap.size w w') : Wr w' B g v bs := ⟨h.1, h.2.1.below hb h.2.1.lt, own_below h.2.2 hb⟩
theorem Wr.low {w : World} {B g : Nat} {v : Value} {bs : List UInt8} (h : Wr w B g v bs) : ∀ k, v.ownBlock = some k → B ≤ k := by
  intro k hk
  rcases h.2.2.2 with ⟨rfl, _⟩ | ⟨k', cap, cur, rfl, hB, _⟩
  · cases hk
  · have : k' = k := by injection hk
    omega
theorem Wr.of_new {w : World} {B : Nat} {p : Value} (h : Wrt w B p []) : ∃ g v, p = .pointer (some ⟨g, 0, none⟩) ∧ Wr w B g v [] := by
  obtain ⟨g, v, rfl, hg, hb, ho, _⟩ := h
  exact ⟨g, v, rfl, hg, hb, ho⟩
set_option maxHeartbeats 1000000 in
set_option maxRecDepth 100000 in
theorem number_two (g : Nat) (v0 : Value) (bs : List UInt8) (n : UInt64) (k : Int) (hk : -9223372036854775808 ≤ k ∧ k ≤ 9223372036854775807) (w : World) (B : Nat) (hW : Wr w B g v0 bs) (hB : B ≤ w.heap.size) (hl : bs.length ≤ 140737488355264) :
    Calls Tryd.prog 90 #[.pointer (some ⟨g, 0, none⟩), .int .u64 (n64 n), .int .i64 k] w fun e w' => e = .returned (.tuple #[]) ∧ ∃ u, Wr w' B g u (bs ++ numB n (clamp8 k)) ∧ Two w w' g v0 u := by
  have hne := hW.ne
  obtain ⟨hg, hblk, hown⟩ := hW
  have s1 := clamp8_lo k
  have s8 := clamp8_hi k
  go_enter Tryd.func90, Tryd.ntmps90
  go_wp2_with fail
  refine (size_any k hk _).mono ?_
  rintro e w' ⟨rfl, rfl⟩
  obtain ⟨s, hs⟩ : ∃ s, clamp8 k = s := ⟨_, rfl⟩
  rw [hs] at s1 s8
  have Hs := Lib.hid hs
  rw [hs]
  clear hs
  go_wp2_with fail
  have h0 := numTo_0 n s
  have hE := Lib.hid (numTo_end n s)
  have hS := Lib.hid (numTo_step n s)
  have hb0 := Lib.hid (byte_val n)
  go_loopw [6] (fun iv wr => ∃ (j : Nat) (u : Value), j ≤ s ∧ iv = .int .i64 ((j : Int) - 1) ∧ Blk wr g 216 #[u] ∧ wr.ownsRow B 5 1 u ((bs ++ numTo n s j).map v8).length ((bs ++ numTo n s j).map v8) ∧ u.ownBlock ≠ some g ∧ Two w wr g v0 u) (fun iv _ => ((intOf iv) + 1).toNat)
  case atStart => exact ⟨s, v0, Nat.le_refl _, rfl, hblk, by rw [h0, List.append_nil]; exact hown, hne, Two.refl _ _ _⟩
  case round =>
    clear hblk hown hne h0
    obtain ⟨j, v, hj, rfl, hblk, hown, hne, htw⟩ := hrel
    by_cases h0 : j = 0
    · subst h0
      have hd : decide ((0 : Int) ≤ ((0 : Nat) : Int) - 1) = false := by decide
      rw [hE.out] at hown
      have HT := Lib.hid htw
      clear htw
      go_wp2
      refine bodyPost_end (results_none rfl _ _ _) rfl ⟨rfl, v, ⟨hg, hblk, by rw [Hs.out]; exact hown⟩, HT.out⟩
    · obtain ⟨i, rfl⟩ : ∃ i, j = i + 1 := ⟨j - 1, by omega⟩
      have hi8 : i < 8 := by omega
      have hst := Lib.hid (hS.out i (by omega))
      have hbv := hb0.out i
      have hlt : (numTo n s (i + 1)).length ≤ 8 := by unfold numTo; rw [List.length_take, numB_length]; omega
      have hlen : ((bs ++ numTo n s (i + 1)).map v8).length + 1 ≤ 140737488355328 := by simp; omega
      have e8 : IntKind.i64.wrap (8 * (i : Int)) = ((8 * i : Nat) : Int) := by rw [IntWalk.i64_in _ (by omega)]; omega
      rw [show (((i + 1 : Nat) : Int) - 1) = (i : Int) by omega]
      have Hlen := Lib.hid hlen
      have HT := Lib.hid htw
      clear hlen htw
      go_wp2
      have hW0 := hblk.cell 0
      refine wp_region_mixS 14 (.plain 0 <| .plain 1 <| .plain 2 <| .plain 3 <| .plain 4 <| .plain 5 <| .plain 6 <| .plain 7 <| .plain 8 <| .plain 9 <| .only 10 <| .only 11 <| .plain 12 <| .plain 13 <| .done) (fun w' => w'.cell? ⟨g, 0, none⟩ = some v) (by kernel_rfl) (by kernel_rfl) hW0 ?_
      repeat (refine mix_plain rfl ?_; (first
        | (refine wpQuiet_nilCheck rfl (.tmp 15) rfl _ rfl ?_; simp only [Act.put, List.setIfInBounds_toArray, List.set_cons_zero, List.set_cons_succ])
        | (refine wpQuiet_nilCheck rfl (.tmp 14) rfl _ rfl ?_; simp only [Act.put, List.setIfInBounds_toArray, List.set_cons_zero, List.set_cons_succ])
        | (refine wpQuiet_load1 rfl _ (.tmp 17) rfl _ rfl _ Tryd.underlying22 rfl v (fun _ h => h) ?_; simp only [Act.put, List.setIfInBounds_toArray, List.set_cons_zero, List.set_cons_succ])
        | go_big_quiet_step ((intro _; rfl))
        | go_big_quiet_step (fail)); refine wpQuiet_nil ?_)
      rw [hbv]
      obtain ⟨i0, hi, hz0, hz1, hz2⟩ := info_parts (by kernel_rfl : (Tryd.prog.info? 5).map (fun i => (i.zero, i.size, i.bytes)) = some (some (.int .u8 0), 1, 1))
      have hownD : (wr.drewN 1).ownsRow B 5 1 v ((bs ++ numTo n s (i + 1)).map v8).length ((bs ++ numTo n s (i + 1)).map v8) := hown
      have hblkD := hblk.drewN 1
      have htwD := HT.out.drewN 1
      have hsz := HT.out.size
      clear hown hblk hW0 e8 hbv
      have hBD : B ≤ (wr.drewN 1).heap.size := by show B ≤ wr.heap.size; omega
      generalize wr.drewN 1 = wd at hownD hblkD htwD hBD ⊢
      have hn1 := below_new1 wd (Obj.cells #[.int .u8 (n8 (byteAt n i))] 5)
      have hblkA := hblkD.below hn1 hblkD.lt
      have hownA := own_below hownD hn1
      have hrd : Reads (wd.alloc (Obj.cells #[.int .u8 (n8 (byteAt n i))] 5)) (wd.heap.size + 1) (some ⟨wd.heap.size, 0, none⟩) [v8 (byteAt n i)] := Reads.of_blk (Blk.new wd 5 #[v8 (byteAt n i)]) (by omega) 0
      have HTA := Lib.hid (htwD.below hn1)
      have hBA : B ≤ (wd.alloc (Obj.cells #[.int .u8 (n8 (byteAt n i))] 5)).heap.size := Nat.le_trans hBD hn1.size
      clear htwD
      refine mix_only_in rfl (fun K hK => ?_)
      go_wp2_with fail
      refine hK _ _ (hblkA.cell 0) ?_
      clear hK K
      refine mix_only_in rfl (fun K hK => ?_)
      refine wpList_appendR rfl (.tmp 18) (.tmp 24) _ rfl B 5 i0 _ 1 Tryd.underlying22 hi hz0 hz1 hz2 rfl v _ rfl hownA (wd.heap.size + 1) (some ⟨wd.heap.size, 0, none⟩) 1 1 [v8 (byteAt n i)] rfl hrd rfl (oneCell_v8 [byteAt n i]) (by have := Hlen.out; unfold maxLen; omega) (by have := Hlen.out; omega) hBA ?_
      intro v' w2 hown2 hg2 hat2
      simp only [Act.put, List.setIfInBounds_toArray, List.set_cons_zero, List.set_cons_succ]
      have hneg : some g ≠ v.ownBlock := fun e => hne e.symm
      have hblk2 := hblkA.grown hg2 hneg
      have HT2 := Lib.hid (HTA.out.app hg2 hat2)
      have hB2 : B ≤ w2.heap.size := Nat.le_trans hBA hg2.size
      rw [show (bs ++ numTo n s (i + 1)).map v8 ++ [v8 (byteAt n i)] = (bs ++ numTo n s i).map v8 by rw [hst.out, ← List.append_assoc, List.map_append (l₁ := bs ++ numTo n s (i + 1))]; rfl] at hown2
      have hne2 : v'.ownBlock ≠ some g := own_ne hblk2 hown2 (by decide)
      refine hK _ _ (hblk2.cell 0) ?_
      clear hK K hownA hrd hblkA hownD hblkD hg2 hat2 hneg hn1
      repeat (refine mix_plain rfl ?_; (first
        | (refine wpQuiet_nilCheck rfl (.tmp 14) rfl _ rfl ?_; simp only [Act.put, List.setIfInBounds_toArray, List.set_cons_zero, List.set_cons_succ])
        | go_big_quiet_step ((intro _; rfl))
        | go_big_quiet_step (fail)); refine wpQuiet_nil ?_)
      refine mix_done ?_
      simp only [List.drop_succ_cons, List.drop_zero]
      have hv1 : v'.cells = #[v'] ∧ v'.oneCell' = true := by
        rcases hown2.2 with ⟨rfl, _⟩ | ⟨g', cap', cur, rfl, _⟩ <;> exact ⟨rfl, rfl⟩
      refine wpList_store1 rfl rfl _ (.tmp 27) (.tmp 25) rfl g 0 rfl v' rfl _ _ hblk2 (by kernel_rfl) (by simp) hv1.1 hv1.2 ?_
      intro w3 hblk3 hon3
      have hown3 := own_grown hown2 hon3 (fun g' hg' e => by injection e with e; subst e; exact hne2 hg')
      have HT3 := Lib.hid (HT2.out.store hon3)
      have e3 : (#[v] : Array Value).setIfInBounds 0 v' = #[v'] := by simp
      rw [e3] at hblk3
      clear hblk2 hown2 hon3 hv1 e3 hst Hlen HT HTA HT2
      go_wp2
      go_roundw
      case rel => exact ⟨i, v', by omega, rfl, hblk3, hown3, hne2, HT3.out⟩
      case measure => simp [intOf]
end Go.Proofs.YtfggbfnnibpohaaDoor
