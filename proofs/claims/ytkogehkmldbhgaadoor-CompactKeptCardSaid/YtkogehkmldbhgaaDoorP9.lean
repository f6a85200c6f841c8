/- Texts that stand behind one another: CmpC, MerkR, Dig, Const, ListP. No condition. -/
import Derived.Test.YtkogehkmldbhgaaDoorP8
import Derived.Test.YtkogehkmldbhgaaDoorP5
import Derived.Test.YtkogehkmldbhgaaDoorP6
import Derived.Test.YtkogehkmldbhgaaDoorP4
import Derived.Maps.AppendAt
import Derived.Deep.MidRow
import Derived.Lib.SlBytesConst
/- The walks of compact's right and of the reference's Right; Empty, plain. Condition: the library's table. -/
namespace Go.Proofs.YtkogehkmldbhgaaDoor
open Go Go.RowKit
attribute [local irreducible] mixW
attribute [local go_sem] n8_lo n8_hi n64_lo n64_hi n32_lo n32_hi
/-- a range's cells -/
def rgC (b e : Nat) (h : Value) : Array Value := #[nU b, nU e, h]
def rightB (b e n : Nat) : Bool := decide (b ≤ e ∧ e ≤ 4294967296 ∧ n = (blocksL b e).length)
theorem natEq (n m : Nat) : ((n : Int) == (m : Int)) = decide (n = m) := by
  by_cases h : n = m
  · subst h; simp
  · simp [h]; omega
theorem OwnU.slice {w : World} {base : Nat} {v : Value} {ns : List Nat} (h : OwnU w base v ns) : ∃ A c, v = .slice A ns.length c := by
  obtain ⟨A, c, h1, _⟩ := h.nsl
  exact ⟨A, c, h1⟩
set_option maxHeartbeats 1000000 in
set_option maxRecDepth 100000 in
theorem right_any (b e : Nat) (hb : b < 18446744073709551616) (he : e < 18446744073709551616) (A : Option Addr) (n c : Nat) (w : World) (hT : Tz w) :
    Calls Tryd.prog 41 #[.agg (rgC b e (.slice A n c))] w fun x w' => x = .returned (.bool (rightB b e n)) ∧ Below w.heap.size w w' := by
  obtain ⟨wr, hwr⟩ : ∃ wr, wr = w.alloc (.cells #[.int .u64 (b : Int), .int .u64 (e : Int), .slice A n c] 31) := ⟨_, rfl⟩
  have hB : Blk wr w.heap.size 31 #[.int .u64 (b : Int), .int .u64 (e : Int), .slice A n c] := by rw [hwr]; exact Blk.new w _ _
  have hbel : Below w.heap.size w wr := by rw [hwr]; exact below_new1 w _
  unfold rgC
  simp only [nU]
  have HB := Lib.hid hB
  clear hB
  go_enter Tryd.func41, Tryd.ntmps41
  go_wp2_with fail
  rw [← hwr]
  have Hwr := Lib.hid hwr
  clear hwr
  refine wp_region_mixP (.plain 0 <| .plain 1 <| .plain 2 <| .plain 3 <| .plain 4 <| .plain 5 <| .plain 6 <| .plain 7 <| .plain 8 <| .plain 9 <| .plain 10 <| .plain 11 <| .plain 12 <| .plain 13 <| .plain 14 <| .plain 15 <| .plain 16 <| .plain 17 <| .only 18 <| .plain 19 <| .plain 20 <| .plain 21 <| .plain 22 <| .done) (by kernel_rfl) (by kernel_rfl) (fun W1 hb1 => ?_)
  have hB1 := HB.out.below hb1 HB.out.lt
  replace hbel := hbel.trans (hb1.mono hbel.size)
  have c0 : ∀ x, (plus W1 x).cell? ⟨w.heap.size, 0, none⟩ = some (.int .u64 (b : Int)) := fun x => (hB1.plus x).cell 0
  have c1 : ∀ x, (plus W1 x).cell? ⟨w.heap.size, 1, none⟩ = some (.int .u64 (e : Int)) := fun x => (hB1.plus x).cell 1
  have c2 : ∀ x, (plus W1 x).cell? ⟨w.heap.size, 2, none⟩ = some (.slice A n c) := fun x => (hB1.plus x).cell 2
  clear hb1 HB hB1
  by_cases hbe : b ≤ e
  case neg =>
    have hr : rightB b e n = false := decide_eq_false (fun h => hbe h.1)
    have Hr := Lib.hid hr
    clear hr
    have hbe' : ¬ ((b : Int) ≤ (e : Int)) := by omega
    iterate 6 (refine mix_plain rfl ?_; go_big_quiet_step (fail); refine wpQuiet_nil ?_)
    iterate 3 (refine mix_skip rfl rfl ?_; simp only [Act.put, List.setIfInBounds_toArray, List.set_cons_zero, List.set_cons_succ])
    iterate 2 (refine mix_plain rfl ?_; go_big_quiet_step (fail); refine wpQuiet_nil ?_)
    iterate 7 (refine mix_skip rfl rfl ?_; simp only [Act.put, List.setIfInBounds_toArray, List.set_cons_zero, List.set_cons_succ])
    refine mix_only rfl (fun K hK => ?_)
    go_wp2_with fail
    refine hK _ _ (Below.refl _ _) ?_
    clear hK K
    iterate 2 (refine mix_skip rfl rfl ?_; simp only [Act.put, List.setIfInBounds_toArray, List.set_cons_zero, List.set_cons_succ])
    iterate 2 (refine mix_plain rfl ?_; go_big_quiet_step (fail); refine wpQuiet_nil ?_)
    refine mix_done ?_
    go_wp2_with fail
    go_ret
    exact ⟨by rw [Hr.out]; rfl, hbel⟩
  have hbe' : (b : Int) ≤ (e : Int) := by omega
  by_cases hE : e ≤ 4294967296
  case neg =>
    have hr : rightB b e n = false := decide_eq_false (fun h => hE h.2.1)
    have Hr := Lib.hid hr
    clear hr
    have hE' : ¬ ((e : Int) ≤ 4294967296) := by omega
    iterate 11 (refine mix_plain rfl ?_; go_big_quiet_step (fail); refine wpQuiet_nil ?_)
    iterate 7 (refine mix_skip rfl rfl ?_; simp only [Act.put, List.setIfInBounds_toArray, List.set_cons_zero, List.set_cons_succ])
    refine mix_only rfl (fun K hK => ?_)
    go_wp2_with fail
    refine hK _ _ (Below.refl _ _) ?_
    clear hK K
    iterate 2 (refine mix_skip rfl rfl ?_; simp only [Act.put, List.setIfInBounds_toArray, List.set_cons_zero, List.set_cons_succ])
    iterate 2 (refine mix_plain rfl ?_; go_big_quiet_step (fail); refine wpQuiet_nil ?_)
    refine mix_done ?_
    go_wp2_with fail
    go_ret
    exact ⟨by rw [Hr.out]; rfl, hbel⟩
  have hE' : (e : Int) ≤ 4294967296 := by omega
  iterate 18 (refine mix_plain rfl ?_; go_big_quiet_step (fail); refine wpQuiet_nil ?_)
  clear c0 c1 c2
  refine mix_only rfl (fun K hK => ?_)
  go_wp2_with fail
  refine (blocks_any b e hb he _ (hT.next hbel)).mono ?_
  rintro x w2 ⟨v, rfl, hown, hb2⟩
  have ht : toldL b e = blocksL b e := if_pos hE
  rw [ht] at hown
  obtain ⟨A2, c2, rfl⟩ := hown.slice
  have hr : rightB b e n = ((n : Int) == ((blocksL b e).length : Int)) := by
    rw [natEq]; unfold rightB; simp [hbe, hE]
  have Hr := Lib.hid hr
  clear hr
  generalize (blocksL b e).length = m at Hr ⊢
  clear ht hown
  go_wp2_with fail
  refine hK _ _ hb2 ?_
  clear hK K
  replace hbel := hbel.trans (hb2.mono hbel.size)
  iterate 4 (refine mix_plain rfl ?_; go_big_quiet_step (fail); refine wpQuiet_nil ?_)
  refine mix_done ?_
  go_wp2_with fail
  go_ret
  exact ⟨by rw [Hr.out]; rfl, hbel⟩
set_option maxHeartbeats 1000000 in
set_option maxRecDepth 100000 in
theorem rright_any (b e : Nat) (hb : b < 18446744073709551616) (he : e < 18446744073709551616) (A : Option Addr) (n c : Nat) (w : World) :
    Calls Tryd.prog 43 #[.agg (rgC b e (.slice A n c))] w fun x w' => x = .returned (.bool (rightB b e n)) ∧ Below w.heap.size w w' := by
  obtain ⟨wr, hwr⟩ : ∃ wr, wr = w.alloc (.cells #[.int .u64 (b : Int), .int .u64 (e : Int), .slice A n c] 35) := ⟨_, rfl⟩
  have hB : Blk wr w.heap.size 35 #[.int .u64 (b : Int), .int .u64 (e : Int), .slice A n c] := by rw [hwr]; exact Blk.new w _ _
  have hbel : Below w.heap.size w wr := by rw [hwr]; exact below_new1 w _
  unfold rgC
  simp only [nU]
  have HB := Lib.hid hB
  clear hB
  go_enter Tryd.func43, Tryd.ntmps43
  go_wp2_with fail
  rw [← hwr]
  have Hwr := Lib.hid hwr
  clear hwr
  refine wp_region_mixP (.plain 0 <| .plain 1 <| .plain 2 <| .plain 3 <| .plain 4 <| .plain 5 <| .plain 6 <| .plain 7 <| .plain 8 <| .plain 9 <| .plain 10 <| .plain 11 <| .plain 12 <| .plain 13 <| .plain 14 <| .plain 15 <| .plain 16 <| .plain 17 <| .only 18 <| .plain 19 <| .plain 20 <| .plain 21 <| .plain 22 <| .done) (by kernel_rfl) (by kernel_rfl) (fun W1 hb1 => ?_)
  have hB1 := HB.out.below hb1 HB.out.lt
  replace hbel := hbel.trans (hb1.mono hbel.size)
  have c0 : ∀ x, (plus W1 x).cell? ⟨w.heap.size, 0, none⟩ = some (.int .u64 (b : Int)) := fun x => (hB1.plus x).cell 0
  have c1 : ∀ x, (plus W1 x).cell? ⟨w.heap.size, 1, none⟩ = some (.int .u64 (e : Int)) := fun x => (hB1.plus x).cell 1
  have c2 : ∀ x, (plus W1 x).cell? ⟨w.heap.size, 2, none⟩ = some (.slice A n c) := fun x => (hB1.plus x).cell 2
  clear hb1 HB hB1
  by_cases hbe : b ≤ e
  case neg =>
    have hr : rightB b e n = false := decide_eq_false (fun h => hbe h.1)
    have Hr := Lib.hid hr
    clear hr
    have hbe' : ¬ ((b : Int) ≤ (e : Int)) := by omega
    iterate 6 (refine mix_plain rfl ?_; go_big_quiet_step (fail); refine wpQuiet_nil ?_)
    iterate 3 (refine mix_skip rfl rfl ?_; simp only [Act.put, List.setIfInBounds_toArray, List.set_cons_zero, List.set_cons_succ])
    iterate 2 (refine mix_plain rfl ?_; go_big_quiet_step (fail); refine wpQuiet_nil ?_)
    iterate 7 (refine mix_skip rfl rfl ?_; simp only [Act.put, List.setIfInBounds_toArray, List.set_cons_zero, List.set_cons_succ])
    refine mix_only rfl (fun K hK => ?_)
    go_wp2_with fail
    refine hK _ _ (Below.refl _ _) ?_
    clear hK K
    iterate 2 (refine mix_skip rfl rfl ?_; simp only [Act.put, List.setIfInBounds_toArray, List.set_cons_zero, List.set_cons_succ])
    iterate 2 (refine mix_plain rfl ?_; go_big_quiet_step (fail); refine wpQuiet_nil ?_)
    refine mix_done ?_
    go_wp2_with fail
    go_ret
    exact ⟨by rw [Hr.out]; rfl, hbel⟩
  have hbe' : (b : Int) ≤ (e : Int) := by omega
  by_cases hE : e ≤ 4294967296
  case neg =>
    have hr : rightB b e n = false := decide_eq_false (fun h => hE h.2.1)
    have Hr := Lib.hid hr
    clear hr
    have hE' : ¬ ((e : Int) ≤ 4294967296) := by omega
    iterate 11 (refine mix_plain rfl ?_; go_big_quiet_step (fail); refine wpQuiet_nil ?_)
    iterate 7 (refine mix_skip rfl rfl ?_; simp only [Act.put, List.setIfInBounds_toArray, List.set_cons_zero, List.set_cons_succ])
    refine mix_only rfl (fun K hK => ?_)
    go_wp2_with fail
    refine hK _ _ (Below.refl _ _) ?_
    clear hK K
    iterate 2 (refine mix_skip rfl rfl ?_; simp only [Act.put, List.setIfInBounds_toArray, List.set_cons_zero, List.set_cons_succ])
    iterate 2 (refine mix_plain rfl ?_; go_big_quiet_step (fail); refine wpQuiet_nil ?_)
    refine mix_done ?_
    go_wp2_with fail
    go_ret
    exact ⟨by rw [Hr.out]; rfl, hbel⟩
  have hE' : (e : Int) ≤ 4294967296 := by omega
  iterate 18 (refine mix_plain rfl ?_; go_big_quiet_step (fail); refine wpQuiet_nil ?_)
  clear c0 c1 c2
  refine mix_only rfl (fun K hK => ?_)
  go_wp2_with fail
  refine (rblocks_any b e hb he _).mono ?_
  rintro x w2 ⟨v, rfl, hown, hb2⟩
  have ht : toldL b e = blocksL b e := if_pos hE
  rw [ht] at hown
  obtain ⟨A2, c2, rfl⟩ := hown.slice
  have hr : rightB b e n = ((n : Int) == ((blocksL b e).length : Int)) := by
    rw [natEq]; unfold rightB; simp [hbe, hE]
  have Hr := Lib.hid hr
  clear hr
  generalize (blocksL b e).length = m at Hr ⊢
  clear ht hown
  go_wp2_with fail
  refine hK _ _ hb2 ?_
  clear hK K
  replace hbel := hbel.trans (hb2.mono hbel.size)
  iterate 4 (refine mix_plain rfl ?_; go_big_quiet_step (fail); refine wpQuiet_nil ?_)
  refine mix_done ?_
  go_wp2_with fail
  go_ret
  exact ⟨by rw [Hr.out]; rfl, hbel⟩
theorem results_cell_two {P : Program} {fn : Func} {p q : Tmp} {ty : TypeId} (h : fn.results = #[.cell p ty, .tmp q]) (tmps : Array Value) (w : World) (g : Nat) (t : TypeId) (cs : Array Value) (fr : Nat × Nat) (d : TypeDesc)
    (hp : tmps.getD p undef = .pointer (some ⟨g, 0, none⟩)) (hg : w.heap[g]? = some (.cells cs t fr))
    (hu : P.underlying ty = some d) (hd : (match d with | .struct _ | .array _ _ => true | _ => false) = true) (hi : (P.info? ty).map (·.size) = some cs.size) :
    (results fn tmps).run P w = .ok (.tuple #[.agg cs, tmps.getD q undef]) w := by
  have hp' : tmps[p]?.getD undef = .pointer (some ⟨g, 0, none⟩) := by simpa using hp
  simp [results, h, hp', asAddr, run_loadVar_row w g t ty cs fr d hg hu hd hi, Sem.run_bind, Result.andThen]
theorem empty_any (n : Nat) (w : World) : Calls Tryd.prog 30 #[.int .u64 n] w fun x w' => x = .returned (.agg (rgC n n (.slice none 0 0))) ∧ Below w.heap.size w w' := by
  have hB := Blk.new w 31 #[.int .u64 (n : Int), .int .u64 (n : Int), .slice none 0 0]
  have hb := below_new1 w (.cells #[.int .u64 (n : Int), .int .u64 (n : Int), .slice none 0 0] 31)
  go_enter Tryd.func30, Tryd.ntmps30
  go_wp2
  exact bodyPost_ret (results_cell_row (p := 2) (ty := 31) rfl _ _ w.heap.size _ _ _ _ rfl hB Tryd.underlying31 rfl (by kernel_rfl)) rfl ⟨rfl, hb⟩
theorem plain_any (b e : Nat) (A : Option Addr) (n c : Nat) (w : World) : Calls Tryd.prog 20 #[.agg (rgC b e (.slice A n c))] w fun x w' => x = .returned (.agg (rgC b e (.slice A n c))) ∧ Below w.heap.size w w' := by
  have hb1 := below_new1 w (.cells #[.int .u64 (b : Int), .int .u64 (e : Int), .slice A n c] 31)
  have hb := hb1.alloc hb1.size (.cells #[.int .u64 (b : Int), .int .u64 (e : Int), .slice A n c] 35)
  have hB := Blk.new2 w (.cells #[.int .u64 (b : Int), .int .u64 (e : Int), .slice A n c] 31) 35 #[.int .u64 (b : Int), .int .u64 (e : Int), .slice A n c]
  unfold rgC
  simp only [nU]
  go_enter Tryd.func20, Tryd.ntmps20
  go_wp2
  exact bodyPost_ret (results_cell_row (p := 2) (ty := 35) rfl _ _ (w.heap.size + 1) _ _ _ _ rfl hB Tryd.underlying35 rfl (by kernel_rfl)) rfl ⟨rfl, hb⟩
end Go.Proofs.YtkogehkmldbhgaaDoor

/- The walks of merkle's Root and its inner function. No condition. -/
namespace Go.Proofs.YtkogehkmldbhgaaDoor
open Go.RowKit
attribute [local irreducible] mixW
attribute [local go_sem] n8_lo n8_hi n64_lo n64_hi n32_lo n32_hi
section
variable {w : World} {B : Nat} {A : Option Addr} {n cap : Nat} {ls : List (List UInt8)}
theorem SSl.lens (h : SSl w B (.slice A n cap) ls) : n = ls.length ∧ ls.length ≤ cap := by
  obtain ⟨A', cap', vs, e1, h1, h2, _⟩ := h
  injection e1 with _ e1 e2
  exact ⟨e1, by omega⟩
theorem SSl.take (h : SSl w B (.slice A n cap) ls) (k : Nat) (hk : k ≤ n) : SSl w B (.slice A k cap) (ls.take k) := by
  obtain ⟨A', cap', vs, e1, h1, h2, h3, h4, h5⟩ := h
  injection e1 with e1 e2 e3
  subst e1; subst e3; subst e2
  have hl : (ls.take k).length = k := by rw [List.length_take]; omega
  refine ⟨A, cap, vs.take k, by rw [hl], by omega, h2, h3.take k, by rw [List.length_take, hl]; omega, fun i hi => ?_⟩
  rw [hl] at hi
  have := h5 i (by omega)
  rw [List.getD_eq_getElem?_getD, List.getD_eq_getElem?_getD] at this ⊢
  rw [List.getElem?_take, if_pos hi, List.getElem?_take, if_pos hi]
  exact this
theorem SSl.drop (h : SSl w B (.slice A n cap) ls) (k : Nat) (hk : k ≤ n) : SSl w B (cutV A cap k n) (ls.drop k) := by
  obtain ⟨A', cap', vs, e1, h1, h2, h3, h4, h5⟩ := h
  injection e1 with e1 e2 e3
  subst e1; subst e3; subst e2
  have hl : (ls.drop k).length = ls.length - k := by rw [List.length_drop]
  refine ⟨_, cap - k, vs.drop k, by unfold cutV; rw [hl], by omega, by omega, h3.cut (k := k) (cap := cap) (by omega) (by omega), by rw [List.length_drop, hl]; omega, fun i hi => ?_⟩
  rw [hl] at hi
  have := h5 (k + i) (by omega)
  rw [List.getD_eq_getElem?_getD, List.getD_eq_getElem?_getD] at this ⊢
  rw [List.getElem?_drop, List.getElem?_drop]
  exact this
/-- an element of a slice of slices -/
theorem SSl.cellAt (h : SSl w B (.slice A n cap) ls) (k : Nat) (hk : k < ls.length) : ∃ b off u, A = some ⟨b, off, none⟩ ∧ b < B ∧ w.cell? ⟨b, off + k, none⟩ = some u ∧ BSl w B u (ls.getD k []) := by
  obtain ⟨A', cap', vs, e1, h1, h2, h3, h4, h5⟩ := h
  injection e1 with e1 e2 e3
  subst e1
  obtain ⟨b, off, e, hb, hc⟩ := h3 (by omega)
  refine ⟨b, off, vs.getD k undef, e, hb, hc k _ ?_, h5 k hk⟩
  rw [List.getD_eq_getElem?_getD, List.getElem?_eq_getElem (show k < vs.length by omega)]; rfl
end
set_option maxHeartbeats 1000000 in
set_option maxRecDepth 100000 in
theorem mroot1_any (x : Int) (wb fb : Nat) (ft : TypeId) : ∀ (N : Nat) (ls : List (List UInt8)), ls.length ≤ N → 1 ≤ ls.length → ls.length ≤ 4611686018427387904 → (∀ b ∈ ls, b.length ≤ 140737488355200) → ∀ (v : Value) (w : World), SSl w w.heap.size v ls → Glob w →
    Blk w wb 3 #[.int .i64 x] → Blk w fb ft #[.func (.func 49) #[] #[.pointer (some ⟨wb, 0, none⟩), .pointer (some ⟨fb, 0, none⟩)]] →
    Calls Tryd.prog 49 #[v, .pointer (some ⟨wb, 0, none⟩), .pointer (some ⟨fb, 0, none⟩)] w fun e w' => e = .returned (.agg (dat (rootM (cutW x) ls))) ∧ Below w.heap.size w w' := by
  intro N
  induction N with
  | zero => intro ls h1 h2; omega
  | succ N ih =>
    intro ls hN h1 h62 hall v w hv hG hW hF
    have IH := Lib.hid ih
    have Hall := Lib.hid hall
    clear ih hall
    have hD := Blk.new w 43 (arr 32 fun _ => 0)
    have hb0 := below_new1 w (Obj.cells (arr 32 fun _ => 0) 43)
    obtain ⟨A, cap, vs, rfl, h2, h3, h4, h5, h6⟩ := hv
    have hv : SSl w w.heap.size (.slice A ls.length cap) ls := ⟨A, cap, vs, rfl, h2, h3, h4, h5, h6⟩
    clear h4 h5 h6 vs
    go_enter Tryd.func49, Tryd.ntmps49
    by_cases hone : ls.length = 1
    · have e1 : ((ls.length : Int) == 1) = true := by rw [beq_iff_eq]; omega
      go_upto_region 2 with fail
      refine wp_at (fun W => Blk W w.heap.size 43 (arr 32 fun _ => 0) ∧ Below w.heap.size w W) ⟨hD, hb0⟩ ?_
      clear hD hb0
      rintro W ⟨hD, hbel⟩
      have Hr := Lib.hid (rootM_single (cutW x) ls hone)
      have hlt : (0 : Int) < (ls.length : Int) := by omega
      refine wp_region_mixT 5 (.plain 0 <| .plain 1 <| .plain 2 <| .plain 3 <| .only 4 <| .done) (by kernel_rfl) (by kernel_rfl) (fun W1 hb1 => ?_)
      replace hD := hD.below hb1 hD.lt
      replace hbel := hbel.trans (hb1.mono hbel.size)
      clear hb1
      obtain ⟨b0, off, u, rfl, hb0, hcu, hu⟩ := (hv.next hbel).cellAt 0 (by omega)
      have Hlb : Hid ((ls.getD 0 []).length ≤ 140737488355200) := Lib.hid (Hall.out _ (by rw [List.getD_eq_getElem?_getD, List.getElem?_eq_getElem (show 0 < ls.length by omega)]; exact List.getElem_mem _))
      have cW : W1.cell? ⟨wb, 0, none⟩ = some (.int .i64 x) := by
        have := (hW.below hbel hW.lt).cell 0
        simpa using this
      have hwl : wb < W1.heap.size := (hW.below hbel hW.lt).lt
      rw [Nat.add_zero] at hcu
      clear hone e1 hv hN h1 h62 h2 h3
      iterate 4 (refine mix_plain rfl ?_; (first
        | (refine wpQuiet_load1 rfl _ (.tmp 1) rfl _ rfl _ Tryd.underlying3 rfl _ (fun _ ⟨e, he⟩ => by rw [he, plus_cell _ _ _ hwl]; exact cW) ?_; simp only [Act.put, List.setIfInBounds_toArray, List.set_cons_zero, List.set_cons_succ])
        | (refine wpQuiet_load1 rfl _ (.tmp 11) rfl _ rfl _ Tryd.underlying62 rfl _ (fun _ ⟨e, he⟩ => by rw [he, plus_cell _ _ _ hb0]; exact hcu) ?_; simp only [Act.put, List.setIfInBounds_toArray, List.set_cons_zero, List.set_cons_succ])
        | go_big_quiet_step (fail)); refine wpQuiet_nil ?_)
      refine mix_only rfl (fun K hK => ?_)
      go_wp2_with fail
      refine (mleaf_any x u (ls.getD 0 []) W1 hu Hlb.out (hG.next hbel)).mono ?_
      rintro e W2 ⟨rfl, hb1⟩
      go_wp2_with fail
      refine hK _ _ hb1 ?_
      clear hK K hcu cW hu
      replace hD := hD.below hb1 hD.lt
      replace hbel := hbel.trans (hb1.mono hbel.size)
      clear hb1
      refine mix_done ?_
      simp only [List.drop_succ_cons, List.drop_zero]
      refine wpList_storeDat rfl rfl 43 (.tmp 4) (.tmp 13) rfl w.heap.size rfl _ _ rfl _ hD (by kernel_rfl) ?_
      intro w10 hD10 hon10
      have hb10 := below_only hbel hon10 (Nat.le_refl _) hbel.size
      go_wp2
      refine bodyPost_ret (results_cell_row (p := 4) (ty := 43) rfl _ _ w.heap.size _ _ _ _ rfl hD10 Tryd.underlying43 rfl (by rw [dat_size]; kernel_rfl)) rfl ⟨?_, hb10⟩
      rw [Hr.out]; rfl
    · have e1 : ((ls.length : Int) == 1) = false := by rw [beq_eq_false_iff_ne]; omega
      go_wp2_with fail
      refine calls_at (fun W => Blk W w.heap.size 43 (arr 32 fun _ => 0) ∧ Below w.heap.size w W) ⟨hD, hb0⟩ ?_
      clear hD hb0
      rintro W ⟨hD, hbel⟩
      have h2l : 2 ≤ ls.length := by omega
      refine (half_any ls.length h2l h62 W).mono ?_
      rintro e _ ⟨rfl, rfl⟩
      have Hp := Lib.hid (half_parts ls h2l)
      have Hr := Lib.hid (rootM_node (cutW x) ls h2l)
      obtain ⟨p, hp⟩ : ∃ p, rootM (cutW x) (ls.take (halfN ls.length)) = p := ⟨_, rfl⟩
      obtain ⟨q, hq⟩ : ∃ q, rootM (cutW x) (ls.drop (halfN ls.length)) = q := ⟨_, rfl⟩
      have Hpq : Hid (p.length = 32 ∧ q.length = 32 ∧ rootM (cutW x) ls = nodeM (cutW x) p q) := Lib.hid ⟨by rw [← hp]; exact rootM_length _ _, by rw [← hq]; exact rootM_length _ _, by rw [Hr.out, hp, hq]⟩
      have Hp0 := Lib.hid hp
      have Hq0 := Lib.hid hq
      clear hp hq Hr e1 hone h2l
      obtain ⟨k, hk⟩ : ∃ k, halfN ls.length = k := ⟨_, rfl⟩
      rw [hk] at Hp Hp0 Hq0 ⊢
      clear hk
      have hkl : (k : Int) ≤ (ls.length : Int) := by have := Hp.out; omega
      have hk0 : (0 : Int) ≤ (k : Int) := by omega
      have hkc : (k : Int) ≤ (cap : Int) := by omega
      go_wp2_with fail
      refine wp_region_mixT 12 (.plain 0 <| .plain 1 <| .plain 2 <| .plain 3 <| .plain 4 <| .plain 6 <| .plain 7 <| .plain 8 <| .plain 9 <| .only 5 <| .only 10 <| .only 11 <| .done) (by kernel_rfl) (by kernel_rfl) (fun W1 hb1 => ?_)
      replace hD := hD.below hb1 hD.lt
      replace hbel := hbel.trans (hb1.mono hbel.size)
      clear hb1
      have cW : W1.cell? ⟨wb, 0, none⟩ = some (.int .i64 x) := by
        have := (hW.below hbel hW.lt).cell 0
        simpa using this
      have cF : W1.cell? ⟨fb, 0, none⟩ = some (.func (.func 49) #[] #[.pointer (some ⟨wb, 0, none⟩), .pointer (some ⟨fb, 0, none⟩)]) := by
        have := (hF.below hbel hF.lt).cell 0
        simpa using this
      have hwl : wb < W1.heap.size := (hW.below hbel hW.lt).lt
      have hfl : fb < W1.heap.size := (hF.below hbel hF.lt).lt
      have hv1 := hv.next hbel
      have hT := hv1.take k (by omega)
      have hR := hv1.drop k (by omega)
      clear hv hv1
      iterate 9 (refine mix_plain rfl ?_; (first
        | (refine wpQuiet_load1 rfl _ (.tmp 1) rfl _ rfl _ Tryd.underlying3 rfl _ (fun _ ⟨e, he⟩ => by rw [he, plus_cell _ _ _ hwl]; exact cW) ?_; simp only [Act.put, List.setIfInBounds_toArray, List.set_cons_zero, List.set_cons_succ])
        | (refine wpQuiet_load1 rfl _ (.tmp 2) rfl _ rfl _ Tryd.underlying73 rfl _ (fun _ ⟨e, he⟩ => by rw [he, plus_cell _ _ _ hfl]; exact cF) ?_; simp only [Act.put, List.setIfInBounds_toArray, List.set_cons_zero, List.set_cons_succ])
        | (refine wpQuiet_cutL rfl _ (.tmp 24) (.tmp 25) rfl 62 Tryd.underlying27 (by kernel_rfl) A ls.length cap k rfl rfl (by omega) ?_; simp only [Act.put, List.setIfInBounds_toArray, List.set_cons_zero, List.set_cons_succ])
        | go_big_quiet_step (fail)); refine wpQuiet_nil ?_)
      have hW1 := hW.below hbel hW.lt
      have hF1 := hF.below hbel hF.lt
      clear cW cF hwl hfl hW hF
      refine mix_only rfl (fun K hK => ?_)
      go_wp2_with fail
      refine (IH.out (ls.take k) (by have := Hp.out; omega) (by have := Hp.out; omega) (by have := Hp.out; omega) (fun b hb => Hall.out b (List.mem_of_mem_take hb)) _ W1 hT (hG.next hbel) hW1 hF1).mono ?_
      rintro e W2 ⟨rfl, hb1⟩
      rw [Hp0.out]
      go_wp2_with fail
      refine hK _ _ hb1 ?_
      clear hK K hT
      replace hD := hD.below hb1 hD.lt
      replace hR := hR.next hb1
      replace hW1 := hW1.below hb1 hW1.lt
      replace hF1 := hF1.below hb1 hF1.lt
      replace hbel := hbel.trans (hb1.mono hbel.size)
      clear hb1
      refine mix_only rfl (fun K hK => ?_)
      go_wp2_with fail
      refine (IH.out (ls.drop k) (by have := Hp.out; omega) (by have := Hp.out; omega) (by have := Hp.out; omega) (fun b hb => Hall.out b (List.mem_of_mem_drop hb)) _ W2 hR (hG.next hbel) hW1 hF1).mono ?_
      rintro e W3 ⟨rfl, hb1⟩
      rw [Hq0.out]
      go_wp2_with fail
      refine hK _ _ hb1 ?_
      clear hK K hR hW1 hF1
      replace hD := hD.below hb1 hD.lt
      replace hbel := hbel.trans (hb1.mono hbel.size)
      clear hb1
      refine mix_only rfl (fun K hK => ?_)
      go_wp2_with fail
      refine (mnode_any x p q Hpq.out.1 Hpq.out.2.1 W3 (hG.next hbel)).mono ?_
      rintro e W4 ⟨rfl, hb1⟩
      go_wp2_with fail
      refine hK _ _ hb1 ?_
      clear hK K
      replace hD := hD.below hb1 hD.lt
      replace hbel := hbel.trans (hb1.mono hbel.size)
      clear hb1
      refine mix_done ?_
      simp only [List.drop_succ_cons, List.drop_zero]
      refine wpList_storeDat rfl rfl 43 (.tmp 4) (.tmp 28) rfl w.heap.size rfl _ _ rfl _ hD (by kernel_rfl) ?_
      intro w10 hD10 hon10
      have hb10 := below_only hbel hon10 (Nat.le_refl _) hbel.size
      go_wp2
      refine bodyPost_ret (results_cell_row (p := 4) (ty := 43) rfl _ _ w.heap.size _ _ _ _ rfl hD10 Tryd.underlying43 rfl (by rw [dat_size]; kernel_rfl)) rfl ⟨?_, hb10⟩
      rw [Hpq.out.2.2]
set_option maxHeartbeats 400000 in
set_option maxRecDepth 100000 in
theorem mroot_any (x : Int) (v : Value) (ls : List (List UInt8)) (w : World) (hv : SSl w w.heap.size v ls) (h62 : ls.length ≤ 4611686018427387904) (hall : ∀ b ∈ ls, b.length ≤ 140737488355200) (hG : Glob w) :
    Calls Tryd.prog 32 #[.int .i64 x, v] w fun e w' => e = .returned (.agg (dat (rootM (cutW x) ls))) ∧ Below w.heap.size w w' := by
  have Hall := Lib.hid hall
  clear hall
  obtain ⟨A, cap, vs, rfl, h2, h3, h4, h5, h6⟩ := hv
  have hv : SSl w w.heap.size (.slice A ls.length cap) ls := ⟨A, cap, vs, rfl, h2, h3, h4, h5, h6⟩
  clear h4 h5 h6 vs
  have hX := (Blk.new w 3 #[.int .i64 x]).alloc (Obj.cells (arr 32 fun _ => 0) 43)
  have hD := Blk.new2 w (Obj.cells #[.int .i64 x] 3) 43 (arr 32 fun _ => 0)
  have hb2 := (below_new1 w (Obj.cells #[.int .i64 x] 3)).alloc (by simp) (Obj.cells (arr 32 fun _ => 0) 43)
  go_enter Tryd.func32, Tryd.ntmps32
  by_cases h0 : ls.length = 0
  · have hnil : ls = [] := List.eq_nil_of_length_eq_zero h0
    subst hnil
    go_wp2_with fail
    refine calls_at (fun W => Blk W (w.heap.size + 1) 43 (arr 32 fun _ => 0) ∧ Below w.heap.size w W) ⟨hD, hb2⟩ ?_
    clear hX hD hb2
    rintro W ⟨hD, hbel⟩
    refine (msum_any x _ [] W BSl.nil_ (by simp) (hG.next hbel)).mono ?_
    rintro e w1 ⟨rfl, hb1⟩
    replace hD := hD.below hb1 hD.lt
    replace hbel := hbel.trans (hb1.mono hbel.size)
    clear hb1
    go_wp2_with (first
      | (refine wpList_storeDat rfl rfl 43 (.tmp 4) (.tmp 10) rfl (w.heap.size + 1) rfl _ _ rfl _ hD (by kernel_rfl) ?_; intro w10 hD10 hon10))
    have hb10 := below_only hbel hon10 (by omega) hbel.size
    exact bodyPost_ret (results_cell_row (p := 4) (ty := 43) rfl _ _ (w.heap.size + 1) _ _ _ _ rfl hD10 Tryd.underlying43 rfl (by rw [dat_size]; kernel_rfl)) rfl ⟨rfl, hb10⟩
  · have e1 : ((ls.length : Int) == 0) = false := by rw [beq_eq_false_iff_ne]; omega
    have hmf : ∀ (fn : Fn) (first cap : Array Value) (w : World), (Instr.makeFunc fn first cap).run Tryd.prog w = .ok (.func fn first cap) w := fun _ _ _ _ => rfl
    have hF := Blk.new3 w (Obj.cells #[.int .i64 x] 3) (Obj.cells (arr 32 fun _ => 0) 43) 73 #[.nilFunc]
    have hX3 := hX.alloc (Obj.cells #[.nilFunc] 73)
    have hD3 := hD.alloc (Obj.cells #[.nilFunc] 73)
    have hb3 := hb2.alloc hb2.size (Obj.cells #[.nilFunc] 73)
    clear hX hD hb2
    go_upto_region 5 with (first
      | (refine wpList_store1 rfl rfl _ (.tmp 5) (.tmp 11) rfl (w.heap.size + 2) 0 rfl (.func (.func 49) #[] #[.pointer (some ⟨w.heap.size, 0, none⟩), .pointer (some ⟨w.heap.size + 2, 0, none⟩)]) rfl _ _ hF (by kernel_rfl) (by simp) rfl rfl ?_; intro w4 hF4 hon4))
    have hb4 := below_only hb3 hon4 (by omega) hb3.size
    have hX4 := hX3.grown hon4 (by simp)
    have hD4 := hD3.grown hon4 (by simp)
    clear hF hX3 hD3 hb3 hon4 hmf e1
    have cF := hF4.cell 0
    have hf0 : (#[Value.nilFunc].setIfInBounds 0 (.func (.func 49) #[] #[.pointer (some ⟨w.heap.size, 0, none⟩), .pointer (some ⟨w.heap.size + 2, 0, none⟩)])) = #[Value.func (.func 49) #[] #[.pointer (some ⟨w.heap.size, 0, none⟩), .pointer (some ⟨w.heap.size + 2, 0, none⟩)]] := rfl
    rw [hf0] at hF4 cF
    have cF : w4.cell? ⟨w.heap.size + 2, 0, none⟩ = some (.func (.func 49) #[] #[.pointer (some ⟨w.heap.size, 0, none⟩), .pointer (some ⟨w.heap.size + 2, 0, none⟩)]) := by simpa using cF
    clear hf0
    go_wp2_with fail
    refine (mroot1_any x w.heap.size (w.heap.size + 2) 73 ls.length ls (Nat.le_refl _) (by omega) h62 Hall.out _ w4 (hv.next hb4) (hG.next hb4) hX4 hF4).mono ?_
    rintro e w5 ⟨rfl, hb1⟩
    replace hD4 := hD4.below hb1 hD4.lt
    have hbel := hb4.trans (hb1.mono hb4.size)
    clear hb1 hF4 hX4 cF hb4
    go_wp2_with (first
      | (refine wpList_storeDat rfl rfl 43 (.tmp 4) (.tmp 14) rfl (w.heap.size + 1) rfl _ _ rfl _ hD4 (by kernel_rfl) ?_; intro w10 hD10 hon10))
    have hb10 := below_only hbel hon10 (by omega) hbel.size
    exact bodyPost_ret (results_cell_row (p := 4) (ty := 43) rfl _ _ (w.heap.size + 1) _ _ _ _ rfl hD10 Tryd.underlying43 rfl (by rw [dat_size]; kernel_rfl)) rfl ⟨rfl, hb10⟩
end Go.Proofs.YtkogehkmldbhgaaDoor

/- Lists of digests: their cells, a literal of one, append of one onto a row of the call's own. No condition. -/
namespace Go.Proofs.YtkogehkmldbhgaaDoor
open Go Go.RowKit
/-- the cells of a list of digests -/
def dcells (l : List (List UInt8)) : List Value := (l.map fun d => (dat d).toList).flatten
theorem dcells_snoc (l : List (List UInt8)) (d : List UInt8) : dcells (l ++ [d]) = dcells l ++ (dat d).toList := by simp [dcells]
theorem dcells_length (l : List (List UInt8)) : (dcells l).length = l.length * 32 := by
  unfold dcells
  induction l with
  | nil => rfl
  | cons d l ih => simp only [List.map_cons, List.flatten_cons, List.length_append, ih]; rw [show (dat d).toList.length = 32 by rw [Array.length_toList, dat_size]]; simp; omega
theorem dcells_at (l : List (List UInt8)) (k : Nat) (hk : k < l.length) (j : Nat) (hj : j < 32) : (dcells l)[k * 32 + j]? = (dat (l.getD k []))[j]? := by
  induction l generalizing k with
  | nil => simp at hk
  | cons d l ih =>
    have hd : (dat d).toList.length = 32 := by rw [Array.length_toList, dat_size]
    have e : dcells (d :: l) = (dat d).toList ++ dcells l := by simp [dcells]
    rw [e]
    cases k with
    | zero => rw [List.getElem?_append_left (by omega)]; simp
    | succ k =>
      rw [List.getElem?_append_right (by omega), hd, show (k + 1) * 32 + j - 32 = k * 32 + j by omega, ih k (by simpa using hk)]; simp
set_option maxRecDepth 100000 in
theorem build_digest (d : List UInt8) (w : World) : (Instr.buildSlice 29 1 #[(0, .agg (dat d))]).run Tryd.prog w = .ok (.slice (some ⟨w.heap.size, 0, none⟩) 1 1) (w.alloc (.cells (dat d) 43)) := by kernel_rfl
theorem wpList_buildD {w : World} {ops : Array Oper} {rest : List Oper} {o : Oper} {a : Act} {Q : Exit → Act → World → Prop} (hgd : o.guard = none) (x : Operand) (ho : o.op = .buildSlice 29 1 #[(0, x)]) (d : List UInt8) (hx : a.eval x = .agg (dat d))
    (h : wpList Tryd.prog ops Q rest (a.put o.dst (.slice (some ⟨w.heap.size, 0, none⟩) 1 1)) (w.alloc (.cells (dat d) 43))) : wpList Tryd.prog ops Q (o :: rest) a w :=
  wpList_plain hgd fun K hK => by
    unfold Oper.wp execOp
    simp only [ho, List.map_toArray, List.map_cons, List.map_nil, hx, Sem.run_bind, build_digest d, Result.andThen_ok, Sem.run_pure]
    exact hK _ _ h
theorem own_oneD (w : World) (base : Nat) (hb : base ≤ w.heap.size) (d : List UInt8) : (w.alloc (.cells (dat d) 43)).ownsRow base 43 32 (.slice (some ⟨w.heap.size, 0, none⟩) 1 1) ([d] : List (List UInt8)).length (dcells [d]) := by
  have hl : (dcells [d]) = (dat d).toList := by simp [dcells]
  refine ⟨by rw [hl, Array.length_toList, dat_size]; rfl, .inr ⟨w.heap.size, 1, dat d, rfl, hb, heap_alloc_new w _, Nat.le_refl _, by decide, by rw [dat_size], ?_⟩⟩
  rw [hl, List.take_of_length_le (by rw [Array.length_toList, dat_size]; show 32 ≤ 1 * 32; decide)]
theorem range_plus {w : World} {b off : Nat} {cs : List Value} (h : w.rangeAt b off cs) (e : Ext) : (plus w e).rangeAt b off cs := fun j v hj => by
  have h1 := h j v hj
  rw [plus_cell w e ⟨b, off + j, none⟩ (block_lt_of_cell h1)]; exact h1
section
variable {ops : Array Oper} {Q : Act → Prop} {a : Act} {o : Oper} {rest : List Oper}
theorem wpQuiet_loadMid {P : Program} {C : World → Prop} (hw : Region.wanted o (yielded ops a.tmps) = true) (ty : TypeId) (x : Operand) (ho : o.op = .load ty x) (b off : Nat) (hx : a.eval x = .pointer (some ⟨b, off, none⟩)) (cs : Array Value) (d : TypeDesc) (hS : ∀ w, C w → w.rangeAt b off cs.toList)
    (hu : P.underlying ty = some d) (hd : d.isRow = true) (hi : (P.info? ty).map (·.size) = some cs.size) (hk : wpQuiet P ops C Q rest (a.put o.dst (.agg cs))) : wpQuiet P ops C Q (o :: rest) a :=
  wpQuiet_wanted hw _ (fun w hC => by
    unfold Oper.quietAt execOp
    simp only [ho, hx, Instr.loadAt, Instr.sureAddr, Sem.run_bind, Sem.run_pure, Result.andThen_ok, run_loadVar_mid w b off ty cs.toList d (hS w hC) hu hd (by simpa using hi)]
    exact ⟨rfl, by simp⟩) hk
end
theorem wpList_loadMid {P : Program} {w : World} {ops : Array Oper} {rest : List Oper} {o : Oper} {a : Act} {Q : Exit → Act → World → Prop} (hw : Region.wanted o (yielded ops a.tmps) = true) (ty : TypeId) (x : Operand) (ho : o.op = .load ty x) (b off : Nat) (hx : a.eval x = .pointer (some ⟨b, off, none⟩)) (cs : Array Value) (d : TypeDesc)
    (hS : w.rangeAt b off cs.toList) (hu : P.underlying ty = some d) (hd : d.isRow = true) (hi : (P.info? ty).map (·.size) = some cs.size)
    (h : wpList P ops Q rest (a.put o.dst (.agg cs)) w) : wpList P ops Q (o :: rest) a w :=
  wpList_step fun K hK => by
    simp only [hw, if_true]
    unfold Oper.wp execOp
    simp only [ho, hx, Instr.loadAt, Instr.sureAddr, Sem.run_bind, Sem.run_pure, Result.andThen_ok, run_loadVar_mid w b off ty cs.toList d hS hu hd (by simpa using hi)]
    exact hK _ _ h
/-- append of one digest onto a row of digests of the call's own -/
theorem wpList_appendDig {w : World} {ops : Array Oper} {rest : List Oper} {o : Oper} {a : Act} {Q : Exit → Act → World → Prop} (hgd : o.guard = none) (s x : Operand)
    (ho : o.op = .call { callee := .builtin .append, args := #[s, x], argTypes := #[29, 29] })
    (base : Nat) (v : Value) (ds : List (List UInt8)) (hs : a.eval s = v) (hown : w.ownsRow base 43 32 v ds.length (dcells ds))
    (g : Nat) (d : List UInt8) (hx : a.eval x = .slice (some ⟨g, 0, none⟩) 1 1) (hX : Blk w g 43 (dat d)) (hl : ds.length ≤ 1000000000) (hbase : base ≤ w.heap.size)
    (h : ∀ v' w', w'.ownsRow base 43 32 v' (ds ++ [d]).length (dcells (ds ++ [d])) → w.grownBy w' v.ownBlock → wpList Tryd.prog ops Q rest (a.put o.dst v') w') : wpList Tryd.prog ops Q (o :: rest) a w := by
  obtain ⟨i0, hi, hz0, hz1, hz2⟩ := info_parts (by kernel_rfl : (Tryd.prog.info? 43).map (fun i => (i.zero, i.size, i.bytes)) = some (some (.agg (arr 32 fun _ => 0)), 32, 32))
  refine wpList_append_own_at _ hgd s x _ ho base 43 i0 _ 32 32 Tryd.underlying29 hi hz0 hz1 hz2 (by show (arr 32 fun _ => 0).size = 32; exact arr_size _ _) (by decide) v _ _ hs hown ⟨g, 0, none⟩ 1 1 (dat d).toList hx (by rw [Array.length_toList, dat_size]) (fun j u hj => by
      have e : (⟨g, 0, none⟩ : Addr).add j = ⟨g, j, none⟩ := by unfold Addr.add; split <;> simp_all
      rw [e, hX.cell, ← hj]; simp) (arr_one _ _) (by unfold maxLen; omega) (by omega) hbase ?_
  intro v' w' hown' hg _ _
  rw [← dcells_snoc] at hown'
  exact h v' w' (by rw [List.length_append]; exact hown') hg
end Go.Proofs.YtkogehkmldbhgaaDoor

/- Two constant texts as bytes in one region that draws its order: literals' rows, and the conversion of a literal's row to its own type, which marks it. No condition. -/
namespace Go.Proofs.YtkogehkmldbhgaaDoor
open Go Go.RowKit
/-- Block g is just these bytes (marked or not). -/
def Lit (V : World) (g : Nat) (bs : List UInt8) : Prop := ∃ t fr, V.heap[g]? = some (.cells (bs.map v8).toArray t fr)
theorem Lit.lt {V : World} {g : Nat} {bs : List UInt8} (h : Lit V g bs) : g < V.heap.size := by
  obtain ⟨t, fr, h⟩ := h
  rcases Nat.lt_or_ge g V.heap.size with hlt | hge
  · exact hlt
  · rw [Array.getElem?_eq_none hge] at h; cases h
theorem Lit.bsl {V : World} {g : Nat} {bs : List UInt8} (h : Lit V g bs) (n : Nat) (hn : bs.length = n) (hc : n ≤ 9223372036854775807) : BSl V V.heap.size (.slice (some ⟨g, 0, none⟩) n n) bs := by
  subst hn
  have hl := h.lt
  obtain ⟨t, fr, h⟩ := h
  exact BSl.of_marked h _ hl hc
theorem Lit.new (V : World) (bs : List UInt8) (t : TypeId) : Lit (V.alloc (.cells (bs.map v8).toArray t)) V.heap.size bs := ⟨t, _, heap_alloc_new V _⟩
theorem Lit.alloc {V : World} {g : Nat} {bs : List UInt8} (h : Lit V g bs) (o : Obj) : Lit (V.alloc o) g bs := by
  have hl := h.lt
  obtain ⟨t, fr, h⟩ := h
  exact ⟨t, fr, (Below.heap_alloc V o g hl).trans h⟩
theorem freeze_block (V : World) (a : Addr) (n g : Nat) {cs : Array Value} {t : TypeId} {fr : Nat × Nat} (h : V.heap[g]? = some (.cells cs t fr)) : ∃ fr', (V.freeze a n).heap[g]? = some (.cells cs t fr') := by
  unfold World.freeze
  split
  · exact ⟨fr, h⟩
  · rw [Array.getElem?_modify]
    by_cases hg : a.block = g
    · subst hg
      rw [if_pos rfl, h]
      exact ⟨_, rfl⟩
    · rw [if_neg hg]; exact ⟨fr, h⟩
theorem Lit.freeze {V : World} {g : Nat} {bs : List UInt8} (h : Lit V g bs) (a : Addr) (n : Nat) : Lit (V.freeze a n) g bs := by
  obtain ⟨t, fr, h⟩ := h
  obtain ⟨fr', h'⟩ := freeze_block V a n g h
  exact ⟨t, fr', h'⟩
theorem below_freeze {B : Nat} {W V : World} (h : Below B W V) (a : Addr) (ha : B ≤ a.block) (n : Nat) : Below B W (V.freeze a n) := by
  refine ⟨?_, ?_, ?_, ?_, fun k hk => ?_⟩
  · unfold World.freeze; split <;> exact h.os
  · unfold World.freeze; split <;> exact h.tape
  · unfold World.freeze; split <;> exact h.output
  · unfold World.freeze; split
    · exact h.size
    · simpa using h.size
  · unfold World.freeze; split
    · exact h.block k hk
    · simp only
      rw [Array.getElem?_modify, if_neg (by omega)]; exact h.block k hk
theorem wpList_convSelf {P : Program} {V : World} {ops : Array Oper} {rest : List Oper} {o : Oper} {a : Act} {Q : Exit → Act → World → Prop} (hgd : o.guard = none) (t e : TypeId) (x : Operand) (ho : o.op = .convert t t x)
    (ht : P.underlying t = some (.slice e)) (he : P.underlying e = some (.int .u8)) (g n c : Nat) (hx : a.eval x = .slice (some ⟨g, 0, none⟩) n c) (bs : List UInt8) (hg : Lit V g bs)
    (h : ∀ k, wpList P ops Q rest (a.put o.dst (.slice (some ⟨g, 0, none⟩) n c)) (V.freeze ⟨g, k, none⟩ 1)) : wpList P ops Q (o :: rest) a V := by
  refine wpList_plain hgd fun K hK => ?_
  obtain ⟨t', fr, hg⟩ := hg
  have hsh : V.shape? g = some (t', bs.length) := by unfold World.shape?; rw [hg]; simp
  have hr : (convert t t (.slice (some ⟨g, 0, none⟩) n c)).run P V = .ok (.slice (some ⟨g, 0, none⟩) n c) (V.freeze ⟨g, bs.length, none⟩ 1) := by
    simp [convert, run_underlying ht, run_underlying he, markStringish, hsh]
  unfold Oper.wp execOp
  simp only [ho, hx, Sem.run_bind, hr, Result.andThen_ok, Sem.run_pure]
  exact hK _ _ (h _)
/-- the world behind a point of a walk by plan, the class staying -/
theorem mix_atC {P : Program} {ops : Array Oper} {K : Act → World → Prop} {p : Plan} {S : World → Prop} {a : Act} {w : World} (R : World → Prop) (hR : R w) (h : ∀ W, R W → mixW P ops K p S a W) : mixW P ops K p S a w := h w hR
end Go.Proofs.YtkogehkmldbhgaaDoor

/- Lists of short texts. No condition. -/
namespace Go.Proofs.YtkogehkmldbhgaaDoor
open Go Go.RowKit
attribute [local go_sem] n8_lo n8_hi n64_lo n64_hi n32_lo n32_hi
def elemL (c : UInt8) (i : Nat) : List UInt8 := [c, UInt8.ofNat i, UInt8.ofNat (i / 256)]
def listL (n : Nat) (c : UInt8) : List (List UInt8) := (List.range n).map (elemL c)
theorem listL_length (n : Nat) (c : UInt8) : (listL n c).length = n := by simp [listL]
theorem listL_at (n : Nat) (c : UInt8) (i : Nat) (h : i < n) : (listL n c).getD i [] = elemL c i := by
  unfold listL; rw [List.getD_eq_getElem?_getD, List.getElem?_map, List.getElem?_range h]; rfl
theorem listL_mem {n : Nat} {c : UInt8} {b : List UInt8} (h : b ∈ listL n c) : b.length = 3 := by
  unfold listL at h
  obtain ⟨i, _, rfl⟩ := List.mem_map.1 h; rfl
theorem byte_nat (k : Nat) : (k : Int) % 256 = n8 (UInt8.ofNat k) := by
  unfold n8; rw [UInt8.toNat_ofNat']; omega
/-- u is a slice that reads some bytes, all of a block -/
def Whole (w : World) (u : Value) (b : List UInt8) : Prop := ∃ g, u = .slice (some ⟨g, 0, none⟩) b.length b.length ∧ Blk w g 5 (b.map v8).toArray
theorem Whole.below {w w' : World} {u : Value} {b : List UInt8} (h : Whole w u b) (hb : Below w.heap.size w w') : Whole w' u b := by
  obtain ⟨g, e, h⟩ := h; exact ⟨g, e, h.below hb h.lt⟩
theorem Whole.grown {w w' : World} {u v : Value} {b : List UInt8} {base n : Nat} {xs : List Value} (h : Whole w u b) (hown : w.ownsRow base 62 1 v n xs) (hg : w.grownBy w' v.ownBlock) : Whole w' u b := by
  obtain ⟨g, e, h⟩ := h
  refine ⟨g, e, h.grown hg (fun e2 => ?_)⟩
  rcases hown.2 with ⟨rfl, _⟩ | ⟨g', cap, cur, rfl, _, hb, _⟩
  · cases e2
  · have e3 : g = g' := by injection e2
    subst e3
    unfold Blk at h
    rw [h] at hb
    injection hb with hb
    injection hb with _ hb
    exact absurd hb (by decide)
theorem Whole.bsl {w : World} {u : Value} {b : List UInt8} (h : Whole w u b) (hl : b.length ≤ 9223372036854775807) : BSl w w.heap.size u b := by
  obtain ⟨g, rfl, h⟩ := h
  refine ⟨_, _, rfl, Nat.le_refl _, hl, ?_⟩
  have := Reads.of_blk h h.lt 0
  simpa using this
theorem SSl.of_own {w : World} {base : Nat} {e : TypeId} {v : Value} {vs : List Value} {ls : List (List UInt8)} (h : w.ownsRow base e 1 v vs.length vs) (hl : vs.length = ls.length) (hel : ∀ i, i < ls.length → BSl w w.heap.size (vs.getD i undef) (ls.getD i [])) : SSl w w.heap.size v ls := by
  obtain ⟨A, cap, hv, h1, h2, hr⟩ := Reads.own h
  exact ⟨A, cap, vs, by rw [hv, hl], by omega, h2, hr, hl, hel⟩
end Go.Proofs.YtkogehkmldbhgaaDoor
