/- Texts that stand behind one another: AudM, AudS, AudN. No condition. -/
import Derived.Test.YtcgbokgedfekkaaDoorU15
import Derived.Test.YtcgbokgedfekkaaDoorU11
import Derived.MapKept
import Derived.Test.YtcgbokgedfekkaaDoorU14
/- The map of heads of audit's Watch: with no head, or tree 0's: look-up and store. No condition. -/
namespace Go.Proofs.YtcgbokgedfekkaaDoor
open Go Go.RowKit
attribute [local irreducible] mixW
/-- the map's object: no head, or one, tree 0's -/
def hdsO : Option (HeadL × List UInt8) → Obj
  | none => .map #[] 0
  | some p => .map #[{ key := .int .i64 0, val := .agg (sigC p.1 p.2), born := 0 }] 1
/-- what a look-up of tree n answers -/
def hdsV (o : Option (HeadL × List UInt8)) (n : Int) : Option (HeadL × List UInt8) := if n = 0 then o else none
def sigV : Option (HeadL × List UInt8) → Value
  | none => .agg (sigC zeroHead [])
  | some p => .agg (sigC p.1 p.2)
def Hds (w : World) (m : Nat) (o : Option (HeadL × List UInt8)) : Prop := w.heap[m]? = some (hdsO o)
section
variable {w w' : World} {m : Nat} {o : Option (HeadL × List UInt8)}
theorem Hds.lt (h : Hds w m o) : m < w.heap.size := by
  rcases Nat.lt_or_ge m w.heap.size with h' | h'
  · exact h'
  · unfold Hds at h
    rw [Array.getElem?_eq_none h'] at h; cases h
theorem Hds.below (h : Hds w m o) (hb : Below w.heap.size w w') : Hds w' m o := (hb.block m h.lt).trans h
theorem getObjH (h : Hds w m o) : (getObj m).run Tryd.prog w = .ok (hdsO o) w := by
  unfold Hds at h
  cases o <;> (unfold hdsO at *; simp [getObj, Sem.run, h])
theorem setObjH (h : Hds w m o) (x : Obj) : (setObj m x).run Tryd.prog w = .ok () { w with heap := w.heap.setIfInBounds m x } := by
  unfold Hds at h
  cases o <;> (unfold hdsO at h; simp [setObj, Sem.run, h])
theorem checkKeyH (b : Bool) (n : Int) : (Instr.checkKey b 10000 3 (.int .i64 n)).run Tryd.prog w = .ok () w := by
  unfold Instr.checkKey
  simp [run_underlying Tryd.underlying3]
theorem findKeyH (n : Int) : (Instr.findKey 3 (.int .i64 n) (match hdsO o with | .map es _ => es.toList | _ => [])).run Tryd.prog w = .ok ((hdsV o n).map fun p => (0, .agg (sigC p.1 p.2))) w := by
  cases o with
  | none =>
    have h1 : hdsV none n = none := by unfold hdsV; split <;> rfl
    rw [h1]
    simp [Instr.findKey, run_underlying Tryd.underlying3, Instr.findNow, hdsO]
  | some p =>
    by_cases hn : n = 0
    · subst hn
      have h1 : hdsV (some p) 0 = some p := by unfold hdsV; rw [if_pos rfl]
      rw [h1]
      simp [Instr.findKey, run_underlying Tryd.underlying3, Instr.findNow, Instr.sameNow, hdsO]
    · have h1 : hdsV (some p) n = none := by unfold hdsV; rw [if_neg hn]
      have h2 : (n == 0) = false := by rw [beq_eq_false_iff_ne]; exact hn
      rw [h1]
      simp [Instr.findKey, run_underlying Tryd.underlying3, Instr.findNow, Instr.sameNow, hdsO, h2]
theorem run_lookupH (n : Int) (c : Bool) (h : Hds w m o) : (Instr.lookup 178 (.map (some m)) (.int .i64 n) c).run Tryd.prog w = .ok (if c then .tuple #[sigV (hdsV o n), .bool (hdsV o n).isSome] else sigV (hdsV o n)) w := by
  have hzv := zero_sig w
  have hg := getObjH h
  have hf := findKeyH (w := w) (o := o) n
  have hk : ∀ b, (Instr.checkKey b 10000 3 (.int .i64 n)).run Tryd.prog w = .ok () w := fun b => checkKeyH b n
  obtain ⟨es, cl, he⟩ : ∃ es cl, hdsO o = .map es cl := by cases o <;> exact ⟨_, _, rfl⟩
  rw [he] at hg hf
  simp only at hf
  cases hv : hdsV o n with
  | none =>
    rw [hv] at hf
    cases c <;> simp [Instr.lookup, run_underlying Tryd.underlying178, hg, hk, hf, hzv, sigV]
  | some p =>
    rw [hv] at hf
    cases c <;> simp [Instr.lookup, run_underlying Tryd.underlying178, hg, hk, hf, sigV]
theorem run_updateH (p : HeadL × List UInt8) (h : Hds w m o) : (Instr.mapUpdate 178 (.map (some m)) (.int .i64 0) (.agg (sigC p.1 p.2))).run Tryd.prog w = .ok () { w with heap := w.heap.setIfInBounds m (hdsO (some p)) } := by
  have hg := getObjH h
  have hf := findKeyH (w := w) (o := o) 0
  have hs := setObjH h
  have hk : ∀ b, (Instr.checkKey b 10000 3 (.int .i64 0)).run Tryd.prog w = .ok () w := fun b => checkKeyH b 0
  cases o with
  | none =>
    have hf : (Instr.findKey 3 (.int .i64 0) []).run Tryd.prog w = .ok none w := hf
    simp [Instr.mapUpdate, run_underlying Tryd.underlying178, hg, hs, hk, hf, hdsO]
  | some q =>
    have hf : (Instr.findKey 3 (.int .i64 0) [{ key := .int .i64 0, val := .agg (sigC q.1 q.2), born := 0 }]).run Tryd.prog w = .ok (some (0, .agg (sigC q.1 q.2))) w := hf
    have hst : (Instr.keyThatStays (.int .i64 0) (.int .i64 0)).run Tryd.prog w = .ok (.int .i64 0) w := by unfold Instr.keyThatStays Instr.sameBits; simp
    simp [Instr.mapUpdate, run_underlying Tryd.underlying178, hg, hs, hk, hf, hdsO, hst]
theorem Hds.put (h : Hds w m o) (p : HeadL × List UInt8) : Hds { w with heap := w.heap.setIfInBounds m (hdsO (some p)) } m (some p) := by
  unfold Hds
  simp [h.lt]
end
section
variable {w : World} {ops : Array Oper} {rest : List Oper} {o : Oper} {a : Act} {Q : Exit → Act → World → Prop}
theorem wpList_lookupH (x y : Operand) (c : Bool) (ho : o.op = .lookup 178 x y c) (m : Nat) (p : Option (HeadL × List UInt8)) (n : Int) (hx : a.eval x = .map (some m)) (hy : a.eval y = .int .i64 n) (h : Hds w m p) (hw : Region.wanted o (yielded ops a.tmps) = true)
    (hk : wpList Tryd.prog ops Q rest (a.put o.dst (if c then .tuple #[sigV (hdsV p n), .bool (hdsV p n).isSome] else sigV (hdsV p n))) w) : wpList Tryd.prog ops Q (o :: rest) a w :=
  wpList_step fun K hK => by
    simp only [hw, if_true]
    unfold Oper.wp execOp
    simp only [ho, hx, hy, Sem.run_bind, run_lookupH n c h, Result.andThen_ok, Sem.run_pure]
    exact hK _ _ hk
theorem wpQuiet_lookupH {C : World → Prop} {K : Act → Prop} (hw : Region.wanted o (yielded ops a.tmps) = true) (x y : Operand) (c : Bool) (ho : o.op = .lookup 178 x y c) (m : Nat) (p : Option (HeadL × List UInt8)) (n : Int) (hx : a.eval x = .map (some m)) (hy : a.eval y = .int .i64 n) (h : ∀ w, C w → Hds w m p)
    (hk : wpQuiet Tryd.prog ops C K rest (a.put o.dst (if c then .tuple #[sigV (hdsV p n), .bool (hdsV p n).isSome] else sigV (hdsV p n)))) : wpQuiet Tryd.prog ops C K (o :: rest) a :=
  wpQuiet_wanted hw _ (fun w hC => by
    unfold Oper.quietAt execOp
    simp only [ho, hx, hy, Sem.run_bind, run_lookupH n c (h w hC), Result.andThen_ok, Sem.run_pure]
    exact ⟨rfl, rfl⟩) hk
theorem wpList_updateH (hgd : o.guard = none) (hdst : o.dst = none) (x y z : Operand) (ho : o.op = .mapUpdate 178 x y z) (m : Nat) (p : Option (HeadL × List UInt8)) (q : HeadL × List UInt8) (hx : a.eval x = .map (some m)) (hy : a.eval y = .int .i64 0) (hz : a.eval z = .agg (sigC q.1 q.2)) (h : Hds w m p)
    (hk : ∀ w', Hds w' m (some q) → w.grownBy w' (some m) → wpList Tryd.prog ops Q rest a w') : wpList Tryd.prog ops Q (o :: rest) a w :=
  wpList_plain hgd fun K hK => by
    have hp := h.put q
    have hg : w.grownBy { w with heap := w.heap.setIfInBounds m (hdsO (some q)) } (some m) := ⟨rfl, rfl, rfl, by simp, fun k hk hne => by
      have : k ≠ m := fun e => hne (by rw [e])
      show (w.heap.setIfInBounds m _)[k]? = _
      rw [Array.getElem?_setIfInBounds, if_neg (fun e => this e.symm)]⟩
    have := hk _ hp hg
    unfold Oper.wp execOp
    simp only [ho, hx, hy, hz, Sem.run_bind, run_updateH q h, Result.andThen_ok, Sem.run_pure]
    exact hK _ _ (by rw [hdst]; exact this)
end
end Go.Proofs.YtcgbokgedfekkaaDoor

/- The walk of law24's seed. No condition. -/
namespace Go.Proofs.YtcgbokgedfekkaaDoor
open Go Go.RowKit
attribute [local irreducible] mixW
attribute [local go_sem] n8_lo n8_hi n64_lo n64_hi n32_lo n32_hi
def seed24 : List UInt8 := [115, 101, 101, 100]
set_option maxRecDepth 100000 in
theorem seed24_any (w : World) : Calls Tryd.prog 44 #[] w fun e w' => ∃ v, e = .returned v ∧ BSl w' w'.heap.size v seed24 ∧ Below w.heap.size w w' := by
  have kc := fun (w : World) (C : Array Value) (n c : Nat) => Lib.run_convert_bytes_const (P := Tryd.prog) w 46 5 C n c Tryd.underlying46 Tryd.underlying5
  have hX : (w.alloc (Obj.cells #[.int .u8 115, .int .u8 101, .int .u8 101, .int .u8 100] 5 (4, 5))).heap[w.heap.size]? = some (.cells (seed24.map v8).toArray 5 (4, 5)) := heap_alloc_new _ _
  have hb1 := below_new1 w (Obj.cells #[.int .u8 115, .int .u8 101, .int .u8 101, .int .u8 100] 5 (4, 5))
  have hK1 := BSl.of_marked hX (w.alloc (Obj.cells #[.int .u8 115, .int .u8 101, .int .u8 101, .int .u8 100] 5 (4, 5))).heap.size (by simp) (by decide)
  go_enter Tryd.func44, Tryd.ntmps44
  go_wp2_with fail
  go_ret
  exact ⟨_, rfl, hK1, hb1⟩
end Go.Proofs.YtcgbokgedfekkaaDoor

/- slices.Clone of numbers; the walk of audit's New at the laws' draws. No condition. -/
namespace Go.Proofs.YtcgbokgedfekkaaDoor
open Go Go.RowKit
attribute [local irreducible] mixW
attribute [local go_sem] n8_lo n8_hi n64_lo n64_hi n32_lo n32_hi
theorem own_emptyW (w : World) (base : Nat) (hb : base ≤ w.heap.size) : (w.alloc (Obj.cells #[] 51)).ownsRow base 51 1 (.slice (some ⟨w.heap.size, 0, none⟩) 0 0) ([] : List Value).length [] :=
  ⟨rfl, .inr ⟨w.heap.size, 0, #[], rfl, hb, heap_alloc_new w _, Nat.le_refl _, by decide, rfl, rfl⟩⟩
set_option maxRecDepth 100000 in
/-- slices.Clone of a list of numbers -/
theorem cloneW_any (A : Addr) (c : Nat) (xs : List UInt32) (w : World) (hr : Reads w w.heap.size (some A) (xs.map v32)) (hl : xs.length ≤ 1000000) :
    Calls Tryd.prog 78 #[.slice (some A) xs.length c] w fun e w' => ∃ v, e = .returned v ∧ w'.ownsRow w.heap.size 51 1 v xs.length (xs.map v32) ∧ Below w.heap.size w w' := by
  obtain ⟨i0, hi, hz0, hz1, hz2⟩ := info_parts (by kernel_rfl : (Tryd.prog.info? 51).map (fun i => (i.zero, i.size, i.bytes)) = some (some (.int .u32 0), 1, 4))
  have hoe := own_emptyW w w.heap.size (Nat.le_refl _)
  have hb1 := below_new1 w (Obj.cells #[] 51)
  have hnil : ∀ w, (binOp .eql 70 (.slice (some A) xs.length c) (.slice none 0 0)).run Tryd.prog w = .ok (.bool false) w := fun w => by rw [Lib.run_eql_slice_nil (P := Tryd.prog) w 70 51 (some A) _ c 0 0 Tryd.underlying70]; rfl
  go_enter Tryd.func78, Tryd.ntmps78
  go_wp2_with (first
    | (at_builtin; refine wpList_appendR rfl (.tmp 5) (.tmp 6) 70 rfl w.heap.size 51 i0 _ 4 Tryd.underlying70 hi hz0 hz1 hz2 rfl _ [] rfl hoe w.heap.size (some A) xs.length c (xs.map v32) rfl (hr.below hb1) (by simp) (fun u hu => by obtain ⟨n, _, rfl⟩ := List.mem_map.1 hu; rfl) (by unfold maxLen; simp; omega) (by simp; omega) hb1.size ?_; intro u1 w1 hown1 hg1 _; rw [List.nil_append, List.length_map] at hown1))
  go_ret
  exact ⟨_, rfl, hown1, below_own hb1 hoe hg1 hb1.size⟩
/-- a Watch of the call's own, from block B on: width 32, the seed, one tree with one draw; which head it has -/
def Wch (w : World) (B g m : Nat) (o : Option (HeadL × List UInt8)) : Prop :=
  ∃ sv dv rv, B ≤ g ∧ Blk w g 180 #[.int .i64 32, sv, dv, .map (some m)] ∧ w.ownsRow B 5 1 sv 4 (seed24.map v8) ∧ w.ownsRow B 70 1 dv 1 [rv] ∧ w.ownsRow B 51 1 rv 1 [v32 5] ∧ B ≤ m ∧ Hds w m o
theorem Wch.below {w w' : World} {B g m : Nat} {o : Option (HeadL × List UInt8)} (h : Wch w B g m o) (hb : Below w.heap.size w w') : Wch w' B g m o := by
  obtain ⟨sv, dv, rv, h1, h2, h3, h4, h5, h6, h7⟩ := h
  exact ⟨sv, dv, rv, h1, h2.below hb h2.lt, own_below h3 hb, own_below h4 hb, own_below h5 hb, h6, h7.below hb⟩
theorem built_Watch (A : Option Addr) (n c m : Nat) (w : World) : (Instr.build 180 #[(0, .int .i64 32), (1, .slice A n c), (3, .map (some m))]).run Tryd.prog w = .ok (.agg #[.int .i64 32, .slice A n c, .slice none 0 0, .map (some m)]) w := by kernel_rfl
set_option maxHeartbeats 4000000 in
set_option maxRecDepth 100000 in
theorem audNew_any (u : Value) (D E : Nat) (w : World) (hu : BSl w w.heap.size u seed24) (hD : Blk w D 70 #[.slice (some ⟨E, 0, none⟩) 1 1]) (hE : Blk w E 51 #[.int .u32 5]) :
    Calls Tryd.prog 43 #[.int .i64 32, u, .slice (some ⟨D, 0, none⟩) 1 1] w fun e w' => ∃ g m, e = .returned (.pointer (some ⟨g, 0, none⟩)) ∧ Wch w' w.heap.size g m none ∧ Below w.heap.size w w' := by
  have hm := clone_any u seed24 w hu (by decide)
  have kM := fun w : World => run_makeMap (P := Tryd.prog) 178 w
  have hBuild := built_Watch
  go_enter Tryd.func43, Tryd.ntmps43
  go_upto_region 2 with (first
    | (refine hm.mono ?_; rintro e w1 ⟨sv, rfl, ho1, hb1⟩; obtain ⟨As, cs, rfl⟩ := own_slice ho1; have hW := hBuild As seed24.length cs w1.heap.size))
  clear kM hBuild hW hm
  have hn2 := below_new1 w1 (Obj.map #[] 0)
  have hn3 := below_new1 (w1.alloc (Obj.map #[] 0)) (Obj.cells #[.int .i64 32, .slice As seed24.length cs, .slice none 0 0, .map (some w1.heap.size)] 180)
  have hM : Hds (w1.alloc (Obj.map #[] 0)) w1.heap.size none := heap_alloc_new w1 _
  have hWb : Blk ((w1.alloc (Obj.map #[] 0)).alloc (Obj.cells #[.int .i64 32, .slice As seed24.length cs, .slice none 0 0, .map (some w1.heap.size)] 180)) (w1.heap.size + 1) 180 #[.int .i64 32, .slice As seed24.length cs, .slice none 0 0, .map (some w1.heap.size)] := by
    have e : w1.heap.size + 1 = (w1.alloc (Obj.map #[] 0)).heap.size := by simp
    rw [e]
    exact Blk.new _ _ _
  have hb3 := hb1.trans ((hn2.trans (hn3.mono hn2.size)).mono hb1.size)
  refine wp_at (fun W => Blk W (w1.heap.size + 1) 180 #[.int .i64 32, .slice As seed24.length cs, .slice none 0 0, .map (some w1.heap.size)] ∧ Hds W w1.heap.size none ∧ W.ownsRow w.heap.size 5 1 (.slice As seed24.length cs) seed24.length (seed24.map v8) ∧ Below w.heap.size w W) ⟨hWb, hM.below hn3, own_below (own_below (by rw [List.length_map] at ho1; exact ho1) hn2) hn3, hb3⟩ ?_
  have hsz := hb1.size
  clear hn2 hn3 hM hWb hb3 ho1 hb1
  generalize w1.heap.size = m at hsz ⊢
  rintro W2 h2
  have H2 := Lib.hid h2
  have hD2 := hD.below h2.2.2.2 hD.lt
  have hE2 := hE.below h2.2.2.2 hE.lt
  have dc := hD2.cell 0
  have HDE := Lib.hid (And.intro hD2 hE2)
  clear h2 hD2 hE2 hD hE hu
  have dc' : W2.cell? ⟨D, 0, none⟩ = some (.slice (some ⟨E, 0, none⟩) 1 1) := dc
  clear dc
  go_wp2_with fail
  refine wp_loop_rounds 2 ?_
  rw [rounds_succ]
  go_upto_region 5 with fail
  clear dc'
  obtain ⟨i1, hi1, hy0, hy1, hy2⟩ := info_parts (by kernel_rfl : (Tryd.prog.info? 70).map (fun i => (i.zero, i.size, i.bytes)) = some (some (.slice none 0 0), 1, 24))
  refine wp_region_mixT 11 (.plain 0 <| .plain 1 <| .plain 2 <| .plain 3 <| .plain 4 <| .plain 5 <| .only 6 <| .only 7 <| .only 8 <| .plain 9 <| .plain 10 <| .done) (by kernel_rfl) (by kernel_rfl) (fun W3 hb3 => ?_)
  have H3 := Lib.hid (And.intro (H2.out.1.below hb3 H2.out.1.lt) (And.intro (H2.out.2.1.below hb3) (And.intro (own_below H2.out.2.2.1 hb3) (And.intro (H2.out.2.2.2.trans (hb3.mono H2.out.2.2.2.size)) (HDE.out.2.below hb3 HDE.out.2.lt)))))
  have d2 : ∀ z, (plus W3 z).cell? ⟨m + 1, 2, none⟩ = some (.slice none 0 0) := fun z => (H3.out.1.plus z).cell 2
  clear hb3 H2 HDE
  iterate 6 (refine mix_plain rfl ?_; (first
    | (refine wpQuiet_nilCheck rfl (.tmp 23) rfl _ rfl ?_; simp only [Act.put, List.setIfInBounds_toArray, List.set_cons_zero, List.set_cons_succ])
    | go_big_quiet_step (fail)); refine wpQuiet_nil ?_)
  clear d2
  refine mix_only_in rfl (fun K hK => ?_)
  go_wp2_with fail
  refine (cloneW_any ⟨E, 0, none⟩ 1 [5] W3 (Reads.of_blk H3.out.2.2.2.2 H3.out.2.2.2.2.lt 0) (by decide)).mono ?_
  rintro e W4 ⟨rv, rfl, hrv, hb4⟩
  obtain ⟨Ar, cr, rfl⟩ := own_slice hrv
  go_wp2_with fail
  refine hK _ _ (below_plus hb4) ?_
  clear hK K
  refine mix_only_in rfl (fun K hK => ?_)
  have hn5 := below_new1 W4 (Obj.cells #[.slice Ar 1 cr] 70)
  go_wp2_with fail
  refine hK _ _ (below_plus (hb4.trans (hn5.mono hb4.size))) ?_
  clear hK K
  refine mix_only_in rfl (fun K hK => ?_)
  have hb5 := hb4.trans (hn5.mono hb4.size)
  have hrd : Reads (W4.alloc (Obj.cells #[.slice Ar 1 cr] 70)) (W4.heap.size + 1) (some ⟨W4.heap.size, 0, none⟩) [.slice Ar 1 cr] := Reads.of_blk (Blk.new W4 70 #[.slice Ar 1 cr]) (by omega) 0
  refine wpList_appendR rfl (.tmp 26) (.tmp 29) 94 rfl W3.heap.size 70 i1 _ 24 Tryd.underlying94 hi1 hy0 hy1 hy2 rfl (.slice none 0 0) [] rfl (World.ownsRow_nil _ _ _ _) _ _ 1 1 [.slice Ar 1 cr] rfl hrd rfl (fun u hu => by rw [List.mem_singleton] at hu; subst hu; rfl) (by decide) (by decide) hb5.size ?_
  intro dv W6 hdv hg6 _
  rw [List.nil_append] at hdv
  obtain ⟨Ad, cd, rfl⟩ := own_slice hdv
  have hb6 : Below W3.heap.size W3 W6 := below_own hb5 (World.ownsRow_nil _ W3.heap.size 70 1) hg6 hb5.size
  have H6 := Lib.hid (And.intro hdv (own_grown (own_below hrv hn5) hg6 (fun g _ e => by cases e)))
  clear hdv hg6 hrd hn5 hb5 hb4 hrv
  simp only [Act.put, List.setIfInBounds_toArray, List.set_cons_zero, List.set_cons_succ]
  refine hK _ _ (below_plus hb6) ?_
  clear hK K
  iterate 2 (refine mix_plain rfl ?_; (first
    | (refine wpQuiet_nilCheck rfl (.tmp 22) rfl _ rfl ?_; simp only [Act.put, List.setIfInBounds_toArray, List.set_cons_zero, List.set_cons_succ])
    | go_big_quiet_step (fail)); refine wpQuiet_nil ?_)
  refine mix_done ?_
  simp only [List.drop_succ_cons, List.drop_zero]
  have hW6 := H3.out.1.below hb6 H3.out.1.lt
  go_wp2_with (first
    | (refine wpList_store1 rfl rfl _ (.tmp 32) (.tmp 30) rfl (m + 1) 2 rfl (.slice Ad _ cd) rfl _ _ hW6 (by kernel_rfl) (by show 2 < 4; decide) rfl rfl ?_; intro W7 hW7 hg7))
  rw [rounds_succ]
  go_wp2_with fail
  go_ret
  have hlo := H3.out.2.2.2.1.size
  refine ⟨m + 1, m, rfl, ⟨_, _, _, by omega, hW7, own_typed (own_below H3.out.2.2.1 hb6) hg7 hW6 (by decide), own_typed (own_baseR H6.out.1 hlo) hg7 hW6 (by decide), own_typed (own_baseR H6.out.2 hlo) hg7 hW6 (by decide), hsz, ?_⟩, below_only (H3.out.2.2.2.1.trans (hb6.mono hlo)) hg7 (by omega) (Nat.le_trans hlo hb6.size)⟩
  exact (hg7.block m (H3.out.2.1.below hb6).lt (fun e => by injection e with e; omega)).trans (H3.out.2.1.below hb6)
end Go.Proofs.YtcgbokgedfekkaaDoor
