/- Texts that stand behind one another: BookI. No condition. -/
import Derived.Test.YtfggbfnnibpohaaDoorQ14
import Derived.Test.YtfggbfnnibpohaaDoorQ6
import Derived.Test.YtfggbfnnibpohaaDoorQ15
import Derived.Test.YtfggbfnnibpohaaDoorQ10
/- The walks of deponentbook's Book: Keep, Stays. No condition. -/
namespace Go.Proofs.YtfggbfnnibpohaaDoor
open Go Go.RowKit
attribute [local irreducible] mixW
attribute [local go_sem] n8_lo n8_hi
/-- what a list that is kept may be -/
def GoodI (ds : List (Int)) : Prop := ds.length ≤ 1000000000000
/-- lists that are kept, beside what they were -/
def EntsI (w : World) (B C : Nat) (vs us : List Value) (dss : List (List (Int))) : Prop :=
  us.length = vs.length ∧ dss.length = vs.length ∧
  (∀ (i : Nat) v u ds, vs[i]? = some v → us[i]? = some u → dss[i]? = some ds → w.ownsRow B 3 1 v ds.length (ds.map nI) ∧ (∀ g, v.ownBlock = some g → g < C) ∧ w.ownsRow B 3 1 u ds.length (ds.map nI) ∧ GoodI ds) ∧
  (∀ (i j : Nat) v v', i < j → vs[i]? = some v → vs[j]? = some v' → Apart v v')
/-- a book in a block -/
def BkI (w : World) (B C N bk : Nat) (L W : Value) (h : Int) (vs us : List Value) (dss : List (List (Int))) : Prop :=
  Blk w bk 98 #[L, W, .int .i64 h, .bool false] ∧ B ≤ bk ∧ vs.length ≤ N ∧ Sli w B 89 L vs ∧ Sli w B 89 W us ∧ Apart L W ∧ EntsI w B C vs us dss
def BookAtI (w : World) (B C N bk : Nat) : Prop := ∃ L W h vs us dss, BkI w B C N bk L W h vs us dss
section
variable {w w' : World} {B C N bk : Nat} {L W : Value} {h : Int} {vs us : List Value} {dss : List (List (Int))}
theorem ty_ne1I : (3 : TypeId) ≠ 98 := by decide
theorem ty_ne2I : (3 : TypeId) ≠ 89 := by decide
theorem ty_ne3I : (98 : TypeId) ≠ 89 := by decide
theorem EntsI.ty (hE : EntsI w B C vs us dss) (ht : Ty2 98 89 w w') : EntsI w' B C vs us dss :=
  ⟨hE.1, hE.2.1, fun i v u ds h1 h2 h3 => by
    obtain ⟨a, b, c, d⟩ := hE.2.2.1 i v u ds h1 h2 h3
    exact ⟨ht.own a ty_ne1I ty_ne2I, b, ht.own c ty_ne1I ty_ne2I, d⟩, hE.2.2.2⟩
theorem EntsI.more {C' : Nat} (hE : EntsI w B C vs us dss) (hC : C ≤ C') : EntsI w B C' vs us dss :=
  ⟨hE.1, hE.2.1, fun i v u ds h1 h2 h3 => by
    obtain ⟨a, b, c, d⟩ := hE.2.2.1 i v u ds h1 h2 h3
    exact ⟨a, fun g hg => Nat.lt_of_lt_of_le (b g hg) hC, c, d⟩, hE.2.2.2⟩
theorem EntsI.tail {v u : Value} {ds : List (Int)} {r s : List Value} {q : List (List (Int))} (hE : EntsI w B C (v :: r) (u :: s) (ds :: q)) : EntsI w B C r s q := by
  refine ⟨by have := hE.1; simpa using this, by have := hE.2.1; simpa using this, fun i v u ds h1 h2 h3 => hE.2.2.1 (i + 1) v u ds (by simpa using h1) (by simpa using h2) (by simpa using h3), fun i j v v' hij h1 h2 => hE.2.2.2 (i + 1) (j + 1) v v' (by omega) (by simpa using h1) (by simpa using h2)⟩
theorem EntsI.snoc {C' : Nat} {v u : Value} {ds : List (Int)} (hE : EntsI w B C vs us dss) (hv : w.ownsRow C 3 1 v ds.length (ds.map nI)) (hu : w.ownsRow B 3 1 u ds.length (ds.map nI)) (hg : GoodI ds) (hB : B ≤ C) (hC : C ≤ C') (hvC : ∀ g, v.ownBlock = some g → g < C') : EntsI w B C' (vs ++ [v]) (us ++ [u]) (dss ++ [ds]) := by
  have e1 := hE.1
  have e2 := hE.2.1
  refine ⟨by simp [e1], by simp [e2], fun i v' u' ds' h1 h2 h3 => ?_, fun i j v1 v2 hij h1 h2 => ?_⟩
  · rcases Nat.lt_or_ge i vs.length with h | h
    · rw [List.getElem?_append_left h] at h1
      rw [List.getElem?_append_left (by omega)] at h2
      rw [List.getElem?_append_left (by omega)] at h3
      obtain ⟨a, b, c, d⟩ := hE.2.2.1 i v' u' ds' h1 h2 h3
      exact ⟨a, fun g hg => Nat.lt_of_lt_of_le (b g hg) hC, c, d⟩
    · have hi : i = vs.length := by
        have := (List.getElem?_eq_some_iff.1 h1).1
        simp at this; omega
      subst hi
      rw [List.getElem?_append_right (Nat.le_refl _), Nat.sub_self] at h1
      rw [List.getElem?_append_right (by omega), e1, Nat.sub_self] at h2
      rw [List.getElem?_append_right (by omega), e2, Nat.sub_self] at h3
      simp at h1 h2 h3
      subst h1; subst h2; subst h3
      exact ⟨own_baseP hv hB, hvC, hu, hg⟩
  · rcases Nat.lt_or_ge j vs.length with h | h
    · rw [List.getElem?_append_left (by omega)] at h1
      rw [List.getElem?_append_left h] at h2
      exact hE.2.2.2 i j v1 v2 hij h1 h2
    · have hj : j = vs.length := by
        have := (List.getElem?_eq_some_iff.1 h2).1
        simp at this; omega
      subst hj
      rw [List.getElem?_append_left hij] at h1
      rw [List.getElem?_append_right (Nat.le_refl _), Nat.sub_self] at h2
      simp at h2
      subst h2
      intro g hg hg2
      have a := hE.2.2.1 i v1 _ _ h1 (List.getElem?_eq_getElem (by omega)) (List.getElem?_eq_getElem (by omega))
      have := a.2.1 g hg
      have := own_ge hv g hg2
      omega
theorem BkI.below (hb : BkI w B C N bk L W h vs us dss) (hx : Below w.heap.size w w') : BkI w' B C N bk L W h vs us dss :=
  ⟨hb.1.below hx hb.1.lt, hb.2.1, hb.2.2.1, hb.2.2.2.1.below hx, hb.2.2.2.2.1.below hx, hb.2.2.2.2.2.1, hb.2.2.2.2.2.2.ty (Ty2.of_below hx)⟩
theorem BookAtI.below (hb : BookAtI w B C N bk) (hx : Below w.heap.size w w') : BookAtI w' B C N bk := by
  obtain ⟨L, W, h, vs, us, dss, hk⟩ := hb
  exact ⟨L, W, h, vs, us, dss, hk.below hx⟩
theorem BookAtI.more {C' : Nat} (hb : BookAtI w B C N bk) (hC : C ≤ C') : BookAtI w B C' N bk := by
  obtain ⟨L, W, h, vs, us, dss, h1, h2, h3, h4, h5, h6, h7⟩ := hb
  exact ⟨L, W, h, vs, us, dss, h1, h2, h3, h4, h5, h6, h7.more hC⟩
/-- a new book -/
theorem BookAtI.new (w : World) (C : Nat) : BookAtI (w.alloc (.cells #[.slice none 0 0, .slice none 0 0, .int .i64 0, .bool false] 98)) w.heap.size C 0 w.heap.size :=
  ⟨.slice none 0 0, .slice none 0 0, 0, [], [], [], Blk.new w _ _, Nat.le_refl _, Nat.le_refl _, Sli.nil_, Sli.nil_, fun g h => (by cases h), rfl, rfl, fun i v u ds h => (by simp at h), fun i j v v' _ h => (by simp at h)⟩
theorem sli_put {g : Nat} {t t' : TypeId} {cs : Array Value} {v : Value} {ws : List Value} (hS : Sli w B t v ws) (hb : Blk w g t' cs) (ht : t' ≠ t) (hg : w.grownBy w' (some g)) : Sli w' B t v ws :=
  hS.keep fun q hq => by
    obtain ⟨cs', hc⟩ := hS.type q hq
    exact hg.block q (hS.lt q hq).2 (fun e => by injection e with e; exact blk_ne hb hc ht e.symm)
end
/-- a book, as Keep's loop holds it -/
def BkSI (w0 w : World) (B C N bk n : Nat) : Prop := ∃ L W h vs us dss, BkI w B C N bk L W h vs us dss ∧ 0 < vs.length ∧ vs.length ≤ n ∧ Below B w0 w ∧ Ty2 98 89 w0 w
/-- what a call of Keep holds -/
def StI (w0 w : World) (B C bk : Nat) (L W : Value) (h : Int) (lv lu vs us : List Value) (dss : List (List (Int))) (v : Value) (ds : List (Int)) : Prop :=
  Blk w bk 98 #[L, W, .int .i64 h, .bool false] ∧ Sli w B 89 L lv ∧ Sli w B 89 W lu ∧ Apart L W ∧ EntsI w B C vs us dss ∧ w.ownsRow C 3 1 v ds.length (ds.map nI) ∧ Below B w0 w ∧ Ty2 98 89 w0 w
theorem StI.below {w0 w w' : World} {B C bk : Nat} {L W v : Value} {h : Int} {lv lu vs us : List Value} {dss : List (List (Int))} {ds : List (Int)} (s : StI w0 w B C bk L W h lv lu vs us dss v ds) (hB : B ≤ w0.heap.size) (hx : Below w.heap.size w w') : StI w0 w' B C bk L W h lv lu vs us dss v ds :=
  have hs := Nat.le_trans hB s.2.2.2.2.2.2.1.size
  ⟨s.1.below hx s.1.lt, s.2.1.below hx, s.2.2.1.below hx, s.2.2.2.1, s.2.2.2.2.1.ty (Ty2.of_below hx), own_below s.2.2.2.2.2.1 hx, s.2.2.2.2.2.2.1.trans (hx.mono hs), s.2.2.2.2.2.2.2.trans (Ty2.of_below hx)⟩
/-- the book's own cells are written -/
theorem StI.put {w0 w w' : World} {B C bk : Nat} {L W L' W' v : Value} {h h' : Int} {lv lu vs us : List Value} {dss : List (List (Int))} {ds : List (Int)} (s : StI w0 w B C bk L W h lv lu vs us dss v ds) (hB : B ≤ w0.heap.size) (hBb : B ≤ bk) (hg : w.grownBy w' (some bk)) (hb : Blk w' bk 98 #[L', W', .int .i64 h', .bool false]) :
    Blk w' bk 98 #[L', W', .int .i64 h', .bool false] ∧ Sli w' B 89 L lv ∧ Sli w' B 89 W lu ∧ Apart L W ∧ EntsI w' B C vs us dss ∧ w'.ownsRow C 3 1 v ds.length (ds.map nI) ∧ Below B w0 w' ∧ Ty2 98 89 w0 w' :=
  have hs := Nat.le_trans hB s.2.2.2.2.2.2.1.size
  have ht := (Ty2.of_only hg s.1 (.inl rfl) : Ty2 98 89 w w')
  ⟨hb, sli_put s.2.1 s.1 ty_ne3I hg, sli_put s.2.2.1 s.1 ty_ne3I hg, s.2.2.2.1, s.2.2.2.2.1.ty ht, ht.own s.2.2.2.2.2.1 ty_ne1I ty_ne2I, below_only s.2.2.2.2.2.2.1 hg hBb hs, s.2.2.2.2.2.2.2.trans ht⟩
theorem wpQuiet_nilP {P : Program} {ops : Array Oper} {C : World → Prop} {K : Act → Prop} {a : Act} {o : Oper} {rest : List Oper} (hw : Region.wanted o (yielded ops a.tmps) = true) (x : Operand) (ho : o.op = .nilCheck x) (p : Addr) (hx : a.eval x = .pointer (some p)) (hk : wpQuiet P ops C K rest (a.put o.dst (.pointer (some p)))) : wpQuiet P ops C K (o :: rest) a := wpQuiet_nilCheck hw x ho p hx hk
set_option maxHeartbeats 2000000 in
set_option maxRecDepth 100000 in
theorem keepI_any (w : World) (B C C' N bk : Nat) (hB : B ≤ w.heap.size) (hN : N ≤ 1000000) (v : Value) (ds : List (Int)) (hK : BookAtI w B C N bk) (hv : w.ownsRow C 3 1 v ds.length (ds.map nI)) (hg : GoodI ds) (hBC : B ≤ C) (hCC : C ≤ C') (hvC : ∀ g, v.ownBlock = some g → g < C') :
    Calls Tryd.prog 43 #[.pointer (some ⟨bk, 0, none⟩), v] w fun e w' => e = .returned (.tuple #[]) ∧ BookAtI w' B C' (N + 1) bk ∧ Below B w w' ∧ Ty2 98 89 w w' := by
  obtain ⟨i1, hi1, hy0, hy1, hy2⟩ := info_parts (by kernel_rfl : (Tryd.prog.info? 89).map (fun i => (i.zero, i.size, i.bytes)) = some (some (.slice none 0 0), 1, 24))
  obtain ⟨i0, hi, hz0, hz1, hz2⟩ := info_parts (by kernel_rfl : (Tryd.prog.info? 3).map (fun i => (i.zero, i.size, i.bytes)) = some (some (.int .i64 0), 1, 8))
  have hgood := Lib.hid hg
  clear hg
  obtain ⟨L, W, h0, vs, us, dss, hbk, hBb, hvN, hL, hW, hA, hE⟩ := hK
  obtain ⟨A0, c0, rfl⟩ := own_slice hv
  obtain ⟨AL, cL, eL, hL1, hL2⟩ := hL.form
  subst eL
  obtain ⟨AW, cW, eW, hW1, hW2⟩ := hW.form
  subst eW
  clear hW1 hW2
  have hF := Lib.hid (And.intro hBC (And.intro hCC hvC))
  clear hBC hCC hvC
  have hn1 := below_new1 w (Obj.cells #[.slice A0 ds.length c0] 89)
  have hc0 : (w.alloc (Obj.cells #[.slice A0 ds.length c0] 89)).cell? ⟨w.heap.size, 0, none⟩ = some (.slice A0 ds.length c0) := (Blk.new w 89 #[.slice A0 ds.length c0]).cell 0
  have hbk1 := hbk.below hn1 hbk.lt
  have hk0 : (w.alloc (Obj.cells #[.slice A0 ds.length c0] 89)).cell? ⟨bk, 0, none⟩ = some (.slice AL vs.length cL) := hbk1.cell 0
  have hk0' : w.cell? ⟨bk, 0, none⟩ = some (.slice AL vs.length cL) := hbk.cell 0
  have hL' := hL.below hn1
  have hBn : B ≤ (w.alloc (Obj.cells #[.slice A0 ds.length c0] 89)).heap.size := Nat.le_trans hB hn1.size
  go_enter Tryd.func43, Tryd.ntmps43
  go_upto_region 1 with (first
    | (at_builtin; refine wpList_appendSli _ rfl (.tmp 8) (.tmp 10) 96 rfl B 89 i1 _ 24 Tryd.underlying96 hi1 hy0 hy1 hy2 rfl (.slice AL vs.length cL) vs rfl hL' ⟨w.heap.size, 0, none⟩ 1 _ rfl hc0 rfl (by omega) (by omega) hBn ?_; intro L1 w1 hL1 hg1 ho1; obtain ⟨A1, c1, e1, h11, h12⟩ := hL1.form1; subst e1; have hbk2 := hbk1.grown hg1 (hL'.ne hbk1 ty_ne3I))
    | (refine wpList_store1 rfl rfl _ (.tmp 13) (.tmp 11) rfl bk 0 rfl _ rfl 98 _ hbk2 (by kernel_rfl) (show 0 < 4 by decide) rfl rfl ?_; intro w2 hbk3 hg2))
  obtain ⟨hW1, hA1⟩ := (hW.below hn1).apart hg1 hA ho1
  have hty1 : Ty2 98 89 w w1 := (Ty2.of_below hn1).trans (Ty2.sli_only hL' hg1 (.inr rfl))
  have hty2 : Ty2 98 89 w1 w2 := Ty2.of_only hg2 hbk2 (.inl rfl)
  have hb1 : Below B w w1 := (hn1.mono hB).grown hg1 hBn (fun g hq => (hL'.lt g hq).1)
  have hb2 : Below B w w2 := below_only hb1 hg2 hBb (Nat.le_trans hB hb1.size)
  have hL2' := sli_put hL1 hbk2 ty_ne3I hg2
  have hW2 := sli_put hW1 hbk2 ty_ne3I hg2
  have hty := hty1.trans hty2
  have hv2 := hty.own hv ty_ne1I ty_ne2I
  have hE2 := hE.ty hty
  have hbk3 : Blk w2 bk 98 #[.slice A1 (vs.length + 1) c1, .slice AW us.length cW, .int .i64 h0, .bool false] := hbk3
  clear hbk hbk1 hbk2 hc0 hk0 hk0' hL hL' hn1 hBn hL1 hg1 ho1 hg2 hW hA hW1 hty1 hty2 hb1 hE hv
  have H2 : Hid (StI w w2 B C bk (.slice A1 (vs.length + 1) c1) (.slice AW us.length cW) h0 (vs ++ [Value.slice A0 ds.length c0]) us vs us dss (.slice A0 ds.length c0) ds) := Lib.hid ⟨hbk3, hL2', hW2, hA1, hE2, hv2, hb2, hty⟩
  clear hL2' hW2 hA1 hE2 hv2 hb2 hty hbk3
  refine wp_region_mixS 11 (.plain 0 <| .plain 1 <| .plain 2 <| .plain 3 <| .plain 4 <| .plain 5 <| .only 6 <| .only 7 <| .only 8 <| .plain 9 <| .plain 10 <| .done) (fun V => Blk V bk 98 #[.slice A1 (vs.length + 1) c1, .slice AW us.length cW, .int .i64 h0, .bool false]) (by kernel_rfl) (by kernel_rfl) (H2.out.1.drewN 1) ?_
  refine mix_atC (fun V => StI w V B C bk (.slice A1 (vs.length + 1) c1) (.slice AW us.length cW) h0 (vs ++ [Value.slice A0 ds.length c0]) us vs us dss (.slice A0 ds.length c0) ds) (H2.out.below hB (below_drewN (Below.refl _ w2) 1)) ?_
  clear H2
  rintro V hV
  have HV := Lib.hid hV
  clear hV
  have hsV := Nat.le_trans hB HV.out.2.2.2.2.2.2.1.size
  iterate 6 (refine mix_plain rfl ?_; (first
    | (refine wpQuiet_nilCheck rfl (.tmp 15) rfl _ rfl ?_; simp only [Act.put, List.setIfInBounds_toArray, List.set_cons_zero, List.set_cons_succ])
    | (refine wpQuiet_load1 rfl _ (.tmp 17) rfl _ rfl _ Tryd.underlying96 rfl (.slice AW us.length cW) (fun _ hW => hW.cell 1) ?_; simp only [Act.put, List.setIfInBounds_toArray, List.set_cons_zero, List.set_cons_succ])
    | go_big_quiet_step ((intro _; rfl))); refine wpQuiet_nil ?_)

  refine mix_only_in rfl (fun K hK => ?_)
  refine wpList_appendR rfl (.const (.slice none 0 0)) (.tmp 19) 89 rfl V.heap.size 3 i0 _ 8 Tryd.underlying89 hi hz0 hz1 hz2 rfl _ [] rfl (World.ownsRow_nil _ _ _ _) V.heap.size A0 ds.length c0 (ds.map nI) rfl (Reads.of_own HV.out.2.2.2.2.2.1) (by simp) (nI_one _) (by have : ds.length ≤ 1000000000000 := hgood.out; unfold maxLen; simp; omega) (by have : ds.length ≤ 1000000000000 := hgood.out; simp; omega) (Nat.le_refl _) ?_
  intro u V1 hu hgu _
  have hbu := below_own (Below.refl V.heap.size V) (World.ownsRow_nil V V.heap.size 3 1) hgu (Nat.le_refl _)
  rw [List.nil_append, List.length_map] at hu
  obtain ⟨Au, cu, rfl⟩ := own_slice hu
  have HV1 := Lib.hid (HV.out.below hB hbu)
  have hu1 := Lib.hid (own_baseP hu hsV)
  have hbk1 := HV1.out.1
  clear hu hgu
  simp only [Act.put, List.setIfInBounds_toArray, List.set_cons_zero, List.set_cons_succ]
  refine hK _ _ hbk1 ?_
  clear hK K hbk1
  refine mix_only_in rfl (fun K hK => ?_)
  have hn2 := below_new1 V1 (Obj.cells #[.slice Au ds.length cu] 89)
  have HV2 := Lib.hid (HV1.out.below hB hn2)
  have hu2 := Lib.hid (own_below hu1.out hn2)
  have hbk2 := HV2.out.1
  have hcu : (V1.alloc (Obj.cells #[.slice Au ds.length cu] 89)).cell? ⟨V1.heap.size, 0, none⟩ = some (.slice Au ds.length cu) := (Blk.new V1 89 #[.slice Au ds.length cu]).cell 0
  have hsV2 := Nat.le_trans hB HV2.out.2.2.2.2.2.2.1.size
  have hul := HV2.out.2.2.2.2.1.1
  clear hn2 hbu HV HV1 hu1
  go_wp2_with fail
  refine hK _ _ hbk2 ?_
  clear hK K
  refine mix_only_in rfl (fun K hK => ?_)
  refine wpList_appendSli _ rfl (.tmp 18) (.tmp 21) 96 rfl B 89 i1 _ 24 Tryd.underlying96 hi1 hy0 hy1 hy2 rfl (.slice AW us.length cW) us rfl HV2.out.2.2.1 ⟨V1.heap.size, 0, none⟩ 1 _ rfl hcu rfl (by omega) (by omega) hsV2 ?_
  intro W3 V3 hW3 hg3 ho3
  obtain ⟨A3, c3, e3, h31, h32⟩ := hW3.form1
  subst e3
  have hbk3 := hbk2.grown hg3 (HV2.out.2.2.1.ne hbk2 ty_ne3I)
  obtain ⟨hL3, hA3⟩ := HV2.out.2.1.apart hg3 HV2.out.2.2.2.1.symm ho3
  have ht3 := (Ty2.sli_only HV2.out.2.2.1 hg3 (.inr rfl) : Ty2 98 89 _ V3)
  have hb3 : Below B w V3 := HV2.out.2.2.2.2.2.2.1.grown hg3 hsV2 (fun g hq => (HV2.out.2.2.1.lt g hq).1)
  have hu3 := Lib.hid (ht3.own hu2.out ty_ne1I ty_ne2I)
  have HV3 : Hid (StI w V3 B C bk (.slice A1 (vs.length + 1) c1) (.slice AW us.length cW) h0 (vs ++ [Value.slice A0 ds.length c0]) us vs us dss (.slice A0 ds.length c0) ds ∨ True) := Lib.hid (.inr trivial)
  have HE3 := Lib.hid (And.intro hL3 (And.intro hW3 (And.intro hA3.symm (And.intro (HV2.out.2.2.2.2.1.ty ht3) (And.intro (ht3.own HV2.out.2.2.2.2.2.1 ty_ne1I ty_ne2I) (And.intro hb3 (HV2.out.2.2.2.2.2.2.2.trans ht3)))))))
  clear HV3 hL3 hW3 hA3 hb3 hg3 ho3 ht3 HV2 hbk2 hcu hu2
  simp only [Act.put, List.setIfInBounds_toArray, List.set_cons_zero, List.set_cons_succ]
  refine hK _ _ hbk3 ?_
  clear hK K
  iterate 2 (refine mix_plain rfl ?_; (first
    | (refine wpQuiet_nilCheck rfl (.tmp 14) rfl _ rfl ?_; simp only [Act.put, List.setIfInBounds_toArray, List.set_cons_zero, List.set_cons_succ])
    | go_big_quiet_step ((intro _; rfl))); refine wpQuiet_nil ?_)

  refine mix_done ?_
  simp only [List.drop_succ_cons, List.drop_zero]
  have hk2 : V3.cell? ⟨bk, 2, none⟩ = some (.int .i64 h0) := hbk3.cell 2
  go_upto_region 2 with (first
    | (refine wpList_store1 rfl rfl _ (.tmp 24) (.tmp 22) rfl bk 1 rfl _ rfl 98 _ hbk3 (by kernel_rfl) (show 1 < 4 by decide) rfl rfl ?_; intro V4 hbk4 hg4))
  clear hk2
  have hbk4 : Blk V4 bk 98 #[.slice A1 (vs.length + 1) c1, .slice A3 (us.length + 1) c3, .int .i64 h0, .bool false] := hbk4
  have hty4 : Ty2 98 89 V3 V4 := Ty2.of_only hg4 hbk3 (.inl rfl)
  have hB3 := Nat.le_trans hB HE3.out.2.2.2.2.2.1.size
  have HE4 := Lib.hid (And.intro (sli_put HE3.out.1 hbk3 ty_ne3I hg4) (And.intro (sli_put HE3.out.2.1 hbk3 ty_ne3I hg4) (And.intro HE3.out.2.2.1 (And.intro ((HE3.out.2.2.2.1.ty hty4).snoc (hty4.own HE3.out.2.2.2.2.1 ty_ne1I ty_ne2I) (hty4.own hu3.out ty_ne1I ty_ne2I) hgood.out hF.out.1 hF.out.2.1 hF.out.2.2) (And.intro (below_only HE3.out.2.2.2.2.2.1 hg4 hBb hB3) (HE3.out.2.2.2.2.2.2.trans hty4))))))
  clear HE3 hu3 hbk3 hg4 hty4 hB3 hsV hsV2
  have hk2 : V4.cell? ⟨bk, 2, none⟩ = some (.int .i64 h0) := hbk4.cell 2
  obtain ⟨lv, hlv⟩ : ∃ lv, vs ++ [Value.slice A0 ds.length c0] = lv := ⟨_, rfl⟩
  obtain ⟨lu, hlu⟩ : ∃ lu, us ++ [Value.slice Au ds.length cu] = lu := ⟨_, rfl⟩
  obtain ⟨ld, hld⟩ : ∃ ld, dss ++ [ds] = ld := ⟨_, rfl⟩
  rw [hlv, hlu, hld] at HE4
  have hl1 : vs.length + 1 = lv.length := by rw [← hlv, List.length_append]; rfl
  have hl2 : us.length + 1 = lu.length := by rw [← hlu, List.length_append]; rfl
  rw [hl1, hl2] at HE4 hbk4
  have hl3 : lv.length ≤ N + 1 := by omega
  have hl4 : 0 < lv.length := by omega
  clear hlv hlu hld
  go_wp2_with (first
    | (refine wpList_store1 rfl rfl _ (.tmp 35) (.tmp 33) rfl bk 2 rfl _ rfl 98 _ hbk4 (by kernel_rfl) (show 2 < 4 by decide) rfl rfl ?_; intro V5 hbk5 hg5))
  have hty5 : Ty2 98 89 V4 V5 := Ty2.of_only hg5 hbk4 (.inl rfl)
  have H5 : Hid (BkSI w V5 B C' (N + 1) bk lv.length) := Lib.hid ⟨_, _, _, lv, lu, ld, ⟨hbk5, hBb, hl3, sli_put HE4.out.1 hbk4 ty_ne3I hg5, sli_put HE4.out.2.1 hbk4 ty_ne3I hg5, HE4.out.2.2.1, HE4.out.2.2.2.1.ty hty5⟩, hl4, Nat.le_refl _, below_only HE4.out.2.2.2.2.1 hg5 hBb (Nat.le_trans hB HE4.out.2.2.2.2.1.size), HE4.out.2.2.2.2.2.trans hty5⟩
  clear hk2 HE4 hbk4 hbk5 hg5 hty5 hul h31 h32 hl1 hl2
  go_loopg [] lv.length (fun gk wr => BkSI w wr B C' (N + 1) bk gk)
  case atStart => exact H5.out
  case round =>
    clear H5
    obtain ⟨L, W, h, ws, xs, dq, hk, hp, hle, hbw, htw⟩ := hrel
    obtain ⟨AL2, cL2, eL2, q1, q2⟩ := hk.2.2.2.1.form
    subst eL2
    obtain ⟨AW2, cW2, eW2, q3, q4⟩ := hk.2.2.2.2.1.form
    subst eW2
    have hk0 : wr.cell? ⟨bk, 0, none⟩ = some (.slice AL2 ws.length cL2) := hk.1.cell 0
    have hk2 : wr.cell? ⟨bk, 2, none⟩ = some (.int .i64 h) := hk.1.cell 2
    by_cases c1 : ws.length = 1
    · have Hc := Lib.hid (And.intro hk (And.intro hbw htw))
      clear hk hbw htw
      have e1 : ((ws.length : Int) > 1) = False := by simp; omega
      rw [c1] at hk0
      clear c1
      go_wp2_with fail
      exact bodyPost_end (results_none rfl _ _ _) rfl ⟨rfl, ⟨_, _, _, _, _, _, Hc.out.1⟩, Hc.out.2.1, Hc.out.2.2⟩
    obtain ⟨x, y, r, rfl⟩ : ∃ x y r, ws = x :: y :: r := by
      match ws, hp, c1 with
      | [_], _, c1 => exact (c1 rfl).elim
      | x :: y :: r, _, _ => exact ⟨x, y, r, rfl⟩
    obtain ⟨ux, uy, ru, rfl⟩ : ∃ x y r, xs = x :: y :: r := by
      have := hk.2.2.2.2.2.2.1
      match xs, this with
      | x :: y :: r, _ => exact ⟨x, y, r, rfl⟩
    obtain ⟨dx, dr, rfl⟩ : ∃ x r, dq = x :: r := by
      have := hk.2.2.2.2.2.2.2.1
      match dq, this with
      | x :: r, _ => exact ⟨x, r, rfl⟩
    have hlu2 : (ux :: uy :: ru).length = (x :: y :: r).length := hk.2.2.2.2.2.2.1
    rw [hlu2] at hk
    obtain ⟨n, hn⟩ : ∃ n, (x :: y :: r).length = n := ⟨_, rfl⟩
    have hnr : n = r.length + 2 := by rw [← hn]; rfl
    have hLt := hk.2.2.2.1.tail
    have hWt := hk.2.2.2.2.1.tail
    have hent := hk.2.2.2.2.2.2.2.2.1 0 x ux dx rfl rfl rfl
    obtain ⟨Ax, cx, ex⟩ := own_slice hent.1
    obtain ⟨Au2, cu2, eu2⟩ := own_slice hent.2.2.1
    obtain ⟨gL, oL, eA1, hgL1, hgL2, hcL⟩ := hk.2.2.2.1.cell 0 x rfl
    obtain ⟨gW, oW, eA2, hgW1, hgW2, hcW⟩ := hk.2.2.2.2.1.cell 0 ux rfl
    have hcL := hcL 0 x rfl
    have hcW := hcW 0 ux rfl
    subst ex; subst eu2; subst eA1; subst eA2
    rw [hn] at hk hLt hWt hk0 hle
    rw [Nat.add_zero] at hcL hcW
    have hru : ru.length = r.length := by simpa using hlu2
    have n1 : (1 : Int) < (n : Int) := by omega
    have n0 : (0 : Int) < (n : Int) := by omega
    have hcap2 : n ≤ cL2 ∧ n ≤ cW2 := by
      have := hLt.2.2
      have := hWt.2.2
      omega
    have Hk := Lib.hid (And.intro hk (And.intro hbw (And.intro htw (And.intro hLt (And.intro hWt (And.intro hent hle))))))
    have Hn := Lib.hid (And.intro hnr hru)
    clear hk hbw htw hLt hWt hent hle c1 hlu2 hn hnr hru hp q1 q2 q3 q4 hl3 hl4
    have go : ∀ (P : Prop), P ∨ ¬ P := fun P => Classical.em P
    clear go
    by_cases c2 : (1000000 : Int) < h
    · go_upto_region 4 with fail
      refine wp_region_mixP (.plain 0 <| .plain 1 <| .plain 2 <| .plain 3 <| .plain 4 <| .plain 5 <| .plain 6 <| .plain 7 <| .plain 8 <| .plain 9 <| .plain 10 <| .plain 11 <| .plain 12 <| .plain 13 <| .plain 14 <| .plain 15 <| .plain 16 <| .plain 17 <| .only 18 <| .plain 19 <| .plain 20 <| .plain 21 <| .plain 22 <| .only 23 <| .done) (by kernel_rfl) (by kernel_rfl) (fun W1 hb1 => ?_)
      have hbk1 := Hk.out.1.1.below hb1 Hk.out.1.1.lt
      have d0 : ∀ z, (plus W1 z).cell? ⟨bk, 0, none⟩ = some (.slice (some ⟨gL, oL, none⟩) n cL2) := fun z => (hbk1.plus z).cell 0
      have d1 : ∀ z, (plus W1 z).cell? ⟨bk, 1, none⟩ = some (.slice (some ⟨gW, oW, none⟩) n cW2) := fun z => (hbk1.plus z).cell 1
      have d3 : ∀ z, (plus W1 z).cell? ⟨bk, 3, none⟩ = some (.bool false) := fun z => (hbk1.plus z).cell 3
      have hcL1 := (hb1.cell (p := ⟨gL, oL, none⟩) hgL2).trans hcL
      have hcW1 := (hb1.cell (p := ⟨gW, oW, none⟩) hgW2).trans hcW
      have hgL3 := Nat.lt_of_lt_of_le hgL2 hb1.size
      have hgW3 := Nat.lt_of_lt_of_le hgW2 hb1.size
      have d4 : ∀ z, (plus W1 z).cell? ⟨gL, oL, none⟩ = some (.slice Ax dx.length cx) := fun z => by rw [plus_cell _ _ _ hgL3]; exact hcL1
      have d5 : ∀ z, (plus W1 z).cell? ⟨gW, oW, none⟩ = some (.slice Au2 dx.length cu2) := fun z => by rw [plus_cell _ _ _ hgW3]; exact hcW1
      iterate 18 (refine mix_plain rfl ?_; go_big_quiet_step (fail); refine wpQuiet_nil ?_)
      clear d0 d1 d3 d4 d5 hcL1 hcW1 hgL3 hgW3 hbk1
      refine mix_only_in rfl (fun K hK => ?_)
      refine wpList_unguard rfl ?_
      go_wp2_with fail
      refine ((sameI_any (.slice Ax dx.length cx) (.slice Au2 dx.length cu2) _ _ W1 (ISl.of_own (own_below Hk.out.2.2.2.2.2.1.1 hb1)) (ISl.of_own (own_below Hk.out.2.2.2.2.2.1.2.2.1 hb1)))).mono ?_
      rintro q W2 ⟨rfl, hbx⟩
      rw [decide_eq_true rfl]
      replace hb1 := hb1.trans (hbx.mono hb1.size)
      go_wp2_with fail
      refine hK _ _ (below_plus hbx) ?_
      clear hK K
      iterate 4 (refine mix_plain rfl ?_; go_big_quiet_step (fail); refine wpQuiet_nil ?_)
      have hbk2 := Hk.out.1.1.below hb1 Hk.out.1.1.lt
      refine mix_only_in rfl (fun K hK => ?_)
      refine wpList_store1 rfl rfl _ (.tmp 79) (.tmp 77) rfl bk 3 rfl _ rfl 98 _ hbk2 (by kernel_rfl) (show 3 < 4 by decide) rfl rfl ?_
      intro W3 hbk3 hg3
      have hbk3 : Blk W3 bk 98 #[.slice (some ⟨gL, oL, none⟩) n cL2, .slice (some ⟨gW, oW, none⟩) n cW2, .int .i64 h, .bool false] := hbk3
      have hbs := below_same hg3 hbk2 hbk3
      refine hK _ _ (below_plus (hbx.trans (hbs.mono hbx.size))) ?_
      clear hK K
      refine mix_done ?_
      replace hb1 := hb1.trans (hbs.mono hb1.size)
      clear hbx hbs hg3 hbk2
      go_upto_region 5 with fail
      have e0 : W3.cell? ⟨bk, 0, none⟩ = some (.slice (some ⟨gL, oL, none⟩) n cL2) := hbk3.cell 0
      have e2 : W3.cell? ⟨bk, 2, none⟩ = some (.int .i64 h) := hbk3.cell 2
      have e4 := (hb1.cell (p := ⟨gL, oL, none⟩) hgL2).trans hcL
      have hgL4 := Nat.lt_of_lt_of_le hgL2 hb1.size
      refine wp_region_mixT 16 (.plain 0 <| .plain 1 <| .plain 2 <| .plain 3 <| .plain 4 <| .plain 5 <| .plain 6 <| .plain 7 <| .plain 8 <| .plain 9 <| .plain 10 <| .plain 11 <| .plain 12 <| .plain 13 <| .plain 14 <| .plain 15 <| .done) (by kernel_rfl) (by kernel_rfl) (fun W4 hb4 => ?_)
      have hbk4 := hbk3.below hb4 hbk3.lt
      have d0 : ∀ z, (plus W4 z).cell? ⟨bk, 0, none⟩ = some (.slice (some ⟨gL, oL, none⟩) n cL2) := fun z => (hbk4.plus z).cell 0
      have d2 : ∀ z, (plus W4 z).cell? ⟨bk, 2, none⟩ = some (.int .i64 h) := fun z => (hbk4.plus z).cell 2
      have hcL4 := (hb4.cell (p := ⟨gL, oL, none⟩) hgL4).trans e4
      have hgL5 := Nat.lt_of_lt_of_le hgL4 hb4.size
      have d4 : ∀ z, (plus W4 z).cell? ⟨gL, oL, none⟩ = some (.slice Ax dx.length cx) := fun z => by rw [plus_cell _ _ _ hgL5]; exact hcL4
      iterate 16 (refine mix_plain rfl ?_; go_big_quiet_step (fail); refine wpQuiet_nil ?_)
      clear d0 d2 d4 e0 e2 e4 hcL4 hgL5 hgL4
      replace hb1 := hb1.trans (hb4.mono hb1.size)
      clear hbk3 hb4
      refine mix_done ?_
      simp only [List.drop_succ_cons, List.drop_zero]
      go_upto_region 6 with (first
        | (refine wpList_store1 rfl rfl _ (.tmp 95) (.tmp 93) rfl bk 2 rfl _ rfl 98 _ hbk4 (by kernel_rfl) (show 2 < 4 by decide) rfl rfl ?_; intro W5 hbk5 hg5))
      have hbk5 : Blk W5 bk 98 #[.slice (some ⟨gL, oL, none⟩) n cL2, .slice (some ⟨gW, oW, none⟩) n cW2, .int .i64 (wrap64 (wrap64 (h - (cx : Int)) - 1)), .bool false] := hbk5
      generalize wrap64 (wrap64 (h - (cx : Int)) - 1) = h2 at hbk5 ⊢
      have f0 : W5.cell? ⟨bk, 0, none⟩ = some (.slice (some ⟨gL, oL, none⟩) n cL2) := hbk5.cell 0
      go_upto_region 7 with (first
        | (refine wpList_cutL rfl 96 (.tmp 100) (.const (.int .i64 1)) rfl 89 Tryd.underlying96 (by kernel_rfl) _ n cL2 1 rfl rfl (by omega) ?_)
        | (refine wpList_store1 rfl rfl _ (.tmp 103) (.tmp 101) rfl bk 0 rfl _ rfl 98 _ hbk5 (by kernel_rfl) (show 0 < 4 by decide) rfl rfl ?_; intro W6 hbk6 hg6))
      have hbk6 : Blk W6 bk 98 #[cutV (some ⟨gL, oL, none⟩) cL2 1 n, .slice (some ⟨gW, oW, none⟩) n cW2, .int .i64 h2, .bool false] := hbk6
      have f1 : W6.cell? ⟨bk, 1, none⟩ = some (.slice (some ⟨gW, oW, none⟩) n cW2) := hbk6.cell 1
      go_wp2_with (first
        | (refine wpList_cutL rfl 96 (.tmp 108) (.const (.int .i64 1)) rfl 89 Tryd.underlying96 (by kernel_rfl) _ n cW2 1 rfl rfl (by omega) ?_)
        | (refine wpList_store1 rfl rfl _ (.tmp 111) (.tmp 109) rfl bk 1 rfl _ rfl 98 _ hbk6 (by kernel_rfl) (show 1 < 4 by decide) rfl rfl ?_; intro W7 hbk7 hg7))
      have hbk7 : Blk W7 bk 98 #[cutV (some ⟨gL, oL, none⟩) cL2 1 n, cutV (some ⟨gW, oW, none⟩) cW2 1 n, .int .i64 h2, .bool false] := hbk7
      have z0 := Nat.le_trans hB Hk.out.2.1.size
      have z4 := Nat.le_trans z0 hb1.size
      have z5 := Nat.le_trans z4 hg5.size
      have z6 := Nat.le_trans z5 hg6.size
      have hty : Ty2 98 89 wr W7 := (((Ty2.of_below hb1).trans (Ty2.of_only hg5 hbk4 (.inl rfl))).trans (Ty2.of_only hg6 hbk5 (.inl rfl))).trans (Ty2.of_only hg7 hbk6 (.inl rfl))
      have hn2 := Hn.out
      have hLs := sli_put (sli_put (sli_put (Hk.out.2.2.2.1.1.below hb1) hbk4 ty_ne3I hg5) hbk5 ty_ne3I hg6) hbk6 ty_ne3I hg7
      have hWs := sli_put (sli_put (sli_put (Hk.out.2.2.2.2.1.1.below hb1) hbk4 ty_ne3I hg5) hbk5 ty_ne3I hg6) hbk6 ty_ne3I hg7
      have hbel := below_only (below_only (below_only (Hk.out.2.1.trans (hb1.mono z0)) hg5 hBb z4) hg6 hBb z5) hg7 hBb z6
      have hrel2 : BkSI w W7 B C' (N + 1) bk (gk - 1) := by
        refine ⟨_, _, h2, y :: r, uy :: ru, dr, ⟨hbk7, hBb, ?_, ?_, ?_, ?_, Hk.out.1.2.2.2.2.2.2.tail.ty hty⟩, by simp, ?_, hbel, Hk.out.2.2.1.trans hty⟩
        · have := Hk.out.1.2.2.1
          simp only [List.length_cons] at this ⊢
          omega
        · unfold cutV
          rw [show n - 1 = r.length + 1 by omega]
          exact hLs
        · unfold cutV
          rw [show n - 1 = ru.length + 1 by omega]
          exact hWs
        · have ha := Hk.out.1.2.2.2.2.2.1
          intro q h1 h2
          unfold cutV at h1 h2
          rw [if_neg (by omega)] at h1 h2
          exact ha q h1 h2
        · have := Hk.out.2.2.2.2.2.2
          simp only [List.length_cons]
          omega
      have hgk : 0 < gk := by have := Hk.out.2.2.2.2.2.2; omega
      have HR := Lib.hid hrel2
      clear hrel2 hbel hLs hWs hty hbk7 hbk6 hbk5 hbk4 hg5 hg6 hg7 Hk
      go_roundg (gk - 1)
      case measure => omega
      case rel => exact HR.out
    by_cases c3 : (4000 : Int) < (n : Int)
    · go_upto_region 4 with fail
      refine wp_region_mixP (.plain 0 <| .plain 1 <| .plain 2 <| .plain 3 <| .plain 4 <| .plain 5 <| .plain 6 <| .plain 7 <| .plain 8 <| .plain 9 <| .plain 10 <| .plain 11 <| .plain 12 <| .plain 13 <| .plain 14 <| .plain 15 <| .plain 16 <| .plain 17 <| .only 18 <| .plain 19 <| .plain 20 <| .plain 21 <| .plain 22 <| .only 23 <| .done) (by kernel_rfl) (by kernel_rfl) (fun W1 hb1 => ?_)
      have hbk1 := Hk.out.1.1.below hb1 Hk.out.1.1.lt
      have d0 : ∀ z, (plus W1 z).cell? ⟨bk, 0, none⟩ = some (.slice (some ⟨gL, oL, none⟩) n cL2) := fun z => (hbk1.plus z).cell 0
      have d1 : ∀ z, (plus W1 z).cell? ⟨bk, 1, none⟩ = some (.slice (some ⟨gW, oW, none⟩) n cW2) := fun z => (hbk1.plus z).cell 1
      have d3 : ∀ z, (plus W1 z).cell? ⟨bk, 3, none⟩ = some (.bool false) := fun z => (hbk1.plus z).cell 3
      have hcL1 := (hb1.cell (p := ⟨gL, oL, none⟩) hgL2).trans hcL
      have hcW1 := (hb1.cell (p := ⟨gW, oW, none⟩) hgW2).trans hcW
      have hgL3 := Nat.lt_of_lt_of_le hgL2 hb1.size
      have hgW3 := Nat.lt_of_lt_of_le hgW2 hb1.size
      have d4 : ∀ z, (plus W1 z).cell? ⟨gL, oL, none⟩ = some (.slice Ax dx.length cx) := fun z => by rw [plus_cell _ _ _ hgL3]; exact hcL1
      have d5 : ∀ z, (plus W1 z).cell? ⟨gW, oW, none⟩ = some (.slice Au2 dx.length cu2) := fun z => by rw [plus_cell _ _ _ hgW3]; exact hcW1
      iterate 18 (refine mix_plain rfl ?_; go_big_quiet_step (fail); refine wpQuiet_nil ?_)
      clear d0 d1 d3 d4 d5 hcL1 hcW1 hgL3 hgW3 hbk1
      refine mix_only_in rfl (fun K hK => ?_)
      refine wpList_unguard rfl ?_
      go_wp2_with fail
      refine ((sameI_any (.slice Ax dx.length cx) (.slice Au2 dx.length cu2) _ _ W1 (ISl.of_own (own_below Hk.out.2.2.2.2.2.1.1 hb1)) (ISl.of_own (own_below Hk.out.2.2.2.2.2.1.2.2.1 hb1)))).mono ?_
      rintro q W2 ⟨rfl, hbx⟩
      rw [decide_eq_true rfl]
      replace hb1 := hb1.trans (hbx.mono hb1.size)
      go_wp2_with fail
      refine hK _ _ (below_plus hbx) ?_
      clear hK K
      iterate 4 (refine mix_plain rfl ?_; go_big_quiet_step (fail); refine wpQuiet_nil ?_)
      have hbk2 := Hk.out.1.1.below hb1 Hk.out.1.1.lt
      refine mix_only_in rfl (fun K hK => ?_)
      refine wpList_store1 rfl rfl _ (.tmp 79) (.tmp 77) rfl bk 3 rfl _ rfl 98 _ hbk2 (by kernel_rfl) (show 3 < 4 by decide) rfl rfl ?_
      intro W3 hbk3 hg3
      have hbk3 : Blk W3 bk 98 #[.slice (some ⟨gL, oL, none⟩) n cL2, .slice (some ⟨gW, oW, none⟩) n cW2, .int .i64 h, .bool false] := hbk3
      have hbs := below_same hg3 hbk2 hbk3
      refine hK _ _ (below_plus (hbx.trans (hbs.mono hbx.size))) ?_
      clear hK K
      refine mix_done ?_
      replace hb1 := hb1.trans (hbs.mono hb1.size)
      clear hbx hbs hg3 hbk2
      go_upto_region 5 with fail
      have e0 : W3.cell? ⟨bk, 0, none⟩ = some (.slice (some ⟨gL, oL, none⟩) n cL2) := hbk3.cell 0
      have e2 : W3.cell? ⟨bk, 2, none⟩ = some (.int .i64 h) := hbk3.cell 2
      have e4 := (hb1.cell (p := ⟨gL, oL, none⟩) hgL2).trans hcL
      have hgL4 := Nat.lt_of_lt_of_le hgL2 hb1.size
      refine wp_region_mixT 16 (.plain 0 <| .plain 1 <| .plain 2 <| .plain 3 <| .plain 4 <| .plain 5 <| .plain 6 <| .plain 7 <| .plain 8 <| .plain 9 <| .plain 10 <| .plain 11 <| .plain 12 <| .plain 13 <| .plain 14 <| .plain 15 <| .done) (by kernel_rfl) (by kernel_rfl) (fun W4 hb4 => ?_)
      have hbk4 := hbk3.below hb4 hbk3.lt
      have d0 : ∀ z, (plus W4 z).cell? ⟨bk, 0, none⟩ = some (.slice (some ⟨gL, oL, none⟩) n cL2) := fun z => (hbk4.plus z).cell 0
      have d2 : ∀ z, (plus W4 z).cell? ⟨bk, 2, none⟩ = some (.int .i64 h) := fun z => (hbk4.plus z).cell 2
      have hcL4 := (hb4.cell (p := ⟨gL, oL, none⟩) hgL4).trans e4
      have hgL5 := Nat.lt_of_lt_of_le hgL4 hb4.size
      have d4 : ∀ z, (plus W4 z).cell? ⟨gL, oL, none⟩ = some (.slice Ax dx.length cx) := fun z => by rw [plus_cell _ _ _ hgL5]; exact hcL4
      iterate 16 (refine mix_plain rfl ?_; go_big_quiet_step (fail); refine wpQuiet_nil ?_)
      clear d0 d2 d4 e0 e2 e4 hcL4 hgL5 hgL4
      replace hb1 := hb1.trans (hb4.mono hb1.size)
      clear hbk3 hb4
      refine mix_done ?_
      simp only [List.drop_succ_cons, List.drop_zero]
      go_upto_region 6 with (first
        | (refine wpList_store1 rfl rfl _ (.tmp 95) (.tmp 93) rfl bk 2 rfl _ rfl 98 _ hbk4 (by kernel_rfl) (show 2 < 4 by decide) rfl rfl ?_; intro W5 hbk5 hg5))
      have hbk5 : Blk W5 bk 98 #[.slice (some ⟨gL, oL, none⟩) n cL2, .slice (some ⟨gW, oW, none⟩) n cW2, .int .i64 (wrap64 (wrap64 (h - (cx : Int)) - 1)), .bool false] := hbk5
      generalize wrap64 (wrap64 (h - (cx : Int)) - 1) = h2 at hbk5 ⊢
      have f0 : W5.cell? ⟨bk, 0, none⟩ = some (.slice (some ⟨gL, oL, none⟩) n cL2) := hbk5.cell 0
      go_upto_region 7 with (first
        | (refine wpList_cutL rfl 96 (.tmp 100) (.const (.int .i64 1)) rfl 89 Tryd.underlying96 (by kernel_rfl) _ n cL2 1 rfl rfl (by omega) ?_)
        | (refine wpList_store1 rfl rfl _ (.tmp 103) (.tmp 101) rfl bk 0 rfl _ rfl 98 _ hbk5 (by kernel_rfl) (show 0 < 4 by decide) rfl rfl ?_; intro W6 hbk6 hg6))
      have hbk6 : Blk W6 bk 98 #[cutV (some ⟨gL, oL, none⟩) cL2 1 n, .slice (some ⟨gW, oW, none⟩) n cW2, .int .i64 h2, .bool false] := hbk6
      have f1 : W6.cell? ⟨bk, 1, none⟩ = some (.slice (some ⟨gW, oW, none⟩) n cW2) := hbk6.cell 1
      go_wp2_with (first
        | (refine wpList_cutL rfl 96 (.tmp 108) (.const (.int .i64 1)) rfl 89 Tryd.underlying96 (by kernel_rfl) _ n cW2 1 rfl rfl (by omega) ?_)
        | (refine wpList_store1 rfl rfl _ (.tmp 111) (.tmp 109) rfl bk 1 rfl _ rfl 98 _ hbk6 (by kernel_rfl) (show 1 < 4 by decide) rfl rfl ?_; intro W7 hbk7 hg7))
      have hbk7 : Blk W7 bk 98 #[cutV (some ⟨gL, oL, none⟩) cL2 1 n, cutV (some ⟨gW, oW, none⟩) cW2 1 n, .int .i64 h2, .bool false] := hbk7
      have z0 := Nat.le_trans hB Hk.out.2.1.size
      have z4 := Nat.le_trans z0 hb1.size
      have z5 := Nat.le_trans z4 hg5.size
      have z6 := Nat.le_trans z5 hg6.size
      have hty : Ty2 98 89 wr W7 := (((Ty2.of_below hb1).trans (Ty2.of_only hg5 hbk4 (.inl rfl))).trans (Ty2.of_only hg6 hbk5 (.inl rfl))).trans (Ty2.of_only hg7 hbk6 (.inl rfl))
      have hn2 := Hn.out
      have hLs := sli_put (sli_put (sli_put (Hk.out.2.2.2.1.1.below hb1) hbk4 ty_ne3I hg5) hbk5 ty_ne3I hg6) hbk6 ty_ne3I hg7
      have hWs := sli_put (sli_put (sli_put (Hk.out.2.2.2.2.1.1.below hb1) hbk4 ty_ne3I hg5) hbk5 ty_ne3I hg6) hbk6 ty_ne3I hg7
      have hbel := below_only (below_only (below_only (Hk.out.2.1.trans (hb1.mono z0)) hg5 hBb z4) hg6 hBb z5) hg7 hBb z6
      have hrel2 : BkSI w W7 B C' (N + 1) bk (gk - 1) := by
        refine ⟨_, _, h2, y :: r, uy :: ru, dr, ⟨hbk7, hBb, ?_, ?_, ?_, ?_, Hk.out.1.2.2.2.2.2.2.tail.ty hty⟩, by simp, ?_, hbel, Hk.out.2.2.1.trans hty⟩
        · have := Hk.out.1.2.2.1
          simp only [List.length_cons] at this ⊢
          omega
        · unfold cutV
          rw [show n - 1 = r.length + 1 by omega]
          exact hLs
        · unfold cutV
          rw [show n - 1 = ru.length + 1 by omega]
          exact hWs
        · have ha := Hk.out.1.2.2.2.2.2.1
          intro q h1 h2
          unfold cutV at h1 h2
          rw [if_neg (by omega)] at h1 h2
          exact ha q h1 h2
        · have := Hk.out.2.2.2.2.2.2
          simp only [List.length_cons]
          omega
      have hgk : 0 < gk := by have := Hk.out.2.2.2.2.2.2; omega
      have HR := Lib.hid hrel2
      clear hrel2 hbel hLs hWs hty hbk7 hbk6 hbk5 hbk4 hg5 hg6 hg7 Hk
      go_roundg (gk - 1)
      case measure => omega
      case rel => exact HR.out
    · have c2n : h ≤ (1000000 : Int) := by omega
      have c3n : (n : Int) ≤ (4000 : Int) := by omega
      clear c2 c3
      go_wp2_with fail
      exact bodyPost_end (results_none rfl _ _ _) rfl ⟨rfl, ⟨_, _, _, _, _, _, Hk.out.1⟩, Hk.out.2.1, Hk.out.2.2.1⟩
end Go.Proofs.YtfggbfnnibpohaaDoor
