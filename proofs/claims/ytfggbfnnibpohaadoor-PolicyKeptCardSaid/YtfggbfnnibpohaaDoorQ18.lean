/- Texts that stand behind one another: BookIA. No condition. -/
import Derived.Test.YtfggbfnnibpohaaDoorQ17
/- The walk of deponentbook's Book: Apart. No condition. -/
namespace Go.Proofs.YtfggbfnnibpohaaDoor
open Go Go.RowKit
attribute [local irreducible] mixW
attribute [local go_sem] n8_lo n8_hi
/-- the mark of a list of numbers -/
def markI (i : Nat) : Int := -1000 - (i : Int)
set_option maxRecDepth 100000 in
theorem markI_any (i j : Nat) (hi : i ≤ 1000001) (_ : j < 9223372036854775807) (w : World) : Calls Tryd.prog 45 #[.int .i64 (i : Int), .int .i64 (j : Int)] w fun e w' => e = .returned (.int .i64 (markI i)) ∧ Below w.heap.size w w' := by
  go_enter Tryd.func45, Tryd.ntmps45
  go_wp2_with fail
  go_ret
  exact ⟨rfl, Below.refl _ _⟩
theorem run_cut_hh {P : Program} {t e : TypeId} {A : Option Addr} {len cap : Nat} (ht : P.underlying t = some (.slice e)) (hs : (P.info? e).map (·.size) = some 1) (hi : Nat) (h2 : hi ≤ cap) (w : World) :
    (Instr.sliceAt t (.slice A len cap) none (some (.int .i64 hi)) none).run P w = .ok (.slice A hi cap) w := by
  obtain ⟨i, hi1, hi2⟩ : ∃ i, P.info? e = some i ∧ i.size = 1 := by
    cases hq : P.info? e with
    | none => rw [hq] at hs; cases hs
    | some i => rw [hq] at hs; exact ⟨i, rfl, by simpa using hs⟩
  have h3 : (hi : Int) ≤ (cap : Int) := by omega
  cases A <;> simp [Instr.sliceAt, Instr.slice, run_underlying ht, Instr.sliceBounds, run_sliceBound, hi1, hi2, sizeOf, typeInfo, h3, Addr.add]
theorem wpQuiet_cutHH {P : Program} {ops : Array Oper} {C : World → Prop} {K : Act → Prop} {a : Act} {o : Oper} {rest : List Oper} (hw : Region.wanted o (yielded ops a.tmps) = true) (t : TypeId) (x h : Operand) (ho : o.op = .slice t x none (some h) none) (e : TypeId) (ht : P.underlying t = some (.slice e)) (hs : (P.info? e).map (·.size) = some 1)
    (A : Option Addr) (len cap hi : Nat) (hx : a.eval x = .slice A len cap) (hh : a.eval h = .int .i64 hi) (h2 : hi ≤ cap)
    (hk : wpQuiet P ops C K rest (a.put o.dst (.slice A hi cap))) : wpQuiet P ops C K (o :: rest) a :=
  wpQuiet_wanted hw _ (fun w _ => by
    unfold Oper.quietAt execOp
    simp only [ho, Option.map_some, Option.map_none, hx, hh, Sem.run_bind, run_cut_hh ht hs hi h2, Result.andThen_ok, Sem.run_pure]
    exact ⟨rfl, rfl⟩) hk
def capV : Value → Nat
  | .slice _ _ c => c
  | _ => 0
theorem copied_get (cs : Array Value) (off : Nat) (xs : List Value) (i : Nat) (h : off + xs.length ≤ cs.size) : (copied cs off xs xs.length)[i]? = if i < off then cs[i]? else if i < off + xs.length then xs[i - off]? else cs[i]? := by
  unfold copied
  rw [List.take_of_length_le (Nat.le_refl _), List.getElem?_toArray]
  have hl : (cs.toList.take off).length = off := by rw [List.length_take, Array.length_toList]; omega
  by_cases h1 : i < off
  · rw [if_pos h1, List.getElem?_append_left (by omega), List.getElem?_take, if_pos h1, Array.getElem?_toList]
  · rw [if_neg h1, List.getElem?_append_right (by omega), hl]
    by_cases h2 : i < off + xs.length
    · rw [if_pos h2, List.getElem?_append_left (by omega)]
    · rw [if_neg h2, List.getElem?_append_right (by omega), List.getElem?_drop, Array.getElem?_toList]
      congr 1
      omega
/-- a list whose first m places hold its mark -/
def FilI (w : World) (B : Nat) (v : Value) (p m : Nat) : Prop :=
  v = .slice none 0 0 ∨ ∃ g n c cur, v = .slice (some ⟨g, 0, none⟩) n c ∧ B ≤ g ∧ Blk w g 3 cur ∧ cur.size = c * 1 ∧ n ≤ c ∧ c ≤ 9223372036854775807 ∧ ∀ j, j < m → j < c → ∀ k u, [nI (markI p)][k]? = some u → cur[j * 1 + k]? = some u
theorem FilI.keep {w w' : World} {B : Nat} {v : Value} {p m : Nat} (h : FilI w B v p m) (hk : ∀ g, v.ownBlock = some g → g < w.heap.size → w'.heap[g]? = w.heap[g]?) : FilI w' B v p m := by
  rcases h with h | ⟨g, n, c, cur, rfl, hb, hg, hr⟩
  · exact .inl h
  · exact .inr ⟨g, n, c, cur, rfl, hb, (hk g rfl hg.lt).trans hg, hr⟩
theorem FilI.below {w w' : World} {B : Nat} {v : Value} {p m : Nat} (h : FilI w B v p m) (hb : Below w.heap.size w w') : FilI w' B v p m := h.keep fun g _ hg => hb.block g hg
theorem FilI.of_own {w : World} {B n : Nat} {v : Value} {xs : List Value} (h : w.ownsRow B 3 1 v n xs) (p : Nat) : FilI w B v p 0 := by
  rcases h.2 with ⟨rfl, _⟩ | ⟨g, cap, cur, rfl, hb, hg, hn, hm, hs, _⟩
  · exact .inl rfl
  · exact .inr ⟨g, n, cap, cur, rfl, hb, hg, hs, hn, by unfold maxLen at hm; omega, fun j hj => absurd hj (Nat.not_lt_zero _)⟩
/-- all lists: those ahead of i are full, of list i so many places -/
def FilsI (w : World) (B : Nat) (vs : List Value) (i m : Nat) : Prop := ∀ p v, vs[p]? = some v → FilI w B v p (if p < i then capV v else if p = i then m else 0)
theorem FilsI.below {w w' : World} {B : Nat} {vs : List Value} {i m : Nat} (h : FilsI w B vs i m) (hb : Below w.heap.size w w') : FilsI w' B vs i m := fun p v hp => (h p v hp).below hb
theorem FilsI.next {w : World} {B : Nat} {vs : List Value} {i m : Nat} {v : Value} (h : FilsI w B vs i m) (hv : vs[i]? = some v) (hm : m = capV v) : FilsI w B vs (i + 1) 0 := fun p u hp => by
  have := h p u hp
  by_cases h1 : p < i
  · rw [if_pos h1] at this; rw [if_pos (by omega)]; exact this
  · by_cases h2 : p = i
    · subst h2
      rw [if_neg h1, if_pos rfl] at this
      rw [if_pos (by omega)]
      rw [hv] at hp; injection hp with hp; subst hp
      rw [hm] at this; exact this
    · rw [if_neg h1, if_neg h2] at this
      rw [if_neg (by omega)]
      split <;> exact this
/-- one place of list i is written -/
theorem FilsI.put {w w' : World} {B : Nat} {vs : List Value} {i j g n c : Nat} {cur' : Array Value} (h : FilsI w B vs i j) (hap : ∀ (i j : Nat) v v', i < j → vs[i]? = some v → vs[j]? = some v' → Apart v v') (hv : vs[i]? = some (.slice (some ⟨g, 0, none⟩) n c)) (hB : B ≤ g) (hn : n ≤ c) (hc : c ≤ 9223372036854775807)
    (hg : w.grownBy w' (some g)) (hb' : Blk w' g 3 cur') (hs : cur'.size = c * 1) (hcells : ∀ q, q < j + 1 → q < c → ∀ k u, [nI (markI i)][k]? = some u → cur'[q * 1 + k]? = some u) : FilsI w' B vs i (j + 1) := by
  intro p v hp
  by_cases h2 : p = i
  · subst h2
    rw [hv] at hp; injection hp with hp; subst hp
    rw [if_neg (Nat.lt_irrefl _), if_pos rfl]
    exact .inr ⟨g, n, c, cur', rfl, hB, hb', hs, hn, hc, hcells⟩
  · have h1 := h p v hp
    rw [if_neg h2] at h1 ⊢
    refine h1.keep fun q hq hlt => hg.block q hlt (fun e => ?_)
    injection e with e
    subst e
    rcases Nat.lt_or_ge p i with h3 | h3
    · exact hap p i v _ h3 hp hv q hq rfl
    · exact hap i p _ v (by omega) hv hp q rfl hq
theorem Sli.ty {w w' : World} {B : Nat} {t t1 t2 : TypeId} {v : Value} {vs : List Value} (h : Sli w B t v vs) (ht : Ty2 t1 t2 w w') (h1 : t ≠ t1) (h2 : t ≠ t2) : Sli w' B t v vs :=
  h.keep fun g hg => by
    obtain ⟨cs, hc⟩ := h.type g hg
    exact ht.block g cs t (0, 0) hc h1 h2
set_option maxHeartbeats 2000000 in
set_option maxRecDepth 100000 in
theorem apartI_any (w : World) (B C N bk : Nat) (hB : B ≤ w.heap.size) (hN : N ≤ 1000000) (hK : BookAtI w B C N bk) :
    Calls Tryd.prog 44 #[.pointer (some ⟨bk, 0, none⟩), (.func (.func 45) #[] #[])] w fun e w' => e = .returned (.bool true) ∧ Below B w w' := by
  obtain ⟨L, W, h, vs, us, dss, hk⟩ := hK
  obtain ⟨AL, cL, eL, q1, _⟩ := hk.2.2.2.1.form
  obtain ⟨AW, cW, eW, _, _⟩ := hk.2.2.2.2.1.form
  subst eL; subst eW
  have hul := hk.2.2.2.2.2.2.1
  rw [hul] at hk
  obtain ⟨n, hn⟩ : ∃ n, vs.length = n := ⟨_, rfl⟩
  rw [hn] at hk q1
  have hn6 : n ≤ 1000000 := by have := hk.2.2.1; omega
  have HN := Lib.hid hn
  have Hk := Lib.hid hk
  clear hn hk hul
  go_enter Tryd.func44, Tryd.ntmps44
  go_wp2_with fail
  refine (staysI_any w B C N bk AL AW n cL cW h vs us dss HN.out hN Hk.out).mono ?_
  rintro e w1 ⟨rfl, hb1⟩
  have Hk1 := Lib.hid (Hk.out.below hb1)
  have hB1 := Nat.le_trans hB hb1.size
  have H1 := Lib.hid (And.intro (hb1.mono hB) (show FilsI w1 B vs 0 0 from fun p v hp => by
    have hlt := (List.getElem?_eq_some_iff.1 hp).1
    obtain ⟨v', u, ds, h1, h2, h3⟩ := ents_atI Hk1.out.2.2.2.2.2.2 p hlt
    rw [hp] at h1; injection h1 with h1; subst h1
    have := FilI.of_own (Hk1.out.2.2.2.2.2.2.2.2.1 p v u ds hp h2 h3).1 p
    rw [if_neg (Nat.not_lt_zero _)]
    split <;> exact this))
  clear hb1 Hk
  go_wp2_with fail
  go_loopw [5, 6, 7] (fun iv _ _ wr => ∃ i : Nat, i ≤ n ∧ iv = .int .i64 i ∧ FilsI wr B vs i 0 ∧ Ty2 3 3 w1 wr ∧ Below B w1 wr) (fun iv _ _ _ => n - (intOf iv).toNat)
  case atStart => exact ⟨0, Nat.zero_le _, rfl, H1.out.2, Ty2.refl _, Below.refl _ _⟩
  case round =>
    obtain ⟨i, hi, rfl, hf, ht, hb⟩ := hrel
    have hkb := ht.blk Hk1.out.1 ty_ne1I.symm ty_ne1I.symm
    have hk0 : wr.cell? ⟨bk, 0, none⟩ = some (.slice AL n cL) := hkb.cell 0
    by_cases hlt : i < n
    · have hi0 : (i : Int) < (n : Int) := by omega
      obtain ⟨x, ux, dx, hx1, hx2, hx3⟩ := ents_atI Hk1.out.2.2.2.2.2.2 i (by rw [HN.out]; exact hlt)
      have hent := Hk1.out.2.2.2.2.2.2.2.2.1 i x ux dx hx1 hx2 hx3
      obtain ⟨Ax, cx, ex⟩ := own_slice hent.1
      have hSL := Hk1.out.2.2.2.1.ty ht ty_ne2I.symm ty_ne2I.symm
      obtain ⟨gL, oL, eA1, hgL1, hgL2, hcL⟩ := hSL.cell i x hx1
      have hcL := hcL i x hx1
      subst ex; subst eA1
      have hcx : cx ≤ 9223372036854775807 ∧ dx.length ≤ cx := by
        rcases hent.1.2 with ⟨e, h0⟩ | ⟨_, _, _, e, _, _, h1, h2, _⟩
        · injection e with _ _ e; subst e; rw [h0]; exact ⟨by decide, Nat.le_refl _⟩
        · injection e with _ _ e; subst e; unfold maxLen at h2; exact ⟨by omega, h1⟩
      have hcx0 : (dx.length : Int) ≤ (cx : Int) := by omega
      have hcx2 := hcx.1
      have Hx := Lib.hid hx1
      have HF := Lib.hid (And.intro hf (And.intro ht hb))
      clear hx1 hx2 hx3 hent hSL hf ht hb hcx
      go_upto_region 6 with fail
      refine wp_region_mixP (.plain 0 <| .plain 1 <| .plain 2 <| .plain 3 <| .plain 4 <| .plain 5 <| .plain 6 <| .plain 7 <| .plain 8 <| .plain 9 <| .plain 10 <| .plain 11 <| .plain 12 <| .plain 13 <| .plain 14 <| .plain 15 <| .plain 16 <| .done) (by kernel_rfl) (by kernel_rfl) (fun W1 hbx => ?_)
      have hbk1 := hkb.below hbx hkb.lt
      have d0 : ∀ z, (plus W1 z).cell? ⟨bk, 0, none⟩ = some (.slice (some ⟨gL, oL, none⟩) n cL) := fun z => (hbk1.plus z).cell 0
      have hcL1 := (hbx.cell (p := ⟨gL, oL + i, none⟩) hgL2).trans hcL
      have hgL3 := Nat.lt_of_lt_of_le hgL2 hbx.size
      have d4 : ∀ z, (plus W1 z).cell? ⟨gL, oL + i, none⟩ = some (.slice Ax dx.length cx) := fun z => by rw [plus_cell _ _ _ hgL3]; exact hcL1
      iterate 17 (refine mix_plain rfl ?_; (first
        | (refine wpQuiet_cutHH rfl 89 (.tmp 29) (.tmp 37) rfl 3 Tryd.underlying89 (by kernel_rfl) Ax dx.length cx cx rfl rfl (Nat.le_refl _) ?_; simp only [Act.put, List.setIfInBounds_toArray, List.set_cons_zero, List.set_cons_succ])
        | go_big_quiet_step (fail)); refine wpQuiet_nil ?_)
      clear d0 d4 hcL1 hgL3 hbk1 hkb hk0 hcL hgL1 hgL2
      refine mix_done ?_
      have HF1 := Lib.hid (And.intro (HF.out.1.below hbx) (And.intro (HF.out.2.1.trans (Ty2.of_below hbx)) (HF.out.2.2.trans (hbx.mono (Nat.le_trans hB1 HF.out.2.2.size)))))
      clear HF hbx
      go_wp2_with fail
      go_loopw [7] (fun jv wr => ∃ j : Nat, j ≤ cx ∧ jv = .int .i64 j ∧ FilsI wr B vs i j ∧ Ty2 3 3 w1 wr ∧ Below B w1 wr) (fun jv _ => cx - (intOf jv).toNat)
      case atStart => exact ⟨0, Nat.zero_le _, rfl, HF1.out⟩
      case round =>
        obtain ⟨j, hj, rfl, hf, ht, hb⟩ := hrel
        have Hf := Lib.hid (And.intro hf (And.intro ht hb))
        clear hf ht hb
        by_cases hjc : j < cx
        · have hj0 : (j : Int) < (cx : Int) := by omega
          have hfi := Hf.out.1 i _ Hx.out
          rw [if_neg (Nat.lt_irrefl _), if_pos rfl] at hfi
          obtain ⟨g, nn, c, cur, ev, hgB, hblk, hsz, hnn, hcc, hcells⟩ : ∃ g nn c cur, (Value.slice Ax dx.length cx) = .slice (some ⟨g, 0, none⟩) nn c ∧ B ≤ g ∧ Blk wr g 3 cur ∧ cur.size = c * 1 ∧ nn ≤ c ∧ c ≤ 9223372036854775807 ∧ ∀ q, q < j → q < c → ∀ k u, [nI (markI i)][k]? = some u → cur[q * 1 + k]? = some u := by
            rcases hfi with e | h
            · injection e with _ _ e; omega
            · exact h
          injection ev with e1 e2 e3
          subst e1; subst e2; subst e3
          have Hc := Lib.hid hcells
          clear hfi hcells
          go_wp2_with fail
          refine (markI_any i j (by omega) (by omega) wr).mono ?_
          rintro e W2 ⟨rfl, hbx⟩
          have hblk2 := hblk.below hbx hblk.lt
          have HF2 := Lib.hid (And.intro (Hf.out.1.below hbx) (And.intro (Hf.out.2.1.trans (Ty2.of_below hbx)) (Hf.out.2.2.trans (hbx.mono (Nat.le_trans hB1 Hf.out.2.2.size)))))
          clear hbx Hf hblk
          go_wp2_with (first
            | (refine wpList_store1 rfl rfl _ (.tmp 51) (.tmp 50) rfl g j rfl (nI (markI i)) rfl 3 cur hblk2 (by kernel_rfl) (by omega) rfl rfl ?_; intro W3 hblk3 hg3))
          have hs3 : (cur.setIfInBounds j (nI (markI i))).size = cx * 1 := by simp; omega
          have hcell3 : ∀ q, q < j + 1 → q < cx → ∀ k u, [nI (markI i)][k]? = some u → (cur.setIfInBounds j (nI (markI i)))[q * 1 + k]? = some u := by
            intro q h1 h2 k u hu
            have hk := (List.getElem?_eq_some_iff.1 hu).1
            have hk0 : k = 0 := by simpa using hk
            subst hk0
            rcases Nat.lt_or_ge q j with h3 | h3
            · rw [Array.getElem?_setIfInBounds, if_neg (by omega)]
              exact Hc.out q h3 h2 0 u hu
            · have : q = j := by omega
              subst this
              rw [Nat.mul_one, Nat.add_zero, Array.getElem?_setIfInBounds, if_pos rfl, if_pos (by omega)]
              exact hu
          have hf3 := HF2.out.1.put Hk1.out.2.2.2.2.2.2.2.2.2 Hx.out hgB hnn hcx2 hg3 hblk3 hs3 hcell3
          have ht3 : Ty2 3 3 w1 W3 := HF2.out.2.1.trans (Ty2.of_only hg3 hblk2 (.inl rfl))
          have hb3 : Below B w1 W3 := below_only HF2.out.2.2 hg3 hgB (Nat.le_trans hB1 HF2.out.2.2.size)
          have HF3 := Lib.hid (And.intro hf3 (And.intro ht3 hb3))
          clear hf3 ht3 hb3 hg3 hblk3 hs3 hcell3 hblk2 HF2
          go_roundw
          case rel => exact ⟨j + 1, by omega, by go_num, HF3.out⟩
          case measure => simp [intOf]; omega
        · have hjc' : (cx : Int) ≤ (j : Int) := by omega
          have ej : j = cx := by omega
          have Ej := Lib.hid ej
          clear hjc ej
          go_wp2_with fail
          go_roundw
          case rel => exact ⟨i + 1, by omega, by go_num, (Hf.out.1.next Hx.out Ej.out), Hf.out.2⟩
          case measure => simp [intOf]; omega
    · have hge : (n : Int) ≤ (i : Int) := by omega
      have ei : i = n := by omega
      have HF := Lib.hid (And.intro (show FilsI wr B vs n 0 by rw [← ei]; exact hf) (And.intro ht hb))
      clear hlt hf ht hb ei
      obtain ⟨wa, rfl⟩ : ∃ wa, wa = wr := ⟨_, rfl⟩
      have hBa := Nat.le_trans hB1 HF.out.2.2.size
      have HKB := Lib.hid (And.intro hkb (Hk1.out.2.2.2.1.ty HF.out.2.1 ty_ne2I.symm ty_ne2I.symm))
      clear hkb
      go_wp2_with fail
      clear hk0 hge
      generalize decide (i < n) = bq
      go_loopw [8, 9, 10] (fun iv _ _ wr => ∃ i : Nat, i ≤ n ∧ iv = .int .i64 i ∧ Below wa.heap.size wa wr) (fun iv _ _ _ => n - (intOf iv).toNat)
      case atStart => exact ⟨0, Nat.zero_le _, rfl, Below.refl _ _⟩
      case round =>
        obtain ⟨i, hi, rfl, hb⟩ := hrel
        have hkb := HKB.out.1.below hb HKB.out.1.lt
        have hk0 : wr.cell? ⟨bk, 0, none⟩ = some (.slice AL n cL) := hkb.cell 0
        by_cases hlt : i < n
        · have hi0 : (i : Int) < (n : Int) := by omega
          obtain ⟨x, ux, dx, hx1, hx2, hx3⟩ := ents_atI Hk1.out.2.2.2.2.2.2 i (by rw [HN.out]; exact hlt)
          have hent := Hk1.out.2.2.2.2.2.2.2.2.1 i x ux dx hx1 hx2 hx3
          obtain ⟨Ax, cx, ex⟩ := own_slice hent.1
          obtain ⟨gL, oL, eA1, hgL1, hgL2, hcL⟩ := HKB.out.2.cell i x hx1
          have hcL := (hb.cell (p := ⟨gL, oL + i, none⟩) hgL2).trans (hcL i x hx1)
          replace hgL2 := Nat.lt_of_lt_of_le hgL2 hb.size
          subst ex; subst eA1
          have hcx : cx ≤ 9223372036854775807 ∧ dx.length ≤ cx := by
            rcases hent.1.2 with ⟨e, h0⟩ | ⟨_, _, _, e, _, _, h1, h2, _⟩
            · injection e with _ _ e; subst e; rw [h0]; exact ⟨by decide, Nat.le_refl _⟩
            · injection e with _ _ e; subst e; unfold maxLen at h2; exact ⟨by omega, h1⟩
          have hcx0 : (dx.length : Int) ≤ (cx : Int) := by omega
          have hcx2 := hcx.1
          have hfi := HF.out.1 i _ hx1
          rw [if_pos hlt] at hfi
          have Hfi := Lib.hid hfi
          have Hb := Lib.hid hb
          clear hx1 hx2 hx3 hent hcx hb hfi
          go_upto_region 14 with fail
          refine wp_region_mixP (.plain 0 <| .plain 1 <| .plain 2 <| .plain 3 <| .plain 4 <| .plain 5 <| .plain 6 <| .plain 7 <| .plain 8 <| .plain 9 <| .plain 10 <| .plain 11 <| .plain 12 <| .plain 13 <| .plain 14 <| .plain 15 <| .plain 16 <| .done) (by kernel_rfl) (by kernel_rfl) (fun W1 hbx => ?_)
          have hbk1 := hkb.below hbx hkb.lt
          have d0 : ∀ z, (plus W1 z).cell? ⟨bk, 0, none⟩ = some (.slice (some ⟨gL, oL, none⟩) n cL) := fun z => (hbk1.plus z).cell 0
          have hcL1 := (hbx.cell (p := ⟨gL, oL + i, none⟩) hgL2).trans hcL
          have hgL3 := Nat.lt_of_lt_of_le hgL2 hbx.size
          have d4 : ∀ z, (plus W1 z).cell? ⟨gL, oL + i, none⟩ = some (.slice Ax dx.length cx) := fun z => by rw [plus_cell _ _ _ hgL3]; exact hcL1
          iterate 17 (refine mix_plain rfl ?_; (first
            | (refine wpQuiet_cutHH rfl 89 (.tmp 67) (.tmp 75) rfl 3 Tryd.underlying89 (by kernel_rfl) Ax dx.length cx cx rfl rfl (Nat.le_refl _) ?_; simp only [Act.put, List.setIfInBounds_toArray, List.set_cons_zero, List.set_cons_succ])
            | go_big_quiet_step (fail)); refine wpQuiet_nil ?_)
          clear d0 d4 hcL1 hgL3 hbk1 hkb hk0 hcL hgL1 hgL2
          refine mix_done ?_
          have Hb1 := Lib.hid (Hb.out.trans (hbx.mono Hb.out.size))
          clear Hb hbx
          go_wp2_with fail
          go_loopg [10] cx (fun gk jv wr => ∃ j : Nat, j + gk = cx ∧ jv = .int .i64 j ∧ Below wa.heap.size wa wr)
          case atStart => exact ⟨0, Nat.zero_add _, rfl, Hb1.out⟩
          case round =>
            obtain ⟨j, hj, rfl, hb⟩ := hrel
            have Hf := Lib.hid hb
            clear hb
            by_cases hjc : j < cx
            · have hj0 : (j : Int) < (cx : Int) := by omega
              obtain ⟨g, nn, c, cur, ev, hgB, hblk, hsz, hnn, hcc, hcells⟩ : ∃ g nn c cur, (Value.slice Ax dx.length cx) = .slice (some ⟨g, 0, none⟩) nn c ∧ B ≤ g ∧ Blk wa g 3 cur ∧ cur.size = c * 1 ∧ nn ≤ c ∧ c ≤ 9223372036854775807 ∧ ∀ q, q < cx → q < c → ∀ k u, [nI (markI i)][k]? = some u → cur[q * 1 + k]? = some u := by
                rcases Hfi.out with e | h
                · injection e with _ _ e; omega
                · exact h
              injection ev with e1 e2 e3
              subst e1; subst e2; subst e3
              have Hc := Lib.hid (hcells j hjc hjc)
              clear hcells
              go_upto_region 18 with fail
              refine wp_region_mixP (.plain 0 <| .plain 1 <| .plain 2 <| .plain 3 <| .plain 4 <| .plain 5 <| .plain 6 <| .only 7 <| .plain 8 <| .done) (by kernel_rfl) (by kernel_rfl) (fun W1 hbx => ?_)
              have hbb := Hf.out.trans (hbx.mono Hf.out.size)
              have hblk1 := hblk.below hbb hblk.lt
              have hr1 : ∀ z, (plus W1 z).cell? ⟨g, j, none⟩ = some (.int .i64 (markI i)) := fun z => ((hblk1.plus z).cell j).trans (by have := Hc.out 0 _ rfl; rwa [Nat.mul_one, Nat.add_zero] at this)
              have hml : (markI i != markI i) = false := by simp
              iterate 7 (refine mix_plain rfl ?_; (first
                | fail
                | go_big_quiet_step (fail)); refine wpQuiet_nil ?_)
              refine mix_only_in rfl (fun K hK => ?_)
              go_wp2_with fail
              refine (markI_any i j (by omega) (by omega) W1).mono ?_
              rintro e W2 ⟨rfl, hby⟩
              go_wp2_with fail
              refine hK _ _ (below_plus hby) ?_
              clear hK K
              iterate 1 (refine mix_plain rfl ?_; (first
                | fail
                | go_big_quiet_step (fail)); refine wpQuiet_nil ?_)
              refine mix_done ?_
              have HB2 := Lib.hid (hbb.trans (hby.mono hbb.size))
              clear hbb hby hbx hblk1 hr1
              go_wp2_with fail
              go_roundg (gk - 1)
              case measure => omega
              case rel => exact ⟨j + 1, by omega, by go_num, HB2.out⟩
            · have hjc' : (cx : Int) ≤ (j : Int) := by omega
              clear hjc
              go_wp2_with fail
              go_roundw
              case rel => exact ⟨i + 1, by omega, by go_num, Hf.out⟩
              case measure => simp [intOf]; omega
        · have hge2 : (n : Int) ≤ (i : Int) := by omega
          have Hb := Lib.hid hb
          clear hlt hb
          go_wp2_with (first
            | (refine wpList_store1 rfl rfl _ (.tmp 94) (.const (.slice none 0 0)) rfl bk 0 rfl _ rfl 98 _ hkb (by kernel_rfl) (show 0 < 4 by decide) rfl rfl ?_; intro V1 hv1 hg1; have hv1 : Blk V1 bk 98 #[.slice none 0 0, .slice AW n cW, .int .i64 h, .bool false] := hv1)
            | (refine wpList_store1 rfl rfl _ (.tmp 97) (.const (.slice none 0 0)) rfl bk 1 rfl _ rfl 98 _ hv1 (by kernel_rfl) (show 1 < 4 by decide) rfl rfl ?_; intro V2 hv2 hg2; have hv2 : Blk V2 bk 98 #[.slice none 0 0, .slice none 0 0, .int .i64 h, .bool false] := hv2)
            | (refine wpList_store1 rfl rfl _ (.tmp 100) (.const (.int .i64 0)) rfl bk 2 rfl _ rfl 98 _ hv2 (by kernel_rfl) (show 2 < 4 by decide) rfl rfl ?_; intro V3 hv3 hg3))
          have hBb := Hk1.out.2.1
          have z0 := Nat.le_trans hBa Hb.out.size
          have z1 := Nat.le_trans z0 hg1.size
          have z2 := Nat.le_trans z1 hg2.size
          have hfin := below_only (below_only (below_only ((H1.out.1.trans HF.out.2.2).trans (Hb.out.mono hBa)) hg1 hBb z0) hg2 hBb z1) hg3 hBb z2
          go_ret
          exact ⟨rfl, hfin⟩
end Go.Proofs.YtfggbfnnibpohaaDoor
