/- Texts that stand behind one another: VerF. No condition. -/
import Derived.Test.YtcgbokgedfekkaaDoorU27
import Derived.Test.YtcgbokgedfekkaaDoorU29
/- The walk of the reference's Way. No condition. -/
namespace Go.Proofs.YtcgbokgedfekkaaDoor
open Go Go.RowKit
attribute [local irreducible] mixW
attribute [local go_sem] n8_lo n8_hi n64_lo n64_hi n32_lo n32_hi
/-- v is a row of texts of the call's own -/
def Txs (w : World) (base : Nat) (v : Value) (l : List (Value × List UInt8)) : Prop :=
  w.ownsRow base 46 1 v (l.map Prod.fst).length (l.map Prod.fst) ∧ ∀ p ∈ l, w.ownsRow base 5 1 p.1 (p.2.map v8).length (p.2.map v8)
theorem Txs.below {w w' : World} {base : Nat} {v : Value} {l : List (Value × List UInt8)} (h : Txs w base v l) (hb : Below w.heap.size w w') : Txs w' base v l :=
  ⟨own_below h.1 hb, fun p hp => own_below (h.2 p hp) hb⟩
theorem Txs.base {w : World} {base b2 : Nat} {v : Value} {l : List (Value × List UInt8)} (h : Txs w base v l) (hb : b2 ≤ base) : Txs w b2 v l :=
  ⟨own_base h.1 hb, fun p hp => own_base (h.2 p hp) hb⟩
theorem Txs.dig {w w' : World} {base g : Nat} {v : Value} {l : List (Value × List UInt8)} {d : Array Value} (h : Txs w base v l) (hD : Blk w g 35 d) (hg : w.grownBy w' (some g)) : Txs w' base v l :=
  ⟨own_grown h.1 hg (own_diff h.1 hD (by decide)), fun p hp => own_grown (h.2 p hp) hg (own_diff (h.2 p hp) hD (by decide))⟩
theorem Txs.text {w : World} {base : Nat} {v : Value} {l : List (Value × List UInt8)} (h : Txs w base v l) (k : Nat) (hk : k < l.length) : BSl w w.heap.size l[k].1 l[k].2 :=
  BSl.of_own (h.2 _ (List.getElem_mem hk))
theorem Txs.ssl {w : World} {base : Nat} {v : Value} {l : List (Value × List UInt8)} (h : Txs w base v l) : SSl w w.heap.size v (l.map Prod.snd) :=
  SSl.of_own h.1 (by simp) (fun i hi => by
    rw [List.length_map] at hi
    have e1 : (l.map Prod.fst).getD i undef = l[i].1 := by rw [List.getD_eq_getElem?_getD, List.getElem?_map, List.getElem?_eq_getElem hi]; rfl
    have e2 : (l.map Prod.snd).getD i [] = l[i].2 := by rw [List.getD_eq_getElem?_getD, List.getElem?_map, List.getElem?_eq_getElem hi]; rfl
    rw [e1, e2]; exact h.text i hi)
theorem Txs.at {w : World} {base : Nat} {v : Value} {l : List (Value × List UInt8)} (h : Txs w base v l) (k : Nat) (hk : k < l.length) : ∃ g c, v = .slice (some ⟨g, 0, none⟩) l.length c ∧ g < w.heap.size ∧ w.cell? ⟨g, k, none⟩ = some l[k].1 := by
  have hlt := own_lt h.1
  rcases h.1.2 with ⟨_, h0⟩ | ⟨g, cap, cur, e, hb, hh, hc1, _, hsz, hcur⟩
  · rw [List.length_map] at h0; omega
  · refine ⟨g, cap, by rw [e, List.length_map], hlt g (by rw [e]; rfl), ?_⟩
    rw [cell_of_row w g k cur _ (0, 0) hh]
    have h1 : (l.map Prod.fst)[k]? = some l[k].1 := by rw [List.getElem?_map, List.getElem?_eq_getElem hk]; rfl
    rw [← hcur, List.getElem?_take, if_pos (by rw [List.length_map]; omega)] at h1
    rw [← h1]; simp
theorem own_oneT (w : World) (base : Nat) (hb : base ≤ w.heap.size) (p : Value × List UInt8) : (w.alloc (.cells #[p.1] 46)).ownsRow base 46 1 (.slice (some ⟨w.heap.size, 0, none⟩) 1 1) ([p].map Prod.fst).length ([p].map Prod.fst) :=
  ⟨rfl, .inr ⟨w.heap.size, 1, #[p.1], rfl, hb, heap_alloc_new w _, Nat.le_refl _, by decide, rfl, rfl⟩⟩
/-- append of one text -/
theorem wpList_appendTx {w : World} {ops : Array Oper} {rest : List Oper} {o : Oper} {a : Act} {Q : Exit → Act → World → Prop} (hgd : o.guard = none) (s x : Operand)
    (ho : o.op = .call { callee := .builtin .append, args := #[s, x], argTypes := #[22, 22] })
    (base : Nat) (v : Value) (l : List (Value × List UInt8)) (hs : a.eval s = v) (hS : Txs w base v l)
    (A : Option Addr) (m c : Nat) (t : List UInt8) (g : Nat) (hx : a.eval x = .slice (some ⟨g, 0, none⟩) 1 1) (hX : Blk w g 46 #[.slice A m c]) (ht : w.ownsRow base 5 1 (.slice A m c) (t.map v8).length (t.map v8)) (hl : l.length ≤ 1000000000) (hbase : base ≤ w.heap.size)
    (h : ∀ v' w', Txs w' base v' (l ++ [(.slice A m c, t)]) → w.grownBy w' v.ownBlock → wpList Tryd.prog ops Q rest (a.put o.dst v') w') : wpList Tryd.prog ops Q (o :: rest) a w := by
  obtain ⟨i0, hi, hz0, hz1, hz2⟩ := info_parts (by kernel_rfl : (Tryd.prog.info? 46).map (fun i => (i.zero, i.size, i.bytes)) = some (some (.slice none 0 0), 1, 24))
  refine wpList_appendR hgd s x _ ho base 46 i0 _ 24 Tryd.underlying22 hi hz0 hz1 hz2 rfl v (l.map Prod.fst) hs hS.1 _ (some ⟨g, 0, none⟩) 1 1 [.slice A m c] hx (Reads.of_blk hX hX.lt 0) rfl (fun u hu => by rw [List.mem_singleton] at hu; subst hu; rfl) (by unfold maxLen; rw [List.length_map]; simp; omega) (by rw [List.length_map]; omega) hbase ?_
  intro v' w' hown' hg _
  refine h v' w' ⟨by rw [List.map_append]; exact hown', fun p hp => ?_⟩ hg
  rcases List.mem_append.1 hp with hp | hp
  · exact own_grownT hS.1 (hS.2 p hp) (by decide) hg
  · rw [List.mem_singleton.1 hp]; exact own_grownT hS.1 ht (by decide) hg
theorem nodeT_len (n : Nat) (a b : List UInt8) (hn : n ≤ 32) : (nodeT n a b).length ≤ 65 := by
  unfold nodeT; simp only [List.length_cons, List.length_append, List.length_take]; omega
/-- what Way hands back -/
def RWay (o : Option (List (List UInt8))) (w' : World) (e : Ending) : Prop :=
  ∃ u, e = .returned (.tuple #[u, .bool o.isSome]) ∧ ∀ X, o = some X → SSl w' w'.heap.size u X
theorem RWay.no {o : Option (List (List UInt8))} {w' : World} (h : o = none) (u : Value) : RWay o w' (.returned (.tuple #[u, .bool false])) := ⟨u, by rw [h]; rfl, fun X hX => by rw [h] at hX; cases hX⟩
set_option maxHeartbeats 6000000 in
set_option maxRecDepth 100000 in
theorem rway_any (h : Value) (n : Nat) (v : Value) (b : List UInt8) (i s : Nat) (hi64 : i ≤ 18446744073709551615) (hs64 : s ≤ 18446744073709551615) (pv : Value) (ps : List (List UInt8)) (hall : ∀ d ∈ ps, d.length = 32) (hps : ps.length ≤ 1000000) (w : World) (hh : Hsr w w.heap.size h n) (hv : BSl w w.heap.size v b) (hl : b.length ≤ 140737488351232) (hp : DX w pv ps) :
    Calls Tryd.prog 65 #[h, v, .int .u64 i, .int .u64 s, pv] w fun e w' => RWay (wayO n b i s ps) w' e ∧ Below w.heap.size w w' := by
  have Hall := Lib.hid hall
  clear hall
  by_cases hsi : s ≤ i
  · have ho : wayO n b i s ps = none := if_pos hsi
    have hsi' : (s : Int) ≤ (i : Int) := by omega
    have Ho := Lib.hid ho
    clear ho
    go_enter Tryd.func65, Tryd.ntmps65
    go_wp2_with fail
    try rw [Exit.noGoto_ret]
    go_ret2
    exact ⟨.no Ho.out _, Below.refl _ _⟩
  have ho : wayO n b i s ps = wayS n ps i (s - 1) [0 :: b] := if_neg hsi
  have hsi' : ¬ (s : Int) ≤ (i : Int) := by omega
  rw [ho]
  clear ho
  have hsub : (s : Int) - 1 = ((s - 1 : Nat) : Int) := by omega
  obtain ⟨sn0, hsn0⟩ : ∃ m, s - 1 = m := ⟨_, rfl⟩
  rw [hsn0] at hsub ⊢
  have hin : i ≤ sn0 := by omega
  have hs0 : sn0 ≤ 18446744073709551615 := by omega
  obtain ⟨g, t, rfl, hg, hB, hT, hn1, hn2⟩ := hh
  have Hh : Hid (Hsr w w.heap.size (.pointer (some ⟨g, 0, none⟩)) n) := Lib.hid ⟨g, t, rfl, hg, hB, hT, hn1, hn2⟩
  obtain ⟨gt, rfl, hgt, hTb⟩ := hT
  have Htb : Hid (Tbl w w.heap.size (.pointer (some ⟨gt, 0, none⟩))) := Lib.hid ⟨gt, rfl, hgt, hTb⟩
  have HB : Hid (Blk w g 122 #[.pointer (some ⟨gt, 0, none⟩), .int .i64 n]) := Lib.hid hB
  clear hTb hB
  obtain ⟨pA, pc, rfl, hp1, hp2, hp3⟩ := hp
  have HP : Hid (DX w (.slice pA ps.length pc) ps) := Lib.hid ⟨pA, pc, rfl, hp1, hp2, hp3⟩
  clear hp3 hp1
  go_enter Tryd.func65, Tryd.ntmps65
  go_wp2_with fail
  refine (r8ltext_own _ _ b w hv hl).mono ?_
  rintro e w1 ⟨u, rfl, hown, hbel⟩
  obtain ⟨Au, cu, hu⟩ := own_slice hown
  subst hu
  go_wp2_with fail
  have hS0 : Txs (w1.alloc (Obj.cells #[.slice Au ((0 :: b).map v8).length cu] 46)) w.heap.size (.slice (some ⟨w1.heap.size, 0, none⟩) 1 1) [(.slice Au ((0 :: b).map v8).length cu, 0 :: b)] :=
    ⟨own_oneT w1 w.heap.size hbel.size (.slice Au ((0 :: b).map v8).length cu, 0 :: b), fun p hp => by rw [List.mem_singleton.1 hp]; exact own_below hown (below_new1 w1 _)⟩
  have hb0 : Below w.heap.size w (w1.alloc (Obj.cells #[.slice Au ((0 :: b).map v8).length cu] 46)) := hbel.trans ((below_new1 w1 _).mono hbel.size)
  simp only [List.length_map, List.length_cons] at hS0 hb0
  go_loopw [12, 13, 14, 15] (fun lv fv sv iv wr => ∃ (k fn sn : Nat) (l : List (Value × List UInt8)), k ≤ ps.length ∧ iv = .int .i64 k ∧ fv = .int .u64 fn ∧ sv = .int .u64 sn ∧ fn ≤ sn0 ∧ sn ≤ sn0 ∧ 1 ≤ l.length ∧ l.length ≤ k + 1 ∧ (∀ p ∈ l, p.2.length ≤ 140737488351233) ∧ Txs wr w.heap.size lv l ∧ Aside (wayS n ps i sn0 [0 :: b] = wayS n (ps.drop k) fn sn (l.map Prod.snd)) ∧ Below w.heap.size w wr) (fun _ _ sv _ _ => (intOf sv).toNat)
  case atStart => exact ⟨0, i, sn0, _, by omega, rfl, rfl, rfl, hin, Nat.le_refl _, Nat.le_refl _, by simp, (fun p hp => by rw [List.mem_singleton.1 hp]; simp only [List.length_cons]; omega), hS0, rfl, hb0⟩
  clear hS0 hb0 hown hbel
  case round =>
    obtain ⟨k, fn, sn, l, hkg, rfl, rfl, rfl, hfn, hsn, hll1, hll2, htl, hS, hA, hbel⟩ := hrel
    have HL := Lib.hid (And.intro hll1 (And.intro hll2 htl))
    clear hll1 hll2 htl
    by_cases h0 : sn = 0
    · subst h0
      have hA2 := hA.out
      rw [wayS_end] at hA2
      have HS := Lib.hid hS.ssl
      clear hA hS
      by_cases hk : k = ps.length
      · subst hk
        have HA := Lib.hid (hA2.trans (if_pos (List.drop_of_length_le (Nat.le_refl _))))
        clear hA2
        go_wp2_with fail
        try rw [Exit.noGoto_ret]
        go_ret2
        refine ⟨⟨_, by rw [HA.out]; rfl, fun X hX => ?_⟩, hbel⟩
        rw [HA.out] at hX
        injection hX with hX
        rw [← hX]; exact HS.out
      · have hke : ((k : Int) == (ps.length : Int)) = false := by rw [beq_eq_false_iff_ne]; omega
        have HA := Lib.hid (hA2.trans (if_neg (by rw [List.drop_eq_nil_iff]; omega)))
        clear hA2 hk
        go_wp2_with fail
        try rw [Exit.noGoto_ret]
        go_ret2
        exact ⟨.no HA.out _, hbel⟩
    have hs1 : (0 : Int) < (sn : Int) := by omega
    by_cases hsk : fn % 2 = 0 ∧ fn = sn
    · obtain ⟨hev, rfl⟩ := hsk
      have hrem : (fn : Int) % 2 = 0 := by omega
      have HA := Lib.hid (hA.out.trans (wayS_skip n fn _ _ hev h0))
      have HS := Lib.hid hS
      clear hA hS hev
      go_wp2_with fail
      go_roundw
      case rel =>
        refine ⟨k, fn / 2, fn / 2, l, hkg, rfl, by go_num, by go_num, by omega, by omega, HL.out.1, HL.out.2.1, HL.out.2.2, HS.out, HA.out, hbel⟩
      case measure => simp [intOf]; omega
    have hpick : ((fn : Int) % 2 = 1 ∧ True) ∨ ((fn : Int) % 2 = 0 ∧ ((fn : Int) == (sn : Int)) = false) := by
      rcases Nat.mod_two_eq_zero_or_one fn with h | h
      · right; exact ⟨by omega, by rw [beq_eq_false_iff_ne]; omega⟩
      · left; exact ⟨by omega, trivial⟩
    by_cases hk : k = ps.length
    · subst hk
      have HA := Lib.hid (hA.out.trans (by rw [List.drop_of_length_le (Nat.le_refl _), wayS_nil, if_neg h0]))
      clear hA hS hsk
      rcases hpick with ⟨hrem, hq⟩ | ⟨hrem, hq⟩
      all_goals
        go_wp2_with fail
        try rw [Exit.noGoto_ret]
        go_ret2
        exact ⟨.no HA.out _, hbel⟩
    have hke : ((k : Int) == (ps.length : Int)) = false := by rw [beq_eq_false_iff_ne]; omega
    have hlt : k < ps.length := by omega
    have hlt' : (k : Int) < (ps.length : Int) := by omega
    obtain ⟨A', c', e1, _, _, hh1⟩ := HP.out.next hbel
    injection e1 with e1 _ e1c
    subst e1c
    obtain ⟨gp, op, e3, hgp, hrp⟩ := hh1 k hlt
    rw [e3] at e1
    subst e1
    clear hh1 e3
    have hdl : (ps.getD k []).length = 32 := Hall.out _ (by rw [List.getD_eq_getElem?_getD, List.getElem?_eq_getElem hlt]; exact List.getElem_mem _)
    have hdrop : ps.drop k = ps.getD k [] :: ps.drop (k + 1) := by
      rw [List.drop_eq_getElem_cons hlt, List.getD_eq_getElem?_getD, List.getElem?_eq_getElem hlt]; rfl
    generalize ps.getD k [] = d at hrp hdl hdrop
    have HA := Lib.hid (And.intro hA.out hdrop)
    have Hdl := Lib.hid hdl
    clear hA hdrop hdl
    obtain ⟨j, hj⟩ : ∃ j, j + 1 = l.length := ⟨l.length - 1, by have := HL.out.1; omega⟩
    have hj1 : j < l.length := by omega
    obtain ⟨gl, cl, el, hgl, hcl⟩ := hS.at j hj1
    have htx := hS.text j hj1
    have htxl := HL.out.2.2 l[j] (List.getElem_mem hj1)
    have hlast := last_text n l j hj hj1
    rw [← hj] at el
    subst el
    generalize l[j].1 = tv at hcl htx
    generalize l[j].2 = tx at htx htxl hlast
    obtain ⟨tA, tc, rfl, htx1, htx2, htx3⟩ := htx
    have Htx : Hid (BSl wr wr.heap.size (.slice tA tx.length tc) tx) := Lib.hid ⟨tA, tc, rfl, htx1, htx2, htx3⟩
    clear htx1 htx2 htx3
    have hjs : (j : Int) + 1 - 1 = (j : Int) := by omega
    have hjl : (j : Int) < (j : Int) + 1 := by omega
    have hrlen := lastH_length n (l.map Prod.snd)
    obtain ⟨r, hr⟩ : ∃ r, lastH n (l.map Prod.snd) = r := ⟨_, rfl⟩
    rw [hr] at hlast hrlen
    have HR := Lib.hid (And.intro hr (And.intro hrlen (And.intro hlast (And.intro htxl hj))))
    have Hsk := Lib.hid hsk
    have hj6 : j ≤ 1000000 := by have := HL.out.2.1; omega
    clear hr hrlen hlast htxl hj hj1 hsk
    have HS := Lib.hid (And.intro hS hbel)
    have hgG : g < wr.heap.size := Nat.lt_of_lt_of_le hg hbel.size
    have hc0 : wr.cell? ⟨g, 0, none⟩ = some (.pointer (some ⟨gt, 0, none⟩)) := by have := (HB.out.below hbel hg).cell 0; simpa using this
    have hc1 : wr.cell? ⟨g, 1, none⟩ = some (.int .i64 n) := by have := (HB.out.below hbel hg).cell 1; simpa using this
    clear hS hbel
    rcases hpick with ⟨hrem, hq⟩ | ⟨hrem, hq⟩
    · go_upto_region 13 with fail
      go_cut [16] (fun p wx => ∃ G, p = .pointer (some ⟨G, 0, none⟩) ∧ wr.heap.size ≤ G ∧ Blk wx G 35 (dat r) ∧ Below wr.heap.size wr wx)
      case first =>
        refine wp_region_mixP (.plain 0 <| .plain 1 <| .plain 2 <| .plain 3 <| .plain 4 <| .plain 5 <| .plain 6 <| .plain 7 <| .plain 8 <| .plain 9 <| .plain 11 <| .plain 12 <| .plain 13 <| .plain 14 <| .two 10 16 (.two 15 16 (.only 16 <| .only 17 <| .done) (.only 15 <| .only 17 <| .done)) (.only 10 <| .only 15 <| .only 17 <| .done)) (by kernel_rfl) (by kernel_rfl) (fun W1 hb1 => ?_)
        have hd0 : W1.cell? ⟨g, 0, none⟩ = some (.pointer (some ⟨gt, 0, none⟩)) := (hb1.cell (p := ⟨g, 0, none⟩) hgG).trans hc0
        have hd1 : W1.cell? ⟨g, 1, none⟩ = some (.int .i64 n) := (hb1.cell (p := ⟨g, 1, none⟩) hgG).trans hc1
        have hd2 : W1.cell? ⟨gl, j, none⟩ = some (.slice tA tx.length tc) := (hb1.cell (p := ⟨gl, j, none⟩) hgl).trans hcl
        have hgG1 : g < W1.heap.size := Nat.lt_of_lt_of_le hgG hb1.size
        have hgl1 : gl < W1.heap.size := Nat.lt_of_lt_of_le hgl hb1.size
        clear hc0 hc1 hcl hrp
        iterate 14 (refine mix_plain rfl ?_; (first
          | (refine wpQuiet_nilCheck rfl (.tmp 46) rfl _ rfl ?_; simp only [Act.put, List.setIfInBounds_toArray, List.set_cons_zero, List.set_cons_succ])
          | (refine wpQuiet_nilCheck rfl (.tmp 57) rfl _ rfl ?_; simp only [Act.put, List.setIfInBounds_toArray, List.set_cons_zero, List.set_cons_succ])
          | (refine wpQuiet_load1 rfl _ (.tmp 48) rfl _ rfl _ Tryd.underlying89 rfl _ (fun _ ⟨e, he⟩ => by rw [he, plus_cell _ _ _ hgG1]; exact hd0) ?_; simp only [Act.put, List.setIfInBounds_toArray, List.set_cons_zero, List.set_cons_succ])
          | (refine wpQuiet_load1 rfl _ (.tmp 59) rfl _ rfl _ Tryd.underlying3 rfl _ (fun _ ⟨e, he⟩ => by rw [he, plus_cell _ _ _ hgG1]; exact hd1) ?_; simp only [Act.put, List.setIfInBounds_toArray, List.set_cons_zero, List.set_cons_succ])
          | (refine wpQuiet_load1 rfl _ (.tmp 54) rfl _ rfl _ Tryd.underlying46 rfl _ (fun _ ⟨e, he⟩ => by rw [he, plus_cell _ _ _ hgl1]; exact hd2) ?_; simp only [Act.put, List.setIfInBounds_toArray, List.set_cons_zero, List.set_cons_succ])
          | go_big_quiet_step (fail)); refine wpQuiet_nil ?_)
        clear hd0 hd1 hd2 hgG1 hgl1
        have hbw := Below.refl W1.heap.size W1
        refine mix_two_in rfl rfl (fun K hK => ?_) (fun K hK => ?_)
        · go_wp2_with fail
          refine (rsum_any _ _ tx W1 (Htb.out.nxt (HS.out.2.trans ((hb1.trans (hbw.mono hb1.size)).mono HS.out.2.size))) (Htx.out.next (hb1.trans (hbw.mono hb1.size))) (by have := HR.out.2.2.2.1; omega)).mono ?_
          rintro e W2 ⟨rfl, hb2⟩
          go_wp2_with fail
          refine hK _ _ (below_plus (hbw.trans (hb2.mono hbw.size))) ?_
          clear hK K
          replace hbw := hbw.trans (hb2.mono hbw.size)
          clear hb2
          refine mix_two_in rfl rfl (fun K hK => ?_) (fun K hK => ?_)
          · go_wp2_with fail
            refine (rcut_any (sha tx) (sha_length tx) (n : Int) W2).mono ?_
            rintro e W3 ⟨rfl, hb2⟩
            go_wp2_with fail
            refine hK _ _ (below_plus (hbw.trans (hb2.mono hbw.size))) ?_
            clear hK K
            replace hbw := hbw.trans (hb2.mono hbw.size)
            clear hb2
            refine mix_only_in rfl (fun K hK => ?_)
            go_wp2_with fail
            have hbw3 := hbw.trans ((below_new1 W3 (Obj.cells (arr 32 fun _ => 0) 35)).mono hbw.size)
            refine hK _ _ (below_plus hbw3) ?_
            clear hK K
            refine mix_atC (fun W => Blk W W3.heap.size 35 (arr 32 fun _ => 0) ∧ W1.heap.size ≤ W3.heap.size ∧ Below W1.heap.size W1 W) ⟨Blk.new W3 35 (arr 32 fun _ => 0), hbw.size, hbw3⟩ ?_
            clear hbw hbw3
            obtain ⟨gD, hgD⟩ : ∃ g, W3.heap.size = g := ⟨_, rfl⟩
            rw [hgD]
            clear hgD
            rintro W3a ⟨hD, hGD, hbw⟩
            refine mix_only_in rfl (fun K hK => ?_)
            refine wpList_storeDat rfl rfl 35 (.tmp 16) (.tmp 61) rfl gD rfl r _ (congrArg (fun z => Value.agg (dat z)) HR.out.2.2.1) _ hD (by kernel_rfl) ?_
            intro W9 hD9 hon9
            have hbw9 := below_only hbw hon9 hGD hbw.size
            go_wp2_with fail
            refine hK _ _ (below_plus hbw9) ?_
            clear hK K
            refine mix_done ?_
            go_wp2_with fail
            go_meet
            exact ⟨gD, rfl, Nat.le_trans hb1.size hGD, hD9, hb1.trans (hbw9.mono hb1.size)⟩
          · go_wp2_with fail
            have hbw3 := hbw.trans ((below_new1 W2 (Obj.cells (arr 32 fun _ => 0) 35)).mono hbw.size)
            refine hK _ _ (below_plus hbw3) ?_
            clear hK K
            refine mix_atC (fun W => Blk W W2.heap.size 35 (arr 32 fun _ => 0) ∧ W1.heap.size ≤ W2.heap.size ∧ Below W1.heap.size W1 W) ⟨Blk.new W2 35 (arr 32 fun _ => 0), hbw.size, hbw3⟩ ?_
            clear hbw hbw3
            obtain ⟨gD, hgD⟩ : ∃ g, W2.heap.size = g := ⟨_, rfl⟩
            rw [hgD]
            clear hgD
            rintro W2a ⟨hD, hGD, hbw⟩
            refine mix_only_in rfl (fun K hK => ?_)
            go_wp2_with fail
            refine (rcut_any (sha tx) (sha_length tx) (n : Int) W2a).mono ?_
            rintro e W3 ⟨rfl, hb2⟩
            go_wp2_with fail
            refine hK _ _ (below_plus (hbw.trans (hb2.mono hbw.size))) ?_
            clear hK K
            replace hD := hD.below hb2 hD.lt
            replace hbw := hbw.trans (hb2.mono hbw.size)
            clear hb2
            refine mix_only_in rfl (fun K hK => ?_)
            refine wpList_storeDat rfl rfl 35 (.tmp 16) (.tmp 61) rfl gD rfl r _ (congrArg (fun z => Value.agg (dat z)) HR.out.2.2.1) _ hD (by kernel_rfl) ?_
            intro W9 hD9 hon9
            have hbw9 := below_only hbw hon9 hGD hbw.size
            go_wp2_with fail
            refine hK _ _ (below_plus hbw9) ?_
            clear hK K
            refine mix_done ?_
            go_wp2_with fail
            go_meet
            exact ⟨gD, rfl, Nat.le_trans hb1.size hGD, hD9, hb1.trans (hbw9.mono hb1.size)⟩
        · go_wp2_with fail
          have hbw3 := hbw.trans ((below_new1 W1 (Obj.cells (arr 32 fun _ => 0) 35)).mono hbw.size)
          refine hK _ _ (below_plus hbw3) ?_
          clear hK K
          refine mix_atC (fun W => Blk W W1.heap.size 35 (arr 32 fun _ => 0) ∧ W1.heap.size ≤ W1.heap.size ∧ Below W1.heap.size W1 W) ⟨Blk.new W1 35 (arr 32 fun _ => 0), hbw.size, hbw3⟩ ?_
          clear hbw hbw3
          obtain ⟨gD, hgD⟩ : ∃ g, W1.heap.size = g := ⟨_, rfl⟩
          rw [hgD]
          rintro W1a ⟨hD, hGD, hbw⟩
          rw [← hgD] at hbw
          replace hGD : W1.heap.size ≤ gD := Nat.le_of_eq hgD
          clear hgD
          refine mix_only_in rfl (fun K hK => ?_)
          go_wp2_with fail
          refine (rsum_any _ _ tx W1a (Htb.out.nxt (HS.out.2.trans ((hb1.trans (hbw.mono hb1.size)).mono HS.out.2.size))) (Htx.out.next (hb1.trans (hbw.mono hb1.size))) (by have := HR.out.2.2.2.1; omega)).mono ?_
          rintro e W2 ⟨rfl, hb2⟩
          go_wp2_with fail
          refine hK _ _ (below_plus (hbw.trans (hb2.mono hbw.size))) ?_
          clear hK K
          replace hD := hD.below hb2 hD.lt
          replace hbw := hbw.trans (hb2.mono hbw.size)
          clear hb2
          refine mix_only_in rfl (fun K hK => ?_)
          go_wp2_with fail
          refine (rcut_any (sha tx) (sha_length tx) (n : Int) W2).mono ?_
          rintro e W3 ⟨rfl, hb2⟩
          go_wp2_with fail
          refine hK _ _ (below_plus (hbw.trans (hb2.mono hbw.size))) ?_
          clear hK K
          replace hD := hD.below hb2 hD.lt
          replace hbw := hbw.trans (hb2.mono hbw.size)
          clear hb2
          refine mix_only_in rfl (fun K hK => ?_)
          refine wpList_storeDat rfl rfl 35 (.tmp 16) (.tmp 61) rfl gD rfl r _ (congrArg (fun z => Value.agg (dat z)) HR.out.2.2.1) _ hD (by kernel_rfl) ?_
          intro W9 hD9 hon9
          have hbw9 := below_only hbw hon9 hGD hbw.size
          go_wp2_with fail
          refine hK _ _ (below_plus hbw9) ?_
          clear hK K
          refine mix_done ?_
          go_wp2_with fail
          go_meet
          exact ⟨gD, rfl, Nat.le_trans hb1.size hGD, hD9, hb1.trans (hbw9.mono hb1.size)⟩
      case rest =>
        obtain ⟨G16, rfl, hG16, hD, hb3⟩ := hcut
        have hS3 := HS.out.1.below hb3
        have hbel3 := HS.out.2.trans (hb3.mono HS.out.2.size)
        have hrp3 := range_next hrp hgp hb3
        have hgp3 : gp < wc.heap.size := Nat.lt_of_lt_of_le hgp hb3.size
        have hgG3 : g < wc.heap.size := Nat.lt_of_lt_of_le hgG hb3.size
        have hd1 : wc.cell? ⟨g, 1, none⟩ = some (.int .i64 n) := (hb3.cell (p := ⟨g, 1, none⟩) hgG).trans hc1
        have hGb : w.heap.size ≤ G16 := Nat.le_trans HS.out.2.size hG16
        clear HS hrp hgp hc0 hc1 hcl hgl hgG hb3 hG16 Htx
        have HS := Lib.hid (And.intro hS3 hbel3)
        clear hS3 hbel3
        go_upto_region 14 with fail
        go_cut [17] (fun p wx => ∃ G, p = .pointer (some ⟨G, 0, none⟩) ∧ Blk wx G 35 (dat (cutL d (n : Int))) ∧ Below wc.heap.size wc wx)
        case first =>
          refine wp_region_mixP (.plain 0 <| .plain 1 <| .plain 2 <| .plain 3 <| .plain 4 <| .plain 5 <| .plain 6 <| .plain 7 <| .two 8 9 (.only 9 <| .only 10 <| .done) (.only 8 <| .only 10 <| .done)) (by kernel_rfl) (by kernel_rfl) (fun W1 hb1 => ?_)
          replace hrp3 := range_next hrp3 hgp3 hb1
          have hd2 : W1.cell? ⟨g, 1, none⟩ = some (.int .i64 n) := (hb1.cell (p := ⟨g, 1, none⟩) hgG3).trans hd1
          have hgG1 : g < W1.heap.size := Nat.lt_of_lt_of_le hgG3 hb1.size
          clear hd1
          iterate 8 (refine mix_plain rfl ?_; (first
            | (refine wpQuiet_loadMid rfl 35 (.tmp 64) rfl gp (op + k * 32) rfl (dat d) _ (fun _ ⟨e, he⟩ => by rw [he]; exact range_plus hrp3 e) Tryd.underlying35 rfl (by rw [dat_size]; kernel_rfl) ?_; simp only [Act.put, List.setIfInBounds_toArray, List.set_cons_zero, List.set_cons_succ])
            | (refine wpQuiet_nilCheck rfl (.tmp 66) rfl _ rfl ?_; simp only [Act.put, List.setIfInBounds_toArray, List.set_cons_zero, List.set_cons_succ])
            | (refine wpQuiet_load1 rfl _ (.tmp 68) rfl _ rfl _ Tryd.underlying3 rfl _ (fun _ ⟨e, he⟩ => by rw [he, plus_cell _ _ _ hgG1]; exact hd2) ?_; simp only [Act.put, List.setIfInBounds_toArray, List.set_cons_zero, List.set_cons_succ])
            | go_big_quiet_step (fail)); refine wpQuiet_nil ?_)
          clear hd2 hgG1
          clear hD
          have hbw := Below.refl W1.heap.size W1
          refine mix_two_in rfl rfl (fun K hK => ?_) (fun K hK => ?_)
          · go_wp2_with fail
            refine (rcut_any d Hdl.out (n : Int) W1).mono ?_
            rintro e W2 ⟨rfl, hb2⟩
            go_wp2_with fail
            refine hK _ _ (below_plus (hbw.trans (hb2.mono hbw.size))) ?_
            clear hK K
            replace hbw := hbw.trans (hb2.mono hbw.size)
            clear hb2
            refine mix_only_in rfl (fun K hK => ?_)
            go_wp2_with fail
            have hbw3 := hbw.trans ((below_new1 W2 (Obj.cells (arr 32 fun _ => 0) 35)).mono hbw.size)
            refine hK _ _ (below_plus hbw3) ?_
            clear hK K
            refine mix_atC (fun W => Blk W W2.heap.size 35 (arr 32 fun _ => 0) ∧ W1.heap.size ≤ W2.heap.size ∧ Below W1.heap.size W1 W) ⟨Blk.new W2 35 (arr 32 fun _ => 0), hbw.size, hbw3⟩ ?_
            clear hbw hbw3
            obtain ⟨gD, hgD⟩ : ∃ g, W2.heap.size = g := ⟨_, rfl⟩
            rw [hgD]
            clear hgD
            rintro W2a ⟨hD, hGD, hbw⟩
            refine mix_only_in rfl (fun K hK => ?_)
            refine wpList_storeDat rfl rfl 35 (.tmp 17) (.tmp 70) rfl gD rfl _ _ rfl _ hD (by kernel_rfl) ?_
            intro W9 hD9 hon9
            have hbw9 := below_only hbw hon9 hGD hbw.size
            go_wp2_with fail
            refine hK _ _ (below_plus hbw9) ?_
            clear hK K
            refine mix_done ?_
            go_wp2_with fail
            go_meet
            exact ⟨gD, rfl, hD9, hb1.trans (hbw9.mono hb1.size)⟩
          · go_wp2_with fail
            have hbw3 := hbw.trans ((below_new1 W1 (Obj.cells (arr 32 fun _ => 0) 35)).mono hbw.size)
            refine hK _ _ (below_plus hbw3) ?_
            clear hK K
            refine mix_atC (fun W => Blk W W1.heap.size 35 (arr 32 fun _ => 0) ∧ W1.heap.size ≤ W1.heap.size ∧ Below W1.heap.size W1 W) ⟨Blk.new W1 35 (arr 32 fun _ => 0), hbw.size, hbw3⟩ ?_
            clear hbw hbw3
            obtain ⟨gD, hgD⟩ : ∃ g, W1.heap.size = g := ⟨_, rfl⟩
            rw [hgD]
            rintro W1a ⟨hD, hGD, hbw⟩
            rw [← hgD] at hbw
            replace hGD : W1.heap.size ≤ gD := Nat.le_of_eq hgD
            clear hgD
            refine mix_only_in rfl (fun K hK => ?_)
            go_wp2_with fail
            refine (rcut_any d Hdl.out (n : Int) W1a).mono ?_
            rintro e W2 ⟨rfl, hb2⟩
            go_wp2_with fail
            refine hK _ _ (below_plus (hbw.trans (hb2.mono hbw.size))) ?_
            clear hK K
            replace hD := hD.below hb2 hD.lt
            replace hbw := hbw.trans (hb2.mono hbw.size)
            clear hb2
            refine mix_only_in rfl (fun K hK => ?_)
            refine wpList_storeDat rfl rfl 35 (.tmp 17) (.tmp 70) rfl gD rfl _ _ rfl _ hD (by kernel_rfl) ?_
            intro W9 hD9 hon9
            have hbw9 := below_only hbw hon9 hGD hbw.size
            go_wp2_with fail
            refine hK _ _ (below_plus hbw9) ?_
            clear hK K
            refine mix_done ?_
            go_wp2_with fail
            go_meet
            exact ⟨gD, rfl, hD9, hb1.trans (hbw9.mono hb1.size)⟩
        case rest =>
          obtain ⟨G17, rfl, hE, hb4⟩ := hcut
          replace hD := hD.below hb4 hD.lt
          have hS4 := HS.out.1.below hb4
          have hbel4 := HS.out.2.trans (hb4.mono HS.out.2.size)
          clear HS hb4 hrp3 hgp3 hgG3 hd1
          have hcl := cutL_length d (n : Int) Hdl.out
          have hnR := nodeT_cutR n r d (by rw [Hdl.out]; exact hn2)
          have hnL := nodeT_cutL n r d (by rw [Hdl.out]; exact hn2)
          obtain ⟨c, hc⟩ : ∃ c, cutL d (n : Int) = c := ⟨_, rfl⟩
          rw [hc] at hE hcl hnR hnL
          have HC := Lib.hid (And.intro hcl (And.intro hnR hnL))
          clear hc hcl hnR hnL
          have HS := Lib.hid (And.intro hS4 hbel4)
          clear hS4 hbel4
          go_wp2_with (first
            | (refine wpList_loadW (by rfl) 35 (.tmp 17) rfl G17 rfl _ _ _ hE Tryd.underlying35 rfl (by kernel_rfl) ?_)
            | (refine wpList_loadW (by rfl) 35 (.tmp 16) rfl G16 rfl _ _ _ hD Tryd.underlying35 rfl (by kernel_rfl) ?_))
          refine (r8ntext_own _ n c r HC.out.1 HR.out.2.1 wc (Hh.out.nxt HS.out.2)).mono ?_
          rintro e W4 ⟨u, rfl, hown, hb4⟩
          obtain ⟨Au4, cu4, hu4⟩ := own_slice hown
          subst hu4
          have hS4 := HS.out.1.below hb4
          have hbel4 := HS.out.2.trans (hb4.mono HS.out.2.size)
          have hown5 : W4.ownsRow w.heap.size 5 1 (.slice Au4 (List.map v8 (1 :: (c.take n ++ r.take n))).length cu4) ((nodeT n c r).map v8).length ((nodeT n c r).map v8) := own_base hown HS.out.2.size
          clear HS hb4 hD hE hown
          obtain ⟨m4, hm4⟩ : ∃ m4, (List.map v8 (1 :: (c.take n ++ r.take n))).length = m4 := ⟨_, rfl⟩
          rw [hm4] at hown5 ⊢
          clear hm4
          have HT := Lib.hid (And.intro hS4 (And.intro hown5 hbel4))
          clear hS4 hown5 hbel4
          go_wp2_with (first
            | (refine wpList_appendTx rfl (.tmp 76) (.tmp 81) rfl w.heap.size _ l rfl (HT.out.1.below (below_new1 W4 _)) Au4 m4 cu4 (nodeT n c r) W4.heap.size rfl (Blk.new W4 _ _) (own_below HT.out.2.1 (below_new1 W4 _)) (by have := HL.out.2.1; omega) (Nat.le_trans HT.out.2.2.size (below_new1 W4 _).size) ?_; intro lv5 W5 hS5 hg5; refine wpl_at (fun W => Txs W w.heap.size lv5 (l ++ [(.slice Au4 m4 cu4, nodeT n c r)]) ∧ Below w.heap.size w W) ⟨hS5, below_own (HT.out.2.2.trans ((below_new1 W4 _).mono HT.out.2.2.size)) (HT.out.1.below (below_new1 W4 _)).1 hg5 (Nat.le_trans HT.out.2.2.size (below_new1 W4 _).size)⟩ ?_; clear hS5 hg5 HT W5; rintro W5 ⟨hS5, hbel5⟩))
          go_wp2_with fail
          go_roundw
          case rel =>
            refine ⟨k + 1, fn / 2, sn / 2, _, by omega, by go_num, by go_num, by go_num, by omega, by omega, by rw [List.length_append]; simp, by rw [List.length_append]; simpa using HL.out.2.1, (fun p hp => ?_), hS5, ?_, hbel5⟩
            · rcases List.mem_append.1 hp with hp | hp
              · exact HL.out.2.2 p hp
              · rw [List.mem_singleton.1 hp]; exact Nat.le_trans (nodeT_len n _ _ hn2) (by decide)
            · show wayS _ _ _ _ _ = _
              rw [HA.out.1, HA.out.2, wayS_odd _ _ _ _ _ _ h0 (by omega), HR.out.1, List.map_append, ← HC.out.2.2]
              rfl
          case measure => simp [intOf]; omega
    · go_upto_region 13 with fail
      go_cut [16] (fun p wx => ∃ G, p = .pointer (some ⟨G, 0, none⟩) ∧ wr.heap.size ≤ G ∧ Blk wx G 35 (dat r) ∧ Below wr.heap.size wr wx)
      case first =>
        refine wp_region_mixP (.plain 0 <| .plain 1 <| .plain 2 <| .plain 3 <| .plain 4 <| .plain 5 <| .plain 6 <| .plain 7 <| .plain 8 <| .plain 9 <| .plain 11 <| .plain 12 <| .plain 13 <| .plain 14 <| .two 10 16 (.two 15 16 (.only 16 <| .only 17 <| .done) (.only 15 <| .only 17 <| .done)) (.only 10 <| .only 15 <| .only 17 <| .done)) (by kernel_rfl) (by kernel_rfl) (fun W1 hb1 => ?_)
        have hd0 : W1.cell? ⟨g, 0, none⟩ = some (.pointer (some ⟨gt, 0, none⟩)) := (hb1.cell (p := ⟨g, 0, none⟩) hgG).trans hc0
        have hd1 : W1.cell? ⟨g, 1, none⟩ = some (.int .i64 n) := (hb1.cell (p := ⟨g, 1, none⟩) hgG).trans hc1
        have hd2 : W1.cell? ⟨gl, j, none⟩ = some (.slice tA tx.length tc) := (hb1.cell (p := ⟨gl, j, none⟩) hgl).trans hcl
        have hgG1 : g < W1.heap.size := Nat.lt_of_lt_of_le hgG hb1.size
        have hgl1 : gl < W1.heap.size := Nat.lt_of_lt_of_le hgl hb1.size
        clear hc0 hc1 hcl hrp
        iterate 14 (refine mix_plain rfl ?_; (first
          | (refine wpQuiet_nilCheck rfl (.tmp 46) rfl _ rfl ?_; simp only [Act.put, List.setIfInBounds_toArray, List.set_cons_zero, List.set_cons_succ])
          | (refine wpQuiet_nilCheck rfl (.tmp 57) rfl _ rfl ?_; simp only [Act.put, List.setIfInBounds_toArray, List.set_cons_zero, List.set_cons_succ])
          | (refine wpQuiet_load1 rfl _ (.tmp 48) rfl _ rfl _ Tryd.underlying89 rfl _ (fun _ ⟨e, he⟩ => by rw [he, plus_cell _ _ _ hgG1]; exact hd0) ?_; simp only [Act.put, List.setIfInBounds_toArray, List.set_cons_zero, List.set_cons_succ])
          | (refine wpQuiet_load1 rfl _ (.tmp 59) rfl _ rfl _ Tryd.underlying3 rfl _ (fun _ ⟨e, he⟩ => by rw [he, plus_cell _ _ _ hgG1]; exact hd1) ?_; simp only [Act.put, List.setIfInBounds_toArray, List.set_cons_zero, List.set_cons_succ])
          | (refine wpQuiet_load1 rfl _ (.tmp 54) rfl _ rfl _ Tryd.underlying46 rfl _ (fun _ ⟨e, he⟩ => by rw [he, plus_cell _ _ _ hgl1]; exact hd2) ?_; simp only [Act.put, List.setIfInBounds_toArray, List.set_cons_zero, List.set_cons_succ])
          | go_big_quiet_step (fail)); refine wpQuiet_nil ?_)
        clear hd0 hd1 hd2 hgG1 hgl1
        have hbw := Below.refl W1.heap.size W1
        refine mix_two_in rfl rfl (fun K hK => ?_) (fun K hK => ?_)
        · go_wp2_with fail
          refine (rsum_any _ _ tx W1 (Htb.out.nxt (HS.out.2.trans ((hb1.trans (hbw.mono hb1.size)).mono HS.out.2.size))) (Htx.out.next (hb1.trans (hbw.mono hb1.size))) (by have := HR.out.2.2.2.1; omega)).mono ?_
          rintro e W2 ⟨rfl, hb2⟩
          go_wp2_with fail
          refine hK _ _ (below_plus (hbw.trans (hb2.mono hbw.size))) ?_
          clear hK K
          replace hbw := hbw.trans (hb2.mono hbw.size)
          clear hb2
          refine mix_two_in rfl rfl (fun K hK => ?_) (fun K hK => ?_)
          · go_wp2_with fail
            refine (rcut_any (sha tx) (sha_length tx) (n : Int) W2).mono ?_
            rintro e W3 ⟨rfl, hb2⟩
            go_wp2_with fail
            refine hK _ _ (below_plus (hbw.trans (hb2.mono hbw.size))) ?_
            clear hK K
            replace hbw := hbw.trans (hb2.mono hbw.size)
            clear hb2
            refine mix_only_in rfl (fun K hK => ?_)
            go_wp2_with fail
            have hbw3 := hbw.trans ((below_new1 W3 (Obj.cells (arr 32 fun _ => 0) 35)).mono hbw.size)
            refine hK _ _ (below_plus hbw3) ?_
            clear hK K
            refine mix_atC (fun W => Blk W W3.heap.size 35 (arr 32 fun _ => 0) ∧ W1.heap.size ≤ W3.heap.size ∧ Below W1.heap.size W1 W) ⟨Blk.new W3 35 (arr 32 fun _ => 0), hbw.size, hbw3⟩ ?_
            clear hbw hbw3
            obtain ⟨gD, hgD⟩ : ∃ g, W3.heap.size = g := ⟨_, rfl⟩
            rw [hgD]
            clear hgD
            rintro W3a ⟨hD, hGD, hbw⟩
            refine mix_only_in rfl (fun K hK => ?_)
            refine wpList_storeDat rfl rfl 35 (.tmp 16) (.tmp 61) rfl gD rfl r _ (congrArg (fun z => Value.agg (dat z)) HR.out.2.2.1) _ hD (by kernel_rfl) ?_
            intro W9 hD9 hon9
            have hbw9 := below_only hbw hon9 hGD hbw.size
            go_wp2_with fail
            refine hK _ _ (below_plus hbw9) ?_
            clear hK K
            refine mix_done ?_
            go_wp2_with fail
            go_meet
            exact ⟨gD, rfl, Nat.le_trans hb1.size hGD, hD9, hb1.trans (hbw9.mono hb1.size)⟩
          · go_wp2_with fail
            have hbw3 := hbw.trans ((below_new1 W2 (Obj.cells (arr 32 fun _ => 0) 35)).mono hbw.size)
            refine hK _ _ (below_plus hbw3) ?_
            clear hK K
            refine mix_atC (fun W => Blk W W2.heap.size 35 (arr 32 fun _ => 0) ∧ W1.heap.size ≤ W2.heap.size ∧ Below W1.heap.size W1 W) ⟨Blk.new W2 35 (arr 32 fun _ => 0), hbw.size, hbw3⟩ ?_
            clear hbw hbw3
            obtain ⟨gD, hgD⟩ : ∃ g, W2.heap.size = g := ⟨_, rfl⟩
            rw [hgD]
            clear hgD
            rintro W2a ⟨hD, hGD, hbw⟩
            refine mix_only_in rfl (fun K hK => ?_)
            go_wp2_with fail
            refine (rcut_any (sha tx) (sha_length tx) (n : Int) W2a).mono ?_
            rintro e W3 ⟨rfl, hb2⟩
            go_wp2_with fail
            refine hK _ _ (below_plus (hbw.trans (hb2.mono hbw.size))) ?_
            clear hK K
            replace hD := hD.below hb2 hD.lt
            replace hbw := hbw.trans (hb2.mono hbw.size)
            clear hb2
            refine mix_only_in rfl (fun K hK => ?_)
            refine wpList_storeDat rfl rfl 35 (.tmp 16) (.tmp 61) rfl gD rfl r _ (congrArg (fun z => Value.agg (dat z)) HR.out.2.2.1) _ hD (by kernel_rfl) ?_
            intro W9 hD9 hon9
            have hbw9 := below_only hbw hon9 hGD hbw.size
            go_wp2_with fail
            refine hK _ _ (below_plus hbw9) ?_
            clear hK K
            refine mix_done ?_
            go_wp2_with fail
            go_meet
            exact ⟨gD, rfl, Nat.le_trans hb1.size hGD, hD9, hb1.trans (hbw9.mono hb1.size)⟩
        · go_wp2_with fail
          have hbw3 := hbw.trans ((below_new1 W1 (Obj.cells (arr 32 fun _ => 0) 35)).mono hbw.size)
          refine hK _ _ (below_plus hbw3) ?_
          clear hK K
          refine mix_atC (fun W => Blk W W1.heap.size 35 (arr 32 fun _ => 0) ∧ W1.heap.size ≤ W1.heap.size ∧ Below W1.heap.size W1 W) ⟨Blk.new W1 35 (arr 32 fun _ => 0), hbw.size, hbw3⟩ ?_
          clear hbw hbw3
          obtain ⟨gD, hgD⟩ : ∃ g, W1.heap.size = g := ⟨_, rfl⟩
          rw [hgD]
          rintro W1a ⟨hD, hGD, hbw⟩
          rw [← hgD] at hbw
          replace hGD : W1.heap.size ≤ gD := Nat.le_of_eq hgD
          clear hgD
          refine mix_only_in rfl (fun K hK => ?_)
          go_wp2_with fail
          refine (rsum_any _ _ tx W1a (Htb.out.nxt (HS.out.2.trans ((hb1.trans (hbw.mono hb1.size)).mono HS.out.2.size))) (Htx.out.next (hb1.trans (hbw.mono hb1.size))) (by have := HR.out.2.2.2.1; omega)).mono ?_
          rintro e W2 ⟨rfl, hb2⟩
          go_wp2_with fail
          refine hK _ _ (below_plus (hbw.trans (hb2.mono hbw.size))) ?_
          clear hK K
          replace hD := hD.below hb2 hD.lt
          replace hbw := hbw.trans (hb2.mono hbw.size)
          clear hb2
          refine mix_only_in rfl (fun K hK => ?_)
          go_wp2_with fail
          refine (rcut_any (sha tx) (sha_length tx) (n : Int) W2).mono ?_
          rintro e W3 ⟨rfl, hb2⟩
          go_wp2_with fail
          refine hK _ _ (below_plus (hbw.trans (hb2.mono hbw.size))) ?_
          clear hK K
          replace hD := hD.below hb2 hD.lt
          replace hbw := hbw.trans (hb2.mono hbw.size)
          clear hb2
          refine mix_only_in rfl (fun K hK => ?_)
          refine wpList_storeDat rfl rfl 35 (.tmp 16) (.tmp 61) rfl gD rfl r _ (congrArg (fun z => Value.agg (dat z)) HR.out.2.2.1) _ hD (by kernel_rfl) ?_
          intro W9 hD9 hon9
          have hbw9 := below_only hbw hon9 hGD hbw.size
          go_wp2_with fail
          refine hK _ _ (below_plus hbw9) ?_
          clear hK K
          refine mix_done ?_
          go_wp2_with fail
          go_meet
          exact ⟨gD, rfl, Nat.le_trans hb1.size hGD, hD9, hb1.trans (hbw9.mono hb1.size)⟩
      case rest =>
        obtain ⟨G16, rfl, hG16, hD, hb3⟩ := hcut
        have hS3 := HS.out.1.below hb3
        have hbel3 := HS.out.2.trans (hb3.mono HS.out.2.size)
        have hrp3 := range_next hrp hgp hb3
        have hgp3 : gp < wc.heap.size := Nat.lt_of_lt_of_le hgp hb3.size
        have hgG3 : g < wc.heap.size := Nat.lt_of_lt_of_le hgG hb3.size
        have hd1 : wc.cell? ⟨g, 1, none⟩ = some (.int .i64 n) := (hb3.cell (p := ⟨g, 1, none⟩) hgG).trans hc1
        have hGb : w.heap.size ≤ G16 := Nat.le_trans HS.out.2.size hG16
        clear HS hrp hgp hc0 hc1 hcl hgl hgG hb3 hG16 Htx
        have HS := Lib.hid (And.intro hS3 hbel3)
        clear hS3 hbel3
        go_upto_region 14 with fail
        go_cut [17] (fun p wx => ∃ G, p = .pointer (some ⟨G, 0, none⟩) ∧ Blk wx G 35 (dat (cutL d (n : Int))) ∧ Below wc.heap.size wc wx)
        case first =>
          refine wp_region_mixP (.plain 0 <| .plain 1 <| .plain 2 <| .plain 3 <| .plain 4 <| .plain 5 <| .plain 6 <| .plain 7 <| .two 8 9 (.only 9 <| .only 10 <| .done) (.only 8 <| .only 10 <| .done)) (by kernel_rfl) (by kernel_rfl) (fun W1 hb1 => ?_)
          replace hrp3 := range_next hrp3 hgp3 hb1
          have hd2 : W1.cell? ⟨g, 1, none⟩ = some (.int .i64 n) := (hb1.cell (p := ⟨g, 1, none⟩) hgG3).trans hd1
          have hgG1 : g < W1.heap.size := Nat.lt_of_lt_of_le hgG3 hb1.size
          clear hd1
          iterate 8 (refine mix_plain rfl ?_; (first
            | (refine wpQuiet_loadMid rfl 35 (.tmp 64) rfl gp (op + k * 32) rfl (dat d) _ (fun _ ⟨e, he⟩ => by rw [he]; exact range_plus hrp3 e) Tryd.underlying35 rfl (by rw [dat_size]; kernel_rfl) ?_; simp only [Act.put, List.setIfInBounds_toArray, List.set_cons_zero, List.set_cons_succ])
            | (refine wpQuiet_nilCheck rfl (.tmp 66) rfl _ rfl ?_; simp only [Act.put, List.setIfInBounds_toArray, List.set_cons_zero, List.set_cons_succ])
            | (refine wpQuiet_load1 rfl _ (.tmp 68) rfl _ rfl _ Tryd.underlying3 rfl _ (fun _ ⟨e, he⟩ => by rw [he, plus_cell _ _ _ hgG1]; exact hd2) ?_; simp only [Act.put, List.setIfInBounds_toArray, List.set_cons_zero, List.set_cons_succ])
            | go_big_quiet_step (fail)); refine wpQuiet_nil ?_)
          clear hd2 hgG1
          clear hD
          have hbw := Below.refl W1.heap.size W1
          refine mix_two_in rfl rfl (fun K hK => ?_) (fun K hK => ?_)
          · go_wp2_with fail
            refine (rcut_any d Hdl.out (n : Int) W1).mono ?_
            rintro e W2 ⟨rfl, hb2⟩
            go_wp2_with fail
            refine hK _ _ (below_plus (hbw.trans (hb2.mono hbw.size))) ?_
            clear hK K
            replace hbw := hbw.trans (hb2.mono hbw.size)
            clear hb2
            refine mix_only_in rfl (fun K hK => ?_)
            go_wp2_with fail
            have hbw3 := hbw.trans ((below_new1 W2 (Obj.cells (arr 32 fun _ => 0) 35)).mono hbw.size)
            refine hK _ _ (below_plus hbw3) ?_
            clear hK K
            refine mix_atC (fun W => Blk W W2.heap.size 35 (arr 32 fun _ => 0) ∧ W1.heap.size ≤ W2.heap.size ∧ Below W1.heap.size W1 W) ⟨Blk.new W2 35 (arr 32 fun _ => 0), hbw.size, hbw3⟩ ?_
            clear hbw hbw3
            obtain ⟨gD, hgD⟩ : ∃ g, W2.heap.size = g := ⟨_, rfl⟩
            rw [hgD]
            clear hgD
            rintro W2a ⟨hD, hGD, hbw⟩
            refine mix_only_in rfl (fun K hK => ?_)
            refine wpList_storeDat rfl rfl 35 (.tmp 17) (.tmp 70) rfl gD rfl _ _ rfl _ hD (by kernel_rfl) ?_
            intro W9 hD9 hon9
            have hbw9 := below_only hbw hon9 hGD hbw.size
            go_wp2_with fail
            refine hK _ _ (below_plus hbw9) ?_
            clear hK K
            refine mix_done ?_
            go_wp2_with fail
            go_meet
            exact ⟨gD, rfl, hD9, hb1.trans (hbw9.mono hb1.size)⟩
          · go_wp2_with fail
            have hbw3 := hbw.trans ((below_new1 W1 (Obj.cells (arr 32 fun _ => 0) 35)).mono hbw.size)
            refine hK _ _ (below_plus hbw3) ?_
            clear hK K
            refine mix_atC (fun W => Blk W W1.heap.size 35 (arr 32 fun _ => 0) ∧ W1.heap.size ≤ W1.heap.size ∧ Below W1.heap.size W1 W) ⟨Blk.new W1 35 (arr 32 fun _ => 0), hbw.size, hbw3⟩ ?_
            clear hbw hbw3
            obtain ⟨gD, hgD⟩ : ∃ g, W1.heap.size = g := ⟨_, rfl⟩
            rw [hgD]
            rintro W1a ⟨hD, hGD, hbw⟩
            rw [← hgD] at hbw
            replace hGD : W1.heap.size ≤ gD := Nat.le_of_eq hgD
            clear hgD
            refine mix_only_in rfl (fun K hK => ?_)
            go_wp2_with fail
            refine (rcut_any d Hdl.out (n : Int) W1a).mono ?_
            rintro e W2 ⟨rfl, hb2⟩
            go_wp2_with fail
            refine hK _ _ (below_plus (hbw.trans (hb2.mono hbw.size))) ?_
            clear hK K
            replace hD := hD.below hb2 hD.lt
            replace hbw := hbw.trans (hb2.mono hbw.size)
            clear hb2
            refine mix_only_in rfl (fun K hK => ?_)
            refine wpList_storeDat rfl rfl 35 (.tmp 17) (.tmp 70) rfl gD rfl _ _ rfl _ hD (by kernel_rfl) ?_
            intro W9 hD9 hon9
            have hbw9 := below_only hbw hon9 hGD hbw.size
            go_wp2_with fail
            refine hK _ _ (below_plus hbw9) ?_
            clear hK K
            refine mix_done ?_
            go_wp2_with fail
            go_meet
            exact ⟨gD, rfl, hD9, hb1.trans (hbw9.mono hb1.size)⟩
        case rest =>
          obtain ⟨G17, rfl, hE, hb4⟩ := hcut
          replace hD := hD.below hb4 hD.lt
          have hS4 := HS.out.1.below hb4
          have hbel4 := HS.out.2.trans (hb4.mono HS.out.2.size)
          clear HS hb4 hrp3 hgp3 hgG3 hd1
          have hcl := cutL_length d (n : Int) Hdl.out
          have hnR := nodeT_cutR n r d (by rw [Hdl.out]; exact hn2)
          have hnL := nodeT_cutL n r d (by rw [Hdl.out]; exact hn2)
          obtain ⟨c, hc⟩ : ∃ c, cutL d (n : Int) = c := ⟨_, rfl⟩
          rw [hc] at hE hcl hnR hnL
          have HC := Lib.hid (And.intro hcl (And.intro hnR hnL))
          clear hc hcl hnR hnL
          have HS := Lib.hid (And.intro hS4 hbel4)
          clear hS4 hbel4
          go_wp2_with (first
            | (refine wpList_loadW (by rfl) 35 (.tmp 17) rfl G17 rfl _ _ _ hE Tryd.underlying35 rfl (by kernel_rfl) ?_)
            | (refine wpList_loadW (by rfl) 35 (.tmp 16) rfl G16 rfl _ _ _ hD Tryd.underlying35 rfl (by kernel_rfl) ?_))
          refine (r8ntext_own _ n r c HR.out.2.1 HC.out.1 wc (Hh.out.nxt HS.out.2)).mono ?_
          rintro e W4 ⟨u, rfl, hown, hb4⟩
          obtain ⟨Au4, cu4, hu4⟩ := own_slice hown
          subst hu4
          have hS4 := HS.out.1.below hb4
          have hbel4 := HS.out.2.trans (hb4.mono HS.out.2.size)
          have hown5 : W4.ownsRow w.heap.size 5 1 (.slice Au4 (List.map v8 (1 :: (r.take n ++ c.take n))).length cu4) ((nodeT n r c).map v8).length ((nodeT n r c).map v8) := own_base hown HS.out.2.size
          clear HS hb4 hD hE hown
          obtain ⟨m4, hm4⟩ : ∃ m4, (List.map v8 (1 :: (r.take n ++ c.take n))).length = m4 := ⟨_, rfl⟩
          rw [hm4] at hown5 ⊢
          clear hm4
          have HT := Lib.hid (And.intro hS4 (And.intro hown5 hbel4))
          clear hS4 hown5 hbel4
          go_wp2_with (first
            | (refine wpList_appendTx rfl (.tmp 83) (.tmp 88) rfl w.heap.size _ l rfl (HT.out.1.below (below_new1 W4 _)) Au4 m4 cu4 (nodeT n r c) W4.heap.size rfl (Blk.new W4 _ _) (own_below HT.out.2.1 (below_new1 W4 _)) (by have := HL.out.2.1; omega) (Nat.le_trans HT.out.2.2.size (below_new1 W4 _).size) ?_; intro lv5 W5 hS5 hg5; refine wpl_at (fun W => Txs W w.heap.size lv5 (l ++ [(.slice Au4 m4 cu4, nodeT n r c)]) ∧ Below w.heap.size w W) ⟨hS5, below_own (HT.out.2.2.trans ((below_new1 W4 _).mono HT.out.2.2.size)) (HT.out.1.below (below_new1 W4 _)).1 hg5 (Nat.le_trans HT.out.2.2.size (below_new1 W4 _).size)⟩ ?_; clear hS5 hg5 HT W5; rintro W5 ⟨hS5, hbel5⟩))
          go_wp2_with fail
          go_roundw
          case rel =>
            refine ⟨k + 1, fn / 2, sn / 2, _, by omega, by go_num, by go_num, by go_num, by omega, by omega, by rw [List.length_append]; simp, by rw [List.length_append]; simpa using HL.out.2.1, (fun p hp => ?_), hS5, ?_, hbel5⟩
            · rcases List.mem_append.1 hp with hp | hp
              · exact HL.out.2.2 p hp
              · rw [List.mem_singleton.1 hp]; exact Nat.le_trans (nodeT_len n _ _ hn2) (by decide)
            · show wayS _ _ _ _ _ = _
              rw [HA.out.1, HA.out.2, wayS_right _ _ _ _ _ _ h0 (by omega) (by have := Hsk.out; omega), HR.out.1, List.map_append, ← HC.out.2.1]
              rfl
          case measure => simp [intOf]; omega
end Go.Proofs.YtcgbokgedfekkaaDoor
