/- Texts that stand behind one another: VerJ. No condition. -/
import Derived.Test.YtppglfgggfkcmaaDoorP19
import Derived.Test.YtppglfgggfkcmaaDoorP16
/- The walk of the reference's Collide. No condition. -/
namespace Go.Proofs.YtppglfgggfkcmaaDoor
open Go Go.RowKit
attribute [local irreducible] mixW
attribute [local go_sem] n8_lo n8_hi n64_lo n64_hi n32_lo n32_hi
theorem SSl.lt {w : World} {A : Option Addr} {n cap : Nat} {ls : List (List UInt8)} (h : SSl w w.heap.size (.slice A n cap) ls) : n = ls.length := h.lens.1
theorem wayS_texts (n : Nat) (hn : n ≤ 32) (B : Nat) (hB : 65 ≤ B) : ∀ (ps : List (List UInt8)) (fn sn : Nat) (T X : List (List UInt8)), (∀ t ∈ T, t.length ≤ B) → wayS n ps fn sn T = some X → ∀ t ∈ X, t.length ≤ B := by
  intro ps
  induction ps with
  | nil =>
    intro fn sn T X hT hx
    rw [wayS_nil] at hx
    split at hx
    · injection hx with hx; subst hx; exact hT
    · cases hx
  | cons p ps ih =>
    intro fn sn T X hT hx
    rw [wayS] at hx
    split at hx
    · cases hx
    · have hnode : ∀ (a b : List UInt8), ∀ t ∈ T ++ [nodeT n a b], t.length ≤ B := fun a b t ht => by
        rcases List.mem_append.1 ht with h | h
        · exact hT t h
        · rw [List.mem_singleton.1 h]; exact Nat.le_trans (nodeT_len n a b hn) hB
      split at hx
      · exact ih _ _ _ _ (hnode _ _) hx
      · exact ih _ _ _ _ (hnode _ _) hx
theorem wayO_texts (n : Nat) (a : List UInt8) (i s : Nat) (ps X : List (List UInt8)) (hn : n ≤ 32) (hal : a.length ≤ 140737488351232) (h : wayO n a i s ps = some X) : ∀ t ∈ X, t.length ≤ 140737488351233 := by
  unfold wayO at h
  split at h
  · cases h
  · exact wayS_texts n hn _ (by decide) ps i (s - 1) [0 :: a] X (fun t ht => by rw [List.mem_singleton.1 ht]; simp only [List.length_cons]; omega) h
set_option maxHeartbeats 4000000 in
set_option maxRecDepth 100000 in
theorem rcoll_any (h : Value) (n : Nat) (av bv : Value) (a b : List UInt8) (i s : Nat) (hi64 : i ≤ 18446744073709551615) (hs64 : s ≤ 18446744073709551615) (pv qv : Value) (ps qs : List (List UInt8)) (hpall : ∀ d ∈ ps, d.length = 32) (hqall : ∀ d ∈ qs, d.length = 32) (hps : ps.length ≤ 1000000) (hqs : qs.length ≤ 1000000)
    (w : World) (hh : Hsr w w.heap.size h n) (ha : BSl w w.heap.size av a) (hb : BSl w w.heap.size bv b) (hal : a.length ≤ 140737488351232) (hbl : b.length ≤ 140737488351232) (hp : DX w pv ps) (hq : DX w qv qs) :
    Calls Tryd.prog 29 #[h, av, bv, .int .u64 i, .int .u64 s, pv, qv] w fun e w' => CollP (collS n a b i s ps qs) w' e ∧ Below w.heap.size w w' := by
  obtain ⟨r, hr⟩ : ∃ r, collS n a b i s ps qs = r := ⟨_, rfl⟩
  rw [hr]
  rw [collS_way] at hr
  have HP := Lib.hid (And.intro hpall hqall)
  clear hpall hqall
  obtain ⟨e0, he0⟩ : ∃ e, decide (a = b) = e := ⟨_, rfl⟩
  obtain ⟨g, t, rfl, hg, hB, hT, hn1, hn2⟩ := hh
  have Hh : Hid (Hsr w w.heap.size (.pointer (some ⟨g, 0, none⟩)) n) := Lib.hid ⟨g, t, rfl, hg, hB, hT, hn1, hn2⟩
  obtain ⟨gt, rfl, hgt, hTb⟩ := hT
  have Htb : Hid (Tbl w w.heap.size (.pointer (some ⟨gt, 0, none⟩))) := Lib.hid ⟨gt, rfl, hgt, hTb⟩
  have Hgc : Hid (w.cell? ⟨g, 0, none⟩ = some (.pointer (some ⟨gt, 0, none⟩)) ∧ w.cell? ⟨g, 1, none⟩ = some (.int .i64 n) ∧ g < w.heap.size) := Lib.hid ⟨by have := hB.cell 0; simpa using this, by have := hB.cell 1; simpa using this, hg⟩
  clear hTb hB
  go_enter Tryd.func29, Tryd.ntmps29
  have He0 := Lib.hid he0
  have Hr := Lib.hid hr
  have Hab := Lib.hid (And.intro ha hb)
  have Hpq := Lib.hid (And.intro hp hq)
  clear he0 hr ha hb hp hq
  go_wp2_with fail
  refine (rway_any _ n av a i s hi64 hs64 pv ps HP.out.1 hps w Hh.out Hab.out.1 hal Hpq.out.1).mono ?_
  rintro e W1 ⟨⟨u1, rfl, hX⟩, hbel⟩
  obtain ⟨o1, ho1⟩ : ∃ o, wayO n a i s ps = o := ⟨_, rfl⟩
  rw [ho1] at hX ⊢
  have Hr2 := Lib.hid (by have := Hr.out; rw [ho1] at this; exact this : (if a = b then none else match o1, wayO n b i s qs with
    | some X, some Y => if lastH n X = lastH n Y then collF n X Y else none
    | _, _ => none) = r)
  have H1 := Lib.hid hX
  have Hb1 := Lib.hid hbel
  have Ho1 := Lib.hid ho1
  clear hX ho1 Hr hbel
  go_wp2_with fail
  refine (rway_any _ n bv b i s hi64 hs64 qv qs HP.out.2 hqs W1 (Hh.out.nxt Hb1.out) (Hab.out.2.next Hb1.out) hbl (Hpq.out.2.next Hb1.out)).mono ?_
  rintro e W2 ⟨⟨u2, rfl, hX⟩, hb2⟩
  obtain ⟨o2, ho2⟩ : ∃ o, wayO n b i s qs = o := ⟨_, rfl⟩
  rw [ho2] at hX ⊢
  have Hr3 := Lib.hid (by have := Hr2.out; rw [ho2] at this; exact this : (if a = b then none else match o1, o2 with
    | some X, some Y => if lastH n X = lastH n Y then collF n X Y else none
    | _, _ => none) = r)
  have H2 := Lib.hid hX
  have Hb2 := Lib.hid hb2
  have Ho2 := Lib.hid ho2
  have hbel := Hb1.out.trans (hb2.mono Hb1.out.size)
  have Hab2 := Lib.hid (And.intro (Hab.out.1.next hbel) (Hab.out.2.next hbel))
  clear hX ho2 hb2 Hr2 Hab Hpq
  cases o1 with
  | none =>
    have hn : r = none := by have := Hr3.out; rw [← this]; split <;> rfl
    have Hn := Lib.hid hn
    clear hn Hr3
    simp only [Option.isSome_none]
    go_wp2_with fail
    try rw [Exit.noGoto_ret]
    go_ret3
    exact ⟨CollP.no Hn.out, hbel⟩
  | some X =>
  cases o2 with
  | none =>
    have hn : r = none := by have := Hr3.out; rw [← this]; split <;> rfl
    have Hn := Lib.hid hn
    clear hn Hr3
    simp only [Option.isSome_none, Option.isSome_some]
    go_wp2_with fail
    try rw [Exit.noGoto_ret]
    go_ret3
    exact ⟨CollP.no Hn.out, hbel⟩
  | some Y =>
  simp only [Option.isSome_some]
  cases e0 with
  | true =>
    have hn : r = none := by rw [← Hr3.out]; exact if_pos (of_decide_eq_true He0.out)
    have Hn := Lib.hid hn
    clear hn Hr3
    go_wp2_with (first
      | (refine wpList_unguard rfl ?_; refine wpList_str rfl (.tmp 48) rfl av a _ rfl Hab2.out.1 ?_)
      | (refine wpList_unguard rfl ?_; refine wpList_str rfl (.tmp 50) rfl bv b _ rfl Hab2.out.2 ?_)
      | (refine wpList_unguard rfl ?_; refine wpList_eqStr rfl (.tmp 49) (.tmp 51) _ rfl a b rfl rfl true He0.out ?_))
    try rw [Exit.noGoto_ret]
    go_ret3
    exact ⟨CollP.no Hn.out, hbel⟩
  | false =>
  have hr4 : (if lastH n X = lastH n Y then collF n X Y else none) = r := by have := Hr3.out; rw [if_neg (of_decide_eq_false He0.out)] at this; exact this
  have hlen := wayO_alike _ _ _ _ _ _ _ _ _ Ho1.out Ho2.out
  have hlen1 := wayO_len _ _ _ _ _ _ Ho1.out
  have hX1 := (H1.out X rfl).next Hb2.out
  have hY1 := H2.out Y rfl
  have hXl : ∀ t ∈ X, t.length ≤ 140737488351233 := wayO_texts n a i s ps X hn2 hal Ho1.out
  have hYl : ∀ t ∈ Y, t.length ≤ 140737488351233 := wayO_texts n b i s qs Y hn2 hbl Ho2.out
  have HXl := Lib.hid (And.intro hXl hYl)
  obtain ⟨A1, c1, vs1, rfl, x2, x3, x4, x5, x6⟩ := hX1
  obtain ⟨A2, c2, vs2, rfl, y2, y3, y4, y5, y6⟩ := hY1
  have HX : Hid (SSl W2 W2.heap.size (.slice A1 X.length c1) X) := Lib.hid ⟨A1, c1, vs1, rfl, x2, x3, x4, x5, x6⟩
  have HY : Hid (SSl W2 W2.heap.size (.slice A2 Y.length c2) Y) := Lib.hid ⟨A2, c2, vs2, rfl, y2, y3, y4, y5, y6⟩
  clear x2 x3 x4 x5 x6 y2 y3 y4 y5 y6 vs1 vs2 hXl hYl H1 H2 Hr3
  have Hgc2 : Hid (W2.cell? ⟨g, 0, none⟩ = some (.pointer (some ⟨gt, 0, none⟩)) ∧ W2.cell? ⟨g, 1, none⟩ = some (.int .i64 n) ∧ g < W2.heap.size) := Lib.hid ⟨(hbel.cell (p := ⟨g, 0, none⟩) Hgc.out.2.2).trans Hgc.out.1, (hbel.cell (p := ⟨g, 1, none⟩) Hgc.out.2.2).trans Hgc.out.2.1, Nat.lt_of_lt_of_le Hgc.out.2.2 hbel.size⟩
  have Htb2 := Lib.hid (Htb.out.nxt hbel)
  have Hbel := Lib.hid hbel
  clear Hgc Htb Hh hbel Hb1 Hb2 Ho1 Ho2
  rw [← hlen] at HY ⊢
  obtain ⟨N, hN⟩ : ∃ N, X.length = N := ⟨_, rfl⟩
  rw [hN] at HX HY hlen hlen1 ⊢
  obtain ⟨K, hK⟩ : ∃ K, K + 1 = N := ⟨N - 1, by omega⟩
  have hN6 : N ≤ 1000001 := by omega
  have HN := Lib.hid (And.intro hN hlen.symm)
  have hK1 : (N : Int) - 1 = (K : Int) := by omega
  have hK2 : (K : Int) < (N : Int) := by omega
  have hK6 : K ≤ 1000001 := by omega
  have HK := Lib.hid hK
  have hKX : K < X.length := by omega
  have hKY : K < Y.length := by omega
  obtain ⟨xb, xo, xu, exA, hxb, hxc, hxu⟩ := HX.out.cellAt K hKX
  subst exA
  obtain ⟨yb, yo, yu, eyA, hyb, hyc, hyu⟩ := HY.out.cellAt K hKY
  subst eyA
  have hlx := lastH_at n X K (by omega)
  have hly := lastH_at n Y K (by omega)
  have hxlen : (X.getD K []).length ≤ 140737488351233 := HXl.out.1 _ (by rw [List.getD_eq_getElem?_getD, List.getElem?_eq_getElem hKX]; exact List.getElem_mem _)
  have hylen : (Y.getD K []).length ≤ 140737488351233 := HXl.out.2 _ (by rw [List.getD_eq_getElem?_getD, List.getElem?_eq_getElem hKY]; exact List.getElem_mem _)
  clear hlen hlen1 hN hK hKX hKY
  generalize X.getD K [] = tX at hxu hlx hxlen
  generalize Y.getD K [] = tY at hyu hly hylen
  have HLl := Lib.hid (And.intro (lastH_length n X) (lastH_length n Y))
  have Hr4 := Lib.hid hr4
  clear hr4
  generalize lastH n X = lX at HLl Hr4 hlx
  generalize lastH n Y = lY at HLl Hr4 hly
  have Hlxy := Lib.hid (And.intro hlx (And.intro hly (And.intro hxlen hylen)))
  clear hlx hly hxlen hylen
  obtain ⟨e1, he1⟩ : ∃ e, decide (lX = lY) = e := ⟨_, rfl⟩
  have He1 := Lib.hid he1
  clear he1
  have Hxu := Lib.hid (And.intro hxu hyu)
  clear hxu hyu
  go_wp2_with (first
    | (refine wpList_unguard rfl ?_; refine wpList_str rfl (.tmp 48) rfl av a _ rfl Hab2.out.1 ?_)
    | (refine wpList_unguard rfl ?_; refine wpList_str rfl (.tmp 50) rfl bv b _ rfl Hab2.out.2 ?_)
    | (refine wpList_unguard rfl ?_; refine wpList_eqStr rfl (.tmp 49) (.tmp 51) _ rfl a b rfl rfl false He0.out ?_))
  refine wp_region_mixP (.plain 0 <| .plain 1 <| .plain 2 <| .plain 3 <| .plain 4 <| .plain 5 <| .plain 6 <| .plain 7 <| .plain 9 <| .plain 10 <| .plain 11 <| .plain 12 <| .plain 14 <| .plain 15 <| .plain 16 <| .plain 17 <| .plain 18 <| .plain 19 <| .plain 20 <| .plain 21 <| .plain 23 <| .plain 24 <| .plain 25 <| .plain 26 <| .only 8 <| .only 13 <| .only 22 <| .only 27 <| .plain 28 <| .done) (by kernel_rfl) (by kernel_rfl) (fun W3 hb3 => ?_)
  have c0 := (hb3.cell (p := ⟨g, 0, none⟩) Hgc2.out.2.2).trans Hgc2.out.1
  have c1' := (hb3.cell (p := ⟨g, 1, none⟩) Hgc2.out.2.2).trans Hgc2.out.2.1
  have hg3 : g < W3.heap.size := Nat.lt_of_lt_of_le Hgc2.out.2.2 hb3.size
  replace hxc := (hb3.cell (p := ⟨xb, xo + K, none⟩) hxb).trans hxc
  replace hyc := (hb3.cell (p := ⟨yb, yo + K, none⟩) hyb).trans hyc
  have hxb3 : xb < W3.heap.size := Nat.lt_of_lt_of_le hxb hb3.size
  have hyb3 : yb < W3.heap.size := Nat.lt_of_lt_of_le hyb hb3.size
  iterate 24 (refine mix_plain rfl ?_; (first
    | (refine wpQuiet_nilCheck rfl (.tmp 57) rfl _ rfl ?_; simp only [Act.put, List.setIfInBounds_toArray, List.set_cons_zero, List.set_cons_succ])
    | (refine wpQuiet_nilCheck rfl (.tmp 66) rfl _ rfl ?_; simp only [Act.put, List.setIfInBounds_toArray, List.set_cons_zero, List.set_cons_succ])
    | (refine wpQuiet_nilCheck rfl (.tmp 71) rfl _ rfl ?_; simp only [Act.put, List.setIfInBounds_toArray, List.set_cons_zero, List.set_cons_succ])
    | (refine wpQuiet_nilCheck rfl (.tmp 80) rfl _ rfl ?_; simp only [Act.put, List.setIfInBounds_toArray, List.set_cons_zero, List.set_cons_succ])
    | (refine wpQuiet_load1 rfl _ (.tmp 59) rfl _ rfl _ Tryd.underlying47 rfl _ (fun _ ⟨e, he⟩ => by rw [he, plus_cell _ _ _ hg3]; exact c0) ?_; simp only [Act.put, List.setIfInBounds_toArray, List.set_cons_zero, List.set_cons_succ])
    | (refine wpQuiet_load1 rfl _ (.tmp 73) rfl _ rfl _ Tryd.underlying47 rfl _ (fun _ ⟨e, he⟩ => by rw [he, plus_cell _ _ _ hg3]; exact c0) ?_; simp only [Act.put, List.setIfInBounds_toArray, List.set_cons_zero, List.set_cons_succ])
    | (refine wpQuiet_load1 rfl _ (.tmp 68) rfl _ rfl _ Tryd.underlying3 rfl _ (fun _ ⟨e, he⟩ => by rw [he, plus_cell _ _ _ hg3]; exact c1') ?_; simp only [Act.put, List.setIfInBounds_toArray, List.set_cons_zero, List.set_cons_succ])
    | (refine wpQuiet_load1 rfl _ (.tmp 82) rfl _ rfl _ Tryd.underlying3 rfl _ (fun _ ⟨e, he⟩ => by rw [he, plus_cell _ _ _ hg3]; exact c1') ?_; simp only [Act.put, List.setIfInBounds_toArray, List.set_cons_zero, List.set_cons_succ])
    | (refine wpQuiet_load1 rfl _ (.tmp 63) rfl _ rfl _ Tryd.underlying22 rfl _ (fun _ ⟨e, he⟩ => by rw [he, plus_cell _ _ _ hxb3]; exact hxc) ?_; simp only [Act.put, List.setIfInBounds_toArray, List.set_cons_zero, List.set_cons_succ])
    | (refine wpQuiet_load1 rfl _ (.tmp 77) rfl _ rfl _ Tryd.underlying22 rfl _ (fun _ ⟨e, he⟩ => by rw [he, plus_cell _ _ _ hyb3]; exact hyc) ?_; simp only [Act.put, List.setIfInBounds_toArray, List.set_cons_zero, List.set_cons_succ])
    | go_big_quiet_step (fail)); refine wpQuiet_nil ?_)
  clear c0 c1' hxc hyc hg3 hxb3 hyb3 hxb hyb
  refine mix_only rfl (fun K hK => ?_)
  go_wp2_with fail
  refine (rsum_any _ _ tX _ (Htb2.out.nxt hb3) (Hxu.out.1.next hb3) (by have := Hlxy.out.2.2.1; omega)).mono ?_
  rintro e W3a ⟨rfl, hbx⟩
  go_wp2_with fail
  refine hK _ _ hbx ?_
  clear hK K
  replace hb3 := hb3.trans (hbx.mono hb3.size)
  clear hbx
  refine mix_only rfl (fun K hK => ?_)
  go_wp2_with fail
  refine (rcut_any (sha tX) (sha_length tX) (n : Int) _).mono ?_
  rintro e W3b ⟨rfl, hbx⟩
  go_wp2_with fail
  refine hK _ _ hbx ?_
  clear hK K
  replace hb3 := hb3.trans (hbx.mono hb3.size)
  clear hbx
  refine mix_only rfl (fun K hK => ?_)
  go_wp2_with fail
  refine (rsum_any _ _ tY _ (Htb2.out.nxt hb3) (Hxu.out.2.next hb3) (by have := Hlxy.out.2.2.2; omega)).mono ?_
  rintro e W3c ⟨rfl, hbx⟩
  go_wp2_with fail
  refine hK _ _ hbx ?_
  clear hK K
  replace hb3 := hb3.trans (hbx.mono hb3.size)
  clear hbx
  refine mix_only rfl (fun K hK => ?_)
  go_wp2_with fail
  refine (rcut_any (sha tY) (sha_length tY) (n : Int) _).mono ?_
  rintro e W3d ⟨rfl, hbx⟩
  go_wp2_with fail
  refine hK _ _ hbx ?_
  clear hK K
  replace hb3 := hb3.trans (hbx.mono hb3.size)
  clear hbx
  refine mix_plain rfl ?_
  refine wpQuiet_neD rfl (.tmp 70) (.tmp 84) _ rfl lX lY (congrArg (fun z => Value.agg (dat z)) Hlxy.out.1) (congrArg (fun z => Value.agg (dat z)) Hlxy.out.2.1) HLl.out.1 HLl.out.2 e1 He1.out ?_
  simp only [Act.put, List.setIfInBounds_toArray, List.set_cons_zero, List.set_cons_succ]
  refine wpQuiet_nil ?_
  refine mix_done ?_
  cases e1 with
  | false =>
    have hn : r = none := by rw [← Hr4.out]; exact if_neg (of_decide_eq_false He1.out)
    have Hn := Lib.hid hn
    clear hn
    go_wp2_with fail
    try rw [Exit.noGoto_ret]
    go_ret3
    exact ⟨CollP.no Hn.out, Hbel.out.trans (hb3.mono Hbel.out.size)⟩
  | true =>
  have Hr5 := Lib.hid (by have := Hr4.out; rw [if_pos (of_decide_eq_true He1.out)] at this; exact this : collF n X Y = r)
  clear Hr4 He1 HLl Hlxy Hxu
  go_wp2_with fail
  rename_i W7
  go_loopg [22] N (fun gk2 iv wr => ∃ k : Nat, k + gk2 = N ∧ iv = .int .i64 k ∧ Aside (collF n (X.drop k) (Y.drop k) = r) ∧ Below W2.heap.size W2 wr)
  case atStart => exact ⟨0, by omega, rfl, Hr5.out, hb3⟩
  clear hb3
  case round =>
    obtain ⟨k, hkl, rfl, hA, hb4⟩ := hrel
    by_cases hlt : k < N
    · have hlt' : (k : Int) ≤ (K : Int) := by have := HK.out; omega
      have hltN : (k : Int) < (N : Int) := by omega
      have hkX : k < X.length := by have := HN.out.1; omega
      have hkY : k < Y.length := by have := HN.out.2; omega
      have hcd := collF_drop n X Y k hkX hkY
      rw [hA.out] at hcd
      obtain ⟨xb2, xo2, xu2, ex, hxb, hxc, hxu⟩ := (HX.out.next hb4).cellAt k hkX
      injection ex with ex
      injection ex with ex1 ex2
      subst ex1; subst ex2
      obtain ⟨yb2, yo2, yu2, ey, hyb, hyc, hyu⟩ := (HY.out.next hb4).cellAt k hkY
      injection ey with ey
      injection ey with ey1 ey2
      subst ey1; subst ey2
      have hxlen : (X.getD k []).length ≤ 140737488351233 := HXl.out.1 _ (by rw [List.getD_eq_getElem?_getD, List.getElem?_eq_getElem hkX]; exact List.getElem_mem _)
      have hylen : (Y.getD k []).length ≤ 140737488351233 := HXl.out.2 _ (by rw [List.getD_eq_getElem?_getD, List.getElem?_eq_getElem hkY]; exact List.getElem_mem _)
      clear hA hkX hkY
      generalize X.getD k [] = sX at hxu hxlen hcd
      generalize Y.getD k [] = sY at hyu hylen hcd
      have Hcd := Lib.hid hcd
      have Hlen := Lib.hid (And.intro hxlen hylen)
      clear hcd hxlen hylen
      obtain ⟨e3, he3⟩ : ∃ e, decide (sX = sY) = e := ⟨_, rfl⟩
      obtain ⟨e2, he2⟩ : ∃ e, decide (sumM n sX = sumM n sY) = e := ⟨_, rfl⟩
      have HE := Lib.hid (And.intro he2 he3)
      clear he2 he3
      go_upto_region 11 with fail
      refine wp_region_mixP (.plain 0 <| .plain 1 <| .plain 2 <| .plain 3 <| .plain 4 <| .plain 5 <| .plain 6 <| .plain 7 <| .plain 8 <| .plain 9 <| .plain 10 <| .plain 11 <| .plain 12 <| .plain 13 <| .plain 14 <| .plain 15 <| .plain 16 <| .plain 17 <| .plain 18 <| .plain 19 <| .plain 21 <| .plain 22 <| .plain 23 <| .plain 24 <| .plain 26 <| .plain 27 <| .plain 28 <| .plain 29 <| .plain 30 <| .plain 31 <| .plain 32 <| .plain 33 <| .plain 35 <| .plain 36 <| .plain 37 <| .plain 38 <| .only 20 <| .only 25 <| .only 34 <| .only 39 <| .plain 40 <| .plain 41 <| .done) (by kernel_rfl) (by kernel_rfl) (fun W5 hb5 => ?_)
      have hxc5 := (hb5.cell (p := ⟨xb, xo + k, none⟩) hxb).trans hxc
      have hyc5 := (hb5.cell (p := ⟨yb, yo + k, none⟩) hyb).trans hyc
      have hxb5 : xb < W5.heap.size := Nat.lt_of_lt_of_le hxb hb5.size
      have hyb5 : yb < W5.heap.size := Nat.lt_of_lt_of_le hyb hb5.size
      have HU := Lib.hid (And.intro (hxu.next hb5) (hyu.next hb5))
      replace hb4 := hb4.trans (hb5.mono hb4.size)
      clear hxc hyc hxb hyb hxu hyu hb5
      iterate 12 (refine mix_plain rfl ?_; (first
        | (refine wpQuiet_load1 rfl _ (.tmp 93) rfl _ rfl _ Tryd.underlying22 rfl _ (fun _ ⟨e, he⟩ => by rw [he, plus_cell _ _ _ hxb5]; exact hxc5) ?_; simp only [Act.put, List.setIfInBounds_toArray, List.set_cons_zero, List.set_cons_succ])
        | (refine wpQuiet_load1 rfl _ (.tmp 98) rfl _ rfl _ Tryd.underlying22 rfl _ (fun _ ⟨e, he⟩ => by rw [he, plus_cell _ _ _ hyb5]; exact hyc5) ?_; simp only [Act.put, List.setIfInBounds_toArray, List.set_cons_zero, List.set_cons_succ])
        | (refine wpQuiet_str rfl (.tmp 94) rfl xu2 sX W5.heap.size rfl (fun _ ⟨e, he⟩ => by rw [he]; exact HU.out.1.below (plus_below W5 e)) ?_; simp only [Act.put, List.setIfInBounds_toArray, List.set_cons_zero, List.set_cons_succ])
        | (refine wpQuiet_str rfl (.tmp 99) rfl yu2 sY W5.heap.size rfl (fun _ ⟨e, he⟩ => by rw [he]; exact HU.out.2.below (plus_below W5 e)) ?_; simp only [Act.put, List.setIfInBounds_toArray, List.set_cons_zero, List.set_cons_succ])
        | (refine wpQuiet_neStr rfl (.tmp 95) (.tmp 100) _ rfl sX sY rfl rfl e3 HE.out.2 ?_; simp only [Act.put, List.setIfInBounds_toArray, List.set_cons_zero, List.set_cons_succ])
        | go_big_quiet_step (fail)); refine wpQuiet_nil ?_)
      cases e3 with
      | true =>
        have Hn := Lib.hid (by rw [Hcd.out, if_neg (fun h => h.2 (of_decide_eq_true HE.out.2))] : collF n (X.drop (k + 1)) (Y.drop (k + 1)) = r)
        clear HU hxc5 hyc5 hxb5 hyb5
        iterate 24 (refine mix_skip rfl rfl ?_; simp only [Act.put, List.setIfInBounds_toArray, List.set_cons_zero, List.set_cons_succ])
        iterate 4 (refine mix_only rfl (fun K hK => ?_); go_wp2_with fail; refine hK _ _ (Below.refl _ _) ?_; clear hK K)
        refine mix_skip rfl rfl ?_
        simp only [Act.put, List.setIfInBounds_toArray, List.set_cons_zero, List.set_cons_succ]
        refine mix_plain rfl ?_
        go_big_quiet_step (fail)
        refine wpQuiet_nil ?_
        refine mix_done ?_
        go_wp2_with fail
        go_roundg (gk - 1)
        case measure => omega
        case rel => exact ⟨k + 1, by omega, by go_num, Hn.out, hb4⟩
      | false =>
        simp only [Bool.not_false]
        have c0 := (hb4.cell (p := ⟨g, 0, none⟩) Hgc2.out.2.2).trans Hgc2.out.1
        have c1' := (hb4.cell (p := ⟨g, 1, none⟩) Hgc2.out.2.2).trans Hgc2.out.2.1
        have hg3 : g < W5.heap.size := Nat.lt_of_lt_of_le Hgc2.out.2.2 hb4.size
        iterate 24 (refine mix_plain rfl ?_; (first
          | (refine wpQuiet_nilCheck rfl (.tmp 103) rfl _ rfl ?_; simp only [Act.put, List.setIfInBounds_toArray, List.set_cons_zero, List.set_cons_succ])
          | (refine wpQuiet_nilCheck rfl (.tmp 112) rfl _ rfl ?_; simp only [Act.put, List.setIfInBounds_toArray, List.set_cons_zero, List.set_cons_succ])
          | (refine wpQuiet_nilCheck rfl (.tmp 117) rfl _ rfl ?_; simp only [Act.put, List.setIfInBounds_toArray, List.set_cons_zero, List.set_cons_succ])
          | (refine wpQuiet_nilCheck rfl (.tmp 126) rfl _ rfl ?_; simp only [Act.put, List.setIfInBounds_toArray, List.set_cons_zero, List.set_cons_succ])
          | (refine wpQuiet_load1 rfl _ (.tmp 105) rfl _ rfl _ Tryd.underlying47 rfl _ (fun _ ⟨e, he⟩ => by rw [he, plus_cell _ _ _ hg3]; exact c0) ?_; simp only [Act.put, List.setIfInBounds_toArray, List.set_cons_zero, List.set_cons_succ])
          | (refine wpQuiet_load1 rfl _ (.tmp 119) rfl _ rfl _ Tryd.underlying47 rfl _ (fun _ ⟨e, he⟩ => by rw [he, plus_cell _ _ _ hg3]; exact c0) ?_; simp only [Act.put, List.setIfInBounds_toArray, List.set_cons_zero, List.set_cons_succ])
          | (refine wpQuiet_load1 rfl _ (.tmp 114) rfl _ rfl _ Tryd.underlying3 rfl _ (fun _ ⟨e, he⟩ => by rw [he, plus_cell _ _ _ hg3]; exact c1') ?_; simp only [Act.put, List.setIfInBounds_toArray, List.set_cons_zero, List.set_cons_succ])
          | (refine wpQuiet_load1 rfl _ (.tmp 128) rfl _ rfl _ Tryd.underlying3 rfl _ (fun _ ⟨e, he⟩ => by rw [he, plus_cell _ _ _ hg3]; exact c1') ?_; simp only [Act.put, List.setIfInBounds_toArray, List.set_cons_zero, List.set_cons_succ])
          | (refine wpQuiet_load1 rfl _ (.tmp 109) rfl _ rfl _ Tryd.underlying22 rfl _ (fun _ ⟨e, he⟩ => by rw [he, plus_cell _ _ _ hxb5]; exact hxc5) ?_; simp only [Act.put, List.setIfInBounds_toArray, List.set_cons_zero, List.set_cons_succ])
          | (refine wpQuiet_load1 rfl _ (.tmp 123) rfl _ rfl _ Tryd.underlying22 rfl _ (fun _ ⟨e, he⟩ => by rw [he, plus_cell _ _ _ hyb5]; exact hyc5) ?_; simp only [Act.put, List.setIfInBounds_toArray, List.set_cons_zero, List.set_cons_succ])
          | go_big_quiet_step (fail)); refine wpQuiet_nil ?_)
        clear c0 c1' hg3
        have hk5 := Below.refl W5.heap.size W5
        refine mix_only rfl (fun K hK => ?_)
        refine wpList_unguard rfl ?_
        go_wp2_with fail
        refine (rsum_any _ _ sX _ (Htb2.out.nxt (hb4.trans (hk5.mono hb4.size))) (HU.out.1.next hk5) (by have := Hlen.out.1; omega)).mono ?_
        rintro e W5a ⟨rfl, hbx⟩
        go_wp2_with fail
        refine hK _ _ hbx ?_
        clear hK K
        replace hk5 := hk5.trans (hbx.mono hk5.size)
        clear hbx
        refine mix_only rfl (fun K hK => ?_)
        refine wpList_unguard rfl ?_
        go_wp2_with fail
        refine (rcut_any (sha sX) (sha_length sX) (n : Int) _).mono ?_
        rintro e W5b ⟨rfl, hbx⟩
        go_wp2_with fail
        refine hK _ _ hbx ?_
        clear hK K
        replace hk5 := hk5.trans (hbx.mono hk5.size)
        clear hbx
        refine mix_only rfl (fun K hK => ?_)
        refine wpList_unguard rfl ?_
        go_wp2_with fail
        refine (rsum_any _ _ sY _ (Htb2.out.nxt (hb4.trans (hk5.mono hb4.size))) (HU.out.2.next hk5) (by have := Hlen.out.2; omega)).mono ?_
        rintro e W5c ⟨rfl, hbx⟩
        go_wp2_with fail
        refine hK _ _ hbx ?_
        clear hK K
        replace hk5 := hk5.trans (hbx.mono hk5.size)
        clear hbx
        refine mix_only rfl (fun K hK => ?_)
        refine wpList_unguard rfl ?_
        go_wp2_with fail
        refine (rcut_any (sha sY) (sha_length sY) (n : Int) _).mono ?_
        rintro e W9 ⟨rfl, hbx⟩
        go_wp2_with fail
        refine hK _ _ hbx ?_
        clear hK K
        replace hk5 := hk5.trans (hbx.mono hk5.size)
        clear hbx
        have Hs := Lib.hid (And.intro (sumM_length n sX) (sumM_length n sY))
        refine mix_plain rfl ?_
        refine wpQuiet_eqD rfl (.tmp 116) (.tmp 130) _ rfl (sumM n sX) (sumM n sY) rfl rfl Hs.out.1 Hs.out.2 e2 HE.out.1 ?_
        simp only [Act.put, List.setIfInBounds_toArray, List.set_cons_zero, List.set_cons_succ]
        refine wpQuiet_nil ?_
        refine mix_plain rfl ?_
        go_big_quiet_step (fail)
        refine wpQuiet_nil ?_
        refine mix_done ?_
        have hb6 := hb4.trans (hk5.mono hb4.size)
        have hxc6 := (hk5.cell (p := ⟨xb, xo + k, none⟩) hxb5).trans hxc5
        have hyc6 := (hk5.cell (p := ⟨yb, yo + k, none⟩) hyb5).trans hyc5
        have hxb6 : xb < W9.heap.size := Nat.lt_of_lt_of_le hxb5 hk5.size
        have hyb6 : yb < W9.heap.size := Nat.lt_of_lt_of_le hyb5 hk5.size
        have HU6 := Lib.hid (And.intro (HU.out.1.next hk5) (HU.out.2.next hk5))
        clear hxc5 hyc5 hxb5 hyb5 HU hk5 hb4
        cases e2 with
        | false =>
          have Hn := Lib.hid (by rw [Hcd.out, if_neg (fun h => of_decide_eq_false HE.out.1 h.1)] : collF n (X.drop (k + 1)) (Y.drop (k + 1)) = r)
          clear hxc6 hyc6 hxb6 hyb6 HU6
          go_wp2_with fail
          go_roundg (gk - 1)
          case measure => omega
          case rel => exact ⟨k + 1, by omega, by go_num, Hn.out, hb6⟩
        | true =>
          have hn : r = some (sX, sY) := by rw [Hcd.out, if_pos ⟨of_decide_eq_true HE.out.1, of_decide_eq_false HE.out.2⟩]
          have Hn := Lib.hid hn
          clear hn
          go_upto_region 12 with fail
          refine wp_region_mixP (.plain 0 <| .plain 1 <| .plain 2 <| .plain 3 <| .plain 4 <| .plain 5 <| .plain 6 <| .plain 7 <| .plain 8 <| .plain 9 <| .plain 10 <| .done) (by kernel_rfl) (by kernel_rfl) (fun W6 hb7 => ?_)
          have hxc7 := (hb7.cell (p := ⟨xb, xo + k, none⟩) hxb6).trans hxc6
          have hyc7 := (hb7.cell (p := ⟨yb, yo + k, none⟩) hyb6).trans hyc6
          have hxb7 : xb < W6.heap.size := Nat.lt_of_lt_of_le hxb6 hb7.size
          have hyb7 : yb < W6.heap.size := Nat.lt_of_lt_of_le hyb6 hb7.size
          have HF := Lib.hid (And.intro (HU6.out.1.next hb7) (And.intro (HU6.out.2.next hb7) (Hbel.out.trans ((hb6.trans (hb7.mono hb6.size)).mono Hbel.out.size))))
          clear hxc6 hyc6 hxb6 hyb6 HU6 hb6 hb7
          iterate 11 (refine mix_plain rfl ?_; (first
            | (refine wpQuiet_load1 rfl _ (.tmp 135) rfl _ rfl _ Tryd.underlying22 rfl _ (fun _ ⟨e, he⟩ => by rw [he, plus_cell _ _ _ hxb7]; exact hxc7) ?_; simp only [Act.put, List.setIfInBounds_toArray, List.set_cons_zero, List.set_cons_succ])
            | (refine wpQuiet_load1 rfl _ (.tmp 139) rfl _ rfl _ Tryd.underlying22 rfl _ (fun _ ⟨e, he⟩ => by rw [he, plus_cell _ _ _ hyb7]; exact hyc7) ?_; simp only [Act.put, List.setIfInBounds_toArray, List.set_cons_zero, List.set_cons_succ])
            | go_big_quiet_step (fail)); refine wpQuiet_nil ?_)
          refine mix_done ?_
          clear hxc7 hyc7
          go_wp2_with fail
          try rw [Exit.noGoto_ret]
          go_ret3
          exact ⟨⟨xu2, yu2, by rw [Hn.out]; rfl, by rw [Hn.out]; exact HF.out.1, by rw [Hn.out]; exact HF.out.2.1⟩, HF.out.2.2⟩
    · have hA2 := hA.out
      rw [collF_end _ _ _ _ (.inl (by have := HN.out.1; omega))] at hA2
      have Hn := Lib.hid hA2.symm
      obtain rfl : k = N := by omega
      clear hA2 hA
      have hlt' : ¬ (k : Int) ≤ (K : Int) := by have := HK.out; omega
      go_wp2_with fail
      try rw [Exit.noGoto_ret]
      go_ret3
      exact ⟨CollP.no Hn.out, Hbel.out.trans (hb4.mono Hbel.out.size)⟩
end Go.Proofs.YtppglfgggfkcmaaDoor
