/- Texts that stand behind one another: VerD, VerE, VerR. No condition. -/
import Derived.Test.YtcgbokgedfekkaaDoorU26
import Derived.Deep.LoopGhost
/- The walk of verify's way. No condition. -/
namespace Go.Proofs.YtcgbokgedfekkaaDoor
open Go Go.RowKit
attribute [local irreducible] mixW
attribute [local go_sem] n8_lo n8_hi n64_lo n64_hi n32_lo n32_hi
/-- the ways of a place -/
def wayO (n : Nat) (b : List UInt8) (i s : Nat) (ps : List (List UInt8)) : Option (List (List UInt8)) := if s ≤ i then none else wayS n ps i (s - 1) [0 :: b]
/-- what way hands back -/
def WayP (n : Nat) (o : Option (List (List UInt8))) (base : Nat) (w' : World) (e : Ending) : Prop :=
  ∃ u, e = .returned (.tuple #[u, .bool o.isSome]) ∧ ∀ X, o = some X → ∃ l, Stp w' base u n l ∧ l.map Prod.snd = X
theorem WayP.no {n : Nat} {o : Option (List (List UInt8))} {base : Nat} {w' : World} (h : o = none) (u : Value) : WayP n o base w' (.returned (.tuple #[u, .bool false])) := ⟨u, by rw [h]; rfl, fun X hX => by rw [h] at hX; cases hX⟩
theorem cut_take (d : List UInt8) (n : Nat) (hn : n ≤ d.length) : (cutL d (n : Int)).take n = d.take n := by
  unfold cutL
  rw [Int.toNat_natCast, List.take_append_of_le_length (by rw [List.length_take]; omega), List.take_take, Nat.min_self]
theorem nodeT_cutR (n : Nat) (a d : List UInt8) (hn : n ≤ d.length) : nodeT n a (cutL d (n : Int)) = nodeT n a d := by unfold nodeT; rw [cut_take d n hn]
theorem nodeT_cutL (n : Nat) (a d : List UInt8) (hn : n ≤ d.length) : nodeT n (cutL d (n : Int)) a = nodeT n d a := by unfold nodeT; rw [cut_take d n hn]
theorem Stp.dig {w w' : World} {base n g : Nat} {v : Value} {l : List (Value × List UInt8)} {d : Array Value} (h : Stp w base v n l) (hD : Blk w g 35 d) (hg : w.grownBy w' (some g)) : Stp w' base v n l :=
  ⟨own_grown h.1 hg (own_diff h.1 hD (by decide)), fun p hp => own_grown (h.2 p hp) hg (own_diff (h.2 p hp) hD (by decide))⟩
set_option maxHeartbeats 1000000 in
set_option maxRecDepth 100000 in
theorem way_any (x : Int) (v : Value) (b : List UInt8) (i s : Nat) (hi64 : i ≤ 18446744073709551615) (hs64 : s ≤ 18446744073709551615) (pv : Value) (ps : List (List UInt8)) (hall : ∀ d ∈ ps, d.length = 32) (hps : ps.length ≤ 1000000) (w : World) (hv : BSl w w.heap.size v b) (hl : b.length ≤ 140737488355200) (hp : DX w pv ps) (hG : Glob w) :
    Calls Tryd.prog 62 #[.int .i64 x, v, .int .u64 i, .int .u64 s, pv] w fun e w' => WayP (cutW x) (wayO (cutW x) b i s ps) w.heap.size w' e ∧ Below w.heap.size w w' := by
  have Hall := Lib.hid hall
  clear hall
  by_cases hsi : s ≤ i
  · have ho : wayO (cutW x) b i s ps = none := if_pos hsi
    have hsi' : (s : Int) ≤ (i : Int) := by omega
    have Ho := Lib.hid ho
    clear ho
    go_enter Tryd.func62, Tryd.ntmps62
    go_wp2_with fail
    go_step3
    go_wp2_with fail
    try rw [Exit.noGoto_ret]
    go_ret2
    exact ⟨.no Ho.out _, Below.refl _ _⟩
  have ho : wayO (cutW x) b i s ps = wayS (cutW x) ps i (s - 1) [0 :: b] := if_neg hsi
  have hsi' : ¬ (s : Int) ≤ (i : Int) := by omega
  rw [ho]
  clear ho
  have hsub : (s : Int) - 1 = ((s - 1 : Nat) : Int) := by omega
  obtain ⟨sn0, hsn0⟩ : ∃ m, s - 1 = m := ⟨_, rfl⟩
  rw [hsn0] at hsub ⊢
  have hin : i ≤ sn0 := by omega
  have hs0 : sn0 ≤ 18446744073709551615 := by omega
  obtain ⟨pA, pc, rfl, hp1, hp2, hp3⟩ := hp
  have HP : Hid (DX w (.slice pA ps.length pc) ps) := Lib.hid ⟨pA, pc, rfl, hp1, hp2, hp3⟩
  clear hp3 hp1
  go_enter Tryd.func62, Tryd.ntmps62
  go_wp2_with fail
  go_step3
  go_wp2_with fail
  refine (vleaf_any x _ b w hv hl hG).mono ?_
  rintro e w1 ⟨u, rfl, hown, hbel⟩
  obtain ⟨Au, cu, hu⟩ := own_slice hown
  subst hu
  go_wp2_with (first
    | (refine wpList_buildSteps rfl (.tmp 23) rfl Au _ cu _ rfl ?_))
  go_step3
  go_wp2_with fail
  have hS0 : Stp (w1.alloc (Obj.cells (stepC (.slice Au (0 :: b).length cu) (leafM (cutW x) b)) 117)) w.heap.size (.slice (some ⟨w1.heap.size, 0, none⟩) 1 1) (cutW x) [(.slice Au (0 :: b).length cu, 0 :: b)] :=
    ⟨own_oneS w1 w.heap.size (cutW x) hbel.size (.slice Au (0 :: b).length cu, 0 :: b), fun p hp => by rw [List.mem_singleton.1 hp]; exact own_below hown (below_new1 w1 _)⟩
  have hb0 : Below w.heap.size w (w1.alloc (Obj.cells (stepC (.slice Au (0 :: b).length cu) (leafM (cutW x) b)) 117)) := hbel.trans ((below_new1 w1 _).mono hbel.size)
  go_loopg [12, 13, 14, 30] ps.length (fun g lv fv sv iv wr => ∃ (k fn sn : Nat) (l : List (Value × List UInt8)), k + g = ps.length ∧ iv = .int .i64 k ∧ fv = .int .u64 fn ∧ sv = .int .u64 sn ∧ fn ≤ sn0 ∧ sn ≤ sn0 ∧ l.length = k + 1 ∧ Stp wr w.heap.size lv (cutW x) l ∧ Aside (wayS (cutW x) ps i sn0 [0 :: b] = wayS (cutW x) (ps.drop k) fn sn (l.map Prod.snd)) ∧ Below w.heap.size w wr)
  case atStart => exact ⟨0, i, sn0, _, by omega, rfl, rfl, rfl, hin, Nat.le_refl _, rfl, hS0, rfl, hb0⟩
  clear hS0 hb0 hown hbel
  case round =>
    obtain ⟨k, fn, sn, l, hkg, rfl, rfl, rfl, hfn, hsn, hll, hS, hA, hbel⟩ := hrel
    have HL := Lib.hid hll
    clear hll
    by_cases hlt : k < ps.length
    case neg =>
      have hk : k = ps.length := by omega
      have hA2 : wayS (cutW x) ps i sn0 [0 :: b] = if sn = 0 then some (l.map Prod.snd) else none := by
        have := hA.out
        rw [List.drop_of_length_le (by omega), wayS_nil] at this
        exact this
      have HS := Lib.hid hS
      clear hA
      by_cases h0 : sn = 0
      · subst h0
        have HA := Lib.hid (hA2.trans (if_pos rfl))
        clear hA2
        go_wp2_with fail
        try rw [Exit.noGoto_ret]
        go_ret2
        refine ⟨⟨_, by rw [HA.out]; rfl, fun X hX => ?_⟩, hbel⟩
        rw [HA.out] at hX
        injection hX with hX
        exact ⟨l, HS.out, hX⟩
      · have e0 : ((sn : Int) == 0) = false := by rw [beq_eq_false_iff_ne]; omega
        have HA := Lib.hid (hA2.trans (if_neg h0))
        clear hA2
        go_wp2_with fail
        try rw [Exit.noGoto_ret]
        go_ret2
        exact ⟨.no HA.out _, hbel⟩
    obtain ⟨A', c', e1, _, _, hh1⟩ := HP.out.next hbel
    injection e1 with e1 _ e1c
    subst e1c
    obtain ⟨gp, op, e3, hgp, hrp⟩ := hh1 k hlt
    rw [e3] at e1
    subst e1
    clear hh1 e3
    have hdl : (ps.getD k []).length = 32 := Hall.out _ (by rw [List.getD_eq_getElem?_getD, List.getElem?_eq_getElem hlt]; exact List.getElem_mem _)
    have hdrop : ps.drop k = ps.getD k [] :: ps.drop (k + 1) := by
      rw [List.drop_eq_getElem_cons hlt, List.getD_eq_getElem?_getD, List.getElem?_eq_getElem hlt]; rfl
    generalize ps.getD k [] = d at hrp hdl hdrop
    have HA := Lib.hid (And.intro hA.out hdrop)
    have Hdl := Lib.hid hdl
    clear hA hdrop hdl
    have hD := Blk.new wr 35 (arr 32 fun _ => 0)
    have hn1 := below_new1 wr (Obj.cells (arr 32 fun _ => 0) 35)
    by_cases h0 : sn = 0
    · subst h0
      go_wp2_with (first
        | (refine wpList_loadMid rfl 35 (.tmp 32) rfl gp (op + k * 32) rfl (dat d) _ hrp Tryd.underlying35 rfl (by rw [dat_size]; kernel_rfl) ?_)
        | (refine wpList_storeDat rfl rfl 35 (.tmp 16) (.tmp 33) rfl wr.heap.size rfl _ _ rfl _ hD (by kernel_rfl) ?_; intro w2 hD2 hon2))
      try rw [Exit.noGoto_ret]
      have hb2 := below_only hn1 hon2 (Nat.le_refl _) hn1.size
      go_ret2
      refine ⟨.no ?_ _, hbel.trans (hb2.mono hbel.size)⟩
      rw [HA.out.1, HA.out.2, wayS, if_pos rfl]
    have e0 : ((sn : Int) == 0) = false := by rw [beq_eq_false_iff_ne]; omega
    have hk1 : k < l.length := by have := HL.out; omega
    obtain ⟨gl, cl, el, hgl, hglb, -, hrl⟩ := hS.hash k hk1
    have elast : sumM (cutW x) l[k].2 = lastH (cutW x) (l.map Prod.snd) := by
      unfold lastH
      rw [List.getLastD_eq_getLast?, List.getLast?_eq_getElem?, List.length_map, HL.out, Nat.add_sub_cancel, List.getElem?_map, List.getElem?_eq_getElem hk1]
      rfl
    rw [elast] at hrl
    clear elast
    have hrlen := lastH_length (cutW x) (l.map Prod.snd)
    obtain ⟨r, hr⟩ : ∃ r, lastH (cutW x) (l.map Prod.snd) = r := ⟨_, rfl⟩
    rw [hr] at hrl hrlen
    rw [HL.out] at el
    subst el
    have HR := Lib.hid (And.intro hr hrlen)
    clear hr hrlen hk1
    have hsub1 : (k : Int) + 1 - 1 = (k : Int) := by omega
    go_upto_region 11 with (first
        | (refine wpList_loadMid rfl 35 (.tmp 32) rfl gp (op + k * 32) rfl (dat d) _ hrp Tryd.underlying35 rfl (by rw [dat_size]; kernel_rfl) ?_)
        | (refine wpList_storeDat rfl rfl 35 (.tmp 16) (.tmp 33) rfl wr.heap.size rfl _ _ rfl _ hD (by kernel_rfl) ?_; intro w2 hD2 hon2; refine wpl_at (fun W => Blk W wr.heap.size 35 (dat d) ∧ Below wr.heap.size wr W) ⟨hD2, below_only hn1 hon2 (Nat.le_refl _) hn1.size⟩ ?_; clear hD2 hon2 w2 hD hn1; rintro w2 ⟨hD, hb2⟩; replace hrl := range_next hrl hgl hb2)
        | (refine wpList_loadMid rfl 35 (.tmp 41) rfl gl (k * 33 + 1) rfl (dat r) _ hrl Tryd.underlying35 rfl (by rw [dat_size]; kernel_rfl) ?_)
        | (refine wpList_storeDat rfl rfl 35 (.tmp 17) (.tmp 42) rfl w2.heap.size rfl _ _ rfl _ (Blk.new w2 35 (arr 32 fun _ => 0)) (by kernel_rfl) ?_; intro w3 hR3 hon3; have hn3 := below_new1 w2 (Obj.cells (arr 32 fun _ => 0) 35); refine wpl_at (fun W => Blk W w2.heap.size 35 (dat r) ∧ Blk W wr.heap.size 35 (dat d) ∧ wr.heap.size < w2.heap.size ∧ Below wr.heap.size wr W) ⟨hR3, (hD.below hn3 hD.lt).grown hon3 (fun e => Nat.ne_of_lt hD.lt (Option.some.inj e)), hD.lt, hb2.trans ((below_only hn3 hon3 (Nat.le_refl _) hn3.size).mono hb2.size)⟩ ?_; clear hR3 hon3 w3 hD hn3 hb2; rintro w3 ⟨hR, hD, hlt7, hb3⟩; have hg17 := hR.lt)
        )
    obtain ⟨G16, hG16⟩ : ∃ g, wr.heap.size = g := ⟨_, rfl⟩
    obtain ⟨G17, hG17⟩ : ∃ g, w2.heap.size = g := ⟨_, rfl⟩
    replace hS := hS.below hb3
    have hbase : w.heap.size ≤ G16 := by rw [← hG16]; exact hbel.size
    have hbase7 : w.heap.size ≤ G17 := by rw [← hG17]; exact Nat.le_trans hbel.size (Nat.le_of_lt hlt7)
    have hne : G16 ≠ G17 := by rw [← hG16, ← hG17]; exact Nat.ne_of_lt hlt7
    replace hbel := hbel.trans (hb3.mono hbel.size)
    rw [hG16] at hD ⊢
    rw [hG17] at hR ⊢
    clear hG16 hG17 hlt7 hb3 hrl hgl hglb hrp hgp hg17
    refine wp_at (fun W => Blk W G16 35 (dat d) ∧ Blk W G17 35 (dat r) ∧ Stp W w.heap.size _ (cutW x) l ∧ Below w.heap.size w W) ⟨hD, hR, hS, hbel⟩ ?_
    clear hD hR hS hbel
    rintro W0 ⟨hD, hR, hS, hbel⟩
    refine wp_region_mixT 4 (.plain 0 <| .plain 1 <| .only 2 <| .only 3 <| .done) (by kernel_rfl) (by kernel_rfl) (fun W1 hb1 => ?_)
    replace hD := hD.below hb1 hD.lt
    replace hR := hR.below hb1 hR.lt
    replace hS := hS.below hb1
    replace hbel := hbel.trans (hb1.mono hbel.size)
    clear hb1
    iterate 2 (refine mix_plain rfl ?_; (first
      | (refine wpQuiet_load rfl _ (.tmp 16) rfl G16 rfl _ _ _ _ (fun _ ⟨e, he⟩ => by rw [he]; exact hD.plus e) Tryd.underlying35 rfl (by kernel_rfl) ?_; simp only [Act.put, List.setIfInBounds_toArray, List.set_cons_zero, List.set_cons_succ])
      | go_big_quiet_step (fail)); refine wpQuiet_nil ?_)
    refine mix_only rfl (fun K hK => ?_)
    go_wp2_with fail
    refine (vcut_any x W1).mono ?_
    rintro e _ ⟨rfl, rfl⟩
    go_wp2_with fail
    refine hK _ _ (Below.refl _ _) ?_
    clear hK K
    refine mix_only rfl (fun K hK => ?_)
    go_wp2_with fail
    refine (cut_any d Hdl.out _ W1).mono ?_
    rintro e W2 ⟨rfl, hb1⟩
    go_wp2_with fail
    refine hK _ _ hb1 ?_
    clear hK K
    replace hD := hD.below hb1 hD.lt
    replace hR := hR.below hb1 hR.lt
    replace hS := hS.below hb1
    replace hbel := hbel.trans (hb1.mono hbel.size)
    clear hb1
    refine mix_done ?_
    simp only [List.drop_succ_cons, List.drop_zero]
    have hcl := cutL_length d (cutW x : Int) Hdl.out
    have hnR := nodeT_cutR (cutW x) r d (by rw [Hdl.out]; exact cutW_hi x)
    have hnL := nodeT_cutL (cutW x) r d (by rw [Hdl.out]; exact cutW_hi x)
    obtain ⟨c, hc⟩ : ∃ c, cutL d (cutW x : Int) = c := ⟨_, rfl⟩
    rw [hc] at hcl hnR hnL ⊢
    have HC := Lib.hid (And.intro hcl (And.intro hnR hnL))
    clear hc hcl hnR hnL
    refine wpList_storeDat rfl rfl 35 (.tmp 16) (.tmp 46) rfl G16 rfl c _ rfl _ hD (by kernel_rfl) ?_
    intro W3 hD3 hon3
    refine wpl_at (fun W => Blk W G16 35 (dat c) ∧ Blk W G17 35 (dat r) ∧ Stp W w.heap.size _ (cutW x) l ∧ Below w.heap.size w W) ⟨hD3, hR.grown hon3 (fun e => hne (Option.some.inj e).symm), hS.dig hD hon3, below_only hbel hon3 hbase hbel.size⟩ ?_
    clear hD3 hon3 W3 hD hR hS hbel
    rintro W3 ⟨hD, hR, hS, hbel⟩
    have HS := Lib.hid (And.intro hS hbel)
    clear hS hbel
    by_cases hc : fn % 2 = 0 ∧ fn ≠ sn
    case pos =>
      have hand : bits BinOp.and IntKind.u64 (fn : Int) 1 = 0 := by rw [and_one_u64 _ (by omega) (by omega)]; omega
      have hneq : ((fn : Int) != (sn : Int)) = true := by rw [bne_iff_ne]; omega
      have Hc := Lib.hid hc
      clear hc
      go_wp2_with (first
        | (refine wpList_loadW (by rfl) 35 (.tmp 17) rfl G17 rfl _ _ _ hR Tryd.underlying35 rfl (by kernel_rfl) ?_)
        | (refine wpList_loadW (by rfl) 35 (.tmp 16) rfl G16 rfl _ _ _ hD Tryd.underlying35 rfl (by kernel_rfl) ?_))
      refine (vnode_any x r c HR.out.2 HC.out.1 W3 (hG.next HS.out.2)).mono ?_
      rintro e W4 ⟨u, rfl, hown, hb4⟩
      obtain ⟨Au4, cu4, hu4⟩ := own_slice hown
      subst hu4
      have hS4 := HS.out.1.below hb4
      have hbel4 := HS.out.2.trans (hb4.mono HS.out.2.size)
      replace hown := own_base hown HS.out.2.size
      clear HS hb4 hD hR
      have HT := Lib.hid (And.intro hS4 (And.intro hown hbel4))
      clear hS4 hown hbel4
      go_wp2_with (first
        | (refine wpList_buildSteps rfl (.tmp 59) rfl Au4 _ cu4 _ rfl ?_)
        | (refine wpList_appendStep rfl (.tmp 55) (.tmp 60) rfl w.heap.size (cutW x) _ l rfl (HT.out.1.below (below_new1 W4 _)) Au4 _ cu4 (nodeT (cutW x) r c) W4.heap.size rfl (Blk.new W4 _ _) (own_below HT.out.2.1 (below_new1 W4 _)) (by have := HL.out; omega) (Nat.le_trans HT.out.2.2.size (below_new1 W4 _).size) ?_; intro lv5 W5 hS5 hg5; refine wpl_at (fun W => Stp W w.heap.size lv5 (cutW x) (l ++ [(.slice Au4 (nodeT (cutW x) r c).length cu4, nodeT (cutW x) r c)]) ∧ Below w.heap.size w W) ⟨hS5, below_own (HT.out.2.2.trans ((below_new1 W4 _).mono HT.out.2.2.size)) (HT.out.1.below (below_new1 W4 _)).1 hg5 (Nat.le_trans HT.out.2.2.size (below_new1 W4 _).size)⟩ ?_; clear hS5 hg5 HT W5; rintro W5 ⟨hS5, hbel5⟩))
      go_wp2_with fail
      go_roundg (gk - 1)
      case measure => omega
      case rel =>
        refine ⟨k + 1, fn / 2, sn / 2, _, by omega, by go_num, by go_num, by go_num, by omega, by omega, by rw [List.length_append, HL.out]; rfl, hS5, ?_, hbel5⟩
        show wayS _ _ _ _ _ = _
        rw [HA.out.1, HA.out.2, wayS_right _ _ _ _ _ _ h0 Hc.out.1 Hc.out.2, HR.out.1, List.map_append, ← HC.out.2.1]
        rfl
    case neg =>
      have Hn := Lib.hid hc
      have hpick : (bits BinOp.and IntKind.u64 (fn : Int) 1 = 1 ∧ True) ∨ (bits BinOp.and IntKind.u64 (fn : Int) 1 = 0 ∧ ((fn : Int) != (sn : Int)) = false) := by
        rcases Nat.mod_two_eq_zero_or_one fn with h | h
        · right; exact ⟨by rw [and_one_u64 _ (by omega) (by omega)]; omega, by rw [bne_eq_false_iff_eq]; omega⟩
        · left; exact ⟨by rw [and_one_u64 _ (by omega) (by omega)]; omega, trivial⟩
      clear hc
      rcases hpick with ⟨hand, hneq⟩ | ⟨hand, hneq⟩
      all_goals
        go_wp2_with (first
          | (refine wpList_loadW (by rfl) 35 (.tmp 17) rfl G17 rfl _ _ _ hR Tryd.underlying35 rfl (by kernel_rfl) ?_)
          | (refine wpList_loadW (by rfl) 35 (.tmp 16) rfl G16 rfl _ _ _ hD Tryd.underlying35 rfl (by kernel_rfl) ?_))
        refine (vnode_any x c r HC.out.1 HR.out.2 W3 (hG.next HS.out.2)).mono ?_
        rintro e W4 ⟨u, rfl, hown, hb4⟩
        obtain ⟨Au4, cu4, hu4⟩ := own_slice hown
        subst hu4
        have hS4 := HS.out.1.below hb4
        have hbel4 := HS.out.2.trans (hb4.mono HS.out.2.size)
        replace hown := own_base hown HS.out.2.size
        clear HS hb4 hD hR
        have HT := Lib.hid (And.intro hS4 (And.intro hown hbel4))
        clear hS4 hown hbel4
        go_wp2_with (first
          | (refine wpList_buildSteps rfl (.tmp 70) rfl Au4 _ cu4 _ rfl ?_)
          | (refine wpList_appendStep rfl (.tmp 66) (.tmp 71) rfl w.heap.size (cutW x) _ l rfl (HT.out.1.below (below_new1 W4 _)) Au4 _ cu4 (nodeT (cutW x) c r) W4.heap.size rfl (Blk.new W4 _ _) (own_below HT.out.2.1 (below_new1 W4 _)) (by have := HL.out; omega) (Nat.le_trans HT.out.2.2.size (below_new1 W4 _).size) ?_; intro lv5 W5 hS5 hg5; refine wpl_at (fun W => Stp W w.heap.size lv5 (cutW x) (l ++ [(.slice Au4 (nodeT (cutW x) c r).length cu4, nodeT (cutW x) c r)]) ∧ Below w.heap.size w W) ⟨hS5, below_own (HT.out.2.2.trans ((below_new1 W4 _).mono HT.out.2.2.size)) (HT.out.1.below (below_new1 W4 _)).1 hg5 (Nat.le_trans HT.out.2.2.size (below_new1 W4 _).size)⟩ ?_; clear hS5 hg5 HT W5; rintro W5 ⟨hS5, hbel5⟩))
        clear hand hneq
        go_wp2_with fail
        obtain ⟨wa, hwa⟩ : ∃ wa, wa = W5 := ⟨_, rfl⟩
        have H5 := Lib.hid (And.intro hS5 (And.intro hbel5 hwa))
        clear hS5 hbel5 hwa
        go_loopw [13, 14] (fun fv sv wr => ∃ a b : Nat, fv = .int .u64 a ∧ sv = .int .u64 b ∧ a ≤ sn0 ∧ b ≤ sn0 ∧ Aside (strip a b = strip fn sn) ∧ wr = W5) (fun fv _ _ => (intOf fv).toNat)
        case atStart => exact ⟨fn, sn, rfl, rfl, hfn, hsn, rfl, rfl⟩
        case round =>
          obtain ⟨a, b2, rfl, rfl, ha, hb2, hst, rfl⟩ := hrel
          have HS2 := Lib.hid hst.out
          clear hst
          rcases Nat.mod_two_eq_zero_or_one a with hm | hm
          · have hand : bits BinOp.and IntKind.u64 (a : Int) 1 = 0 := by rw [and_one_u64 _ (by omega) (by omega)]; omega
            by_cases ha0 : a = 0
            · have h00 : ((a : Int) != 0) = false := by rw [bne_eq_false_iff_eq]; omega
              have HE := Lib.hid (HS2.out.symm.trans (strip_done (by omega)))
              go_wp2_with fail
              go_roundg (gk - 1)
              case measure => omega
              case rel =>
                refine ⟨k + 1, a / 2, b2 / 2, _, by omega, by go_num, by go_num, by go_num, by omega, by omega, by rw [List.length_append, HL.out]; rfl, H5.out.1, ?_, H5.out.2.1⟩
                show wayS _ _ _ _ _ = _
                rw [HA.out.1, HA.out.2, wayS_left _ _ _ _ _ _ h0 Hn.out, HR.out.1, HE.out, List.map_append, ← HC.out.2.2]
                rfl
            · have h00 : ((a : Int) != 0) = true := by rw [bne_iff_ne]; omega
              have HN := Lib.hid ((strip_even hm ha0).symm.trans HS2.out)
              go_wp2_with fail
              go_roundw
              case rel => exact ⟨a / 2, b2 / 2, by go_num, by go_num, by omega, by omega, HN.out, by first | trivial | rfl⟩
              case measure => simp [intOf]; omega
          · have hand : bits BinOp.and IntKind.u64 (a : Int) 1 = 1 := by rw [and_one_u64 _ (by omega) (by omega)]; omega
            have HE := Lib.hid (HS2.out.symm.trans (strip_done (by omega)))
            go_wp2_with fail
            go_roundg (gk - 1)
            case measure => omega
            case rel =>
              refine ⟨k + 1, a / 2, b2 / 2, _, by omega, by go_num, by go_num, by go_num, by omega, by omega, by rw [List.length_append, HL.out]; rfl, H5.out.1, ?_, H5.out.2.1⟩
              show wayS _ _ _ _ _ = _
              rw [HA.out.1, HA.out.2, wayS_left _ _ _ _ _ _ h0 Hn.out, HR.out.1, HE.out, List.map_append, ← HC.out.2.2]
              rfl
end Go.Proofs.YtcgbokgedfekkaaDoor

/- The walk of verify's Leaf. No condition. -/
namespace Go.Proofs.YtcgbokgedfekkaaDoor
open Go Go.RowKit
attribute [local irreducible] mixW
attribute [local go_sem] n8_lo n8_hi n64_lo n64_hi n32_lo n32_hi
theorem wayO_leaf (n : Nat) (b : List UInt8) (i s : Nat) (ps : List (List UInt8)) (root : List UInt8) : leafS n b i s ps root = match wayO n b i s ps with
    | some T => decide (lastH n T = cutL root n)
    | none => false := by
  unfold leafS wayO
  split <;> rfl
theorem wayO_len (n : Nat) (b : List UInt8) (i s : Nat) (ps X : List (List UInt8)) (h : wayO n b i s ps = some X) : 1 ≤ X.length ∧ X.length = ps.length + 1 := by
  unfold wayO at h
  split at h
  · cases h
  · have h1 := wayS_ne n ps i (s - 1) _ X h
    have h2 := wayS_len n (s - 1) ps i (s - 1) _ X (Nat.le_refl _) h
    exact ⟨h1, by rw [h2.1, h2.2]; simp; omega⟩
theorem last_text (n : Nat) (l : List (Value × List UInt8)) (k : Nat) (hk : k + 1 = l.length) (hk1 : k < l.length) : sumM n l[k].2 = lastH n (l.map Prod.snd) := by
  unfold lastH
  rw [List.getLastD_eq_getLast?, List.getLast?_eq_getElem?, List.length_map, ← hk, Nat.add_sub_cancel, List.getElem?_map, List.getElem?_eq_getElem hk1]
  rfl
set_option maxHeartbeats 1000000 in
set_option maxRecDepth 100000 in
theorem vLeaf_any (x : Int) (v : Value) (b : List UInt8) (i s : Nat) (hi64 : i ≤ 18446744073709551615) (hs64 : s ≤ 18446744073709551615) (pv : Value) (ps : List (List UInt8)) (hall : ∀ d ∈ ps, d.length = 32) (hps : ps.length ≤ 1000000) (root : List UInt8) (hr : root.length = 32) (w : World) (hv : BSl w w.heap.size v b) (hl : b.length ≤ 140737488355200) (hp : DX w pv ps) (hG : Glob w) :
    Calls Tryd.prog 21 #[.int .i64 x, v, .int .u64 i, .int .u64 s, pv, .agg (dat root)] w fun e w' => e = .returned (.bool (leafS (cutW x) b i s ps root)) ∧ Below w.heap.size w w' := by
  obtain ⟨q, hq⟩ : ∃ q, leafS (cutW x) b i s ps root = q := ⟨_, rfl⟩
  rw [hq]
  rw [wayO_leaf] at hq
  have Hq0 := Lib.hid hq
  clear hq
  have hD := Blk.new w 35 (dat root)
  have hb0 := below_new1 w (Obj.cells (dat root) 35)
  have Hall := Lib.hid hall
  have Hr := Lib.hid hr
  clear hall hr
  go_enter Tryd.func21, Tryd.ntmps21
  go_wp2_with fail
  refine calls_at (fun W => Blk W w.heap.size 35 (dat root) ∧ Below w.heap.size w W) ⟨hD, hb0⟩ ?_
  clear hD hb0
  rintro W ⟨hD, hbel⟩
  refine (way_any x v b i s hi64 hs64 pv ps Hall.out hps W (hv.next hbel) hl (hp.next hbel) (hG.next hbel)).mono ?_
  rintro e W1 ⟨⟨u, rfl, hX⟩, hb1⟩
  replace hD := hD.below hb1 hD.lt
  have hS0 : ∀ X, wayO (cutW x) b i s ps = some X → ∃ l, Stp W1 w.heap.size u (cutW x) l ∧ l.map Prod.snd = X ∧ 1 ≤ l.length ∧ l.length = ps.length + 1 := fun X hx => by
    obtain ⟨l, h1, h2⟩ := hX X hx
    have h3 := wayO_len _ _ _ _ _ _ hx
    rw [← h2, List.length_map] at h3
    exact ⟨l, h1.base hbel.size, h2, h3⟩
  replace hbel := hbel.trans (hb1.mono hbel.size)
  clear hX hb1
  obtain ⟨o, ho⟩ : ∃ o, wayO (cutW x) b i s ps = o := ⟨_, rfl⟩
  have hq := Hq0.out
  rw [ho] at hS0 hq ⊢
  clear ho
  cases o with
  | none =>
    have Hq := Lib.hid (show q = false from hq.symm)
    clear hS0 hq
    simp only [Option.isSome_none]
    go_wp2_with fail
    refine wp_region_mixP (.plain 0 <| .plain 1 <| .plain 2 <| .plain 3 <| .plain 4 <| .plain 5 <| .plain 6 <| .plain 7 <| .plain 8 <| .plain 9 <| .plain 10 <| .only 11 <| .only 12 <| .plain 13 <| .plain 14 <| .plain 15 <| .done) (by kernel_rfl) (by kernel_rfl) (fun W2 hb2 => ?_)
    replace hbel := hbel.trans (hb2.mono hbel.size)
    clear hb2
    iterate 2 (refine mix_plain rfl ?_; go_big_quiet_step (fail); refine wpQuiet_nil ?_)
    iterate 9 (refine mix_skip rfl rfl ?_; simp only [Act.put, List.setIfInBounds_toArray, List.set_cons_zero, List.set_cons_succ])
    iterate 2 (refine mix_only rfl (fun K hK => ?_); go_wp2_with fail; refine hK _ _ (Below.refl _ _) ?_; clear hK K)
    refine mix_skip rfl rfl ?_
    simp only [Act.put, List.setIfInBounds_toArray, List.set_cons_zero, List.set_cons_succ]
    iterate 2 (refine mix_plain rfl ?_; go_big_quiet_step (fail); refine wpQuiet_nil ?_)
    refine mix_done ?_
    go_wp2
    go_ret
    exact ⟨by rw [Hq.out]; rfl, hbel⟩
  | some X =>
    obtain ⟨l, hS, hlX, hl1, hl2⟩ := hS0 X rfl
    clear hS0
    simp only [Option.isSome_some]
    obtain ⟨k, hk⟩ : ∃ k, k + 1 = l.length := ⟨l.length - 1, by omega⟩
    have hk1 : k < l.length := by omega
    obtain ⟨gl, cl, el, hgl, hglb, -, hrl⟩ := hS.hash k hk1
    rw [last_text _ _ _ hk hk1, hlX] at hrl
    rw [← hk] at el hl2
    subst el
    have hsub1 : (k : Int) + 1 - 1 = (k : Int) := by omega
    have hrlen := lastH_length (cutW x) X
    obtain ⟨r, hr⟩ : ∃ r, lastH (cutW x) X = r := ⟨_, rfl⟩
    have hq : decide (lastH (cutW x) X = cutL root (cutW x : Int)) = q := hq
    rw [hr] at hrl hrlen hq
    have Hq := Lib.hid hq
    clear hq
    have Hrl := Lib.hid hrlen
    have Hlt : (k : Int) < (k : Int) + 1 := by omega
    have hk6 : k ≤ 1000000 := by omega
    clear hr hrlen hk hk1 hS hlX hl1 hl2
    go_wp2_with fail
    refine wp_region_mixP (.plain 0 <| .plain 1 <| .plain 2 <| .plain 3 <| .plain 4 <| .plain 5 <| .plain 6 <| .plain 7 <| .plain 8 <| .plain 9 <| .plain 10 <| .only 11 <| .only 12 <| .plain 13 <| .plain 14 <| .plain 15 <| .done) (by kernel_rfl) (by kernel_rfl) (fun W2 hb2 => ?_)
    replace hD := hD.below hb2 hD.lt
    replace hrl := range_next hrl hgl hb2
    replace hbel := hbel.trans (hb2.mono hbel.size)
    clear hb2
    iterate 11 (refine mix_plain rfl ?_; (first
      | (refine wpQuiet_loadMid rfl 35 (.tmp 31) rfl gl (k * 33 + 1) rfl (dat r) _ (fun _ ⟨e, he⟩ => by rw [he]; exact range_plus hrl e) Tryd.underlying35 rfl (by rw [dat_size]; kernel_rfl) ?_; simp only [Act.put, List.setIfInBounds_toArray, List.set_cons_zero, List.set_cons_succ])
      | (refine wpQuiet_load rfl _ (.tmp 11) rfl w.heap.size rfl _ _ _ _ (fun _ ⟨e, he⟩ => by rw [he]; exact hD.plus e) Tryd.underlying35 rfl (by kernel_rfl) ?_; simp only [Act.put, List.setIfInBounds_toArray, List.set_cons_zero, List.set_cons_succ])
      | go_big_quiet_step (fail)); refine wpQuiet_nil ?_)
    refine mix_only rfl (fun K hK => ?_)
    go_wp2_with fail
    refine (vcut_any x W2).mono ?_
    rintro e _ ⟨rfl, rfl⟩
    go_wp2_with fail
    refine hK _ _ (Below.refl _ _) ?_
    clear hK K
    refine mix_only rfl (fun K hK => ?_)
    go_wp2_with fail
    refine (cut_any root Hr.out _ W2).mono ?_
    rintro e W3 ⟨rfl, hb1⟩
    go_wp2_with fail
    refine hK _ _ hb1 ?_
    clear hK K
    replace hbel := hbel.trans (hb1.mono hbel.size)
    clear hb1 hrl hD
    have Hc := Lib.hid (cutL_length root (cutW x : Int) Hr.out)
    generalize cutL root (cutW x : Int) = c at Hc Hq ⊢
    refine mix_plain rfl ?_
    refine wpQuiet_eqD rfl (.tmp 32) (.tmp 36) _ rfl r c rfl rfl Hrl.out Hc.out q Hq.out ?_
    simp only [Act.put, List.setIfInBounds_toArray, List.set_cons_zero, List.set_cons_succ]
    refine wpQuiet_nil ?_
    iterate 2 (refine mix_plain rfl ?_; go_big_quiet_step (fail); refine wpQuiet_nil ?_)
    refine mix_done ?_
    go_wp2
    go_ret
    exact ⟨rfl, hbel⟩
end Go.Proofs.YtcgbokgedfekkaaDoor

/- Proofs that a list begins another one, plain; whatever merkle tells is taken. No condition. -/
namespace Go.Proofs.YtcgbokgedfekkaaDoor
/-- both halved while the first is odd -/
def poddF : Nat → Nat → Nat → Nat × Nat
  | 0, fn, sn => (fn, sn)
  | f + 1, fn, sn => if fn % 2 = 1 then poddF f (fn / 2) (sn / 2) else (fn, sn)
def podd (fn sn : Nat) : Nat × Nat := poddF fn fn sn
theorem poddF_fuel : ∀ (f fn sn : Nat), fn ≤ f → ∀ g, fn ≤ g → poddF f fn sn = poddF g fn sn := by
  intro f
  induction f with
  | zero =>
    intro fn sn h g hg
    obtain rfl : fn = 0 := by omega
    cases g with
    | zero => rfl
    | succ g => rw [poddF, poddF, if_neg (by decide)]
  | succ f ih =>
    intro fn sn h g hg
    cases g with
    | zero =>
      obtain rfl : fn = 0 := by omega
      rw [poddF, poddF, if_neg (by decide)]
    | succ g =>
      rw [poddF, poddF]
      split
      · exact ih _ _ (by omega) _ (by omega)
      · rfl
theorem podd_odd {fn sn : Nat} (h : fn % 2 = 1) : podd fn sn = podd (fn / 2) (sn / 2) := by
  unfold podd
  rw [poddF_fuel fn fn sn (Nat.le_refl _) (fn - 1 + 1) (by omega), poddF, if_pos h]
  exact poddF_fuel _ _ _ (by omega) _ (Nat.le_refl _)
theorem podd_even {fn sn : Nat} (h : fn % 2 = 0) : podd fn sn = (fn, sn) := by
  unfold podd
  cases fn with
  | zero => rfl
  | succ k => rw [poddF, if_neg (by omega)]
theorem podd_le (fn : Nat) : ∀ sn, (podd fn sn).1 ≤ fn ∧ (podd fn sn).2 ≤ sn := by
  induction fn using Nat.strongRecOn with
  | _ fn ih =>
    intro sn
    by_cases hc : fn % 2 = 1
    · rw [podd_odd hc]
      have := ih (fn / 2) (by omega) (sn / 2)
      omega
    · rw [podd_even (by omega)]; exact ⟨Nat.le_refl _, Nat.le_refl _⟩
theorem podd_pow (a sn : Nat) : ∀ M s, s / 2 ^ M = sn → podd (a * 2 ^ M + (2 ^ M - 1)) s = podd a sn := by
  intro M
  induction M with
  | zero => intro s h; rw [Nat.pow_zero, Nat.div_one] at h; subst h; rw [Nat.pow_zero, Nat.mul_one]; rfl
  | succ M ih =>
    intro s h
    have hp : 2 ^ (M + 1) = 2 * 2 ^ M := by rw [Nat.pow_succ]; omega
    have h1 : 1 ≤ 2 ^ M := Nat.one_le_two_pow
    have ea : a * 2 ^ (M + 1) = 2 * (a * 2 ^ M) := by rw [hp, ← Nat.mul_assoc, Nat.mul_comm a 2, Nat.mul_assoc]
    rw [ea, hp, podd_odd (by omega), show (2 * (a * 2 ^ M) + (2 * 2 ^ M - 1)) / 2 = a * 2 ^ M + (2 ^ M - 1) by omega]
    exact ih _ (by rw [← h, Nat.pow_succ, Nat.div_div_eq_div_mul, Nat.mul_comm])
/-- the way up of both roots -/
def prefW (n : Nat) : List (List UInt8) → Nat → Nat → List UInt8 → List UInt8 → Option (List UInt8 × List UInt8)
  | [], _, sn, fr, sr => if sn = 0 then some (fr, sr) else none
  | c :: cs, fn, sn, fr, sr => if sn = 0 then none else
      if fn % 2 = 0 ∧ fn ≠ sn then prefW n cs (fn / 2) (sn / 2) fr (nodeM n sr c)
      else prefW n cs ((strip fn sn).1 / 2) ((strip fn sn).2 / 2) (nodeM n c fr) (nodeM n c sr)
theorem prefW_nil (n fn sn : Nat) (fr sr : List UInt8) : prefW n [] fn sn fr sr = if sn = 0 then some (fr, sr) else none := rfl
theorem prefW_zero (n fn : Nat) (c : List UInt8) (cs : List (List UInt8)) (fr sr : List UInt8) : prefW n (c :: cs) fn 0 fr sr = none := by rw [prefW, if_pos rfl]
theorem prefW_right (n fn sn : Nat) (c : List UInt8) (cs : List (List UInt8)) (fr sr : List UInt8) (h0 : sn ≠ 0) (h : fn % 2 = 0) (h1 : fn ≠ sn) : prefW n (c :: cs) fn sn fr sr = prefW n cs (fn / 2) (sn / 2) fr (nodeM n sr c) := by
  rw [prefW, if_neg h0, if_pos ⟨h, h1⟩]
theorem prefW_left (n fn sn : Nat) (c : List UInt8) (cs : List (List UInt8)) (fr sr : List UInt8) (h0 : sn ≠ 0) (h : ¬ (fn % 2 = 0 ∧ fn ≠ sn)) : prefW n (c :: cs) fn sn fr sr = prefW n cs ((strip fn sn).1 / 2) ((strip fn sn).2 / 2) (nodeM n c fr) (nodeM n c sr) := by
  rw [prefW, if_neg h0, if_neg h]
theorem prefW_odd (n fn sn : Nat) (c : List UInt8) (cs : List (List UInt8)) (fr sr : List UInt8) (h0 : sn ≠ 0) (h : fn % 2 = 1) : prefW n (c :: cs) fn sn fr sr = prefW n cs (fn / 2) (sn / 2) (nodeM n c fr) (nodeM n c sr) := by
  rw [prefW_left n fn sn c cs fr sr h0 (by omega), strip_done (by omega)]
theorem prefW_skip (n fn : Nat) (cs : List (List UInt8)) (fr sr : List UInt8) (h : fn % 2 = 0) (h0 : fn ≠ 0) : prefW n cs fn fn fr sr = prefW n cs (fn / 2) (fn / 2) fr sr := by
  cases cs with
  | nil => rw [prefW_nil, prefW_nil, if_neg h0, if_neg (by omega)]
  | cons c cs => rw [prefW_left n fn fn c cs fr sr h0 (by omega), prefW_left n (fn / 2) (fn / 2) c cs fr sr (by omega) (by omega), strip_even h h0]
/-- is it a power of two? -/
def isPow (m : Nat) : Bool := m &&& (m - 1) == 0
theorem isP_pow (M : Nat) : isPow (2 ^ M) = true := by
  unfold isPow
  rw [Nat.and_two_pow_sub_one_eq_mod, Nat.mod_self]; rfl
theorem isP_no (k m : Nat) (h1 : 2 ^ k < m) (h2 : m < 2 ^ (k + 1)) : isPow m = false := by
  unfold isPow
  rw [beq_eq_false_iff_ne]
  intro h
  have hb : (m &&& (m - 1)).testBit k = true := by
    rw [Nat.testBit_and]
    have e : ∀ x, 2 ^ k ≤ x → x < 2 ^ (k + 1) → x.testBit k = true := fun x a b => by
      rw [Nat.testBit_eq_decide_div_mod_eq]
      have : x / 2 ^ k = 1 := by
        rw [Nat.pow_succ] at b
        exact Nat.div_eq_of_lt_le (by omega) (by omega)
      rw [this]; rfl
    rw [e m (by omega) h2, e (m - 1) (by omega) (by omega)]; rfl
  rw [h, Nat.zero_testBit] at hb
  cases hb
theorem sub_path (n : Nat) : ∀ (M : Nat) (l : List (List UInt8)) (a m sn : Nat), 1 ≤ m → l.length ≤ 2 ^ M →
    (m < l.length ∨ (m = l.length ∧ l.length = 2 ^ M ∧ a % 2 = 0)) →
    (sn = a * 2 ^ M + (l.length - 1) ∨ (l.length = 2 ^ M ∧ (a + 1) * 2 ^ M ≤ sn)) →
    ∃ S tail, subM n l m (decide (a = 0)) = (if a = 0 ∧ isPow m = true then [] else [S]) ++ tail ∧ (a = 0 ∧ isPow m = true → S = rootM n (l.take m)) ∧
      ∀ rest, prefW n (tail ++ rest) (podd (a * 2 ^ M + (m - 1)) sn).1 (podd (a * 2 ^ M + (m - 1)) sn).2 S S = prefW n rest a (sn / 2 ^ M) (rootM n (l.take m)) (rootM n l) := by
  intro M
  induction M with
  | zero =>
    intro l a m sn h1 hl hc hs
    simp only [Nat.pow_zero] at *
    obtain rfl : m = 1 := by omega
    have hl1 : l.length = 1 := by omega
    have ht : l.take 1 = l := List.take_of_length_le (by omega)
    have ha : a % 2 = 0 := by omega
    refine ⟨rootM n l, [], ?_, fun _ => by rw [ht], fun rest => ?_⟩
    · rw [subM_all n l 1 _ (by omega), List.append_nil]
      have : isPow 1 = true := isP_pow 0
      by_cases h0 : a = 0
      · subst h0; simp [this]
      · simp [h0]
    · rw [ht, List.nil_append, Nat.mul_one, Nat.sub_self, Nat.add_zero, Nat.div_one, podd_even ha]
  | succ M ih =>
    intro l a m sn h1 hl hc hs
    have hp : 2 ^ (M + 1) = 2 * 2 ^ M := by rw [Nat.pow_succ]; omega
    have h1p : 1 ≤ 2 ^ M := Nat.one_le_two_pow
    have hd : sn / 2 ^ (M + 1) = sn / 2 ^ M / 2 := by rw [Nat.pow_succ, Nat.div_div_eq_div_mul]
    by_cases hm : m = l.length
    · obtain ⟨-, hl2, ha⟩ : m = l.length ∧ l.length = 2 ^ (M + 1) ∧ a % 2 = 0 := by omega
      have ht : l.take m = l := List.take_of_length_le (by omega)
      refine ⟨rootM n l, [], ?_, fun _ => by rw [ht], fun rest => ?_⟩
      · rw [subM_all n l m _ hm, List.append_nil]
        have : isPow m = true := by rw [hm, hl2]; exact isP_pow _
        by_cases h0 : a = 0
        · subst h0; simp [this]
        · simp [h0]
      · rw [ht, List.nil_append, hm, hl2, podd_pow a (sn / 2 ^ (M + 1)) (M + 1) sn rfl, podd_even ha]
    have hml : m < l.length := by omega
    have ea : a * 2 ^ (M + 1) = (2 * a) * 2 ^ M := by rw [hp, ← Nat.mul_assoc, Nat.mul_comm a 2]
    have ea1 : (a + 1) * 2 ^ (M + 1) = (2 * a) * 2 ^ M + 2 * 2 ^ M := by rw [Nat.add_mul, ea, Nat.one_mul, hp]
    have eb : (2 * a + 1) * 2 ^ M = (2 * a) * 2 ^ M + 2 ^ M := by rw [Nat.add_mul, Nat.one_mul]
    have ec : (2 * a + 1 + 1) * 2 ^ M = (2 * a) * 2 ^ M + 2 ^ M + 2 ^ M := by rw [Nat.add_mul, eb, Nat.one_mul]
    rw [ea1, ea] at hs
    rw [ea, hd]
    have e0 : decide (2 * a = 0) = decide (a = 0) := by
      by_cases h : a = 0
      · subst h; rfl
      · rw [decide_eq_false h, decide_eq_false (by omega)]
    have e0' : (2 * a = 0 ∧ isPow m = true) = (a = 0 ∧ isPow m = true) := by
      rw [show (2 * a = 0) = (a = 0) from propext ⟨fun h => by omega, fun h => by omega⟩]
    by_cases hN : l.length ≤ 2 ^ M
    · have hs1 : sn = (2 * a) * 2 ^ M + (l.length - 1) := by rcases hs with h | h <;> omega
      obtain ⟨S, tail, he, hS, hw⟩ := ih l (2 * a) m sn h1 hN (.inl hml) (.inl hs1)
      simp only [e0, e0'] at he hS
      refine ⟨S, tail, he, hS, fun rest => ?_⟩
      have hq : sn / 2 ^ M = 2 * a := by
        rw [hs1, Nat.mul_comm, Nat.mul_add_div (by omega), Nat.div_eq_of_lt (by omega), Nat.add_zero]
      rw [hw rest, hq]
      by_cases h0 : a = 0
      · subst h0; rfl
      · rw [prefW_skip n (2 * a) rest _ _ (by omega) (by omega)]
        rw [show 2 * a / 2 = a by omega]
    · have hh := halfN_of l.length M (by omega) hl
      have hge : 2 * a + 1 ≤ sn / 2 ^ M := by
        rw [Nat.le_div_iff_mul_le (by omega), eb]
        rcases hs with h | h <;> omega
      have hr := rootM_node n l (by omega)
      rw [subM_node n l m _ hm (by omega)]
      rw [hh] at hr ⊢
      by_cases hle : m ≤ 2 ^ M
      · rw [if_pos hle]
        have ht : (l.take (2 ^ M)).take m = l.take m := by rw [List.take_take, Nat.min_eq_left hle]
        obtain ⟨S, tail, he, hS, hw⟩ := ih (l.take (2 ^ M)) (2 * a) m sn h1 (by rw [List.length_take]; omega) (by rw [List.length_take]; omega) (.inr ⟨by rw [List.length_take]; omega, by rw [eb]; rcases hs with h | h <;> omega⟩)
        rw [ht] at hS hw
        simp only [e0, e0'] at he hS
        refine ⟨S, tail ++ [rootM n (l.drop (2 ^ M))], ?_, hS, fun rest => ?_⟩
        · rw [he, List.append_assoc]
        · rw [List.append_assoc, hw, List.singleton_append, prefW_right n _ _ _ _ _ _ (by omega) (by omega) (by omega), ← hr]
          rw [show 2 * a / 2 = a by omega]
      · rw [if_neg hle]
        have hno : isPow m = false := isP_no M m (by omega) (by omega)
        have hmr := rootM_node n (l.take m) (by rw [List.length_take]; omega)
        have hhm : halfN (l.take m).length = 2 ^ M := halfN_of _ M (by rw [List.length_take]; omega) (by rw [List.length_take]; omega)
        rw [hhm, List.take_take, Nat.min_eq_left (by omega), List.drop_take] at hmr
        obtain ⟨S, tail, he, -, hw⟩ := ih (l.drop (2 ^ M)) (2 * a + 1) (m - 2 ^ M) sn (by omega) (by rw [List.length_drop]; omega) (by rw [List.length_drop]; omega) (by
          rw [List.length_drop, eb, ec]
          rcases hs with h | h
          · left; omega
          · right; omega)
        rw [decide_eq_false (show ¬ (2 * a + 1 = 0) by omega), if_neg (by omega)] at he
        refine ⟨S, tail ++ [rootM n (l.take (2 ^ M))], ?_, (fun h => absurd h.2 (by rw [hno]; simp)), fun rest => ?_⟩
        · rw [he, hno, if_neg (by simp), List.append_assoc]
        · rw [List.append_assoc, show (2 * a) * 2 ^ M + (m - 1) = (2 * a + 1) * 2 ^ M + (m - 2 ^ M - 1) by rw [eb]; omega, hw, List.singleton_append, prefW_odd n _ _ _ _ _ _ (by omega) (by omega), ← hr, ← hmr]
          rw [show (2 * a + 1) / 2 = a by omega]
/-- does a path show that a list begins another one? -/
def prefS (n m s : Nat) (old root : List UInt8) (path : List (List UInt8)) : Bool :=
  if m = 0 ∨ s < m then false else if m = s then decide (path = []) && decide (cutL old n = cutL root n) else if path = [] then false else
  match (if isPow m then [cutL old n] else []) ++ path.map (fun p => cutL p n) with
  | [] => false
  | c :: cs => match prefW n cs (podd (m - 1) (s - 1)).1 (podd (m - 1) (s - 1)).2 c c with
    | some (fr, sr) => decide (fr = cutL old n) && decide (sr = cutL root n)
    | none => false
theorem rootM_sum' (n : Nat) (l : List (List UInt8)) : ∃ b, rootM n l = sumM n b := by
  by_cases h2 : 2 ≤ l.length
  · rw [rootM_node n l h2]; exact ⟨_, rfl⟩
  · by_cases h0 : l.length = 0
    · rw [List.length_eq_zero_iff] at h0; subst h0; exact ⟨[], rfl⟩
    · rw [rootM_single n l (by omega)]; exact ⟨_, rfl⟩
theorem rootM_cut (n : Nat) (l : List (List UInt8)) : cutL (rootM n l) n = rootM n l := by
  obtain ⟨b, hb⟩ := rootM_sum' n l
  rw [hb, cutL_sum]
theorem subM_cut (n : Nat) : ∀ (N : Nat) (l : List (List UInt8)) (m : Nat) (b : Bool), l.length ≤ N → 1 ≤ m → m ≤ l.length → ∀ d ∈ subM n l m b, cutL d n = d := by
  intro N
  induction N with
  | zero => intro l m b h h1 h2; omega
  | succ N ih =>
    intro l m b h h1 h2 d hd
    by_cases h0 : m = l.length
    · rw [subM_all n l m b h0] at hd
      split at hd
      · cases hd
      · rw [List.mem_singleton.1 hd]; exact rootM_cut n l
    · have hp := half_parts l (by omega)
      rw [subM_node n l m b h0 (by omega)] at hd
      split at hd
      · rcases List.mem_append.1 hd with hd | hd
        · exact ih _ _ _ (by omega) h1 (by omega) d hd
        · rw [List.mem_singleton.1 hd]; exact rootM_cut n _
      · rcases List.mem_append.1 hd with hd | hd
        · exact ih _ _ _ (by omega) (by omega) (by omega) d hd
        · rw [List.mem_singleton.1 hd]; exact rootM_cut n _
/-- what is told is taken -/
theorem prefS_path (n : Nat) (l : List (List UInt8)) (m : Nat) (h1 : 1 ≤ m) (hm : m ≤ l.length) : prefS n m l.length (rootM n (l.take m)) (rootM n l) (subM n l m true) = true := by
  unfold prefS
  rw [if_neg (by omega), rootM_cut, rootM_cut]
  by_cases he : m = l.length
  · rw [if_pos he, subM_all n l m true he, he, List.take_length]
    simp
  · rw [if_neg he]
    obtain ⟨M, hM⟩ : ∃ M, l.length ≤ 2 ^ M := ⟨l.length, Nat.le_of_lt Nat.lt_two_pow_self⟩
    obtain ⟨S, tail, hp, hS, hw⟩ := sub_path n M l 0 m (l.length - 1) h1 hM (.inl (by omega)) (.inl (by omega))
    have hne : subM n l m true ≠ [] := by
      rw [subM_node n l m true he (by omega)]
      split <;> simp
    rw [if_neg hne]
    have hmap : (subM n l m true).map (fun p => cutL p n) = subM n l m true := by
      have h := List.map_congr_left (f := fun p => cutL p n) (g := id) (l := subM n l m true) (fun d hd => subM_cut n _ l m true (Nat.le_refl _) h1 hm d hd)
      rw [h, List.map_id]
    rw [hmap]
    have hl : (if isPow m then [rootM n (l.take m)] else []) ++ subM n l m true = S :: tail := by
      have hp2 : subM n l m true = (if 0 = 0 ∧ isPow m = true then [] else [S]) ++ tail := hp
      rw [hp2]
      by_cases hi : isPow m = true
      · rw [if_pos hi, if_pos ⟨rfl, hi⟩, hS ⟨rfl, hi⟩]; rfl
      · rw [if_neg hi, if_neg (by simp [hi])]; rfl
    rw [hl]
    have h := hw []
    rw [List.append_nil, Nat.zero_mul, Nat.zero_add, Nat.div_eq_of_lt (by omega), prefW_nil, if_pos rfl] at h
    simp only [h, decide_true, Bool.and_self]
end Go.Proofs.YtcgbokgedfekkaaDoor
