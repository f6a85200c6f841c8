/- Texts that stand behind one another: VerD. No condition. -/
import Derived.Test.YteonmcconpfkjaaDoorP10
import Derived.Test.YteonmcconpfkjaaDoorP11
import Derived.Deep.LoopGhost
/- The walk of verify's way. No condition. -/
namespace Go.Proofs.YteonmcconpfkjaaDoor
open Go Go.RowKit
attribute [local irreducible] mixW
attribute [local go_sem] n8_lo n8_hi n64_lo n64_hi n32_lo n32_hi
/-- the ways of a place -/
def wayO (n : Nat) (b : List UInt8) (i s : Nat) (ps : List (List UInt8)) : Option (List (List UInt8)) := if s ≤ i then none else wayS n ps i (s - 1) [0 :: b]
/-- what way hands back -/
def WayP (n : Nat) (o : Option (List (List UInt8))) (base : Nat) (w' : World) (e : Ending) : Prop :=
  ∃ u, e = .returned (.tuple #[u, .bool o.isSome]) ∧ ∀ X, o = some X → ∃ l, Stp w' base u n l ∧ l.map Prod.snd = X
theorem WayP.no {n : Nat} {o : Option (List (List UInt8))} {base : Nat} {w' : World} (h : o = none) (u : Value) : WayP n o base w' (.returned (.tuple #[u, .bool false])) := ⟨u, by rw [h]; rfl, fun X hX => by rw [h] at hX; cases hX⟩
theorem cut_take (d : List UInt8) (n : Nat) (hn : n ≤ d.length) : (cutL d (n : Int)).take n = d.take n := by
  unfold cutL
  rw [Int.toNat_natCast, List.take_append_of_le_length (by rw [List.length_take]; omega), List.take_take, Nat.min_self]
theorem nodeT_cutR (n : Nat) (a d : List UInt8) (hn : n ≤ d.length) : nodeT n a (cutL d (n : Int)) = nodeT n a d := by unfold nodeT; rw [cut_take d n hn]
theorem nodeT_cutL (n : Nat) (a d : List UInt8) (hn : n ≤ d.length) : nodeT n (cutL d (n : Int)) a = nodeT n d a := by unfold nodeT; rw [cut_take d n hn]
theorem Stp.dig {w w' : World} {base n g : Nat} {v : Value} {l : List (Value × List UInt8)} {d : Array Value} (h : Stp w base v n l) (hD : Blk w g 43 d) (hg : w.grownBy w' (some g)) : Stp w' base v n l :=
  ⟨own_grown h.1 hg (own_diff h.1 hD (by decide)), fun p hp => own_grown (h.2 p hp) hg (own_diff (h.2 p hp) hD (by decide))⟩
set_option maxHeartbeats 1000000 in
set_option maxRecDepth 100000 in
theorem way_any (x : Int) (v : Value) (b : List UInt8) (i s : Nat) (hi64 : i ≤ 18446744073709551615) (hs64 : s ≤ 18446744073709551615) (pv : Value) (ps : List (List UInt8)) (hall : ∀ d ∈ ps, d.length = 32) (hps : ps.length ≤ 1000000) (w : World) (hv : BSl w w.heap.size v b) (hl : b.length ≤ 140737488355200) (hp : DX w pv ps) (hG : Glob w) :
    Calls Tryd.prog 114 #[.int .i64 x, v, .int .u64 i, .int .u64 s, pv] w fun e w' => WayP (cutW x) (wayO (cutW x) b i s ps) w.heap.size w' e ∧ Below w.heap.size w w' := by
  have Hall := Lib.hid hall
  clear hall
  by_cases hsi : s ≤ i
  · have ho : wayO (cutW x) b i s ps = none := if_pos hsi
    have hsi' : (s : Int) ≤ (i : Int) := by omega
    have Ho := Lib.hid ho
    clear ho
    go_enter Tryd.func114, Tryd.ntmps114
    go_wp2_with fail
    go_step3
    go_wp2_with fail
    try rw [Exit.noGoto_ret]
    go_ret2
    exact ⟨.no Ho.out _, Below.refl _ _⟩
  have ho : wayO (cutW x) b i s ps = wayS (cutW x) ps i (s - 1) [0 :: b] := if_neg hsi
  have hsi' : ¬ (s : Int) ≤ (i : Int) := by omega
  rw [ho]
  clear ho
  have hsub : (s : Int) - 1 = ((s - 1 : Nat) : Int) := by omega
  obtain ⟨sn0, hsn0⟩ : ∃ m, s - 1 = m := ⟨_, rfl⟩
  rw [hsn0] at hsub ⊢
  have hin : i ≤ sn0 := by omega
  have hs0 : sn0 ≤ 18446744073709551615 := by omega
  obtain ⟨pA, pc, rfl, hp1, hp2, hp3⟩ := hp
  have HP : Hid (DX w (.slice pA ps.length pc) ps) := Lib.hid ⟨pA, pc, rfl, hp1, hp2, hp3⟩
  clear hp3 hp1
  go_enter Tryd.func114, Tryd.ntmps114
  go_wp2_with fail
  go_step3
  go_wp2_with fail
  refine (vleaf_any x _ b w hv hl hG).mono ?_
  rintro e w1 ⟨u, rfl, hown, hbel⟩
  obtain ⟨Au, cu, hu⟩ := own_slice hown
  subst hu
  go_wp2_with (first
    | (refine wpList_buildSteps rfl (.tmp 23) rfl Au _ cu _ rfl ?_))
  go_step3
  go_wp2_with fail
  have hS0 : Stp (w1.alloc (Obj.cells (stepC (.slice Au (0 :: b).length cu) (leafM (cutW x) b)) 186)) w.heap.size (.slice (some ⟨w1.heap.size, 0, none⟩) 1 1) (cutW x) [(.slice Au (0 :: b).length cu, 0 :: b)] :=
    ⟨own_oneS w1 w.heap.size (cutW x) hbel.size (.slice Au (0 :: b).length cu, 0 :: b), fun p hp => by rw [List.mem_singleton.1 hp]; exact own_below hown (below_new1 w1 _)⟩
  have hb0 : Below w.heap.size w (w1.alloc (Obj.cells (stepC (.slice Au (0 :: b).length cu) (leafM (cutW x) b)) 186)) := hbel.trans ((below_new1 w1 _).mono hbel.size)
  go_loopg [12, 13, 14, 30] ps.length (fun g lv fv sv iv wr => ∃ (k fn sn : Nat) (l : List (Value × List UInt8)), k + g = ps.length ∧ iv = .int .i64 k ∧ fv = .int .u64 fn ∧ sv = .int .u64 sn ∧ fn ≤ sn0 ∧ sn ≤ sn0 ∧ l.length = k + 1 ∧ Stp wr w.heap.size lv (cutW x) l ∧ Aside (wayS (cutW x) ps i sn0 [0 :: b] = wayS (cutW x) (ps.drop k) fn sn (l.map Prod.snd)) ∧ Below w.heap.size w wr)
  case atStart => exact ⟨0, i, sn0, _, by omega, rfl, rfl, rfl, hin, Nat.le_refl _, rfl, hS0, rfl, hb0⟩
  clear hS0 hb0 hown hbel
  case round =>
    obtain ⟨k, fn, sn, l, hkg, rfl, rfl, rfl, hfn, hsn, hll, hS, hA, hbel⟩ := hrel
    have HL := Lib.hid hll
    clear hll
    by_cases hlt : k < ps.length
    case neg =>
      have hk : k = ps.length := by omega
      have hA2 : wayS (cutW x) ps i sn0 [0 :: b] = if sn = 0 then some (l.map Prod.snd) else none := by
        have := hA.out
        rw [List.drop_of_length_le (by omega), wayS_nil] at this
        exact this
      have HS := Lib.hid hS
      clear hA
      by_cases h0 : sn = 0
      · subst h0
        have HA := Lib.hid (hA2.trans (if_pos rfl))
        clear hA2
        go_wp2_with fail
        try rw [Exit.noGoto_ret]
        go_ret2
        refine ⟨⟨_, by rw [HA.out]; rfl, fun X hX => ?_⟩, hbel⟩
        rw [HA.out] at hX
        injection hX with hX
        exact ⟨l, HS.out, hX⟩
      · have e0 : ((sn : Int) == 0) = false := by rw [beq_eq_false_iff_ne]; omega
        have HA := Lib.hid (hA2.trans (if_neg h0))
        clear hA2
        go_wp2_with fail
        try rw [Exit.noGoto_ret]
        go_ret2
        exact ⟨.no HA.out _, hbel⟩
    obtain ⟨A', c', e1, _, _, hh1⟩ := HP.out.next hbel
    injection e1 with e1 _ e1c
    subst e1c
    obtain ⟨gp, op, e3, hgp, hrp⟩ := hh1 k hlt
    rw [e3] at e1
    subst e1
    clear hh1 e3
    have hdl : (ps.getD k []).length = 32 := Hall.out _ (by rw [List.getD_eq_getElem?_getD, List.getElem?_eq_getElem hlt]; exact List.getElem_mem _)
    have hdrop : ps.drop k = ps.getD k [] :: ps.drop (k + 1) := by
      rw [List.drop_eq_getElem_cons hlt, List.getD_eq_getElem?_getD, List.getElem?_eq_getElem hlt]; rfl
    generalize ps.getD k [] = d at hrp hdl hdrop
    have HA := Lib.hid (And.intro hA.out hdrop)
    have Hdl := Lib.hid hdl
    clear hA hdrop hdl
    have hD := Blk.new wr 43 (arr 32 fun _ => 0)
    have hn1 := below_new1 wr (Obj.cells (arr 32 fun _ => 0) 43)
    by_cases h0 : sn = 0
    · subst h0
      go_wp2_with (first
        | (refine wpList_loadMid rfl 43 (.tmp 32) rfl gp (op + k * 32) rfl (dat d) _ hrp Tryd.underlying43 rfl (by rw [dat_size]; kernel_rfl) ?_)
        | (refine wpList_storeDat rfl rfl 43 (.tmp 16) (.tmp 33) rfl wr.heap.size rfl _ _ rfl _ hD (by kernel_rfl) ?_; intro w2 hD2 hon2))
      try rw [Exit.noGoto_ret]
      have hb2 := below_only hn1 hon2 (Nat.le_refl _) hn1.size
      go_ret2
      refine ⟨.no ?_ _, hbel.trans (hb2.mono hbel.size)⟩
      rw [HA.out.1, HA.out.2, wayS, if_pos rfl]
    have e0 : ((sn : Int) == 0) = false := by rw [beq_eq_false_iff_ne]; omega
    have hk1 : k < l.length := by have := HL.out; omega
    obtain ⟨gl, cl, el, hgl, hglb, -, hrl⟩ := hS.hash k hk1
    have elast : sumM (cutW x) l[k].2 = lastH (cutW x) (l.map Prod.snd) := by
      unfold lastH
      rw [List.getLastD_eq_getLast?, List.getLast?_eq_getElem?, List.length_map, HL.out, Nat.add_sub_cancel, List.getElem?_map, List.getElem?_eq_getElem hk1]
      rfl
    rw [elast] at hrl
    clear elast
    have hrlen := lastH_length (cutW x) (l.map Prod.snd)
    obtain ⟨r, hr⟩ : ∃ r, lastH (cutW x) (l.map Prod.snd) = r := ⟨_, rfl⟩
    rw [hr] at hrl hrlen
    rw [HL.out] at el
    subst el
    have HR := Lib.hid (And.intro hr hrlen)
    clear hr hrlen hk1
    have hsub1 : (k : Int) + 1 - 1 = (k : Int) := by omega
    go_upto_region 11 with (first
        | (refine wpList_loadMid rfl 43 (.tmp 32) rfl gp (op + k * 32) rfl (dat d) _ hrp Tryd.underlying43 rfl (by rw [dat_size]; kernel_rfl) ?_)
        | (refine wpList_storeDat rfl rfl 43 (.tmp 16) (.tmp 33) rfl wr.heap.size rfl _ _ rfl _ hD (by kernel_rfl) ?_; intro w2 hD2 hon2; refine wpl_at (fun W => Blk W wr.heap.size 43 (dat d) ∧ Below wr.heap.size wr W) ⟨hD2, below_only hn1 hon2 (Nat.le_refl _) hn1.size⟩ ?_; clear hD2 hon2 w2 hD hn1; rintro w2 ⟨hD, hb2⟩; replace hrl := range_next hrl hgl hb2)
        | (refine wpList_loadMid rfl 43 (.tmp 41) rfl gl (k * 33 + 1) rfl (dat r) _ hrl Tryd.underlying43 rfl (by rw [dat_size]; kernel_rfl) ?_)
        | (refine wpList_storeDat rfl rfl 43 (.tmp 17) (.tmp 42) rfl w2.heap.size rfl _ _ rfl _ (Blk.new w2 43 (arr 32 fun _ => 0)) (by kernel_rfl) ?_; intro w3 hR3 hon3; have hn3 := below_new1 w2 (Obj.cells (arr 32 fun _ => 0) 43); refine wpl_at (fun W => Blk W w2.heap.size 43 (dat r) ∧ Blk W wr.heap.size 43 (dat d) ∧ wr.heap.size < w2.heap.size ∧ Below wr.heap.size wr W) ⟨hR3, (hD.below hn3 hD.lt).grown hon3 (fun e => Nat.ne_of_lt hD.lt (Option.some.inj e)), hD.lt, hb2.trans ((below_only hn3 hon3 (Nat.le_refl _) hn3.size).mono hb2.size)⟩ ?_; clear hR3 hon3 w3 hD hn3 hb2; rintro w3 ⟨hR, hD, hlt7, hb3⟩; have hg17 := hR.lt)
        )
    obtain ⟨G16, hG16⟩ : ∃ g, wr.heap.size = g := ⟨_, rfl⟩
    obtain ⟨G17, hG17⟩ : ∃ g, w2.heap.size = g := ⟨_, rfl⟩
    replace hS := hS.below hb3
    have hbase : w.heap.size ≤ G16 := by rw [← hG16]; exact hbel.size
    have hbase7 : w.heap.size ≤ G17 := by rw [← hG17]; exact Nat.le_trans hbel.size (Nat.le_of_lt hlt7)
    have hne : G16 ≠ G17 := by rw [← hG16, ← hG17]; exact Nat.ne_of_lt hlt7
    replace hbel := hbel.trans (hb3.mono hbel.size)
    rw [hG16] at hD ⊢
    rw [hG17] at hR ⊢
    clear hG16 hG17 hlt7 hb3 hrl hgl hglb hrp hgp hg17
    refine wp_at (fun W => Blk W G16 43 (dat d) ∧ Blk W G17 43 (dat r) ∧ Stp W w.heap.size _ (cutW x) l ∧ Below w.heap.size w W) ⟨hD, hR, hS, hbel⟩ ?_
    clear hD hR hS hbel
    rintro W0 ⟨hD, hR, hS, hbel⟩
    refine wp_region_mixT 4 (.plain 0 <| .plain 1 <| .only 2 <| .only 3 <| .done) (by kernel_rfl) (by kernel_rfl) (fun W1 hb1 => ?_)
    replace hD := hD.below hb1 hD.lt
    replace hR := hR.below hb1 hR.lt
    replace hS := hS.below hb1
    replace hbel := hbel.trans (hb1.mono hbel.size)
    clear hb1
    iterate 2 (refine mix_plain rfl ?_; (first
      | (refine wpQuiet_load rfl _ (.tmp 16) rfl G16 rfl _ _ _ _ (fun _ ⟨e, he⟩ => by rw [he]; exact hD.plus e) Tryd.underlying43 rfl (by kernel_rfl) ?_; simp only [Act.put, List.setIfInBounds_toArray, List.set_cons_zero, List.set_cons_succ])
      | go_big_quiet_step (fail)); refine wpQuiet_nil ?_)
    refine mix_only rfl (fun K hK => ?_)
    go_wp2_with fail
    refine (vcut_any x W1).mono ?_
    rintro e _ ⟨rfl, rfl⟩
    go_wp2_with fail
    refine hK _ _ (Below.refl _ _) ?_
    clear hK K
    refine mix_only rfl (fun K hK => ?_)
    go_wp2_with fail
    refine (cut_any d Hdl.out _ W1).mono ?_
    rintro e W2 ⟨rfl, hb1⟩
    go_wp2_with fail
    refine hK _ _ hb1 ?_
    clear hK K
    replace hD := hD.below hb1 hD.lt
    replace hR := hR.below hb1 hR.lt
    replace hS := hS.below hb1
    replace hbel := hbel.trans (hb1.mono hbel.size)
    clear hb1
    refine mix_done ?_
    simp only [List.drop_succ_cons, List.drop_zero]
    have hcl := cutL_length d (cutW x : Int) Hdl.out
    have hnR := nodeT_cutR (cutW x) r d (by rw [Hdl.out]; exact cutW_hi x)
    have hnL := nodeT_cutL (cutW x) r d (by rw [Hdl.out]; exact cutW_hi x)
    obtain ⟨c, hc⟩ : ∃ c, cutL d (cutW x : Int) = c := ⟨_, rfl⟩
    rw [hc] at hcl hnR hnL ⊢
    have HC := Lib.hid (And.intro hcl (And.intro hnR hnL))
    clear hc hcl hnR hnL
    refine wpList_storeDat rfl rfl 43 (.tmp 16) (.tmp 46) rfl G16 rfl c _ rfl _ hD (by kernel_rfl) ?_
    intro W3 hD3 hon3
    refine wpl_at (fun W => Blk W G16 43 (dat c) ∧ Blk W G17 43 (dat r) ∧ Stp W w.heap.size _ (cutW x) l ∧ Below w.heap.size w W) ⟨hD3, hR.grown hon3 (fun e => hne (Option.some.inj e).symm), hS.dig hD hon3, below_only hbel hon3 hbase hbel.size⟩ ?_
    clear hD3 hon3 W3 hD hR hS hbel
    rintro W3 ⟨hD, hR, hS, hbel⟩
    have HS := Lib.hid (And.intro hS hbel)
    clear hS hbel
    by_cases hc : fn % 2 = 0 ∧ fn ≠ sn
    case pos =>
      have hand : bits BinOp.and IntKind.u64 (fn : Int) 1 = 0 := by rw [and_one_u64 _ (by omega) (by omega)]; omega
      have hneq : ((fn : Int) != (sn : Int)) = true := by rw [bne_iff_ne]; omega
      have Hc := Lib.hid hc
      clear hc
      go_wp2_with (first
        | (refine wpList_loadW (by rfl) 43 (.tmp 17) rfl G17 rfl _ _ _ hR Tryd.underlying43 rfl (by kernel_rfl) ?_)
        | (refine wpList_loadW (by rfl) 43 (.tmp 16) rfl G16 rfl _ _ _ hD Tryd.underlying43 rfl (by kernel_rfl) ?_))
      refine (vnode_any x r c HR.out.2 HC.out.1 W3 (hG.next HS.out.2)).mono ?_
      rintro e W4 ⟨u, rfl, hown, hb4⟩
      obtain ⟨Au4, cu4, hu4⟩ := own_slice hown
      subst hu4
      have hS4 := HS.out.1.below hb4
      have hbel4 := HS.out.2.trans (hb4.mono HS.out.2.size)
      replace hown := own_base hown HS.out.2.size
      clear HS hb4 hD hR
      have HT := Lib.hid (And.intro hS4 (And.intro hown hbel4))
      clear hS4 hown hbel4
      go_wp2_with (first
        | (refine wpList_buildSteps rfl (.tmp 59) rfl Au4 _ cu4 _ rfl ?_)
        | (refine wpList_appendStep rfl (.tmp 55) (.tmp 60) rfl w.heap.size (cutW x) _ l rfl (HT.out.1.below (below_new1 W4 _)) Au4 _ cu4 (nodeT (cutW x) r c) W4.heap.size rfl (Blk.new W4 _ _) (own_below HT.out.2.1 (below_new1 W4 _)) (by have := HL.out; omega) (Nat.le_trans HT.out.2.2.size (below_new1 W4 _).size) ?_; intro lv5 W5 hS5 hg5; refine wpl_at (fun W => Stp W w.heap.size lv5 (cutW x) (l ++ [(.slice Au4 (nodeT (cutW x) r c).length cu4, nodeT (cutW x) r c)]) ∧ Below w.heap.size w W) ⟨hS5, below_own (HT.out.2.2.trans ((below_new1 W4 _).mono HT.out.2.2.size)) (HT.out.1.below (below_new1 W4 _)).1 hg5 (Nat.le_trans HT.out.2.2.size (below_new1 W4 _).size)⟩ ?_; clear hS5 hg5 HT W5; rintro W5 ⟨hS5, hbel5⟩))
      go_wp2_with fail
      go_roundg (gk - 1)
      case measure => omega
      case rel =>
        refine ⟨k + 1, fn / 2, sn / 2, _, by omega, by go_num, by go_num, by go_num, by omega, by omega, by rw [List.length_append, HL.out]; rfl, hS5, ?_, hbel5⟩
        show wayS _ _ _ _ _ = _
        rw [HA.out.1, HA.out.2, wayS_right _ _ _ _ _ _ h0 Hc.out.1 Hc.out.2, HR.out.1, List.map_append, ← HC.out.2.1]
        rfl
    case neg =>
      have Hn := Lib.hid hc
      have hpick : (bits BinOp.and IntKind.u64 (fn : Int) 1 = 1 ∧ True) ∨ (bits BinOp.and IntKind.u64 (fn : Int) 1 = 0 ∧ ((fn : Int) != (sn : Int)) = false) := by
        rcases Nat.mod_two_eq_zero_or_one fn with h | h
        · right; exact ⟨by rw [and_one_u64 _ (by omega) (by omega)]; omega, by rw [bne_eq_false_iff_eq]; omega⟩
        · left; exact ⟨by rw [and_one_u64 _ (by omega) (by omega)]; omega, trivial⟩
      clear hc
      rcases hpick with ⟨hand, hneq⟩ | ⟨hand, hneq⟩
      all_goals
        go_wp2_with (first
          | (refine wpList_loadW (by rfl) 43 (.tmp 17) rfl G17 rfl _ _ _ hR Tryd.underlying43 rfl (by kernel_rfl) ?_)
          | (refine wpList_loadW (by rfl) 43 (.tmp 16) rfl G16 rfl _ _ _ hD Tryd.underlying43 rfl (by kernel_rfl) ?_))
        refine (vnode_any x c r HC.out.1 HR.out.2 W3 (hG.next HS.out.2)).mono ?_
        rintro e W4 ⟨u, rfl, hown, hb4⟩
        obtain ⟨Au4, cu4, hu4⟩ := own_slice hown
        subst hu4
        have hS4 := HS.out.1.below hb4
        have hbel4 := HS.out.2.trans (hb4.mono HS.out.2.size)
        replace hown := own_base hown HS.out.2.size
        clear HS hb4 hD hR
        have HT := Lib.hid (And.intro hS4 (And.intro hown hbel4))
        clear hS4 hown hbel4
        go_wp2_with (first
          | (refine wpList_buildSteps rfl (.tmp 70) rfl Au4 _ cu4 _ rfl ?_)
          | (refine wpList_appendStep rfl (.tmp 66) (.tmp 71) rfl w.heap.size (cutW x) _ l rfl (HT.out.1.below (below_new1 W4 _)) Au4 _ cu4 (nodeT (cutW x) c r) W4.heap.size rfl (Blk.new W4 _ _) (own_below HT.out.2.1 (below_new1 W4 _)) (by have := HL.out; omega) (Nat.le_trans HT.out.2.2.size (below_new1 W4 _).size) ?_; intro lv5 W5 hS5 hg5; refine wpl_at (fun W => Stp W w.heap.size lv5 (cutW x) (l ++ [(.slice Au4 (nodeT (cutW x) c r).length cu4, nodeT (cutW x) c r)]) ∧ Below w.heap.size w W) ⟨hS5, below_own (HT.out.2.2.trans ((below_new1 W4 _).mono HT.out.2.2.size)) (HT.out.1.below (below_new1 W4 _)).1 hg5 (Nat.le_trans HT.out.2.2.size (below_new1 W4 _).size)⟩ ?_; clear hS5 hg5 HT W5; rintro W5 ⟨hS5, hbel5⟩))
        clear hand hneq
        go_wp2_with fail
        obtain ⟨wa, hwa⟩ : ∃ wa, wa = W5 := ⟨_, rfl⟩
        have H5 := Lib.hid (And.intro hS5 (And.intro hbel5 hwa))
        clear hS5 hbel5 hwa
        go_loopw [13, 14] (fun fv sv wr => ∃ a b : Nat, fv = .int .u64 a ∧ sv = .int .u64 b ∧ a ≤ sn0 ∧ b ≤ sn0 ∧ Aside (strip a b = strip fn sn) ∧ wr = W5) (fun fv _ _ => (intOf fv).toNat)
        case atStart => exact ⟨fn, sn, rfl, rfl, hfn, hsn, rfl, rfl⟩
        case round =>
          obtain ⟨a, b2, rfl, rfl, ha, hb2, hst, rfl⟩ := hrel
          have HS2 := Lib.hid hst.out
          clear hst
          rcases Nat.mod_two_eq_zero_or_one a with hm | hm
          · have hand : bits BinOp.and IntKind.u64 (a : Int) 1 = 0 := by rw [and_one_u64 _ (by omega) (by omega)]; omega
            by_cases ha0 : a = 0
            · have h00 : ((a : Int) != 0) = false := by rw [bne_eq_false_iff_eq]; omega
              have HE := Lib.hid (HS2.out.symm.trans (strip_done (by omega)))
              go_wp2_with fail
              go_roundg (gk - 1)
              case measure => omega
              case rel =>
                refine ⟨k + 1, a / 2, b2 / 2, _, by omega, by go_num, by go_num, by go_num, by omega, by omega, by rw [List.length_append, HL.out]; rfl, H5.out.1, ?_, H5.out.2.1⟩
                show wayS _ _ _ _ _ = _
                rw [HA.out.1, HA.out.2, wayS_left _ _ _ _ _ _ h0 Hn.out, HR.out.1, HE.out, List.map_append, ← HC.out.2.2]
                rfl
            · have h00 : ((a : Int) != 0) = true := by rw [bne_iff_ne]; omega
              have HN := Lib.hid ((strip_even hm ha0).symm.trans HS2.out)
              go_wp2_with fail
              go_roundw
              case rel => exact ⟨a / 2, b2 / 2, by go_num, by go_num, by omega, by omega, HN.out, by first | trivial | rfl⟩
              case measure => simp [intOf]; omega
          · have hand : bits BinOp.and IntKind.u64 (a : Int) 1 = 1 := by rw [and_one_u64 _ (by omega) (by omega)]; omega
            have HE := Lib.hid (HS2.out.symm.trans (strip_done (by omega)))
            go_wp2_with fail
            go_roundg (gk - 1)
            case measure => omega
            case rel =>
              refine ⟨k + 1, a / 2, b2 / 2, _, by omega, by go_num, by go_num, by go_num, by omega, by omega, by rw [List.length_append, HL.out]; rfl, H5.out.1, ?_, H5.out.2.1⟩
              show wayS _ _ _ _ _ = _
              rw [HA.out.1, HA.out.2, wayS_left _ _ _ _ _ _ h0 Hn.out, HR.out.1, HE.out, List.map_append, ← HC.out.2.2]
              rfl
end Go.Proofs.YteonmcconpfkjaaDoor
