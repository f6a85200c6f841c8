/- Texts that stand behind one another: Cpy. No condition. -/
import Derived.Test.YtcdkadidkkbhpaaDoorS21
import Derived.Test.YtcdkadidkkbhpaaDoorS23
/- The walk of state.Copy. No condition. -/
namespace Go.Proofs.YtcdkadidkkbhpaaDoor
open Go Go.RowKit
attribute [local irreducible] mixWR
attribute [local go_sem] n8_lo n8_hi n64_lo n64_hi n32_lo n32_hi
/-- the class of worlds in which these cells stand -/
def ClA (g o : Nat) (xs : List Value) (V : World) : Prop := V.rangeAt g o xs
/-- the cells of a row of trees -/
theorem trs_cells {w : World} {B : Nat} {v : Value} {ts : List TreL} (h : Trs w B v ts) : ∃ cs, RX w B 75 v cs ∧ cs.length = ts.length ∧ (∀ k, k < ts.length → Tre w B (cs.getD k #[]) (ts.getD k zeroTre)) ∧ ∀ c ∈ cs, ∀ u ∈ c.toList, u.oneCell' = true := by
  obtain ⟨cs, h1, h2, h3⟩ := h
  refine ⟨cs, h1, h2, h3, fun c hc => ?_⟩
  obtain ⟨k, hk, rfl⟩ := List.mem_iff_getElem.1 hc
  obtain ⟨d, l, q, e, ⟨_, _, e1, _⟩, ⟨_, _, _, e2, _⟩, ⟨_, _, _, e3, _⟩⟩ := h3 k (by omega)
  rw [List.getD_eq_getElem?_getD, List.getElem?_eq_getElem hk, Option.getD_some] at e
  rw [e]
  exact treC_one _ _ _ _ (by rw [e1]; rfl) (by rw [e2]; rfl) (by rw [e3]; rfl)
theorem range_sub {V : World} {g a b : Nat} {xs ys : List Value} (h : V.rangeAt g a xs) (hs : ∀ j v, ys[j]? = some v → xs[b + j]? = some v) : V.rangeAt g (a + b) ys := fun j v hj => by
  rw [Nat.add_assoc]; exact h (b + j) v (hs j v hj)
/-- the cells of a tree in a row of the call's own -/
theorem own_rowAt {W : World} {base g n cap k : Nat} {e : TypeId} {cs : List (Array Value)} (h : W.ownsRow base e 75 (.slice (some ⟨g, 0, none⟩) n cap) cs.length (flat cs)) (hsz : ∀ c ∈ cs, c.size = 75) (hk : k < cs.length) : W.rangeAt g (k * 75) (cs.getD k #[]).toList := by
  have hx := RX.of_own hsz h
  have hn : n = cs.length := by obtain ⟨_, _, e, _⟩ := hx; injection e
  subst hn
  obtain ⟨g', o', e1, _, hr⟩ := hx.range (by decide) k hk
  injection e1 with e1
  injection e1 with e1 e2 _
  subst e1; subst e2
  rwa [Nat.zero_add] at hr
theorem sta_set3 (s : StaL) (t r g x : Value) : (staC s t r g).setIfInBounds 3 x = staC s x r g := rfl
theorem sta_set4 (s : StaL) (t r g x : Value) : (staC s t r g).setIfInBounds 4 x = staC s t x g := rfl
theorem sta_set5 (s : StaL) (t r g x : Value) : (staC s t r g).setIfInBounds 5 x = staC s t r x := rfl
theorem RX.sizes {w : World} {B sz : Nat} {v : Value} {cs : List (Array Value)} (h : RX w B sz v cs) : ∀ c ∈ cs, c.size = sz := by
  obtain ⟨_, _, _, _, _, h, _⟩ := h
  exact h
/-- what the walk of Copy holds -/
def CpF (w : World) (s : StaL) (t r g : Value) (cs0 : List (Array Value)) (k : Nat) (W : World) : Prop :=
  Blk W w.heap.size 32 (staC s t r g) ∧ Blk W (w.heap.size + 1) 32 (staC nilS (.slice none 0 0) (.slice none 0 0) (.slice none 0 0)) ∧ W.ownsRow w.heap.size 73 6 t (s.tenants.map tenC).length (flat (s.tenants.map tenC)) ∧ W.ownsRow w.heap.size 67 4 g (s.grants.map graC).length (flat (s.grants.map graC)) ∧ CpT w r cs0 s.trees k W
set_option maxHeartbeats 2000000 in
set_option maxRecDepth 100000 in
theorem copy_any (v : Value) (s : StaL) (w : World) (hS : Sta w w.heap.size v s) (hok : s.ok) :
    Calls Tryd.prog 8 #[v] w fun e w' => ∃ u, e = .returned u ∧ StI 73 49 67 w' w.heap.size u s ∧ Below w.heap.size w w' := by
  obtain ⟨tv, rv, gv, rfl, hT, hR, hG⟩ := hS
  obtain ⟨cs0, hR, hcl, hcs, hc1⟩ := trs_cells hR
  obtain ⟨k0, k1, k2, k3, k4, k5⟩ := hok
  obtain ⟨At, ct, et⟩ := hT.shape
  obtain ⟨Ar, cr, er⟩ := hR.shape
  obtain ⟨Ag, cg, eg⟩ := hG.shape
  subst et; subst er; subst eg
  rw [List.length_map, List.length_map]
  have hzs := zero_state
  rw [List.length_map] at hT hG
  rw [hcl] at hR ⊢
  have HF := Lib.hid (And.intro hT (And.intro hR (And.intro hG (And.intro hcl (And.intro hcs (And.intro hc1 k4))))))
  clear hT hR hG hcs hc1 k4 k5 k0 hcl
  go_enter Tryd.func8, Tryd.ntmps8
  go_upto_region 2 with fail
  clear hzs
  refine wp_at (fun W => Blk W w.heap.size 32 (staC s (.slice At s.tenants.length ct) (.slice Ar s.trees.length cr) (.slice Ag s.grants.length cg)) ∧ Blk W (w.heap.size + 1) 32 (staC nilS (.slice none 0 0) (.slice none 0 0) (.slice none 0 0)) ∧ Below w.heap.size w W) ⟨(Blk.new w _ _).alloc _, Blk.new2 _ _ _ _, below_new2 _ _ _⟩ ?_
  rintro W1 ⟨hB1, hZ1, hb1⟩
  refine wp_region_mixR (.pure 0 <| .plain 1 <| .pure 3 <| .plain 4 <| .pure 6 <| .plain 7 <| .only 2 <| .pure 9 <| .only 5 <| .only 8 <| .turn 10 <| .pure 11 <| .turn 12 <| .pure 13 <| .turn 14 <| .done) (ClA w.heap.size 0 (staC s (.slice At s.tenants.length ct) (.slice Ar s.trees.length cr) (.slice Ag s.grants.length cg)).toList) (by kernel_rfl) (by kernel_rfl) (range_blk24 (hB1.drewN 1)) ?_
  have q3 : (staC s (.slice At s.tenants.length ct) (.slice Ar s.trees.length cr) (.slice Ag s.grants.length cg)).toList[3]? = some (.slice At s.tenants.length ct) := rfl
  have q4 : (staC s (.slice At s.tenants.length ct) (.slice Ar s.trees.length cr) (.slice Ag s.grants.length cg)).toList[4]? = some (.slice Ar s.trees.length cr) := rfl
  have q5 : (staC s (.slice At s.tenants.length ct) (.slice Ar s.trees.length cr) (.slice Ag s.grants.length cg)).toList[5]? = some (.slice Ag s.grants.length cg) := rfl
  have hb2 := below_drewN hb1 1
  have hB2 := hB1.drewN 1
  have hZ2 := hZ1.drewN 1
  generalize W1.drewN 1 = W2 at hb2 hB2 hZ2 ⊢
  clear hb1 hB1 hZ1 W1
  iterate 6 (first
    | (refine mixR_pure rfl ?_; go_big_quiet_step ((intro _; rfl)); refine wpQuiet_nil ?_)
    | (refine mixR_plain rfl ?_; (first
        | (refine wpQuiet_load1 rfl _ (.tmp 6) rfl _ rfl _ Tryd.underlying28 rfl _ (fun V hV => hV 3 _ q3) ?_; simp only [Act.put, List.setIfInBounds_toArray, List.set_cons_zero, List.set_cons_succ])
        | (refine wpQuiet_load1 rfl _ (.tmp 9) rfl _ rfl _ Tryd.underlying30 rfl _ (fun V hV => hV 5 _ q5) ?_; simp only [Act.put, List.setIfInBounds_toArray, List.set_cons_zero, List.set_cons_succ])
        | (refine wpQuiet_load1 rfl _ (.tmp 12) rfl _ rfl _ Tryd.underlying29 rfl _ (fun V hV => hV 4 _ q4) ?_; simp only [Act.put, List.setIfInBounds_toArray, List.set_cons_zero, List.set_cons_succ])); refine wpQuiet_nil ?_))
  clear q3 q4 q5
  have hten1 : ∀ c ∈ s.tenants.map tenC, ∀ u ∈ c.toList, u.oneCell' = true := fun c hc => by obtain ⟨x, _, rfl⟩ := List.mem_map.1 hc; exact tenC_oneE x
  have hgra1 : ∀ c ∈ s.grants.map graC, ∀ u ∈ c.toList, u.oneCell' = true := fun c hc => by obtain ⟨x, _, rfl⟩ := List.mem_map.1 hc; exact graC_oneE x
  have m := cloneTen_any (.slice At s.tenants.length ct) (s.tenants.map tenC) W2 ((HF.out.1.below hb2).more hb2.size) hten1 (by rw [List.length_map]; omega)
  have Hg1 := Lib.hid hgra1
  clear hten1 hgra1
  refine mixR_only rfl (fun K hK => ?_)
  go_wp2_with fail
  refine m.mono ?_
  clear m
  rintro e W3 ⟨t', rfl, oT, b3⟩
  have hbT := hb2.trans (b3.mono hb2.size)
  have hBT := hB2.below b3 hB2.lt
  have hZT := hZ2.below b3 hZ2.lt
  obtain ⟨A3, c3, e3⟩ := own_slice2 oT
  rw [List.length_map] at e3
  subst e3
  replace oT := own_baseR oT hb2.size
  go_wp2_with fail
  refine hK _ _ (range_blk24 hBT) ?_
  clear hK K hb2 hB2 hZ2 b3
  refine mixR_pure rfl ?_
  go_big_quiet_step ((intro _; rfl))
  refine wpQuiet_nil ?_
  have m := cloneGra_any (.slice Ag s.grants.length cg) (s.grants.map graC) W3 ((HF.out.2.2.1.below hbT).more hbT.size) Hg1.out (by rw [List.length_map]; omega)
  refine mixR_only rfl (fun K hK => ?_)
  go_wp2_with fail
  refine m.mono ?_
  clear m
  rintro e W4 ⟨g', rfl, oG, b4⟩
  have hbG := hbT.trans (b4.mono hbT.size)
  have hBG := hBT.below b4 hBT.lt
  have hZG := hZT.below b4 hZT.lt
  replace oT := own_below oT b4
  obtain ⟨A4, c4, e4⟩ := own_slice2 oG
  rw [List.length_map] at e4
  subst e4
  replace oG := own_baseR oG hbT.size
  go_wp2_with fail
  refine hK _ _ (range_blk24 hBG) ?_
  clear hK K hbT hBT hZT b4
  have m := cloneTre_any (.slice Ar s.trees.length cr) cs0 W4 ((HF.out.2.1.below hbG).more hbG.size) HF.out.2.2.2.2.2.1 (by rw [HF.out.2.2.2.1]; omega)
  refine mixR_only rfl (fun K hK => ?_)
  go_wp2_with fail
  refine m.mono ?_
  clear m
  rintro e W5 ⟨r', rfl, oR, b5⟩
  have hbR := hbG.trans (b5.mono hbG.size)
  have hBR := hBG.below b5 hBG.lt
  have hZR := hZG.below b5 hZG.lt
  replace oT := own_below oT b5
  replace oG := own_below oG b5
  obtain ⟨A5, c5, e5⟩ := own_slice2 oR
  rw [HF.out.2.2.2.1] at e5
  subst e5
  replace oR := own_baseR oR hbG.size
  go_wp2_with fail
  refine hK _ _ (range_blk24 hBR) ?_
  clear hK K hbG hBG hZG b5
  refine mixR_turn (fun _ => True) rfl (fun K hK => ?_)
  refine wpList_store1 rfl rfl _ (.tmp 15) (.tmp 8) rfl w.heap.size 3 rfl (.slice A3 s.tenants.length c3) rfl _ _ hBR (by kernel_rfl) (by rw [staC_size]; decide) rfl rfl ?_
  intro W6 hB6 hg6
  rw [sta_set3] at hB6
  have ne1 : some (w.heap.size + 1) ≠ some w.heap.size := fun e => by injection e with e; omega
  have hZ6 := hZR.grown hg6 ne1
  replace oT := own_typed oT hg6 hBR (by decide)
  replace oG := own_typed oG hg6 hBR (by decide)
  replace oR := own_typed oR hg6 hBR (by decide)
  have hb6 := hbR.grown hg6 hbR.size (fun g e => by injection e with e; omega)
  refine hK _ _ trivial ?_
  clear hK K hbR hBR hZR hg6
  refine mixR_pure rfl ?_
  go_big_quiet_step ((intro _; rfl))
  refine wpQuiet_nil ?_
  refine mixR_turn (fun _ => True) rfl (fun K hK => ?_)
  refine wpList_store1 rfl rfl _ (.tmp 16) (.tmp 11) rfl w.heap.size 5 rfl (.slice A4 s.grants.length c4) rfl _ _ hB6 (by kernel_rfl) (by rw [staC_size]; decide) rfl rfl ?_
  intro W7 hB7 hg7
  rw [sta_set5] at hB7
  have hZ7 := hZ6.grown hg7 ne1
  replace oT := own_typed oT hg7 hB6 (by decide)
  replace oG := own_typed oG hg7 hB6 (by decide)
  replace oR := own_typed oR hg7 hB6 (by decide)
  have hb7 := hb6.grown hg7 hb6.size (fun g e => by injection e with e; omega)
  refine hK _ _ trivial ?_
  clear hK K hb6 hB6 hZ6 hg7
  refine mixR_pure rfl ?_
  go_big_quiet_step ((intro _; rfl))
  refine wpQuiet_nil ?_
  refine mixR_turn (fun _ => True) rfl (fun K hK => ?_)
  refine wpList_store1 rfl rfl _ (.tmp 17) (.tmp 14) rfl w.heap.size 4 rfl (.slice A5 s.trees.length c5) rfl _ _ hB7 (by kernel_rfl) (by rw [staC_size]; decide) rfl rfl ?_
  intro W8 hB8 hg8
  rw [sta_set4] at hB8
  have hZ8 := hZ7.grown hg8 ne1
  replace oT := own_typed oT hg8 hB7 (by decide)
  replace oG := own_typed oG hg8 hB7 (by decide)
  replace oR := own_typed oR hg8 hB7 (by decide)
  have hb8 := hb7.grown hg8 hb7.size (fun g e => by injection e with e; omega)
  refine hK _ _ trivial ?_
  clear hK K hb7 hB7 hZ7 hg8 ne1
  have F0 := Lib.hid (show CpF w s (.slice A3 s.tenants.length c3) (.slice A5 s.trees.length c5) (.slice A4 s.grants.length c4) cs0 0 W8 from
    ⟨hB8, hZ8, oT, oG, hb8, cs0, fun _ => w.heap.size, HF.out.2.2.2.1, HF.out.2.1.sizes, oR, Nat.le_refl _, fun _ _ _ => Nat.le_refl _, hb8.size, fun j hj => absurd hj (Nat.not_lt_zero _), fun j _ => rfl⟩)
  have c4' : W8.cell? ⟨w.heap.size, 4, none⟩ = some (.slice A5 s.trees.length c5) := hB8.cell 4
  clear hB8 hZ8 oT oG oR hb8 Hg1
  refine mixR_done ?_
  go_wp2_with fail
  clear c4'
  go_loopg [4, 5, 21] (s.trees.length + 1) (fun gk iv pv jv wr => ∃ k : Nat, s.trees.length + 1 ≤ k + gk ∧ k ≤ s.trees.length ∧ jv = .int .i64 (k : Int) ∧ CpF w s (.slice A3 s.tenants.length c3) (.slice A5 s.trees.length c5) (.slice A4 s.grants.length c4) cs0 k wr)
  case atStart => exact ⟨0, by omega, by omega, rfl, F0.out⟩
  case round =>
    clear F0
    obtain ⟨k, hk, hkn, rfl, hF⟩ := hrel
    have HX := Lib.hid (And.intro hk hF)
    clear hk hF
    have hBk := HX.out.2.1
    have c4' : wr.cell? ⟨w.heap.size, 4, none⟩ = some (.slice A5 s.trees.length c5) := hBk.cell 4
    by_cases hlt : k < s.trees.length
    · have hki : (k : Int) < (s.trees.length : Int) := by omega
      have hgk : 0 < gk := by have := HX.out.1; omega
      obtain ⟨d, l, q, ec0, hd, hl, hq⟩ := HF.out.2.2.2.2.1 k hlt
      have hok : (s.trees.getD k zeroTre).ok := HF.out.2.2.2.2.2.2 _ (by rw [List.getD_eq_getElem?_getD, List.getElem?_eq_getElem hlt]; exact List.getElem_mem _)
      obtain ⟨t, ht⟩ : ∃ t, s.trees.getD k zeroTre = t := ⟨_, rfl⟩
      rw [ht] at ec0 hd hl hq hok
      have HC := HX.out.2.2.2.2.2
      obtain ⟨gR, e5⟩ : ∃ gR, A5 = some ⟨gR, 0, none⟩ := by
        obtain ⟨_, cs, _, hcl, _, ho, _⟩ := HC
        obtain ⟨g, _, _, e, _⟩ := own_shape ho (by omega)
        injection e with e _ _
        exact ⟨g, e⟩
      subst e5
      have hrw : wr.rangeAt gR (k * 75) (treC t d l q).toList := by
        obtain ⟨_, cs, _, hcl, hsz, ho, _, _, _, _, h2⟩ := HC
        have h3 := own_rowAt ho hsz (k := k) (by omega)
        rwa [h2 k (Nat.le_refl _), ec0] at h3
      have Hst := Lib.hid (fun (W1 W2 W3 : World) (d' l' q' : Value) (vs us : List Value) => HC.step (W1 := W1) (W2 := W2) (W3 := W3) (d' := d') (l' := l') (q' := q') (vs := vs) (us := us) hlt ht ec0)
      have Hin := Lib.hid (And.intro hrw (And.intro hd (And.intro hl (And.intro hq (And.intro hok HC.1)))))
      have Hlt := Lib.hid (show gR < wr.heap.size from by
        obtain ⟨_, cs, _, hcl, _, ho, _⟩ := HC
        exact own_lt ho gR rfl)
      clear hBk hd hl hq hok HC hrw ht ec0
      go_upto_region 7 with fail
      clear c4'
      have r4 : (treC t d l q).toList[4]? = some d := by rw [Array.getElem?_toList, treC_4]
      have r5 : (treC t d l q).toList[5]? = some l := by rw [Array.getElem?_toList, treC_5]
      have r6 : (treC t d l q).toList[6]? = some q := by rw [Array.getElem?_toList, treC_6]
      refine wp_region_mixR (.pure 0 <| .pure 1 <| .pure 2 <| .pure 3 <| .pure 4 <| .pure 5 <| .plain 6 <| .pure 8 <| .pure 9 <| .pure 10 <| .pure 11 <| .plain 12 <| .pure 14 <| .pure 15 <| .pure 16 <| .pure 17 <| .plain 18 <| .only 7 <| .only 13 <| .only 19 <| .pure 20 <| .pure 21 <| .turn 22 <| .pure 23 <| .pure 24 <| .turn 25 <| .pure 26 <| .pure 27 <| .turn 28 <| .done) (ClA gR (k * 75) (treC t d l q).toList) (by kernel_rfl) (by kernel_rfl) Hin.out.1 ?_
      refine mixR_at (fun V => Below wr.heap.size wr V) (below_drewN (Below.refl _ _) 1) ?_
      rintro V0 hb0
      iterate 17 (first
        | (refine mixR_pure rfl ?_; (first
            | (refine wpQuiet_nilCheck rfl (.tmp 31) rfl _ rfl ?_; simp only [Act.put, List.setIfInBounds_toArray, List.set_cons_zero, List.set_cons_succ])
            | (refine wpQuiet_nilCheck rfl (.tmp 37) rfl _ rfl ?_; simp only [Act.put, List.setIfInBounds_toArray, List.set_cons_zero, List.set_cons_succ])
            | (refine wpQuiet_nilCheck rfl (.tmp 43) rfl _ rfl ?_; simp only [Act.put, List.setIfInBounds_toArray, List.set_cons_zero, List.set_cons_succ])
            | go_big_quiet_step ((intro _; rfl))); refine wpQuiet_nil ?_)
        | (refine mixR_plain rfl ?_; (first
            | (refine wpQuiet_load1 rfl _ (.tmp 33) rfl _ rfl _ Tryd.underlying47 rfl _ (fun V hV => hV 4 _ r4) ?_; simp only [Act.put, List.setIfInBounds_toArray, List.set_cons_zero, List.set_cons_succ])
            | (refine wpQuiet_load1 rfl _ (.tmp 39) rfl _ rfl _ Tryd.underlying46 rfl _ (fun V hV => hV 5 _ r5) ?_; simp only [Act.put, List.setIfInBounds_toArray, List.set_cons_zero, List.set_cons_succ])
            | (refine wpQuiet_load1 rfl _ (.tmp 45) rfl _ rfl _ Tryd.underlying46 rfl _ (fun V hV => hV 6 _ r6) ?_; simp only [Act.put, List.setIfInBounds_toArray, List.set_cons_zero, List.set_cons_succ])); refine wpQuiet_nil ?_))
      clear r4 r5 r6
      have kd : t.draws.length ≤ 1000000 := Hin.out.2.2.2.2.1.2.2.2.2.2.2.1
      have m := cloneW2_any d t.draws V0 ((Hin.out.2.1.below (Hin.out.2.2.2.2.2.trans (hb0.mono Hin.out.2.2.2.2.2.size))).more (Nat.le_trans Hin.out.2.2.2.2.2.size hb0.size)) kd
      refine mixR_only rfl (fun K hK => ?_)
      go_wp2_with fail
      refine m.mono ?_
      clear m
      rintro e V1 ⟨d', rfl, od, b1⟩
      have H1 := Lib.hid (And.intro (hb0.trans (b1.mono hb0.size)) (own_baseR od hb0.size))
      obtain ⟨Ad, cd, ed⟩ := own_slice2 od
      subst ed
      go_wp2_with fail
      refine hK _ _ (fun j v hj => (H1.out.1.cell (p := ⟨gR, k * 75 + j, none⟩) (Hlt.out)).trans (Hin.out.1 j v hj)) ?_
      clear hK K od b1 hb0 kd
      have hW1 := Hin.out.2.2.2.2.2.trans (H1.out.1.mono Hin.out.2.2.2.2.2.size)
      have m := copy1_any l t.leaves V1 ((Hin.out.2.2.1.below hW1).more hW1.size) Hin.out.2.2.2.2.1.2.2.2.2.2.2.2.1 Hin.out.2.2.2.2.1.2.2.2.2.2.2.2.2.2.1
      refine mixR_only rfl (fun K hK => ?_)
      go_wp2_with fail
      refine m.mono ?_
      clear m
      rintro e V2 ⟨l', vs, rfl, ol, b2⟩
      have H2 := Lib.hid (And.intro ol b2)
      obtain ⟨Al, cl, el⟩ := own_slice2 ol.row
      subst el
      go_wp2_with fail
      refine hK _ _ (fun j v hj => ((H1.out.1.trans (b2.mono H1.out.1.size)).cell (p := ⟨gR, k * 75 + j, none⟩) (Hlt.out)).trans (Hin.out.1 j v hj)) ?_
      clear hK K ol b2
      have hW2 := hW1.trans (H2.out.2.mono hW1.size)
      clear hW1
      have m := copy1_any q t.queue V2 ((Hin.out.2.2.2.1.below hW2).more hW2.size) Hin.out.2.2.2.2.1.2.2.2.2.2.2.2.2.1 Hin.out.2.2.2.2.1.2.2.2.2.2.2.2.2.2.2
      refine mixR_only rfl (fun K hK => ?_)
      go_wp2_with fail
      refine m.mono ?_
      clear m
      rintro e V3 ⟨q', us, rfl, oq, b3⟩
      have H3 := Lib.hid (And.intro oq b3)
      obtain ⟨Aq, cq, eq_⟩ := own_slice2 oq.row
      subst eq_
      have hb3' := (H1.out.1.trans (H2.out.2.mono H1.out.1.size)).trans (b3.mono (Nat.le_trans H1.out.1.size H2.out.2.size))
      go_wp2_with fail
      refine hK _ _ (fun j v hj => (hb3'.cell (p := ⟨gR, k * 75 + j, none⟩) (Hlt.out)).trans (Hin.out.1 j v hj)) ?_
      clear hK K oq b3 hW2
      -- what the frame has at V3
      have hBk := HX.out.2.1.below hb3' HX.out.2.1.lt
      have hZk := HX.out.2.2.1.below hb3' HX.out.2.2.1.lt
      have oT := own_below HX.out.2.2.2.1 hb3'
      have oG := own_below HX.out.2.2.2.2.1 hb3'
      clear hb3'
      iterate 2 (refine mixR_pure rfl ?_; (first
        | (refine wpQuiet_nilCheck rfl (.tmp 28) rfl _ rfl ?_; simp only [Act.put, List.setIfInBounds_toArray, List.set_cons_zero, List.set_cons_succ])
        | go_big_quiet_step ((intro _; rfl))); refine wpQuiet_nil ?_)
      obtain ⟨csx, hcl, hsz, hck, ho3, hfin⟩ := Hst.out V1 V2 V3 (.slice Ad t.draws.length cd) (.slice Al vs.length cl) (.slice Aq us.length cq) vs us H1.out.1 H1.out.2 H2.out.2 H2.out.1 H3.out.2 H3.out.1
      have hkc : k < csx.length := by omega
      obtain ⟨cur3, hcur3⟩ := own_blk ho3 (by omega)
      refine mixR_turn (fun _ => True) rfl (fun K hK => ?_)
      refine wpList_storeRow1 rfl rfl _ (.tmp 49) (.tmp 35) rfl w.heap.size 75 49 gR s.trees.length c5 csx ho3 hsz k 4 hkc rfl (.slice Ad t.draws.length cd) rfl (by kernel_rfl) (by decide) rfl rfl ?_
      intro V4 ho4 hg4
      rw [hck, patch_4] at ho4
      refine hK _ _ trivial ?_
      clear hK K
      iterate 2 (refine mixR_pure rfl ?_; (first
        | (refine wpQuiet_nilCheck rfl (.tmp 29) rfl _ rfl ?_; simp only [Act.put, List.setIfInBounds_toArray, List.set_cons_zero, List.set_cons_succ])
        | go_big_quiet_step ((intro _; rfl))); refine wpQuiet_nil ?_)
      refine mixR_turn (fun _ => True) rfl (fun K hK => ?_)
      refine wpList_storeRow1 rfl rfl _ (.tmp 51) (.tmp 41) rfl w.heap.size 75 49 gR s.trees.length c5 _ ho4 (fun c hc => by
        rcases List.mem_or_eq_of_mem_set hc with hc | hc
        · exact hsz c hc
        · rw [hc, treC_size]) k 5 (by rw [List.length_set]; exact hkc) rfl (.slice Al vs.length cl) rfl (by kernel_rfl) (by decide) rfl rfl ?_
      intro V5 ho5 hg5
      rw [getD_set_eq _ _ _ _ hkc, patch_5, List.set_set] at ho5
      refine hK _ _ trivial ?_
      clear hK K
      iterate 2 (refine mixR_pure rfl ?_; (first
        | (refine wpQuiet_nilCheck rfl (.tmp 30) rfl _ rfl ?_; simp only [Act.put, List.setIfInBounds_toArray, List.set_cons_zero, List.set_cons_succ])
        | go_big_quiet_step ((intro _; rfl))); refine wpQuiet_nil ?_)
      refine mixR_turn (fun _ => True) rfl (fun K hK => ?_)
      refine wpList_storeRow1 rfl rfl _ (.tmp 53) (.tmp 47) rfl w.heap.size 75 49 gR s.trees.length c5 _ ho5 (fun c hc => by
        rcases List.mem_or_eq_of_mem_set hc with hc | hc
        · exact hsz c hc
        · rw [hc, treC_size]) k 6 (by rw [List.length_set]; exact hkc) rfl (.slice Aq us.length cq) rfl (by kernel_rfl) (by decide) rfl rfl ?_
      intro V6 ho6 hg6
      rw [getD_set_eq _ _ _ _ hkc, patch_6, List.set_set] at ho6
      refine hK _ _ trivial ?_
      clear hK K
      have hg36 := Only.trans hg4 (Only.trans hg5 hg6)
      have hne : ∀ b cs, Blk V3 b 32 cs → b ≠ gR := fun b cs hb => blk_ne hb hcur3 (by decide)
      have HY := Lib.hid (show CpF w s (.slice A3 s.tenants.length c3) (.slice (some ⟨gR, 0, none⟩) s.trees.length c5) (.slice A4 s.grants.length c4) cs0 (k + 1) V6 from
        ⟨hBk.grown hg36 (fun e => hne _ _ hBk (by injection e)), hZk.grown hg36 (fun e => hne _ _ hZk (by injection e)), own_typed oT hg36 hcur3 (by decide), own_typed oG hg36 hcur3 (by decide), hfin _ _ hcur3 ho6 hg36⟩)
      clear hBk hZk oT oG ho3 hcur3 ho4 ho5 ho6 hg4 hg5 hg6 hg36 hfin hcl hsz hck hkc hne
      refine mixR_done ?_
      go_wp2_with fail
      go_roundg (gk - 1)
      case measure => omega
      case rel => exact ⟨k + 1, by have := HX.out.1; omega, by omega, by go_num, HY.out⟩
    · obtain rfl : k = s.trees.length := by omega
      have HB := Lib.hid (range_blk24 hBk)
      have hZk := HX.out.2.2.1
      clear hlt hkn c4'
      go_wp2_with (first
        | (refine wpList_loadR 32 (.tmp 1) rfl w.heap.size 0 rfl (staC s (.slice A3 s.tenants.length c3) (.slice A5 s.trees.length c5) (.slice A4 s.grants.length c4)) _ HB.out Tryd.underlying32 rfl (by kernel_rfl) rfl ?_)
        | (refine wpList_storeB rfl rfl 32 (.tmp 2) (.tmp 55) rfl (w.heap.size + 1) 0 rfl (staC s (.slice A3 s.tenants.length c3) (.slice A5 s.trees.length c5) (.slice A4 s.grants.length c4)) rfl _ _ hZk (by kernel_rfl) (by rw [staC_size, staC_size]; omega) (staC_one _ _ _ _ rfl rfl rfl) ?_; intro Wz hRz hgz))
      rw [copied_all _ _ (by rw [staC_size, staC_size])] at hRz
      obtain ⟨-, -, oT, oG, hbw, cs, lo, hcl, hsz, ho, hlo, hm, _, h1, _⟩ := HX.out.2
      have hI : StI 73 49 67 wr w.heap.size (.agg (staC s (.slice A3 s.tenants.length c3) (.slice A5 s.trees.length c5) (.slice A4 s.grants.length c4))) s := ⟨_, _, _, cs, lo, rfl, oT, ho, hcl, hlo, hm, h1, oG⟩
      exact bodyPost_ret (results_cell_row (p := 2) (ty := 32) rfl _ _ (w.heap.size + 1) _ _ _ _ rfl hRz Tryd.underlying32 rfl (by kernel_rfl)) rfl ⟨_, rfl, hI.typed hgz hZk (by decide) (by decide) (by decide) (by decide) (by decide) (by decide), below_only hbw hgz (by omega) hbw.size⟩
end Go.Proofs.YtcdkadidkkbhpaaDoor
