/- The walk of deponentlaw19.StateNumbers. -/
import Derived.Test.YtcdkadidkkbhpaaDoorS34
import Derived.Test.YtcdkadidkkbhpaaDoorS43
import Derived.Test.YtcdkadidkkbhpaaDoorS42
namespace Go.Proofs.YtcdkadidkkbhpaaDoor
open Go Go.RowKit
attribute [local irreducible] mixWR mixW
attribute [local go_sem] n8_lo n8_hi n64_lo n64_hi n32_lo n32_hi
abbrev nilV : Value := .slice none 0 0
def badC (v : Value) : List (Array Value) := [cfgC 0 1 0 nilV, cfgC 33 1 0 nilV, cfgC 1 0 0 nilV, cfgC 1 3 0 nilV, cfgC 1 1 32769 nilV, cfgC 1 1 0 v]
theorem bad_build1 (w : World) : (Instr.build 25 #[(0, .int .i64 0), (1, .int .i64 1)]).run Tryd.prog w = .ok (.agg (cfgC 0 1 0 nilV)) w := by kernel_rfl
theorem bad_build2 (w : World) : (Instr.build 25 #[(0, .int .i64 33), (1, .int .i64 1)]).run Tryd.prog w = .ok (.agg (cfgC 33 1 0 nilV)) w := by kernel_rfl
theorem bad_build3 (w : World) : (Instr.build 25 #[(0, .int .i64 1), (1, .int .i64 0)]).run Tryd.prog w = .ok (.agg (cfgC 1 0 0 nilV)) w := by kernel_rfl
theorem bad_build4 (w : World) : (Instr.build 25 #[(0, .int .i64 1), (1, .int .i64 3)]).run Tryd.prog w = .ok (.agg (cfgC 1 3 0 nilV)) w := by kernel_rfl
theorem bad_build5 (w : World) : (Instr.build 25 #[(0, .int .i64 1), (1, .int .i64 1), (2, .int .u32 32769)]).run Tryd.prog w = .ok (.agg (cfgC 1 1 32769 nilV)) w := by kernel_rfl
theorem bad_build6 (g : Nat) (w : World) : (Instr.build 25 #[(0, .int .i64 1), (1, .int .i64 1), (3, .slice (some ⟨g, 0, none⟩) 65 65)]).run Tryd.prog w = .ok (.agg (cfgC 1 1 0 (.slice (some ⟨g, 0, none⟩) 65 65))) w := by kernel_rfl
theorem bad_list (g : Nat) (w : World) : (Instr.buildSlice 26 6 #[(0, .agg (cfgC 0 1 0 nilV)), (1, .agg (cfgC 33 1 0 nilV)), (2, .agg (cfgC 1 0 0 nilV)), (3, .agg (cfgC 1 3 0 nilV)), (4, .agg (cfgC 1 1 32769 nilV)), (5, .agg (cfgC 1 1 0 (.slice (some ⟨g, 0, none⟩) 65 65)))]).run Tryd.prog w
    = .ok (.slice (some ⟨w.heap.size, 0, none⟩) 6 6) (w.alloc (.cells (flat (badC (.slice (some ⟨g, 0, none⟩) 65 65))).toArray 25)) := by kernel_rfl
theorem badC_at (g : Nat) (i : Nat) (hi : i < 6) : ∃ (wd qu : Int) (st : UInt32) (A : Option Addr) (n c : Nat), (badC (.slice (some ⟨g, 0, none⟩) 65 65)).getD i #[] = cfgC wd qu st (.slice A n c) ∧ rightC wd qu st n = false :=
  match i, hi with
  | 0, _ => ⟨0, 1, 0, none, 0, 0, rfl, by decide⟩
  | 1, _ => ⟨33, 1, 0, none, 0, 0, rfl, by decide⟩
  | 2, _ => ⟨1, 0, 0, none, 0, 0, rfl, by decide⟩
  | 3, _ => ⟨1, 3, 0, none, 0, 0, rfl, by decide⟩
  | 4, _ => ⟨1, 1, 32769, none, 0, 0, rfl, by decide⟩
  | 5, _ => ⟨1, 1, 0, some ⟨g, 0, none⟩, 65, 65, rfl, by decide⟩
theorem badC_sizes (v : Value) : ∀ c ∈ badC v, c.size = 4 := by
  intro c hc
  simp only [badC, List.mem_cons, List.not_mem_nil, or_false] at hc
  rcases hc with rfl | rfl | rfl | rfl | rfl | rfl <;> rfl
theorem plus_below' (V : World) (e : Ext) (B : Nat) (hB : B ≤ V.heap.size) : Below B V (plus V e) := (plus_below V e).mono hB
theorem pub_root19 (wd : Int) (seed : List UInt8) : (tre1 wd seed).head.root.length = 32 := rootM_length (cutW wd) tre0.leaves
/-- the state that is asked, in its block; its first tree's head; all below B -/
def NmF (w : World) (B gS gR : Nat) (sC : Array Value) (S : StaL) (hd : HeadL) (tag : List UInt8) (V : World) : Prop :=
  Below w.heap.size w V ∧ (w.heap.size ≤ B ∧ B ≤ V.heap.size ∧ gS < B ∧ gR < B) ∧ Blk V gS 32 sC ∧ Sta V B (.agg sC) S ∧ V.rangeAt gR 7 (sigC hd tag).toList
section
variable {w V V' : World} {B gS gR : Nat} {sC : Array Value} {S : StaL} {hd : HeadL} {tag : List UInt8}
theorem NmF.low (h : NmF w B gS gR sC S hd tag V) (hb : Below B V V') : NmF w B gS gR sC S hd tag V' :=
  ⟨h.1.trans (hb.mono h.2.1.1), ⟨h.2.1.1, Nat.le_trans h.2.1.2.1 hb.size, h.2.1.2.2.1, h.2.1.2.2.2⟩, h.2.2.1.below hb h.2.1.2.2.1, h.2.2.2.1.below hb, fun j v hj => (hb.cell (p := ⟨gR, 7 + j, none⟩) h.2.1.2.2.2).trans (h.2.2.2.2 j v hj)⟩
theorem NmF.next (h : NmF w B gS gR sC S hd tag V) (hb : Below V.heap.size V V') : NmF w B gS gR sC S hd tag V' := h.low (hb.mono h.2.1.2.1)
theorem NmF.sta (h : NmF w B gS gR sC S hd tag V) : Sta V V.heap.size (.agg sC) S := h.2.2.2.1.more h.2.1.2.1
theorem NmF.store (h : NmF w B gS gR sC S hd tag V) {g : Nat} (hg : V.grownBy V' (some g)) (hB : B ≤ g) : NmF w B gS gR sC S hd tag V' :=
  h.low ((Below.refl B V).grown hg h.2.1.2.1 (fun k e => by injection e with e; omega))
end
theorem pub_new (seed : List UInt8) : sigC (pubH 32 (newS 32 seed).clock 0 ((newS 32 seed).trees.getD 0 zeroTre)) (pubT 32 seed (newS 32 seed).clock 0 ((newS 32 seed).trees.getD 0 zeroTre)) = sigC (tre1 32 seed).head (tre1 32 seed).tag := rfl
theorem turned_99 (wd : Int) (seed : List UInt8) : turnedC (newS wd seed) 99 = false := by
  unfold turnedC
  rw [(newS_len wd seed).2.1]
  rfl
theorem turned_1 (wd : Int) (seed : List UInt8) : turnedC (newS wd seed) 1 = false := rfl
set_option maxHeartbeats 4000000 in
set_option maxRecDepth 100000 in
theorem stateNumbers_walk (w : World) (hG : Glob w) :
    Calls Tryd.prog 3 #[] w fun e w' => e = .returned (.bool true) ∧ Below w.heap.size w w' := by
  have HG := Lib.hid hG
  clear hG
  obtain ⟨i0, hi, hz0, hz1, hz2⟩ := info_parts (by kernel_rfl : (Tryd.prog.info? 5).map (fun i => (i.zero, i.size, i.bytes)) = some (some (.int .u8 0), 1, 1))
  have f1 := bad_build1
  have f2 := bad_build2
  have f3 := bad_build3
  have f4 := bad_build4
  have f5 := bad_build5
  have f6 := bad_build6
  have f7 := bad_list
  go_enter Tryd.func3, Tryd.ntmps3
  go_upto_region 2 with (first
    | (refine wpList_makeB rfl _ _ _ rfl 5 i0 _ Tryd.underlying23 hi hz0 hz1 rfl _ _ 65 rfl rfl (by rw [hz2]; decide) (by decide) ?_))
  clear f1 f2 f3 f4 f5 f6 f7
  refine wp_at (fun W => Blk W (w.heap.size + 1) 25 (flat (badC (.slice (some ⟨w.heap.size, 0, none⟩) 65 65))).toArray ∧ Below w.heap.size w W) ⟨Blk.new2 _ _ _ _, below_new2 _ _ _⟩ ?_
  rintro W1 ⟨hB1, hb1⟩
  have HB := Lib.hid (And.intro hB1 hb1)
  clear hB1 hb1 hi hz0 hz1 hz2 i0
  have hzs := zero_state
  go_wp2_with fail
  go_loopg [2, 3, 4] 7 (fun gk iv pv ev wr => ∃ k : Nat, 7 ≤ k + gk ∧ k ≤ 6 ∧ iv = .int .i64 (k : Int) ∧ Blk wr (w.heap.size + 1) 25 (flat (badC (.slice (some ⟨w.heap.size, 0, none⟩) 65 65))).toArray ∧ Below w.heap.size w wr)
  case atStart => exact ⟨0, by omega, by omega, rfl, HB.out.1, HB.out.2⟩
  case round =>
    clear HB
    obtain ⟨k, hk, hkn, rfl, hB, hb⟩ := hrel
    have HX := Lib.hid (And.intro hk (And.intro hB hb))
    clear hk hB hb
    by_cases hlt : k < 6
    · have hki : (k : Int) < 6 := by omega
      have hgk : 0 < gk := by have := HX.out.1; omega
      obtain ⟨wd, qu, st, A, n, c, ec, hno⟩ := badC_at w.heap.size k hlt
      have HR := Lib.hid (show wr.rangeAt (w.heap.size + 1) (k * 4) (cfgC wd qu st (.slice A n c)).toList from fun j v hj => by
        rw [HX.out.2.1.cell, List.getElem?_toArray]
        have hj4 : j < 4 := by have := (List.getElem?_eq_some_iff.1 hj).1; exact this
        rw [flat_at 4 _ (badC_sizes _) k (by show k < 6; exact hlt) j hj4, ec, ← hj, Array.getElem?_toList])
      have m := new_no wd qu st A n c wr hno
      clear ec hno
      go_wp2_with (first
        | (refine wpList_loadR 25 (.tmp 31) rfl (w.heap.size + 1) (k * 4) rfl (cfgC wd qu st (.slice A n c)) _ HR.out Tryd.underlying25 rfl (by kernel_rfl) rfl ?_)
        | (go_at_call 5; refine m.mono ?_; clear m; rintro e W3 ⟨rfl, hb3⟩; refine Hid.out ?_))
      refine Lib.hid ?_
      have hD := Blk.new W3 32 (staC nilS (.slice none 0 0) (.slice none 0 0) (.slice none 0 0))
      have hn := below_new1 W3 (Obj.cells (staC nilS (.slice none 0 0) (.slice none 0 0) (.slice none 0 0)) 32)
      go_upto_region 6 with (first
        | (refine wpList_storeB rfl rfl 32 (.tmp 3) (.tmp 34) rfl W3.heap.size 0 rfl (staC nilS (.slice none 0 0) (.slice none 0 0) (.slice none 0 0)) rfl _ _ hD (by kernel_rfl) (by rw [staC_size]; omega) (staC_one _ _ _ _ rfl rfl rfl) ?_; intro W4 hS4 hg4))
      rw [copied_all _ _ rfl] at hS4
      have hb34 := below_only hn hg4 (Nat.le_refl _) hn.size
      have hbw4 := hb3.trans (hb34.mono hb3.size)
      have HY := Lib.hid (And.intro (HX.out.2.1.below hbw4 HX.out.2.1.lt) (HX.out.2.2.trans (hbw4.mono HX.out.2.2.size)))
      have x4 : W4.cell? ⟨W3.heap.size, 4, none⟩ = some (.slice none 0 0) := hS4.cell 4
      clear hD hn hS4 hg4 hb34 hbw4 hb3 HR
      go_wp2_with fail
      go_roundg (gk - 1)
      case measure => omega
      case rel => exact ⟨k + 1, by have := HX.out.1; omega, by omega, by go_num, HY.out.1, HY.out.2⟩
    · obtain rfl : k = 6 := by omega
      have Hb := Lib.hid HX.out.2.2
      clear HX hlt hkn
      have mc := config_any wr
      go_wp2_with (first
        | (go_at_call 6; refine mc.mono ?_; clear mc; rintro e w1 ⟨A, rfl, hs1, hb1⟩; refine Hid.out ?_))
      refine Lib.hid ?_
      have mn := new_ok 32 1 100 (.slice A seed19.length 4) seed19 w1 hs1 (HG.out.next (Hb.out.trans (hb1.mono Hb.out.size))) (by decide) (by decide) (by decide) (by decide) (by decide) (by decide)
      go_wp2_with (first
        | (go_at_call 5; refine mn.mono ?_; clear mn; rintro e w2 ⟨v, rfl, hS, hb2⟩; refine Hid.out ?_))
      have hbr := hb1.trans (hb2.mono hb1.size)
      have hbw := Hb.out.trans (hbr.mono Hb.out.size)
      have hSta := hS.sta
      obtain ⟨t, r, g, cs, rfl, oT, oR, hcl, hTr, oG⟩ := hS
      obtain ⟨gT, cT, -, eT, -⟩ := own_shape oT (by decide)
      obtain ⟨gR, cR, curR, eR, -, hcR, -⟩ := own_shape oR (by rw [hcl]; decide)
      obtain ⟨gG, cG, -, eG, -⟩ := own_shape oG (by decide)
      subst eT; subst eG
      rw [hcl] at eR
      subst eR
      have hsz : ∀ c ∈ cs, c.size = 75 := fun c hc => by
        obtain ⟨k, hk, rfl⟩ := List.mem_iff_getElem.1 hc
        obtain ⟨d, l, q, e2, _⟩ := hTr k (by omega)
        rw [List.getD_eq_getElem?_getD, List.getElem?_eq_getElem hk, Option.getD_some] at e2
        rw [e2, treC_size]
      have hra := own_rowAt (k := 0) oR hsz (by rw [hcl]; decide)
      obtain ⟨d, l, q, ec, -⟩ := hTr 0 (by decide)
      rw [newS_at0] at ec
      rw [ec, Nat.zero_mul] at hra
      have hhd : w2.rangeAt gR 7 (sigC (tre1 32 seed19).head (tre1 32 seed19).tag).toList := fun j v hj => by
        have := hra (7 + j) v (by rw [Array.getElem?_toList, treC_sig, ← hj, Array.getElem?_toList])
        rwa [Nat.zero_add] at this
      have hgR := hcR.lt
      rw [show (List.map tenC (newS 32 seed19).tenants).length = 16 from rfl, show (newS 32 seed19).trees.length = 16 from rfl, show (List.map graC (newS 32 seed19).grants).length = 1 from rfl] at hSta ⊢
      have HS := Lib.hid (And.intro hSta (And.intro hhd (And.intro hgR hbw)))
      clear hra ec hTr oT oG oR hsz hcl hcR hs1 hb1 hb2 hbr hSta hhd hgR hbw Hb
      obtain ⟨sC, hsC⟩ : ∃ sC, sC = staC (newS 32 seed19) (.slice (some ⟨gT, 0, none⟩) 16 cT) (.slice (some ⟨gR, 0, none⟩) 16 cR) (.slice (some ⟨gG, 0, none⟩) 1 cG) := ⟨_, rfl⟩
      have HQ := Lib.hid (show sC.toList[4]? = some (.slice (some ⟨gR, 0, none⟩) 16 cR) ∧ (∀ v ∈ sC.toList, v.oneCell' = true) ∧ sC.size = 6 from ⟨by rw [hsC]; rfl, by rw [hsC]; exact staC_one _ _ _ _ rfl rfl rfl, by rw [hsC]; rfl⟩)
      rw [← hsC] at HS ⊢
      clear hsC
      refine Lib.hid ?_
      have hD := Blk.new w2 32 (staC nilS (.slice none 0 0) (.slice none 0 0) (.slice none 0 0))
      have hn := below_new1 w2 (Obj.cells (staC nilS (.slice none 0 0) (.slice none 0 0) (.slice none 0 0)) 32)
      go_upto_region 9 with (first
        | (refine wpList_storeB rfl rfl 32 (.tmp 5) (.tmp 47) rfl w2.heap.size 0 rfl sC rfl _ _ hD (by rw [HQ.out.2.2]; kernel_rfl) (by rw [HQ.out.2.2, staC_size]; omega) HQ.out.2.1 ?_; intro w3 hB3 hg3))
      rw [copied_all _ _ (by rw [HQ.out.2.2, staC_size])] at hB3
      have hb3 := below_only hn hg3 (Nat.le_refl _) hn.size
      obtain ⟨gS, hgS⟩ : ∃ g, w2.heap.size = g := ⟨_, rfl⟩
      obtain ⟨hd, tg, hhd⟩ : ∃ hd tg, hd = (tre1 32 seed19).head ∧ tg = (tre1 32 seed19).tag := ⟨_, _, rfl, rfl⟩
      have HH := Lib.hid hhd
      have F9 := Lib.hid (show NmF w w3.heap.size gS gR sC (newS 32 seed19) hd tg w3 from ⟨HS.out.2.2.2.trans (hb3.mono HS.out.2.2.2.size), ⟨Nat.le_trans HS.out.2.2.2.size hb3.size, Nat.le_refl _, by rw [← hgS]; exact hB3.lt, Nat.lt_of_lt_of_le HS.out.2.2.1 hb3.size⟩, by rw [← hgS]; exact hB3, HS.out.1.next hb3, fun j v hj => (hb3.cell (p := ⟨gR, 7 + j, none⟩) HS.out.2.2.1).trans (HS.out.2.1 j v (by rw [← hhd.1, ← hhd.2]; exact hj))⟩)
      rw [hgS]
      clear hD hn hB3 hg3 hb3 hgS hhd HS hzs
      have hzsig := zero_sig
      generalize w3.heap.size = B0 at F9
      go_cut [7, 8] (fun hp ev wx => ∃ gH, hp = .pointer (some ⟨gH, 0, none⟩) ∧ ev = .int .i64 1 ∧ NmF w B0 gS gR sC (newS 32 seed19) hd tg wx ∧ B0 ≤ gH)
      case first =>
        refine wp_region_mixR (.plain 1 <| .more 0 (.more 2 (.pure 3 <| .pure 4 <| .pure 5 <| .only 6 <| .only 7 <| .pure 8 <| .done) (.only 6 <| .only 2 <| .pure 3 <| .pure 4 <| .pure 5 <| .only 7 <| .pure 8 <| .done)) (.only 6 <| .only 0 <| .only 2 <| .pure 3 <| .pure 4 <| .pure 5 <| .only 7 <| .pure 8 <| .done)) (ClA gS 0 sC.toList) (by kernel_rfl) (by kernel_rfl) (range_blk24 ((F9.out.2.2.1).drewN 1)) ?_
        refine mixR_at (fun V => NmF w B0 gS gR sC (newS 32 seed19) hd tg V) (F9.out.next (below_drewN (Below.refl _ _) 1)) ?_
        clear F9
        rintro V0 HF
        refine mixR_plain rfl ?_
        refine wpQuiet_loadMid rfl 32 (.tmp 5) rfl gS 0 rfl sC _ (fun V hV => hV) Tryd.underlying32 rfl (by rw [HQ.out.2.2]; kernel_rfl) ?_
        simp only [Act.put, List.setIfInBounds_toArray, List.set_cons_zero, List.set_cons_succ]
        refine wpQuiet_nil ?_
        refine mixR_more rfl (fun K hK => ?_) ?_
        · skip
          go_wp2_with fail
          refine (config_any V0).mono ?_
          rintro e V1 ⟨A, rfl, hs, hb⟩
          go_wp2_with fail
          refine hK _ _ (range_blk24 ((HF.next hb).2.2.1)) ?_
          clear hK K
          refine mixR_at (fun V => NmF w B0 gS gR sC (newS 32 seed19) hd tg V ∧ BSl V V.heap.size (.slice A seed19.length 4) seed19) ⟨HF.next hb, hs⟩ ?_
          clear hs hb HF
          clear V0 V1
          rintro V0 ⟨HF, hs⟩
          refine mixR_more rfl (fun K hK => ?_) ?_
          · skip
            go_wp2_with fail
            have mp := pub_no 32 1 100 A seed19.length 4 (.agg sC) (newS 32 seed19) 99 (by decide) (by rw [(newS_len 32 seed19).2.1]; decide) (turned_99 32 seed19) V0 HF.sta
            refine mp.mono ?_
            clear mp
            rintro e V1 ⟨rfl, hb⟩
            go_wp2_with fail
            refine hK _ _ (range_blk24 ((HF.next hb).2.2.1)) ?_
            clear hK K
            refine mixR_at (fun V => NmF w B0 gS gR sC (newS 32 seed19) hd tg V) (HF.next hb) ?_
            clear hb hs HF
            clear V0 V1
            rintro V0 HF
            iterate 3 (refine mixR_pure rfl ?_; go_big_quiet_step ((intro _; rfl)); refine wpQuiet_nil ?_)
            refine mixR_only rfl (fun K hK => ?_)
            go_wp2_with fail
            have hGb := Blk.new V0 42 (sigC zeroHead [])
            have hb := below_new1 V0 (Obj.cells (sigC zeroHead []) 42)
            have hgB := HF.2.1.2.1
            have HF1 := HF.next hb
            refine hK _ _ (range_blk24 HF1.2.2.1) ?_
            clear hK K
            generalize V0.heap.size = gH at hGb hgB ⊢
            refine mixR_at (fun V => NmF w B0 gS gR sC (newS 32 seed19) hd tg V ∧ Blk V gH 42 (sigC zeroHead []) ∧ B0 ≤ gH) ⟨HF1, hGb, hgB⟩ ?_
            clear hb HF HF1 hGb hgB
            clear V0
            rintro V0 ⟨HF, hGb, hgB⟩
            refine mixR_only rfl (fun K hK => ?_)
            refine wpList_storeB rfl rfl 42 (.tmp 7) (.tmp 53) rfl gH 0 rfl (sigC zeroHead []) rfl _ _ hGb (by rw [sigC_size]; kernel_rfl) (by rw [sigC_size]; first | omega | (rw [sigC_size]; omega)) (sigC_one _ _) ?_
            intro V1 hG1 hg1
            rw [copied_all _ _ (by simp only [sigC_size])] at hG1
            have HF1 := HF.store hg1 hgB
            refine hK _ _ (range_blk24 HF1.2.2.1) ?_
            clear hK K hGb hg1 HF
            iterate 1 (refine mixR_pure rfl ?_; go_big_quiet_step ((intro _; rfl)); refine wpQuiet_nil ?_)
            refine mixR_done ?_
            go_wp2_with fail
            go_meet
            exact ⟨gH, rfl, rfl, HF1, hgB⟩
          · skip
            refine mixR_only rfl (fun K hK => ?_)
            go_wp2_with fail
            have hGb := Blk.new V0 42 (sigC zeroHead [])
            have hb := below_new1 V0 (Obj.cells (sigC zeroHead []) 42)
            have hgB := HF.2.1.2.1
            have HF1 := HF.next hb
            have hs1 := hs.next hb
            refine hK _ _ (range_blk24 HF1.2.2.1) ?_
            clear hK K
            generalize V0.heap.size = gH at hGb hgB ⊢
            refine mixR_at (fun V => NmF w B0 gS gR sC (newS 32 seed19) hd tg V ∧ BSl V V.heap.size (.slice A seed19.length 4) seed19 ∧ Blk V gH 42 (sigC zeroHead []) ∧ B0 ≤ gH) ⟨HF1, hs1, hGb, hgB⟩ ?_
            clear hb HF HF1 hGb hgB hs hs1
            clear V0
            rintro V0 ⟨HF, hs, hGb, hgB⟩
            refine mixR_only rfl (fun K hK => ?_)
            go_wp2_with fail
            have mp := pub_no 32 1 100 A seed19.length 4 (.agg sC) (newS 32 seed19) 99 (by decide) (by rw [(newS_len 32 seed19).2.1]; decide) (turned_99 32 seed19) V0 HF.sta
            refine mp.mono ?_
            clear mp
            rintro e V1 ⟨rfl, hb⟩
            go_wp2_with fail
            refine hK _ _ (range_blk24 ((HF.next hb).2.2.1)) ?_
            clear hK K
            refine mixR_at (fun V => NmF w B0 gS gR sC (newS 32 seed19) hd tg V ∧ Blk V gH 42 (sigC zeroHead []) ∧ B0 ≤ gH) ⟨HF.next hb, hGb.below hb hGb.lt, hgB⟩ ?_
            clear hb hs HF hGb hgB
            clear V0 V1
            rintro V0 ⟨HF, hGb, hgB⟩
            iterate 3 (refine mixR_pure rfl ?_; go_big_quiet_step ((intro _; rfl)); refine wpQuiet_nil ?_)
            refine mixR_only rfl (fun K hK => ?_)
            refine wpList_storeB rfl rfl 42 (.tmp 7) (.tmp 53) rfl gH 0 rfl (sigC zeroHead []) rfl _ _ hGb (by rw [sigC_size]; kernel_rfl) (by rw [sigC_size]; first | omega | (rw [sigC_size]; omega)) (sigC_one _ _) ?_
            intro V1 hG1 hg1
            rw [copied_all _ _ (by simp only [sigC_size])] at hG1
            have HF1 := HF.store hg1 hgB
            refine hK _ _ (range_blk24 HF1.2.2.1) ?_
            clear hK K hGb hg1 HF
            iterate 1 (refine mixR_pure rfl ?_; go_big_quiet_step ((intro _; rfl)); refine wpQuiet_nil ?_)
            refine mixR_done ?_
            go_wp2_with fail
            go_meet
            exact ⟨gH, rfl, rfl, HF1, hgB⟩
        · skip
          refine mixR_only rfl (fun K hK => ?_)
          go_wp2_with fail
          have hGb := Blk.new V0 42 (sigC zeroHead [])
          have hb := below_new1 V0 (Obj.cells (sigC zeroHead []) 42)
          have hgB := HF.2.1.2.1
          have HF1 := HF.next hb
          refine hK _ _ (range_blk24 HF1.2.2.1) ?_
          clear hK K
          generalize V0.heap.size = gH at hGb hgB ⊢
          refine mixR_at (fun V => NmF w B0 gS gR sC (newS 32 seed19) hd tg V ∧ Blk V gH 42 (sigC zeroHead []) ∧ B0 ≤ gH) ⟨HF1, hGb, hgB⟩ ?_
          clear hb HF HF1 hGb hgB
          clear V0
          rintro V0 ⟨HF, hGb, hgB⟩
          refine mixR_only rfl (fun K hK => ?_)
          go_wp2_with fail
          refine (config_any V0).mono ?_
          rintro e V1 ⟨A, rfl, hs, hb⟩
          go_wp2_with fail
          refine hK _ _ (range_blk24 ((HF.next hb).2.2.1)) ?_
          clear hK K
          refine mixR_at (fun V => NmF w B0 gS gR sC (newS 32 seed19) hd tg V ∧ BSl V V.heap.size (.slice A seed19.length 4) seed19 ∧ Blk V gH 42 (sigC zeroHead []) ∧ B0 ≤ gH) ⟨HF.next hb, hs, hGb.below hb hGb.lt, hgB⟩ ?_
          clear hs hb HF hGb hgB
          clear V0 V1
          rintro V0 ⟨HF, hs, hGb, hgB⟩
          refine mixR_only rfl (fun K hK => ?_)
          go_wp2_with fail
          have mp := pub_no 32 1 100 A seed19.length 4 (.agg sC) (newS 32 seed19) 99 (by decide) (by rw [(newS_len 32 seed19).2.1]; decide) (turned_99 32 seed19) V0 HF.sta
          refine mp.mono ?_
          clear mp
          rintro e V1 ⟨rfl, hb⟩
          go_wp2_with fail
          refine hK _ _ (range_blk24 ((HF.next hb).2.2.1)) ?_
          clear hK K
          refine mixR_at (fun V => NmF w B0 gS gR sC (newS 32 seed19) hd tg V ∧ Blk V gH 42 (sigC zeroHead []) ∧ B0 ≤ gH) ⟨HF.next hb, hGb.below hb hGb.lt, hgB⟩ ?_
          clear hb hs HF hGb hgB
          clear V0 V1
          rintro V0 ⟨HF, hGb, hgB⟩
          iterate 3 (refine mixR_pure rfl ?_; go_big_quiet_step ((intro _; rfl)); refine wpQuiet_nil ?_)
          refine mixR_only rfl (fun K hK => ?_)
          refine wpList_storeB rfl rfl 42 (.tmp 7) (.tmp 53) rfl gH 0 rfl (sigC zeroHead []) rfl _ _ hGb (by rw [sigC_size]; kernel_rfl) (by rw [sigC_size]; first | omega | (rw [sigC_size]; omega)) (sigC_one _ _) ?_
          intro V1 hG1 hg1
          rw [copied_all _ _ (by simp only [sigC_size])] at hG1
          have HF1 := HF.store hg1 hgB
          refine hK _ _ (range_blk24 HF1.2.2.1) ?_
          clear hK K hGb hg1 HF
          iterate 1 (refine mixR_pure rfl ?_; go_big_quiet_step ((intro _; rfl)); refine wpQuiet_nil ?_)
          refine mixR_done ?_
          go_wp2_with fail
          go_meet
          exact ⟨gH, rfl, rfl, HF1, hgB⟩
      case rest =>
        obtain ⟨g7, rfl, rfl, hN, hg7⟩ := hcut
        have F10 := Lib.hid hN
        clear hN F9
        go_upto_region 10 with fail
        go_cut [9, 10] (fun hp ev wx => ∃ gH, hp = .pointer (some ⟨gH, 0, none⟩) ∧ ev = .int .i64 1 ∧ NmF w B0 gS gR sC (newS 32 seed19) hd tg wx ∧ B0 ≤ gH)
        case first =>
          refine wp_region_mixR (.plain 1 <| .more 0 (.more 2 (.pure 3 <| .pure 4 <| .pure 5 <| .only 6 <| .only 7 <| .pure 8 <| .done) (.only 6 <| .only 2 <| .pure 3 <| .pure 4 <| .pure 5 <| .only 7 <| .pure 8 <| .done)) (.only 6 <| .only 0 <| .only 2 <| .pure 3 <| .pure 4 <| .pure 5 <| .only 7 <| .pure 8 <| .done)) (ClA gS 0 sC.toList) (by kernel_rfl) (by kernel_rfl) (range_blk24 ((F10.out.2.2.1).drewN 1)) ?_
          refine mixR_at (fun V => NmF w B0 gS gR sC (newS 32 seed19) hd tg V) (F10.out.next (below_drewN (Below.refl _ _) 1)) ?_
          clear F10
          rintro V0 HF
          refine mixR_plain rfl ?_
          refine wpQuiet_loadMid rfl 32 (.tmp 5) rfl gS 0 rfl sC _ (fun V hV => hV) Tryd.underlying32 rfl (by rw [HQ.out.2.2]; kernel_rfl) ?_
          simp only [Act.put, List.setIfInBounds_toArray, List.set_cons_zero, List.set_cons_succ]
          refine wpQuiet_nil ?_
          refine mixR_more rfl (fun K hK => ?_) ?_
          · skip
            go_wp2_with fail
            refine (config_any V0).mono ?_
            rintro e V1 ⟨A, rfl, hs, hb⟩
            go_wp2_with fail
            refine hK _ _ (range_blk24 ((HF.next hb).2.2.1)) ?_
            clear hK K
            refine mixR_at (fun V => NmF w B0 gS gR sC (newS 32 seed19) hd tg V ∧ BSl V V.heap.size (.slice A seed19.length 4) seed19) ⟨HF.next hb, hs⟩ ?_
            clear hs hb HF
            clear V0 V1
            rintro V0 ⟨HF, hs⟩
            refine mixR_more rfl (fun K hK => ?_) ?_
            · skip
              go_wp2_with fail
              have mp := pub_no 32 1 100 A seed19.length 4 (.agg sC) (newS 32 seed19) 1 (by decide) (by rw [(newS_len 32 seed19).2.1]; decide) (turned_1 32 seed19) V0 HF.sta
              refine mp.mono ?_
              clear mp
              rintro e V1 ⟨rfl, hb⟩
              go_wp2_with fail
              refine hK _ _ (range_blk24 ((HF.next hb).2.2.1)) ?_
              clear hK K
              refine mixR_at (fun V => NmF w B0 gS gR sC (newS 32 seed19) hd tg V) (HF.next hb) ?_
              clear hb hs HF
              clear V0 V1
              rintro V0 HF
              iterate 3 (refine mixR_pure rfl ?_; go_big_quiet_step ((intro _; rfl)); refine wpQuiet_nil ?_)
              refine mixR_only rfl (fun K hK => ?_)
              go_wp2_with fail
              have hGb := Blk.new V0 42 (sigC zeroHead [])
              have hb := below_new1 V0 (Obj.cells (sigC zeroHead []) 42)
              have hgB := HF.2.1.2.1
              have HF1 := HF.next hb
              refine hK _ _ (range_blk24 HF1.2.2.1) ?_
              clear hK K
              generalize V0.heap.size = gH at hGb hgB ⊢
              refine mixR_at (fun V => NmF w B0 gS gR sC (newS 32 seed19) hd tg V ∧ Blk V gH 42 (sigC zeroHead []) ∧ B0 ≤ gH) ⟨HF1, hGb, hgB⟩ ?_
              clear hb HF HF1 hGb hgB
              clear V0
              rintro V0 ⟨HF, hGb, hgB⟩
              refine mixR_only rfl (fun K hK => ?_)
              refine wpList_storeB rfl rfl 42 (.tmp 9) (.tmp 59) rfl gH 0 rfl (sigC zeroHead []) rfl _ _ hGb (by rw [sigC_size]; kernel_rfl) (by rw [sigC_size]; first | omega | (rw [sigC_size]; omega)) (sigC_one _ _) ?_
              intro V1 hG1 hg1
              rw [copied_all _ _ (by simp only [sigC_size])] at hG1
              have HF1 := HF.store hg1 hgB
              refine hK _ _ (range_blk24 HF1.2.2.1) ?_
              clear hK K hGb hg1 HF
              iterate 1 (refine mixR_pure rfl ?_; go_big_quiet_step ((intro _; rfl)); refine wpQuiet_nil ?_)
              refine mixR_done ?_
              go_wp2_with fail
              go_meet
              exact ⟨gH, rfl, rfl, HF1, hgB⟩
            · skip
              refine mixR_only rfl (fun K hK => ?_)
              go_wp2_with fail
              have hGb := Blk.new V0 42 (sigC zeroHead [])
              have hb := below_new1 V0 (Obj.cells (sigC zeroHead []) 42)
              have hgB := HF.2.1.2.1
              have HF1 := HF.next hb
              have hs1 := hs.next hb
              refine hK _ _ (range_blk24 HF1.2.2.1) ?_
              clear hK K
              generalize V0.heap.size = gH at hGb hgB ⊢
              refine mixR_at (fun V => NmF w B0 gS gR sC (newS 32 seed19) hd tg V ∧ BSl V V.heap.size (.slice A seed19.length 4) seed19 ∧ Blk V gH 42 (sigC zeroHead []) ∧ B0 ≤ gH) ⟨HF1, hs1, hGb, hgB⟩ ?_
              clear hb HF HF1 hGb hgB hs hs1
              clear V0
              rintro V0 ⟨HF, hs, hGb, hgB⟩
              refine mixR_only rfl (fun K hK => ?_)
              go_wp2_with fail
              have mp := pub_no 32 1 100 A seed19.length 4 (.agg sC) (newS 32 seed19) 1 (by decide) (by rw [(newS_len 32 seed19).2.1]; decide) (turned_1 32 seed19) V0 HF.sta
              refine mp.mono ?_
              clear mp
              rintro e V1 ⟨rfl, hb⟩
              go_wp2_with fail
              refine hK _ _ (range_blk24 ((HF.next hb).2.2.1)) ?_
              clear hK K
              refine mixR_at (fun V => NmF w B0 gS gR sC (newS 32 seed19) hd tg V ∧ Blk V gH 42 (sigC zeroHead []) ∧ B0 ≤ gH) ⟨HF.next hb, hGb.below hb hGb.lt, hgB⟩ ?_
              clear hb hs HF hGb hgB
              clear V0 V1
              rintro V0 ⟨HF, hGb, hgB⟩
              iterate 3 (refine mixR_pure rfl ?_; go_big_quiet_step ((intro _; rfl)); refine wpQuiet_nil ?_)
              refine mixR_only rfl (fun K hK => ?_)
              refine wpList_storeB rfl rfl 42 (.tmp 9) (.tmp 59) rfl gH 0 rfl (sigC zeroHead []) rfl _ _ hGb (by rw [sigC_size]; kernel_rfl) (by rw [sigC_size]; first | omega | (rw [sigC_size]; omega)) (sigC_one _ _) ?_
              intro V1 hG1 hg1
              rw [copied_all _ _ (by simp only [sigC_size])] at hG1
              have HF1 := HF.store hg1 hgB
              refine hK _ _ (range_blk24 HF1.2.2.1) ?_
              clear hK K hGb hg1 HF
              iterate 1 (refine mixR_pure rfl ?_; go_big_quiet_step ((intro _; rfl)); refine wpQuiet_nil ?_)
              refine mixR_done ?_
              go_wp2_with fail
              go_meet
              exact ⟨gH, rfl, rfl, HF1, hgB⟩
          · skip
            refine mixR_only rfl (fun K hK => ?_)
            go_wp2_with fail
            have hGb := Blk.new V0 42 (sigC zeroHead [])
            have hb := below_new1 V0 (Obj.cells (sigC zeroHead []) 42)
            have hgB := HF.2.1.2.1
            have HF1 := HF.next hb
            refine hK _ _ (range_blk24 HF1.2.2.1) ?_
            clear hK K
            generalize V0.heap.size = gH at hGb hgB ⊢
            refine mixR_at (fun V => NmF w B0 gS gR sC (newS 32 seed19) hd tg V ∧ Blk V gH 42 (sigC zeroHead []) ∧ B0 ≤ gH) ⟨HF1, hGb, hgB⟩ ?_
            clear hb HF HF1 hGb hgB
            clear V0
            rintro V0 ⟨HF, hGb, hgB⟩
            refine mixR_only rfl (fun K hK => ?_)
            go_wp2_with fail
            refine (config_any V0).mono ?_
            rintro e V1 ⟨A, rfl, hs, hb⟩
            go_wp2_with fail
            refine hK _ _ (range_blk24 ((HF.next hb).2.2.1)) ?_
            clear hK K
            refine mixR_at (fun V => NmF w B0 gS gR sC (newS 32 seed19) hd tg V ∧ BSl V V.heap.size (.slice A seed19.length 4) seed19 ∧ Blk V gH 42 (sigC zeroHead []) ∧ B0 ≤ gH) ⟨HF.next hb, hs, hGb.below hb hGb.lt, hgB⟩ ?_
            clear hs hb HF hGb hgB
            clear V0 V1
            rintro V0 ⟨HF, hs, hGb, hgB⟩
            refine mixR_only rfl (fun K hK => ?_)
            go_wp2_with fail
            have mp := pub_no 32 1 100 A seed19.length 4 (.agg sC) (newS 32 seed19) 1 (by decide) (by rw [(newS_len 32 seed19).2.1]; decide) (turned_1 32 seed19) V0 HF.sta
            refine mp.mono ?_
            clear mp
            rintro e V1 ⟨rfl, hb⟩
            go_wp2_with fail
            refine hK _ _ (range_blk24 ((HF.next hb).2.2.1)) ?_
            clear hK K
            refine mixR_at (fun V => NmF w B0 gS gR sC (newS 32 seed19) hd tg V ∧ Blk V gH 42 (sigC zeroHead []) ∧ B0 ≤ gH) ⟨HF.next hb, hGb.below hb hGb.lt, hgB⟩ ?_
            clear hb hs HF hGb hgB
            clear V0 V1
            rintro V0 ⟨HF, hGb, hgB⟩
            iterate 3 (refine mixR_pure rfl ?_; go_big_quiet_step ((intro _; rfl)); refine wpQuiet_nil ?_)
            refine mixR_only rfl (fun K hK => ?_)
            refine wpList_storeB rfl rfl 42 (.tmp 9) (.tmp 59) rfl gH 0 rfl (sigC zeroHead []) rfl _ _ hGb (by rw [sigC_size]; kernel_rfl) (by rw [sigC_size]; first | omega | (rw [sigC_size]; omega)) (sigC_one _ _) ?_
            intro V1 hG1 hg1
            rw [copied_all _ _ (by simp only [sigC_size])] at hG1
            have HF1 := HF.store hg1 hgB
            refine hK _ _ (range_blk24 HF1.2.2.1) ?_
            clear hK K hGb hg1 HF
            iterate 1 (refine mixR_pure rfl ?_; go_big_quiet_step ((intro _; rfl)); refine wpQuiet_nil ?_)
            refine mixR_done ?_
            go_wp2_with fail
            go_meet
            exact ⟨gH, rfl, rfl, HF1, hgB⟩
        case rest =>
          obtain ⟨g9, rfl, rfl, hN, hg9⟩ := hcut
          have F11 := Lib.hid hN
          clear hN F10
          go_upto_region 11 with fail
          go_cut [11, 12] (fun hp ev wx => ∃ gH, hp = .pointer (some ⟨gH, 0, none⟩) ∧ ev = .int .i64 0 ∧ NmF w B0 gS gR sC (newS 32 seed19) hd tg wx ∧ B0 ≤ gH ∧ Blk wx gH 42 (sigC hd tg))
          case first =>
            refine wp_region_mixR (.plain 1 <| .more 0 (.more 2 (.pure 3 <| .pure 4 <| .pure 5 <| .only 6 <| .only 7 <| .pure 8 <| .done) (.only 6 <| .only 2 <| .pure 3 <| .pure 4 <| .pure 5 <| .only 7 <| .pure 8 <| .done)) (.only 6 <| .only 0 <| .only 2 <| .pure 3 <| .pure 4 <| .pure 5 <| .only 7 <| .pure 8 <| .done)) (ClA gS 0 sC.toList) (by kernel_rfl) (by kernel_rfl) (range_blk24 ((F11.out.2.2.1).drewN 1)) ?_
            refine mixR_at (fun V => NmF w B0 gS gR sC (newS 32 seed19) hd tg V) (F11.out.next (below_drewN (Below.refl _ _) 1)) ?_
            clear F11
            rintro V0 HF
            refine mixR_plain rfl ?_
            refine wpQuiet_loadMid rfl 32 (.tmp 5) rfl gS 0 rfl sC _ (fun V hV => hV) Tryd.underlying32 rfl (by rw [HQ.out.2.2]; kernel_rfl) ?_
            simp only [Act.put, List.setIfInBounds_toArray, List.set_cons_zero, List.set_cons_succ]
            refine wpQuiet_nil ?_
            refine mixR_more rfl (fun K hK => ?_) ?_
            · skip
              go_wp2_with fail
              refine (config_any V0).mono ?_
              rintro e V1 ⟨A, rfl, hs, hb⟩
              go_wp2_with fail
              refine hK _ _ (range_blk24 ((HF.next hb).2.2.1)) ?_
              clear hK K
              refine mixR_at (fun V => NmF w B0 gS gR sC (newS 32 seed19) hd tg V ∧ BSl V V.heap.size (.slice A seed19.length 4) seed19) ⟨HF.next hb, hs⟩ ?_
              clear hs hb HF
              clear V0 V1
              rintro V0 ⟨HF, hs⟩
              refine mixR_more rfl (fun K hK => ?_) ?_
              · skip
                go_wp2_with fail
                have mp := pub_ok 32 1 100 (.slice A seed19.length 4) (.agg sC) seed19 (newS 32 seed19) 0 (by rw [(newS_len 32 seed19).2.1]; decide) (tre1_ok 32 seed19) (by rw [(newS_len 32 seed19).2.1]; decide) (by rw [newS_at0]; exact List.cons_ne_nil _ _) V0 hs (by decide) HF.sta (HG.out.next HF.1)
                rw [pub_new, ← HH.out.1, ← HH.out.2] at mp
                refine mp.mono ?_
                clear mp
                rintro e V1 ⟨rfl, hb⟩
                go_wp2_with fail
                refine hK _ _ (range_blk24 ((HF.next hb).2.2.1)) ?_
                clear hK K
                refine mixR_at (fun V => NmF w B0 gS gR sC (newS 32 seed19) hd tg V) (HF.next hb) ?_
                clear hb hs HF
                clear V0 V1
                rintro V0 HF
                iterate 3 (refine mixR_pure rfl ?_; go_big_quiet_step ((intro _; rfl)); refine wpQuiet_nil ?_)
                refine mixR_only rfl (fun K hK => ?_)
                go_wp2_with fail
                have hGb := Blk.new V0 42 (sigC zeroHead [])
                have hb := below_new1 V0 (Obj.cells (sigC zeroHead []) 42)
                have hgB := HF.2.1.2.1
                have HF1 := HF.next hb
                refine hK _ _ (range_blk24 HF1.2.2.1) ?_
                clear hK K
                generalize V0.heap.size = gH at hGb hgB ⊢
                refine mixR_at (fun V => NmF w B0 gS gR sC (newS 32 seed19) hd tg V ∧ Blk V gH 42 (sigC zeroHead []) ∧ B0 ≤ gH) ⟨HF1, hGb, hgB⟩ ?_
                clear hb HF HF1 hGb hgB
                clear V0
                rintro V0 ⟨HF, hGb, hgB⟩
                refine mixR_only rfl (fun K hK => ?_)
                refine wpList_storeB rfl rfl 42 (.tmp 11) (.tmp 65) rfl gH 0 rfl (sigC hd tg) rfl _ _ hGb (by rw [sigC_size]; kernel_rfl) (by rw [sigC_size]; first | omega | (rw [sigC_size]; omega)) (sigC_one _ _) ?_
                intro V1 hG1 hg1
                rw [copied_all _ _ (by simp only [sigC_size])] at hG1
                have HF1 := HF.store hg1 hgB
                refine hK _ _ (range_blk24 HF1.2.2.1) ?_
                clear hK K hGb hg1 HF
                iterate 1 (refine mixR_pure rfl ?_; go_big_quiet_step ((intro _; rfl)); refine wpQuiet_nil ?_)
                refine mixR_done ?_
                go_wp2_with fail
                go_meet
                exact ⟨gH, rfl, rfl, HF1, hgB, hG1⟩
              · skip
                refine mixR_only rfl (fun K hK => ?_)
                go_wp2_with fail
                have hGb := Blk.new V0 42 (sigC zeroHead [])
                have hb := below_new1 V0 (Obj.cells (sigC zeroHead []) 42)
                have hgB := HF.2.1.2.1
                have HF1 := HF.next hb
                have hs1 := hs.next hb
                refine hK _ _ (range_blk24 HF1.2.2.1) ?_
                clear hK K
                generalize V0.heap.size = gH at hGb hgB ⊢
                refine mixR_at (fun V => NmF w B0 gS gR sC (newS 32 seed19) hd tg V ∧ BSl V V.heap.size (.slice A seed19.length 4) seed19 ∧ Blk V gH 42 (sigC zeroHead []) ∧ B0 ≤ gH) ⟨HF1, hs1, hGb, hgB⟩ ?_
                clear hb HF HF1 hGb hgB hs hs1
                clear V0
                rintro V0 ⟨HF, hs, hGb, hgB⟩
                refine mixR_only rfl (fun K hK => ?_)
                go_wp2_with fail
                have mp := pub_ok 32 1 100 (.slice A seed19.length 4) (.agg sC) seed19 (newS 32 seed19) 0 (by rw [(newS_len 32 seed19).2.1]; decide) (tre1_ok 32 seed19) (by rw [(newS_len 32 seed19).2.1]; decide) (by rw [newS_at0]; exact List.cons_ne_nil _ _) V0 hs (by decide) HF.sta (HG.out.next HF.1)
                rw [pub_new, ← HH.out.1, ← HH.out.2] at mp
                refine mp.mono ?_
                clear mp
                rintro e V1 ⟨rfl, hb⟩
                go_wp2_with fail
                refine hK _ _ (range_blk24 ((HF.next hb).2.2.1)) ?_
                clear hK K
                refine mixR_at (fun V => NmF w B0 gS gR sC (newS 32 seed19) hd tg V ∧ Blk V gH 42 (sigC zeroHead []) ∧ B0 ≤ gH) ⟨HF.next hb, hGb.below hb hGb.lt, hgB⟩ ?_
                clear hb hs HF hGb hgB
                clear V0 V1
                rintro V0 ⟨HF, hGb, hgB⟩
                iterate 3 (refine mixR_pure rfl ?_; go_big_quiet_step ((intro _; rfl)); refine wpQuiet_nil ?_)
                refine mixR_only rfl (fun K hK => ?_)
                refine wpList_storeB rfl rfl 42 (.tmp 11) (.tmp 65) rfl gH 0 rfl (sigC hd tg) rfl _ _ hGb (by rw [sigC_size]; kernel_rfl) (by rw [sigC_size]; first | omega | (rw [sigC_size]; omega)) (sigC_one _ _) ?_
                intro V1 hG1 hg1
                rw [copied_all _ _ (by simp only [sigC_size])] at hG1
                have HF1 := HF.store hg1 hgB
                refine hK _ _ (range_blk24 HF1.2.2.1) ?_
                clear hK K hGb hg1 HF
                iterate 1 (refine mixR_pure rfl ?_; go_big_quiet_step ((intro _; rfl)); refine wpQuiet_nil ?_)
                refine mixR_done ?_
                go_wp2_with fail
                go_meet
                exact ⟨gH, rfl, rfl, HF1, hgB, hG1⟩
            · skip
              refine mixR_only rfl (fun K hK => ?_)
              go_wp2_with fail
              have hGb := Blk.new V0 42 (sigC zeroHead [])
              have hb := below_new1 V0 (Obj.cells (sigC zeroHead []) 42)
              have hgB := HF.2.1.2.1
              have HF1 := HF.next hb
              refine hK _ _ (range_blk24 HF1.2.2.1) ?_
              clear hK K
              generalize V0.heap.size = gH at hGb hgB ⊢
              refine mixR_at (fun V => NmF w B0 gS gR sC (newS 32 seed19) hd tg V ∧ Blk V gH 42 (sigC zeroHead []) ∧ B0 ≤ gH) ⟨HF1, hGb, hgB⟩ ?_
              clear hb HF HF1 hGb hgB
              clear V0
              rintro V0 ⟨HF, hGb, hgB⟩
              refine mixR_only rfl (fun K hK => ?_)
              go_wp2_with fail
              refine (config_any V0).mono ?_
              rintro e V1 ⟨A, rfl, hs, hb⟩
              go_wp2_with fail
              refine hK _ _ (range_blk24 ((HF.next hb).2.2.1)) ?_
              clear hK K
              refine mixR_at (fun V => NmF w B0 gS gR sC (newS 32 seed19) hd tg V ∧ BSl V V.heap.size (.slice A seed19.length 4) seed19 ∧ Blk V gH 42 (sigC zeroHead []) ∧ B0 ≤ gH) ⟨HF.next hb, hs, hGb.below hb hGb.lt, hgB⟩ ?_
              clear hs hb HF hGb hgB
              clear V0 V1
              rintro V0 ⟨HF, hs, hGb, hgB⟩
              refine mixR_only rfl (fun K hK => ?_)
              go_wp2_with fail
              have mp := pub_ok 32 1 100 (.slice A seed19.length 4) (.agg sC) seed19 (newS 32 seed19) 0 (by rw [(newS_len 32 seed19).2.1]; decide) (tre1_ok 32 seed19) (by rw [(newS_len 32 seed19).2.1]; decide) (by rw [newS_at0]; exact List.cons_ne_nil _ _) V0 hs (by decide) HF.sta (HG.out.next HF.1)
              rw [pub_new, ← HH.out.1, ← HH.out.2] at mp
              refine mp.mono ?_
              clear mp
              rintro e V1 ⟨rfl, hb⟩
              go_wp2_with fail
              refine hK _ _ (range_blk24 ((HF.next hb).2.2.1)) ?_
              clear hK K
              refine mixR_at (fun V => NmF w B0 gS gR sC (newS 32 seed19) hd tg V ∧ Blk V gH 42 (sigC zeroHead []) ∧ B0 ≤ gH) ⟨HF.next hb, hGb.below hb hGb.lt, hgB⟩ ?_
              clear hb hs HF hGb hgB
              clear V0 V1
              rintro V0 ⟨HF, hGb, hgB⟩
              iterate 3 (refine mixR_pure rfl ?_; go_big_quiet_step ((intro _; rfl)); refine wpQuiet_nil ?_)
              refine mixR_only rfl (fun K hK => ?_)
              refine wpList_storeB rfl rfl 42 (.tmp 11) (.tmp 65) rfl gH 0 rfl (sigC hd tg) rfl _ _ hGb (by rw [sigC_size]; kernel_rfl) (by rw [sigC_size]; first | omega | (rw [sigC_size]; omega)) (sigC_one _ _) ?_
              intro V1 hG1 hg1
              rw [copied_all _ _ (by simp only [sigC_size])] at hG1
              have HF1 := HF.store hg1 hgB
              refine hK _ _ (range_blk24 HF1.2.2.1) ?_
              clear hK K hGb hg1 HF
              iterate 1 (refine mixR_pure rfl ?_; go_big_quiet_step ((intro _; rfl)); refine wpQuiet_nil ?_)
              refine mixR_done ?_
              go_wp2_with fail
              go_meet
              exact ⟨gH, rfl, rfl, HF1, hgB, hG1⟩
          case rest =>
            obtain ⟨g11, rfl, rfl, hN, hg11, hK11⟩ := hcut
            have F12 := Lib.hid (And.intro hN (And.intro hK11 hg11))
            clear hN hK11 hg11 F11
            have x4 : wc.cell? ⟨gS, 4, none⟩ = some (.slice (some ⟨gR, 0, none⟩) 16 cR) := (F12.out.1.2.2.1.cell 4).trans (by rw [← Array.getElem?_toList]; exact HQ.out.1)
            go_upto_region 14 with fail
            clear x4
            have HRg := Lib.hid (range_blk24 F12.out.1.2.2.1)
            have mc := copy_any (.agg sC) (newS 32 seed19) wc F12.out.1.sta (newS_ok 32 seed19)
            have hzs := zero_state
            go_wp2_with (first
              | (refine wpList_loadR 32 (.tmp 5) rfl gS 0 rfl sC _ HRg.out Tryd.underlying32 rfl (by rw [HQ.out.2.2]; kernel_rfl) rfl ?_)
              | (go_at_call 8; refine mc.mono ?_; clear mc; rintro e w5 ⟨u, rfl, hI, hb5⟩; refine Hid.out ?_))
            have hI2 := hI
            obtain ⟨tU, rU, qU, csx, lo, rfl, -, oR, hcl, -, -, -, -⟩ := hI
            obtain ⟨gR2, cR2, cur2, er, hge2, hB2, -⟩ := own_shape oR (by rw [hcl]; decide)
            rw [hcl, show (newS 32 seed19).trees.length = 16 from rfl] at er
            subst er
            obtain ⟨uC, huC⟩ : ∃ uC, uC = staC (newS 32 seed19) tU (.slice (some ⟨gR2, 0, none⟩) 16 cR2) qU := ⟨_, rfl⟩
            have HU := Lib.hid (show uC.toList[4]? = some (.slice (some ⟨gR2, 0, none⟩) 16 cR2) ∧ uC.size = 6 ∧ uC = staC (newS 32 seed19) tU (.slice (some ⟨gR2, 0, none⟩) 16 cR2) qU from ⟨by rw [huC]; rfl, by rw [huC]; rfl, huC⟩)
            have HU1 := Lib.hid (show ∀ v ∈ uC.toList, v.oneCell' = true from by
              obtain ⟨t2, r2, g2, cs2, lo2, e2, o1, -, -, -, -, -, o3⟩ := hI2
              obtain ⟨A1, c1, e1⟩ := own_slice2 o1
              obtain ⟨A3, c3, e3⟩ := own_slice2 o3
              have e4 : uC = staC (newS 32 seed19) t2 r2 g2 := by rw [huC]; injection e2
              have e5 : .slice (some ⟨gR2, 0, none⟩) 16 cR2 = r2 := by have := congrArg (fun a : Array Value => a[4]?) (huC.symm.trans e4); injection this
              rw [e4, ← e5, e1, e3]
              exact staC_one _ _ _ _ rfl rfl rfl)
            rw [← huC] at hI2 ⊢
            have HI := Lib.hid (And.intro hI2 hb5)
            have F5 := Lib.hid (show NmF w B0 gS gR sC (newS 32 seed19) hd tg w5 ∧ Blk w5 g11 42 (sigC hd tg) ∧ B0 ≤ g11 ∧ wc.heap.size ≤ gR2 ∧ gR2 < w5.heap.size ∧ B0 ≤ wc.heap.size from ⟨F12.out.1.next hb5, F12.out.2.1.below hb5 F12.out.2.1.lt, F12.out.2.2, hge2, hB2.lt, F12.out.1.2.1.2.1⟩)
            clear huC hI2 hb5 hge2 hB2 oR hcl F12 HRg
            refine Lib.hid ?_
            have hD := Blk.new w5 32 (staC nilS (.slice none 0 0) (.slice none 0 0) (.slice none 0 0))
            have hn := below_new1 w5 (Obj.cells (staC nilS (.slice none 0 0) (.slice none 0 0) (.slice none 0 0)) 32)
            go_upto_region 15 with (first
              | (refine wpList_storeB rfl rfl 32 (.tmp 13) (.tmp 72) rfl w5.heap.size 0 rfl uC rfl _ _ hD (by rw [HU.out.2.1]; kernel_rfl) (by rw [HU.out.2.1, staC_size]; omega) HU1.out ?_; intro w6 hB6 hg6))
            rw [copied_all _ _ (by rw [HU.out.2.1, staC_size])] at hB6
            have hb6 := below_only hn hg6 (Nat.le_refl _) hn.size
            have hI6 := HI.out.1.below hb6
            rw [HU.out.2.2] at hI6
            obtain ⟨cs2, hsz2, hl2, oR2, hset⟩ := sta_leaves0 hI6 (by decide) (by decide) (by decide)
            obtain ⟨g13, hg13⟩ : ∃ g, w5.heap.size = g := ⟨_, rfl⟩
            have F6 := Lib.hid (show NmF w B0 gS gR sC (newS 32 seed19) hd tg w6 ∧ Blk w6 g11 42 (sigC hd tg) ∧ B0 ≤ g11 ∧ wc.heap.size ≤ gR2 ∧ gR2 < w6.heap.size ∧ B0 ≤ wc.heap.size ∧ wc.heap.size ≤ w6.heap.size from ⟨F5.out.1.next hb6, F5.out.2.1.below hb6 F5.out.2.1.lt, F5.out.2.2.1, F5.out.2.2.2.1, Nat.lt_of_lt_of_le F5.out.2.2.2.2.1 hb6.size, F5.out.2.2.2.2.2, Nat.le_trans HI.out.2.size hb6.size⟩)
            have HL := Lib.hid (show uC.toList[4]? = some (.slice (some ⟨gR2, 0, none⟩) 16 cR2) ∧ Blk w6 g13 32 uC ∧ (∀ c ∈ cs2, c.size = 75) ∧ cs2.length = 16 ∧ w6.ownsRow wc.heap.size 49 75 (.slice (some ⟨gR2, 0, none⟩) 16 cR2) cs2.length (flat cs2) from ⟨HU.out.1, by rw [← hg13]; exact hB6, hsz2, hl2, oR2⟩)
            have HS := Lib.hid hset
            rw [hg13]
            clear hD hn hB6 hg6 hb6 hI6 hsz2 hl2 oR2 hset hzs HI F5 hg13
            obtain ⟨i0, hi, hz0, hz1, hz2⟩ := info_parts (by kernel_rfl : (Tryd.prog.info? 5).map (fun i => (i.zero, i.size, i.bytes)) = some (some (.int .u8 0), 1, 1))
            refine wp_region_mixR (.pure 0 <| .plain 1 <| .only 2 <| .only 3 <| .pure 4 <| .pure 5 <| .only 6 <| .done) (ClA g13 0 uC.toList) (by kernel_rfl) (by kernel_rfl) (range_blk24 (HL.out.2.1.drewN 1)) ?_
            refine mixR_at (fun V => Below w6.heap.size w6 V) (below_drewN (Below.refl _ _) 1) ?_
            rintro V0 hb0
            refine mixR_pure rfl ?_
            go_big_quiet_step ((intro _; rfl))
            refine wpQuiet_nil ?_
            refine mixR_plain rfl ?_
            refine wpQuiet_load1 rfl _ (.tmp 73) rfl _ rfl _ Tryd.underlying29 rfl _ (fun V hV => hV 4 _ HL.out.1) ?_
            simp only [Act.put, List.setIfInBounds_toArray, List.set_cons_zero, List.set_cons_succ]
            refine wpQuiet_nil ?_
            refine mixR_only rfl (fun K hK => ?_)
            refine wpList_makeB rfl _ _ _ rfl 5 i0 _ Tryd.underlying23 hi hz0 hz1 rfl _ _ 5 rfl rfl (by rw [hz2]; decide) (by decide) ?_
            have hZ := Blk.new V0 5 (List.replicate 5 (Value.int .u8 0)).toArray
            have hb1 := hb0.trans ((below_new1 V0 (Obj.cells (List.replicate 5 (Value.int .u8 0)).toArray 5)).mono hb0.size)
            have hgz : w6.heap.size ≤ V0.heap.size := hb0.size
            go_wp2_with fail
            refine hK _ _ (range_blk24 (HL.out.2.1.below hb1 HL.out.2.1.lt)) ?_
            clear hK K hi hz0 hz1 hz2 i0
            generalize V0.heap.size = gz at hZ hgz ⊢
            refine mixR_at (fun V => Below w6.heap.size w6 V ∧ Blk V gz 5 (List.replicate 5 (Value.int .u8 0)).toArray) ⟨hb1, hZ⟩ ?_
            clear hb0 hb1 hZ V0
            rintro V0 ⟨hb0, hZ⟩
            refine mixR_only rfl (fun K hK => ?_)
            go_wp2_with fail
            have hV := Blk.new V0 23 #[Value.slice (some ⟨gz, 0, none⟩) 5 5]
            have hbn := below_new1 V0 (Obj.cells #[Value.slice (some ⟨gz, 0, none⟩) 5 5] 23)
            have hb1 := hb0.trans (hbn.mono hb0.size)
            have hZ1 := hZ.below hbn hZ.lt
            have hgv : w6.heap.size ≤ V0.heap.size := hb0.size
            refine hK _ _ (range_blk24 (HL.out.2.1.below hb1 HL.out.2.1.lt)) ?_
            clear hK K
            generalize V0.heap.size = gv at hV hgv ⊢
            refine mixR_at (fun V => Below w6.heap.size w6 V ∧ Blk V gz 5 (List.replicate 5 (Value.int .u8 0)).toArray ∧ Blk V gv 23 #[Value.slice (some ⟨gz, 0, none⟩) 5 5]) ⟨hb1, hZ1, hV⟩ ?_
            clear hb0 hb1 hZ hZ1 hV hbn V0
            rintro V0 ⟨hb0, hZ, hV⟩
            iterate 2 (refine mixR_pure rfl ?_; go_big_quiet_step ((intro _; rfl)); refine wpQuiet_nil ?_)
            have oR3 := own_below HL.out.2.2.2.2 hb0
            refine mixR_only rfl (fun K hK => ?_)
            refine wpList_storeRow1 rfl rfl _ (.tmp 78) (.tmp 76) rfl wc.heap.size 75 49 gR2 16 cR2 cs2 oR3 HL.out.2.2.1 0 5 (by rw [HL.out.2.2.2.1]; decide) rfl (.slice (some ⟨gv, 0, none⟩) 1 1) rfl (by kernel_rfl) (by decide) rfl rfl ?_
            intro V1 hO hg
            obtain ⟨curR2, hcurR2⟩ := own_blk oR3 (by rw [HL.out.2.2.2.1]; decide)
            have h13 := (HL.out.2.1.below hb0 HL.out.2.1.lt).grown hg (fun e => blk_ne (HL.out.2.1.below hb0 HL.out.2.1.lt) hcurR2 (by decide) (by injection e))
            have h11 := (F6.out.2.1.below hb0 F6.out.2.1.lt).grown hg (fun e => blk_ne (F6.out.2.1.below hb0 F6.out.2.1.lt) hcurR2 (by decide) (by injection e))
            have hlt2 := F6.out.2.2.2.2.1
            have hZ1 := hZ.grown hg (fun e => by injection e with e; omega)
            have hV1 := hV.grown hg (fun e => by injection e with e; omega)
            have hN1 := (F6.out.1.next hb0).store hg (Nat.le_trans F6.out.2.2.2.2.2.1 F6.out.2.2.2.1)
            have hU := HS.out V0 V1 (.slice (some ⟨gv, 0, none⟩) 1 1) [List.replicate 5 0] hb0 hO hg (SSl.one hV1 _ hV1.lt (BSl.of_list (bs := List.replicate 5 0) hZ1 _ hZ1.lt 5 (by decide) (by decide)))
            rw [← HU.out.2.2] at hU
            have F7 := Lib.hid (show NmF w B0 gS gR sC (newS 32 seed19) hd tg V1 ∧ Blk V1 g11 42 (sigC hd tg) ∧ Blk V1 g13 32 uC ∧ Sta V1 V1.heap.size (.agg uC) S19b from ⟨hN1, h11, h13, hU⟩)
            refine hK _ _ (range_blk24 h13) ?_
            clear hK K hb0 hZ hV oR3 hO hg hcurR2 h13 h11 hlt2 hZ1 hV1 hN1 hU HS HL F6 hgz hgv
            refine mixR_done ?_
            go_upto_region 16 with fail
            refine wp_region_mixP (.plain 0 <| .plain 1 <| .plain 2 <| .plain 3 <| .plain 4 <| .plain 5 <| .plain 6 <| .plain 7 <| .plain 8 <| .plain 9 <| .plain 10 <| .plain 11 <| .plain 12 <| .plain 13 <| .plain 14 <| .plain 15 <| .plain 16 <| .plain 17 <| .plain 18 <| .plain 19 <| .plain 20 <| .only 21 <| .plain 22 <| .plain 23 <| .plain 24 <| .plain 25 <| .only 26 <| .plain 27 <| .plain 28 <| .plain 29 <| .plain 30 <| .plain 31 <| .only 32 <| .plain 33 <| .plain 34 <| .plain 35 <| .only 36 <| .plain 37 <| .plain 38 <| .done) (by kernel_rfl) (by kernel_rfl) (fun V2 hb2 => ?_)
            have F8 := Lib.hid (show NmF w B0 gS gR sC (newS 32 seed19) hd tg V2 ∧ Sta V2 V2.heap.size (.agg uC) S19b from ⟨F7.out.1.next hb2, F7.out.2.2.2.next hb2⟩)
            have d4 : ∀ e, (plus V2 e).cell? ⟨gS, 4, none⟩ = some (.slice (some ⟨gR, 0, none⟩) 16 cR) := fun e => by rw [(F8.out.1.2.2.1.plus e).cell, ← Array.getElem?_toList]; exact HQ.out.1
            have HRs := Lib.hid (show ∀ e, (plus V2 e).rangeAt g11 0 (sigC hd tg).toList from fun e => range_blk24 ((F7.out.2.1.below hb2 F7.out.2.1.lt).plus e))
            have HRt := Lib.hid (show ∀ e, (plus V2 e).rangeAt gR 7 (sigC hd tg).toList from fun e => (F8.out.1.low (plus_below' V2 e B0 F8.out.1.2.1.2.1)).2.2.2.2)
            have HRc := Lib.hid (show ∀ e, (plus V2 e).rangeAt gS 0 sC.toList from fun e => range_blk24 (F8.out.1.2.2.1.plus e))
            have HRu := Lib.hid (show ∀ e, (plus V2 e).rangeAt g13 0 uC.toList from fun e => range_blk24 ((F7.out.2.2.1.below hb2 F7.out.2.2.1.lt).plus e))
            have Hrt := Lib.hid (show hd.root.length = 32 by rw [HH.out.1]; exact (pub_root19 32 seed19))
            have Htl := Lib.hid (show tg.length = 32 by rw [HH.out.2]; exact tagL_length _ _)
            have H13 := Lib.hid (F7.out.2.2.1.below hb2 F7.out.2.2.1.lt)
            clear F7 hb2
            iterate 21 (refine mix_plain rfl ?_; (first
              | (refine wpQuiet_loadMid rfl 42 (.tmp 11) rfl g11 0 rfl (sigC hd tg) _ (fun V hV => by obtain ⟨e, rfl⟩ := hV; exact HRs.out e) Tryd.underlying42 rfl (by rw [sigC_size]; kernel_rfl) ?_; simp only [Act.put, List.setIfInBounds_toArray, List.set_cons_zero, List.set_cons_succ])
              | (refine wpQuiet_loadMid rfl 42 (.tmp 94) rfl gR 7 rfl (sigC hd tg) _ (fun V hV => by obtain ⟨e, rfl⟩ := hV; exact HRt.out e) Tryd.underlying42 rfl (by rw [sigC_size]; kernel_rfl) ?_; simp only [Act.put, List.setIfInBounds_toArray, List.set_cons_zero, List.set_cons_succ])
              | (refine wpQuiet_eqS rfl (.tmp 90) (.tmp 95) _ rfl hd hd tg tg rfl rfl Hrt.out Hrt.out Htl.out Htl.out true (by rw [headEq_self, decide_eq_true rfl]; rfl) ?_; simp only [Act.put, List.setIfInBounds_toArray, List.set_cons_zero, List.set_cons_succ])
              | (refine wpQuiet_loadMid rfl 32 (.tmp 13) rfl g13 0 rfl uC _ (fun V hV => by obtain ⟨e, rfl⟩ := hV; exact HRu.out e) Tryd.underlying32 rfl (by rw [HU.out.2.1]; kernel_rfl) ?_; simp only [Act.put, List.setIfInBounds_toArray, List.set_cons_zero, List.set_cons_succ])
              | go_big_quiet_step (fail)); refine wpQuiet_nil ?_)
            clear d4 HRs HRt HRc HRu Hrt Htl
            have m := stored_b (.agg uC) V2 F8.out.2
            refine mix_only rfl (fun K hK => ?_)
            go_wp2_with fail
            refine m.mono ?_
            clear m
            rintro e V3 ⟨rfl, hb3⟩
            have F9 := Lib.hid (show NmF w B0 gS gR sC (newS 32 seed19) hd tg V3 ∧ Sta V3 V3.heap.size (.agg uC) S19b ∧ Blk V3 g13 32 uC from ⟨F8.out.1.next hb3, F8.out.2.next hb3, H13.out.below hb3 H13.out.lt⟩)
            go_wp2_with fail
            refine hK _ _ hb3 ?_
            clear hK K hb3 F8 H13
            iterate 4 (refine mix_plain rfl ?_; (first
              | (refine wpQuiet_loadMid rfl 32 (.tmp 5) rfl gS 0 rfl sC _ (fun V hV => by obtain ⟨e, rfl⟩ := hV; exact range_blk24 (F9.out.1.2.2.1.plus e)) Tryd.underlying32 rfl (by rw [HQ.out.2.2]; kernel_rfl) ?_; simp only [Act.put, List.setIfInBounds_toArray, List.set_cons_zero, List.set_cons_succ])
              | go_big_quiet_step (fail)); refine wpQuiet_nil ?_)
            have m := stored_0 (.agg sC) V3 F9.out.1.sta
            refine mix_only rfl (fun K hK => ?_)
            go_wp2_with fail
            refine m.mono ?_
            clear m
            rintro e V4 ⟨rfl, hb4⟩
            have F10 := Lib.hid (show NmF w B0 gS gR sC (newS 32 seed19) hd tg V4 ∧ Sta V4 V4.heap.size (.agg uC) S19b ∧ Blk V4 g13 32 uC from ⟨F9.out.1.next hb4, F9.out.2.1.next hb4, F9.out.2.2.below hb4 F9.out.2.2.lt⟩)
            go_wp2_with fail
            refine hK _ _ hb4 ?_
            clear hK K hb4 F9
            iterate 5 (refine mix_plain rfl ?_; (first
              | (refine wpQuiet_loadMid rfl 32 (.tmp 5) rfl gS 0 rfl sC _ (fun V hV => by obtain ⟨e, rfl⟩ := hV; exact range_blk24 (F10.out.1.2.2.1.plus e)) Tryd.underlying32 rfl (by rw [HQ.out.2.2]; kernel_rfl) ?_; simp only [Act.put, List.setIfInBounds_toArray, List.set_cons_zero, List.set_cons_succ])
              | (refine wpQuiet_loadMid rfl 32 (.tmp 13) rfl g13 0 rfl uC _ (fun V hV => by obtain ⟨e, rfl⟩ := hV; exact range_blk24 (F10.out.2.2.plus e)) Tryd.underlying32 rfl (by rw [HU.out.2.1]; kernel_rfl) ?_; simp only [Act.put, List.setIfInBounds_toArray, List.set_cons_zero, List.set_cons_succ])
              | go_big_quiet_step (fail)); refine wpQuiet_nil ?_)
            have m := same_no (.agg sC) (.agg uC) V4 F10.out.1.sta F10.out.2.1
            refine mix_only rfl (fun K hK => ?_)
            go_wp2_with fail
            refine m.mono ?_
            clear m
            rintro e V5 ⟨rfl, hb5⟩
            have F11 := Lib.hid (F10.out.1.next hb5)
            go_wp2_with fail
            refine hK _ _ hb5 ?_
            clear hK K hb5 F10
            iterate 3 (refine mix_plain rfl ?_; go_big_quiet_step (fail); refine wpQuiet_nil ?_)
            have m := known19_any V5 (HG.out.next F11.out.1)
            refine mix_only rfl (fun K hK => ?_)
            go_wp2_with fail
            refine m.mono ?_
            clear m
            rintro e V6 ⟨rfl, hb6⟩
            have F12 := Lib.hid (F11.out.next hb6)
            go_wp2_with fail
            refine hK _ _ hb6 ?_
            clear hK K hb6 F11
            iterate 2 (refine mix_plain rfl ?_; go_big_quiet_step (fail); refine wpQuiet_nil ?_)
            refine mix_done ?_
            go_wp2_with fail
            go_ret
            exact ⟨rfl, F12.out.1⟩
end Go.Proofs.YtcdkadidkkbhpaaDoor
