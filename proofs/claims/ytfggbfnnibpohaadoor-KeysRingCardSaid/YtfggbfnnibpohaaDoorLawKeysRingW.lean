/- The walk of KeysRing. Condition: the words of SHA-256. -/
import Derived.Test.YtfggbfnnibpohaaDoorR19
import Derived.Test.YtfggbfnnibpohaaDoorR20
import Derived.Test.YtfggbfnnibpohaaDoorR9
import Derived.Test.YtfggbfnnibpohaaDoorR12
import Derived.Deep.CutBlock
import Derived.Deep.DeepCutAuto
namespace Go.Proofs.YtfggbfnnibpohaaDoor
open Go Go.RowKit
attribute [local irreducible] mixW
attribute [local go_sem] n8_lo n8_hi n64_lo n64_hi n32_lo n32_hi
theorem xor8K (x : UInt8) : bits .xor .u8 (n8 x) 1 = n8 (x ^^^ 1) := bits_xor8 x 1
attribute [local go_sem] xor8K
structure Hoist (T : Prop) : Prop where
  out : T
theorem hoist {T G : Prop} (main : Hoist T → G) (pf : T) : G := main ⟨pf⟩
/-- is that a tree? -/
def isTree (b : Bool) (t : Int) : Prop := b = true ↔ (0 ≤ t ∧ t < 16)
set_option maxHeartbeats 8000000 in
set_option maxRecDepth 100000 in
theorem keysRing_walk (w : World) (hG : Glob w) (A0 : Option Addr) (cap : Nat) (b : List UInt8) (hb : BSl w w.heap.size (.slice A0 b.length cap) b) (hcp : cap ≤ 140737488351232) (A1 : Option Addr) (cap1 : Nat) (l : List AskK) (hl9 : l.length ≤ 9223372036854775807) (hA : AsksK w A1 l) :
    Calls Tryd.prog 3 #[.slice A0 b.length cap, .slice A1 l.length cap1] w fun e w' => e = .returned (.bool true) ∧ Below w.heap.size w w' := by
  have hlc : b.length ≤ cap := by obtain ⟨A', c', e1, h1, -⟩ := hb; injection e1 with _ _ e2; omega
  have HA := Lib.hid hA
  have HG := Lib.hid hG
  clear hA hG
  go_enter Tryd.func3, Tryd.ntmps3
  go_wp2_with fail
  refine (new_at w).mono ?_
  rintro e w1 ⟨rfl, hT1, hb1⟩
  have hT : Tbl w1 w1.heap.size (.pointer (some ⟨w.heap.size, 0, none⟩)) := ⟨_, rfl, hT1.lt, hT1⟩
  have HT := Lib.hid (And.intro hT hb1)
  have hb := hb.next hb1
  clear hT hT1 hb1
  go_upto_if 24 with fail
  apply hoist
  · intro key
    go_cut [0] from 1 to 0 (fun sv wx => w1 = wx ∧ ∃ sd : List UInt8, sd.length ≤ 64 ∧ sv = .slice A0 sd.length cap ∧ BSl w1 w1.heap.size (.slice A0 sd.length cap) sd)
    case first =>
      clear key
      by_cases h64 : (64 : Int) < (b.length : Int)
      · have hc1 : ((64 : Int) ≤ (cap : Int)) := by omega
        have hs1 := head_b hb 64 (by omega)
        have hsl : (b.take 64).length = 64 := by rw [List.length_take]; omega
        have HX := Lib.hid (And.intro hs1 hsl)
        clear hlc hb hs1 hsl
        go_wp2_with fail
        go_meet
        exact ⟨rfl, b.take 64, by rw [HX.out.2]; decide, by rw [HX.out.2], by rw [HX.out.2]; exact HX.out.1⟩
      · have HX := Lib.hid hb
        have hle : b.length ≤ 64 := by omega
        clear hb hlc
        go_wp2_with fail
        go_meet
        exact ⟨rfl, b, hle, rfl, HX.out⟩
    case rest =>
      revert wc u0 u25 u26
      exact key.out
  · intro wc u0 u25 u26 hcut
    obtain ⟨rfl, sd, hm2, rfl, hs1⟩ := hcut
    obtain ⟨A', c', e1, h11, h12, hrd⟩ := hs1
    injection e1 with e1 _ e2
    subst e1; subst e2
    have HS := Lib.hid (show BSl w1 w1.heap.size (.slice A0 sd.length cap) sd from ⟨A0, cap, rfl, h11, h12, hrd⟩)
    have hoe := own_emptyB w1 w1.heap.size (Nat.le_refl _)
    have hn1 := below_new1 w1 (Obj.cells #[] 5)
    go_wp2_with (first
      | (at_builtin; refine wpList_appendS rfl (.tmp 27) (.tmp 28) rfl w1.heap.size _ [] sd rfl hoe _ A0 _ _ rfl rfl (hrd.below hn1) (by simp; omega) hn1.size w1 hn1 ?_; intro u2 w2 hown2 hb2; simp only [List.nil_append] at hown2))
    clear hrd hoe hn1 h11 h12
    refine (newRing_any u2 sd w2 (BSl.of_own hown2) (by omega)).mono ?_
    rintro e w3 ⟨g, vs, rfl, hR, hb3⟩
    rw [List.length_map] at hown2
    have H3 := Lib.hid (And.intro hR (And.intro (hb2.trans (hb3.mono hb2.size)) (And.intro (own_below hown2 hb3) (And.intro (own_lt hown2) hb2.size))))
    clear hR hb2 hb3 hown2
    go_wp2_with fail
    refine (over_own w3 w1.heap.size u2 sd (by omega) H3.out.2.2.1).mono ?_
    rintro e w4 ⟨rfl, hg4⟩
    have hR4 := H3.out.1.grownO hg4 H3.out.2.2.2.1
    have hb4 := below_own H3.out.2.1 H3.out.2.2.1 hg4 H3.out.2.1.size
    have hsz : w2.heap.size ≤ w4.heap.size := Nat.le_trans (Nat.le_trans H3.out.1.base (Nat.le_of_lt H3.out.1.blk.lt)) hg4.size
    have hD := Drw.none_ w4 w2.heap.size hsz
    have hn5 := below_new1 w4 (Obj.cells (List.replicate 16 (Value.slice none 0 0)).toArray 30)
    have hks : (fun _ : Nat => ([] : List (List UInt8))) = fun j => keysD sd j ((fun _ : Nat => ([] : List UInt32)) j) := by funext j; rfl
    rw [hks] at hR4
    have HK : Hid (KS w1.heap.size w2.heap.size w1 (w4.alloc (Obj.cells (List.replicate 16 (Value.slice none 0 0)).toArray 30)) g w4.heap.size sd vs (fun _ => []) (.slice none 0 0) []) :=
      Lib.hid ⟨⟨_, _, hR4.below hn5, hD⟩, fun _ _ => Nat.zero_le _, World.ownsRow_nil _ _ _ _, fun p hp => (by cases hp), hb4.trans (hn5.mono hb4.size), H3.out.2.2.2.2, Nat.le_trans hsz hn5.size⟩
    clear hR4 hb4 hsz hD hn5 hks hg4 H3
    go_wp2_with fail
    generalize w4.heap.size = gd at HK ⊢
    generalize w2.heap.size = BR at HK ⊢
    apply hoist
    · intro key
      go_loopg [9, 10] 41 (fun gk sv iv wr => ∃ (i : Nat) (ds : Nat → List UInt32) (sg : List (HeadL × List UInt8)), 41 ≤ i + gk ∧ i ≤ 40 ∧ i ≤ l.length ∧ iv = .int .i64 i ∧ sg.length ≤ i ∧ KS w1.heap.size BR w1 wr g gd sd vs ds sv sg)
      case atStart => exact ⟨0, _, [], by omega, by omega, Nat.zero_le _, rfl, Nat.zero_le _, HK.out⟩
      case round =>
        rename_i J K hJ hK0
        revert gk wr u4 u9 u10 u11 u12 u13 u14 u15 u16 u17 u18 u19 u20 u36 u37 u38 u39 u40 u41 u42 u43 u44 u45 u46 u47 u48 u49 u50 u51 u52 u53 u54 u55 u56 u57 u58 u59 u60 u61 u62 u63 u64 u65 u66 u67 u68 u69 u70 u71 u72 u73 u74 u75 u76 u77 u78 u79 u80 u81 u82 u83 u84 u85 u86 u87 u88 u89 u90 u91 u92 u93 u94 u95 u96 u97 u98 u99 u100 u101 u102 u103 u104 u105 u106 u107 u108 u109 u110 u111 u112 u113 u114 u115 u116 u117 u118 u119 u120 u121 u122 u123 u124 u125 u126 u127 u128 u129 u130 u131 u132 u133 u134 u135 u136 u137 u138 u139 u140 u141 u142 u143 u144 u145 u146 u147 u148 u149 u150 u151 u152 u153 u154 u155 u156 u157 u158 u159 u160 u161 u162 u163 u164 u165 u166 u167 u168 u169 u170 u171 u172 u173 u174 u175 u176 u177 u178 u179 u180 u181 u182 u183 u184 u185 u186 u187 u188 u189 u190 u191 u192 u193 u194 u195 u196 u197 u198 u199 u200 u201 u202 u203 u204 u205 u206 u207 u208 u209 u210 u211 u212 u213 u214 u215 u216 u217 u218 u219 u220 u221 u222 u223 u224 u225 u226 u227 u228 u229 u230 u231 u232 u233 u234 u235 u236 u237 u238 u239 u240 u241 u242 u243 u244 u245 u246 u247 u248 u249 u250 u251 u252 u253 u254 u255 u256 u257 u258 J K
        exact key.out
    · intro gk wr u4 u9 u10 u11 u12 u13 u14 u15 u16 u17 u18 u19 u20 u36 u37 u38 u39 u40 u41 u42 u43 u44 u45 u46 u47 u48 u49 u50 u51 u52 u53 u54 u55 u56 u57 u58 u59 u60 u61 u62 u63 u64 u65 u66 u67 u68 u69 u70 u71 u72 u73 u74 u75 u76 u77 u78 u79 u80 u81 u82 u83 u84 u85 u86 u87 u88 u89 u90 u91 u92 u93 u94 u95 u96 u97 u98 u99 u100 u101 u102 u103 u104 u105 u106 u107 u108 u109 u110 u111 u112 u113 u114 u115 u116 u117 u118 u119 u120 u121 u122 u123 u124 u125 u126 u127 u128 u129 u130 u131 u132 u133 u134 u135 u136 u137 u138 u139 u140 u141 u142 u143 u144 u145 u146 u147 u148 u149 u150 u151 u152 u153 u154 u155 u156 u157 u158 u159 u160 u161 u162 u163 u164 u165 u166 u167 u168 u169 u170 u171 u172 u173 u174 u175 u176 u177 u178 u179 u180 u181 u182 u183 u184 u185 u186 u187 u188 u189 u190 u191 u192 u193 u194 u195 u196 u197 u198 u199 u200 u201 u202 u203 u204 u205 u206 u207 u208 u209 u210 u211 u212 u213 u214 u215 u216 u217 u218 u219 u220 u221 u222 u223 u224 u225 u226 u227 u228 u229 u230 u231 u232 u233 u234 u235 u236 u237 u238 u239 u240 u241 u242 u243 u244 u245 u246 u247 u248 u249 u250 u251 u252 u253 u254 u255 u256 u257 u258 hrel J K hJ hK0
      clear HK
      obtain ⟨i, ds, sg, hi, hi40, hil, rfl, hsg, hK⟩ := hrel
      have HK := Lib.hid (And.intro hK (And.intro hsg hi))
      clear hK hsg hi
      have hcond : (i < l.length ∧ i < 40) ∨ ((l.length : Int) ≤ (i : Int) ∨ ((i : Int) < (l.length : Int) ∧ (40 : Int) ≤ (i : Int))) := by omega
      rcases hcond with ⟨h1, h2⟩ | hex
      · obtain ⟨b1, o1, rfl, hb1, hcells⟩ := HA.out (by omega)
        obtain ⟨a, ha⟩ : ∃ a, l[i]? = some a := ⟨l[i], List.getElem?_eq_getElem h1⟩
        obtain ⟨hac, haok⟩ := hcells i a ha
        have hbw : Below w.heap.size w wr := HT.out.2.trans (HK.out.1.bel.mono HT.out.2.size)
        have hrg : wr.rangeAt b1 (o1 + i * 40) (askC a).toList := fun j v hj => by
          rw [hbw.cell (p := ⟨b1, o1 + i * 40 + j, none⟩) hb1]; exact hac j v hj
        have HR := Lib.hid hrg
        have Hok := Lib.hid haok
        have h1' : (i : Int) < (l.length : Int) := by omega
        have h2' : (i : Int) < 40 := by omega
        have hzv := zero_ask
        have hX := Blk.new wr 39 (askC askZ)
        have hbn := below_new1 wr (Obj.cells (askC askZ) 39)
        clear hcells hac haok hrg ha hbw
        go_upto_region 15 with (first
          | (refine wpList_loadMid rfl 39 (.tmp 48) rfl b1 (o1 + i * 40) rfl (askC a) _ HR.out Tryd.underlying39 rfl (by rw [askC_size]; kernel_rfl) ?_)
          | (refine wpList_storeB rfl rfl 39 (.tmp 11) (.tmp 49) rfl wr.heap.size 0 rfl (askC a) rfl _ _ hX (by rw [askC_size]; kernel_rfl) (by rw [askC_size, askC_size]; omega) (askC_one _) ?_; intro W1 hX1 hg1))
        rw [copied_all _ _ (by rw [askC_size, askC_size])] at hX1
        have hb1' := below_only hbn hg1 (Nat.le_refl _) hbn.size
        have hK1 := Lib.hid (And.intro (HK.out.1.below hb1') (And.intro hX1 hb1'))
        clear hX hbn hX1 hb1' hg1 hzv HR
        have c1 : W1.cell? ⟨wr.heap.size, 1, none⟩ = some (.int .i64 a.tree) := by rw [hK1.out.2.1.cell, askC_1]
        apply hoist
        · intro key
          go_cut [12] from 1 to 0 (fun v wx => W1 = wx ∧ ∃ bi : Bool, v = .bool bi ∧ isTree bi a.tree)
          case first =>
            clear key
            by_cases hx0 : (0 : Int) ≤ a.tree
            · by_cases hx1 : a.tree < 16
              · have HQ : Hid (isTree true a.tree) := Lib.hid ⟨fun _ => ⟨hx0, hx1⟩, fun _ => rfl⟩
                go_wp2_with fail
                go_meet
                exact ⟨rfl, true, rfl, HQ.out⟩
              · have HQ : Hid (isTree false a.tree) := Lib.hid ⟨(fun h => Bool.noConfusion h), fun h => absurd h.2 hx1⟩
                go_wp2_with fail
                go_meet
                exact ⟨rfl, false, rfl, HQ.out⟩
            · have HQ : Hid (isTree false a.tree) := Lib.hid ⟨(fun h => Bool.noConfusion h), fun h => absurd h.1 hx0⟩
              go_wp2_with fail
              go_meet
              exact ⟨rfl, false, rfl, HQ.out⟩
          case rest =>
            revert wc u12 u50 u51 u52 u53 u54 u55 u56 u57
            exact key.out
        intro wc u12 u50 u51 u52 u53 u54 u55 u56 u57 hcut
        obtain ⟨rfl, bi, rfl, hbi⟩ := hcut
        have Hbi := Lib.hid hbi
        clear hbi c1
        have c0 : W1.cell? ⟨wr.heap.size, 0, none⟩ = some (.int .i64 a.kind) := by rw [hK1.out.2.1.cell, askC_0]
        have hK1' := Lib.hid (And.intro hK1.out.1 hK1.out.2.1)
        clear hK1
        have hK1 := hK1'
        clear hK1'
        generalize wr.heap.size = xb at hK1 c0 ⊢
        have HGl : Hid (∀ W, Below w1.heap.size w1 W → Glob W) := Lib.hid fun W hW => HG.out.next (HT.out.2.trans (hW.mono HT.out.2.size))
        go_upto_block 2 with fail
        apply hoist
        · intro key
          go_cut [9, 59] from 1 to 0 (fun sv _ wx => ∃ (ds' : Nat → List UInt32) (sg' : List (HeadL × List UInt8)), sg'.length ≤ i + 1 ∧ KS w1.heap.size BR w1 wx g gd sd vs ds' sv sg' ∧ Blk wx xb 39 (askC a))
          case first =>
            clear key
            by_cases k1 : a.kind = 1
            · as_aux_lemma =>
                have c1 : W1.cell? ⟨xb, 1, none⟩ = some (.int .i64 a.tree) := by rw [hK1.out.2.cell, askC_1]
                have c3 : W1.cell? ⟨xb, 3, none⟩ = some (.int .u32 (n32 a.draw)) := by rw [hK1.out.2.cell, askC_3]
                rw [k1] at c0
                cases bi with
                | false =>
                  have hout : ¬ (0 ≤ a.tree ∧ a.tree < 16) := fun h => absurd (Hbi.out.2 h) (by simp)
                  have hm := turn_out (.pointer (some ⟨g, 0, none⟩)) a.tree hout (.int .u32 (n32 a.draw)) W1
                  clear hout
                  go_wp2_with (first
                    | (refine hm.mono ?_; rintro e _ ⟨rfl, rfl⟩))
                  go_roundg (gk - 1)
                  case measure => have := HK.out.2.2; omega
                  case rel => exact ⟨i + 1, ds, sg, by have := HK.out.2.2; omega, by omega, by omega, by go_num, by have := HK.out.2.1; omega, hK1.out.1⟩
                | true =>
                  obtain ⟨ht0, ht16⟩ := Hbi.out.1 rfl
                  obtain ⟨t, ht⟩ : ∃ t : Nat, a.tree = (t : Int) := ⟨a.tree.toNat, by omega⟩
                  have ht16n : t < 16 := by omega
                  have hti : (t : Int) < 16 := by omega
                  have Ht := Lib.hid (And.intro ht ht16n)
                  rw [ht] at c1
                  have hdl := hK1.out.1.dl t ht16n
                  clear ht ht0 ht16
                  by_cases hful : (ds t).length = 32
                  · have hm := ks_many hK1.out.1 t ht16n hful (.int .u32 (n32 a.draw))
                    have hm2 := turned_many (ds t).length (by omega) W1
                    obtain ⟨Ar, cr, hrow⟩ := ks_row hK1.out.1 t ht16n
                    obtain ⟨n, hn⟩ : ∃ n, (ds t).length = n := ⟨_, rfl⟩
                    rw [hn] at hrow hm2
                    clear hn hful hdl
                    go_wp2_with (first
                      | (refine hm.mono ?_; rintro e _ ⟨rfl, rfl⟩)
                      | (refine hm2.mono ?_; rintro e _ ⟨rfl, rfl⟩))
                    go_meet
                    exact ⟨ds, sg, by have := HK.out.2.1; omega, hK1.out.1, hK1.out.2⟩
                  · have hm := ks_turn hK1.out.1 hK1.out.2 t ht16n (by omega) a.draw hm2 (HGl.out W1 hK1.out.1.bel)
                    have hm2' := fun W => turned_ok (ds t).length (by omega) W
                    obtain ⟨n, hn⟩ : ∃ n, (ds t).length = n := ⟨_, rfl⟩
                    have Hn := Lib.hid (And.intro hn (show n < 32 by omega))
                    rw [hn] at hm hm2'
                    clear hful hdl hn
                    go_upto_region 25 with (first
                      | (go_at_call 13; refine hm.mono ?_; rintro e W2 ⟨rows, rfl, hT2, hX2⟩; have HT2 := Lib.hid (And.intro hT2 hX2); clear hT2 hX2 c0 c1 c3 hm; have c1 : W2.cell? ⟨xb, 1, none⟩ = some (.int .i64 (t : Int)) := (by rw [HT2.out.2.cell, askC_1, Ht.out.1]); obtain ⟨Ar, cr, er⟩ := HT2.out.1.drw.rowLen t ht16n; have hrow : W2.cell? ⟨gd, t, none⟩ = some (.slice Ar n cr) := (by rw [HT2.out.1.drw.row t ht16n, er, Hn.out.1]); have hm2 := hm2' W2; clear hm2'; have Her := Lib.hid er; clear er)
                      | (go_at_call 14; refine hm2.mono ?_; rintro e _ ⟨rfl, rfl⟩))
                    clear hm2
                    have c3 : W2.cell? ⟨xb, 3, none⟩ = some (.int .u32 (n32 a.draw)) := by rw [HT2.out.2.cell, askC_3]
                    refine wp_region_mixS 11 (.plain 0 <| .plain 1 <| .plain 2 <| .plain 3 <| .plain 4 <| .plain 5 <| .plain 6 <| .plain 7 <| .only 8 <| .only 9 <| .plain 10 <| .done) (fun V => V.cell? ⟨xb, 1, none⟩ = some (.int .i64 (t : Int)) ∧ V.cell? ⟨xb, 3, none⟩ = some (.int .u32 (n32 a.draw)) ∧ V.cell? ⟨gd, t, none⟩ = some (.slice Ar n cr)) (by kernel_rfl) (by kernel_rfl) (by simp only [World.cell?_drewN]; exact ⟨c1, c3, hrow⟩) ?_
                    have hbd := below_drewN (Below.refl W2.heap.size W2) 1
                    have HD := Lib.hid (And.intro (HT2.out.1.below hK1.out.1.base hbd) (HT2.out.2.below hbd HT2.out.2.lt))
                    clear hbd c1 c3 hrow HT2
                    generalize W2.drewN 1 = V at HD ⊢
                    iterate 8 (refine mix_plain rfl ?_; (first
                      | (refine wpQuiet_load1 rfl _ (.tmp 86) rfl _ rfl _ Tryd.underlying3 rfl (.int .i64 (t : Int)) (fun _ h => h.1) ?_; simp only [Act.put, List.setIfInBounds_toArray, List.set_cons_zero, List.set_cons_succ])
                      | (refine wpQuiet_load1 rfl _ (.tmp 88) rfl _ rfl _ Tryd.underlying3 rfl (.int .i64 (t : Int)) (fun _ h => h.1) ?_; simp only [Act.put, List.setIfInBounds_toArray, List.set_cons_zero, List.set_cons_succ])
                      | (refine wpQuiet_load1 rfl _ (.tmp 90) rfl _ rfl _ Tryd.underlying29 rfl (.slice Ar n cr) (fun _ h => h.2.2) ?_; simp only [Act.put, List.setIfInBounds_toArray, List.set_cons_zero, List.set_cons_succ])
                      | (refine wpQuiet_load1 rfl _ (.tmp 92) rfl _ rfl _ Tryd.underlying32 rfl (.int .u32 (n32 a.draw)) (fun _ h => h.2.1) ?_; simp only [Act.put, List.setIfInBounds_toArray, List.set_cons_zero, List.set_cons_succ])
                      | go_big_quiet_step ((intro _ _ _; rfl))
                      | go_big_quiet_step ((intro _; rfl))
                      | go_big_quiet_step (fail)); refine wpQuiet_nil ?_)
                    refine mix_only_in rfl (fun K hK => ?_)
                    have hn8 := below_new1 V (Obj.cells #[.int .u32 (n32 a.draw)] 32)
                    have HD8 := Lib.hid (And.intro (HD.out.1.below hK1.out.1.base hn8) (And.intro (HD.out.2.below hn8 HD.out.2.lt) hn8))
                    clear hn8
                    go_wp2_with fail
                    refine hK _ _ (by
                      refine ⟨?_, ?_, ?_⟩
                      · rw [HD8.out.2.1.cell, askC_1, Ht.out.1]
                      · rw [HD8.out.2.1.cell, askC_3]
                      · rw [HD8.out.1.drw.row t ht16n, Her.out, Hn.out.1]) ?_
                    clear hK K
                    refine mix_only_in rfl (fun K hK => ?_)
                    obtain ⟨i0, hi0, hz0, hz1, hz2⟩ := info_parts (by kernel_rfl : (Tryd.prog.info? 32).map (fun i => (i.zero, i.size, i.bytes)) = some (some (.int .u32 0), 1, 4))
                    have hown := HD8.out.1.drw.own t ht16n
                    rw [Her.out] at hown
                    have hl : ((ds t).map v32).length = n := by rw [List.length_map]; exact Hn.out.1
                    have hown' : (V.alloc (Obj.cells #[.int .u32 (n32 a.draw)] 32)).ownsRow BR 32 1 (.slice Ar n cr) ((ds t).map v32).length ((ds t).map v32) := by rw [List.length_map, ← Hn.out.1]; rw [Hn.out.1] at hown ⊢; exact hown
                    have hrd : Reads (V.alloc (Obj.cells #[.int .u32 (n32 a.draw)] 32)) (V.heap.size + 1) (some ⟨V.heap.size, 0, none⟩) [v32 a.draw] := Reads.of_blk (Blk.new V 32 #[v32 a.draw]) (by omega) 0
                    refine wpList_appendR rfl (.tmp 91) (.tmp 94) 29 rfl BR 32 i0 _ 4 Tryd.underlying29 hi0 hz0 hz1 hz2 rfl (.slice Ar n cr) ((ds t).map v32) rfl hown' _ _ 1 1 [v32 a.draw] rfl hrd rfl (fun u hu => by rw [List.mem_singleton] at hu; subst hu; rfl) (by have := Hn.out.2; rw [hl]; unfold maxLen; omega) (by have := Hn.out.2; rw [hl]; omega) HD8.out.1.lim ?_
                    intro v9 V9 ho9 hg9 hat9
                    rw [show (ds t).map v32 ++ [v32 a.draw] = (ds t ++ [a.draw]).map v32 from by simp, List.length_map] at ho9
                    obtain ⟨A9, c9, rfl⟩ := own_slice ho9
                    have HO := Lib.hid (And.intro ho9 (And.intro hg9 hat9))
                    have hX9 := HD8.out.2.1.grown hg9 (fun e => own_ne HD8.out.2.1 hown' (by decide) e.symm)
                    have hD9 := HD8.out.1.drw.blk.grown hg9 (fun e => own_ne HD8.out.1.drw.blk hown' (by decide) e.symm)
                    clear ho9 hg9 hat9 hown hown' hrd hl hi0 hz0 hz1 hz2
                    simp only [Act.put, List.setIfInBounds_toArray, List.set_cons_zero, List.set_cons_succ]
                    refine hK _ _ (by
                      refine ⟨?_, ?_, ?_⟩
                      · rw [hX9.cell, askC_1, Ht.out.1]
                      · rw [hX9.cell, askC_3]
                      · have h1 : rows.getD t undef = .slice Ar n cr := by rw [Her.out, Hn.out.1]
                        have := HD8.out.1.drw.len
                        rw [hD9.cell, ← h1]
                        simp [List.getD_eq_getElem?_getD, List.getElem?_eq_getElem (show t < rows.length by omega)]) ?_
                    clear hK K
                    iterate 1 (refine mix_plain rfl ?_; (first
                      | go_big_quiet_step ((intro _ _ _; rfl))
                      | go_big_quiet_step ((intro _; rfl))
                      | go_big_quiet_step (fail)); refine wpQuiet_nil ?_)
                    refine mix_done ?_
                    simp only [List.drop_succ_cons, List.drop_zero]
                    have htr : t < rows.toArray.size := by have := HD8.out.1.drw.len; simp; omega
                    go_wp2_with (first
                      | (refine wpList_store1 rfl rfl _ (.tmp 96) (.tmp 95) rfl gd t rfl (.slice A9 _ c9) rfl _ _ hD9 (by kernel_rfl) htr rfl rfl ?_; intro W6 hD6 hg6))
                    go_meet
                    have hK6 := KT.drawn hK1.out.1 HD8.out.1 ht16n (by rw [Hn.out.1]; exact Hn.out.2) HO.out.1 (by rw [Her.out, Hn.out.1]; exact HO.out.2.1) (by rw [Her.out, Hn.out.1]; exact HO.out.2.2) hD6 hg6
                    refine ⟨_, sg, by have := HK.out.2.1; omega, hK6, ?_⟩
                    exact hX9.grown hg6 (fun e => by injection e with e; exact blk_neK hX9 hD9 (by decide) e)
            by_cases k2 : a.kind = 2
            · as_aux_lemma =>
                have c1 : W1.cell? ⟨xb, 1, none⟩ = some (.int .i64 a.tree) := by rw [hK1.out.2.cell, askC_1]
                rw [k2] at c0
                have hzv := zero_headK
                have HX4 := Lib.hid (range_head hK1.out.2)
                have hD := Blk.new W1 37 (headC zeroHead)
                have hbn := below_new1 W1 (Obj.cells (headC zeroHead) 37)
                go_upto_region 29 with (first
                  | (refine wpList_loadG 37 (.tmp 99) rfl xb 4 rfl (headC a.head) _ HX4.out Tryd.underlying37 rfl (by rw [headC_size]; kernel_rfl) rfl ?_)
                  | (refine wpList_storeB rfl rfl 37 (.tmp 15) (.tmp 100) rfl W1.heap.size 0 rfl (headC a.head) rfl _ _ hD (by rw [headC_size]; kernel_rfl) (by rw [headC_size, headC_size]; omega) (headC_one _) ?_; intro W2 hH2 hg2; rw [copied_all _ _ (by rw [headC_size, headC_size])] at hH2; have hb2 := below_only hbn hg2 (Nat.le_refl _) hbn.size; have hX2 := hK1.out.2.below hb2 hK1.out.2.lt; have c12 : W2.cell? ⟨xb, 1, none⟩ = some (.int .i64 a.tree) := (by rw [hX2.cell, askC_1]))
                  | (refine wpList_store1 rfl rfl _ (.tmp 103) (.tmp 102) rfl W1.heap.size 0 rfl (.int .i64 a.tree) rfl _ _ hH2 (by kernel_rfl) (by rw [headC_size]; omega) rfl rfl ?_; intro W3 hH3 hg3))
                rw [headC_treeK] at hH3
                have hb3 := below_only hb2 hg3 (Nat.le_refl _) hb2.size
                have hX3 := hK1.out.2.below hb3 hK1.out.2.lt
                have HS3 := Lib.hid (And.intro (hK1.out.1.below hb3) (And.intro hX3 hH3))
                have HBk : Hid (w1.heap.size ≤ W1.heap.size) := Lib.hid (Nat.le_trans hK1.out.1.base hK1.out.1.lim)
                clear hzv HX4 hD hbn hH2 hg2 hb2 hX2 c12 hH3 hg3 hb3 hX3 c0 c1
                generalize W1.heap.size = hbk at HS3 HBk ⊢
                have Hh2 : Hid ((⟨a.tree, a.head.epoch, a.head.size, a.head.clock, a.head.root⟩ : HeadL).tree = a.tree ∧ (⟨a.tree, a.head.epoch, a.head.size, a.head.clock, a.head.root⟩ : HeadL).ok) := Lib.hid ⟨rfl, Hok.out.2.2.2.1, Hok.out.2.1, Hok.out.2.2.2.2.2⟩
                generalize (⟨a.tree, a.head.epoch, a.head.size, a.head.clock, a.head.root⟩ : HeadL) = h2 at Hh2 HS3 ⊢
                cases bi with
                | false =>
                  have hout : ¬ (0 ≤ h2.tree ∧ h2.tree < 16) := fun h => absurd (Hbi.out.2 (by rw [← Hh2.out.1]; exact h)) (by simp)
                  have hm := rsign_out (.pointer (some ⟨g, 0, none⟩)) h2 hout W3
                  have hzv := zero_sig
                  clear hout
                  go_upto_region 30 with (first
                    | (refine wpList_loadG 37 (.tmp 15) rfl hbk 0 rfl (headC h2) _ (range_blk HS3.out.2.2) Tryd.underlying37 rfl (by rw [headC_size]; kernel_rfl) rfl ?_)
                    | (go_at_call 15; refine hm.mono ?_; rintro e W4 ⟨rfl, hb4⟩; have hD4 := Blk.new W4 45 (sigC zeroHead []); have hbn4 := below_new1 W4 (Obj.cells (sigC zeroHead []) 45))
                    | (refine wpList_storeB rfl rfl 45 (.tmp 16) (.tmp 108) rfl W4.heap.size 0 rfl (sigC zeroHead []) rfl _ _ hD4 (by rw [sigC_size]; kernel_rfl) (by rw [sigC_size]; omega) (sigC_one _ _) ?_; intro W5 hS5 hg5))
                  rw [copied_all _ _ (by rw [sigC_size])] at hS5
                  have hb5 := hb4.trans ((below_only hbn4 hg5 (Nat.le_refl _) hbn4.size).mono hb4.size)
                  have HS5 := Lib.hid (And.intro (HS3.out.1.below hb5) hS5)
                  clear hm hzv hD4 hbn4 hS5 hg5 hb5 hb4
                  generalize W4.heap.size = sb at HS5 ⊢
                  have hbs := built_S0
                  go_wp2_with (first
                    | (refine wpList_loadG 45 (.tmp 16) rfl sb 0 rfl (sigC zeroHead []) _ (range_blk HS5.out.2) Tryd.underlying45 rfl (by rw [sigC_size]; kernel_rfl) rfl ?_)
                    | (refine wpList_buildG 45 _ rfl (sigC zeroHead []) built_S0 rfl ?_)
                    | (refine wpList_neZG (.tmp 123) (.tmp 124) _ rfl rfl rfl rfl ?_))
                  go_roundg (gk - 1)
                  case measure => have := HK.out.2.2; omega
                  case rel => exact ⟨i + 1, ds, sg, by have := HK.out.2.2; omega, by omega, by omega, by go_num, by have := HK.out.2.1; omega, HS5.out.1⟩
                | true =>
                  obtain ⟨ht0, ht16⟩ := Hbi.out.1 rfl
                  obtain ⟨t, ht⟩ : ∃ t : Nat, a.tree = (t : Int) := ⟨a.tree.toNat, by omega⟩
                  have ht16n : t < 16 := by omega
                  have hti : (t : Int) < 16 := by omega
                  have Ht := Lib.hid (And.intro ht ht16n)
                  have htr : h2.tree = (t : Int) := by rw [Hh2.out.1]; exact ht
                  have Htr := Lib.hid htr
                  have hdl := HS3.out.1.dl t ht16n
                  clear ht ht0 ht16
                  cases hn : (ds t).length with
                  | zero =>
                    have hm := ks_sign0 HS3.out.1 t ht16n hn h2 htr
                    have hzv := zero_sig
                    have Hn := Lib.hid hn
                    clear hdl htr hn
                    go_upto_region 30 with (first
                      | (refine wpList_loadG 37 (.tmp 15) rfl hbk 0 rfl (headC h2) _ (range_blk HS3.out.2.2) Tryd.underlying37 rfl (by rw [headC_size]; kernel_rfl) rfl ?_)
                      | (go_at_call 15; refine hm.mono ?_; rintro e W4 ⟨rfl, hb4⟩; have hD4 := Blk.new W4 45 (sigC zeroHead []); have hbn4 := below_new1 W4 (Obj.cells (sigC zeroHead []) 45))
                      | (refine wpList_storeB rfl rfl 45 (.tmp 16) (.tmp 108) rfl W4.heap.size 0 rfl (sigC zeroHead []) rfl _ _ hD4 (by rw [sigC_size]; kernel_rfl) (by rw [sigC_size]; omega) (sigC_one _ _) ?_; intro W5 hS5 hg5))
                    rw [copied_all _ _ (by rw [sigC_size])] at hS5
                    have hb5 := hb4.trans ((below_only hbn4 hg5 (Nat.le_refl _) hbn4.size).mono hb4.size)
                    have HS5 := Lib.hid (And.intro (HS3.out.1.below hb5) (And.intro hS5 (HS3.out.2.1.below hb5 HS3.out.2.1.lt)))
                    clear hm hzv hD4 hbn4 hS5 hg5 hb5 hb4
                    generalize W4.heap.size = sb at HS5 ⊢
                    have c1 : W5.cell? ⟨xb, 1, none⟩ = some (.int .i64 (t : Int)) := by rw [HS5.out.2.2.cell, askC_1, Ht.out.1]
                    obtain ⟨Ar, cr, hrow⟩ := ks_row HS5.out.1 t ht16n
                    rw [Hn.out] at hrow
                    have hbs := built_S0
                    go_wp2_with (first
                      | (refine wpList_loadG 45 (.tmp 16) rfl sb 0 rfl (sigC zeroHead []) _ (range_blk HS5.out.2.1) Tryd.underlying45 rfl (by rw [sigC_size]; kernel_rfl) rfl ?_)
                      | (refine wpList_buildG 45 _ rfl (sigC zeroHead []) built_S0 rfl ?_)
                      | (refine wpList_neZG (.tmp 123) (.tmp 124) _ rfl rfl rfl rfl ?_))
                    go_roundg (gk - 1)
                    case measure => have := HK.out.2.2; omega
                    case rel => exact ⟨i + 1, ds, sg, by have := HK.out.2.2; omega, by omega, by omega, by go_num, by have := HK.out.2.1; omega, HS5.out.1⟩
                  | succ k =>
                    as_aux_lemma =>
                      have hm := ks_sign HS3.out.1 t ht16n k hn h2 Hh2.out.2 htr (HGl.out W3 HS3.out.1.bel)
                      have hk32 : k < 32 := by omega
                      have hzv := zero_sig
                      have Hn := Lib.hid hn
                      have Hh3 : Hid ((⟨(t : Int), (k : Int), h2.size, h2.clock, h2.root⟩ : HeadL).ok ∧ (⟨(t : Int), (k : Int), h2.size, h2.clock, h2.root⟩ : HeadL) = ⟨(t : Int), (k : Int), h2.size, h2.clock, h2.root⟩) := Lib.hid ⟨⟨Hh2.out.2.1, ⟨(by show (-9223372036854775808 : Int) ≤ (t : Int); omega), (by show (t : Int) ≤ 9223372036854775807; omega)⟩, ⟨(by show (-9223372036854775808 : Int) ≤ (k : Int); omega), (by show (k : Int) ≤ 9223372036854775807; omega)⟩⟩, rfl⟩
                      obtain ⟨h3, hh3⟩ : ∃ h3 : HeadL, (⟨(t : Int), (k : Int), h2.size, h2.clock, h2.root⟩ : HeadL) = h3 := ⟨_, rfl⟩
                      rw [hh3] at hm Hh3
                      obtain ⟨dk, hdk⟩ : ∃ d, (ds t).getD k 0 = d := ⟨_, rfl⟩
                      rw [hdk] at hm
                      obtain ⟨T, hT⟩ : ∃ T, tagL (keyL' sd t k dk) h3 = T := ⟨_, rfl⟩
                      rw [hT] at hm
                      have HTT := Lib.hid (And.intro hT (And.intro hdk hh3))
                      have Htl : Hid (T.length = 32) := Lib.hid (by rw [← hT]; exact tagL_length _ _)
                      clear hdl htr hn hT hdk hh3
                      go_upto_region 30 with (first
                        | (refine wpList_loadG 37 (.tmp 15) rfl hbk 0 rfl (headC h2) _ (range_blk HS3.out.2.2) Tryd.underlying37 rfl (by rw [headC_size]; kernel_rfl) rfl ?_)
                        | (go_at_call 15; refine hm.mono ?_; rintro e W4 ⟨rfl, hb4⟩; have hD4 := Blk.new W4 45 (sigC zeroHead []); have hbn4 := below_new1 W4 (Obj.cells (sigC zeroHead []) 45))
                        | (refine wpList_storeB rfl rfl 45 (.tmp 16) (.tmp 108) rfl W4.heap.size 0 rfl (sigC h3 T) rfl _ _ hD4 (by rw [sigC_size]; kernel_rfl) (by rw [sigC_size, sigC_size]; omega) (sigC_one _ _) ?_; intro W5 hS5 hg5))
                      rw [copied_all _ _ (by rw [sigC_size, sigC_size])] at hS5
                      have hb5 := hb4.trans ((below_only hbn4 hg5 (Nat.le_refl _) hbn4.size).mono hb4.size)
                      have HS5 := Lib.hid (And.intro (HS3.out.1.below hb5) (And.intro hS5 (And.intro (HS3.out.2.1.below hb5 HS3.out.2.1.lt) (And.intro (HS3.out.2.2.below hb5 HS3.out.2.2.lt) (Nat.lt_of_lt_of_le HS3.out.2.2.lt hb4.size)))))
                      clear hm hzv hD4 hbn4 hS5 hg5 hb5 hb4
                      generalize W4.heap.size = sb at HS5 ⊢
                      have c1 : W5.cell? ⟨xb, 1, none⟩ = some (.int .i64 (t : Int)) := by rw [HS5.out.2.2.1.cell, askC_1, Ht.out.1]
                      obtain ⟨Ar, cr, hrow⟩ := ks_row HS5.out.1 t ht16n
                      rw [Hn.out] at hrow
                      have hH5 := HS5.out.2.2.2.1
                      go_upto_region 34 with (first
                        | (refine wpList_store1 rfl rfl _ (.tmp 139) (.tmp 138) rfl hbk 1 rfl (.int .i64 (k : Int)) (by simp [Act.eval]) _ _ hH5 (by kernel_rfl) (by rw [headC_size]; omega) rfl rfl ?_; intro W6 hH6 hg6))
                      rw [headC_epochK, Htr.out, HTT.out.2.2] at hH6
                      have hX6 := HS5.out.2.2.1.grown hg6 (fun e => by injection e with e; exact blk_neK HS5.out.2.2.1 hH5 (by decide) e)
                      have hS6 := HS5.out.2.1.grown hg6 (fun e => by injection e with e; exact blk_neK HS5.out.2.1 hH5 (by decide) e)
                      have hK6 := HS5.out.1.away hg6 hH5 HBk.out (by decide) (by decide) (by decide) (by decide) (by decide) (by decide)
                      have HS6 := Lib.hid (And.intro hK6 (And.intro hS6 (And.intro hX6 hH6)))
                      clear c1 hrow hH5 hH6 hg6 hX6 hS6 hK6 HS5
                      refine wp_region_mixP (.plain 0 <| .plain 1 <| .plain 2 <| .plain 3 <| .plain 4 <| .plain 5 <| .plain 6 <| .plain 7 <| .plain 8 <| .plain 9 <| .plain 10 <| .plain 11 <| .plain 12 <| .plain 13 <| .plain 14 <| .plain 15 <| .plain 16 <| .plain 17 <| .plain 18 <| .plain 20 <| .only 19 <| .only 21 <| .plain 22 <| .plain 23 <| .done) (by kernel_rfl) (by kernel_rfl) (fun Wd hbd => ?_)
                      have HSd := Lib.hid (And.intro (HS6.out.1.below hbd) (And.intro (HS6.out.2.1.below hbd HS6.out.2.1.lt) (And.intro (HS6.out.2.2.1.below hbd HS6.out.2.2.1.lt) (HS6.out.2.2.2.below hbd HS6.out.2.2.2.lt))))
                      clear HS6 hbd
                      obtain ⟨rr, rows, hR, hDr⟩ := HSd.out.1.ex
                      obtain ⟨Ar2, cr2, er2⟩ := hDr.rowLen t ht16n
                      have hown := hDr.own t ht16n
                      rw [er2] at hown
                      obtain ⟨rb, ro, rfl, hrb, hcell⟩ := (Reads.of_own hown) (by rw [List.length_map, Hn.out]; omega)
                      have hv := hcell k (.int .u32 (n32 dk)) (by rw [List.getElem?_map, List.getElem?_eq_getElem (show k < (ds t).length by rw [Hn.out]; omega), ← HTT.out.2.1, List.getD_eq_getElem?_getD, List.getElem?_eq_getElem (show k < (ds t).length by rw [Hn.out]; omega)]; rfl)
                      have hrw : Wd.cell? ⟨gd, t, none⟩ = some (.slice (some ⟨rb, ro, none⟩) (k + 1) cr2) := by rw [hDr.row t ht16n, er2, Hn.out]
                      have hgdl := hDr.blk.lt
                      have d0 : ∀ z, (plus Wd z).cell? ⟨gd, t, none⟩ = some (.slice (some ⟨rb, ro, none⟩) (k + 1) cr2) := fun z => by rw [plus_cell _ _ _ hgdl]; exact hrw
                      have d1 : ∀ z, (plus Wd z).cell? ⟨rb, ro + k, none⟩ = some (.int .u32 (n32 dk)) := fun z => by rw [plus_cell _ _ _ hrb]; exact hv
                      have d2 : ∀ z, (plus Wd z).cell? ⟨xb, 1, none⟩ = some (.int .i64 (t : Int)) := fun z => by rw [plus_cell _ _ _ HSd.out.2.2.1.lt, HSd.out.2.2.1.cell, askC_1, Ht.out.1]
                      have d3 : ∀ z, (plus Wd z).cell? ⟨hbk, 1, none⟩ = some (.int .i64 (k : Int)) := fun z => by rw [plus_cell _ _ _ HSd.out.2.2.2.lt, HSd.out.2.2.2.cell, headC_1, ← HTT.out.2.2]
                      have HRs := Lib.hid (show ∀ z, (plus Wd z).rangeAt sb 0 (sigC h3 T).toList from fun z j v hj => by rw [plus_cell _ _ _ HSd.out.2.1.lt]; exact range_blk HSd.out.2.1 j v hj)
                      have HRh := Lib.hid (show ∀ z, (plus Wd z).rangeAt hbk 0 (headC h3).toList from fun z j v hj => by rw [plus_cell _ _ _ HSd.out.2.2.2.lt]; exact range_blk HSd.out.2.2.2 j v hj)
                      have hki : (k : Int) < ((k : Int) + 1) := by omega
                      clear hown hcell hv hrw er2 hR hDr
                      iterate 20 (refine mix_plain rfl ?_; (first
                        | (refine wpQuiet_loadMid rfl 45 (.tmp 16) rfl sb 0 rfl (sigC h3 T) _ (fun _ ⟨e, he⟩ => by rw [he]; exact HRs.out e) Tryd.underlying45 rfl (by rw [sigC_size]; kernel_rfl) ?_; simp only [Act.put, List.setIfInBounds_toArray, List.set_cons_zero, List.set_cons_succ])
                        | (refine wpQuiet_loadMid rfl 37 (.tmp 15) rfl hbk 0 rfl (headC h3) _ (fun _ ⟨e, he⟩ => by rw [he]; exact HRh.out e) Tryd.underlying37 rfl (by rw [headC_size]; kernel_rfl) ?_; simp only [Act.put, List.setIfInBounds_toArray, List.set_cons_zero, List.set_cons_succ])
                        | go_big_quiet_step (fail)); refine wpQuiet_nil ?_)
                      clear d0 d1 d2 d3 hki
                      have hW := HSd.out.1.bel
                      refine mix_only_in rfl (fun K hK => ?_)
                      refine wpList_unguard rfl ?_
                      go_wp2_with fail
                      refine (rkey_any (.pointer (some ⟨w.heap.size, 0, none⟩)) (.slice A0 sd.length cap) sd (t : Int) (k : Int) dk Wd (HT.out.1.nxt hW) (HS.out.next hW) (by omega) (by omega) (by omega)).mono ?_
                      rintro e Wf ⟨rfl, hbf⟩
                      have hkl : (keyL' sd (t : Int) (k : Int) dk).length = 32 := mac_length _ _
                      go_wp2_with fail
                      refine hK _ _ (below_plus hbf) ?_
                      clear hK K
                      refine mix_only_in rfl (fun K hK => ?_)
                      refine wpList_unguard rfl ?_
                      go_wp2_with fail
                      refine (rsign_any (.pointer (some ⟨w.heap.size, 0, none⟩)) (keyL' sd (t : Int) (k : Int) dk) hkl h3 Hh3.out.1 Wf ((HT.out.1.nxt hW).nxt hbf)).mono ?_
                      rintro e Wg ⟨rfl, hbg⟩
                      rw [HTT.out.1]
                      go_wp2_with fail
                      have hbfg := hbf.trans (hbg.mono hbf.size)
                      refine hK _ _ (below_plus hbfg) ?_
                      clear hK K
                      have HSg := Lib.hid (And.intro (HSd.out.1.below hbfg) (And.intro (HSd.out.2.1.below hbfg HSd.out.2.1.lt) (HSd.out.2.2.1.below hbfg HSd.out.2.2.1.lt)))
                      clear HRs HRh hkl hbf hbg hbfg hW HSd
                      iterate 2 (refine mix_plain rfl ?_; (first
                        | (refine wpQuiet_neS rfl (.tmp 143) (.tmp 161) _ rfl h3 h3 T T rfl rfl Hh3.out.1.1 Hh3.out.1.1 Htl.out Htl.out false (by rw [headEq_self, decide_eq_true rfl]; rfl) ?_; simp only [Act.put, List.setIfInBounds_toArray, List.set_cons_zero, List.set_cons_succ])
                        | go_big_quiet_step (fail)); refine wpQuiet_nil ?_)
                      refine mix_done ?_
                      have hXs := fun W : World => Blk.new W 45 (sigC h3 T)
                      have hsl := HK.out.2.1
                      go_wp2_with (first
                        | (refine wpList_loadG 45 (.tmp 16) rfl sb 0 rfl (sigC h3 T) _ (range_blk HSg.out.2.1) Tryd.underlying45 rfl (by rw [sigC_size]; kernel_rfl) rfl ?_)
                        | (refine wpList_buildSig rfl (.tmp 165) rfl h3 T rfl ?_)
                        | (at_builtin; refine wpList_appendSig rfl (.tmp 164) (.tmp 166) rfl BR _ sg rfl (own_below HSg.out.1.sown (below_new1 Wg _)) Wg.heap.size h3 T rfl (hXs Wg) (by omega) (Nat.le_trans HSg.out.1.lim (below_new1 Wg _).size) ?_; intro v9 W9 ho9 hg9))
                      go_meet
                      have hnb := below_new1 Wg (Obj.cells (sigC h3 T) 45)
                      have hK9 := (HSg.out.1.below hnb).sign (h3, T) ⟨Hh3.out.1, Htl.out, t, k, ht16n, by show h3.tree = _; rw [← HTT.out.2.2], by show h3.epoch = _; rw [← HTT.out.2.2], by rw [Hn.out]; omega, by rw [HTT.out.2.1]; exact HTT.out.1⟩ ho9 hg9
                      refine ⟨ds, sg ++ [(h3, T)], by rw [List.length_append]; show sg.length + 1 ≤ i + 1; omega, hK9, ?_⟩
                      have hX9 := HSg.out.2.2.below hnb HSg.out.2.2.lt
                      exact hX9.grown hg9 (fun e => own_ne hX9 (own_below HSg.out.1.sown hnb) (by decide) e.symm)
            by_cases k3 : a.kind = 3
            · as_aux_lemma =>
                have c2 : W1.cell? ⟨xb, 2, none⟩ = some (.int .i64 a.turn) := by rw [hK1.out.2.cell, askC_2]
                rw [k3] at c0
                have hsl := HK.out.2.1
                obtain ⟨As, cs, rfl⟩ := own_slice hK1.out.1.sown
                by_cases hz : sg.length = 0
                · have hz' : ((sg.length : Nat) : Int) = 0 := by omega
                  clear c2 hz hsl
                  go_wp2_with fail
                  go_roundg (gk - 1)
                  case measure => have := HK.out.2.2; omega
                  case rel => exact ⟨i + 1, ds, sg, by have := HK.out.2.2; omega, by omega, by omega, by go_num, by have := HK.out.2.1; omega, hK1.out.1⟩
                · have hw0 := withinI_bounds a.turn 0 ((sg.length : Int) - 1) (by omega)
                  obtain ⟨j, hj⟩ : ∃ j : Nat, withinI a.turn 0 ((sg.length : Int) - 1) = (j : Int) := ⟨(withinI a.turn 0 ((sg.length : Int) - 1)).toNat, by omega⟩
                  have hwm := within_any a.turn 0 ((sg.length : Int) - 1) W1 (by decide) (by omega) (by omega) Hok.out.2.2.1.1 Hok.out.2.2.1.2
                  rw [hj] at hwm hw0
                  have hjl : j < sg.length := by omega
                  obtain ⟨p, hp⟩ : ∃ p, sg[j]? = some p := ⟨sg[j], List.getElem?_eq_getElem hjl⟩
                  obtain ⟨gs, rfl, hrs⟩ := sig_range hK1.out.1.sown j p hp
                  have HRs := Lib.hid hrs
                  obtain ⟨q1, q2, t, k, q3, q4, q5, q6, q7⟩ := hK1.out.1.sok p (List.mem_of_getElem? hp)
                  have hdl := hK1.out.1.dl t q3
                  have Hp := Lib.hid (And.intro q1 (And.intro q2 (And.intro q4 (And.intro q5 (And.intro (show k < 32 by omega) (And.intro q3 (hvF_true q6 q7)))))))
                  have hj0 : (j : Int) < (sg.length : Int) := by omega
                  have hz' : ((sg.length : Int) == 0) = false := by rw [beq_eq_false_iff_ne]; omega
                  have hlen40 : (sg.length : Int) ≤ 40 := by omega
                  have Hl := Lib.hid (own_lt hK1.out.1.sown)
                  have hzv := zero_sig
                  have hD := Blk.new W1 45 (sigC zeroHead [])
                  have hbn := below_new1 W1 (Obj.cells (sigC zeroHead []) 45)
                  clear hj hw0 hjl hp hrs q1 q2 q3 q4 q5 q6 q7 hdl hz hsl
                  go_upto_region 40 with (first
                    | (go_at_call 18; refine hwm.mono ?_; rintro e _ ⟨rfl, rfl⟩)
                    | (refine wpList_loadG 45 (.tmp 180) rfl gs (j * 68) rfl (sigC p.1 p.2) _ HRs.out Tryd.underlying45 rfl (by rw [sigC_size]; kernel_rfl) rfl ?_)
                    | (refine wpList_storeB rfl rfl 45 (.tmp 18) (.tmp 181) rfl W1.heap.size 0 rfl (sigC p.1 p.2) rfl _ _ hD (by rw [sigC_size]; kernel_rfl) (by rw [sigC_size, sigC_size]; omega) (sigC_one _ _) ?_; intro W3 hS3 hg3))
                  rw [copied_all _ _ (by rw [sigC_size, sigC_size])] at hS3
                  have hb3 := below_only hbn hg3 (Nat.le_refl _) hbn.size
                  have HS3 := Lib.hid (And.intro (hK1.out.1.below hb3) (And.intro (hK1.out.2.below hb3 hK1.out.2.lt) (And.intro hS3 (And.intro (show (Value.slice (some ⟨gs, 0, none⟩) sg.length cs).ownBlock ≠ some W1.heap.size from fun e => by have := Hl.out _ e; omega) (Nat.le_trans hK1.out.1.base hK1.out.1.lim)))))
                  clear hwm HRs hj0 Hl hzv hD hbn hS3 hg3 hb3 c0 c2
                  generalize W1.heap.size = sb at HS3 ⊢
                  have hm := ks_holds HS3.out.1 t Hp.out.2.2.2.2.2.1 k p.1 Hp.out.1 Hp.out.2.2.1 Hp.out.2.2.2.1 p.2 Hp.out.2.1 (HGl.out W3 HS3.out.1.bel)
                  rw [Hp.out.2.2.2.2.2.2] at hm
                  go_upto_block 3 with (first
                    | (refine wpList_loadG 45 (.tmp 18) rfl sb 0 rfl (sigC p.1 p.2) _ (range_blk HS3.out.2.2.1) Tryd.underlying45 rfl (by rw [sigC_size]; kernel_rfl) rfl ?_)
                    | (go_at_call 19; refine hm.mono ?_; rintro e W4 ⟨rfl, hb4⟩; have HS4 := Lib.hid (And.intro (HS3.out.1.below hb4) (And.intro (HS3.out.2.1.below hb4 HS3.out.2.1.lt) (And.intro (HS3.out.2.2.1.below hb4 HS3.out.2.2.1.lt) HS3.out.2.2.2))); have c2 : W4.cell? ⟨xb, 2, none⟩ = some (.int .i64 a.turn) := (by rw [HS4.out.2.1.cell, askC_2])))
                  clear hm hb4 c2 HS3 hz' hlen40
                  obtain ⟨r, hr⟩ : ∃ r, Int.tmod a.turn 5 = r := ⟨_, rfl⟩
                  rw [hr]
                  clear hr
                  apply hoist
                  · intro key
                    go_cut [188] from 1 to 0 (fun _ wx => ∃ (h' : HeadL) (tag' : List UInt8) (k' : Nat), h'.ok ∧ tag'.length = 32 ∧ h'.tree = (t : Int) ∧ h'.epoch = (k' : Int) ∧ k' ≤ 32 ∧ KS w1.heap.size BR w1 wx g gd sd vs ds (.slice (some ⟨gs, 0, none⟩) sg.length cs) sg ∧ Blk wx xb 39 (askC a) ∧ Blk wx sb 45 (sigC h' tag'))
                    case first =>
                      clear key
                      by_cases r1 : r = 1
                      · rw [r1]
                        have e2 : W4.cell? ⟨sb, 2, none⟩ = some (.int .u64 (n64 p.1.size)) := by rw [HS4.out.2.2.1.cell, sigC_2]
                        go_wp2_with (first
                          | (refine wpList_store1 rfl rfl _ (.tmp 196) (.tmp 194) rfl sb 2 rfl (.int .u64 ((n64 p.1.size + 1) % 18446744073709551616)) rfl _ _ HS4.out.2.2.1 (by kernel_rfl) (by rw [sigC_size]; omega) rfl rfl ?_; intro W5 hS5 hg5))
                        go_meet
                        rw [← n64_succ, sigC_size'] at hS5
                        have hX5 := HS4.out.2.1.grown hg5 (fun e => by injection e with e; exact blk_neK HS4.out.2.1 HS4.out.2.2.1 (by decide) e)
                        exact ⟨⟨p.1.tree, p.1.epoch, p.1.size + 1, p.1.clock, p.1.root⟩, p.2, k, Hp.out.1, Hp.out.2.1, Hp.out.2.2.1, Hp.out.2.2.2.1, by have := Hp.out.2.2.2.2.1; omega, HS4.out.1.awayG hg5 HS4.out.2.2.1 HS4.out.2.2.2.2 (by decide) (by decide) (by decide) (by decide) (by decide) HS4.out.2.2.2.1, hX5, hS5⟩
                      by_cases r2 : r = 2
                      · rw [r2]
                        have e2 : W4.cell? ⟨sb, 39, none⟩ = some (.int .u8 (n8 (p.2.getD 3 0))) := by rw [HS4.out.2.2.1.cell, show (39 : Nat) = 36 + 3 from rfl, sigC_at _ _ Hp.out.2.1 3 (by decide)]; rfl
                        go_wp2_with (first
                          | (refine wpList_store1 rfl rfl _ (.tmp 204) (.tmp 202) rfl sb 39 rfl (v8 (p.2.getD 3 0 ^^^ 1)) rfl _ _ HS4.out.2.2.1 (by kernel_rfl) (by rw [sigC_size]; omega) rfl rfl ?_; intro W5 hS5 hg5))
                        go_meet
                        rw [show (39 : Nat) = 36 + 3 from rfl] at hS5
                        have hS5 := (sigC_tagSet p.1 p.2 Hp.out.2.1 3 (by decide) (p.2.getD 3 0 ^^^ 1)) ▸ (show Blk W5 sb 45 ((sigC p.1 p.2).setIfInBounds (36 + 3) (v8 (p.2.getD 3 0 ^^^ 1))) from hS5)
                        have hX5 := HS4.out.2.1.grown hg5 (fun e => by injection e with e; exact blk_neK HS4.out.2.1 HS4.out.2.2.1 (by decide) e)
                        exact ⟨p.1, p.2.set 3 (p.2.getD 3 0 ^^^ 1), k, Hp.out.1, by rw [List.length_set]; exact Hp.out.2.1, Hp.out.2.2.1, Hp.out.2.2.2.1, by have := Hp.out.2.2.2.2.1; omega, HS4.out.1.awayG hg5 HS4.out.2.2.1 HS4.out.2.2.2.2 (by decide) (by decide) (by decide) (by decide) (by decide) HS4.out.2.2.2.1, hX5, hS5⟩
                      by_cases r3 : r = 3
                      · rw [r3]
                        have hk32 : (k : Int) < 32 := by have := Hp.out.2.2.2.2.1; omega
                        have e2 : W4.cell? ⟨sb, 1, none⟩ = some (.int .i64 (k : Int)) := by rw [HS4.out.2.2.1.cell, sigC_1, Hp.out.2.2.2.1]
                        go_wp2_with (first
                          | (refine wpList_store1 rfl rfl _ (.tmp 212) (.tmp 210) rfl sb 1 rfl (.int .i64 ((k : Int) + 1)) rfl _ _ HS4.out.2.2.1 (by kernel_rfl) (by rw [sigC_size]; omega) rfl rfl ?_; intro W5 hS5 hg5))
                        go_meet
                        rw [sigC_epoch] at hS5
                        have hX5 := HS4.out.2.1.grown hg5 (fun e => by injection e with e; exact blk_neK HS4.out.2.1 HS4.out.2.2.1 (by decide) e)
                        exact ⟨⟨p.1.tree, (k : Int) + 1, p.1.size, p.1.clock, p.1.root⟩, p.2, k + 1, ⟨Hp.out.1.1, Hp.out.1.2.1, ⟨by show (-9223372036854775808 : Int) ≤ (k : Int) + 1; omega, by show (k : Int) + 1 ≤ 9223372036854775807; omega⟩⟩, Hp.out.2.1, Hp.out.2.2.1, by show (k : Int) + 1 = ((k + 1 : Nat) : Int); omega, by omega, HS4.out.1.awayG hg5 HS4.out.2.2.1 HS4.out.2.2.2.2 (by decide) (by decide) (by decide) (by decide) (by decide) HS4.out.2.2.2.1, hX5, hS5⟩
                      by_cases r4 : r = 4
                      · rw [r4]
                        have e2 : W4.cell? ⟨sb, 3, none⟩ = some (.int .u64 (n64 p.1.clock)) := by rw [HS4.out.2.2.1.cell, sigC_3]
                        go_wp2_with (first
                          | (refine wpList_store1 rfl rfl _ (.tmp 220) (.tmp 218) rfl sb 3 rfl (.int .u64 ((n64 p.1.clock + 1) % 18446744073709551616)) rfl _ _ HS4.out.2.2.1 (by kernel_rfl) (by rw [sigC_size]; omega) rfl rfl ?_; intro W5 hS5 hg5))
                        go_meet
                        rw [← n64_succ, sigC_clock] at hS5
                        have hX5 := HS4.out.2.1.grown hg5 (fun e => by injection e with e; exact blk_neK HS4.out.2.1 HS4.out.2.2.1 (by decide) e)
                        exact ⟨⟨p.1.tree, p.1.epoch, p.1.size, p.1.clock + 1, p.1.root⟩, p.2, k, Hp.out.1, Hp.out.2.1, Hp.out.2.2.1, Hp.out.2.2.2.1, by have := Hp.out.2.2.2.2.1; omega, HS4.out.1.awayG hg5 HS4.out.2.2.1 HS4.out.2.2.2.2 (by decide) (by decide) (by decide) (by decide) (by decide) HS4.out.2.2.2.1, hX5, hS5⟩
                      have q1 : (r == 1) = false := by rw [beq_eq_false_iff_ne]; exact r1
                      have q2 : (r == 2) = false := by rw [beq_eq_false_iff_ne]; exact r2
                      have q3 : (r == 3) = false := by rw [beq_eq_false_iff_ne]; exact r3
                      have q4 : (r == 4) = false := by rw [beq_eq_false_iff_ne]; exact r4
                      clear r1 r2 r3 r4
                      go_wp2_with fail
                      go_roundg (gk - 1)
                      case measure => have := HK.out.2.2; omega
                      case rel => exact ⟨i + 1, ds, sg, by have := HK.out.2.2; omega, by omega, by omega, by go_num, by have := HK.out.2.1; omega, HS4.out.1⟩
                    case rest =>
                      revert wc u188 u189 u190 u191 u192 u193 u194 u195 u196 u197 u198 u199 u200 u201 u202 u203 u204 u205 u206 u207 u208 u209 u210 u211 u212 u213 u214 u215 u216 u217 u218 u219 u220
                      exact key.out
                  intro wc u188 u189 u190 u191 u192 u193 u194 u195 u196 u197 u198 u199 u200 u201 u202 u203 u204 u205 u206 u207 u208 u209 u210 u211 u212 u213 u214 u215 u216 u217 u218 u219 u220 hcut
                  obtain ⟨h', tag', k', z1, z2, z3, z4, z5, z6, z7, z8⟩ := hcut
                  have HC := Lib.hid (And.intro z1 (And.intro z2 (And.intro z3 (And.intro z4 (And.intro z5 (And.intro z6 (And.intro z7 z8)))))))
                  clear z1 z2 z3 z4 z5 z6 z7 z8 HS4
                  go_upto_region 51 with fail
                  refine wp_region_mixP (.plain 0 <| .plain 1 <| .plain 3 <| .plain 4 <| .plain 5 <| .plain 6 <| .only 2 <| .only 7 <| .plain 8 <| .done) (by kernel_rfl) (by kernel_rfl) (fun Wd hbd => ?_)
                  have HSd := Lib.hid (And.intro (HC.out.2.2.2.2.2.1.below hbd) (And.intro (HC.out.2.2.2.2.2.2.1.below hbd HC.out.2.2.2.2.2.2.1.lt) (HC.out.2.2.2.2.2.2.2.below hbd HC.out.2.2.2.2.2.2.2.lt)))
                  have HRs := Lib.hid (show ∀ z, (plus Wd z).rangeAt sb 0 (sigC h' tag').toList from fun z j v hj => by rw [plus_cell _ _ _ HSd.out.2.2.lt]; exact range_blk HSd.out.2.2 j v hj)
                  clear hbd
                  iterate 6 (refine mix_plain rfl ?_; (first
                    | (refine wpQuiet_loadMid rfl 45 (.tmp 18) rfl sb 0 rfl (sigC h' tag') _ (fun _ ⟨e, he⟩ => by rw [he]; exact HRs.out e) Tryd.underlying45 rfl (by rw [sigC_size]; kernel_rfl) ?_; simp only [Act.put, List.setIfInBounds_toArray, List.set_cons_zero, List.set_cons_succ])
                    | go_big_quiet_step (fail)); refine wpQuiet_nil ?_)
                  have hW := HSd.out.1.bel
                  refine mix_only_in rfl (fun K hK => ?_)
                  go_wp2_with fail
                  refine (ks_holds HSd.out.1 t Hp.out.2.2.2.2.2.1 k' h' HC.out.1 HC.out.2.2.1 HC.out.2.2.2.1 tag' HC.out.2.1 (HGl.out Wd hW)).mono ?_
                  rintro e We ⟨rfl, hbe⟩
                  have HSe := Lib.hid (HSd.out.1.below hbe)
                  go_wp2_with fail
                  refine hK _ _ (below_plus hbe) ?_
                  clear hK K
                  refine mix_only_in rfl (fun K hK => ?_)
                  go_wp2_with fail
                  refine (ks_holdsR HSe.out t Hp.out.2.2.2.2.2.1 k' HC.out.2.2.2.2.1 h' HC.out.1 HC.out.2.2.1 HC.out.2.2.2.1 tag' HC.out.2.1 (.pointer (some ⟨w.heap.size, 0, none⟩)) (.slice A0 sd.length cap) ((HT.out.1.nxt hW).nxt hbe) ((HS.out.next hW).next hbe) hm2).mono ?_
                  rintro e Wf ⟨rfl, hbf⟩
                  generalize hvF sd ds t k' h' tag' = bb
                  have hbef := hbe.trans (hbf.mono hbe.size)
                  go_wp2_with fail
                  refine hK _ _ (below_plus hbef) ?_
                  clear hK K
                  have hqq : (bb != bb) = false := by cases bb <;> rfl
                  iterate 1 (refine mix_plain rfl ?_; go_big_quiet_step (fail); refine wpQuiet_nil ?_)
                  refine mix_done ?_
                  clear hqq
                  have HSf := Lib.hid (And.intro (HSd.out.1.below hbef) (HSd.out.2.1.below hbef HSd.out.2.1.lt))
                  clear HSd HSe HRs hbe hbf hbef hW
                  go_wp2_with fail
                  go_meet
                  exact ⟨ds, sg, by have := HK.out.2.1; omega, HSf.out.1, HSf.out.2⟩
            have q1 : (a.kind == 1) = false := by rw [beq_eq_false_iff_ne]; exact k1
            have q2 : (a.kind == 2) = false := by rw [beq_eq_false_iff_ne]; exact k2
            have q3 : (a.kind == 3) = false := by rw [beq_eq_false_iff_ne]; exact k3
            clear k1 k2 k3
            go_wp2_with fail
            go_meet
            exact ⟨ds, sg, by have := HK.out.2.1; omega, hK1.out.1, hK1.out.2⟩
          case rest =>
            revert wc u4 u9 u13 u14 u15 u16 u17 u18 u59 u60 u61 u62 u63 u64 u65 u66 u67 u68 u69 u70 u71 u72 u73 u74 u75 u76 u77 u78 u79 u80 u81 u82 u83 u84 u85 u86 u87 u88 u89 u90 u91 u92 u93 u94 u95 u96 u97 u98 u99 u100 u101 u102 u103 u104 u105 u106 u107 u108 u109 u110 u111 u112 u113 u114 u115 u116 u117 u118 u119 u120 u121 u122 u123 u124 u125 u126 u127 u128 u129 u130 u131 u132 u133 u134 u135 u136 u137 u138 u139 u140 u141 u142 u143 u144 u145 u146 u147 u148 u149 u150 u151 u152 u153 u154 u155 u156 u157 u158 u159 u160 u161 u162 u163 u164 u165 u166 u167 u168 u169 u170 u171 u172 u173 u174 u175 u176 u177 u178 u179 u180 u181 u182 u183 u184 u185 u186 u187 u188 u189 u190 u191 u192 u193 u194 u195 u196 u197 u198 u199 u200 u201 u202 u203 u204 u205 u206 u207 u208 u209 u210 u211 u212 u213 u214 u215 u216 u217 u218 u219 u220 u221 u222 u223 u224 u225 u226 u227 u228 u229
            exact key.out
        intro wc u4 u9 u13 u14 u15 u16 u17 u18 u59 u60 u61 u62 u63 u64 u65 u66 u67 u68 u69 u70 u71 u72 u73 u74 u75 u76 u77 u78 u79 u80 u81 u82 u83 u84 u85 u86 u87 u88 u89 u90 u91 u92 u93 u94 u95 u96 u97 u98 u99 u100 u101 u102 u103 u104 u105 u106 u107 u108 u109 u110 u111 u112 u113 u114 u115 u116 u117 u118 u119 u120 u121 u122 u123 u124 u125 u126 u127 u128 u129 u130 u131 u132 u133 u134 u135 u136 u137 u138 u139 u140 u141 u142 u143 u144 u145 u146 u147 u148 u149 u150 u151 u152 u153 u154 u155 u156 u157 u158 u159 u160 u161 u162 u163 u164 u165 u166 u167 u168 u169 u170 u171 u172 u173 u174 u175 u176 u177 u178 u179 u180 u181 u182 u183 u184 u185 u186 u187 u188 u189 u190 u191 u192 u193 u194 u195 u196 u197 u198 u199 u200 u201 u202 u203 u204 u205 u206 u207 u208 u209 u210 u211 u212 u213 u214 u215 u216 u217 u218 u219 u220 u221 u222 u223 u224 u225 u226 u227 u228 u229 hcut
        as_aux_lemma =>
          obtain ⟨ds', sg', y1, y2, y3⟩ := hcut
          have HC := Lib.hid (And.intro y1 (And.intro y2 y3))
          clear y1 y2 y3 c0
          cases bi with
          | false =>
            go_wp2_with fail
            go_roundg (gk - 1)
            case measure => have := HK.out.2.2; omega
            case rel => exact ⟨i + 1, ds', sg', by have := HK.out.2.2; omega, by omega, by omega, by go_num, HC.out.1, HC.out.2.1⟩
          | true =>
            obtain ⟨ht0, ht16⟩ := Hbi.out.1 rfl
            obtain ⟨t, ht⟩ : ∃ t : Nat, a.tree = (t : Int) := ⟨a.tree.toNat, by omega⟩
            have ht16n : t < 16 := by omega
            have hti : (t : Int) < 16 := by omega
            have c1 : wc.cell? ⟨xb, 1, none⟩ = some (.int .i64 (t : Int)) := by rw [HC.out.2.2.cell, askC_1, ht]
            obtain ⟨Ar, cr, hrow⟩ := ks_row HC.out.2.1 t ht16n
            have hdl := HC.out.2.1.dl t ht16n
            clear ht ht0 ht16
            by_cases hz : (ds' t).length = 0
            · have hm := ks_epoch0 HC.out.2.1 t ht16n hz
              rw [hz] at hrow
              clear hz hdl
              go_wp2_with (first
                | (go_at_call 21; refine hm.mono ?_; rintro e _ ⟨rfl, rfl⟩))
              go_roundg (gk - 1)
              case measure => have := HK.out.2.2; omega
              case rel => exact ⟨i + 1, ds', sg', by have := HK.out.2.2; omega, by omega, by omega, by go_num, HC.out.1, HC.out.2.1⟩
            · have hm := ks_epoch HC.out.2.1 t ht16n (by omega)
              obtain ⟨n, hn⟩ : ∃ n, (ds' t).length = n := ⟨_, rfl⟩
              rw [hn] at hm hrow hz hdl
              have hn0 : (0 : Int) < (n : Int) := by omega
              have hn32 : (n : Int) ≤ 32 := by omega
              clear hn hz hdl
              go_wp2_with (first
                | (go_at_call 21; refine hm.mono ?_; rintro e _ ⟨rfl, rfl⟩))
              go_roundg (gk - 1)
              case measure => have := HK.out.2.2; omega
              case rel => exact ⟨i + 1, ds', sg', by have := HK.out.2.2; omega, by omega, by omega, by go_num, HC.out.1, HC.out.2.1⟩
      · have Hh := Lib.hid hi40
        have hbw : Below w.heap.size w wr := HT.out.2.trans (HK.out.1.bel.mono HT.out.2.size)
        have hk := known11_any wr (HG.out.next hbw)
        have Hb := Lib.hid hbw
        clear hi40 hil hbw
        rcases hex with hex | ⟨hex1, hex2⟩
        all_goals
          go_wp2_with fail
          refine hk.mono ?_
          rintro e w9 ⟨rfl, hb9⟩
          go_wp2_with fail
          go_ret
          exact ⟨rfl, Hb.out.trans (hb9.mono Hb.out.size)⟩
end Go.Proofs.YtfggbfnnibpohaaDoor
