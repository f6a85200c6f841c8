/- The walk of the law CompactReckons. Condition: the tables. -/
import Derived.Test.YtkogehkmldbhgaaDoorP21
import Derived.Test.YtkogehkmldbhgaaDoorP23
import Derived.Test.YtkogehkmldbhgaaDoorP24
namespace Go.Proofs.YtkogehkmldbhgaaDoor
open Go Go.RowKit
attribute [local irreducible] mixW
attribute [local go_sem] n8_lo n8_hi n64_lo n64_hi n32_lo n32_hi
theorem joinM_ok (c a m e : Nat) (x y : List (List UInt8)) (hall : ∀ d ∈ x ++ y, d.length = 32) (hx : x.length ≤ 1000) (hy : y.length ≤ 1000) : (∀ d ∈ joinM c a m e x y, d.length = 32) ∧ (joinM c a m e x y).length ≤ 2000 := by
  have hT : ∀ q ∈ joinT a m e x y, q.2.length = 32 := fun q hq => by
    unfold joinT at hq
    rcases List.mem_append.1 hq with h | h
    · exact hall _ (List.mem_append_left _ (List.of_mem_zip (show (q.1, q.2) ∈ _ from h)).2)
    · exact hall _ (List.mem_append_right _ (List.of_mem_zip (show (q.1, q.2) ∈ _ from h)).2)
  have hl : (joinT a m e x y).length ≤ 2000 := by
    unfold joinT
    rw [List.length_append, List.length_zip, List.length_zip]
    omega
  constructor
  · intro d hd
    unfold joinM at hd
    obtain ⟨q, hq, rfl⟩ := List.mem_map.1 hd
    exact joinF_mem (nd := nodeM c) (fun _ _ => nodeM_length _ _ _) _ (fun _ h => by cases h) hT q (List.mem_reverse.1 hq)
  · unfold joinM
    rw [List.length_map, List.length_reverse]
    have := joinF_length (nd := nodeM c) (joinT a m e x y) (st := []) (p := a)
    simp at this
    omega
theorem addV_ok (c b e : Nat) (h : List (List UInt8)) (d : List UInt8) (hall : ∀ q ∈ h, q.length = 32) (hd : d.length = 32) (hl : h.length ≤ 1000) : (∀ q ∈ (addV c b e h d).hs, q.length = 32) ∧ (addV c b e h d).hs.length ≤ 2000 := by
  unfold addV
  split
  · exact ⟨(fun _ h => by cases h), by simp⟩
  · split
    · exact ⟨(fun _ h => by cases h), by simp⟩
    · refine joinM_ok c b e (e + 1) h [d] (fun q hq => ?_) hl (by simp)
      rcases List.mem_append.1 hq with h | h
      · exact hall q h
      · rw [List.mem_singleton.1 h]; exact hd
theorem mergeV_ok (c b1 e1 : Nat) (h1 : List (List UInt8)) (b2 e2 : Nat) (h2 : List (List UInt8)) (hall : ∀ q ∈ h1 ++ h2, q.length = 32) (hl1 : h1.length ≤ 1000) (hl2 : h2.length ≤ 1000) : (∀ q ∈ (mergeV c b1 e1 h1 b2 e2 h2).hs, q.length = 32) ∧ (mergeV c b1 e1 h1 b2 e2 h2).hs.length ≤ 2000 := by
  unfold mergeV
  split
  · exact ⟨(fun _ h => by cases h), by simp⟩
  · split
    · exact ⟨(fun _ h => by cases h), by simp⟩
    · split
      · exact ⟨(fun _ h => by cases h), by simp⟩
      · exact joinM_ok c b1 e1 e2 h1 h2 hall hl1 hl2
theorem rootV_ok (c b e : Nat) (h : List (List UInt8)) (hall : ∀ q ∈ h, q.length = 32) : (rootV c b e h).1.length = 32 := by
  unfold rootV
  split
  · exact zeroD_len
  · split
    · exact zeroD_len
    · exact foldM_length c h hall
/-- a range of the reference that is kept in a block -/
def RgF (W : World) (g b e : Nat) (A : Option Addr) (c : Nat) (hs : List (List UInt8)) : Prop := Blk W g 35 (rgC b e (.slice A hs.length c)) ∧ DX W (.slice A hs.length c) hs
theorem RgF.next {W V : World} {g b e c : Nat} {A : Option Addr} {hs : List (List UInt8)} (h : RgF W g b e A c hs) (hb : Below W.heap.size W V) : RgF V g b e A c hs := ⟨h.1.below hb h.1.lt, h.2.next hb⟩
theorem RgF.mk {W : World} {base b e c : Nat} {A : Option Addr} {hs : List (List UInt8)} (h : W.ownsRow base 43 32 (.slice A hs.length c) hs.length (dcells hs)) : RgF (W.alloc (.cells #[.int .u64 (b : Int), .int .u64 (e : Int), .slice A hs.length c] 35)) W.heap.size b e A c hs :=
  ⟨Blk.new W _ _, (DX.of_own h).next (below_new1 W _)⟩
def mark10 : List UInt8 := 9 :: List.replicate 31 0
theorem mark10_len : mark10.length = 32 := by unfold mark10; simp
set_option maxRecDepth 100000 in
theorem built_10 (w : World) : (Instr.build 43 #[(0, .int .u8 9)]).run Tryd.prog w = .ok (.agg (dat mark10)) w := by kernel_rfl
theorem wpList_build10 {w : World} {ops : Array Oper} {rest : List Oper} {o : Oper} {a : Act} {Q : Exit → Act → World → Prop} (hw : Region.wanted o (yielded ops a.tmps) = true) (ho : o.op = .build 43 #[(0, .const (.int .u8 9))])
    (h : wpList Tryd.prog ops Q rest (a.put o.dst (.agg (dat mark10))) w) : wpList Tryd.prog ops Q (o :: rest) a w :=
  wpList_step fun K hK => by
    have hc : a.eval (.const (.int .u8 9)) = .int .u8 9 := rfl
    simp only [hw, if_true]
    unfold Oper.wp execOp
    simp only [ho, List.map_toArray, List.map_cons, List.map_nil, hc, Sem.run_bind, built_10, Result.andThen_ok, Sem.run_pure]
    exact hK _ _ h
theorem wpList_eqDg {w : World} {ops : Array Oper} {rest : List Oper} {o : Oper} {a : Act} {Q : Exit → Act → World → Prop} (hw : Region.wanted o (yielded ops a.tmps) = true) (x y : Operand) (yt : TypeId) (ho : o.op = .binOp .eql 43 x y yt) (X Y : List UInt8) (hx : a.eval x = .agg (dat X)) (hy : a.eval y = .agg (dat Y)) (hX : X.length = 32) (hY : Y.length = 32)
    (b : Bool) (hb : decide (X = Y) = b) (h : wpList Tryd.prog ops Q rest (a.put o.dst (.bool b)) w) : wpList Tryd.prog ops Q (o :: rest) a w :=
  wpList_step fun K hK => by
    simp only [hw, if_true]
    unfold Oper.wp execOp
    simp only [ho, hx, hy, Sem.run_bind, Sem.run_pure, Result.andThen_ok, eqGuard_dat, eql_dat X Y hX hY, hb]
    exact hK _ _ h
theorem toldL_few (a e : Nat) : (toldL a e).length ≤ 1000000 := by
  unfold toldL
  split
  · have := blocks_many 32 (by decide) (a := a) (e := e) (by omega); omega
  · simp
set_option maxHeartbeats 4000000 in
set_option maxRecDepth 100000 in
theorem compactReckons_walk (w : World) (hG : Glob w) (hT : Tz w) (x0 : Int) (_hx0 : -9223372036854775808 ≤ x0 ∧ x0 ≤ 9223372036854775807) (b1 e1 : Nat) (A1 : Option Addr) (c1 : Nat) (h1 : List (List UInt8)) (hb1 : b1 < 18446744073709551616) (he1 : e1 < 18446744073709551616) (hm1 : ∀ d ∈ h1, d.length = 32) (hX1 : DX w (.slice A1 h1.length c1) h1)
    (b2 e2 : Nat) (A2 : Option Addr) (c2 : Nat) (h2 : List (List UInt8)) (hb2 : b2 < 18446744073709551616) (he2 : e2 < 18446744073709551616) (hm2 : ∀ d ∈ h2, d.length = 32) (hX2 : DX w (.slice A2 h2.length c2) h2) (d : List UInt8) (hd : d.length = 32) (bg : Nat) (hbg : bg < 18446744073709551616) (en : Nat) (hen : en < 18446744073709551616) :
    Calls Tryd.prog 5 #[.int .i64 x0, .agg (rgC b1 e1 (.slice A1 h1.length c1)), .agg (rgC b2 e2 (.slice A2 h2.length c2)), .agg (dat d), .int .u64 (bg : Int), .int .u64 (en : Int)] w fun r w' => r = .returned (.bool true) ∧ Below w.heap.size w w' := by
  have hA := ((Blk.new w 31 (rgC b1 e1 (.slice A1 h1.length c1))).alloc (Obj.cells (rgC b2 e2 (.slice A2 h2.length c2)) 31)).alloc (Obj.cells (dat d) 43)
  have hB := (Blk.new2 w (Obj.cells (rgC b1 e1 (.slice A1 h1.length c1)) 31) 31 (rgC b2 e2 (.slice A2 h2.length c2))).alloc (Obj.cells (dat d) 43)
  have hD := blk_new3j w (Obj.cells (rgC b1 e1 (.slice A1 h1.length c1)) 31) (Obj.cells (rgC b2 e2 (.slice A2 h2.length c2)) 31) 43 (dat d)
  have hbn := below_new3j w (Obj.cells (rgC b1 e1 (.slice A1 h1.length c1)) 31) (Obj.cells (rgC b2 e2 (.slice A2 h2.length c2)) 31) (Obj.cells (dat d) 43)
  have hM := Lib.hid (And.intro hm1 (And.intro hm2 hd))
  have hN := Lib.hid (And.intro hb1 (And.intro he1 (And.intro hb2 (And.intro he2 (And.intro hbg hen)))))
  clear hm1 hm2 hd hb1 he1 hb2 he2 hbg hen
  unfold rgC at hA hB hD hbn ⊢
  simp only [nU] at hA hB hD hbn ⊢
  go_enter Tryd.func5, Tryd.ntmps5
  by_cases k1 : 70 < h1.length
  · have k1' : (70 : Int) < (h1.length : Int) := by omega
    clear k1
    go_wp2_with fail
    refine calls_at (fun V => Below w.heap.size w V) hbn ?_
    clear hA hB hD hbn
    rintro V hbel
    refine (known10_any V (hG.next hbel) (hT.next hbel)).mono ?_
    rintro r V1 ⟨rfl, hbx⟩
    replace hbel := hbel.trans (hbx.mono hbel.size)
    clear hbx
    go_wp2_with fail
    go_ret
    exact ⟨rfl, hbel⟩
  by_cases k2 : 70 < h2.length
  · have k1' : (h1.length : Int) ≤ (70 : Int) := by omega
    have k2' : (70 : Int) < (h2.length : Int) := by omega
    clear k1 k2
    go_wp2_with fail
    refine calls_at (fun V => Below w.heap.size w V) hbn ?_
    clear hA hB hD hbn
    rintro V hbel
    refine (known10_any V (hG.next hbel) (hT.next hbel)).mono ?_
    rintro r V1 ⟨rfl, hbx⟩
    replace hbel := hbel.trans (hbx.mono hbel.size)
    clear hbx
    go_wp2_with fail
    go_ret
    exact ⟨rfl, hbel⟩
  have k1' : (h1.length : Int) ≤ (70 : Int) := by omega
  have k2' : (h2.length : Int) ≤ (70 : Int) := by omega
  have hK := Lib.hid (And.intro k1 k2)
  clear k1 k2
  have Hx : Hid (Below w.heap.size w (((w.alloc (Obj.cells (rgC b1 e1 (.slice A1 h1.length c1)) 31)).alloc (Obj.cells (rgC b2 e2 (.slice A2 h2.length c2)) 31)).alloc (Obj.cells (dat d) 43)) ∧ Rg (((w.alloc (Obj.cells (rgC b1 e1 (.slice A1 h1.length c1)) 31)).alloc (Obj.cells (rgC b2 e2 (.slice A2 h2.length c2)) 31)).alloc (Obj.cells (dat d) 43)) w.heap.size b1 e1 A1 c1 h1 ∧ Rg (((w.alloc (Obj.cells (rgC b1 e1 (.slice A1 h1.length c1)) 31)).alloc (Obj.cells (rgC b2 e2 (.slice A2 h2.length c2)) 31)).alloc (Obj.cells (dat d) 43)) (w.heap.size + 1) b2 e2 A2 c2 h2 ∧ Blk (((w.alloc (Obj.cells (rgC b1 e1 (.slice A1 h1.length c1)) 31)).alloc (Obj.cells (rgC b2 e2 (.slice A2 h2.length c2)) 31)).alloc (Obj.cells (dat d) 43)) (w.heap.size + 2) 43 (dat d)) := Lib.hid ⟨hbn, ⟨hA, hX1.next hbn⟩, ⟨hB, hX2.next hbn⟩, hD⟩
  go_wp2_with fail
  clear hA hB hD hbn hX1 hX2
  refine calls_at (fun V => Below w.heap.size w V ∧ Rg V w.heap.size b1 e1 A1 c1 h1 ∧ Rg V (w.heap.size + 1) b2 e2 A2 c2 h2 ∧ Blk V (w.heap.size + 2) 43 (dat d)) Hx.out ?_
  clear Hx k1' k2'
  rintro V0 H0
  have H := Lib.hid H0
  clear H0
  refine (hasher10_any x0 V0).mono ?_
  rintro r V1 ⟨hv, rfl, hH, hbx⟩
  have Hx := Lib.hid (And.intro (H.out.1.trans (hbx.mono H.out.1.size)) (And.intro (H.out.2.1.next hbx) (And.intro (H.out.2.2.1.next hbx) (And.intro (H.out.2.2.2.below hbx H.out.2.2.2.lt) (hH)))))
  clear H hbx hH
  have cA : V1.cell? ⟨w.heap.size, 2, none⟩ = some (.slice A1 h1.length c1) := Hx.out.2.1.1.cell 2
  go_wp2_with (first
    | (refine wpList_build10 rfl rfl ?_))
  refine (roomyX_any _ h1 mark10 (by have := hK.out.1; omega) V1 Hx.out.2.1.2).mono ?_
  rintro r V2 ⟨v, rfl, hv2, hbx⟩
  obtain ⟨A3, c3, rfl, y1, y2, y3⟩ := hv2
  have hl80 : (h1 ++ List.replicate 80 mark10).length = h1.length + 80 := by simp
  have hv3 : DX V2 (.slice A3 (h1 ++ List.replicate 80 mark10).length c3) (h1 ++ List.replicate 80 mark10) := ⟨A3, c3, rfl, y1, y2, y3⟩
  have hv4 : DX V2 (.slice A3 (h1.length + 80) c3) (h1 ++ List.replicate 80 mark10) := by rw [← hl80]; exact hv3
  have hc3 : h1.length + 80 ≤ c3 := by rw [← hl80]; exact y1
  rw [hl80]
  have hv5 : DX V2 (.slice A3 h1.length c3) h1 := by
    have := hv4.take h1.length (by omega)
    rwa [List.take_left] at this
  clear y1 y2 y3 hv3 hl80 cA
  have H := Lib.hid (And.intro (Hx.out.1.trans (hbx.mono Hx.out.1.size)) (And.intro (Hx.out.2.1.next hbx) (And.intro (Hx.out.2.2.1.next hbx) (And.intro (Hx.out.2.2.2.1.below hbx Hx.out.2.2.2.1.lt) (And.intro (Hx.out.2.2.2.2.nxt hbx) (And.intro (hv4) (hv5)))))))
  clear Hx hbx hv4 hv5
  have hcap : (h1.length : Int) ≤ (c3 : Int) := by omega
  have hcap2 : (h1.length : Int) + 80 ≤ (c3 : Int) := by omega
  clear hc3
  obtain ⟨P, hP⟩ : ∃ P, addV (cutW x0) b1 e1 h1 d = P := ⟨_, rfl⟩
  have HP : Hid (addV (cutW x0) b1 e1 h1 d = P ∧ (∀ q ∈ P.hs, q.length = 32) ∧ P.hs.length ≤ 2000) := Lib.hid ⟨hP, by rw [← hP]; exact (addV_ok _ _ _ _ _ hM.out.1 hM.out.2.2 (by have := hK.out.1; omega)).1, by rw [← hP]; exact (addV_ok _ _ _ _ _ hM.out.1 hM.out.2.2 (by have := hK.out.1; omega)).2⟩
  clear hP
  have hmm : ∀ q ∈ h1 ++ h2, q.length = 32 := fun q hq => by
    rcases List.mem_append.1 hq with h | h
    · exact hM.out.1 q h
    · exact hM.out.2.1 q h
  have HMM := Lib.hid hmm
  clear hmm
  obtain ⟨R, hR⟩ : ∃ R, mergeV (cutW x0) b1 e1 h1 b2 e2 h2 = R := ⟨_, rfl⟩
  have HR : Hid (mergeV (cutW x0) b1 e1 h1 b2 e2 h2 = R ∧ (∀ q ∈ R.hs, q.length = 32) ∧ R.hs.length ≤ 2000) := Lib.hid ⟨hR, by rw [← hR]; exact (mergeV_ok _ _ _ _ _ _ _ HMM.out (by have := hK.out.1; omega) (by have := hK.out.2; omega)).1, by rw [← hR]; exact (mergeV_ok _ _ _ _ _ _ _ HMM.out (by have := hK.out.1; omega) (by have := hK.out.2; omega)).2⟩
  clear hR
  obtain ⟨U, hU⟩ : ∃ U, rootV (cutW x0) b1 e1 h1 = U := ⟨_, rfl⟩
  have HU : Hid (rootV (cutW x0) b1 e1 h1 = U ∧ U.1.length = 32) := Lib.hid ⟨hU, by rw [← hU]; exact rootV_ok _ _ _ _ hM.out.1⟩
  clear hU
  go_upto_region 5 with fail
  go_cut [15] (fun s wx => ∃ g15 : Nat, s = .pointer (some ⟨g15, 0, none⟩) ∧ Below w.heap.size w wx ∧ Rg wx w.heap.size b1 e1 A1 c1 h1 ∧ Rg wx (w.heap.size + 1) b2 e2 A2 c2 h2 ∧ Blk wx (w.heap.size + 2) 43 (dat d) ∧ Hsr wx wx.heap.size hv (cutW x0) ∧ DX wx (.slice A3 (h1.length + 80) c3) (h1 ++ List.replicate 80 mark10) ∧ DX wx (.slice A3 h1.length c3) h1 ∧ Rg wx g15 b1 e1 A3 c3 h1)
  case first =>
    refine wp_region_mixP (.plain 0 <| .plain 1 <| .plain 2 <| .plain 3 <| .plain 4 <| .plain 5 <| .plain 6 <| .plain 7 <| .plain 8 <| .plain 9 <| .only 10 <| .only 11 <| .done) (by kernel_rfl) (by kernel_rfl) (fun W1 hbx => ?_)
    have hA := H.out.2.1.1.below hbx H.out.2.1.1.lt
    have d0 : ∀ x, (plus W1 x).cell? ⟨w.heap.size, 0, none⟩ = some (.int .u64 (b1 : Int)) := fun x => (hA.plus x).cell 0
    have d1 : ∀ x, (plus W1 x).cell? ⟨w.heap.size, 1, none⟩ = some (.int .u64 (e1 : Int)) := fun x => (hA.plus x).cell 1
    have d2 : ∀ x, (plus W1 x).cell? ⟨w.heap.size, 2, none⟩ = some (.slice A1 h1.length c1) := fun x => (hA.plus x).cell 2
    iterate 10 (refine mix_plain rfl ?_; go_big_quiet_step (fail); refine wpQuiet_nil ?_)
    clear d0 d1 d2 hA
    refine mix_only_in rfl (fun K hK => ?_)
    go_wp2_with fail
    have hn1 := below_new1 W1 (Obj.cells (rgC 0 0 (.slice none 0 0)) 31)
    refine hK _ _ (below_plus hn1) ?_
    clear hK K
    refine mix_atC (fun W => Blk W W1.heap.size 31 (rgC 0 0 (.slice none 0 0)) ∧ Below W1.heap.size W1 W) ⟨Blk.new W1 _ _, hn1⟩ ?_
    clear hn1
    rintro W2 ⟨hR, hbz⟩
    refine mix_only_in rfl (fun K hK => ?_)
    refine wpList_storeAll rfl rfl _ (.tmp 15) (.tmp 54) rfl W1.heap.size rfl (rgC b1 e1 (.slice A3 h1.length c3)) rfl 31 _ hR (by kernel_rfl) rfl (rgC_one _ _ _ _ _) ?_
    intro W3 h03 hg3
    have hb3 := below_only hbz hg3 (Nat.le_refl _) hbz.size
    refine hK _ _ (below_plus hb3) ?_
    clear hK K
    refine mix_done ?_
    go_wp2_with fail
    go_meet
    have hb := hbx.trans (hb3.mono hbx.size)
    exact ⟨W1.heap.size, rfl, And.intro (H.out.1.trans (hb.mono H.out.1.size)) (And.intro (H.out.2.1.next hb) (And.intro (H.out.2.2.1.next hb) (And.intro (H.out.2.2.2.1.below hb H.out.2.2.2.1.lt) (And.intro (H.out.2.2.2.2.1.nxt hb) (And.intro (H.out.2.2.2.2.2.1.next hb) (And.intro (H.out.2.2.2.2.2.2.next hb) ((show Rg _ _ _ _ _ _ _ from And.intro h03 (H.out.2.2.2.2.2.2.next hb)))))))))⟩
  case rest =>
  obtain ⟨g15, rfl, hst⟩ := hcut
  clear H
  have H : Hid (Below w.heap.size w wc ∧ Rg wc w.heap.size b1 e1 A1 c1 h1 ∧ Rg wc (w.heap.size + 1) b2 e2 A2 c2 h2 ∧ Blk wc (w.heap.size + 2) 43 (dat d) ∧ Hsr wc wc.heap.size hv (cutW x0) ∧ DX wc (.slice A3 (h1.length + 80) c3) (h1 ++ List.replicate 80 mark10) ∧ DX wc (.slice A3 h1.length c3) h1 ∧ Rg wc g15 b1 e1 A3 c3 h1) := Lib.hid hst
  clear hst hcap hcap2
  go_upto_region 6 with fail
  go_cut [16, 17] (fun s t wx => ∃ (g16 : Nat) (A6 : Option Addr) (c6 : Nat), s = .pointer (some ⟨g16, 0, none⟩) ∧ t = .int .i64 (P.err : Int) ∧ Below w.heap.size w wx ∧ Rg wx w.heap.size b1 e1 A1 c1 h1 ∧ Rg wx (w.heap.size + 1) b2 e2 A2 c2 h2 ∧ Blk wx (w.heap.size + 2) 43 (dat d) ∧ Hsr wx wx.heap.size hv (cutW x0) ∧ DX wx (.slice A3 (h1.length + 80) c3) (h1 ++ List.replicate 80 mark10) ∧ DX wx (.slice A3 h1.length c3) h1 ∧ Rg wx g15 b1 e1 A3 c3 h1 ∧ Rg wx g16 P.b P.e A6 c6 P.hs)
  case first =>
    go_wp2_with (first
      | (refine wpList_load_row rfl _ (.tmp 15) rfl g15 rfl _ _ _ _ H.out.2.2.2.2.2.2.2.1 Tryd.underlying31 rfl (by kernel_rfl) ?_)
      | (refine wpList_load_row rfl _ (.tmp 9) rfl (w.heap.size + 2) rfl _ _ _ _ H.out.2.2.2.1 Tryd.underlying43 rfl (by rw [dat_size]; kernel_rfl) ?_))
    have hc := add_any x0 b1 e1 hN.out.1 hN.out.2.1 A3 c3 h1 hM.out.1 d hM.out.2.2 wc H.out.2.2.2.2.2.2.2.2 (hG.next H.out.1) (hT.next H.out.1)
    rw [HP.out.1] at hc
    refine hc.mono ?_
    rintro r W1 ⟨v, rfl, hown, hbx⟩
    obtain ⟨A6, c6, rfl⟩ := own_slice hown
    have Hn := Lib.hid (And.intro hbx hown)
    clear hc hbx hown
    simp only [rgC, nU]
    go_wp2_with fail
    go_meet
    have hn1 := below_new1 W1 (Obj.cells #[.int .u64 (P.b : Int), .int .u64 (P.e : Int), .slice A6 P.hs.length c6] 31)
    have hb := Hn.out.1.trans (hn1.mono Hn.out.1.size)
    exact ⟨W1.heap.size, A6, c6, rfl, rfl, And.intro (H.out.1.trans (hb.mono H.out.1.size)) (And.intro (H.out.2.1.next hb) (And.intro (H.out.2.2.1.next hb) (And.intro (H.out.2.2.2.1.below hb H.out.2.2.2.1.lt) (And.intro (H.out.2.2.2.2.1.nxt hb) (And.intro (H.out.2.2.2.2.2.1.next hb) (And.intro (H.out.2.2.2.2.2.2.1.next hb) (And.intro (H.out.2.2.2.2.2.2.2.next hb) (Rg.mk Hn.out.2))))))))⟩
  case rest =>
  obtain ⟨g16, A6, c6, rfl, rfl, hst⟩ := hcut
  clear H
  have H : Hid (Below w.heap.size w wc ∧ Rg wc w.heap.size b1 e1 A1 c1 h1 ∧ Rg wc (w.heap.size + 1) b2 e2 A2 c2 h2 ∧ Blk wc (w.heap.size + 2) 43 (dat d) ∧ Hsr wc wc.heap.size hv (cutW x0) ∧ DX wc (.slice A3 (h1.length + 80) c3) (h1 ++ List.replicate 80 mark10) ∧ DX wc (.slice A3 h1.length c3) h1 ∧ Rg wc g15 b1 e1 A3 c3 h1 ∧ Rg wc g16 P.b P.e A6 c6 P.hs) := Lib.hid hst
  clear hst
  go_upto_region 7 with fail
  go_cut [18, 19] (fun s t wx => ∃ (g18 : Nat) (A7 : Option Addr) (c7 : Nat), s = .pointer (some ⟨g18, 0, none⟩) ∧ t = .int .i64 (P.err : Int) ∧ Below w.heap.size w wx ∧ Rg wx w.heap.size b1 e1 A1 c1 h1 ∧ Rg wx (w.heap.size + 1) b2 e2 A2 c2 h2 ∧ Blk wx (w.heap.size + 2) 43 (dat d) ∧ Hsr wx wx.heap.size hv (cutW x0) ∧ DX wx (.slice A3 (h1.length + 80) c3) (h1 ++ List.replicate 80 mark10) ∧ DX wx (.slice A3 h1.length c3) h1 ∧ Rg wx g15 b1 e1 A3 c3 h1 ∧ Rg wx g16 P.b P.e A6 c6 P.hs ∧ RgF wx g18 P.b P.e A7 c7 P.hs)
  case first =>
    refine wp_region_mixP (.plain 0 <| .plain 1 <| .plain 3 <| .two 2 8 (.two 4 8 (.plain 5 <| .plain 6 <| .plain 7 <| .only 8 <| .only 9 <| .plain 10 <| .done) (.only 4 <| .plain 5 <| .plain 6 <| .plain 7 <| .only 9 <| .plain 10 <| .done)) (.only 2 <| .only 4 <| .plain 5 <| .plain 6 <| .plain 7 <| .only 9 <| .plain 10 <| .done)) (by kernel_rfl) (by kernel_rfl) (fun W1 hb1 => ?_)
    have hA := H.out.2.1.1.below hb1 H.out.2.1.1.lt
    have hB := H.out.2.2.1.1.below hb1 H.out.2.2.1.1.lt
    have hD := H.out.2.2.2.1.below hb1 H.out.2.2.2.1.lt
    iterate 3 (refine mix_plain rfl ?_; (first
      | (refine wpQuiet_load rfl _ (.tmp 7) rfl w.heap.size rfl _ _ _ _ (fun _ ⟨e, he⟩ => by rw [he]; exact hA.plus e) Tryd.underlying31 rfl (by kernel_rfl) ?_; simp only [Act.put, List.setIfInBounds_toArray, List.set_cons_zero, List.set_cons_succ])
      | (refine wpQuiet_load rfl _ (.tmp 8) rfl (w.heap.size + 1) rfl _ _ _ _ (fun _ ⟨e, he⟩ => by rw [he]; exact hB.plus e) Tryd.underlying31 rfl (by kernel_rfl) ?_; simp only [Act.put, List.setIfInBounds_toArray, List.set_cons_zero, List.set_cons_succ])
      | (refine wpQuiet_load rfl _ (.tmp 9) rfl (w.heap.size + 2) rfl _ _ _ _ (fun _ ⟨e, he⟩ => by rw [he]; exact hD.plus e) Tryd.underlying43 rfl (by rw [dat_size]; kernel_rfl) ?_; simp only [Act.put, List.setIfInBounds_toArray, List.set_cons_zero, List.set_cons_succ])
      | go_big_quiet_step (fail)); refine wpQuiet_nil ?_)
    clear hA hB hD
    have hbw := Below.refl W1.heap.size W1
    refine mix_two_in rfl rfl (fun K hK => ?_) (fun K hK => ?_)
    · go_wp2_with fail
      refine (plain_any b1 e1 A1 h1.length c1 W1).mono ?_
      rintro r W2 ⟨rfl, hbx⟩
      go_wp2_with fail
      refine hK _ _ (below_plus (hbw.trans (hbx.mono hbw.size))) ?_
      clear hK K
      replace hbw := hbw.trans (hbx.mono hbw.size)
      clear hbx
      refine mix_two_in rfl rfl (fun K hK => ?_) (fun K hK => ?_)
      · go_wp2_with fail
        have hc := radd_any hv (cutW x0) b1 e1 hN.out.1 hN.out.2.1 A1 c1 h1 hM.out.1 d hM.out.2.2 W2 (H.out.2.1.2.next (hb1.trans (hbw.mono hb1.size))) (H.out.2.2.2.2.1.nxt (hb1.trans (hbw.mono hb1.size)))
        rw [HP.out.1] at hc
        refine hc.mono ?_
        rintro r W3 ⟨v, rfl, hown, hbx⟩
        clear hc
        obtain ⟨A7, c7, rfl⟩ := own_slice hown
        go_wp2_with fail
        refine hK _ _ (below_plus (hbw.trans (hbx.mono hbw.size))) ?_
        clear hK K
        replace hbw := hbw.trans (hbx.mono hbw.size)
        clear hbx
        iterate 3 (refine mix_plain rfl ?_; go_big_quiet_step (fail); refine wpQuiet_nil ?_)
        refine mix_only_in rfl (fun K hK => ?_)
        go_wp2_with fail
        have hne : ∀ q, (Value.slice A7 P.hs.length c7).ownBlock = some q → (some W3.heap.size : Option Nat) ≠ some q := fun q hq e => by have := own_lt hown q hq; injection e; omega
        have hbw3 := hbw.trans ((below_new1 W3 (Obj.cells (rgC 0 0 (.slice none 0 0)) 35)).mono hbw.size)
        refine hK _ _ (below_plus hbw3) ?_
        clear hK K
        refine mix_atC (fun W => Blk W W3.heap.size 35 (rgC 0 0 (.slice none 0 0)) ∧ W1.heap.size ≤ W3.heap.size ∧ Below W1.heap.size W1 W ∧ W.ownsRow 0 43 32 (.slice A7 P.hs.length c7) P.hs.length (dcells P.hs)) ⟨Blk.new W3 _ _, hbw.size, hbw3, own_base (own_below hown (below_new1 W3 _)) (Nat.zero_le _)⟩ ?_
        clear hbw hbw3 hown
        obtain ⟨gD, hgD⟩ : ∃ g, W3.heap.size = g := ⟨_, rfl⟩
        rw [hgD] at hne ⊢
        rintro W4 ⟨hD, hGD, hbw, hown⟩
        clear hgD
        refine mix_only_in rfl (fun K hK => ?_)
        refine wpList_storeAll rfl rfl _ (.tmp 18) (.tmp 68) rfl gD rfl (rgC P.b P.e (.slice A7 P.hs.length c7)) rfl 35 _ hD (by kernel_rfl) rfl (rgC_one _ _ _ _ _) ?_
        intro W99 h09 hg9
        have hb9 := below_only hbw hg9 hGD hbw.size
        have hXX := DX.of_own (own_grown hown hg9 hne)
        refine hK _ _ (below_plus hb9) ?_
        clear hK K
        iterate 1 (refine mix_plain rfl ?_; go_big_quiet_step (fail); refine wpQuiet_nil ?_)
        refine mix_done ?_
        go_wp2_with fail
        go_meet
        have hb := hb1.trans (hb9.mono hb1.size)
        exact ⟨gD, A7, c7, rfl, rfl, And.intro (H.out.1.trans (hb.mono H.out.1.size)) (And.intro (H.out.2.1.next hb) (And.intro (H.out.2.2.1.next hb) (And.intro (H.out.2.2.2.1.below hb H.out.2.2.2.1.lt) (And.intro (H.out.2.2.2.2.1.nxt hb) (And.intro (H.out.2.2.2.2.2.1.next hb) (And.intro (H.out.2.2.2.2.2.2.1.next hb) (And.intro (H.out.2.2.2.2.2.2.2.1.next hb) (And.intro (H.out.2.2.2.2.2.2.2.2.next hb) ((show RgF _ _ _ _ _ _ _ from And.intro h09 hXX))))))))))⟩
      · go_wp2_with fail
        have hbw3 := hbw.trans ((below_new1 W2 (Obj.cells (rgC 0 0 (.slice none 0 0)) 35)).mono hbw.size)
        refine hK _ _ (below_plus hbw3) ?_
        clear hK K
        refine mix_atC (fun W => Blk W W2.heap.size 35 (rgC 0 0 (.slice none 0 0)) ∧ W1.heap.size ≤ W2.heap.size ∧ Below W1.heap.size W1 W) ⟨Blk.new W2 _ _, hbw.size, hbw3⟩ ?_
        clear hbw hbw3
        obtain ⟨gD, hgD⟩ : ∃ g, W2.heap.size = g := ⟨_, rfl⟩
        rw [hgD]
        rintro W5 ⟨hD, hGD, hbw⟩
        clear hgD
        refine mix_only_in rfl (fun K hK => ?_)
        go_wp2_with fail
        have hc := radd_any hv (cutW x0) b1 e1 hN.out.1 hN.out.2.1 A1 c1 h1 hM.out.1 d hM.out.2.2 W5 (H.out.2.1.2.next (hb1.trans (hbw.mono hb1.size))) (H.out.2.2.2.2.1.nxt (hb1.trans (hbw.mono hb1.size)))
        rw [HP.out.1] at hc
        refine hc.mono ?_
        rintro r W6 ⟨v, rfl, hown, hbx⟩
        clear hc
        obtain ⟨A7, c7, rfl⟩ := own_slice hown
        have hne : ∀ q, (Value.slice A7 P.hs.length c7).ownBlock = some q → (some gD : Option Nat) ≠ some q := fun q hq e => by have := own_ge hown q hq; have := hD.lt; injection e; omega
        go_wp2_with fail
        refine hK _ _ (below_plus (hbw.trans (hbx.mono hbw.size))) ?_
        clear hK K
        replace hbw := hbw.trans (hbx.mono hbw.size)
        replace hD := hD.below hbx hD.lt
        clear hbx
        iterate 3 (refine mix_plain rfl ?_; go_big_quiet_step (fail); refine wpQuiet_nil ?_)
        refine mix_only_in rfl (fun K hK => ?_)
        refine wpList_storeAll rfl rfl _ (.tmp 18) (.tmp 68) rfl gD rfl (rgC P.b P.e (.slice A7 P.hs.length c7)) rfl 35 _ hD (by kernel_rfl) rfl (rgC_one _ _ _ _ _) ?_
        intro W99 h09 hg9
        have hb9 := below_only hbw hg9 hGD hbw.size
        have hXX := DX.of_own (own_grown hown hg9 hne)
        refine hK _ _ (below_plus hb9) ?_
        clear hK K
        iterate 1 (refine mix_plain rfl ?_; go_big_quiet_step (fail); refine wpQuiet_nil ?_)
        refine mix_done ?_
        go_wp2_with fail
        go_meet
        have hb := hb1.trans (hb9.mono hb1.size)
        exact ⟨gD, A7, c7, rfl, rfl, And.intro (H.out.1.trans (hb.mono H.out.1.size)) (And.intro (H.out.2.1.next hb) (And.intro (H.out.2.2.1.next hb) (And.intro (H.out.2.2.2.1.below hb H.out.2.2.2.1.lt) (And.intro (H.out.2.2.2.2.1.nxt hb) (And.intro (H.out.2.2.2.2.2.1.next hb) (And.intro (H.out.2.2.2.2.2.2.1.next hb) (And.intro (H.out.2.2.2.2.2.2.2.1.next hb) (And.intro (H.out.2.2.2.2.2.2.2.2.next hb) ((show RgF _ _ _ _ _ _ _ from And.intro h09 hXX))))))))))⟩
    · go_wp2_with fail
      have hbw3 := hbw.trans ((below_new1 W1 (Obj.cells (rgC 0 0 (.slice none 0 0)) 35)).mono hbw.size)
      refine hK _ _ (below_plus hbw3) ?_
      clear hK K
      refine mix_atC (fun W => Blk W W1.heap.size 35 (rgC 0 0 (.slice none 0 0)) ∧ W1.heap.size ≤ W1.heap.size ∧ Below W1.heap.size W1 W) ⟨Blk.new W1 _ _, hbw.size, hbw3⟩ ?_
      clear hbw hbw3
      obtain ⟨gD, hgD⟩ : ∃ g, W1.heap.size = g := ⟨_, rfl⟩
      rw [hgD]
      rintro W7 ⟨hD, hGD, hbw⟩
      rw [← hgD] at hbw
      replace hGD : W1.heap.size ≤ gD := Nat.le_of_eq hgD
      clear hgD
      refine mix_only_in rfl (fun K hK => ?_)
      go_wp2_with fail
      refine (plain_any b1 e1 A1 h1.length c1 W7).mono ?_
      rintro r W8 ⟨rfl, hbx⟩
      go_wp2_with fail
      refine hK _ _ (below_plus (hbw.trans (hbx.mono hbw.size))) ?_
      clear hK K
      replace hbw := hbw.trans (hbx.mono hbw.size)
      replace hD := hD.below hbx hD.lt
      clear hbx
      refine mix_only_in rfl (fun K hK => ?_)
      go_wp2_with fail
      have hc := radd_any hv (cutW x0) b1 e1 hN.out.1 hN.out.2.1 A1 c1 h1 hM.out.1 d hM.out.2.2 W8 (H.out.2.1.2.next (hb1.trans (hbw.mono hb1.size))) (H.out.2.2.2.2.1.nxt (hb1.trans (hbw.mono hb1.size)))
      rw [HP.out.1] at hc
      refine hc.mono ?_
      rintro r W9 ⟨v, rfl, hown, hbx⟩
      clear hc
      obtain ⟨A7, c7, rfl⟩ := own_slice hown
      have hne : ∀ q, (Value.slice A7 P.hs.length c7).ownBlock = some q → (some gD : Option Nat) ≠ some q := fun q hq e => by have := own_ge hown q hq; have := hD.lt; injection e; omega
      go_wp2_with fail
      refine hK _ _ (below_plus (hbw.trans (hbx.mono hbw.size))) ?_
      clear hK K
      replace hbw := hbw.trans (hbx.mono hbw.size)
      replace hD := hD.below hbx hD.lt
      clear hbx
      iterate 3 (refine mix_plain rfl ?_; go_big_quiet_step (fail); refine wpQuiet_nil ?_)
      refine mix_only_in rfl (fun K hK => ?_)
      refine wpList_storeAll rfl rfl _ (.tmp 18) (.tmp 68) rfl gD rfl (rgC P.b P.e (.slice A7 P.hs.length c7)) rfl 35 _ hD (by kernel_rfl) rfl (rgC_one _ _ _ _ _) ?_
      intro W99 h09 hg9
      have hb9 := below_only hbw hg9 hGD hbw.size
      have hXX := DX.of_own (own_grown hown hg9 hne)
      refine hK _ _ (below_plus hb9) ?_
      clear hK K
      iterate 1 (refine mix_plain rfl ?_; go_big_quiet_step (fail); refine wpQuiet_nil ?_)
      refine mix_done ?_
      go_wp2_with fail
      go_meet
      have hb := hb1.trans (hb9.mono hb1.size)
      exact ⟨gD, A7, c7, rfl, rfl, And.intro (H.out.1.trans (hb.mono H.out.1.size)) (And.intro (H.out.2.1.next hb) (And.intro (H.out.2.2.1.next hb) (And.intro (H.out.2.2.2.1.below hb H.out.2.2.2.1.lt) (And.intro (H.out.2.2.2.2.1.nxt hb) (And.intro (H.out.2.2.2.2.2.1.next hb) (And.intro (H.out.2.2.2.2.2.2.1.next hb) (And.intro (H.out.2.2.2.2.2.2.2.1.next hb) (And.intro (H.out.2.2.2.2.2.2.2.2.next hb) ((show RgF _ _ _ _ _ _ _ from And.intro h09 hXX))))))))))⟩
  case rest =>
  obtain ⟨g18, A7, c7, rfl, rfl, hst⟩ := hcut
  clear H
  have H : Hid (Below w.heap.size w wc ∧ Rg wc w.heap.size b1 e1 A1 c1 h1 ∧ Rg wc (w.heap.size + 1) b2 e2 A2 c2 h2 ∧ Blk wc (w.heap.size + 2) 43 (dat d) ∧ Hsr wc wc.heap.size hv (cutW x0) ∧ DX wc (.slice A3 (h1.length + 80) c3) (h1 ++ List.replicate 80 mark10) ∧ DX wc (.slice A3 h1.length c3) h1 ∧ Rg wc g15 b1 e1 A3 c3 h1 ∧ Rg wc g16 P.b P.e A6 c6 P.hs ∧ RgF wc g18 P.b P.e A7 c7 P.hs) := Lib.hid hst
  clear hst
  go_upto_region 8 with fail
  go_cut [20, 21] (fun s t wx => ∃ (g20 : Nat) (A8 : Option Addr) (c8 : Nat), s = .pointer (some ⟨g20, 0, none⟩) ∧ t = .int .i64 (R.err : Int) ∧ Below w.heap.size w wx ∧ Rg wx w.heap.size b1 e1 A1 c1 h1 ∧ Rg wx (w.heap.size + 1) b2 e2 A2 c2 h2 ∧ Blk wx (w.heap.size + 2) 43 (dat d) ∧ Hsr wx wx.heap.size hv (cutW x0) ∧ DX wx (.slice A3 (h1.length + 80) c3) (h1 ++ List.replicate 80 mark10) ∧ DX wx (.slice A3 h1.length c3) h1 ∧ Rg wx g15 b1 e1 A3 c3 h1 ∧ Rg wx g16 P.b P.e A6 c6 P.hs ∧ RgF wx g18 P.b P.e A7 c7 P.hs ∧ Rg wx g20 R.b R.e A8 c8 R.hs)
  case first =>
    go_wp2_with (first
      | (refine wpList_load_row rfl _ (.tmp 15) rfl g15 rfl _ _ _ _ H.out.2.2.2.2.2.2.2.1.1 Tryd.underlying31 rfl (by kernel_rfl) ?_)
      | (refine wpList_load_row rfl _ (.tmp 8) rfl (w.heap.size + 1) rfl _ _ _ _ H.out.2.2.1.1 Tryd.underlying31 rfl (by kernel_rfl) ?_))
    have hc := merge_any x0 b1 e1 b2 e2 hN.out.1 hN.out.2.1 hN.out.2.2.1 hN.out.2.2.2.1 A3 c3 A2 c2 h1 h2 HMM.out wc H.out.2.2.2.2.2.2.2.1.2 H.out.2.2.1.2 (hG.next H.out.1) (hT.next H.out.1)
    rw [HR.out.1] at hc
    refine hc.mono ?_
    rintro r W1 ⟨v, rfl, hown, hbx⟩
    obtain ⟨A8, c8, rfl⟩ := own_slice hown
    have Hn := Lib.hid (And.intro hbx hown)
    clear hc hbx hown
    simp only [rgC, nU]
    go_wp2_with fail
    go_meet
    have hn1 := below_new1 W1 (Obj.cells #[.int .u64 (R.b : Int), .int .u64 (R.e : Int), .slice A8 R.hs.length c8] 31)
    have hb := Hn.out.1.trans (hn1.mono Hn.out.1.size)
    exact ⟨W1.heap.size, A8, c8, rfl, rfl, And.intro (H.out.1.trans (hb.mono H.out.1.size)) (And.intro (H.out.2.1.next hb) (And.intro (H.out.2.2.1.next hb) (And.intro (H.out.2.2.2.1.below hb H.out.2.2.2.1.lt) (And.intro (H.out.2.2.2.2.1.nxt hb) (And.intro (H.out.2.2.2.2.2.1.next hb) (And.intro (H.out.2.2.2.2.2.2.1.next hb) (And.intro (H.out.2.2.2.2.2.2.2.1.next hb) (And.intro (H.out.2.2.2.2.2.2.2.2.1.next hb) (And.intro (H.out.2.2.2.2.2.2.2.2.2.next hb) (Rg.mk Hn.out.2))))))))))⟩
  case rest =>
  obtain ⟨g20, A8, c8, rfl, rfl, hst⟩ := hcut
  clear H
  have H : Hid (Below w.heap.size w wc ∧ Rg wc w.heap.size b1 e1 A1 c1 h1 ∧ Rg wc (w.heap.size + 1) b2 e2 A2 c2 h2 ∧ Blk wc (w.heap.size + 2) 43 (dat d) ∧ Hsr wc wc.heap.size hv (cutW x0) ∧ DX wc (.slice A3 (h1.length + 80) c3) (h1 ++ List.replicate 80 mark10) ∧ DX wc (.slice A3 h1.length c3) h1 ∧ Rg wc g15 b1 e1 A3 c3 h1 ∧ Rg wc g16 P.b P.e A6 c6 P.hs ∧ RgF wc g18 P.b P.e A7 c7 P.hs ∧ Rg wc g20 R.b R.e A8 c8 R.hs) := Lib.hid hst
  clear hst
  go_upto_region 9 with fail
  go_cut [22, 23] (fun s t wx => ∃ (g22 : Nat) (A9 : Option Addr) (c9 : Nat), s = .pointer (some ⟨g22, 0, none⟩) ∧ t = .int .i64 (R.err : Int) ∧ Below w.heap.size w wx ∧ Rg wx w.heap.size b1 e1 A1 c1 h1 ∧ Rg wx (w.heap.size + 1) b2 e2 A2 c2 h2 ∧ Blk wx (w.heap.size + 2) 43 (dat d) ∧ Hsr wx wx.heap.size hv (cutW x0) ∧ DX wx (.slice A3 (h1.length + 80) c3) (h1 ++ List.replicate 80 mark10) ∧ DX wx (.slice A3 h1.length c3) h1 ∧ Rg wx g15 b1 e1 A3 c3 h1 ∧ Rg wx g16 P.b P.e A6 c6 P.hs ∧ RgF wx g18 P.b P.e A7 c7 P.hs ∧ Rg wx g20 R.b R.e A8 c8 R.hs ∧ RgF wx g22 R.b R.e A9 c9 R.hs)
  case first =>
    refine wp_region_mixP (.plain 0 <| .plain 1 <| .plain 3 <| .two 2 9 (.two 4 9 (.two 5 9 (.plain 6 <| .plain 7 <| .plain 8 <| .only 9 <| .only 10 <| .plain 11 <| .done) (.only 5 <| .plain 6 <| .plain 7 <| .plain 8 <| .only 10 <| .plain 11 <| .done)) (.only 4 <| .only 5 <| .plain 6 <| .plain 7 <| .plain 8 <| .only 10 <| .plain 11 <| .done)) (.only 2 <| .only 4 <| .only 5 <| .plain 6 <| .plain 7 <| .plain 8 <| .only 10 <| .plain 11 <| .done)) (by kernel_rfl) (by kernel_rfl) (fun W1 hb1 => ?_)
    have hA := H.out.2.1.1.below hb1 H.out.2.1.1.lt
    have hB := H.out.2.2.1.1.below hb1 H.out.2.2.1.1.lt
    have hD := H.out.2.2.2.1.below hb1 H.out.2.2.2.1.lt
    iterate 3 (refine mix_plain rfl ?_; (first
      | (refine wpQuiet_load rfl _ (.tmp 7) rfl w.heap.size rfl _ _ _ _ (fun _ ⟨e, he⟩ => by rw [he]; exact hA.plus e) Tryd.underlying31 rfl (by kernel_rfl) ?_; simp only [Act.put, List.setIfInBounds_toArray, List.set_cons_zero, List.set_cons_succ])
      | (refine wpQuiet_load rfl _ (.tmp 8) rfl (w.heap.size + 1) rfl _ _ _ _ (fun _ ⟨e, he⟩ => by rw [he]; exact hB.plus e) Tryd.underlying31 rfl (by kernel_rfl) ?_; simp only [Act.put, List.setIfInBounds_toArray, List.set_cons_zero, List.set_cons_succ])
      | (refine wpQuiet_load rfl _ (.tmp 9) rfl (w.heap.size + 2) rfl _ _ _ _ (fun _ ⟨e, he⟩ => by rw [he]; exact hD.plus e) Tryd.underlying43 rfl (by rw [dat_size]; kernel_rfl) ?_; simp only [Act.put, List.setIfInBounds_toArray, List.set_cons_zero, List.set_cons_succ])
      | go_big_quiet_step (fail)); refine wpQuiet_nil ?_)
    clear hA hB hD
    have hbw := Below.refl W1.heap.size W1
    refine mix_two_in rfl rfl (fun K hK => ?_) (fun K hK => ?_)
    · go_wp2_with fail
      refine (plain_any b1 e1 A1 h1.length c1 W1).mono ?_
      rintro r W2 ⟨rfl, hbx⟩
      go_wp2_with fail
      refine hK _ _ (below_plus (hbw.trans (hbx.mono hbw.size))) ?_
      clear hK K
      replace hbw := hbw.trans (hbx.mono hbw.size)
      clear hbx
      refine mix_two_in rfl rfl (fun K hK => ?_) (fun K hK => ?_)
      · go_wp2_with fail
        refine (plain_any b2 e2 A2 h2.length c2 W2).mono ?_
        rintro r W3 ⟨rfl, hbx⟩
        go_wp2_with fail
        refine hK _ _ (below_plus (hbw.trans (hbx.mono hbw.size))) ?_
        clear hK K
        replace hbw := hbw.trans (hbx.mono hbw.size)
        clear hbx
        refine mix_two_in rfl rfl (fun K hK => ?_) (fun K hK => ?_)
        · go_wp2_with fail
          have hc := rmerge_any hv (cutW x0) b1 e1 b2 e2 hN.out.1 hN.out.2.1 hN.out.2.2.1 hN.out.2.2.2.1 A1 c1 A2 c2 h1 h2 HMM.out W3 (H.out.2.1.2.next (hb1.trans (hbw.mono hb1.size))) (H.out.2.2.1.2.next (hb1.trans (hbw.mono hb1.size))) (H.out.2.2.2.2.1.nxt (hb1.trans (hbw.mono hb1.size)))
          rw [HR.out.1] at hc
          refine hc.mono ?_
          rintro r W4 ⟨v, rfl, hown, hbx⟩
          clear hc
          obtain ⟨A9, c9, rfl⟩ := own_slice hown
          go_wp2_with fail
          refine hK _ _ (below_plus (hbw.trans (hbx.mono hbw.size))) ?_
          clear hK K
          replace hbw := hbw.trans (hbx.mono hbw.size)
          clear hbx
          iterate 3 (refine mix_plain rfl ?_; go_big_quiet_step (fail); refine wpQuiet_nil ?_)
          refine mix_only_in rfl (fun K hK => ?_)
          go_wp2_with fail
          have hne : ∀ q, (Value.slice A9 R.hs.length c9).ownBlock = some q → (some W4.heap.size : Option Nat) ≠ some q := fun q hq e => by have := own_lt hown q hq; injection e; omega
          have hbw3 := hbw.trans ((below_new1 W4 (Obj.cells (rgC 0 0 (.slice none 0 0)) 35)).mono hbw.size)
          refine hK _ _ (below_plus hbw3) ?_
          clear hK K
          refine mix_atC (fun W => Blk W W4.heap.size 35 (rgC 0 0 (.slice none 0 0)) ∧ W1.heap.size ≤ W4.heap.size ∧ Below W1.heap.size W1 W ∧ W.ownsRow 0 43 32 (.slice A9 R.hs.length c9) R.hs.length (dcells R.hs)) ⟨Blk.new W4 _ _, hbw.size, hbw3, own_base (own_below hown (below_new1 W4 _)) (Nat.zero_le _)⟩ ?_
          clear hbw hbw3 hown
          obtain ⟨gD, hgD⟩ : ∃ g, W4.heap.size = g := ⟨_, rfl⟩
          rw [hgD] at hne ⊢
          rintro W5 ⟨hD, hGD, hbw, hown⟩
          clear hgD
          refine mix_only_in rfl (fun K hK => ?_)
          refine wpList_storeAll rfl rfl _ (.tmp 22) (.tmp 84) rfl gD rfl (rgC R.b R.e (.slice A9 R.hs.length c9)) rfl 35 _ hD (by kernel_rfl) rfl (rgC_one _ _ _ _ _) ?_
          intro W99 h09 hg9
          have hb9 := below_only hbw hg9 hGD hbw.size
          have hXX := DX.of_own (own_grown hown hg9 hne)
          refine hK _ _ (below_plus hb9) ?_
          clear hK K
          iterate 1 (refine mix_plain rfl ?_; go_big_quiet_step (fail); refine wpQuiet_nil ?_)
          refine mix_done ?_
          go_wp2_with fail
          go_meet
          have hb := hb1.trans (hb9.mono hb1.size)
          exact ⟨gD, A9, c9, rfl, rfl, And.intro (H.out.1.trans (hb.mono H.out.1.size)) (And.intro (H.out.2.1.next hb) (And.intro (H.out.2.2.1.next hb) (And.intro (H.out.2.2.2.1.below hb H.out.2.2.2.1.lt) (And.intro (H.out.2.2.2.2.1.nxt hb) (And.intro (H.out.2.2.2.2.2.1.next hb) (And.intro (H.out.2.2.2.2.2.2.1.next hb) (And.intro (H.out.2.2.2.2.2.2.2.1.next hb) (And.intro (H.out.2.2.2.2.2.2.2.2.1.next hb) (And.intro (H.out.2.2.2.2.2.2.2.2.2.1.next hb) (And.intro (H.out.2.2.2.2.2.2.2.2.2.2.next hb) ((show RgF _ _ _ _ _ _ _ from And.intro h09 hXX))))))))))))⟩
        · go_wp2_with fail
          have hbw3 := hbw.trans ((below_new1 W3 (Obj.cells (rgC 0 0 (.slice none 0 0)) 35)).mono hbw.size)
          refine hK _ _ (below_plus hbw3) ?_
          clear hK K
          refine mix_atC (fun W => Blk W W3.heap.size 35 (rgC 0 0 (.slice none 0 0)) ∧ W1.heap.size ≤ W3.heap.size ∧ Below W1.heap.size W1 W) ⟨Blk.new W3 _ _, hbw.size, hbw3⟩ ?_
          clear hbw hbw3
          obtain ⟨gD, hgD⟩ : ∃ g, W3.heap.size = g := ⟨_, rfl⟩
          rw [hgD]
          rintro W6 ⟨hD, hGD, hbw⟩
          clear hgD
          refine mix_only_in rfl (fun K hK => ?_)
          go_wp2_with fail
          have hc := rmerge_any hv (cutW x0) b1 e1 b2 e2 hN.out.1 hN.out.2.1 hN.out.2.2.1 hN.out.2.2.2.1 A1 c1 A2 c2 h1 h2 HMM.out W6 (H.out.2.1.2.next (hb1.trans (hbw.mono hb1.size))) (H.out.2.2.1.2.next (hb1.trans (hbw.mono hb1.size))) (H.out.2.2.2.2.1.nxt (hb1.trans (hbw.mono hb1.size)))
          rw [HR.out.1] at hc
          refine hc.mono ?_
          rintro r W7 ⟨v, rfl, hown, hbx⟩
          clear hc
          obtain ⟨A9, c9, rfl⟩ := own_slice hown
          have hne : ∀ q, (Value.slice A9 R.hs.length c9).ownBlock = some q → (some gD : Option Nat) ≠ some q := fun q hq e => by have := own_ge hown q hq; have := hD.lt; injection e; omega
          go_wp2_with fail
          refine hK _ _ (below_plus (hbw.trans (hbx.mono hbw.size))) ?_
          clear hK K
          replace hbw := hbw.trans (hbx.mono hbw.size)
          replace hD := hD.below hbx hD.lt
          clear hbx
          iterate 3 (refine mix_plain rfl ?_; go_big_quiet_step (fail); refine wpQuiet_nil ?_)
          refine mix_only_in rfl (fun K hK => ?_)
          refine wpList_storeAll rfl rfl _ (.tmp 22) (.tmp 84) rfl gD rfl (rgC R.b R.e (.slice A9 R.hs.length c9)) rfl 35 _ hD (by kernel_rfl) rfl (rgC_one _ _ _ _ _) ?_
          intro W99 h09 hg9
          have hb9 := below_only hbw hg9 hGD hbw.size
          have hXX := DX.of_own (own_grown hown hg9 hne)
          refine hK _ _ (below_plus hb9) ?_
          clear hK K
          iterate 1 (refine mix_plain rfl ?_; go_big_quiet_step (fail); refine wpQuiet_nil ?_)
          refine mix_done ?_
          go_wp2_with fail
          go_meet
          have hb := hb1.trans (hb9.mono hb1.size)
          exact ⟨gD, A9, c9, rfl, rfl, And.intro (H.out.1.trans (hb.mono H.out.1.size)) (And.intro (H.out.2.1.next hb) (And.intro (H.out.2.2.1.next hb) (And.intro (H.out.2.2.2.1.below hb H.out.2.2.2.1.lt) (And.intro (H.out.2.2.2.2.1.nxt hb) (And.intro (H.out.2.2.2.2.2.1.next hb) (And.intro (H.out.2.2.2.2.2.2.1.next hb) (And.intro (H.out.2.2.2.2.2.2.2.1.next hb) (And.intro (H.out.2.2.2.2.2.2.2.2.1.next hb) (And.intro (H.out.2.2.2.2.2.2.2.2.2.1.next hb) (And.intro (H.out.2.2.2.2.2.2.2.2.2.2.next hb) ((show RgF _ _ _ _ _ _ _ from And.intro h09 hXX))))))))))))⟩
      · go_wp2_with fail
        have hbw3 := hbw.trans ((below_new1 W2 (Obj.cells (rgC 0 0 (.slice none 0 0)) 35)).mono hbw.size)
        refine hK _ _ (below_plus hbw3) ?_
        clear hK K
        refine mix_atC (fun W => Blk W W2.heap.size 35 (rgC 0 0 (.slice none 0 0)) ∧ W1.heap.size ≤ W2.heap.size ∧ Below W1.heap.size W1 W) ⟨Blk.new W2 _ _, hbw.size, hbw3⟩ ?_
        clear hbw hbw3
        obtain ⟨gD, hgD⟩ : ∃ g, W2.heap.size = g := ⟨_, rfl⟩
        rw [hgD]
        rintro W8 ⟨hD, hGD, hbw⟩
        clear hgD
        refine mix_only_in rfl (fun K hK => ?_)
        go_wp2_with fail
        refine (plain_any b2 e2 A2 h2.length c2 W8).mono ?_
        rintro r W9 ⟨rfl, hbx⟩
        go_wp2_with fail
        refine hK _ _ (below_plus (hbw.trans (hbx.mono hbw.size))) ?_
        clear hK K
        replace hbw := hbw.trans (hbx.mono hbw.size)
        replace hD := hD.below hbx hD.lt
        clear hbx
        refine mix_only_in rfl (fun K hK => ?_)
        go_wp2_with fail
        have hc := rmerge_any hv (cutW x0) b1 e1 b2 e2 hN.out.1 hN.out.2.1 hN.out.2.2.1 hN.out.2.2.2.1 A1 c1 A2 c2 h1 h2 HMM.out W9 (H.out.2.1.2.next (hb1.trans (hbw.mono hb1.size))) (H.out.2.2.1.2.next (hb1.trans (hbw.mono hb1.size))) (H.out.2.2.2.2.1.nxt (hb1.trans (hbw.mono hb1.size)))
        rw [HR.out.1] at hc
        refine hc.mono ?_
        rintro r W10 ⟨v, rfl, hown, hbx⟩
        clear hc
        obtain ⟨A9, c9, rfl⟩ := own_slice hown
        have hne : ∀ q, (Value.slice A9 R.hs.length c9).ownBlock = some q → (some gD : Option Nat) ≠ some q := fun q hq e => by have := own_ge hown q hq; have := hD.lt; injection e; omega
        go_wp2_with fail
        refine hK _ _ (below_plus (hbw.trans (hbx.mono hbw.size))) ?_
        clear hK K
        replace hbw := hbw.trans (hbx.mono hbw.size)
        replace hD := hD.below hbx hD.lt
        clear hbx
        iterate 3 (refine mix_plain rfl ?_; go_big_quiet_step (fail); refine wpQuiet_nil ?_)
        refine mix_only_in rfl (fun K hK => ?_)
        refine wpList_storeAll rfl rfl _ (.tmp 22) (.tmp 84) rfl gD rfl (rgC R.b R.e (.slice A9 R.hs.length c9)) rfl 35 _ hD (by kernel_rfl) rfl (rgC_one _ _ _ _ _) ?_
        intro W99 h09 hg9
        have hb9 := below_only hbw hg9 hGD hbw.size
        have hXX := DX.of_own (own_grown hown hg9 hne)
        refine hK _ _ (below_plus hb9) ?_
        clear hK K
        iterate 1 (refine mix_plain rfl ?_; go_big_quiet_step (fail); refine wpQuiet_nil ?_)
        refine mix_done ?_
        go_wp2_with fail
        go_meet
        have hb := hb1.trans (hb9.mono hb1.size)
        exact ⟨gD, A9, c9, rfl, rfl, And.intro (H.out.1.trans (hb.mono H.out.1.size)) (And.intro (H.out.2.1.next hb) (And.intro (H.out.2.2.1.next hb) (And.intro (H.out.2.2.2.1.below hb H.out.2.2.2.1.lt) (And.intro (H.out.2.2.2.2.1.nxt hb) (And.intro (H.out.2.2.2.2.2.1.next hb) (And.intro (H.out.2.2.2.2.2.2.1.next hb) (And.intro (H.out.2.2.2.2.2.2.2.1.next hb) (And.intro (H.out.2.2.2.2.2.2.2.2.1.next hb) (And.intro (H.out.2.2.2.2.2.2.2.2.2.1.next hb) (And.intro (H.out.2.2.2.2.2.2.2.2.2.2.next hb) ((show RgF _ _ _ _ _ _ _ from And.intro h09 hXX))))))))))))⟩
    · go_wp2_with fail
      have hbw3 := hbw.trans ((below_new1 W1 (Obj.cells (rgC 0 0 (.slice none 0 0)) 35)).mono hbw.size)
      refine hK _ _ (below_plus hbw3) ?_
      clear hK K
      refine mix_atC (fun W => Blk W W1.heap.size 35 (rgC 0 0 (.slice none 0 0)) ∧ W1.heap.size ≤ W1.heap.size ∧ Below W1.heap.size W1 W) ⟨Blk.new W1 _ _, hbw.size, hbw3⟩ ?_
      clear hbw hbw3
      obtain ⟨gD, hgD⟩ : ∃ g, W1.heap.size = g := ⟨_, rfl⟩
      rw [hgD]
      rintro W11 ⟨hD, hGD, hbw⟩
      rw [← hgD] at hbw
      replace hGD : W1.heap.size ≤ gD := Nat.le_of_eq hgD
      clear hgD
      refine mix_only_in rfl (fun K hK => ?_)
      go_wp2_with fail
      refine (plain_any b1 e1 A1 h1.length c1 W11).mono ?_
      rintro r W12 ⟨rfl, hbx⟩
      go_wp2_with fail
      refine hK _ _ (below_plus (hbw.trans (hbx.mono hbw.size))) ?_
      clear hK K
      replace hbw := hbw.trans (hbx.mono hbw.size)
      replace hD := hD.below hbx hD.lt
      clear hbx
      refine mix_only_in rfl (fun K hK => ?_)
      go_wp2_with fail
      refine (plain_any b2 e2 A2 h2.length c2 W12).mono ?_
      rintro r W13 ⟨rfl, hbx⟩
      go_wp2_with fail
      refine hK _ _ (below_plus (hbw.trans (hbx.mono hbw.size))) ?_
      clear hK K
      replace hbw := hbw.trans (hbx.mono hbw.size)
      replace hD := hD.below hbx hD.lt
      clear hbx
      refine mix_only_in rfl (fun K hK => ?_)
      go_wp2_with fail
      have hc := rmerge_any hv (cutW x0) b1 e1 b2 e2 hN.out.1 hN.out.2.1 hN.out.2.2.1 hN.out.2.2.2.1 A1 c1 A2 c2 h1 h2 HMM.out W13 (H.out.2.1.2.next (hb1.trans (hbw.mono hb1.size))) (H.out.2.2.1.2.next (hb1.trans (hbw.mono hb1.size))) (H.out.2.2.2.2.1.nxt (hb1.trans (hbw.mono hb1.size)))
      rw [HR.out.1] at hc
      refine hc.mono ?_
      rintro r W14 ⟨v, rfl, hown, hbx⟩
      clear hc
      obtain ⟨A9, c9, rfl⟩ := own_slice hown
      have hne : ∀ q, (Value.slice A9 R.hs.length c9).ownBlock = some q → (some gD : Option Nat) ≠ some q := fun q hq e => by have := own_ge hown q hq; have := hD.lt; injection e; omega
      go_wp2_with fail
      refine hK _ _ (below_plus (hbw.trans (hbx.mono hbw.size))) ?_
      clear hK K
      replace hbw := hbw.trans (hbx.mono hbw.size)
      replace hD := hD.below hbx hD.lt
      clear hbx
      iterate 3 (refine mix_plain rfl ?_; go_big_quiet_step (fail); refine wpQuiet_nil ?_)
      refine mix_only_in rfl (fun K hK => ?_)
      refine wpList_storeAll rfl rfl _ (.tmp 22) (.tmp 84) rfl gD rfl (rgC R.b R.e (.slice A9 R.hs.length c9)) rfl 35 _ hD (by kernel_rfl) rfl (rgC_one _ _ _ _ _) ?_
      intro W99 h09 hg9
      have hb9 := below_only hbw hg9 hGD hbw.size
      have hXX := DX.of_own (own_grown hown hg9 hne)
      refine hK _ _ (below_plus hb9) ?_
      clear hK K
      iterate 1 (refine mix_plain rfl ?_; go_big_quiet_step (fail); refine wpQuiet_nil ?_)
      refine mix_done ?_
      go_wp2_with fail
      go_meet
      have hb := hb1.trans (hb9.mono hb1.size)
      exact ⟨gD, A9, c9, rfl, rfl, And.intro (H.out.1.trans (hb.mono H.out.1.size)) (And.intro (H.out.2.1.next hb) (And.intro (H.out.2.2.1.next hb) (And.intro (H.out.2.2.2.1.below hb H.out.2.2.2.1.lt) (And.intro (H.out.2.2.2.2.1.nxt hb) (And.intro (H.out.2.2.2.2.2.1.next hb) (And.intro (H.out.2.2.2.2.2.2.1.next hb) (And.intro (H.out.2.2.2.2.2.2.2.1.next hb) (And.intro (H.out.2.2.2.2.2.2.2.2.1.next hb) (And.intro (H.out.2.2.2.2.2.2.2.2.2.1.next hb) (And.intro (H.out.2.2.2.2.2.2.2.2.2.2.next hb) ((show RgF _ _ _ _ _ _ _ from And.intro h09 hXX))))))))))))⟩
  case rest =>
  obtain ⟨g22, A9, c9, rfl, rfl, hst⟩ := hcut
  clear H
  have H : Hid (Below w.heap.size w wc ∧ Rg wc w.heap.size b1 e1 A1 c1 h1 ∧ Rg wc (w.heap.size + 1) b2 e2 A2 c2 h2 ∧ Blk wc (w.heap.size + 2) 43 (dat d) ∧ Hsr wc wc.heap.size hv (cutW x0) ∧ DX wc (.slice A3 (h1.length + 80) c3) (h1 ++ List.replicate 80 mark10) ∧ DX wc (.slice A3 h1.length c3) h1 ∧ Rg wc g15 b1 e1 A3 c3 h1 ∧ Rg wc g16 P.b P.e A6 c6 P.hs ∧ RgF wc g18 P.b P.e A7 c7 P.hs ∧ Rg wc g20 R.b R.e A8 c8 R.hs ∧ RgF wc g22 R.b R.e A9 c9 R.hs) := Lib.hid hst
  clear hst
  go_upto_region 10 with fail
  go_cut [24, 25] (fun s t wx => ∃ g24 : Nat, s = .pointer (some ⟨g24, 0, none⟩) ∧ t = .int .i64 (U.2 : Int) ∧ Below w.heap.size w wx ∧ Rg wx w.heap.size b1 e1 A1 c1 h1 ∧ Rg wx (w.heap.size + 1) b2 e2 A2 c2 h2 ∧ Blk wx (w.heap.size + 2) 43 (dat d) ∧ Hsr wx wx.heap.size hv (cutW x0) ∧ DX wx (.slice A3 (h1.length + 80) c3) (h1 ++ List.replicate 80 mark10) ∧ DX wx (.slice A3 h1.length c3) h1 ∧ Rg wx g15 b1 e1 A3 c3 h1 ∧ Rg wx g16 P.b P.e A6 c6 P.hs ∧ RgF wx g18 P.b P.e A7 c7 P.hs ∧ Rg wx g20 R.b R.e A8 c8 R.hs ∧ RgF wx g22 R.b R.e A9 c9 R.hs ∧ Blk wx g24 43 (dat U.1))
  case first =>
    go_wp2_with (first
      | (refine wpList_load_row rfl _ (.tmp 15) rfl g15 rfl _ _ _ _ H.out.2.2.2.2.2.2.2.1.1 Tryd.underlying31 rfl (by kernel_rfl) ?_))
    have hc := croot_any x0 b1 e1 hN.out.1 hN.out.2.1 A3 c3 h1 hM.out.1 (by have := hK.out.1; omega) wc H.out.2.2.2.2.2.2.2.1.2 (hG.next H.out.1) (hT.next H.out.1)
    rw [HU.out.1] at hc
    refine hc.mono ?_
    rintro r W1 ⟨rfl, hbx⟩
    have hD := Blk.new W1 43 (arr 32 fun _ => 0)
    have hbn := below_new1 W1 (Obj.cells (arr 32 fun _ => 0) 43)
    clear hc
    go_wp2_with (first
      | (refine wpList_storeDat rfl rfl 43 (.tmp 24) (.tmp 90) rfl W1.heap.size rfl _ _ rfl _ hD (by kernel_rfl) ?_; intro X8 hZ hon3))
    go_meet
    have hb8 := below_only hbn hon3 (Nat.le_refl _) hbn.size
    have hb := hbx.trans (hb8.mono hbx.size)
    exact ⟨W1.heap.size, rfl, rfl, And.intro (H.out.1.trans (hb.mono H.out.1.size)) (And.intro (H.out.2.1.next hb) (And.intro (H.out.2.2.1.next hb) (And.intro (H.out.2.2.2.1.below hb H.out.2.2.2.1.lt) (And.intro (H.out.2.2.2.2.1.nxt hb) (And.intro (H.out.2.2.2.2.2.1.next hb) (And.intro (H.out.2.2.2.2.2.2.1.next hb) (And.intro (H.out.2.2.2.2.2.2.2.1.next hb) (And.intro (H.out.2.2.2.2.2.2.2.2.1.next hb) (And.intro (H.out.2.2.2.2.2.2.2.2.2.1.next hb) (And.intro (H.out.2.2.2.2.2.2.2.2.2.2.1.next hb) (And.intro (H.out.2.2.2.2.2.2.2.2.2.2.2.next hb) (hZ))))))))))))⟩
  case rest =>
  obtain ⟨g24, rfl, rfl, hst⟩ := hcut
  clear H
  have H : Hid (Below w.heap.size w wc ∧ Rg wc w.heap.size b1 e1 A1 c1 h1 ∧ Rg wc (w.heap.size + 1) b2 e2 A2 c2 h2 ∧ Blk wc (w.heap.size + 2) 43 (dat d) ∧ Hsr wc wc.heap.size hv (cutW x0) ∧ DX wc (.slice A3 (h1.length + 80) c3) (h1 ++ List.replicate 80 mark10) ∧ DX wc (.slice A3 h1.length c3) h1 ∧ Rg wc g15 b1 e1 A3 c3 h1 ∧ Rg wc g16 P.b P.e A6 c6 P.hs ∧ RgF wc g18 P.b P.e A7 c7 P.hs ∧ Rg wc g20 R.b R.e A8 c8 R.hs ∧ RgF wc g22 R.b R.e A9 c9 R.hs ∧ Blk wc g24 43 (dat U.1)) := Lib.hid hst
  clear hst
  go_upto_region 11 with fail
  go_cut [26, 27] (fun s t wx => ∃ g26 : Nat, s = .pointer (some ⟨g26, 0, none⟩) ∧ t = .int .i64 (U.2 : Int) ∧ Below w.heap.size w wx ∧ Rg wx w.heap.size b1 e1 A1 c1 h1 ∧ Rg wx (w.heap.size + 1) b2 e2 A2 c2 h2 ∧ Blk wx (w.heap.size + 2) 43 (dat d) ∧ Hsr wx wx.heap.size hv (cutW x0) ∧ DX wx (.slice A3 (h1.length + 80) c3) (h1 ++ List.replicate 80 mark10) ∧ DX wx (.slice A3 h1.length c3) h1 ∧ Rg wx g15 b1 e1 A3 c3 h1 ∧ Rg wx g16 P.b P.e A6 c6 P.hs ∧ RgF wx g18 P.b P.e A7 c7 P.hs ∧ Rg wx g20 R.b R.e A8 c8 R.hs ∧ RgF wx g22 R.b R.e A9 c9 R.hs ∧ Blk wx g24 43 (dat U.1) ∧ Blk wx g26 43 (dat U.1))
  case first =>
    go_wp2_with (first
      | (refine wpList_load_row rfl _ (.tmp 7) rfl w.heap.size rfl _ _ _ _ H.out.2.1.1 Tryd.underlying31 rfl (by kernel_rfl) ?_))
    refine (plain_any b1 e1 A1 h1.length c1 wc).mono ?_
    rintro r W0 ⟨rfl, hb0⟩
    go_wp2_with fail
    have hc := rroot_any hv (cutW x0) b1 e1 hN.out.1 hN.out.2.1 A1 c1 h1 hM.out.1 (by have := hK.out.1; omega) W0 (H.out.2.1.2.next hb0) (H.out.2.2.2.2.1.nxt hb0)
    rw [HU.out.1] at hc
    refine hc.mono ?_
    rintro r W1 ⟨rfl, hbx⟩
    have hD := Blk.new W1 43 (arr 32 fun _ => 0)
    have hbn := below_new1 W1 (Obj.cells (arr 32 fun _ => 0) 43)
    clear hc
    go_wp2_with (first
      | (refine wpList_storeDat rfl rfl 43 (.tmp 26) (.tmp 97) rfl W1.heap.size rfl _ _ rfl _ hD (by kernel_rfl) ?_; intro X8 hZ hon3))
    go_meet
    have hb8 := below_only hbn hon3 (Nat.le_refl _) hbn.size
    have hb := (hb0.trans (hbx.mono hb0.size)).trans (hb8.mono (Nat.le_trans hb0.size hbx.size))
    exact ⟨W1.heap.size, rfl, rfl, And.intro (H.out.1.trans (hb.mono H.out.1.size)) (And.intro (H.out.2.1.next hb) (And.intro (H.out.2.2.1.next hb) (And.intro (H.out.2.2.2.1.below hb H.out.2.2.2.1.lt) (And.intro (H.out.2.2.2.2.1.nxt hb) (And.intro (H.out.2.2.2.2.2.1.next hb) (And.intro (H.out.2.2.2.2.2.2.1.next hb) (And.intro (H.out.2.2.2.2.2.2.2.1.next hb) (And.intro (H.out.2.2.2.2.2.2.2.2.1.next hb) (And.intro (H.out.2.2.2.2.2.2.2.2.2.1.next hb) (And.intro (H.out.2.2.2.2.2.2.2.2.2.2.1.next hb) (And.intro (H.out.2.2.2.2.2.2.2.2.2.2.2.1.next hb) (And.intro (H.out.2.2.2.2.2.2.2.2.2.2.2.2.below hb H.out.2.2.2.2.2.2.2.2.2.2.2.2.lt) (hZ)))))))))))))⟩
  case rest =>
  obtain ⟨g26, rfl, rfl, hst⟩ := hcut
  clear H
  have H : Hid (Below w.heap.size w wc ∧ Rg wc w.heap.size b1 e1 A1 c1 h1 ∧ Rg wc (w.heap.size + 1) b2 e2 A2 c2 h2 ∧ Blk wc (w.heap.size + 2) 43 (dat d) ∧ Hsr wc wc.heap.size hv (cutW x0) ∧ DX wc (.slice A3 (h1.length + 80) c3) (h1 ++ List.replicate 80 mark10) ∧ DX wc (.slice A3 h1.length c3) h1 ∧ Rg wc g15 b1 e1 A3 c3 h1 ∧ Rg wc g16 P.b P.e A6 c6 P.hs ∧ RgF wc g18 P.b P.e A7 c7 P.hs ∧ Rg wc g20 R.b R.e A8 c8 R.hs ∧ RgF wc g22 R.b R.e A9 c9 R.hs ∧ Blk wc g24 43 (dat U.1) ∧ Blk wc g26 43 (dat U.1)) := Lib.hid hst
  clear hst
  go_wp2_with (first
    | (refine wpList_load_row rfl _ (.tmp 16) rfl g16 rfl _ _ _ _ H.out.2.2.2.2.2.2.2.2.1.1 Tryd.underlying31 rfl (by kernel_rfl) ?_)
    | (refine wpList_load_row rfl _ (.tmp 18) rfl g18 rfl _ _ _ _ H.out.2.2.2.2.2.2.2.2.2.1.1 Tryd.underlying35 rfl (by kernel_rfl) ?_))
  refine calls_at (fun V => Below w.heap.size w V ∧ Rg V w.heap.size b1 e1 A1 c1 h1 ∧ Rg V (w.heap.size + 1) b2 e2 A2 c2 h2 ∧ Blk V (w.heap.size + 2) 43 (dat d) ∧ Hsr V V.heap.size hv (cutW x0) ∧ DX V (.slice A3 (h1.length + 80) c3) (h1 ++ List.replicate 80 mark10) ∧ DX V (.slice A3 h1.length c3) h1 ∧ Rg V g15 b1 e1 A3 c3 h1 ∧ Rg V g16 P.b P.e A6 c6 P.hs ∧ RgF V g18 P.b P.e A7 c7 P.hs ∧ Rg V g20 R.b R.e A8 c8 R.hs ∧ RgF V g22 R.b R.e A9 c9 R.hs ∧ Blk V g24 43 (dat U.1) ∧ Blk V g26 43 (dat U.1)) H.out ?_
  clear H
  rintro V3 H0
  have H := Lib.hid H0
  clear H0
  refine (same10_any P.b P.e A6 A7 c6 c7 P.hs HP.out.2.1 (by have := HP.out.2.2; omega) V3 H.out.2.2.2.2.2.2.2.2.1.2 H.out.2.2.2.2.2.2.2.2.2.1.2).mono ?_
  rintro r V4 ⟨rfl, hbx⟩
  have Hx := Lib.hid (And.intro (H.out.1.trans (hbx.mono H.out.1.size)) (And.intro (H.out.2.1.next hbx) (And.intro (H.out.2.2.1.next hbx) (And.intro (H.out.2.2.2.1.below hbx H.out.2.2.2.1.lt) (And.intro (H.out.2.2.2.2.1.nxt hbx) (And.intro (H.out.2.2.2.2.2.1.next hbx) (And.intro (H.out.2.2.2.2.2.2.1.next hbx) (And.intro (H.out.2.2.2.2.2.2.2.1.next hbx) (And.intro (H.out.2.2.2.2.2.2.2.2.1.next hbx) (And.intro (H.out.2.2.2.2.2.2.2.2.2.1.next hbx) (And.intro (H.out.2.2.2.2.2.2.2.2.2.2.1.next hbx) (And.intro (H.out.2.2.2.2.2.2.2.2.2.2.2.1.next hbx) (And.intro (H.out.2.2.2.2.2.2.2.2.2.2.2.2.1.below hbx H.out.2.2.2.2.2.2.2.2.2.2.2.2.1.lt) (H.out.2.2.2.2.2.2.2.2.2.2.2.2.2.below hbx H.out.2.2.2.2.2.2.2.2.2.2.2.2.2.lt))))))))))))))
  clear H hbx
  have H := Lib.hid Hx.out
  clear Hx
  go_wp2_with (first
    | (refine wpList_loadW (by rfl) 31 (.tmp 20) rfl g20 rfl _ _ _ H.out.2.2.2.2.2.2.2.2.2.2.1.1 Tryd.underlying31 rfl (by kernel_rfl) ?_)
    | (refine wpList_loadW (by rfl) 35 (.tmp 22) rfl g22 rfl _ _ _ H.out.2.2.2.2.2.2.2.2.2.2.2.1.1 Tryd.underlying35 rfl (by kernel_rfl) ?_))
  refine calls_at (fun V => Below w.heap.size w V ∧ Rg V w.heap.size b1 e1 A1 c1 h1 ∧ Rg V (w.heap.size + 1) b2 e2 A2 c2 h2 ∧ Blk V (w.heap.size + 2) 43 (dat d) ∧ Hsr V V.heap.size hv (cutW x0) ∧ DX V (.slice A3 (h1.length + 80) c3) (h1 ++ List.replicate 80 mark10) ∧ DX V (.slice A3 h1.length c3) h1 ∧ Rg V g15 b1 e1 A3 c3 h1 ∧ Rg V g16 P.b P.e A6 c6 P.hs ∧ RgF V g18 P.b P.e A7 c7 P.hs ∧ Rg V g20 R.b R.e A8 c8 R.hs ∧ RgF V g22 R.b R.e A9 c9 R.hs ∧ Blk V g24 43 (dat U.1) ∧ Blk V g26 43 (dat U.1)) H.out ?_
  clear H
  rintro V5 H0
  have H := Lib.hid H0
  clear H0
  refine (same10_any R.b R.e A8 A9 c8 c9 R.hs HR.out.2.1 (by have := HR.out.2.2; omega) V5 H.out.2.2.2.2.2.2.2.2.2.2.1.2 H.out.2.2.2.2.2.2.2.2.2.2.2.1.2).mono ?_
  rintro r V6 ⟨rfl, hbx⟩
  have Hx := Lib.hid (And.intro (H.out.1.trans (hbx.mono H.out.1.size)) (And.intro (H.out.2.1.next hbx) (And.intro (H.out.2.2.1.next hbx) (And.intro (H.out.2.2.2.1.below hbx H.out.2.2.2.1.lt) (And.intro (H.out.2.2.2.2.1.nxt hbx) (And.intro (H.out.2.2.2.2.2.1.next hbx) (And.intro (H.out.2.2.2.2.2.2.1.next hbx) (And.intro (H.out.2.2.2.2.2.2.2.1.next hbx) (And.intro (H.out.2.2.2.2.2.2.2.2.1.next hbx) (And.intro (H.out.2.2.2.2.2.2.2.2.2.1.next hbx) (And.intro (H.out.2.2.2.2.2.2.2.2.2.2.1.next hbx) (And.intro (H.out.2.2.2.2.2.2.2.2.2.2.2.1.next hbx) (And.intro (H.out.2.2.2.2.2.2.2.2.2.2.2.2.1.below hbx H.out.2.2.2.2.2.2.2.2.2.2.2.2.1.lt) (H.out.2.2.2.2.2.2.2.2.2.2.2.2.2.below hbx H.out.2.2.2.2.2.2.2.2.2.2.2.2.2.lt))))))))))))))
  clear H hbx
  have H := Lib.hid Hx.out
  clear Hx
  go_wp2_with (first
    | (refine wpList_loadW (by rfl) 43 (.tmp 24) rfl g24 rfl _ _ _ H.out.2.2.2.2.2.2.2.2.2.2.2.2.1 Tryd.underlying43 rfl (by rw [dat_size]; kernel_rfl) ?_)
    | (refine wpList_loadW (by rfl) 43 (.tmp 26) rfl g26 rfl _ _ _ H.out.2.2.2.2.2.2.2.2.2.2.2.2.2 Tryd.underlying43 rfl (by rw [dat_size]; kernel_rfl) ?_)
    | (refine wpList_eqDg rfl (.tmp 118) (.tmp 119) _ rfl U.1 U.1 rfl rfl HU.out.2 HU.out.2 true (decide_eq_true rfl) ?_))
  refine calls_at (fun V => Below w.heap.size w V ∧ Rg V w.heap.size b1 e1 A1 c1 h1 ∧ Rg V (w.heap.size + 1) b2 e2 A2 c2 h2 ∧ Blk V (w.heap.size + 2) 43 (dat d) ∧ Hsr V V.heap.size hv (cutW x0) ∧ DX V (.slice A3 (h1.length + 80) c3) (h1 ++ List.replicate 80 mark10) ∧ DX V (.slice A3 h1.length c3) h1 ∧ Rg V g15 b1 e1 A3 c3 h1 ∧ Rg V g16 P.b P.e A6 c6 P.hs ∧ RgF V g18 P.b P.e A7 c7 P.hs ∧ Rg V g20 R.b R.e A8 c8 R.hs ∧ RgF V g22 R.b R.e A9 c9 R.hs ∧ Blk V g24 43 (dat U.1) ∧ Blk V g26 43 (dat U.1)) H.out ?_
  clear H
  rintro V7 H0
  have H := Lib.hid H0
  clear H0
  refine (blocks_any bg en hN.out.2.2.2.2.1 hN.out.2.2.2.2.2 V7 (hT.next H.out.1)).mono ?_
  rintro r V8 ⟨v8, rfl, ho8, hbx⟩
  have Hx := Lib.hid (And.intro (H.out.1.trans (hbx.mono H.out.1.size)) (And.intro (H.out.2.1.next hbx) (And.intro (H.out.2.2.1.next hbx) (And.intro (H.out.2.2.2.1.below hbx H.out.2.2.2.1.lt) (And.intro (H.out.2.2.2.2.1.nxt hbx) (And.intro (H.out.2.2.2.2.2.1.next hbx) (And.intro (H.out.2.2.2.2.2.2.1.next hbx) (And.intro (H.out.2.2.2.2.2.2.2.1.next hbx) (And.intro (H.out.2.2.2.2.2.2.2.2.1.next hbx) (And.intro (H.out.2.2.2.2.2.2.2.2.2.1.next hbx) (And.intro (H.out.2.2.2.2.2.2.2.2.2.2.1.next hbx) (And.intro (H.out.2.2.2.2.2.2.2.2.2.2.2.1.next hbx) (And.intro (H.out.2.2.2.2.2.2.2.2.2.2.2.2.1.below hbx H.out.2.2.2.2.2.2.2.2.2.2.2.2.1.lt) (And.intro (H.out.2.2.2.2.2.2.2.2.2.2.2.2.2.below hbx H.out.2.2.2.2.2.2.2.2.2.2.2.2.2.lt) (ho8.nsl)))))))))))))))
  clear H hbx
  have H := Lib.hid Hx.out
  clear Hx
  obtain ⟨A11, c11, rfl⟩ := ho8.slice
  clear ho8
  go_wp2_with (first
    | fail)
  refine calls_at (fun V => Below w.heap.size w V ∧ Rg V w.heap.size b1 e1 A1 c1 h1 ∧ Rg V (w.heap.size + 1) b2 e2 A2 c2 h2 ∧ Blk V (w.heap.size + 2) 43 (dat d) ∧ Hsr V V.heap.size hv (cutW x0) ∧ DX V (.slice A3 (h1.length + 80) c3) (h1 ++ List.replicate 80 mark10) ∧ DX V (.slice A3 h1.length c3) h1 ∧ Rg V g15 b1 e1 A3 c3 h1 ∧ Rg V g16 P.b P.e A6 c6 P.hs ∧ RgF V g18 P.b P.e A7 c7 P.hs ∧ Rg V g20 R.b R.e A8 c8 R.hs ∧ RgF V g22 R.b R.e A9 c9 R.hs ∧ Blk V g24 43 (dat U.1) ∧ Blk V g26 43 (dat U.1) ∧ NSl V V.heap.size (.slice A11 (toldL bg en).length c11) (toldL bg en)) H.out ?_
  clear H
  rintro V9 H0
  have H := Lib.hid H0
  clear H0
  refine (rblocks_any bg en hN.out.2.2.2.2.1 hN.out.2.2.2.2.2 V9).mono ?_
  rintro r V10 ⟨v9, rfl, ho9, hbx⟩
  have Hx := Lib.hid (And.intro (H.out.1.trans (hbx.mono H.out.1.size)) (And.intro (H.out.2.1.next hbx) (And.intro (H.out.2.2.1.next hbx) (And.intro (H.out.2.2.2.1.below hbx H.out.2.2.2.1.lt) (And.intro (H.out.2.2.2.2.1.nxt hbx) (And.intro (H.out.2.2.2.2.2.1.next hbx) (And.intro (H.out.2.2.2.2.2.2.1.next hbx) (And.intro (H.out.2.2.2.2.2.2.2.1.next hbx) (And.intro (H.out.2.2.2.2.2.2.2.2.1.next hbx) (And.intro (H.out.2.2.2.2.2.2.2.2.2.1.next hbx) (And.intro (H.out.2.2.2.2.2.2.2.2.2.2.1.next hbx) (And.intro (H.out.2.2.2.2.2.2.2.2.2.2.2.1.next hbx) (And.intro (H.out.2.2.2.2.2.2.2.2.2.2.2.2.1.below hbx H.out.2.2.2.2.2.2.2.2.2.2.2.2.1.lt) (And.intro (H.out.2.2.2.2.2.2.2.2.2.2.2.2.2.1.below hbx H.out.2.2.2.2.2.2.2.2.2.2.2.2.2.1.lt) (And.intro (H.out.2.2.2.2.2.2.2.2.2.2.2.2.2.2.next hbx) (ho9.nsl))))))))))))))))
  clear H hbx
  have H := Lib.hid Hx.out
  clear Hx
  obtain ⟨A12, c12, rfl⟩ := ho9.slice
  clear ho9
  go_wp2_with (first
    | fail)
  refine calls_at (fun V => Below w.heap.size w V ∧ Rg V w.heap.size b1 e1 A1 c1 h1 ∧ Rg V (w.heap.size + 1) b2 e2 A2 c2 h2 ∧ Blk V (w.heap.size + 2) 43 (dat d) ∧ Hsr V V.heap.size hv (cutW x0) ∧ DX V (.slice A3 (h1.length + 80) c3) (h1 ++ List.replicate 80 mark10) ∧ DX V (.slice A3 h1.length c3) h1 ∧ Rg V g15 b1 e1 A3 c3 h1 ∧ Rg V g16 P.b P.e A6 c6 P.hs ∧ RgF V g18 P.b P.e A7 c7 P.hs ∧ Rg V g20 R.b R.e A8 c8 R.hs ∧ RgF V g22 R.b R.e A9 c9 R.hs ∧ Blk V g24 43 (dat U.1) ∧ Blk V g26 43 (dat U.1) ∧ NSl V V.heap.size (.slice A11 (toldL bg en).length c11) (toldL bg en) ∧ NSl V V.heap.size (.slice A12 (toldL bg en).length c12) (toldL bg en)) H.out ?_
  clear H
  rintro V11 H0
  have H := Lib.hid H0
  clear H0
  refine (sameU_any _ _ (toldL bg en) (toldL_few bg en) V11 H.out.2.2.2.2.2.2.2.2.2.2.2.2.2.2.1 H.out.2.2.2.2.2.2.2.2.2.2.2.2.2.2.2).mono ?_
  rintro r V12 ⟨rfl, hbx⟩
  have Hx := Lib.hid (And.intro (H.out.1.trans (hbx.mono H.out.1.size)) (And.intro (H.out.2.1.next hbx) (And.intro (H.out.2.2.1.next hbx) (And.intro (H.out.2.2.2.1.below hbx H.out.2.2.2.1.lt) (And.intro (H.out.2.2.2.2.1.nxt hbx) (And.intro (H.out.2.2.2.2.2.1.next hbx) (And.intro (H.out.2.2.2.2.2.2.1.next hbx) (And.intro (H.out.2.2.2.2.2.2.2.1.next hbx) (And.intro (H.out.2.2.2.2.2.2.2.2.1.next hbx) (And.intro (H.out.2.2.2.2.2.2.2.2.2.1.next hbx) (And.intro (H.out.2.2.2.2.2.2.2.2.2.2.1.next hbx) (And.intro (H.out.2.2.2.2.2.2.2.2.2.2.2.1.next hbx) (And.intro (H.out.2.2.2.2.2.2.2.2.2.2.2.2.1.below hbx H.out.2.2.2.2.2.2.2.2.2.2.2.2.1.lt) (And.intro (H.out.2.2.2.2.2.2.2.2.2.2.2.2.2.1.below hbx H.out.2.2.2.2.2.2.2.2.2.2.2.2.2.1.lt) (And.intro (H.out.2.2.2.2.2.2.2.2.2.2.2.2.2.2.1.next hbx) (H.out.2.2.2.2.2.2.2.2.2.2.2.2.2.2.2.next hbx))))))))))))))))
  clear H hbx
  have H := Lib.hid Hx.out
  clear Hx
  have cA : V12.cell? ⟨w.heap.size, 2, none⟩ = some (.slice A1 h1.length c1) := H.out.2.1.1.cell 2
  go_wp2_with (first
    | (refine wpList_build10 rfl rfl ?_))
  clear cA
  refine calls_at (fun V => Below w.heap.size w V ∧ Rg V w.heap.size b1 e1 A1 c1 h1 ∧ Rg V (w.heap.size + 1) b2 e2 A2 c2 h2 ∧ Blk V (w.heap.size + 2) 43 (dat d) ∧ Hsr V V.heap.size hv (cutW x0) ∧ DX V (.slice A3 (h1.length + 80) c3) (h1 ++ List.replicate 80 mark10) ∧ DX V (.slice A3 h1.length c3) h1 ∧ Rg V g15 b1 e1 A3 c3 h1 ∧ Rg V g16 P.b P.e A6 c6 P.hs ∧ RgF V g18 P.b P.e A7 c7 P.hs ∧ Rg V g20 R.b R.e A8 c8 R.hs ∧ RgF V g22 R.b R.e A9 c9 R.hs ∧ Blk V g24 43 (dat U.1) ∧ Blk V g26 43 (dat U.1) ∧ NSl V V.heap.size (.slice A11 (toldL bg en).length c11) (toldL bg en) ∧ NSl V V.heap.size (.slice A12 (toldL bg en).length c12) (toldL bg en)) H.out ?_
  clear H
  rintro V13 H0
  have H := Lib.hid H0
  clear H0
  refine (intactX_any _ _ h1 mark10 hM.out.1 mark10_len (by have := hK.out.1; omega) V13 H.out.2.2.2.2.2.1 H.out.2.1.2).mono ?_
  rintro r V14 ⟨rfl, hbx⟩
  have Hx := Lib.hid (And.intro (H.out.1.trans (hbx.mono H.out.1.size)) (And.intro (H.out.2.1.next hbx) (And.intro (H.out.2.2.1.next hbx) (And.intro (H.out.2.2.2.1.below hbx H.out.2.2.2.1.lt) (And.intro (H.out.2.2.2.2.1.nxt hbx) (And.intro (H.out.2.2.2.2.2.1.next hbx) (And.intro (H.out.2.2.2.2.2.2.1.next hbx) (And.intro (H.out.2.2.2.2.2.2.2.1.next hbx) (And.intro (H.out.2.2.2.2.2.2.2.2.1.next hbx) (And.intro (H.out.2.2.2.2.2.2.2.2.2.1.next hbx) (And.intro (H.out.2.2.2.2.2.2.2.2.2.2.1.next hbx) (And.intro (H.out.2.2.2.2.2.2.2.2.2.2.2.1.next hbx) (And.intro (H.out.2.2.2.2.2.2.2.2.2.2.2.2.1.below hbx H.out.2.2.2.2.2.2.2.2.2.2.2.2.1.lt) (And.intro (H.out.2.2.2.2.2.2.2.2.2.2.2.2.2.1.below hbx H.out.2.2.2.2.2.2.2.2.2.2.2.2.2.1.lt) (And.intro (H.out.2.2.2.2.2.2.2.2.2.2.2.2.2.2.1.next hbx) (H.out.2.2.2.2.2.2.2.2.2.2.2.2.2.2.2.next hbx))))))))))))))))
  clear H hbx
  have H := Lib.hid Hx.out
  clear Hx
  go_wp2_with (first
    | fail)
  refine calls_at (fun V => Below w.heap.size w V ∧ Rg V w.heap.size b1 e1 A1 c1 h1 ∧ Rg V (w.heap.size + 1) b2 e2 A2 c2 h2 ∧ Blk V (w.heap.size + 2) 43 (dat d) ∧ Hsr V V.heap.size hv (cutW x0) ∧ DX V (.slice A3 (h1.length + 80) c3) (h1 ++ List.replicate 80 mark10) ∧ DX V (.slice A3 h1.length c3) h1 ∧ Rg V g15 b1 e1 A3 c3 h1 ∧ Rg V g16 P.b P.e A6 c6 P.hs ∧ RgF V g18 P.b P.e A7 c7 P.hs ∧ Rg V g20 R.b R.e A8 c8 R.hs ∧ RgF V g22 R.b R.e A9 c9 R.hs ∧ Blk V g24 43 (dat U.1) ∧ Blk V g26 43 (dat U.1) ∧ NSl V V.heap.size (.slice A11 (toldL bg en).length c11) (toldL bg en) ∧ NSl V V.heap.size (.slice A12 (toldL bg en).length c12) (toldL bg en)) H.out ?_
  clear H
  rintro V15 H0
  have H := Lib.hid H0
  clear H0
  refine (known10_any V15 (hG.next H.out.1) (hT.next H.out.1)).mono ?_
  rintro r V16 ⟨rfl, hbx⟩
  have Hx := Lib.hid (And.intro (H.out.1.trans (hbx.mono H.out.1.size)) (And.intro (H.out.2.1.next hbx) (And.intro (H.out.2.2.1.next hbx) (And.intro (H.out.2.2.2.1.below hbx H.out.2.2.2.1.lt) (And.intro (H.out.2.2.2.2.1.nxt hbx) (And.intro (H.out.2.2.2.2.2.1.next hbx) (And.intro (H.out.2.2.2.2.2.2.1.next hbx) (And.intro (H.out.2.2.2.2.2.2.2.1.next hbx) (And.intro (H.out.2.2.2.2.2.2.2.2.1.next hbx) (And.intro (H.out.2.2.2.2.2.2.2.2.2.1.next hbx) (And.intro (H.out.2.2.2.2.2.2.2.2.2.2.1.next hbx) (And.intro (H.out.2.2.2.2.2.2.2.2.2.2.2.1.next hbx) (And.intro (H.out.2.2.2.2.2.2.2.2.2.2.2.2.1.below hbx H.out.2.2.2.2.2.2.2.2.2.2.2.2.1.lt) (And.intro (H.out.2.2.2.2.2.2.2.2.2.2.2.2.2.1.below hbx H.out.2.2.2.2.2.2.2.2.2.2.2.2.2.1.lt) (And.intro (H.out.2.2.2.2.2.2.2.2.2.2.2.2.2.2.1.next hbx) (H.out.2.2.2.2.2.2.2.2.2.2.2.2.2.2.2.next hbx))))))))))))))))
  clear H hbx
  have H := Lib.hid Hx.out
  clear Hx
  go_wp2_with fail
  go_ret
  exact ⟨rfl, H.out.1⟩
end Go.Proofs.YtkogehkmldbhgaaDoor
