/- The walk of the law KeysApart. No condition. -/
import Derived.Test.YtbhmmoecoijojaaDoorKeysKnown
import Derived.Test.YtbhmmoecoijojaaDoorWithin
import Derived.Test.YtbhmmoecoijojaaDoorCut
import Derived.Test.YtbhmmoecoijojaaDoorTbl
namespace Go.Proofs.YtbhmmoecoijojaaDoor
open Go.RowKit
attribute [local go_sem] n8_lo n8_hi n64_lo n64_hi n32_lo n32_hi
theorem draw_next (d : UInt32) : (n32 d + 1) % 4294967296 = n32 (d + 1) := by
  unfold n32; rw [UInt32.toNat_add, show (1 : UInt32).toNat = 1 from rfl]; omega
/-- a row is read out of a block, under a guard that holds -/
theorem wpList_loadMidW {P : Program} {w : World} {ops : Array Oper} {rest : List Oper} {o : Oper} {a : Act} {Q : Exit → Act → World → Prop} (hw : Region.wanted o (yielded ops a.tmps) = true) (ty : TypeId) (x : Operand) (ho : o.op = .load ty x) (b off : Nat) (hx : a.eval x = .pointer (some ⟨b, off, none⟩)) (cs : Array Value) (d : TypeDesc)
    (hS : w.rangeAt b off cs.toList) (hu : P.underlying ty = some d) (hd : d.isRow = true) (hi : (P.info? ty).map (·.size) = some cs.size)
    (h : wpList P ops Q rest (a.put o.dst (.agg cs)) w) : wpList P ops Q (o :: rest) a w :=
  wpList_step fun K hK => by
    simp only [hw, if_true]
    unfold Oper.wp execOp
    simp only [ho, hx, Instr.loadAt, Instr.sureAddr, Sem.run_bind, Sem.run_pure, Result.andThen_ok, run_loadVar_mid w b off ty cs.toList d hS hu hd (by simpa using hi)]
    exact hK _ _ h
/-- '==' on heads, under a guard that holds -/
theorem wpList_eqHw {w : World} {ops : Array Oper} {rest : List Oper} {o : Oper} {a : Act} {Q : Exit → Act → World → Prop} (hw : Region.wanted o (yielded ops a.tmps) = true) (x y : Operand) (yt : TypeId) (ho : o.op = .binOp .eql 49 x y yt) (h h' : HeadL) (hx : a.eval x = .agg (headC h)) (hy : a.eval y = .agg (headC h'))
    (hr : h.root.length = 32) (hr' : h'.root.length = 32) (b : Bool) (hb : headEq h h' = b) (hk : wpList Tryd.prog ops Q rest (a.put o.dst (.bool b)) w) : wpList Tryd.prog ops Q (o :: rest) a w :=
  wpList_step fun K hK => by
    simp only [hw, if_true]
    unfold Oper.wp execOp
    simp only [ho, hx, hy, Sem.run_bind, Sem.run_pure, Result.andThen_ok, run_eqGuard_agg (P := Tryd.prog) w .eql 49 x y _ _ (by kernel_rfl), eql_head h h' hr hr', hb]
    exact hK _ _ hk
set_option maxRecDepth 100000 in
set_option maxHeartbeats 1000000 in
theorem keysApart_walk (w : World) (hG : Glob w) (A : Option Addr) (cap : Nat) (b : List UInt8) (hb : BSl w w.heap.size (.slice A b.length cap) b) (hc : cap ≤ 140737488351232)
    (tree : Int) (ht : -9223372036854775808 ≤ tree ∧ tree ≤ 9223372036854775807) (epoch : Int) (he : -9223372036854775808 ≤ epoch ∧ epoch ≤ 9223372036854775807) (draw : UInt32)
    (h : HeadL) (hok : h.ok) (which : Int) (hwh : -9223372036854775808 ≤ which ∧ which ≤ 9223372036854775807) :
    Calls Tryd.prog 8 #[.slice A b.length cap, .int .i64 tree, .int .i64 epoch, .int .u32 (n32 draw), .agg (headC h), .int .i64 which] w fun e w' => e = .returned (.bool true) ∧ Below w.heap.size w w' := by
  go_enter Tryd.func8, Tryd.ntmps8
  have hbl : b.length ≤ 140737488355264 := by
    obtain ⟨A', c', e1, h1, -⟩ := hb; injection e1 with _ _ e2; omega
  have Hbl := Lib.hid hbl
  clear hbl
  go_wp2_with fail
  have hD1 := Blk.new w 49 (headC h)
  have hbn := below_new1 w (Obj.cells (headC h) 49)
  refine calls_at (fun W => Blk W w.heap.size 49 (headC h) ∧ Below w.heap.size w W) ⟨hD1, hbn⟩ ?_
  clear hD1 hbn
  rintro W0 ⟨hH, hbel⟩
  replace hb := hb.next hbel
  refine (within_any tree 0 15 W0 (by decide) (by decide) (by decide) ht.1 ht.2).mono ?_
  rintro e _ ⟨rfl, rfl⟩
  have ht' := withinI_bounds tree 0 15 (by decide)
  generalize withinI tree 0 15 = n at ht' ⊢
  obtain ⟨ht1, ht2⟩ := ht'
  go_wp2_with fail
  refine (within_any epoch 0 1000 W0 (by decide) (by decide) (by decide) he.1 he.2).mono ?_
  rintro e _ ⟨rfl, rfl⟩
  have he' := withinI_bounds epoch 0 1000 (by decide)
  generalize withinI epoch 0 1000 = ep at he' ⊢
  obtain ⟨he1, he2⟩ := he'
  go_wp2_with fail
  refine (key_any _ b n ep draw W0 hb Hbl.out (hG.next hbel) (by omega) (by omega)).mono ?_
  rintro e w1 ⟨rfl, hb1⟩
  obtain ⟨key, hkey⟩ : ∃ key, keyL' b n ep draw = key := ⟨_, rfl⟩
  have hkl : key.length = 32 := by rw [← hkey]; exact mac_length _ _
  rw [hkey]
  clear hkey
  have Hkl := Lib.hid hkl
  clear hkl
  replace hH := hH.below hb1 hH.lt
  replace hb := hb.next hb1
  replace hbel := hbel.trans (hb1.mono hbel.size)
  clear hb1
  have hD := Blk.new w1 27 (arr 32 fun _ => 0)
  have hbn := below_new1 w1 (Obj.cells (arr 32 fun _ => 0) 27)
  go_upto_region 4 with (first
      | (refine wpList_storeDat rfl rfl 27 (.tmp 13) (.tmp 25) rfl w1.heap.size rfl _ _ rfl _ hD (by kernel_rfl) ?_; intro w2 hK hon2))
  have hb2 := below_only hbn hon2 (Nat.le_refl _) hbn.size
  replace hH := hH.below hb2 hH.lt
  replace hb := hb.next hb2
  replace hbel := hbel.trans (hb2.mono hbel.size)
  clear hb2 hbn hon2 hD
  go_wp2_with fail
  refine (key_any _ b n (ep + 1) draw w2 hb Hbl.out (hG.next hbel) (by omega) (by omega)).mono ?_
  rintro e w3 ⟨rfl, hb1⟩
  obtain ⟨key2, hkey⟩ : ∃ key, keyL' b n (ep + 1) draw = key := ⟨_, rfl⟩
  have hkl : key2.length = 32 := by rw [← hkey]; exact mac_length _ _
  rw [hkey]
  clear hkey
  have Hkl2 := Lib.hid hkl
  clear hkl
  replace hH := hH.below hb1 hH.lt
  replace hK := hK.below hb1 hK.lt
  have hlt0 := Lib.hid hH.lt
  have hlt1 := Lib.hid hK.lt
  replace hb := hb.next hb1
  replace hbel := hbel.trans (hb1.mono hbel.size)
  clear hb1
  have hD := Blk.new w3 27 (arr 32 fun _ => 0)
  have hbn := below_new1 w3 (Obj.cells (arr 32 fun _ => 0) 27)
  go_upto_region 5 with (first
      | (refine wpList_storeDat rfl rfl 27 (.tmp 14) (.tmp 31) rfl w3.heap.size rfl _ _ rfl _ hD (by kernel_rfl) ?_; intro w4 hO hon2))
  have hb2 := below_only hbn hon2 (Nat.le_refl _) hbn.size
  replace hH := hH.below hb2 hH.lt
  replace hK := hK.below hb2 hK.lt
  replace hb := hb.next hb2
  replace hbel := hbel.trans (hb2.mono hbel.size)
  clear hb2 hbn hon2 hD
  go_wp2_with fail
  refine (within_any which 0 2 w4 (by decide) (by decide) (by decide) hwh.1 hwh.2).mono ?_
  rintro e _ ⟨rfl, rfl⟩
  have hw' := withinI_bounds which 0 2 (by decide)
  generalize withinI which 0 2 = q at hw' ⊢
  have hq : q = 0 ∨ q = 1 ∨ q = 2 := by omega
  clear hw'
  have hdn := draw_next draw
  rcases hq with rfl | rfl | rfl
  case' inl =>
    go_upto_region 10 with fail
    obtain ⟨w5, rfl⟩ : ∃ w5, w5 = w4 := ⟨_, rfl⟩
    obtain ⟨other, hot⟩ : ∃ other, key2 = other := ⟨_, rfl⟩
    have Hol := Hkl2
    rw [hot] at hO Hol
    clear hot Hkl2 hdn
  case' inr.inl =>
    go_wp2_with fail
    refine (key_any _ b ((n + 1) % 16) ep draw w4 hb Hbl.out (hG.next hbel) (by omega) (by omega)).mono ?_
    rintro e w6 ⟨rfl, hb1⟩
    replace hH := hH.below hb1 hH.lt
    replace hK := hK.below hb1 hK.lt
    replace hO := hO.below hb1 hO.lt
    replace hb := hb.next hb1
    replace hbel := hbel.trans (hb1.mono hbel.size)
    clear hb1
    obtain ⟨other, hkey⟩ : ∃ other, keyL' b ((n + 1) % 16) ep draw = other := ⟨_, rfl⟩
    have hkl : other.length = 32 := by rw [← hkey]; exact mac_length _ _
    rw [hkey]
    clear hkey hdn
    have Hol := Lib.hid hkl
    clear hkl Hkl2
    go_upto_region 10 with (first
      | (refine wpList_storeDat rfl rfl 27 (.tmp 14) (.tmp 42) rfl w3.heap.size rfl _ _ rfl _ hO (by kernel_rfl) ?_; intro w5 hO5 hon5))
    replace hbel := below_only hbel hon5 (Nat.le_of_lt hlt0.out) hbel.size
    replace hH := hH.grown hon5 (by have := hlt0.out; simp; omega)
    replace hK := hK.grown hon5 (by have := hlt1.out; simp; omega)
    replace hO := hO5
    clear hO5 hon5 hb
  case' inr.inr =>
    go_wp2_with fail
    refine (key_any _ b n ep (draw + 1) w4 hb Hbl.out (hG.next hbel) (by omega) (by omega)).mono ?_
    rintro e w6 ⟨rfl, hb1⟩
    replace hH := hH.below hb1 hH.lt
    replace hK := hK.below hb1 hK.lt
    replace hO := hO.below hb1 hO.lt
    replace hb := hb.next hb1
    replace hbel := hbel.trans (hb1.mono hbel.size)
    clear hb1
    obtain ⟨other, hkey⟩ : ∃ other, keyL' b n ep (draw + 1) = other := ⟨_, rfl⟩
    have hkl : other.length = 32 := by rw [← hkey]; exact mac_length _ _
    rw [hkey]
    clear hkey hdn
    have Hol := Lib.hid hkl
    clear hkl Hkl2
    go_upto_region 10 with (first
      | (refine wpList_storeDat rfl rfl 27 (.tmp 14) (.tmp 50) rfl w3.heap.size rfl _ _ rfl _ hO (by kernel_rfl) ?_; intro w5 hO5 hon5))
    replace hbel := below_only hbel hon5 (Nat.le_of_lt hlt0.out) hbel.size
    replace hH := hH.grown hon5 (by have := hlt0.out; simp; omega)
    replace hK := hK.grown hon5 (by have := hlt1.out; simp; omega)
    replace hO := hO5
    clear hO5 hon5 hb
  all_goals
    have Hok := Lib.hid hok
    clear hok
    go_wp2_with (first
      | (refine wpList_loadW (by rfl) 27 (.tmp 13) rfl w1.heap.size rfl _ _ _ hK Tryd.underlying27 rfl (by kernel_rfl) ?_)
      | (refine wpList_loadW (by rfl) 49 (.tmp 10) rfl w.heap.size rfl _ _ _ hH Tryd.underlying49 rfl (by rw [headC_size]; kernel_rfl) ?_))
    refine (sign_any key Hkl.out h Hok.out w5 (hG.next hbel)).mono ?_
    rintro e w7 ⟨rfl, hb1⟩
    replace hH := hH.below hb1 hH.lt
    replace hK := hK.below hb1 hK.lt
    replace hO := hO.below hb1 hO.lt
    replace hbel := hbel.trans (hb1.mono hbel.size)
    clear hb1
    have Hgl := Lib.hid (tagL_length key h)
    obtain ⟨T, hTd⟩ : ∃ T, tagL key h = T := ⟨_, rfl⟩
    have HT := Lib.hid hTd
    rw [hTd] at Hgl ⊢
    clear hTd
    have hzv := zero_sig
    have hD := Blk.new w7 51 (sigC zeroHead [])
    have hbn := below_new1 w7 (Obj.cells (sigC zeroHead []) 51)
    go_upto_region 11 with (first
      | (refine wpList_storeB rfl rfl 51 (.tmp 15) (.tmp 53) rfl w7.heap.size 0 rfl (sigC h T) rfl _ _ hD (by rw [sigC_size]; kernel_rfl) (by rw [sigC_size, sigC_size]; omega) (sigC_one _ _) ?_; intro w8 hS hon8))
    rw [copied_all _ _ (by rw [sigC_size, sigC_size])] at hS
    have hb2 := below_only hbn hon8 (Nat.le_refl _) hbn.size
    replace hH := hH.below hb2 hH.lt
    replace hK := hK.below hb2 hK.lt
    replace hO := hO.below hb2 hO.lt
    replace hbel := hbel.trans (hb2.mono hbel.size)
    clear hb2 hbn hon8 hD hzv
    go_wp2_with fail
    refine (new_any w8).mono ?_
    rintro e w9 ⟨t, rfl, hT9, hb1⟩
    replace hH := hH.below hb1 hH.lt
    replace hK := hK.below hb1 hK.lt
    replace hO := hO.below hb1 hO.lt
    replace hS := hS.below hb1 hS.lt
    replace hbel := hbel.trans (hb1.mono hbel.size)
    clear hb1
    go_wp2_with (first
      | (refine wpList_loadW (by rfl) 27 (.tmp 14) rfl w3.heap.size rfl _ _ _ hO Tryd.underlying27 rfl (by kernel_rfl) ?_)
      | (refine wpList_loadW (by rfl) 51 (.tmp 15) rfl w7.heap.size rfl _ _ _ hS Tryd.underlying51 rfl (by rw [sigC_size]; kernel_rfl) ?_))
    refine (rholds_any t other Hol.out h Hok.out T Hgl.out w9 hT9).mono ?_
    rintro e w10 ⟨rfl, hb1⟩
    replace hH := hH.below hb1 hH.lt
    replace hK := hK.below hb1 hK.lt
    replace hO := hO.below hb1 hO.lt
    replace hS := hS.below hb1 hS.lt
    replace hbel := hbel.trans (hb1.mono hbel.size)
    clear hb1 hT9
    by_cases htag : tagL other h = T
    case pos =>
      rw [decide_eq_true htag]
      clear htag
      go_wp2_with fail
      refine (known11_any w10 (hG.next hbel)).mono ?_
      rintro e w11 ⟨rfl, hb1⟩
      replace hbel := hbel.trans (hb1.mono hbel.size)
      clear hb1
      go_wp2_with fail
      go_ret
      exact ⟨rfl, hbel⟩
    have Hne := Lib.hid htag
    rw [decide_eq_false htag]
    clear htag
    go_wp2_with (first
      | (refine wpList_loadW (by rfl) 27 (.tmp 13) rfl w1.heap.size rfl _ _ _ hK Tryd.underlying27 rfl (by kernel_rfl) ?_)
      | (refine wpList_loadW (by rfl) 51 (.tmp 15) rfl w7.heap.size rfl _ _ _ hS Tryd.underlying51 rfl (by rw [sigC_size]; kernel_rfl) ?_))
    refine (holds_any key Hkl.out h Hok.out T Hgl.out w10 (hG.next hbel)).mono ?_
    rintro e w11 ⟨rfl, hb1⟩
    rw [decide_eq_true HT.out]
    replace hH := hH.below hb1 hH.lt
    replace hK := hK.below hb1 hK.lt
    replace hO := hO.below hb1 hO.lt
    replace hS := hS.below hb1 hS.lt
    replace hbel := hbel.trans (hb1.mono hbel.size)
    clear hb1
    go_wp2_with (first
      | (refine wpList_loadW (by rfl) 27 (.tmp 14) rfl w3.heap.size rfl _ _ _ hO Tryd.underlying27 rfl (by kernel_rfl) ?_)
      | (refine wpList_loadW (by rfl) 51 (.tmp 15) rfl w7.heap.size rfl _ _ _ hS Tryd.underlying51 rfl (by rw [sigC_size]; kernel_rfl) ?_))
    refine (holds_any other Hol.out h Hok.out T Hgl.out w11 (hG.next hbel)).mono ?_
    rintro e w12 ⟨rfl, hb1⟩
    rw [decide_eq_false Hne.out]
    replace hH := hH.below hb1 hH.lt
    replace hS := hS.below hb1 hS.lt
    replace hbel := hbel.trans (hb1.mono hbel.size)
    clear hb1 hK hO
    go_wp2_with (first
      | (refine wpList_loadMidW (by rfl) 49 (.tmp 70) rfl w7.heap.size 0 rfl (headC h) _ (sig_head_range hS) Tryd.underlying49 rfl (by rw [headC_size]; kernel_rfl) ?_)
      | (refine wpList_loadW (by rfl) 49 (.tmp 10) rfl w.heap.size rfl _ _ _ hH Tryd.underlying49 rfl (by rw [headC_size]; kernel_rfl) ?_)
      | (refine wpList_eqHw (by rfl) (.tmp 71) (.tmp 72) _ rfl h h rfl rfl Hok.out.1 Hok.out.1 true (headEq_self h) ?_))
    refine (known11_any w12 (hG.next hbel)).mono ?_
    rintro e w13 ⟨rfl, hb1⟩
    replace hbel := hbel.trans (hb1.mono hbel.size)
    clear hb1
    go_wp2_with fail
    go_ret
    exact ⟨rfl, hbel⟩
end Go.Proofs.YtbhmmoecoijojaaDoor
