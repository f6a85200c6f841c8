/- Texts that stand behind one another: CmpI. No condition. -/
import Derived.Test.YtkogehkmldbhgaaDoorP16
/- The walks of deponentbook's Same at 64-bit words, of compact.Root and of the reference's Root. Condition: the tables. -/
namespace Go.Proofs.YtkogehkmldbhgaaDoor
open Go Go.RowKit
attribute [local irreducible] mixW
attribute [local go_sem] n8_lo n8_hi n64_lo n64_hi n32_lo n32_hi
set_option maxHeartbeats 400000 in
set_option maxRecDepth 100000 in
theorem sameU_any (u v : Value) (ns : List Nat) (hn : ns.length ≤ 1000000) (w : World) (hu : NSl w w.heap.size u ns) (hv : NSl w w.heap.size v ns) :
    Calls Tryd.prog 25 #[u, v] w fun e w' => e = .returned (.bool true) ∧ Below w.heap.size w w' := by
  obtain ⟨A1, c1, rfl, h1, h1', hr1⟩ := hu
  obtain ⟨A2, c2, rfl, h2, h2', hr2⟩ := hv
  have H1 : Hid (NSl w w.heap.size (.slice A1 ns.length c1) ns) := Lib.hid ⟨A1, c1, rfl, h1, h1', hr1⟩
  have H2 : Hid (NSl w w.heap.size (.slice A2 ns.length c2) ns) := Lib.hid ⟨A2, c2, rfl, h2, h2', hr2⟩
  clear hr1 hr2
  have hne : ((ns.length : Int) != (ns.length : Int)) = false := by simp
  go_enter Tryd.func25, Tryd.ntmps25
  go_wp2_with fail
  go_loopw [5] (fun iv wr => ∃ k : Nat, k ≤ ns.length ∧ iv = .int .i64 k ∧ Below w.heap.size w wr) (fun iv _ => ns.length - (intOf iv).toNat)
  case atStart => exact ⟨0, by omega, rfl, Below.refl _ _⟩
  case round =>
    obtain ⟨k, hk, rfl, hbel⟩ := hrel
    by_cases hlt : k < ns.length
    case neg =>
      have hlt' : ¬ ((k : Int) < (ns.length : Int)) := by omega
      go_wp2_with fail
      go_ret
      exact ⟨rfl, hbel⟩
    have hlt' : (k : Int) < (ns.length : Int) := by omega
    have hk1 : (k : Int) < (c1 : Int) := by omega
    have hk2 : (k : Int) < (c2 : Int) := by omega
    obtain ⟨g1, o1, rfl, hg1, hc1⟩ := (H1.out.next hbel).cell k hlt
    obtain ⟨g2, o2, rfl, hg2, hc2⟩ := (H2.out.next hbel).cell k hlt
    generalize ns.getD k 0 = x at hc1 hc2
    go_wp2_with fail
    refine wp_region_mixP (.plain 0 <| .plain 1 <| .plain 2 <| .plain 3 <| .plain 4 <| .plain 5 <| .plain 6 <| .plain 7 <| .plain 8 <| .done) (by kernel_rfl) (by kernel_rfl) (fun W1 hb1 => ?_)
    have p1 : ∀ e, (plus W1 e).cell? ⟨g1, o1 + k, none⟩ = some (.int .u64 (x : Int)) := fun e => (plus_cell W1 e ⟨g1, o1 + k, none⟩ (Nat.lt_of_lt_of_le hg1 hb1.size)).trans ((hb1.cell (p := ⟨g1, o1 + k, none⟩) hg1).trans hc1)
    have p2 : ∀ e, (plus W1 e).cell? ⟨g2, o2 + k, none⟩ = some (.int .u64 (x : Int)) := fun e => (plus_cell W1 e ⟨g2, o2 + k, none⟩ (Nat.lt_of_lt_of_le hg2 hb1.size)).trans ((hb1.cell (p := ⟨g2, o2 + k, none⟩) hg2).trans hc2)
    replace hbel := hbel.trans (hb1.mono hbel.size)
    have hxx : ((x : Int) != (x : Int)) = false := by simp
    clear hb1 hc1 hc2
    iterate 9 (refine mix_plain rfl ?_; go_big_quiet_step (fail); refine wpQuiet_nil ?_)
    refine mix_done ?_
    clear p1 p2
    go_wp2_with fail
    go_roundw
    case rel => exact ⟨k + 1, by omega, by go_num, hbel⟩
    case measure => simp [intOf]; omega
theorem SSl.nil9 {w : World} {B : Nat} : SSl w B (.slice none 0 0) [] := ⟨none, 0, [], rfl, Nat.le_refl _, by decide, Reads.nil_, rfl, fun _ h => absurd h (by simp)⟩
/-- what Root tells -/
def rootV (c b e : Nat) (hs : List (List UInt8)) : List UInt8 × Nat := if rightB b e hs.length = false then (zeroD, 1) else if b ≠ 0 then (zeroD, 25) else (foldM c hs, 0)
set_option maxHeartbeats 1000000 in
set_option maxRecDepth 100000 in
theorem croot_any (x : Int) (b e : Nat) (hb : b < 18446744073709551616) (he : e < 18446744073709551616) (A : Option Addr) (cap : Nat) (hs : List (List UInt8)) (hall : ∀ d ∈ hs, d.length = 32) (hn : hs.length ≤ 1000000) (w : World) (hX : DX w (.slice A hs.length cap) hs) (hG : Glob w) (hT : Tz w) :
    Calls Tryd.prog 23 #[.int .i64 x, .agg (rgC b e (.slice A hs.length cap))] w fun r w' => r = .returned (.tuple #[.agg (dat (rootV (cutW x) b e hs).1), .int .i64 ((rootV (cutW x) b e hs).2 : Int)]) ∧ Below w.heap.size w w' := by
  have Hall := Lib.hid hall
  clear hall
  obtain ⟨rd, re, hrv⟩ : ∃ rd re, rootV (cutW x) b e hs = (rd, re) := ⟨_, _, rfl⟩
  rw [hrv]
  have Hrv := Lib.hid hrv
  clear hrv
  show Calls _ _ _ _ fun r w' => r = .returned (.tuple #[.agg (dat rd), .int .i64 (re : Int)]) ∧ Below w.heap.size w w'
  have hA := (Blk.new w 31 (rgC b e (.slice A hs.length cap))).alloc (Obj.cells (arr 32 fun _ => 0) 43)
  have hD := Blk.new2 w (Obj.cells (rgC b e (.slice A hs.length cap)) 31) 43 (arr 32 fun _ => 0)
  have hb1 := below_new1 w (Obj.cells (rgC b e (.slice A hs.length cap)) 31)
  have hb2 := hb1.alloc hb1.size (Obj.cells (arr 32 fun _ => 0) 43)
  unfold rgC at *
  simp only [nU] at *
  go_enter Tryd.func23, Tryd.ntmps23
  go_wp2_with fail
  refine calls_at (fun W => Blk W w.heap.size 31 #[.int .u64 (b : Int), .int .u64 (e : Int), .slice A hs.length cap] ∧ Blk W (w.heap.size + 1) 43 (arr 32 fun _ => 0) ∧ Below w.heap.size w W) ⟨hA, hD, hb2⟩ ?_
  clear hA hD hb1 hb2
  rintro W ⟨hA, hD, hbel⟩
  refine (right_any b e hb he A hs.length cap W (hT.next hbel)).mono ?_
  rintro r W1 ⟨rfl, hb1⟩
  replace hA := hA.below hb1 hA.lt
  replace hD := hD.below hb1 hD.lt
  replace hbel := hbel.trans (hb1.mono hbel.size)
  clear hb1
  have c0 : W1.cell? ⟨w.heap.size, 0, none⟩ = some (.int .u64 (b : Int)) := hA.cell 0
  have c2 : W1.cell? ⟨w.heap.size, 2, none⟩ = some (.slice A hs.length cap) := hA.cell 2
  cases hr : rightB b e hs.length with
  | false =>
    have hh := Hrv.out
    unfold rootV at hh
    rw [hr, if_pos rfl] at hh
    injection hh with h1 h2
    subst h1; subst h2
    have hDz : Blk W1 (w.heap.size + 1) 43 (dat zeroD) := by rw [dat_zeroD]; exact hD
    go_wp2_with (first
      | (refine wpList_storeDat rfl rfl 43 (.tmp 4) (.tmp 13) rfl (w.heap.size + 1) rfl zeroD _ (by rw [dat_zeroD]; rfl) _ hD (by kernel_rfl) ?_; intro w2 hD2 hon2))
    have hb2 := below_only hbel hon2 (Nat.le_succ _) hbel.size
    exact bodyPost_ret (results_cell_two (p := 4) (q := 5) (ty := 43) rfl _ _ (w.heap.size + 1) _ _ _ _ rfl hD2 Tryd.underlying43 rfl (by rw [dat_size]; kernel_rfl)) rfl ⟨rfl, hb2⟩
  | true =>
    by_cases hb0 : b = 0
    case neg =>
      have hh := Hrv.out
      unfold rootV at hh
      rw [hr, if_neg (by decide), if_pos hb0] at hh
      injection hh with h1 h2
      subst h1; subst h2
      have hb0' : ¬ ((b : Int) = 0) := by omega
      go_wp2_with (first
        | (refine wpList_storeDat rfl rfl 43 (.tmp 4) (.tmp 18) rfl (w.heap.size + 1) rfl zeroD _ (by rw [dat_zeroD]; rfl) _ hD (by kernel_rfl) ?_; intro w2 hD2 hon2))
      have hb2 := below_only hbel hon2 (Nat.le_succ _) hbel.size
      exact bodyPost_ret (results_cell_two (p := 4) (q := 5) (ty := 43) rfl _ _ (w.heap.size + 1) _ _ _ _ rfl hD2 Tryd.underlying43 rfl (by rw [dat_size]; kernel_rfl)) rfl ⟨rfl, hb2⟩
    have hh := Hrv.out
    unfold rootV at hh
    rw [hr, if_neg (by decide), if_neg (by simp [hb0])] at hh
    injection hh with h1 h2
    subst h2
    have Hrd := Lib.hid h1
    clear h1
    subst hb0
    by_cases hn0 : hs.length = 0
    case pos =>
      obtain rfl : hs = [] := List.eq_nil_of_length_eq_zero hn0
      have hrl : rd.length = 32 := by rw [← Hrd.out]; exact sumM_length _ _
      go_wp2_with fail
      refine (mroot_any x _ [] _ SSl.nil9 (by decide) (fun _ h => by cases h) (hG.next hbel)).mono ?_
      rintro r W2 ⟨rfl, hb2⟩
      rw [show rootM (cutW x) [] = rd from Hrd.out]
      replace hD := hD.below hb2 hD.lt
      replace hbel := hbel.trans (hb2.mono hbel.size)
      go_wp2_with (first
        | (refine wpList_storeDat rfl rfl 43 (.tmp 4) (.tmp 25) rfl (w.heap.size + 1) rfl rd _ rfl _ hD (by kernel_rfl) ?_; intro w2 hD2 hon2))
      have hb2 := below_only hbel hon2 (Nat.le_succ _) hbel.size
      exact bodyPost_ret (results_cell_two (p := 4) (q := 5) (ty := 43) rfl _ _ (w.heap.size + 1) _ _ _ _ rfl hD2 Tryd.underlying43 rfl (by rw [dat_size]; kernel_rfl)) rfl ⟨rfl, hb2⟩
    obtain ⟨m, hm⟩ : ∃ m, hs.length = m + 1 := ⟨hs.length - 1, by omega⟩
    have hm1 : (hs.length : Int) - 1 = (m : Int) := by omega
    have hm2 : (hs.length : Int) - 2 = (m : Int) - 1 := by omega
    have hlm : (m : Int) < (hs.length : Int) := by omega
    have hn0' : ¬ ((hs.length : Int) = 0) := by omega
    have hXW := hX.next hbel
    obtain ⟨A', cap', e1, hc1, hc2, hh⟩ := hXW
    injection e1 with e1 _ e3
    subst e1; subst e3
    obtain ⟨g, o, rfl, hg, hrange⟩ := hh m (by omega)
    have Hh := Lib.hid (And.intro hh hm)
    clear hh hm hn0
    have hlcap : (hs.length : Int) ≤ (cap : Int) := by omega
    obtain ⟨d0, hd0⟩ : ∃ d0, hs.getD m [] = d0 := ⟨_, rfl⟩
    rw [hd0] at hrange
    have Hd0 := Lib.hid hd0
    clear hd0
    have hD7 := Blk.new W1 43 (arr 32 fun _ => 0)
    go_wp2_with (first
      | (refine wpList_loadMid rfl 43 (.tmp 33) rfl g (o + m * 32) rfl (dat d0) _ hrange Tryd.underlying43 rfl (by rw [dat_size]; kernel_rfl) ?_)
      | (refine wpList_storeDat rfl rfl 43 (.tmp 7) (.tmp 34) rfl W1.heap.size rfl d0 _ rfl _ hD7 (by kernel_rfl) ?_; intro W2 hB2 hon2))
    have hb12 := below_only (below_new1 W1 (Obj.cells (arr 32 fun _ => 0) 43)) hon2 (Nat.le_refl _) (by simp)
    have hDlt := hD.lt
    have hAlt := hA.lt
    have HA := Lib.hid (And.intro hA (And.intro hD (And.intro hbel (And.intro hB2 hb12))))
    clear hA hD hbel hB2 hb12 hon2 hrange hD7 c0 c2
    go_loopw [8] (fun iv wr => ∃ j : Nat, j ≤ m ∧ iv = .int .i64 ((j : Int) - 1) ∧ Blk wr W1.heap.size 43 (dat (foldM (cutW x) (hs.drop j))) ∧ Below W1.heap.size W1 wr) (fun iv _ => (intOf iv + 1).toNat)
    case atStart =>
      refine ⟨m, Nat.le_refl _, rfl, ?_, HA.out.2.2.2.2⟩
      have e : hs.drop m = [d0] := by
        have hlt : m < hs.length := by have := Hh.out.2; omega
        rw [List.drop_eq_getElem_cons hlt, List.drop_of_length_le (by have := Hh.out.2; omega), ← Hd0.out, List.getD_eq_getElem?_getD, List.getElem?_eq_getElem hlt]; rfl
      rw [e]
      exact HA.out.2.2.2.1
    case round =>
      obtain ⟨j, hj, rfl, hB, hb⟩ := hrel
      cases j with
      | zero =>
        have hfd : foldM (cutW x) (hs.drop 0) = rd := Hrd.out
        rw [hfd] at hB
        have hD3 := HA.out.2.1.below hb HA.out.2.1.lt
        have hbw := HA.out.2.2.1.trans (hb.mono HA.out.2.2.1.size)
        go_wp2_with (first
          | (refine wpList_load_row rfl _ (.tmp 7) rfl W1.heap.size rfl _ _ _ _ hB Tryd.underlying43 rfl (by rw [dat_size]; kernel_rfl) ?_)
          | (refine wpList_storeDat rfl rfl 43 (.tmp 4) (.tmp 49) rfl (w.heap.size + 1) rfl rd _ rfl _ hD3 (by kernel_rfl) ?_; intro w8 hD8 hon8))
        have hb8 := below_only hbw hon8 (Nat.le_succ _) hbw.size
        exact bodyPost_ret (results_cell_two (p := 4) (q := 5) (ty := 43) rfl _ _ (w.heap.size + 1) _ _ _ _ rfl hD8 Tryd.underlying43 rfl (by rw [dat_size]; kernel_rfl)) rfl ⟨rfl, hb8⟩
      | succ q =>
        have hql : q < hs.length := by have := Hh.out.2; omega
        obtain ⟨g', o', e1, hg', hrq⟩ := Hh.out.1 q hql
        injection e1 with e1
        injection e1 with eg eo _
        subst eg; subst eo
        have hdq : (hs.getD q []).length = 32 := Hall.out _ (by rw [List.getD_eq_getElem?_getD, List.getElem?_eq_getElem hql]; exact List.getElem_mem _)
        have hfold : foldM (cutW x) (hs.drop q) = nodeM (cutW x) (hs.getD q []) (foldM (cutW x) (hs.drop (q + 1))) := by
          rw [List.drop_eq_getElem_cons hql, foldM_cons _ _ (fun h => by have h2 := congrArg List.length h; rw [List.length_drop, List.length_nil] at h2; have := Hh.out.2; omega), List.getD_eq_getElem?_getD, List.getElem?_eq_getElem hql]; rfl
        have hfl : (foldM (cutW x) (hs.drop (q + 1))).length = 32 := foldM_length _ _ (fun d hd => Hall.out d (List.mem_of_mem_drop hd))
        generalize hs.getD q [] = dq at hrq hdq hfold
        generalize foldM (cutW x) (hs.drop (q + 1)) = fq at hB hfold hfl
        have hqi : (0 : Int) ≤ (q : Int) := by omega
        have hqn : (q : Int) < (hs.length : Int) := by omega
        have Hq := Lib.hid (And.intro hfold hj)
        clear hfold hj hql
        go_upto_region 12 with fail
        refine wp_region_mixT 8 (.plain 0 <| .plain 1 <| .plain 2 <| .plain 3 <| .plain 4 <| .plain 5 <| .plain 6 <| .only 7 <| .done) (by kernel_rfl) (by kernel_rfl) (fun X1 hb1 => ?_)
        have hbw := HA.out.2.2.1.trans (hb.mono HA.out.2.2.1.size)
        have hA3 := (HA.out.1.below hb HA.out.1.lt).below hb1 (Nat.lt_of_lt_of_le HA.out.1.lt hb.size)
        have hB3 := hB.below hb1 hB.lt
        have hr3 := range_next (range_next hrq hg' hb) (Nat.lt_of_lt_of_le hg' hb.size) hb1
        iterate 7 (refine mix_plain rfl ?_; (first
          | (refine wpQuiet_load1 rfl _ (.tmp 42) rfl _ rfl _ Tryd.underlying29 rfl (.slice (some ⟨g, o, none⟩) hs.length cap) (fun _ ⟨e, he⟩ => by rw [he]; exact (hA3.plus e).cell 2) ?_; simp only [Act.put, List.setIfInBounds_toArray, List.set_cons_zero, List.set_cons_succ])
          | (refine wpQuiet_loadMid rfl 43 (.tmp 45) rfl g (o + q * 32) rfl (dat dq) _ (fun _ ⟨e, he⟩ => by rw [he]; exact range_plus hr3 e) Tryd.underlying43 rfl (by rw [dat_size]; kernel_rfl) ?_; simp only [Act.put, List.setIfInBounds_toArray, List.set_cons_zero, List.set_cons_succ])
          | (refine wpQuiet_load rfl _ (.tmp 7) rfl W1.heap.size rfl _ (dat fq) _ _ (fun _ ⟨e, he⟩ => by rw [he]; exact hB3.plus e) Tryd.underlying43 rfl (by rw [dat_size]; kernel_rfl) ?_; simp only [Act.put, List.setIfInBounds_toArray, List.set_cons_zero, List.set_cons_succ])
          | go_big_quiet_step (fail)); refine wpQuiet_nil ?_)
        replace hb := hb.trans (hb1.mono hb.size)
        replace hbw := hbw.trans (hb1.mono hbw.size)
        clear hb1 hr3 hA3 hB
        refine mix_only_in rfl (fun K hK => ?_)
        go_wp2_with fail
        refine (mnode_any x dq fq hdq hfl X1 (hG.next hbw)).mono ?_
        rintro r X2 ⟨rfl, hb2⟩
        have hB4 := hB3.below hb2 hB3.lt
        have hb4 := hb.trans (hb2.mono hb.size)
        have H2 := Lib.hid (below_plus hb2)
        clear hB3 hb hb2 hbw
        go_wp2_with fail
        refine hK _ _ H2.out ?_
        clear hK K H2
        refine mix_done ?_
        simp only [List.drop_succ_cons, List.drop_zero]
        have Hq2 := Lib.hid Hq.out.1
        obtain ⟨dn, hdn⟩ : ∃ dn, nodeM (cutW x) dq fq = dn := ⟨_, rfl⟩
        rw [hdn] at Hq2 ⊢
        clear hdn
        go_wp2_with (first
          | (refine wpList_storeDat rfl rfl 43 (.tmp 7) (.tmp 48) rfl W1.heap.size rfl dn _ rfl _ hB4 (by kernel_rfl) ?_; intro X3 hD3 hon3; have hb5 := below_only hb4 hon3 (Nat.le_refl _) hb4.size; clear hon3 hb4 hB4))
        go_roundw
        case rel => exact ⟨q, by have := Hq.out.2; omega, by go_num, by rw [Hq2.out]; exact hD3, hb5⟩
        case measure => simp [intOf]
set_option maxHeartbeats 1000000 in
set_option maxRecDepth 100000 in
theorem rroot_any (hv : Value) (n0 : Nat) (b e : Nat) (hb : b < 18446744073709551616) (he : e < 18446744073709551616) (A : Option Addr) (cap : Nat) (hs : List (List UInt8)) (hall : ∀ d ∈ hs, d.length = 32) (hn : hs.length ≤ 1000000) (w : World) (hX : DX w (.slice A hs.length cap) hs) (hh : Hsr w w.heap.size hv n0) :
    Calls Tryd.prog 24 #[hv, .agg (rgC b e (.slice A hs.length cap))] w fun r w' => r = .returned (.tuple #[.agg (dat (rootV (n0) b e hs).1), .int .i64 ((rootV (n0) b e hs).2 : Int)]) ∧ Below w.heap.size w w' := by
  have Hall := Lib.hid hall
  clear hall
  obtain ⟨rd, re, hrv⟩ : ∃ rd re, rootV (n0) b e hs = (rd, re) := ⟨_, _, rfl⟩
  rw [hrv]
  have Hrv := Lib.hid hrv
  clear hrv
  show Calls _ _ _ _ fun r w' => r = .returned (.tuple #[.agg (dat rd), .int .i64 (re : Int)]) ∧ Below w.heap.size w w'
  have hA := (Blk.new w 35 (rgC b e (.slice A hs.length cap))).alloc (Obj.cells (arr 32 fun _ => 0) 43)
  have hD := Blk.new2 w (Obj.cells (rgC b e (.slice A hs.length cap)) 35) 43 (arr 32 fun _ => 0)
  have hb1 := below_new1 w (Obj.cells (rgC b e (.slice A hs.length cap)) 35)
  have hb2 := hb1.alloc hb1.size (Obj.cells (arr 32 fun _ => 0) 43)
  unfold rgC at *
  simp only [nU] at *
  go_enter Tryd.func24, Tryd.ntmps24
  go_wp2_with fail
  refine calls_at (fun W => Blk W w.heap.size 35 #[.int .u64 (b : Int), .int .u64 (e : Int), .slice A hs.length cap] ∧ Blk W (w.heap.size + 1) 43 (arr 32 fun _ => 0) ∧ Below w.heap.size w W) ⟨hA, hD, hb2⟩ ?_
  clear hA hD hb1 hb2
  rintro W ⟨hA, hD, hbel⟩
  refine (rright_any b e hb he A hs.length cap W).mono ?_
  rintro r W1 ⟨rfl, hb1⟩
  replace hA := hA.below hb1 hA.lt
  replace hD := hD.below hb1 hD.lt
  replace hbel := hbel.trans (hb1.mono hbel.size)
  clear hb1
  have c0 : W1.cell? ⟨w.heap.size, 0, none⟩ = some (.int .u64 (b : Int)) := hA.cell 0
  have c2 : W1.cell? ⟨w.heap.size, 2, none⟩ = some (.slice A hs.length cap) := hA.cell 2
  cases hr : rightB b e hs.length with
  | false =>
    have hh := Hrv.out
    unfold rootV at hh
    rw [hr, if_pos rfl] at hh
    injection hh with h1 h2
    subst h1; subst h2
    have hDz : Blk W1 (w.heap.size + 1) 43 (dat zeroD) := by rw [dat_zeroD]; exact hD
    go_wp2_with (first
      | (refine wpList_storeDat rfl rfl 43 (.tmp 4) (.tmp 12) rfl (w.heap.size + 1) rfl zeroD _ (by rw [dat_zeroD]; rfl) _ hD (by kernel_rfl) ?_; intro w2 hD2 hon2))
    have hb2 := below_only hbel hon2 (Nat.le_succ _) hbel.size
    exact bodyPost_ret (results_cell_two (p := 4) (q := 5) (ty := 43) rfl _ _ (w.heap.size + 1) _ _ _ _ rfl hD2 Tryd.underlying43 rfl (by rw [dat_size]; kernel_rfl)) rfl ⟨rfl, hb2⟩
  | true =>
    by_cases hb0 : b = 0
    case neg =>
      have hh := Hrv.out
      unfold rootV at hh
      rw [hr, if_neg (by decide), if_pos hb0] at hh
      injection hh with h1 h2
      subst h1; subst h2
      have hb0' : ¬ ((b : Int) = 0) := by omega
      go_wp2_with (first
        | (refine wpList_storeDat rfl rfl 43 (.tmp 4) (.tmp 16) rfl (w.heap.size + 1) rfl zeroD _ (by rw [dat_zeroD]; rfl) _ hD (by kernel_rfl) ?_; intro w2 hD2 hon2))
      have hb2 := below_only hbel hon2 (Nat.le_succ _) hbel.size
      exact bodyPost_ret (results_cell_two (p := 4) (q := 5) (ty := 43) rfl _ _ (w.heap.size + 1) _ _ _ _ rfl hD2 Tryd.underlying43 rfl (by rw [dat_size]; kernel_rfl)) rfl ⟨rfl, hb2⟩
    have hh := Hrv.out
    unfold rootV at hh
    rw [hr, if_neg (by decide), if_neg (by simp [hb0])] at hh
    injection hh with h1 h2
    subst h2
    have Hrd := Lib.hid h1
    clear h1
    subst hb0
    by_cases hn0 : hs.length = 0
    case pos =>
      obtain rfl : hs = [] := List.eq_nil_of_length_eq_zero hn0
      have hrl : rd.length = 32 := by rw [← Hrd.out]; exact sumM_length _ _
      go_wp2_with fail
      refine (r8root_any hv n0 _ [] (Nat.le_refl _) (by decide) (fun _ h => by cases h) _ _ SSl.nil9 (hh.nxt hbel)).mono ?_
      rintro r W2 ⟨rfl, hb2⟩
      rw [show rootM (n0) [] = rd from Hrd.out]
      replace hD := hD.below hb2 hD.lt
      replace hbel := hbel.trans (hb2.mono hbel.size)
      go_wp2_with (first
        | (refine wpList_storeDat rfl rfl 43 (.tmp 4) (.tmp 23) rfl (w.heap.size + 1) rfl rd _ rfl _ hD (by kernel_rfl) ?_; intro w2 hD2 hon2))
      have hb2 := below_only hbel hon2 (Nat.le_succ _) hbel.size
      exact bodyPost_ret (results_cell_two (p := 4) (q := 5) (ty := 43) rfl _ _ (w.heap.size + 1) _ _ _ _ rfl hD2 Tryd.underlying43 rfl (by rw [dat_size]; kernel_rfl)) rfl ⟨rfl, hb2⟩
    obtain ⟨m, hm⟩ : ∃ m, hs.length = m + 1 := ⟨hs.length - 1, by omega⟩
    have hm1 : (hs.length : Int) - 1 = (m : Int) := by omega
    have hm2 : (hs.length : Int) - 2 = (m : Int) - 1 := by omega
    have hlm : (m : Int) < (hs.length : Int) := by omega
    have hn0' : ¬ ((hs.length : Int) = 0) := by omega
    have hXW := hX.next hbel
    obtain ⟨A', cap', e1, hc1, hc2, hh⟩ := hXW
    injection e1 with e1 _ e3
    subst e1; subst e3
    obtain ⟨g, o, rfl, hg, hrange⟩ := hh m (by omega)
    have Hh := Lib.hid (And.intro hh hm)
    clear hh hm hn0
    have hlcap : (hs.length : Int) ≤ (cap : Int) := by omega
    obtain ⟨d0, hd0⟩ : ∃ d0, hs.getD m [] = d0 := ⟨_, rfl⟩
    rw [hd0] at hrange
    have Hd0 := Lib.hid hd0
    clear hd0
    have hD7 := Blk.new W1 43 (arr 32 fun _ => 0)
    go_wp2_with (first
      | (refine wpList_loadMid rfl 43 (.tmp 28) rfl g (o + m * 32) rfl (dat d0) _ hrange Tryd.underlying43 rfl (by rw [dat_size]; kernel_rfl) ?_)
      | (refine wpList_storeDat rfl rfl 43 (.tmp 7) (.tmp 29) rfl W1.heap.size rfl d0 _ rfl _ hD7 (by kernel_rfl) ?_; intro W2 hB2 hon2))
    have hb12 := below_only (below_new1 W1 (Obj.cells (arr 32 fun _ => 0) 43)) hon2 (Nat.le_refl _) (by simp)
    have hDlt := hD.lt
    have hAlt := hA.lt
    have HA := Lib.hid (And.intro hA (And.intro hD (And.intro hbel (And.intro hB2 hb12))))
    clear hA hD hbel hB2 hb12 hon2 hrange hD7 c0 c2
    go_loopw [8] (fun iv wr => ∃ j : Nat, j ≤ m ∧ iv = .int .i64 ((j : Int) - 1) ∧ Blk wr W1.heap.size 43 (dat (foldM (n0) (hs.drop j))) ∧ Below W1.heap.size W1 wr) (fun iv _ => (intOf iv + 1).toNat)
    case atStart =>
      refine ⟨m, Nat.le_refl _, rfl, ?_, HA.out.2.2.2.2⟩
      have e : hs.drop m = [d0] := by
        have hlt : m < hs.length := by have := Hh.out.2; omega
        rw [List.drop_eq_getElem_cons hlt, List.drop_of_length_le (by have := Hh.out.2; omega), ← Hd0.out, List.getD_eq_getElem?_getD, List.getElem?_eq_getElem hlt]; rfl
      rw [e]
      exact HA.out.2.2.2.1
    case round =>
      obtain ⟨j, hj, rfl, hB, hb⟩ := hrel
      cases j with
      | zero =>
        have hfd : foldM (n0) (hs.drop 0) = rd := Hrd.out
        rw [hfd] at hB
        have hD3 := HA.out.2.1.below hb HA.out.2.1.lt
        have hbw := HA.out.2.2.1.trans (hb.mono HA.out.2.2.1.size)
        go_wp2_with (first
          | (refine wpList_load_row rfl _ (.tmp 7) rfl W1.heap.size rfl _ _ _ _ hB Tryd.underlying43 rfl (by rw [dat_size]; kernel_rfl) ?_)
          | (refine wpList_storeDat rfl rfl 43 (.tmp 4) (.tmp 44) rfl (w.heap.size + 1) rfl rd _ rfl _ hD3 (by kernel_rfl) ?_; intro w8 hD8 hon8))
        have hb8 := below_only hbw hon8 (Nat.le_succ _) hbw.size
        exact bodyPost_ret (results_cell_two (p := 4) (q := 5) (ty := 43) rfl _ _ (w.heap.size + 1) _ _ _ _ rfl hD8 Tryd.underlying43 rfl (by rw [dat_size]; kernel_rfl)) rfl ⟨rfl, hb8⟩
      | succ q =>
        have hql : q < hs.length := by have := Hh.out.2; omega
        obtain ⟨g', o', e1, hg', hrq⟩ := Hh.out.1 q hql
        injection e1 with e1
        injection e1 with eg eo _
        subst eg; subst eo
        have hdq : (hs.getD q []).length = 32 := Hall.out _ (by rw [List.getD_eq_getElem?_getD, List.getElem?_eq_getElem hql]; exact List.getElem_mem _)
        have hfold : foldM (n0) (hs.drop q) = nodeM (n0) (hs.getD q []) (foldM (n0) (hs.drop (q + 1))) := by
          rw [List.drop_eq_getElem_cons hql, foldM_cons _ _ (fun h => by have h2 := congrArg List.length h; rw [List.length_drop, List.length_nil] at h2; have := Hh.out.2; omega), List.getD_eq_getElem?_getD, List.getElem?_eq_getElem hql]; rfl
        have hfl : (foldM (n0) (hs.drop (q + 1))).length = 32 := foldM_length _ _ (fun d hd => Hall.out d (List.mem_of_mem_drop hd))
        generalize hs.getD q [] = dq at hrq hdq hfold
        generalize foldM (n0) (hs.drop (q + 1)) = fq at hB hfold hfl
        have hqi : (0 : Int) ≤ (q : Int) := by omega
        have hqn : (q : Int) < (hs.length : Int) := by omega
        have Hq := Lib.hid (And.intro hfold hj)
        clear hfold hj hql
        go_upto_region 12 with fail
        refine wp_region_mixT 8 (.plain 0 <| .plain 1 <| .plain 2 <| .plain 3 <| .plain 4 <| .plain 5 <| .plain 6 <| .only 7 <| .done) (by kernel_rfl) (by kernel_rfl) (fun X1 hb1 => ?_)
        have hbw := HA.out.2.2.1.trans (hb.mono HA.out.2.2.1.size)
        have hA3 := (HA.out.1.below hb HA.out.1.lt).below hb1 (Nat.lt_of_lt_of_le HA.out.1.lt hb.size)
        have hB3 := hB.below hb1 hB.lt
        have hr3 := range_next (range_next hrq hg' hb) (Nat.lt_of_lt_of_le hg' hb.size) hb1
        iterate 7 (refine mix_plain rfl ?_; (first
          | (refine wpQuiet_load1 rfl _ (.tmp 37) rfl _ rfl _ Tryd.underlying29 rfl (.slice (some ⟨g, o, none⟩) hs.length cap) (fun _ ⟨e, he⟩ => by rw [he]; exact (hA3.plus e).cell 2) ?_; simp only [Act.put, List.setIfInBounds_toArray, List.set_cons_zero, List.set_cons_succ])
          | (refine wpQuiet_loadMid rfl 43 (.tmp 40) rfl g (o + q * 32) rfl (dat dq) _ (fun _ ⟨e, he⟩ => by rw [he]; exact range_plus hr3 e) Tryd.underlying43 rfl (by rw [dat_size]; kernel_rfl) ?_; simp only [Act.put, List.setIfInBounds_toArray, List.set_cons_zero, List.set_cons_succ])
          | (refine wpQuiet_load rfl _ (.tmp 7) rfl W1.heap.size rfl _ (dat fq) _ _ (fun _ ⟨e, he⟩ => by rw [he]; exact hB3.plus e) Tryd.underlying43 rfl (by rw [dat_size]; kernel_rfl) ?_; simp only [Act.put, List.setIfInBounds_toArray, List.set_cons_zero, List.set_cons_succ])
          | go_big_quiet_step (fail)); refine wpQuiet_nil ?_)
        replace hb := hb.trans (hb1.mono hb.size)
        replace hbw := hbw.trans (hb1.mono hbw.size)
        clear hb1 hr3 hA3 hB
        refine mix_only_in rfl (fun K hK => ?_)
        go_wp2_with fail
        refine (r8node_any hv n0 dq fq hdq hfl X1 (hh.nxt hbw)).mono ?_
        rintro r X2 ⟨rfl, hb2⟩
        have hB4 := hB3.below hb2 hB3.lt
        have hb4 := hb.trans (hb2.mono hb.size)
        have H2 := Lib.hid (below_plus hb2)
        clear hB3 hb hb2 hbw
        go_wp2_with fail
        refine hK _ _ H2.out ?_
        clear hK K H2
        refine mix_done ?_
        simp only [List.drop_succ_cons, List.drop_zero]
        have Hq2 := Lib.hid Hq.out.1
        obtain ⟨dn, hdn⟩ : ∃ dn, nodeM (n0) dq fq = dn := ⟨_, rfl⟩
        rw [hdn] at Hq2 ⊢
        clear hdn
        go_wp2_with (first
          | (refine wpList_storeDat rfl rfl 43 (.tmp 7) (.tmp 43) rfl W1.heap.size rfl dn _ rfl _ hB4 (by kernel_rfl) ?_; intro X3 hD3 hon3; have hb5 := below_only hb4 hon3 (Nat.le_refl _) hb4.size; clear hon3 hb4 hB4))
        go_roundw
        case rel => exact ⟨q, by have := Hq.out.2; omega, by go_num, by rw [Hq2.out]; exact hD3, hb5⟩
        case measure => simp [intOf]
end Go.Proofs.YtkogehkmldbhgaaDoor
