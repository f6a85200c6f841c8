/- Texts that stand behind one another: Std, StPn, StL0, StNm. No condition. -/
import Derived.Test.YtcdkadidkkbhpaaDoorS21
import Derived.Test.YtcdkadidkkbhpaaDoorS23
import Derived.Test.YtcdkadidkkbhpaaDoorS18
import Derived.Test.YtcdkadidkkbhpaaDoorS20
import Derived.Test.YtcdkadidkkbhpaaDoorS24
import Derived.Test.YtcdkadidkkbhpaaDoorS34
import Derived.Test.YtcdkadidkkbhpaaDoorS30
/- The walk of state.Stored. No condition. -/
namespace Go.Proofs.YtcdkadidkkbhpaaDoor
open Go Go.RowKit
attribute [local go_sem] n8_lo n8_hi n64_lo n64_hi n32_lo n32_hi
/-- the sum over the first ones -/
def sumTo {α : Type} (f : α → Nat) (l : List α) (k : Nat) : Nat := ((l.take k).map f).sum
theorem sumTo_zero {α : Type} (f : α → Nat) (l : List α) : sumTo f l 0 = 0 := rfl
theorem sumTo_succ {α : Type} (f : α → Nat) (l : List α) (d : α) (k : Nat) (h : k < l.length) : sumTo f l (k + 1) = sumTo f l k + f (l.getD k d) := by
  unfold sumTo
  rw [List.take_succ_eq_append_getElem h, List.map_append, List.sum_append, List.getD_eq_getElem?_getD, List.getElem?_eq_getElem h]
  simp
theorem sumTo_all {α : Type} (f : α → Nat) (l : List α) : sumTo f l l.length = (l.map f).sum := by unfold sumTo; rw [List.take_length]
theorem sum_le {α : Type} (f : α → Nat) (M : Nat) : ∀ (l : List α), (∀ x ∈ l, f x ≤ M) → (l.map f).sum ≤ l.length * M
  | [], _ => by simp
  | x :: l, h => by
    have h1 := sum_le f M l (fun y hy => h y (List.mem_cons_of_mem _ hy))
    have h2 := h x List.mem_cons_self
    rw [List.map_cons, List.sum_cons, List.length_cons, Nat.add_mul]; omega
theorem sumTo_le {α : Type} (f : α → Nat) (M : Nat) (l : List α) (k N : Nat) (h : ∀ x ∈ l, f x ≤ M) (hN : l.length ≤ N) : sumTo f l k ≤ N * M := by
  have h1 := sum_le f M (l.take k) (fun x hx => h x (List.mem_of_mem_take hx))
  have h2 : (l.take k).length ≤ N := by rw [List.length_take]; omega
  exact Nat.le_trans h1 (Nat.mul_le_mul_right _ h2)
def stB (b : List UInt8) : Nat := b.length + 16
def stL (l : List (List UInt8)) : Nat := (l.map stB).sum
def stT (t : TreL) : Nat := stL t.leaves + stL t.queue
def stS (s : StaL) : Nat := (s.trees.map stT).sum
theorem stL_le (l : List (List UInt8)) (h : l.length ≤ 1000000) (h2 : ∀ b ∈ l, b.length ≤ 1000000) : stL l ≤ 1000016000000 := by
  have h1 := sum_le stB 1000016 l (fun b hb => by unfold stB; have := h2 b hb; omega)
  have h3 := Nat.mul_le_mul_right 1000016 h
  unfold stL
  omega
theorem stT_le (t : TreL) (h : t.ok) : stT t ≤ 2000032000000 := by
  obtain ⟨-, -, -, -, -, -, -, h8, h9, h10, h11⟩ := h
  have h1 := stL_le t.leaves h8 h10
  have h2 := stL_le t.queue h9 h11
  unfold stT
  omega
theorem stS_le (s : StaL) (h : s.ok) : stS s ≤ 2000032000000000 := by
  obtain ⟨-, -, h3, -, h5, -⟩ := h
  have h1 := sum_le stT 2000032000000 s.trees (fun t ht => stT_le t (h5 t ht))
  have h2 := Nat.mul_le_mul_right 2000032000000 h3
  unfold stS
  omega
set_option maxHeartbeats 2000000 in
set_option maxRecDepth 100000 in
theorem stored_any (v : Value) (s : StaL) (w : World) (hS : Sta w w.heap.size v s) (hok : s.ok) :
    Calls Tryd.prog 9 #[v] w fun e w' => e = .returned (.int .u64 (stS s : Int)) ∧ Below w.heap.size w w' := by
  obtain ⟨tv, rv, gv, rfl, hT, hR, hG⟩ := hS
  obtain ⟨Ar, cr, er⟩ := hR.shape
  obtain ⟨-, -, k2, -, k4, -⟩ := hok
  have HF := Lib.hid (And.intro hR k4)
  obtain ⟨n, hn⟩ : ∃ n, s.trees.length = n := ⟨_, rfl⟩
  have HN := Lib.hid hn
  rw [hn] at er k2
  subst er
  clear hR hT hG k4 hn
  go_enter Tryd.func9, Tryd.ntmps9
  go_upto_region 1 with fail
  refine wp_at (fun W => Blk W w.heap.size 32 (staC s tv (.slice Ar n cr) gv) ∧ Below w.heap.size w W) ⟨Blk.new w _ _, below_new1 w _⟩ ?_
  rintro W1 ⟨hS1, hb1⟩
  have c4 : W1.cell? ⟨w.heap.size, 4, none⟩ = some (.slice Ar n cr) := hS1.cell 4
  clear hS1
  go_wp2_with fail
  clear c4
  go_loopg [3, 5, 7, 9, 13] (n + 1) (fun gk av pv lv bv jv wr => ∃ k : Nat, n + 1 ≤ k + gk ∧ k ≤ n ∧ jv = .int .i64 (k : Int) ∧ av = .int .u64 (sumTo stT s.trees k : Int) ∧ Below w.heap.size w wr)
  case atStart => exact ⟨0, by omega, by omega, rfl, rfl, hb1⟩
  case round =>
    obtain ⟨k, hk, hkn, rfl, rfl, hb⟩ := hrel
    have HX := Lib.hid (And.intro hk hb)
    clear hk hb hb1
    by_cases hlt : k < n
    · have hki : (k : Int) < (n : Int) := by omega
      have hgk : 0 < gk := by have := HX.out.1; omega
      have hkt : k < s.trees.length := by rw [HN.out]; exact hlt
      obtain ⟨gr, or_, d, l, q, eA, hgr, hra, hd, hl, hq⟩ := HF.out.1.at_ k hkt
      subst eA
      have hok : (s.trees.getD k zeroTre).ok := HF.out.2 _ (by rw [List.getD_eq_getElem?_getD, List.getElem?_eq_getElem hkt]; exact List.getElem_mem _)
      have HT := Lib.hid (sumTo_succ stT s.trees zeroTre k hkt)
      have hsum := sumTo_le stT 2000032000000 s.trees k 1000 (fun t ht => stT_le t (HF.out.2 t ht)) (by rw [HN.out]; exact k2)
      have Hsum := Lib.hid hsum
      obtain ⟨N0, hN0⟩ : ∃ N, sumTo stT s.trees k = N := ⟨_, rfl⟩
      rw [hN0] at Hsum ⊢
      have HN0 := Lib.hid hN0
      generalize s.trees.getD k zeroTre = t at hra hd hl hq hok HT
      obtain ⟨Ad, cd, e1⟩ := hd.shape
      obtain ⟨Al, cl, e2⟩ : ∃ A c, l = .slice A t.leaves.length c := by obtain ⟨A, c, _, e, _⟩ := hl; exact ⟨A, c, e⟩
      obtain ⟨Aq, cq, e3⟩ : ∃ A c, q = .slice A t.queue.length c := by obtain ⟨A, c, _, e, _⟩ := hq; exact ⟨A, c, e⟩
      have h1 := treC_one t d l q (by rw [e1]; rfl) (by rw [e2]; rfl) (by rw [e3]; rfl)
      subst e1; subst e2; subst e3
      have HR := Lib.hid (show wr.rangeAt gr (or_ + k * 75) (treC t (.slice Ad t.draws.length cd) (.slice Al t.leaves.length cl) (.slice Aq t.queue.length cq)).toList from fun j u hj => (HX.out.2.cell (p := ⟨gr, or_ + k * 75 + j, none⟩) hgr).trans (hra j u hj))
      have HL := Lib.hid (And.intro hl (And.intro hq (And.intro hok h1)))
      clear hra hd hl hq hok h1 hN0 hsum
      have hD := Blk.new wr 49 (treC ⟨0, 0, 0, 0, [], [], [], zeroHead, []⟩ (.slice none 0 0) (.slice none 0 0) (.slice none 0 0))
      have hn := below_new1 wr (Obj.cells (treC ⟨0, 0, 0, 0, [], [], [], zeroHead, []⟩ (.slice none 0 0) (.slice none 0 0) (.slice none 0 0)) 49)
      have hz := zero_tree
      go_upto_region 5 with (first
        | (refine wpList_loadR 49 (.tmp 15) rfl gr (or_ + k * 75) rfl (treC t (.slice Ad t.draws.length cd) (.slice Al t.leaves.length cl) (.slice Aq t.queue.length cq)) _ HR.out Tryd.underlying49 rfl (by rw [treC_size]; kernel_rfl) rfl ?_)
        | (refine wpList_storeB rfl rfl 49 (.tmp 5) (.tmp 16) rfl wr.heap.size 0 rfl (treC t (.slice Ad t.draws.length cd) (.slice Al t.leaves.length cl) (.slice Aq t.queue.length cq)) rfl _ _ hD (by rw [treC_size]; kernel_rfl) (by rw [treC_size, treC_size]; omega) HL.out.2.2.2 ?_; intro wa hTa hga))
      rw [copied_all _ _ (by rw [treC_size, treC_size])] at hTa
      have hba := below_only hn hga (Nat.le_refl _) hn.size
      have Hb := Lib.hid (HX.out.2.trans (hba.mono HX.out.2.size))
      have c5 : wa.cell? ⟨wr.heap.size, 5, none⟩ = some (.slice Al t.leaves.length cl) := by rw [hTa.cell, treC_5]
      have c6 : wa.cell? ⟨wr.heap.size, 6, none⟩ = some (.slice Aq t.queue.length cq) := by rw [hTa.cell, treC_6]
      clear hD hn hz hTa hga hba HR
      go_upto_region 6 with fail
      clear c5 c6
      refine wp_at (fun W => Blk W wa.heap.size 46 #[.slice Al t.leaves.length cl, .slice Aq t.queue.length cq] ∧ Below w.heap.size w W) ⟨Blk.new wa _ _, Hb.out.trans ((below_new1 wa _).mono Hb.out.size)⟩ ?_
      rintro wb ⟨hLb, hbb⟩
      have HB := Lib.hid (And.intro hLb hbb)
      clear hLb hbb Hb
      generalize wa.heap.size = lb at HB ⊢
      obtain ⟨gk0, hgk0⟩ : ∃ m, m = gk := ⟨_, rfl⟩
      go_loopg [3, 7, 9, 23] 3 (fun gi av lv bv jv wq => ∃ j : Nat, 3 ≤ j + gi ∧ j ≤ 2 ∧ jv = .int .i64 (j : Int) ∧ av = .int .u64 ((N0 + sumTo stL [t.leaves, t.queue] j : Nat) : Int) ∧ Blk wq lb 46 #[.slice Al t.leaves.length cl, .slice Aq t.queue.length cq] ∧ Below w.heap.size w wq)
      case atStart => exact ⟨0, by omega, by omega, rfl, rfl, HB.out.1, HB.out.2⟩
      case round =>
        clear HB
        obtain ⟨j, hj, hj2, rfl, rfl, hLq, hbq⟩ := hrel
        have HQ := Lib.hid (And.intro hj (And.intro hLq hbq))
        clear hj hLq hbq
        by_cases hj1 : j < 2
        · have hji : (j : Int) < 2 := by omega
          obtain ⟨x, xs, hcx, hxs, hxn, hxl, hxe⟩ : ∃ (x : Value) (xs : List (List UInt8)), wr.cell? ⟨lb, j, none⟩ = some x ∧ SSl w w.heap.size x xs ∧ xs.length ≤ 1000000 ∧ (∀ b ∈ xs, b.length ≤ 1000000) ∧ [t.leaves, t.queue].getD j [] = xs := by
            obtain ⟨-, -, -, -, -, -, -, h8, h9, h10, h11⟩ := HL.out.2.2.1
            match j, hj1 with
            | 0, _ => exact ⟨.slice Al t.leaves.length cl, t.leaves, HQ.out.2.1.cell 0, HL.out.1, h8, h10, rfl⟩
            | 1, _ => exact ⟨.slice Aq t.queue.length cq, t.queue, HQ.out.2.1.cell 1, HL.out.2.1, h9, h11, rfl⟩
          have HS := Lib.hid (show sumTo stL [t.leaves, t.queue] (j + 1) = sumTo stL [t.leaves, t.queue] j + stL xs by rw [← hxe]; exact sumTo_succ stL [t.leaves, t.queue] [] j hj1)
          have hs2 := sumTo_le stL 1000016000000 [t.leaves, t.queue] j 2 (fun b hb => by
            obtain ⟨-, -, -, -, -, -, -, h8, h9, h10, h11⟩ := HL.out.2.2.1
            rcases List.mem_cons.1 hb with rfl | hb
            · exact stL_le _ h8 h10
            · rcases List.mem_singleton.1 hb with rfl
              exact stL_le _ h9 h11) (Nat.le_refl _)
          obtain ⟨N1, hN1⟩ : ∃ N, N0 + sumTo stL [t.leaves, t.queue] j = N := ⟨_, rfl⟩
          have HN1 := Lib.hid (And.intro hN1 (show N1 ≤ 3000000000000000 by have := Hsum.out; omega))
          rw [hN1]
          obtain ⟨Ax, cx, exs⟩ : ∃ A c, x = .slice A xs.length c := by obtain ⟨A, c, _, e, _⟩ := hxs; exact ⟨A, c, e⟩
          subst exs
          obtain ⟨m, hm⟩ : ∃ m, xs.length = m := ⟨_, rfl⟩
          have HM := Lib.hid (And.intro hm (And.intro hxs hxl))
          rw [hm] at hcx hxn
          clear hxs hxl hxe hm hs2 hN1
          go_wp2_with fail
          clear hcx
          obtain ⟨gi0, hgi0⟩ : ∃ z, z = gk := ⟨_, rfl⟩
          go_loopg [3, 9, 29] (m + 1) (fun gz av bv iv wz => ∃ i : Nat, m + 1 ≤ i + gz ∧ i ≤ m ∧ iv = .int .i64 (i : Int) ∧ av = .int .u64 ((N1 + sumTo stB xs i : Nat) : Int) ∧ Blk wz lb 46 #[.slice Al t.leaves.length cl, .slice Aq t.queue.length cq] ∧ Below w.heap.size w wz)
          case atStart => exact ⟨0, by omega, by omega, rfl, rfl, HQ.out.2.1, HQ.out.2.2⟩
          case round =>
            obtain ⟨i, hi, him, rfl, rfl, hLz, hbz⟩ := hrel
            have HZ := Lib.hid (And.intro hi (And.intro hLz hbz))
            clear hi hLz hbz
            by_cases hil : i < m
            · have hii : (i : Int) < (m : Int) := by omega
              have hix : i < xs.length := by rw [HM.out.1]; exact hil
              obtain ⟨gx, ox, y, ey, hgx, hcy, hy⟩ := (HM.out.2.1.below HZ.out.2.2).cellAt i hix
              subst ey
              have hB := Lib.hid (sumTo_succ stB xs [] i hix)
              have hs3 := sumTo_le stB 1000016 xs i 1000000 (fun b hb => by unfold stB; have := HM.out.2.2 b hb; omega) (by rw [HM.out.1]; exact hxn)
              obtain ⟨Ay, cy, eys⟩ : ∃ A c, y = .slice A (xs.getD i []).length c := by obtain ⟨A, c, e, _⟩ := hy; exact ⟨A, c, e⟩
              subst eys
              have hbl : (xs.getD i []).length ≤ 1000000 := HM.out.2.2 _ (by rw [List.getD_eq_getElem?_getD, List.getElem?_eq_getElem hix]; exact List.getElem_mem _)
              have hB2 := Lib.hid (show sumTo stB xs (i + 1) = sumTo stB xs i + ((xs.getD i []).length + 16) from hB.out)
              clear hy hB
              generalize (xs.getD i []).length = bl at hcy hbl hB2
              obtain ⟨N2, hN2⟩ : ∃ N, N1 + sumTo stB xs i = N := ⟨_, rfl⟩
              have h2 : N2 ≤ 4000000000000000 := by have := HN1.out.2; omega
              have HN2 := Lib.hid hN2
              rw [hN2]
              have e1 : (bl : Int) % 18446744073709551616 = (bl : Int) := by omega
              have e2 : ((bl : Int) + 16) % 18446744073709551616 = (bl : Int) + 16 := by omega
              have e3 : ((N2 : Int) + ((bl : Int) + 16)) % 18446744073709551616 = (N2 : Int) + ((bl : Int) + 16) := by omega
              have HE := Lib.hid (show N1 + sumTo stB xs (i + 1) = N2 + (bl + 16) by rw [hB2.out, ← HN2.out]; omega)
              clear hs3 hN2
              go_wp2_with fail
              clear e1 e2 e3 hcy
              go_roundg (gk - 1)
              case measure => have := HZ.out.1; omega
              case rel => exact ⟨i + 1, by have := HZ.out.1; omega, by omega, by go_num, by rw [HE.out]; go_num, HZ.out.2.1, HZ.out.2.2⟩
            · obtain rfl : i = m := by omega
              have HE := Lib.hid (show N0 + sumTo stL [t.leaves, t.queue] (j + 1) = N1 + sumTo stB xs i by
                rw [HS.out, ← Nat.add_assoc, HN1.out.1]
                rw [← HM.out.1, sumTo_all]; rfl)
              go_wp2_with fail
              go_roundg (gi0 - 1)
              case measure => have := HQ.out.1; omega
              case rel => exact ⟨j + 1, by have := HQ.out.1; omega, by omega, by go_num, by rw [HE.out], HZ.out.2.1, HZ.out.2.2⟩
        · obtain rfl : j = 2 := by omega
          have HE := Lib.hid (show sumTo stT s.trees (k + 1) = N0 + sumTo stL [t.leaves, t.queue] 2 by
            rw [HT.out, HN0.out]
            show N0 + (stL t.leaves + stL t.queue) = N0 + (stL t.leaves + (stL t.queue + 0))
            omega)
          go_wp2_with fail
          go_roundg (gk0 - 1)
          case measure => have := HX.out.1; omega
          case rel => exact ⟨k + 1, by have := HX.out.1; omega, by omega, by go_num, by rw [HE.out], HQ.out.2.2⟩
    · obtain rfl : k = n := by omega
      have HE := Lib.hid (show stS s = sumTo stT s.trees k by unfold stS; rw [← HN.out, sumTo_all])
      clear hlt
      go_wp2_with fail
      go_ret
      exact ⟨by rw [HE.out] <;> rfl, HX.out.2⟩
end Go.Proofs.YtcdkadidkkbhpaaDoor

/- state.Publish of a tree that is not there, or was never turned: refused. -/
namespace Go.Proofs.YtcdkadidkkbhpaaDoor
open Go Go.RowKit
attribute [local go_sem] n32_lo n32_hi
theorem built_sig0 : Tryd.prog.built 42 [] = some (sigC zeroHead []) := by kernel_rfl
set_option maxRecDepth 100000 in
theorem wpList_buildSig0 {w : World} {ops : Array Oper} {rest : List Oper} {o : Oper} {a : Act} {Q : Exit → Act → World → Prop} (hgd : o.guard = none) (ho : o.op = .build 42 #[])
    (h : wpList Tryd.prog ops Q rest (a.put o.dst (.agg (sigC zeroHead []))) w) : wpList Tryd.prog ops Q (o :: rest) a w :=
  wpList_plain hgd fun K hK => by
    unfold Oper.wp execOp
    simp only [ho, List.map_toArray, List.map_nil, Sem.run_bind, run_build w _ #[] _ built_sig0, Result.andThen_ok, Sem.run_pure]
    exact hK _ _ h
/-- the tree is there and was turned -/
def turnedC (s : StaL) (k : Int) : Bool := decide (0 ≤ k) && decide (k < (s.trees.length : Int)) && decide (0 < (s.trees.getD k.toNat zeroTre).draws.length)
set_option maxHeartbeats 1000000 in
set_option maxRecDepth 100000 in
theorem pub_no (wd qu : Int) (st : UInt32) (A : Option Addr) (n c : Nat) (v : Value) (s : StaL) (k : Int) (hk : -9223372036854775808 ≤ k ∧ k ≤ 9223372036854775807) (hn : s.trees.length ≤ 1000) (hno : turnedC s k = false) (w : World) (hS : Sta w w.heap.size v s) :
    Calls Tryd.prog 7 #[.agg (cfgC wd qu st (.slice A n c)), v, .int .i64 k] w fun e w' => e = .returned (.tuple #[.agg (sigC zeroHead []), .int .i64 1]) ∧ Below w.heap.size w w' := by
  obtain ⟨tv, rv, gv, rfl, -, hTr, -⟩ := hS
  obtain ⟨Ar, cr, er⟩ := hTr.shape
  subst er
  have HF := Lib.hid (And.intro hTr hno)
  clear hTr hno
  have hzs := zero_sig
  go_enter Tryd.func7, Tryd.ntmps7
  go_upto_region 1 with fail
  clear hzs
  refine wp_at (fun W => Blk W (w.heap.size + 1) 32 (staC s tv (.slice Ar s.trees.length cr) gv) ∧ Blk W (w.heap.size + 2) 42 (sigC zeroHead []) ∧ Below w.heap.size w W)
    ⟨(Blk.new2 _ _ _ _).alloc _, Blk.new3 _ _ _ _ _, below_new3 _ _ _ _⟩ ?_
  rintro W1 ⟨hS1, hR1, hb1⟩
  have c4 : W1.cell? ⟨w.heap.size + 1, 4, none⟩ = some (.slice Ar s.trees.length cr) := hS1.cell 4
  have H1 := Lib.hid (And.intro hR1 hb1)
  clear hS1 hb1
  by_cases k1 : k < 0
  case pos =>
    go_upto_region 2 with fail
    go_wp2_with (first
      | (refine wpList_buildSig0 rfl rfl ?_)
      | (refine wpList_storeB rfl rfl 42 (.tmp 6) (.tmp 30) rfl (w.heap.size + 2) 0 rfl (sigC zeroHead []) rfl _ _ hR1 (by kernel_rfl) (by rw [sigC_size]; omega) (sigC_one _ _) ?_; intro W9 hS9 hg9))
    rw [copied_all _ _ rfl] at hS9
    exact bodyPost_ret (results_cell_tmp (p := 6) (q := 7) (ty := 42) rfl _ _ (w.heap.size + 2) _ _ _ _ rfl hS9 Tryd.underlying42 rfl (by kernel_rfl)) rfl ⟨rfl, below_only H1.out.2 hg9 (by omega) H1.out.2.size⟩
  by_cases k2 : (s.trees.length : Int) ≤ k
  case pos =>
    go_upto_region 2 with fail
    go_wp2_with (first
      | (refine wpList_buildSig0 rfl rfl ?_)
      | (refine wpList_storeB rfl rfl 42 (.tmp 6) (.tmp 30) rfl (w.heap.size + 2) 0 rfl (sigC zeroHead []) rfl _ _ hR1 (by kernel_rfl) (by rw [sigC_size]; omega) (sigC_one _ _) ?_; intro W9 hS9 hg9))
    rw [copied_all _ _ rfl] at hS9
    exact bodyPost_ret (results_cell_tmp (p := 6) (q := 7) (ty := 42) rfl _ _ (w.heap.size + 2) _ _ _ _ rfl hS9 Tryd.underlying42 rfl (by kernel_rfl)) rfl ⟨rfl, below_only H1.out.2 hg9 (by omega) H1.out.2.size⟩
  obtain ⟨m, rfl⟩ : ∃ m : Nat, k = (m : Int) := ⟨k.toNat, by omega⟩
  have hm : m < s.trees.length := by omega
  have hmi : (m : Int) < (s.trees.length : Int) := by omega
  obtain ⟨g, o, d, l, q, eA, hgB, hra, hd, hl, hq⟩ := HF.out.1.at_ m hm
  subst eA
  have hd0 : (s.trees.getD m zeroTre).draws.length = 0 := by
    have h := HF.out.2
    unfold turnedC at h
    simp only [Int.toNat_natCast, show decide (0 ≤ (m : Int)) = true from decide_eq_true (by omega), show decide ((m : Int) < (s.trees.length : Int)) = true from decide_eq_true hmi, Bool.true_and, decide_eq_false_iff_not] at h
    omega
  obtain ⟨Ad, cd, hde⟩ := hd.shape
  rw [hd0] at hde
  subst hde
  have cd0 : W1.cell? ⟨g, o + m * 75 + 4, none⟩ = some (.slice Ad 0 cd) := (H1.out.2.cell (p := ⟨g, o + m * 75 + 4, none⟩) hgB).trans (hra 4 _ (by rw [Array.getElem?_toList, treC_4]))
  clear hd0 hra hd hl hq hgB
  go_upto_region 2 with fail
  go_wp2_with (first
    | (refine wpList_buildSig0 rfl rfl ?_)
    | (refine wpList_storeB rfl rfl 42 (.tmp 6) (.tmp 30) rfl (w.heap.size + 2) 0 rfl (sigC zeroHead []) rfl _ _ hR1 (by kernel_rfl) (by rw [sigC_size]; omega) (sigC_one _ _) ?_; intro W9 hS9 hg9))
  rw [copied_all _ _ rfl] at hS9
  exact bodyPost_ret (results_cell_tmp (p := 6) (q := 7) (ty := 42) rfl _ _ (w.heap.size + 2) _ _ _ _ rfl hS9 Tryd.underlying42 rfl (by kernel_rfl)) rfl ⟨rfl, below_only H1.out.2 hg9 (by omega) H1.out.2.size⟩
end Go.Proofs.YtcdkadidkkbhpaaDoor

/- A state of the call's own whose first tree gets other leaves. No condition. -/
namespace Go.Proofs.YtcdkadidkkbhpaaDoor
open Go Go.RowKit
def setTre0 (s : StaL) (t : TreL) : StaL := { s with trees := s.trees.set 0 t }
theorem setTre0_ok {s : StaL} {t : TreL} (h : s.ok) (ht : t.ok) : (setTre0 s t).ok := by
  obtain ⟨h1, h2, h3, h4, h5, h6⟩ := h
  refine ⟨h1, h2, ?_, h4, fun x hx => ?_, h6⟩
  · show (s.trees.set 0 t).length ≤ 1000
    rw [List.length_set]; exact h3
  · rcases List.mem_or_eq_of_mem_set (show x ∈ s.trees.set 0 t from hx) with hx | rfl
    · exact h5 x hx
    · exact ht
theorem leaves_ok {t : TreL} {ls : List (List UInt8)} (h : t.ok) (h1 : ls.length ≤ 1000000) (h2 : ∀ b ∈ ls, b.length ≤ 1000000) : ({ t with leaves := ls } : TreL).ok := by
  obtain ⟨a1, a2, a3, a4, a5, a6, a7, a8, a9, a10, a11⟩ := h
  exact ⟨a1, a2, a3, a4, a5, a6, a7, h1, a9, h2, a11⟩
theorem sta_leaves0 {TT GT : TypeId} {w : World} {B g n cap : Nat} {tv gv : Value} {s : StaL} (hI : StI TT 49 GT w B (.agg (staC s tv (.slice (some ⟨g, 0, none⟩) n cap) gv)) s) (h0 : 0 < s.trees.length)
    (n1 : 49 ≠ TT) (n2 : 49 ≠ GT) :
    ∃ cs : List (Array Value), (∀ c ∈ cs, c.size = 75) ∧ cs.length = s.trees.length ∧ w.ownsRow B 49 75 (.slice (some ⟨g, 0, none⟩) n cap) cs.length (flat cs) ∧
      ∀ (w1 w' : World) (v : Value) (ls : List (List UInt8)), Below w.heap.size w w1 → w'.ownsRow B 49 75 (.slice (some ⟨g, 0, none⟩) n cap) (cs.set 0 (patch (cs.getD 0 #[]) 5 [v])).length (flat (cs.set 0 (patch (cs.getD 0 #[]) 5 [v]))) → w1.grownBy w' (some g) → SSl w' w'.heap.size v ls →
        Sta w' w'.heap.size (.agg (staC s tv (.slice (some ⟨g, 0, none⟩) n cap) gv)) (setTre0 s { s.trees.getD 0 zeroTre with leaves := ls }) := by
  obtain ⟨t, r, gg, cs, lo, e, oT, oR, hcl, hlo, hm, hTr, oG⟩ := hI
  have e1 : staC s tv (.slice (some ⟨g, 0, none⟩) n cap) gv = staC s t r gg := by injection e
  have et : tv = t := by have := congrArg (fun a : Array Value => a[3]?) e1; injection this
  have er : .slice (some ⟨g, 0, none⟩) n cap = r := by have := congrArg (fun a : Array Value => a[4]?) e1; injection this
  have eg : gv = gg := by have := congrArg (fun a : Array Value => a[5]?) e1; injection this
  subst et; subst er; subst eg
  have hsz : ∀ c ∈ cs, c.size = 75 := fun c hc => by
    obtain ⟨k, hk, rfl⟩ := List.mem_iff_getElem.1 hc
    have := (hTr k (by omega)).size
    rwa [List.getD_eq_getElem?_getD, List.getElem?_eq_getElem hk] at this
  obtain ⟨cur, hcur⟩ := own_blk oR (by omega)
  refine ⟨cs, hsz, hcl, oR, fun w1 w' v ls hb oR' hg hv => ?_⟩
  have hcur1 := hcur.below hb hcur.lt
  obtain ⟨d, l, q, _, _, _, _, ec, _⟩ := hTr 0 h0
  rw [ec, patch_5] at oR'
  have hsz' : ∀ c ∈ cs.set 0 (treC (s.trees.getD 0 zeroTre) d v q), c.size = 75 := fun c hc => by
    rcases List.mem_or_eq_of_mem_set hc with hc | hc
    · exact hsz c hc
    · rw [hc, treC_size]
  have hlt : ∀ x, B ≤ x → True := fun _ _ => trivial
  refine ⟨tv, _, gv, rfl, RX.of_own (fun c hc => by obtain ⟨x, _, rfl⟩ := List.mem_map.1 hc; rfl) (own_typed (own_below oT hb) hg hcur1 n1), ⟨cs.set 0 (treC (s.trees.getD 0 zeroTre) d v q), RX.of_own hsz' oR', by rw [List.length_set, hcl]; show s.trees.length = (s.trees.set 0 _).length; rw [List.length_set], fun k hk => ?_⟩, RX.of_own (fun c hc => by obtain ⟨x, _, rfl⟩ := List.mem_map.1 hc; rfl) (own_typed (own_below oG hb) hg hcur1 n2)⟩
  have hk' : k < s.trees.length := by
    have : (s.trees.set 0 { s.trees.getD 0 zeroTre with leaves := ls }).length = s.trees.length := List.length_set
    have hk2 : k < (s.trees.set 0 { s.trees.getD 0 zeroTre with leaves := ls }).length := hk
    omega
  have hT : Tre w' w'.heap.size (cs.getD k #[]) (s.trees.getD k zeroTre) := ((((hTr k hk').below hb).typed hg hcur1 (by decide) (by decide) (by decide)).treO (Nat.zero_le _)).tre
  by_cases hk0 : k = 0
  · subst hk0
    show Tre w' w'.heap.size ((cs.set 0 (treC (s.trees.getD 0 zeroTre) d v q)).getD 0 #[]) ((s.trees.set 0 { s.trees.getD 0 zeroTre with leaves := ls }).getD 0 zeroTre)
    rw [getD_set_eq _ _ _ _ (by omega), getD_set_eq _ _ _ _ h0]
    obtain ⟨d2, l2, q2, e2, k1, k2, k3⟩ := hT
    rw [ec] at e2
    have ed : d = d2 := by have := congrArg (fun a : Array Value => a[4]?) e2; simp only [treC_4] at this; injection this
    have eq' : q = q2 := by have := congrArg (fun a : Array Value => a[6]?) e2; simp only [treC_6] at this; injection this
    subst ed; subst eq'
    exact ⟨d, v, q, rfl, k1, hv, k3⟩
  · show Tre w' w'.heap.size ((cs.set 0 (treC (s.trees.getD 0 zeroTre) d v q)).getD k #[]) ((s.trees.set 0 { s.trees.getD 0 zeroTre with leaves := ls }).getD k zeroTre)
    rw [getD_set_neq _ _ _ _ _ (fun e => hk0 e.symm), getD_set_neq _ _ _ _ _ (fun e => hk0 e.symm)]
    exact hT
end Go.Proofs.YtcdkadidkkbhpaaDoor

/- The state that StateNumbers' copy becomes: plain. No condition. -/
namespace Go.Proofs.YtcdkadidkkbhpaaDoor
open Go Go.RowKit
def S19b : StaL := setTre0 (newS 32 seed19) { (newS 32 seed19).trees.getD 0 zeroTre with leaves := [List.replicate 5 0] }
theorem S19b_ok : S19b.ok := setTre0_ok (newS_ok 32 seed19) (leaves_ok (by rw [newS_at0]; exact tre1_ok 32 seed19) (by decide) (fun b hb => by
  rcases List.mem_singleton.1 hb with rfl
  decide))
theorem S19_st : stS (newS 32 seed19) = 0 := by kernel_rfl
theorem S19b_st : stS S19b = 21 := by kernel_rfl
theorem S19b_ne : eqSta (newS 32 seed19) S19b = false := by
  cases h : eqSta (newS 32 seed19) S19b with
  | false => rfl
  | true =>
    have e : ((newS 32 seed19).trees.getD 0 zeroTre).leaves.length = (S19b.trees.getD 0 zeroTre).leaves.length := by rw [← (eqSta_iff _ _).1 h]
    have e1 : ((newS 32 seed19).trees.getD 0 zeroTre).leaves.length = 0 := by kernel_rfl
    have e2 : (S19b.trees.getD 0 zeroTre).leaves.length = 1 := by kernel_rfl
    omega
theorem stored_b (v : Value) (w : World) (hS : Sta w w.heap.size v S19b) :
    Calls Tryd.prog 9 #[v] w fun e w' => e = .returned (.int .u64 21) ∧ Below w.heap.size w w' := by
  have m := stored_any v S19b w hS S19b_ok
  rw [S19b_st] at m
  exact m
theorem stored_0 (v : Value) (w : World) (hS : Sta w w.heap.size v (newS 32 seed19)) :
    Calls Tryd.prog 9 #[v] w fun e w' => e = .returned (.int .u64 0) ∧ Below w.heap.size w w' := by
  have m := stored_any v (newS 32 seed19) w hS (newS_ok 32 seed19)
  rw [S19_st] at m
  exact m
theorem same_no (u v : Value) (w : World) (hu : Sta w w.heap.size u (newS 32 seed19)) (hv : Sta w w.heap.size v S19b) :
    Calls Tryd.prog 10 #[u, v] w fun e w' => e = .returned (.bool false) ∧ Below w.heap.size w w' := by
  have m := same_sta u v (newS 32 seed19) S19b w hu hv (newS_ok 32 seed19) S19b_ok
  rw [S19b_ne] at m
  exact m
end Go.Proofs.YtcdkadidkkbhpaaDoor
