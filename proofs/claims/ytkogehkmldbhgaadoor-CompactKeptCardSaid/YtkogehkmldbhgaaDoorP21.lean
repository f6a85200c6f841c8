/- Texts that stand behind one another: CmpO, CmpS. No condition. -/
import Derived.Test.YtkogehkmldbhgaaDoorP20
import Derived.Test.YtkogehkmldbhgaaDoorP19
/- The walk of the reference's Add. No condition. -/
namespace Go.Proofs.YtkogehkmldbhgaaDoor
open Go Go.RowKit
attribute [local irreducible] mixW
attribute [local go_sem] n8_lo n8_hi n64_lo n64_hi n32_lo n32_hi
set_option maxHeartbeats 1000000 in
set_option maxRecDepth 100000 in
theorem radd_any (hv : Value) (n0 : Nat) (b e : Nat) (hb : b < 18446744073709551616) (he : e < 18446744073709551616) (A1 : Option Addr) (c1 : Nat) (h1 : List (List UInt8)) (hall : ∀ d ∈ h1, d.length = 32) (d : List UInt8) (hd : d.length = 32) (w : World) (hX : DX w (.slice A1 h1.length c1) h1) (hh : Hsr w w.heap.size hv n0) :
    Calls Tryd.prog 19 #[hv, .agg (rgC b e (.slice A1 h1.length c1)), .agg (dat d)] w fun r w' => Told w w' r (addV (n0) b e h1 d) := by
  have Hall := Lib.hid hall
  clear hall
  obtain ⟨y, hy⟩ : ∃ y, addV (n0) b e h1 d = y := ⟨_, rfl⟩
  rw [hy]
  have Hy := Lib.hid hy
  clear hy
  unfold Told
  have hA := ((Blk.new w 35 (rgC b e (.slice A1 h1.length c1))).alloc (Obj.cells (dat d) 43)).alloc (Obj.cells (rgC 0 0 (.slice none 0 0)) 35)
  have hB := (Blk.new2 w (Obj.cells (rgC b e (.slice A1 h1.length c1)) 35) 43 (dat d)).alloc (Obj.cells (rgC 0 0 (.slice none 0 0)) 35)
  have hR := blk_new3j w (Obj.cells (rgC b e (.slice A1 h1.length c1)) 35) (Obj.cells (dat d) 43) 35 (rgC 0 0 (.slice none 0 0))
  have hbn := below_new3j w (Obj.cells (rgC b e (.slice A1 h1.length c1)) 35) (Obj.cells (dat d) 43) (Obj.cells (rgC 0 0 (.slice none 0 0)) 35)
  unfold rgC at hA hB hR hbn ⊢
  simp only [nU] at hA hB hR hbn ⊢
  go_enter Tryd.func19, Tryd.ntmps19
  go_wp2_with fail
  refine calls_at (fun W => Blk W w.heap.size 35 (rgC b e (.slice A1 h1.length c1)) ∧ Blk W (w.heap.size + 1) 43 (dat d) ∧ Blk W (w.heap.size + 2) 35 (rgC 0 0 (.slice none 0 0)) ∧ Below w.heap.size w W) ⟨hA, hB, hR, hbn⟩ ?_
  clear hA hB hR hbn
  rintro W ⟨hA, hB, hR, hbel⟩
  refine (rright_any b e hb he A1 h1.length c1 W).mono ?_
  rintro r W1 ⟨rfl, hbx⟩
  replace hA := hA.below hbx hA.lt
  replace hB := hB.below hbx hB.lt
  replace hR := hR.below hbx hR.lt
  replace hbel := hbel.trans (hbx.mono hbel.size)
  clear hbx
  have cA : W1.cell? ⟨w.heap.size, 1, none⟩ = some (.int .u64 (e : Int)) := hA.cell 1
  cases hr1 : rightB b e h1.length with
  | false =>
    have hyy := Hy.out
    unfold addV at hyy
    rw [hr1, if_pos rfl] at hyy
    subst hyy
    go_wp2_with (first
      | (refine wpList_storeAll rfl rfl _ (.tmp 6) (.tmp 16) rfl (w.heap.size + 2) rfl (rgC 0 0 (.slice none 0 0)) rfl 35 _ hR (by kernel_rfl) rfl (rgC_one _ _ _ _ _) ?_; intro w8 h08 hg8))
    have hbel8 := below_only hbel hg8 (by omega) hbel.size
    exact bodyPost_ret (results_cell_two (p := 6) (q := 7) (ty := 35) rfl _ _ (w.heap.size + 2) _ _ _ _ rfl h08 Tryd.underlying35 rfl (by kernel_rfl)) rfl ⟨_, rfl, World.ownsRow_nil _ _ _ _, hbel8⟩
  | true =>
    by_cases heq : e = 4294967296
    case pos =>
      have hyy := Hy.out
      unfold addV at hyy
      rw [hr1, if_neg (by decide), if_pos heq] at hyy
      subst hyy
      have heq' : (4294967296 : Int) ≤ (e : Int) := by omega
      clear heq
      go_wp2_with (first
        | (refine wpList_storeAll rfl rfl _ (.tmp 6) (.tmp 16) rfl (w.heap.size + 2) rfl (rgC 0 0 (.slice none 0 0)) rfl 35 _ hR (by kernel_rfl) rfl (rgC_one _ _ _ _ _) ?_; intro w8 h08 hg8))
      have hbel8 := below_only hbel hg8 (by omega) hbel.size
      exact bodyPost_ret (results_cell_two (p := 6) (q := 7) (ty := 35) rfl _ _ (w.heap.size + 2) _ _ _ _ rfl h08 Tryd.underlying35 rfl (by kernel_rfl)) rfl ⟨_, rfl, World.ownsRow_nil _ _ _ _, hbel8⟩
    have hyy := Hy.out
    unfold addV at hyy
    rw [hr1, if_neg (by decide), if_neg heq] at hyy
    subst hyy
    have O1 := Lib.hid (rightB_ok hr1)
    have he32 : e + 1 ≤ 4294967296 := by have := O1.out.2.1; omega
    have heq' : decide ((4294967296 : Int) ≤ (e : Int)) = false := by simp; omega
    have hadd : IntKind.u64.wrap ((e : Int) + 1) = (e : Int) + 1 := IntWalk.u64_in _ (by omega)
    have He32 := Lib.hid he32
    have Hadd := Lib.hid he
    clear he32 he hb
    have hn1 := below_new1 W1 (Obj.cells (dat d) 43)
    have hX2 := hX.next (hbel.trans (hn1.mono hbel.size))
    have hYl := DX.of_own (own_oneD W1 0 (Nat.zero_le _) d)
    have hbel2 := hbel.trans (hn1.mono hbel.size)
    have HF := Lib.hid (And.intro hX2 (And.intro hYl hbel2))
    have hRlt := hR.lt
    replace hR := hR.below hn1 hR.lt
    clear hX2 hYl hbel2 hn1 heq
    go_wp2_with (first
      | (refine wpList_load_row rfl _ (.tmp 4) rfl w.heap.size rfl _ _ _ _ hA Tryd.underlying35 rfl (by kernel_rfl) ?_)
      | (refine wpList_load_row rfl _ (.tmp 5) rfl (w.heap.size + 1) rfl _ _ _ _ hB Tryd.underlying43 rfl (by rw [dat_size]; kernel_rfl) ?_)
      | (refine wpList_buildD rfl (.tmp 24) rfl d rfl ?_))
    have hj := rmerge_any hv n0 b e e (e + 1) (by have := He32.out; have := O1.out.1; omega) Hadd.out Hadd.out (by have := He32.out; omega) A1 c1 (some ⟨W1.heap.size, 0, none⟩) 1 h1 [d] (fun q hq => by
      rcases List.mem_append.1 hq with h | h
      · exact Hall.out q h
      · rw [List.mem_singleton.1 h]; exact hd) _ HF.out.1 HF.out.2.1 (hh.nxt HF.out.2.2)
    rw [show mergeV n0 b e h1 e (e + 1) [d] = ⟨b, e + 1, joinM n0 b e (e + 1) h1 [d], 0⟩ by
      unfold mergeV
      rw [if_neg (by rw [hr1]; decide), if_neg (by rw [show rightB e (e + 1) [d].length = true from decide_eq_true ⟨Nat.le_succ _, He32.out, by rw [blocks_one]; rfl⟩]; decide), if_neg (by simp)]] at hj
    refine (show Calls _ _ #[hv, .agg (rgC b e (.slice A1 h1.length c1)), .agg #[.int .u64 (e : Int), .int .u64 ((e : Int) + 1), .slice (some ⟨W1.heap.size, 0, none⟩) 1 1]] _ _ from hj).mono ?_
    rintro r W3 ⟨v, rfl, hown, hbx⟩
    obtain ⟨A6, c6, rfl⟩ := own_slice hown
    replace hR := hR.below hbx hR.lt
    have hsz := HF.out.2.2.size
    have hbel3 := HF.out.2.2.trans (hbx.mono HF.out.2.2.size)
    have HO := Lib.hid hown
    clear hbx hown hj
    go_wp2_with (first
      | (refine wpList_storeAll rfl rfl _ (.tmp 6) (.tmp 28) rfl (w.heap.size + 2) rfl (rgC b (e + 1) _) rfl 35 _ hR (by kernel_rfl) rfl (rgC_one _ _ _ _ _) ?_; intro w8 h08 hg8))
    have hbel8 := below_only hbel3 hg8 (by omega) hbel3.size
    have hown8 := own_base (own_grown HO.out hg8 (fun g hg e => by have := own_ge HO.out g hg; simp at this; injection e; omega)) hsz
    exact bodyPost_ret (results_cell_two (p := 6) (q := 7) (ty := 35) rfl _ _ (w.heap.size + 2) _ _ _ _ rfl h08 Tryd.underlying35 rfl (by kernel_rfl)) rfl ⟨_, rfl, hown8, hbel8⟩
end Go.Proofs.YtkogehkmldbhgaaDoor

/- What Merge, Add and Root tell of ranges of one list's leaves, in plain Lean. No condition. -/
namespace Go.Proofs.YtkogehkmldbhgaaDoor
open Go Go.RowKit
theorem rightB_range (c : Nat) (l : List (List UInt8)) {a e : Nat} (h1 : a ≤ e) (h2 : e ≤ 4294967296) : rightB a e (rangeM c l a e).length = true := decide_eq_true ⟨h1, h2, rangeM_length c l a e⟩
theorem mergeV_range (c : Nat) (l : List (List UInt8)) {a m e : Nat} (h1 : a ≤ m) (h2 : m ≤ e) (h3 : e ≤ l.length) (h4 : l.length ≤ 4294967296) : mergeV c a m (rangeM c l a m) m e (rangeM c l m e) = ⟨a, e, rangeM c l a e, 0⟩ := by
  unfold mergeV
  rw [rightB_range c l h1 (by omega), rightB_range c l h2 (by omega), if_neg (by decide), if_neg (by decide), if_neg (by simp), joinM_range c l h1 h2 h3]
theorem addV_range (c : Nat) (l : List (List UInt8)) {a i : Nat} (h1 : a ≤ i) (h3 : i < l.length) (h4 : l.length ≤ 4294967295) : addV c a i (rangeM c l a i) (leafM c (l.getD i [])) = ⟨a, i + 1, rangeM c l a (i + 1), 0⟩ := by
  unfold addV
  rw [rightB_range c l h1 (by omega), if_neg (by decide), if_neg (by omega), ← rangeM_one c l i h3, joinM_range c l h1 (Nat.le_succ i) h3]
theorem rootV_range (c : Nat) (l : List (List UInt8)) (h4 : l.length ≤ 4294967296) : rootV c 0 l.length (rangeM c l 0 l.length) = (rootM c l, 0) := by
  unfold rootV
  rw [rightB_range c l (Nat.zero_le _) h4, if_neg (by decide), if_neg (by simp), fold_root]
theorem rootV_some (c : Nat) (l : List (List UInt8)) {a e : Nat} (h0 : 0 < a) (h1 : a ≤ e) (h4 : e ≤ 4294967296) : rootV c a e (rangeM c l a e) = (zeroD, 25) := by
  unfold rootV
  rw [rightB_range c l h1 h4, if_neg (by decide), if_pos (by omega)]
theorem rangeM_nil (c : Nat) (l : List (List UInt8)) (a : Nat) : rangeM c l a a = [] := by unfold rangeM; rw [blocksL_nil (Nat.le_refl _)]; rfl
theorem rangeM_64 (c : Nat) (l : List (List UInt8)) {a e : Nat} (h : e ≤ 4294967296) : (rangeM c l a e).length ≤ 64 := by rw [rangeM_length]; exact blocks_many 32 (by decide) (by omega)
/-- a range that is kept in a block -/
def Rg (W : World) (g b e : Nat) (A : Option Addr) (c : Nat) (hs : List (List UInt8)) : Prop := Blk W g 31 (rgC b e (.slice A hs.length c)) ∧ DX W (.slice A hs.length c) hs
theorem Rg.next {W V : World} {g b e c : Nat} {A : Option Addr} {hs : List (List UInt8)} (h : Rg W g b e A c hs) (hb : Below W.heap.size W V) : Rg V g b e A c hs := ⟨h.1.below hb h.1.lt, h.2.next hb⟩
theorem Rg.mk {W : World} {base b e c : Nat} {A : Option Addr} {hs : List (List UInt8)} (h : W.ownsRow base 43 32 (.slice A hs.length c) hs.length (dcells hs)) : Rg (W.alloc (.cells #[.int .u64 (b : Int), .int .u64 (e : Int), .slice A hs.length c] 31)) W.heap.size b e A c hs :=
  ⟨Blk.new W _ _, (DX.of_own h).next (below_new1 W _)⟩
end Go.Proofs.YtkogehkmldbhgaaDoor
