/- Texts that stand behind one another: CmpM, CmpS, List10. No condition. -/
import Derived.Test.YtkogehkmldbhgaaDoorP15
import Derived.Test.YtkogehkmldbhgaaDoorP18
import Derived.Test.YtkogehkmldbhgaaDoorP8
/- The walks of compact's Merge and Add. Condition: the tables. -/
namespace Go.Proofs.YtkogehkmldbhgaaDoor
open Go Go.RowKit
attribute [local irreducible] mixW
attribute [local go_sem] n8_lo n8_hi n64_lo n64_hi n32_lo n32_hi
/-- what Merge tells: begin, end, hashes, refusal -/
structure RgR where
  b : Nat
  e : Nat
  hs : List (List UInt8)
  err : Nat
def mergeV (c b1 e1 : Nat) (h1 : List (List UInt8)) (b2 e2 : Nat) (h2 : List (List UInt8)) : RgR :=
  if rightB b1 e1 h1.length = false then ⟨0, 0, [], 1⟩ else if rightB b2 e2 h2.length = false then ⟨0, 0, [], 1⟩ else if e1 ≠ b2 then ⟨0, 0, [], 25⟩ else ⟨b1, e2, joinM c b1 e1 e2 h1 h2, 0⟩
def addV (c b e : Nat) (h : List (List UInt8)) (d : List UInt8) : RgR :=
  if rightB b e h.length = false then ⟨0, 0, [], 1⟩ else if e = 4294967296 then ⟨0, 0, [], 1⟩ else ⟨b, e + 1, joinM c b e (e + 1) h [d], 0⟩
theorem rightB_ok {b e n : Nat} (h : rightB b e n = true) : b ≤ e ∧ e ≤ 4294967296 ∧ n = (blocksL b e).length := of_decide_eq_true h
/-- a range is told -/
def Told (w w' : World) (r : Ending) (x : RgR) : Prop := ∃ v, r = .returned (.tuple #[.agg (rgC x.b x.e v), .int .i64 (x.err : Int)]) ∧ w'.ownsRow w.heap.size 43 32 v x.hs.length (dcells x.hs) ∧ Below w.heap.size w w'
set_option maxHeartbeats 1000000 in
set_option maxRecDepth 100000 in
theorem merge_any (x : Int) (b1 e1 b2 e2 : Nat) (hb1 : b1 < 18446744073709551616) (he1 : e1 < 18446744073709551616) (hb2 : b2 < 18446744073709551616) (he2 : e2 < 18446744073709551616) (A1 : Option Addr) (c1 : Nat) (A2 : Option Addr) (c2 : Nat) (h1 h2 : List (List UInt8)) (hall : ∀ d ∈ h1 ++ h2, d.length = 32) (w : World) (hX : DX w (.slice A1 h1.length c1) h1) (hY : DX w (.slice A2 h2.length c2) h2) (hG : Glob w) (hT : Tz w) :
    Calls Tryd.prog 21 #[.int .i64 x, .agg (rgC b1 e1 (.slice A1 h1.length c1)), .agg (rgC b2 e2 (.slice A2 h2.length c2))] w fun r w' => Told w w' r (mergeV (cutW x) b1 e1 h1 b2 e2 h2) := by
  have Hall := Lib.hid hall
  clear hall
  obtain ⟨y, hy⟩ : ∃ y, mergeV (cutW x) b1 e1 h1 b2 e2 h2 = y := ⟨_, rfl⟩
  rw [hy]
  have Hy := Lib.hid hy
  clear hy
  unfold Told
  have hA := ((Blk.new w 31 (rgC b1 e1 (.slice A1 h1.length c1))).alloc (Obj.cells (rgC b2 e2 (.slice A2 h2.length c2)) 31)).alloc (Obj.cells (rgC 0 0 (.slice none 0 0)) 31)
  have hB := (Blk.new2 w (Obj.cells (rgC b1 e1 (.slice A1 h1.length c1)) 31) 31 (rgC b2 e2 (.slice A2 h2.length c2))).alloc (Obj.cells (rgC 0 0 (.slice none 0 0)) 31)
  have hR := blk_new3j w (Obj.cells (rgC b1 e1 (.slice A1 h1.length c1)) 31) (Obj.cells (rgC b2 e2 (.slice A2 h2.length c2)) 31) 31 (rgC 0 0 (.slice none 0 0))
  have hbn := below_new3j w (Obj.cells (rgC b1 e1 (.slice A1 h1.length c1)) 31) (Obj.cells (rgC b2 e2 (.slice A2 h2.length c2)) 31) (Obj.cells (rgC 0 0 (.slice none 0 0)) 31)
  unfold rgC at hA hB hR hbn ⊢
  simp only [nU] at hA hB hR hbn ⊢
  go_enter Tryd.func21, Tryd.ntmps21
  go_wp2_with fail
  refine calls_at (fun W => Blk W w.heap.size 31 (rgC b1 e1 (.slice A1 h1.length c1)) ∧ Blk W (w.heap.size + 1) 31 (rgC b2 e2 (.slice A2 h2.length c2)) ∧ Blk W (w.heap.size + 2) 31 (rgC 0 0 (.slice none 0 0)) ∧ Below w.heap.size w W) ⟨hA, hB, hR, hbn⟩ ?_
  clear hA hB hR hbn
  rintro W ⟨hA, hB, hR, hbel⟩
  refine (right_any b1 e1 hb1 he1 A1 h1.length c1 W (hT.next hbel)).mono ?_
  rintro r W1 ⟨rfl, hbx⟩
  replace hA := hA.below hbx hA.lt
  replace hB := hB.below hbx hB.lt
  replace hR := hR.below hbx hR.lt
  replace hbel := hbel.trans (hbx.mono hbel.size)
  clear hbx
  cases hr1 : rightB b1 e1 h1.length with
  | false =>
    have hyy := Hy.out
    unfold mergeV at hyy
    rw [hr1, if_pos rfl] at hyy
    subst hyy
    go_wp2_with (first
      | (refine wpList_storeAll rfl rfl _ (.tmp 6) (.tmp 17) rfl (w.heap.size + 2) rfl (rgC 0 0 (.slice none 0 0)) rfl 31 _ hR (by kernel_rfl) rfl (rgC_one _ _ _ _ _) ?_; intro w8 h08 hg8))
    have hbel8 := below_only hbel hg8 (by omega) hbel.size
    exact bodyPost_ret (results_cell_two (p := 6) (q := 7) (ty := 31) rfl _ _ (w.heap.size + 2) _ _ _ _ rfl h08 Tryd.underlying31 rfl (by kernel_rfl)) rfl ⟨_, rfl, World.ownsRow_nil _ _ _ _, hbel8⟩
  | true =>
    go_wp2_with (first
      | (refine wpList_loadW (by rfl) 31 (.tmp 5) rfl (w.heap.size + 1) rfl _ _ _ hB Tryd.underlying31 rfl (by kernel_rfl) ?_))
    refine (right_any b2 e2 hb2 he2 A2 h2.length c2 W1 (hT.next hbel)).mono ?_
    rintro r W2 ⟨rfl, hbx⟩
    replace hA := hA.below hbx hA.lt
    replace hB := hB.below hbx hB.lt
    replace hR := hR.below hbx hR.lt
    replace hbel := hbel.trans (hbx.mono hbel.size)
    clear hbx
    cases hr2 : rightB b2 e2 h2.length with
    | false =>
      have hyy := Hy.out
      unfold mergeV at hyy
      rw [hr1, if_neg (by decide), hr2, if_pos rfl] at hyy
      subst hyy
      go_wp2_with (first
        | (refine wpList_storeAll rfl rfl _ (.tmp 6) (.tmp 17) rfl (w.heap.size + 2) rfl (rgC 0 0 (.slice none 0 0)) rfl 31 _ hR (by kernel_rfl) rfl (rgC_one _ _ _ _ _) ?_; intro w8 h08 hg8))
      have hbel8 := below_only hbel hg8 (by omega) hbel.size
      exact bodyPost_ret (results_cell_two (p := 6) (q := 7) (ty := 31) rfl _ _ (w.heap.size + 2) _ _ _ _ rfl h08 Tryd.underlying31 rfl (by kernel_rfl)) rfl ⟨_, rfl, World.ownsRow_nil _ _ _ _, hbel8⟩
    | true =>
      have cA : W2.cell? ⟨w.heap.size, 1, none⟩ = some (.int .u64 (e1 : Int)) := hA.cell 1
      have cB : W2.cell? ⟨w.heap.size + 1, 0, none⟩ = some (.int .u64 (b2 : Int)) := hB.cell 0
      by_cases heq : e1 = b2
      case neg =>
        have hyy := Hy.out
        unfold mergeV at hyy
        rw [hr1, if_neg (by decide), hr2, if_neg (by decide), if_pos heq] at hyy
        subst hyy
        have heq' : ((e1 : Int) != (b2 : Int)) = true := by simp; omega
        go_wp2_with (first
          | (refine wpList_storeAll rfl rfl _ (.tmp 6) (.tmp 24) rfl (w.heap.size + 2) rfl (rgC 0 0 (.slice none 0 0)) rfl 31 _ hR (by kernel_rfl) rfl (rgC_one _ _ _ _ _) ?_; intro w8 h08 hg8))
        have hbel8 := below_only hbel hg8 (by omega) hbel.size
        exact bodyPost_ret (results_cell_two (p := 6) (q := 7) (ty := 31) rfl _ _ (w.heap.size + 2) _ _ _ _ rfl h08 Tryd.underlying31 rfl (by kernel_rfl)) rfl ⟨_, rfl, World.ownsRow_nil _ _ _ _, hbel8⟩
      subst heq
      have hyy := Hy.out
      unfold mergeV at hyy
      rw [hr1, if_neg (by decide), hr2, if_neg (by decide), if_neg (by simp)] at hyy
      subst hyy
      have O1 := Lib.hid (rightB_ok hr1)
      have O2 := Lib.hid (rightB_ok hr2)
      have heq' : ((e1 : Int) != (e1 : Int)) = false := by simp
      go_wp2_with (first
        | (refine wpList_load_row rfl _ (.tmp 4) rfl w.heap.size rfl _ _ _ _ hA Tryd.underlying31 rfl (by kernel_rfl) ?_)
        | (refine wpList_load_row rfl _ (.tmp 5) rfl (w.heap.size + 1) rfl _ _ _ _ hB Tryd.underlying31 rfl (by kernel_rfl) ?_))
      refine (join_walk x b1 e1 e2 A1 c1 A2 c2 h1 h2 O1.out.1 O2.out.1 O2.out.2.1 O1.out.2.2 O2.out.2.2 Hall.out W2 (hX.next hbel) (hY.next hbel) (hG.next hbel) (hT.next hbel)).mono ?_
      rintro r W3 ⟨v, rfl, hown, hbx⟩
      obtain ⟨A6, c6, rfl⟩ := own_slice hown
      have hRlt := hR.lt
      replace hR := hR.below hbx hR.lt
      have hsz := hbel.size
      replace hbel := hbel.trans (hbx.mono hbel.size)
      have HO := Lib.hid hown
      clear hbx hown
      go_wp2_with (first
        | (refine wpList_storeAll rfl rfl _ (.tmp 6) (.tmp 28) rfl (w.heap.size + 2) rfl (rgC b1 e2 _) rfl 31 _ hR (by kernel_rfl) rfl (rgC_one _ _ _ _ _) ?_; intro w8 h08 hg8))
      have hbel8 := below_only hbel hg8 (by omega) hbel.size
      have hown8 := own_base (own_grown HO.out hg8 (fun g hg e => by have := own_ge HO.out g hg; injection e; omega)) hsz
      exact bodyPost_ret (results_cell_two (p := 6) (q := 7) (ty := 31) rfl _ _ (w.heap.size + 2) _ _ _ _ rfl h08 Tryd.underlying31 rfl (by kernel_rfl)) rfl ⟨_, rfl, hown8, hbel8⟩
set_option maxHeartbeats 1000000 in
set_option maxRecDepth 100000 in
theorem add_any (x : Int) (b e : Nat) (hb : b < 18446744073709551616) (he : e < 18446744073709551616) (A1 : Option Addr) (c1 : Nat) (h1 : List (List UInt8)) (hall : ∀ d ∈ h1, d.length = 32) (d : List UInt8) (hd : d.length = 32) (w : World) (hX : DX w (.slice A1 h1.length c1) h1) (hG : Glob w) (hT : Tz w) :
    Calls Tryd.prog 18 #[.int .i64 x, .agg (rgC b e (.slice A1 h1.length c1)), .agg (dat d)] w fun r w' => Told w w' r (addV (cutW x) b e h1 d) := by
  have Hall := Lib.hid hall
  clear hall
  obtain ⟨y, hy⟩ : ∃ y, addV (cutW x) b e h1 d = y := ⟨_, rfl⟩
  rw [hy]
  have Hy := Lib.hid hy
  clear hy
  unfold Told
  have hA := ((Blk.new w 31 (rgC b e (.slice A1 h1.length c1))).alloc (Obj.cells (dat d) 43)).alloc (Obj.cells (rgC 0 0 (.slice none 0 0)) 31)
  have hB := (Blk.new2 w (Obj.cells (rgC b e (.slice A1 h1.length c1)) 31) 43 (dat d)).alloc (Obj.cells (rgC 0 0 (.slice none 0 0)) 31)
  have hR := blk_new3j w (Obj.cells (rgC b e (.slice A1 h1.length c1)) 31) (Obj.cells (dat d) 43) 31 (rgC 0 0 (.slice none 0 0))
  have hbn := below_new3j w (Obj.cells (rgC b e (.slice A1 h1.length c1)) 31) (Obj.cells (dat d) 43) (Obj.cells (rgC 0 0 (.slice none 0 0)) 31)
  unfold rgC at hA hB hR hbn ⊢
  simp only [nU] at hA hB hR hbn ⊢
  go_enter Tryd.func18, Tryd.ntmps18
  go_wp2_with fail
  refine calls_at (fun W => Blk W w.heap.size 31 (rgC b e (.slice A1 h1.length c1)) ∧ Blk W (w.heap.size + 1) 43 (dat d) ∧ Blk W (w.heap.size + 2) 31 (rgC 0 0 (.slice none 0 0)) ∧ Below w.heap.size w W) ⟨hA, hB, hR, hbn⟩ ?_
  clear hA hB hR hbn
  rintro W ⟨hA, hB, hR, hbel⟩
  refine (right_any b e hb he A1 h1.length c1 W (hT.next hbel)).mono ?_
  rintro r W1 ⟨rfl, hbx⟩
  replace hA := hA.below hbx hA.lt
  replace hB := hB.below hbx hB.lt
  replace hR := hR.below hbx hR.lt
  replace hbel := hbel.trans (hbx.mono hbel.size)
  clear hbx
  have cA : W1.cell? ⟨w.heap.size, 1, none⟩ = some (.int .u64 (e : Int)) := hA.cell 1
  cases hr1 : rightB b e h1.length with
  | false =>
    have hyy := Hy.out
    unfold addV at hyy
    rw [hr1, if_pos rfl] at hyy
    subst hyy
    go_wp2_with (first
      | (refine wpList_storeAll rfl rfl _ (.tmp 6) (.tmp 16) rfl (w.heap.size + 2) rfl (rgC 0 0 (.slice none 0 0)) rfl 31 _ hR (by kernel_rfl) rfl (rgC_one _ _ _ _ _) ?_; intro w8 h08 hg8))
    have hbel8 := below_only hbel hg8 (by omega) hbel.size
    exact bodyPost_ret (results_cell_two (p := 6) (q := 7) (ty := 31) rfl _ _ (w.heap.size + 2) _ _ _ _ rfl h08 Tryd.underlying31 rfl (by kernel_rfl)) rfl ⟨_, rfl, World.ownsRow_nil _ _ _ _, hbel8⟩
  | true =>
    by_cases heq : e = 4294967296
    case pos =>
      have hyy := Hy.out
      unfold addV at hyy
      rw [hr1, if_neg (by decide), if_pos heq] at hyy
      subst hyy
      have heq' : ((e : Int) == 4294967296) = true := by simp; omega
      clear heq
      go_wp2_with (first
        | (refine wpList_storeAll rfl rfl _ (.tmp 6) (.tmp 16) rfl (w.heap.size + 2) rfl (rgC 0 0 (.slice none 0 0)) rfl 31 _ hR (by kernel_rfl) rfl (rgC_one _ _ _ _ _) ?_; intro w8 h08 hg8))
      have hbel8 := below_only hbel hg8 (by omega) hbel.size
      exact bodyPost_ret (results_cell_two (p := 6) (q := 7) (ty := 31) rfl _ _ (w.heap.size + 2) _ _ _ _ rfl h08 Tryd.underlying31 rfl (by kernel_rfl)) rfl ⟨_, rfl, World.ownsRow_nil _ _ _ _, hbel8⟩
    have hyy := Hy.out
    unfold addV at hyy
    rw [hr1, if_neg (by decide), if_neg heq] at hyy
    subst hyy
    have O1 := Lib.hid (rightB_ok hr1)
    have he32 : e + 1 ≤ 4294967296 := by have := O1.out.2.1; omega
    have heq' : ((e : Int) == 4294967296) = false := by simp; omega
    have hadd : IntKind.u64.wrap ((e : Int) + 1) = (e : Int) + 1 := IntWalk.u64_in _ (by omega)
    have hn1 := below_new1 W1 (Obj.cells (dat d) 43)
    have hX2 := hX.next (hbel.trans (hn1.mono hbel.size))
    have hYl := DX.of_own (own_oneD W1 0 (Nat.zero_le _) d)
    have hbel2 := hbel.trans (hn1.mono hbel.size)
    have HF := Lib.hid (And.intro hX2 (And.intro hYl hbel2))
    have hRlt := hR.lt
    replace hR := hR.below hn1 hR.lt
    clear hX2 hYl hbel2 hn1 heq
    go_wp2_with (first
      | (refine wpList_load_row rfl _ (.tmp 4) rfl w.heap.size rfl _ _ _ _ hA Tryd.underlying31 rfl (by kernel_rfl) ?_)
      | (refine wpList_load_row rfl _ (.tmp 5) rfl (w.heap.size + 1) rfl _ _ _ _ hB Tryd.underlying43 rfl (by rw [dat_size]; kernel_rfl) ?_)
      | (refine wpList_buildD rfl (.tmp 24) rfl d rfl ?_))
    have hj := join_walk x b e (e + 1) A1 c1 (some ⟨W1.heap.size, 0, none⟩) 1 h1 [d] O1.out.1 (Nat.le_succ _) he32 O1.out.2.2 (by rw [blocks_one]; rfl) (fun q hq => by
      rcases List.mem_append.1 hq with h | h
      · exact Hall.out q h
      · rw [List.mem_singleton.1 h]; exact hd) _ HF.out.1 HF.out.2.1 (hG.next HF.out.2.2) (hT.next HF.out.2.2)
    refine (show Calls _ _ #[.int .i64 x, .agg (rgC b e (.slice A1 h1.length c1)), .agg #[.int .u64 (e : Int), .int .u64 ((e : Int) + 1), .slice (some ⟨W1.heap.size, 0, none⟩) 1 1]] _ _ from hj).mono ?_
    rintro r W3 ⟨v, rfl, hown, hbx⟩
    obtain ⟨A6, c6, rfl⟩ := own_slice hown
    replace hR := hR.below hbx hR.lt
    have hsz := HF.out.2.2.size
    have hbel3 := HF.out.2.2.trans (hbx.mono HF.out.2.2.size)
    have HO := Lib.hid hown
    clear hbx hown hj
    go_wp2_with (first
      | (refine wpList_storeAll rfl rfl _ (.tmp 6) (.tmp 27) rfl (w.heap.size + 2) rfl (rgC b (e + 1) _) rfl 31 _ hR (by kernel_rfl) rfl (rgC_one _ _ _ _ _) ?_; intro w8 h08 hg8))
    have hbel8 := below_only hbel3 hg8 (by omega) hbel3.size
    have hown8 := own_base (own_grown HO.out hg8 (fun g hg e => by have := own_ge HO.out g hg; simp at this; injection e; omega)) hsz
    exact bodyPost_ret (results_cell_two (p := 6) (q := 7) (ty := 31) rfl _ _ (w.heap.size + 2) _ _ _ _ rfl h08 Tryd.underlying31 rfl (by kernel_rfl)) rfl ⟨_, rfl, hown8, hbel8⟩
end Go.Proofs.YtkogehkmldbhgaaDoor

/- What Merge, Add and Root tell of ranges of one list's leaves, in plain Lean. No condition. -/
namespace Go.Proofs.YtkogehkmldbhgaaDoor
open Go Go.RowKit
theorem rightB_range (c : Nat) (l : List (List UInt8)) {a e : Nat} (h1 : a ≤ e) (h2 : e ≤ 4294967296) : rightB a e (rangeM c l a e).length = true := decide_eq_true ⟨h1, h2, rangeM_length c l a e⟩
theorem mergeV_range (c : Nat) (l : List (List UInt8)) {a m e : Nat} (h1 : a ≤ m) (h2 : m ≤ e) (h3 : e ≤ l.length) (h4 : l.length ≤ 4294967296) : mergeV c a m (rangeM c l a m) m e (rangeM c l m e) = ⟨a, e, rangeM c l a e, 0⟩ := by
  unfold mergeV
  rw [rightB_range c l h1 (by omega), rightB_range c l h2 (by omega), if_neg (by decide), if_neg (by decide), if_neg (by simp), joinM_range c l h1 h2 h3]
theorem addV_range (c : Nat) (l : List (List UInt8)) {a i : Nat} (h1 : a ≤ i) (h3 : i < l.length) (h4 : l.length ≤ 4294967295) : addV c a i (rangeM c l a i) (leafM c (l.getD i [])) = ⟨a, i + 1, rangeM c l a (i + 1), 0⟩ := by
  unfold addV
  rw [rightB_range c l h1 (by omega), if_neg (by decide), if_neg (by omega), ← rangeM_one c l i h3, joinM_range c l h1 (Nat.le_succ i) h3]
theorem rootV_range (c : Nat) (l : List (List UInt8)) (h4 : l.length ≤ 4294967296) : rootV c 0 l.length (rangeM c l 0 l.length) = (rootM c l, 0) := by
  unfold rootV
  rw [rightB_range c l (Nat.zero_le _) h4, if_neg (by decide), if_neg (by simp), fold_root]
theorem rootV_some (c : Nat) (l : List (List UInt8)) {a e : Nat} (h0 : 0 < a) (h1 : a ≤ e) (h4 : e ≤ 4294967296) : rootV c a e (rangeM c l a e) = (zeroD, 25) := by
  unfold rootV
  rw [rightB_range c l h1 h4, if_neg (by decide), if_pos (by omega)]
theorem rangeM_nil (c : Nat) (l : List (List UInt8)) (a : Nat) : rangeM c l a a = [] := by unfold rangeM; rw [blocksL_nil (Nat.le_refl _)]; rfl
theorem rangeM_64 (c : Nat) (l : List (List UInt8)) {a e : Nat} (h : e ≤ 4294967296) : (rangeM c l a e).length ≤ 64 := by rw [rangeM_length]; exact blocks_many 32 (by decide) (by omega)
/-- a range that is kept in a block -/
def Rg (W : World) (g b e : Nat) (A : Option Addr) (c : Nat) (hs : List (List UInt8)) : Prop := Blk W g 31 (rgC b e (.slice A hs.length c)) ∧ DX W (.slice A hs.length c) hs
theorem Rg.next {W V : World} {g b e c : Nat} {A : Option Addr} {hs : List (List UInt8)} (h : Rg W g b e A c hs) (hb : Below W.heap.size W V) : Rg V g b e A c hs := ⟨h.1.below hb h.1.lt, h.2.next hb⟩
theorem Rg.mk {W : World} {base b e c : Nat} {A : Option Addr} {hs : List (List UInt8)} (h : W.ownsRow base 43 32 (.slice A hs.length c) hs.length (dcells hs)) : Rg (W.alloc (.cells #[.int .u64 (b : Int), .int .u64 (e : Int), .slice A hs.length c] 31)) W.heap.size b e A c hs :=
  ⟨Blk.new W _ _, (DX.of_own h).next (below_new1 W _)⟩
end Go.Proofs.YtkogehkmldbhgaaDoor

/- The walk of deponentlaw10's list. No condition. -/
namespace Go.Proofs.YtkogehkmldbhgaaDoor
open Go Go.RowKit
attribute [local go_sem] n8_lo n8_hi n64_lo n64_hi n32_lo n32_hi
def elemE (i : Nat) : List UInt8 := [UInt8.ofNat i, 5]
def listE (n : Nat) : List (List UInt8) := (List.range n).map elemE
theorem listE_length (n : Nat) : (listE n).length = n := by simp [listE]
theorem listE_at (n : Nat) (i : Nat) (h : i < n) : (listE n).getD i [] = elemE i := by
  unfold listE; rw [List.getD_eq_getElem?_getD, List.getElem?_map, List.getElem?_range h]; rfl
theorem listE_mem {n : Nat} {b : List UInt8} (h : b ∈ listE n) : b.length = 2 := by
  unfold listE at h
  obtain ⟨i, _, rfl⟩ := List.mem_map.1 h
  rfl
set_option maxHeartbeats 400000 in
set_option maxRecDepth 100000 in
theorem list10_any (n : Int) (hn : n ≤ 1000000) (hn2 : -9223372036854775808 ≤ n) (w : World) :
    Calls Tryd.prog 29 #[.int .i64 n] w fun e w' => ∃ v, e = .returned v ∧ SSl w' w'.heap.size v (listE n.toNat) ∧ Below w.heap.size w w' := by
  obtain ⟨i0, hi, hz0, hz1, hz2⟩ := info_parts (by kernel_rfl : (Tryd.prog.info? 62).map (fun i => (i.zero, i.size, i.bytes)) = some (some (.slice none 0 0), 1, 24))
  go_enter Tryd.func29, Tryd.ntmps29
  go_wp2_with fail
  go_loopw [3, 4] (fun v iv wr => ∃ (k : Nat) (vs : List Value), k ≤ n.toNat ∧ iv = .int .i64 k ∧ vs.length = k ∧ wr.ownsRow w.heap.size 62 1 v vs.length vs ∧ (∀ i, i < k → Whole wr (vs.getD i undef) (elemE i)) ∧ Below w.heap.size w wr) (fun _ iv _ => n.toNat - (intOf iv).toNat)
  case atStart => exact ⟨0, [], by omega, rfl, rfl, World.ownsRow_nil _ _ _ _, fun i hi => by omega, Below.refl _ _⟩
  case round =>
    obtain ⟨k, vs, hk, rfl, hvl, hown, hall, hbel⟩ := hrel
    by_cases hlt : (k : Int) < n
    · have b1 := byte_nat k
      have hk1 : k ≤ 1000000 := by omega
      have hA := Blk.new w 5 #[]
      clear hA
      have hb1w := below_new1 wr (Obj.cells #[.int .u8 (n8 (UInt8.ofNat k)), .int .u8 (n8 5)] 5)
      have hbw := hb1w.alloc hb1w.size (Obj.cells #[.slice (some ⟨wr.heap.size, 0, none⟩) 2 2] 62)
      have hE := (Blk.new wr 5 #[.int .u8 (n8 (UInt8.ofNat k)), .int .u8 (n8 5)]).alloc (Obj.cells #[.slice (some ⟨wr.heap.size, 0, none⟩) 2 2] 62)
      have hS := Blk.new2 wr (Obj.cells #[.int .u8 (n8 (UInt8.ofNat k)), .int .u8 (n8 5)] 5) 62 #[.slice (some ⟨wr.heap.size, 0, none⟩) 2 2]
      have hW : Whole ((wr.alloc (Obj.cells #[.int .u8 (n8 (UInt8.ofNat k)), .int .u8 (n8 5)] 5)).alloc (Obj.cells #[.slice (some ⟨wr.heap.size, 0, none⟩) 2 2] 62)) (.slice (some ⟨wr.heap.size, 0, none⟩) 2 2) (elemE k) := ⟨wr.heap.size, rfl, hE⟩
      have hown2 := own_below hown hbw
      have HWs := Lib.hid (And.intro hW (fun i (hi : i < k) => (hall i hi).below hbw))
      have hbase := Nat.le_trans hbel.size hbw.size
      clear hb1w hE hW hall hown
      go_wp2_with (first
        | (at_builtin; refine wpList_appendR rfl (.tmp 10) (.tmp 14) _ rfl w.heap.size 62 i0 _ 24 Tryd.underlying27 hi hz0 hz1 hz2 rfl _ vs rfl hown2 _ (some ⟨wr.heap.size + 1, 0, none⟩) 1 1 [.slice (some ⟨wr.heap.size, 0, none⟩) 2 2] rfl (Reads.of_blk hS hS.lt 0) rfl (fun u hu => by rw [List.mem_singleton] at hu; subst hu; rfl) (by unfold maxLen; omega) (by omega) hbase ?_; intro u1 w1 hown1 hg1 hat1))
      have hbel1 := below_own (hbel.trans (hbw.mono hbel.size)) hown2 hg1 hbase
      have hE1 := HWs.out.1.grown hown2 hg1
      have hall1 : ∀ i, i < k → Whole w1 (vs.getD i undef) (elemE i) := fun i hi => (HWs.out.2 i hi).grown hown2 hg1
      have HF := Lib.hid (And.intro hbel1 (And.intro hE1 (And.intro hall1 hown1)))
      clear hbel1 hE1 hall1 hown1 HWs hown2 hg1 hat1 hS hbw hbase
      go_wp2_with fail
      go_roundw
      case rel =>
        refine ⟨k + 1, vs ++ [.slice (some ⟨wr.heap.size, 0, none⟩) 2 2], by omega, by go_num, by rw [List.length_append, hvl]; rfl, HF.out.2.2.2, fun i hi => ?_, HF.out.1⟩
        rw [List.getD_eq_getElem?_getD]
        by_cases hik : i < k
        · rw [List.getElem?_append_left (by omega), ← List.getD_eq_getElem?_getD]
          exact HF.out.2.2.1 i hik
        · obtain rfl : i = k := by omega
          rw [List.getElem?_append_right (by omega), show i - vs.length = 0 by omega]
          exact HF.out.2.1
      case measure => simp [intOf]; omega
    · have ek : k = n.toNat := by omega
      have HF := Lib.hid (And.intro hown hall)
      clear hown hall
      go_wp2_with fail
      go_ret
      refine ⟨_, rfl, ?_, hbel⟩
      rw [← ek]
      refine SSl.of_own HF.out.1 (by rw [hvl, listE_length]) (fun i hi => ?_)
      rw [listE_length] at hi
      rw [listE_at k i hi]
      exact (HF.out.2 i hi).bsl (by show (2 : Nat) ≤ _; decide)
end Go.Proofs.YtkogehkmldbhgaaDoor
