/- Texts that stand behind one another: CmpM, CmpJ. No condition. -/
import Derived.Test.YtkogehkmldbhgaaDoorP17
import Derived.Test.YtkogehkmldbhgaaDoorP18
import Derived.Test.YtkogehkmldbhgaaDoorP16
/- The walks of compact's Merge and Add. Condition: the tables. -/
namespace Go.Proofs.YtkogehkmldbhgaaDoor
open Go Go.RowKit
attribute [local irreducible] mixW
attribute [local go_sem] n8_lo n8_hi n64_lo n64_hi n32_lo n32_hi
/-- what Merge tells: begin, end, hashes, refusal -/
structure RgR where
  b : Nat
  e : Nat
  hs : List (List UInt8)
  err : Nat
def mergeV (c b1 e1 : Nat) (h1 : List (List UInt8)) (b2 e2 : Nat) (h2 : List (List UInt8)) : RgR :=
  if rightB b1 e1 h1.length = false then ⟨0, 0, [], 1⟩ else if rightB b2 e2 h2.length = false then ⟨0, 0, [], 1⟩ else if e1 ≠ b2 then ⟨0, 0, [], 25⟩ else ⟨b1, e2, joinM c b1 e1 e2 h1 h2, 0⟩
def addV (c b e : Nat) (h : List (List UInt8)) (d : List UInt8) : RgR :=
  if rightB b e h.length = false then ⟨0, 0, [], 1⟩ else if e = 4294967296 then ⟨0, 0, [], 1⟩ else ⟨b, e + 1, joinM c b e (e + 1) h [d], 0⟩
theorem rightB_ok {b e n : Nat} (h : rightB b e n = true) : b ≤ e ∧ e ≤ 4294967296 ∧ n = (blocksL b e).length := of_decide_eq_true h
/-- a range is told -/
def Told (w w' : World) (r : Ending) (x : RgR) : Prop := ∃ v, r = .returned (.tuple #[.agg (rgC x.b x.e v), .int .i64 (x.err : Int)]) ∧ w'.ownsRow w.heap.size 43 32 v x.hs.length (dcells x.hs) ∧ Below w.heap.size w w'
set_option maxHeartbeats 1000000 in
set_option maxRecDepth 100000 in
theorem merge_any (x : Int) (b1 e1 b2 e2 : Nat) (hb1 : b1 < 18446744073709551616) (he1 : e1 < 18446744073709551616) (hb2 : b2 < 18446744073709551616) (he2 : e2 < 18446744073709551616) (A1 : Option Addr) (c1 : Nat) (A2 : Option Addr) (c2 : Nat) (h1 h2 : List (List UInt8)) (hall : ∀ d ∈ h1 ++ h2, d.length = 32) (w : World) (hX : DX w (.slice A1 h1.length c1) h1) (hY : DX w (.slice A2 h2.length c2) h2) (hG : Glob w) (hT : Tz w) :
    Calls Tryd.prog 21 #[.int .i64 x, .agg (rgC b1 e1 (.slice A1 h1.length c1)), .agg (rgC b2 e2 (.slice A2 h2.length c2))] w fun r w' => Told w w' r (mergeV (cutW x) b1 e1 h1 b2 e2 h2) := by
  have Hall := Lib.hid hall
  clear hall
  obtain ⟨y, hy⟩ : ∃ y, mergeV (cutW x) b1 e1 h1 b2 e2 h2 = y := ⟨_, rfl⟩
  rw [hy]
  have Hy := Lib.hid hy
  clear hy
  unfold Told
  have hA := ((Blk.new w 31 (rgC b1 e1 (.slice A1 h1.length c1))).alloc (Obj.cells (rgC b2 e2 (.slice A2 h2.length c2)) 31)).alloc (Obj.cells (rgC 0 0 (.slice none 0 0)) 31)
  have hB := (Blk.new2 w (Obj.cells (rgC b1 e1 (.slice A1 h1.length c1)) 31) 31 (rgC b2 e2 (.slice A2 h2.length c2))).alloc (Obj.cells (rgC 0 0 (.slice none 0 0)) 31)
  have hR := blk_new3j w (Obj.cells (rgC b1 e1 (.slice A1 h1.length c1)) 31) (Obj.cells (rgC b2 e2 (.slice A2 h2.length c2)) 31) 31 (rgC 0 0 (.slice none 0 0))
  have hbn := below_new3j w (Obj.cells (rgC b1 e1 (.slice A1 h1.length c1)) 31) (Obj.cells (rgC b2 e2 (.slice A2 h2.length c2)) 31) (Obj.cells (rgC 0 0 (.slice none 0 0)) 31)
  unfold rgC at hA hB hR hbn ⊢
  simp only [nU] at hA hB hR hbn ⊢
  go_enter Tryd.func21, Tryd.ntmps21
  go_wp2_with fail
  refine calls_at (fun W => Blk W w.heap.size 31 (rgC b1 e1 (.slice A1 h1.length c1)) ∧ Blk W (w.heap.size + 1) 31 (rgC b2 e2 (.slice A2 h2.length c2)) ∧ Blk W (w.heap.size + 2) 31 (rgC 0 0 (.slice none 0 0)) ∧ Below w.heap.size w W) ⟨hA, hB, hR, hbn⟩ ?_
  clear hA hB hR hbn
  rintro W ⟨hA, hB, hR, hbel⟩
  refine (right_any b1 e1 hb1 he1 A1 h1.length c1 W (hT.next hbel)).mono ?_
  rintro r W1 ⟨rfl, hbx⟩
  replace hA := hA.below hbx hA.lt
  replace hB := hB.below hbx hB.lt
  replace hR := hR.below hbx hR.lt
  replace hbel := hbel.trans (hbx.mono hbel.size)
  clear hbx
  cases hr1 : rightB b1 e1 h1.length with
  | false =>
    have hyy := Hy.out
    unfold mergeV at hyy
    rw [hr1, if_pos rfl] at hyy
    subst hyy
    go_wp2_with (first
      | (refine wpList_storeAll rfl rfl _ (.tmp 6) (.tmp 17) rfl (w.heap.size + 2) rfl (rgC 0 0 (.slice none 0 0)) rfl 31 _ hR (by kernel_rfl) rfl (rgC_one _ _ _ _ _) ?_; intro w8 h08 hg8))
    have hbel8 := below_only hbel hg8 (by omega) hbel.size
    exact bodyPost_ret (results_cell_two (p := 6) (q := 7) (ty := 31) rfl _ _ (w.heap.size + 2) _ _ _ _ rfl h08 Tryd.underlying31 rfl (by kernel_rfl)) rfl ⟨_, rfl, World.ownsRow_nil _ _ _ _, hbel8⟩
  | true =>
    go_wp2_with (first
      | (refine wpList_loadW (by rfl) 31 (.tmp 5) rfl (w.heap.size + 1) rfl _ _ _ hB Tryd.underlying31 rfl (by kernel_rfl) ?_))
    refine (right_any b2 e2 hb2 he2 A2 h2.length c2 W1 (hT.next hbel)).mono ?_
    rintro r W2 ⟨rfl, hbx⟩
    replace hA := hA.below hbx hA.lt
    replace hB := hB.below hbx hB.lt
    replace hR := hR.below hbx hR.lt
    replace hbel := hbel.trans (hbx.mono hbel.size)
    clear hbx
    cases hr2 : rightB b2 e2 h2.length with
    | false =>
      have hyy := Hy.out
      unfold mergeV at hyy
      rw [hr1, if_neg (by decide), hr2, if_pos rfl] at hyy
      subst hyy
      go_wp2_with (first
        | (refine wpList_storeAll rfl rfl _ (.tmp 6) (.tmp 17) rfl (w.heap.size + 2) rfl (rgC 0 0 (.slice none 0 0)) rfl 31 _ hR (by kernel_rfl) rfl (rgC_one _ _ _ _ _) ?_; intro w8 h08 hg8))
      have hbel8 := below_only hbel hg8 (by omega) hbel.size
      exact bodyPost_ret (results_cell_two (p := 6) (q := 7) (ty := 31) rfl _ _ (w.heap.size + 2) _ _ _ _ rfl h08 Tryd.underlying31 rfl (by kernel_rfl)) rfl ⟨_, rfl, World.ownsRow_nil _ _ _ _, hbel8⟩
    | true =>
      have cA : W2.cell? ⟨w.heap.size, 1, none⟩ = some (.int .u64 (e1 : Int)) := hA.cell 1
      have cB : W2.cell? ⟨w.heap.size + 1, 0, none⟩ = some (.int .u64 (b2 : Int)) := hB.cell 0
      by_cases heq : e1 = b2
      case neg =>
        have hyy := Hy.out
        unfold mergeV at hyy
        rw [hr1, if_neg (by decide), hr2, if_neg (by decide), if_pos heq] at hyy
        subst hyy
        have heq' : ((e1 : Int) != (b2 : Int)) = true := by simp; omega
        go_wp2_with (first
          | (refine wpList_storeAll rfl rfl _ (.tmp 6) (.tmp 24) rfl (w.heap.size + 2) rfl (rgC 0 0 (.slice none 0 0)) rfl 31 _ hR (by kernel_rfl) rfl (rgC_one _ _ _ _ _) ?_; intro w8 h08 hg8))
        have hbel8 := below_only hbel hg8 (by omega) hbel.size
        exact bodyPost_ret (results_cell_two (p := 6) (q := 7) (ty := 31) rfl _ _ (w.heap.size + 2) _ _ _ _ rfl h08 Tryd.underlying31 rfl (by kernel_rfl)) rfl ⟨_, rfl, World.ownsRow_nil _ _ _ _, hbel8⟩
      subst heq
      have hyy := Hy.out
      unfold mergeV at hyy
      rw [hr1, if_neg (by decide), hr2, if_neg (by decide), if_neg (by simp)] at hyy
      subst hyy
      have O1 := Lib.hid (rightB_ok hr1)
      have O2 := Lib.hid (rightB_ok hr2)
      have heq' : ((e1 : Int) != (e1 : Int)) = false := by simp
      go_wp2_with (first
        | (refine wpList_load_row rfl _ (.tmp 4) rfl w.heap.size rfl _ _ _ _ hA Tryd.underlying31 rfl (by kernel_rfl) ?_)
        | (refine wpList_load_row rfl _ (.tmp 5) rfl (w.heap.size + 1) rfl _ _ _ _ hB Tryd.underlying31 rfl (by kernel_rfl) ?_))
      refine (join_walk x b1 e1 e2 A1 c1 A2 c2 h1 h2 O1.out.1 O2.out.1 O2.out.2.1 O1.out.2.2 O2.out.2.2 Hall.out W2 (hX.next hbel) (hY.next hbel) (hG.next hbel) (hT.next hbel)).mono ?_
      rintro r W3 ⟨v, rfl, hown, hbx⟩
      obtain ⟨A6, c6, rfl⟩ := own_slice hown
      have hRlt := hR.lt
      replace hR := hR.below hbx hR.lt
      have hsz := hbel.size
      replace hbel := hbel.trans (hbx.mono hbel.size)
      have HO := Lib.hid hown
      clear hbx hown
      go_wp2_with (first
        | (refine wpList_storeAll rfl rfl _ (.tmp 6) (.tmp 28) rfl (w.heap.size + 2) rfl (rgC b1 e2 _) rfl 31 _ hR (by kernel_rfl) rfl (rgC_one _ _ _ _ _) ?_; intro w8 h08 hg8))
      have hbel8 := below_only hbel hg8 (by omega) hbel.size
      have hown8 := own_base (own_grown HO.out hg8 (fun g hg e => by have := own_ge HO.out g hg; injection e; omega)) hsz
      exact bodyPost_ret (results_cell_two (p := 6) (q := 7) (ty := 31) rfl _ _ (w.heap.size + 2) _ _ _ _ rfl h08 Tryd.underlying31 rfl (by kernel_rfl)) rfl ⟨_, rfl, hown8, hbel8⟩
set_option maxHeartbeats 1000000 in
set_option maxRecDepth 100000 in
theorem add_any (x : Int) (b e : Nat) (hb : b < 18446744073709551616) (he : e < 18446744073709551616) (A1 : Option Addr) (c1 : Nat) (h1 : List (List UInt8)) (hall : ∀ d ∈ h1, d.length = 32) (d : List UInt8) (hd : d.length = 32) (w : World) (hX : DX w (.slice A1 h1.length c1) h1) (hG : Glob w) (hT : Tz w) :
    Calls Tryd.prog 18 #[.int .i64 x, .agg (rgC b e (.slice A1 h1.length c1)), .agg (dat d)] w fun r w' => Told w w' r (addV (cutW x) b e h1 d) := by
  have Hall := Lib.hid hall
  clear hall
  obtain ⟨y, hy⟩ : ∃ y, addV (cutW x) b e h1 d = y := ⟨_, rfl⟩
  rw [hy]
  have Hy := Lib.hid hy
  clear hy
  unfold Told
  have hA := ((Blk.new w 31 (rgC b e (.slice A1 h1.length c1))).alloc (Obj.cells (dat d) 43)).alloc (Obj.cells (rgC 0 0 (.slice none 0 0)) 31)
  have hB := (Blk.new2 w (Obj.cells (rgC b e (.slice A1 h1.length c1)) 31) 43 (dat d)).alloc (Obj.cells (rgC 0 0 (.slice none 0 0)) 31)
  have hR := blk_new3j w (Obj.cells (rgC b e (.slice A1 h1.length c1)) 31) (Obj.cells (dat d) 43) 31 (rgC 0 0 (.slice none 0 0))
  have hbn := below_new3j w (Obj.cells (rgC b e (.slice A1 h1.length c1)) 31) (Obj.cells (dat d) 43) (Obj.cells (rgC 0 0 (.slice none 0 0)) 31)
  unfold rgC at hA hB hR hbn ⊢
  simp only [nU] at hA hB hR hbn ⊢
  go_enter Tryd.func18, Tryd.ntmps18
  go_wp2_with fail
  refine calls_at (fun W => Blk W w.heap.size 31 (rgC b e (.slice A1 h1.length c1)) ∧ Blk W (w.heap.size + 1) 43 (dat d) ∧ Blk W (w.heap.size + 2) 31 (rgC 0 0 (.slice none 0 0)) ∧ Below w.heap.size w W) ⟨hA, hB, hR, hbn⟩ ?_
  clear hA hB hR hbn
  rintro W ⟨hA, hB, hR, hbel⟩
  refine (right_any b e hb he A1 h1.length c1 W (hT.next hbel)).mono ?_
  rintro r W1 ⟨rfl, hbx⟩
  replace hA := hA.below hbx hA.lt
  replace hB := hB.below hbx hB.lt
  replace hR := hR.below hbx hR.lt
  replace hbel := hbel.trans (hbx.mono hbel.size)
  clear hbx
  have cA : W1.cell? ⟨w.heap.size, 1, none⟩ = some (.int .u64 (e : Int)) := hA.cell 1
  cases hr1 : rightB b e h1.length with
  | false =>
    have hyy := Hy.out
    unfold addV at hyy
    rw [hr1, if_pos rfl] at hyy
    subst hyy
    go_wp2_with (first
      | (refine wpList_storeAll rfl rfl _ (.tmp 6) (.tmp 16) rfl (w.heap.size + 2) rfl (rgC 0 0 (.slice none 0 0)) rfl 31 _ hR (by kernel_rfl) rfl (rgC_one _ _ _ _ _) ?_; intro w8 h08 hg8))
    have hbel8 := below_only hbel hg8 (by omega) hbel.size
    exact bodyPost_ret (results_cell_two (p := 6) (q := 7) (ty := 31) rfl _ _ (w.heap.size + 2) _ _ _ _ rfl h08 Tryd.underlying31 rfl (by kernel_rfl)) rfl ⟨_, rfl, World.ownsRow_nil _ _ _ _, hbel8⟩
  | true =>
    by_cases heq : e = 4294967296
    case pos =>
      have hyy := Hy.out
      unfold addV at hyy
      rw [hr1, if_neg (by decide), if_pos heq] at hyy
      subst hyy
      have heq' : ((e : Int) == 4294967296) = true := by simp; omega
      clear heq
      go_wp2_with (first
        | (refine wpList_storeAll rfl rfl _ (.tmp 6) (.tmp 16) rfl (w.heap.size + 2) rfl (rgC 0 0 (.slice none 0 0)) rfl 31 _ hR (by kernel_rfl) rfl (rgC_one _ _ _ _ _) ?_; intro w8 h08 hg8))
      have hbel8 := below_only hbel hg8 (by omega) hbel.size
      exact bodyPost_ret (results_cell_two (p := 6) (q := 7) (ty := 31) rfl _ _ (w.heap.size + 2) _ _ _ _ rfl h08 Tryd.underlying31 rfl (by kernel_rfl)) rfl ⟨_, rfl, World.ownsRow_nil _ _ _ _, hbel8⟩
    have hyy := Hy.out
    unfold addV at hyy
    rw [hr1, if_neg (by decide), if_neg heq] at hyy
    subst hyy
    have O1 := Lib.hid (rightB_ok hr1)
    have he32 : e + 1 ≤ 4294967296 := by have := O1.out.2.1; omega
    have heq' : ((e : Int) == 4294967296) = false := by simp; omega
    have hadd : IntKind.u64.wrap ((e : Int) + 1) = (e : Int) + 1 := IntWalk.u64_in _ (by omega)
    have hn1 := below_new1 W1 (Obj.cells (dat d) 43)
    have hX2 := hX.next (hbel.trans (hn1.mono hbel.size))
    have hYl := DX.of_own (own_oneD W1 0 (Nat.zero_le _) d)
    have hbel2 := hbel.trans (hn1.mono hbel.size)
    have HF := Lib.hid (And.intro hX2 (And.intro hYl hbel2))
    have hRlt := hR.lt
    replace hR := hR.below hn1 hR.lt
    clear hX2 hYl hbel2 hn1 heq
    go_wp2_with (first
      | (refine wpList_load_row rfl _ (.tmp 4) rfl w.heap.size rfl _ _ _ _ hA Tryd.underlying31 rfl (by kernel_rfl) ?_)
      | (refine wpList_load_row rfl _ (.tmp 5) rfl (w.heap.size + 1) rfl _ _ _ _ hB Tryd.underlying43 rfl (by rw [dat_size]; kernel_rfl) ?_)
      | (refine wpList_buildD rfl (.tmp 24) rfl d rfl ?_))
    have hj := join_walk x b e (e + 1) A1 c1 (some ⟨W1.heap.size, 0, none⟩) 1 h1 [d] O1.out.1 (Nat.le_succ _) he32 O1.out.2.2 (by rw [blocks_one]; rfl) (fun q hq => by
      rcases List.mem_append.1 hq with h | h
      · exact Hall.out q h
      · rw [List.mem_singleton.1 h]; exact hd) _ HF.out.1 HF.out.2.1 (hG.next HF.out.2.2) (hT.next HF.out.2.2)
    refine (show Calls _ _ #[.int .i64 x, .agg (rgC b e (.slice A1 h1.length c1)), .agg #[.int .u64 (e : Int), .int .u64 ((e : Int) + 1), .slice (some ⟨W1.heap.size, 0, none⟩) 1 1]] _ _ from hj).mono ?_
    rintro r W3 ⟨v, rfl, hown, hbx⟩
    obtain ⟨A6, c6, rfl⟩ := own_slice hown
    replace hR := hR.below hbx hR.lt
    have hsz := HF.out.2.2.size
    have hbel3 := HF.out.2.2.trans (hbx.mono HF.out.2.2.size)
    have HO := Lib.hid hown
    clear hbx hown hj
    go_wp2_with (first
      | (refine wpList_storeAll rfl rfl _ (.tmp 6) (.tmp 27) rfl (w.heap.size + 2) rfl (rgC b (e + 1) _) rfl 31 _ hR (by kernel_rfl) rfl (rgC_one _ _ _ _ _) ?_; intro w8 h08 hg8))
    have hbel8 := below_only hbel3 hg8 (by omega) hbel3.size
    have hown8 := own_base (own_grown HO.out hg8 (fun g hg e => by have := own_ge HO.out g hg; simp at this; injection e; omega)) hsz
    exact bodyPost_ret (results_cell_two (p := 6) (q := 7) (ty := 31) rfl _ _ (w.heap.size + 2) _ _ _ _ rfl h08 Tryd.underlying31 rfl (by kernel_rfl)) rfl ⟨_, rfl, hown8, hbel8⟩
end Go.Proofs.YtkogehkmldbhgaaDoor

/- The walk of the reference's join. No condition. -/
namespace Go.Proofs.YtkogehkmldbhgaaDoor
open Go Go.RowKit
attribute [local irreducible] mixW
attribute [local go_sem] n8_lo n8_hi n64_lo n64_hi n32_lo n32_hi
abbrev Run : Type := Nat × List (Nat × List UInt8) × List UInt8
def tilesR (rs : List Run) : List (Nat × List UInt8) := (rs.map fun r => r.2.1).flatten
theorem tilesR_split (rs : List Run) (i : Nat) (h : i < rs.length) : tilesR rs = tilesR (rs.take i) ++ (rs[i].2.1 ++ tilesR (rs.drop (i + 1))) := by
  have e : rs = rs.take i ++ rs[i] :: rs.drop (i + 1) := by rw [← List.drop_eq_getElem_cons h, List.take_append_drop]
  unfold tilesR
  conv => lhs; rw [e]
  rw [List.map_append, List.flatten_append, List.map_cons, List.flatten_cons]
theorem tilesR_take (rs : List Run) (i : Nat) (h : i < rs.length) : tilesR (rs.take (i + 1)) = tilesR (rs.take i) ++ rs[i].2.1 := by
  unfold tilesR
  rw [List.take_succ_eq_append_getElem h, List.map_append, List.flatten_append, List.map_cons, List.map_nil, List.flatten_cons, List.flatten_nil, List.append_nil]
theorem sum_mem_le : ∀ {l : List Nat} {x : Nat}, x ∈ l → x ≤ l.sum
  | y :: l, x, h => by
    rcases List.mem_cons.1 h with rfl | h
    · simp
    · have := sum_mem_le h
      simp only [List.sum_cons]; omega
set_option maxHeartbeats 1000000 in
set_option maxRecDepth 100000 in
theorem rjoin_any (hv : Value) (n0 : Nat) (a e : Nat) (hae : a ≤ e) (he : e ≤ 4294967296) (L st : List (Nat × List UInt8)) (hst : Stk (nodeM n0) a e st L) (hL : L.length ≤ 1000) (hall : ∀ q ∈ L, q.2.length = 32) (A : Option Addr) (c : Nat) (A' : Option Addr) (c' : Nat) (w : World) (hN : NSl w w.heap.size (.slice A L.length c) (L.map Prod.fst)) (hX : DX w (.slice A' L.length c') (L.map Prod.snd)) (hh : Hsr w w.heap.size hv n0) :
    Calls Tryd.prog 44 #[hv, .int .u64 (a : Int), .int .u64 (e : Int), .slice A L.length c, .slice A' L.length c'] w fun r w' => ∃ v, r = .returned v ∧ w'.ownsRow w.heap.size 43 32 v (st.reverse.map Prod.snd).length (dcells (st.reverse.map Prod.snd)) ∧ Below w.heap.size w w' := by
  have hred := hst.red.eq
  have hsum := hst.sum
  obtain ⟨rs, hrs1, hrs2, hrs3⟩ := hst.runs
  have hrl : rs.length = (blocksL a e).length := by rw [← hred, hrs2]; simp
  have hwant : blocksL a e = rs.map (fun r => 2 ^ r.1) := by rw [← hred, hrs2]; simp
  have hout : st.reverse.map Prod.snd = rs.map (fun r => r.2.2) := by rw [hrs2]; simp
  have hpow : ∀ r ∈ rs, r.1 ≤ 32 := fun r hr => by
    have h1 : 2 ^ r.1 ∈ st.reverse.map Prod.fst := by rw [hrs2, List.map_map]; exact List.mem_map_of_mem (f := Prod.fst ∘ fun r : Run => (2 ^ r.1, r.2.2)) hr
    have h2 := sum_mem_le h1
    have h3 : (st.reverse.map Prod.fst).sum = sumT st := sumT_reverse st
    exact p2_le (show 2 ^ r.1 ≤ 2 ^ 32 by omega)
  rw [hout]
  have hrl64 : rs.length ≤ 64 := by rw [hrl]; exact blocks_many 32 (by decide) (by omega)
  have HS := Lib.hid (And.intro hrs1 (And.intro hrs3 (And.intro hwant (And.intro hpow hall))))
  clear hst hred hsum hrs1 hrs2 hrs3 hrl hwant hout hpow hall
  go_enter Tryd.func44, Tryd.ntmps44
  go_wp2_with fail
  refine (rblocks_any a e (by omega) (by omega) w).mono ?_
  rintro r W1 ⟨u, rfl, hown, hb1⟩
  rw [show toldL a e = blocksL a e from if_pos (by omega), HS.out.2.2.1] at hown
  obtain ⟨Aw, cw, hu, hcw, hcells⟩ := hown.cells
  subst hu
  have hml : (rs.map fun r => 2 ^ r.1).length = rs.length := List.length_map _
  rw [hml] at hcells hcw ⊢
  have HW := Lib.hid (And.intro hcells hb1)
  have hNW := hN.next hb1
  have hXW := hX.next hb1
  have hhW := hh.nxt hb1
  clear hown hcells hb1 hml hN hX hh
  go_wp2_with fail
  go_loopw [12, 13, 14] (fun v kv iv wr => ∃ (i : Nat), i ≤ rs.length ∧ iv = .int .i64 i ∧ kv = .int .i64 ((tilesR (rs.take i)).length : Int) ∧ wr.ownsRow W1.heap.size 43 32 v ((rs.take i).map fun r => r.2.2).length (dcells ((rs.take i).map fun r => r.2.2)) ∧ Below W1.heap.size W1 wr) (fun _ _ iv _ => rs.length - (intOf iv).toNat)
  case atStart => exact ⟨0, Nat.zero_le _, rfl, rfl, World.ownsRow_nil _ _ _ _, Below.refl _ _⟩
  case round =>
    obtain ⟨i, hi, rfl, rfl, hown, hbel⟩ := hrel
    by_cases hlt : i < rs.length
    case neg =>
      have hlt' : ¬ ((i : Int) < (rs.length : Int)) := by omega
      obtain rfl : i = rs.length := by omega
      rw [List.take_length] at hown
      have hownf := own_base hown HW.out.2.size
      have hbf := HW.out.2.trans (hbel.mono HW.out.2.size)
      clear hown
      go_wp2_with fail
      go_ret
      exact ⟨_, rfl, by simpa using hownf, hbf⟩
    have hlt' : (i : Int) < (rs.length : Int) := by omega
    have hic : (i : Int) < (cw : Int) := by omega
    obtain ⟨gw, rfl, _, hgw, hcell⟩ := HW.out.1 i hlt
    have hcw2 := (hbel.cell (p := ⟨gw, i, none⟩) hgw).trans hcell
    have hget : (rs.map fun r => 2 ^ r.1).getD i 0 = 2 ^ (rs[i]).1 := by rw [List.getD_eq_getElem?_getD, List.getElem?_map, List.getElem?_eq_getElem hlt]; rfl
    rw [hget] at hcw2
    have hsplit := tilesR_split rs i hlt
    have htk := tilesR_take rs i hlt
    have hmem := List.getElem_mem hlt
    have htk2 : (rs.take (i + 1)).map (fun r => r.2.2) = (rs.take i).map (fun r => r.2.2) ++ [(rs[i]).2.2] := by rw [List.take_succ_eq_append_getElem hlt, List.map_append]; rfl
    have hDl64 : ((rs.take i).map fun r => r.2.2).length ≤ 64 := by rw [List.length_map, List.length_take]; omega
    generalize (rs.take i).map (fun r => r.2.2) = Dl at hown htk2 hDl64
    obtain ⟨q, hq⟩ : ∃ q, rs[i] = q := ⟨_, rfl⟩
    rw [hq] at hcw2 hsplit htk hmem htk2
    obtain ⟨k, l, d⟩ := q
    have hLs : L = tilesR (rs.take i) ++ (l ++ tilesR (rs.drop (i + 1))) := HS.out.2.1.trans hsplit
    obtain ⟨R, hR⟩ : ∃ R, tilesR (rs.drop (i + 1)) = R := ⟨_, rfl⟩
    rw [hR] at hLs
    obtain ⟨K0, hK0⟩ : ∃ K0, (tilesR (rs.take i)).length = K0 := ⟨_, rfl⟩
    have hga : Gath (nodeM n0) k l d := HS.out.1 _ hmem
    have hl32 : ∀ q ∈ l, q.2.length = 32 := fun q hq => HS.out.2.2.2.2 q (by rw [hLs]; exact List.mem_append_right _ (List.mem_append_left _ hq))
    have hk32 : k ≤ 32 := HS.out.2.2.2.1 _ hmem
    have hlen : L.length = K0 + (l.length + R.length) := by rw [hLs, List.length_append, List.length_append, hK0]
    have hd1 : (L.map Prod.fst).drop K0 = l.map Prod.fst ++ R.map Prod.fst := by
      rw [hLs, List.map_append, ← hK0, show (tilesR (rs.take i)).length = ((tilesR (rs.take i)).map Prod.fst).length from (List.length_map _).symm, List.drop_left, List.map_append]
    have hd2 : (L.map Prod.snd).drop K0 = l.map Prod.snd ++ R.map Prod.snd := by
      rw [hLs, List.map_append, ← hK0, show (tilesR (rs.take i)).length = ((tilesR (rs.take i)).map Prod.snd).length from (List.length_map _).symm, List.drop_left, List.map_append]
    have hNd := (hNW.next hbel).drop K0 (by omega)
    have hXd := (hXW.next hbel).drop K0 (by omega)
    rw [hd1] at hNd
    rw [hd2] at hXd
    have hR1l : (R.map Prod.fst).length = R.length := List.length_map _
    have hR2l : (R.map Prod.snd).length = R.length := List.length_map _
    obtain ⟨R1, hR1⟩ : ∃ R1, R.map Prod.fst = R1 := ⟨_, rfl⟩
    obtain ⟨R2, hR2⟩ : ∃ R2, R.map Prod.snd = R2 := ⟨_, rfl⟩
    rw [hR1] at hNd hR1l
    rw [hR2] at hXd hR2l
    obtain ⟨B1, d1, hB1⟩ : ∃ B1 d1, cutV A c K0 L.length = .slice B1 (l.length + R1.length) d1 := ⟨_, _, by unfold cutV; rw [show L.length - K0 = l.length + R1.length by omega]⟩
    obtain ⟨B2, d2, hB2⟩ : ∃ B2 d2, cutDV A' c' K0 L.length = .slice B2 (l.length + R2.length) d2 := ⟨_, _, by unfold cutDV; rw [show L.length - K0 = l.length + R2.length by omega]⟩
    rw [hB1] at hNd
    rw [hB2] at hXd
    have HB1 := Lib.hid hB1
    have HB2 := Lib.hid hB2
    have hr1 : l.length + R1.length ≤ 1000000 := by omega
    have hr2 : l.length + R2.length ≤ 1000000 := by omega
    rw [hK0]
    have Hlen := Lib.hid (show K0 + (l.length + R.length) = L.length from hlen.symm)
    have hKL : K0 ≤ L.length := by omega
    have Hr : Hid (Gath (nodeM n0) k l d ∧ (tilesR (rs.take (i + 1))).length = K0 + l.length ∧ (rs.take (i + 1)).map (fun r => r.2.2) = Dl ++ [d] ∧ (∀ q ∈ l, q.2.length = 32) ∧ k ≤ 32) := Lib.hid ⟨hga, by rw [htk, List.length_append, hK0], htk2, hl32, hk32⟩
    have hh4 := hhW.nxt hbel
    have HO := Lib.hid (And.intro hown hbel)
    obtain ⟨s, hs⟩ : ∃ s, 2 ^ k = s := ⟨_, rfl⟩
    have hcw3 : wr.cell? ⟨gw, i, none⟩ = some (.int .u64 (s : Int)) := by rw [← hs]; exact hcw2
    have hgwr : gw < wr.heap.size := Nat.lt_of_lt_of_le hgw hbel.size
    clear hB1 hB2 hga hl32 hk32 hlen hd1 hd2 hLs hsplit htk htk2 hmem hq hcw2 hget hcell hown hbel hR hK0 hR1 hR2 hR1l hR2l
    go_upto_region 7 with fail
    refine wp_region_mixP (.plain 0 <| .plain 1 <| .plain 2 <| .plain 3 <| .plain 4 <| .plain 5 <| .plain 6 <| .plain 7 <| .plain 8 <| .plain 9 <| .plain 10 <| .two 11 15 (.plain 12 <| .plain 13 <| .plain 14 <| .only 15 <| .only 16 <| .plain 17 <| .done) <| (.only 11 <| .plain 12 <| .plain 13 <| .plain 14 <| .only 16 <| .plain 17 <| .done)) (by kernel_rfl) (by kernel_rfl) (fun W4 hb4 => ?_)
    replace hNd := hNd.next hb4
    replace hXd := hXd.next hb4
    replace hh4 := hh4.nxt hb4
    have HO4 := Lib.hid (And.intro (own_below HO.out.1 hb4) (HO.out.2.trans (hb4.mono HO.out.2.size)))
    have hcp : ∀ x, (plus W4 x).cell? ⟨gw, i, none⟩ = some (.int .u64 (s : Int)) := fun x => (plus_cell W4 x ⟨gw, i, none⟩ (Nat.lt_of_lt_of_le hgwr hb4.size)).trans ((hb4.cell (p := ⟨gw, i, none⟩) hgwr).trans hcw3)
    clear HO hb4 hcw3 hgwr
    have HO := HO4
    clear HO4
    iterate 11 (refine mix_plain rfl ?_; (first
      | (refine wpQuiet_cutL rfl _ (.tmp 32) (.tmp 33) rfl 22 Tryd.underlying23 (by kernel_rfl) _ L.length c K0 rfl rfl (by omega) ?_; simp only [Act.put, List.setIfInBounds_toArray, List.set_cons_zero, List.set_cons_succ])
      | (refine wpQuiet_cutD rfl _ (.tmp 35) (.tmp 36) rfl 43 Tryd.underlying29 (by kernel_rfl) _ L.length c' K0 rfl rfl (by omega) ?_; simp only [Act.put, List.setIfInBounds_toArray, List.set_cons_zero, List.set_cons_succ])
      | go_big_quiet_step (fail)); refine wpQuiet_nil ?_)
    rw [HB1.out, HB2.out]
    subst hs
    clear hcp
    refine mix_two_in rfl rfl (fun K hK => ?_) (fun K hK => ?_)
    · go_wp2_with fail
      refine (gather_any hv n0 Hr.out.1 Hr.out.2.2.2.1 Hr.out.2.2.2.2 R1 R2 hr1 hr2 B1 d1 B2 d2 W4 hNd hXd hh4).mono ?_
      rintro r W5 ⟨rfl, hb5⟩
      go_wp2_with fail
      refine hK _ _ (below_plus hb5) ?_
      clear hK K
      iterate 3 (refine mix_plain rfl ?_; go_big_quiet_step (fail); refine wpQuiet_nil ?_)
      have hDX := Blk.new W5 43 (arr 32 fun _ => 0)
      have hb5' := hb5.trans ((below_new1 W5 (Obj.cells (arr 32 fun _ => 0) 43)).mono hb5.size)
      refine mix_only_in rfl (fun K hK => ?_)
      go_wp2_with fail
      refine hK _ _ (below_plus hb5') ?_
      clear hK K
      refine mix_only_in rfl (fun K hK => ?_)
      refine wpList_storeDat rfl rfl 43 (.tmp 15) (.tmp 39) rfl W5.heap.size rfl d _ rfl _ hDX (by kernel_rfl) ?_
      intro X6 hBX honX
      have hbX := below_only hb5' honX hb5.size hb5'.size
      refine hK _ _ (below_plus hbX) ?_
      clear hK K hb5 hb5' honX hDX
      iterate 1 (refine mix_plain rfl ?_; go_big_quiet_step (fail); refine wpQuiet_nil ?_)
      refine mix_done ?_
      have hown6 := own_below HO.out.1 hbX
      have hbel6 := HO.out.2.trans (hbX.mono HO.out.2.size)
      clear hbX
      have hnd := below_new1 X6 (Obj.cells (dat d) 43)
      have hown7 := own_below hown6 hnd
      have hbel7 := hbel6.trans (hnd.mono hbel6.size)
      have hX7 := Blk.new X6 43 (dat d)
      have H7 := Lib.hid (And.intro hown7 (And.intro hbel7 hX7))
      clear hown6 hbel6 hnd hown7 hbel7 hX7
      go_wp2_with (first
        | (refine wpList_load_row rfl _ (.tmp 15) rfl W5.heap.size rfl _ _ _ _ hBX Tryd.underlying43 rfl (by rw [dat_size]; kernel_rfl) ?_)
        | (refine wpList_buildD rfl (.tmp 42) rfl d rfl ?_)
        | (at_builtin; refine wpList_appendDig rfl (.tmp 41) (.tmp 43) rfl W1.heap.size _ Dl rfl H7.out.1 X6.heap.size d rfl H7.out.2.2 (by omega) H7.out.2.1.size ?_; intro v9 X9 hown9 hg9; have hbel9 := below_own H7.out.2.1 H7.out.1 hg9 H7.out.2.1.size))
      refine ⟨⟨i + 1, by omega, by go_num, ?_, ?_, hbel9⟩, by simp [intOf]; omega⟩
      · rw [Hr.out.2.1]; go_num
      · rw [Hr.out.2.2.1]; exact hown9
    · have hDX := Blk.new W4 43 (arr 32 fun _ => 0)
      have hb4' := below_new1 W4 (Obj.cells (arr 32 fun _ => 0) 43)
      go_wp2_with fail
      refine hK _ _ (below_plus hb4') ?_
      clear hK K
      refine mix_atC (fun V => Blk V W4.heap.size 43 (arr 32 fun _ => 0) ∧ Below W4.heap.size W4 V) ⟨hDX, hb4'⟩ ?_
      clear hDX hb4'
      rintro V ⟨hDX, hb4'⟩
      refine mix_only_in rfl (fun K hK => ?_)
      go_wp2_with fail
      refine (gather_any hv n0 Hr.out.1 Hr.out.2.2.2.1 Hr.out.2.2.2.2 R1 R2 hr1 hr2 B1 d1 B2 d2 V (hNd.next hb4') (hXd.next hb4') (hh4.nxt hb4')).mono ?_
      rintro r W5 ⟨rfl, hb5⟩
      have hDX5 := hDX.below hb5 hDX.lt
      have hb5' := hb4'.trans (hb5.mono hb4'.size)
      go_wp2_with fail
      refine hK _ _ (below_plus hb5') ?_
      clear hK K
      iterate 3 (refine mix_plain rfl ?_; go_big_quiet_step (fail); refine wpQuiet_nil ?_)
      refine mix_only_in rfl (fun K hK => ?_)
      refine wpList_storeDat rfl rfl 43 (.tmp 15) (.tmp 39) rfl W4.heap.size rfl d _ rfl _ hDX5 (by kernel_rfl) ?_
      intro X6 hBX honX
      have hbX := below_only hb5' honX (Nat.le_refl _) hb5'.size
      refine hK _ _ (below_plus hbX) ?_
      clear hK K hb5 hb5' honX hDX hDX5 hb4'
      iterate 1 (refine mix_plain rfl ?_; go_big_quiet_step (fail); refine wpQuiet_nil ?_)
      refine mix_done ?_
      have hown6 := own_below HO.out.1 hbX
      have hbel6 := HO.out.2.trans (hbX.mono HO.out.2.size)
      clear hbX
      have hnd := below_new1 X6 (Obj.cells (dat d) 43)
      have hown7 := own_below hown6 hnd
      have hbel7 := hbel6.trans (hnd.mono hbel6.size)
      have hX7 := Blk.new X6 43 (dat d)
      have H7 := Lib.hid (And.intro hown7 (And.intro hbel7 hX7))
      clear hown6 hbel6 hnd hown7 hbel7 hX7
      go_wp2_with (first
        | (refine wpList_load_row rfl _ (.tmp 15) rfl W4.heap.size rfl _ _ _ _ hBX Tryd.underlying43 rfl (by rw [dat_size]; kernel_rfl) ?_)
        | (refine wpList_buildD rfl (.tmp 42) rfl d rfl ?_)
        | (at_builtin; refine wpList_appendDig rfl (.tmp 41) (.tmp 43) rfl W1.heap.size _ Dl rfl H7.out.1 X6.heap.size d rfl H7.out.2.2 (by omega) H7.out.2.1.size ?_; intro v9 X9 hown9 hg9; have hbel9 := below_own H7.out.2.1 H7.out.1 hg9 H7.out.2.1.size))
      refine ⟨⟨i + 1, by omega, by go_num, ?_, ?_, hbel9⟩, by simp [intOf]; omega⟩
      · rw [Hr.out.2.1]; go_num
      · rw [Hr.out.2.2.1]; exact hown9
end Go.Proofs.YtkogehkmldbhgaaDoor
