/- Texts that stand behind one another: RefN. No condition. -/
import Derived.Test.YtcdkadidkkbhpaaDoorS33
import Derived.Test.YtcdkadidkkbhpaaDoorS15
/- The walks of the reference deponentref8: the texts, Leaf, Node, half. No condition. -/
namespace Go.Proofs.YtcdkadidkkbhpaaDoor
open Go.RowKit
attribute [local irreducible] mixW
attribute [local go_sem] n8_lo n8_hi n64_lo n64_hi n32_lo n32_hi
theorem own_oneB (w : World) (base : Nat) (hb : base ≤ w.heap.size) (b : UInt8) : (w.alloc (.cells #[.int .u8 (n8 b)] 5)).ownsRow base 5 1 (.slice (some ⟨w.heap.size, 0, none⟩) 1 1) (([b] : List UInt8).map v8).length (([b] : List UInt8).map v8) :=
  ⟨rfl, .inr ⟨w.heap.size, 1, #[.int .u8 (n8 b)], rfl, hb, heap_alloc_new w _, Nat.le_refl _, by decide, rfl, rfl⟩⟩
set_option maxRecDepth 100000 in
theorem r8ltext_own (h v : Value) (b : List UInt8) (w : World) (hv : BSl w w.heap.size v b) (hl : b.length ≤ 140737488351232) :
    Calls Tryd.prog 89 #[h, v] w fun e w' => ∃ u, e = .returned u ∧ w'.ownsRow w.heap.size 5 1 u ((0 :: b).map v8).length ((0 :: b).map v8) ∧ Below w.heap.size w w' := by
  obtain ⟨A, c, rfl, h1, h2, hrd⟩ := hv
  have hn1 := below_new1 w (Obj.cells #[.int .u8 0] 5)
  have hrd1 := hrd.below hn1
  have hown0 := own_oneB w w.heap.size (Nat.le_refl _) 0
  clear hrd h1 h2
  go_enter Tryd.func89, Tryd.ntmps89
  go_wp2_with (first
    | (at_builtin; refine wpList_appendS rfl (.tmp 5) (.tmp 6) rfl w.heap.size _ [0] b rfl hown0 _ A b.length c rfl rfl hrd1 (by simp; omega) hn1.size w hn1 ?_; intro u5 w5 hB5 hb5))
  go_ret
  exact ⟨_, rfl, hB5, hb5⟩
theorem r8ltext_any (h v : Value) (b : List UInt8) (w : World) (hv : BSl w w.heap.size v b) (hl : b.length ≤ 140737488351232) :
    Calls Tryd.prog 89 #[h, v] w fun e w' => ∃ u, e = .returned u ∧ BSl w' w'.heap.size u (0 :: b) ∧ Below w.heap.size w w' :=
  (r8ltext_own h v b w hv hl).mono fun e w' ⟨u, h1, h2, h3⟩ => ⟨u, h1, BSl.of_own h2, h3⟩
set_option maxHeartbeats 400000 in
set_option maxRecDepth 100000 in
theorem r8ntext_own (h : Value) (n : Nat) (p q : List UInt8) (hp : p.length = 32) (hq : q.length = 32) (w : World) (hh : Hsr w w.heap.size h n) :
    Calls Tryd.prog 90 #[h, .agg (dat p), .agg (dat q)] w fun e w' => ∃ u, e = .returned u ∧ w'.ownsRow w.heap.size 5 1 u ((1 :: (p.take n ++ q.take n)).map v8).length ((1 :: (p.take n ++ q.take n)).map v8) ∧ Below w.heap.size w w' := by
  obtain ⟨g, t, rfl, hg, hB, hT, hn1, hn2⟩ := hh
  clear hT
  have hP := (Blk.new w 38 (dat p)).alloc (Obj.cells (dat q) 38)
  have hQ := Blk.new2 w (Obj.cells (dat p) 38) 38 (dat q)
  have hb2 := (below_new1 w (Obj.cells (dat p) 38)).alloc (by simp) (Obj.cells (dat q) 38)
  have Hp := Lib.hid hp
  have Hq := Lib.hid hq
  clear hp hq
  go_enter Tryd.func90, Tryd.ntmps90
  go_upto_region 1 with fail
  refine wp_at (fun W => Blk W w.heap.size 38 (dat p) ∧ Blk W (w.heap.size + 1) 38 (dat q) ∧ Below w.heap.size w W) ⟨hP, hQ, hb2⟩ ?_
  clear hP hQ hb2
  rintro W ⟨hP, hQ, hbel⟩
  have i1 : (n : Int) ≤ 32 := by omega
  have hL : Lit (W.alloc (Obj.cells #[.int .u8 1] 5)) W.heap.size [1] := Lit.new W [1] 5
  have hW1 := below_new1 W (Obj.cells #[.int .u8 1] 5)
  have hB1 := (hB.below hbel hg).below hW1 (hB.below hbel hg).lt
  have c1 : (W.alloc (Obj.cells #[.int .u8 1] 5)).cell? ⟨g, 1, none⟩ = some (.int .i64 n) := by have := hB1.cell 1; simpa using this
  have hS1 := dat_take (hP.below hW1 hP.lt) Hp.out hn2
  have hl1 : (p.take n).length = n := by rw [List.length_take, Hp.out]; omega
  have Hl1 := Lib.hid hl1
  clear hl1
  go_upto_region 2 with (first
    | (at_builtin; refine wpList_appendLitO rfl (.tmp 8) (.tmp 13) rfl W.heap.size 1 [1] rfl hL rfl (by decide) _ (p.take n) rfl hS1 (by rw [Hl1.out]; omega) (by rw [Hl1.out]; omega) ?_; intro u5 w5 hown5 hb5))
  have hbel5 := hbel.trans ((hW1.trans (hb5.mono hW1.size)).mono hbel.size)
  have hB5 := hB.below hbel5 hg
  have c2 : w5.cell? ⟨g, 1, none⟩ = some (.int .i64 n) := by have := hB5.cell 1; simpa using this
  have hQ5 := hQ.below (hW1.trans (hb5.mono hW1.size)) hQ.lt
  have hS2 := (dat_take hQ5 Hq.out hn2).reads
  have hl2 : (q.take n).length = n := by rw [List.length_take, Hq.out]; omega
  have Hl2 := Lib.hid hl2
  have hown := own_base hown5 (Nat.le_trans hbel.size hW1.size)
  clear c1 hl2 hS1 hL hown5 hb5 hW1 hB1 hB5 hQ5 hP hQ hbel
  go_wp2_with (first
    | (at_builtin; refine wpList_appendS rfl (.tmp 15) (.tmp 20) rfl w.heap.size _ ([1] ++ p.take n) (q.take n) rfl hown _ _ n 32 rfl Hl2.out hS2 (by rw [Hl2.out, List.length_append, Hl1.out]; simp; omega) hbel5.size w hbel5 ?_; intro u6 w6 hown6 hb6))
  go_ret
  rw [List.append_assoc] at hown6
  exact ⟨_, rfl, hown6, hb6⟩
theorem r8ntext_any (h : Value) (n : Nat) (p q : List UInt8) (hp : p.length = 32) (hq : q.length = 32) (w : World) (hh : Hsr w w.heap.size h n) :
    Calls Tryd.prog 90 #[h, .agg (dat p), .agg (dat q)] w fun e w' => ∃ u, e = .returned u ∧ BSl w' w'.heap.size u (1 :: (p.take n ++ q.take n)) ∧ Below w.heap.size w w' :=
  (r8ntext_own h n p q hp hq w hh).mono fun e w' ⟨u, h1, h2, h3⟩ => ⟨u, h1, BSl.of_own h2, h3⟩
set_option maxRecDepth 100000 in
theorem r8leaf_any (h v : Value) (n : Nat) (b : List UInt8) (w : World) (hh : Hsr w w.heap.size h n) (hv : BSl w w.heap.size v b) (hl : b.length ≤ 140737488351232) :
    Calls Tryd.prog 78 #[h, v] w fun e w' => e = .returned (.agg (dat (leafM n b))) ∧ Below w.heap.size w w' := by
  obtain ⟨A, c, rfl, h1, h2, hrd⟩ := hv
  have hv : BSl w w.heap.size (.slice A b.length c) b := ⟨A, c, rfl, h1, h2, hrd⟩
  clear hrd h1 h2
  obtain ⟨g, t, rfl, hg, hB, hT, hn1, hn2⟩ := hh
  have Hh : Hid (Hsr w w.heap.size (.pointer (some ⟨g, 0, none⟩)) n) := Lib.hid ⟨g, t, rfl, hg, hB, hT, hn1, hn2⟩
  clear hB hT
  have hD := Blk.new w 38 (arr 32 fun _ => 0)
  have hb0 := below_new1 w (Obj.cells (arr 32 fun _ => 0) 38)
  go_enter Tryd.func78, Tryd.ntmps78
  go_wp2_with fail
  refine calls_at (fun W => Blk W w.heap.size 38 (arr 32 fun _ => 0) ∧ Below w.heap.size w W) ⟨hD, hb0⟩ ?_
  clear hD hb0
  rintro W ⟨hD, hbel⟩
  refine (r8ltext_any _ _ b W (hv.next hbel) hl).mono ?_
  rintro e w1 ⟨u, rfl, hB1, hb1⟩
  replace hD := hD.below hb1 hD.lt
  replace hbel := hbel.trans (hb1.mono hbel.size)
  clear hb1
  go_wp2_with fail
  refine (r8sum_any _ u n (0 :: b) w1 (Hh.out.nxt hbel) hB1 (by simp only [List.length_cons]; omega)).mono ?_
  rintro e w2 ⟨rfl, hb1⟩
  replace hD := hD.below hb1 hD.lt
  replace hbel := hbel.trans (hb1.mono hbel.size)
  clear hb1 hB1
  go_wp2_with (first
    | (refine wpList_storeDat rfl rfl 38 (.tmp 4) (.tmp 9) rfl w.heap.size rfl _ _ rfl _ hD (by kernel_rfl) ?_; intro w10 hD10 hon10))
  have hb10 := below_only hbel hon10 (Nat.le_refl _) hbel.size
  exact bodyPost_ret (results_cell_row (p := 4) (ty := 38) rfl _ _ w.heap.size _ _ _ _ rfl hD10 Tryd.underlying38 rfl (by rw [dat_size]; kernel_rfl)) rfl ⟨rfl, hb10⟩
set_option maxHeartbeats 400000 in
set_option maxRecDepth 100000 in
theorem r8node_any (h : Value) (n : Nat) (p q : List UInt8) (hp : p.length = 32) (hq : q.length = 32) (w : World) (hh : Hsr w w.heap.size h n) :
    Calls Tryd.prog 80 #[h, .agg (dat p), .agg (dat q)] w fun e w' => e = .returned (.agg (dat (nodeM n p q))) ∧ Below w.heap.size w w' := by
  obtain ⟨g, t, rfl, hg, hB, hT, hn1, hn2⟩ := hh
  have Hh : Hid (Hsr w w.heap.size (.pointer (some ⟨g, 0, none⟩)) n) := Lib.hid ⟨g, t, rfl, hg, hB, hT, hn1, hn2⟩
  clear hB hT
  have hP := ((Blk.new w 38 (dat p)).alloc (Obj.cells (dat q) 38)).alloc (Obj.cells (arr 32 fun _ => 0) 38)
  have hQ := (Blk.new2 w (Obj.cells (dat p) 38) 38 (dat q)).alloc (Obj.cells (arr 32 fun _ => 0) 38)
  have hD := Blk.new3 w (Obj.cells (dat p) 38) (Obj.cells (dat q) 38) 38 (arr 32 fun _ => 0)
  have hb3 := below_new3 w (Obj.cells (dat p) 38) (Obj.cells (dat q) 38) (Obj.cells (arr 32 fun _ => 0) 38)
  have Hp := Lib.hid hp
  have Hq := Lib.hid hq
  clear hp hq
  go_enter Tryd.func80, Tryd.ntmps80
  go_upto_region 1 with fail
  refine wp_at (fun W => Blk W w.heap.size 38 (dat p) ∧ Blk W (w.heap.size + 1) 38 (dat q) ∧ Blk W (w.heap.size + 2) 38 (arr 32 fun _ => 0) ∧ Below w.heap.size w W) ⟨hP, hQ, hD, hb3⟩ ?_
  clear hP hQ hD hb3
  rintro W ⟨hP, hQ, hD, hbel⟩
  go_wp2_with (first
    | (refine wpList_loadW (by rfl) 38 (.tmp 4) rfl w.heap.size rfl _ _ _ hP Tryd.underlying38 rfl (by kernel_rfl) ?_)
    | (refine wpList_loadW (by rfl) 38 (.tmp 5) rfl (w.heap.size + 1) rfl _ _ _ hQ Tryd.underlying38 rfl (by kernel_rfl) ?_))
  refine (r8ntext_any _ n p q Hp.out Hq.out W (Hh.out.nxt hbel)).mono ?_
  rintro e w1 ⟨u, rfl, hB1, hb1⟩
  replace hD := hD.below hb1 hD.lt
  replace hbel := hbel.trans (hb1.mono hbel.size)
  clear hb1 hP hQ
  go_wp2_with fail
  refine (r8sum_any _ u n _ w1 (Hh.out.nxt hbel) hB1 (by simp only [List.length_cons, List.length_append, List.length_take]; omega)).mono ?_
  rintro e w2 ⟨rfl, hb1⟩
  replace hD := hD.below hb1 hD.lt
  replace hbel := hbel.trans (hb1.mono hbel.size)
  clear hb1 hB1
  go_wp2_with (first
    | (refine wpList_storeDat rfl rfl 38 (.tmp 6) (.tmp 12) rfl (w.heap.size + 2) rfl _ _ rfl _ hD (by kernel_rfl) ?_; intro w10 hD10 hon10))
  have hb10 := below_only hbel hon10 (by omega) hbel.size
  exact bodyPost_ret (results_cell_row (p := 6) (ty := 38) rfl _ _ (w.heap.size + 2) _ _ _ _ rfl hD10 Tryd.underlying38 rfl (by rw [dat_size]; kernel_rfl)) rfl ⟨rfl, hb10⟩
set_option maxRecDepth 100000 in
theorem r8half_any (n : Nat) (h : 2 ≤ n) (hn : n ≤ 4611686018427387904) (w : World) :
    Calls Tryd.prog 79 #[.int .i64 n] w fun e w' => e = .returned (.int .i64 (halfN n)) ∧ w = w' := by
  go_enter Tryd.func79, Tryd.ntmps79
  go_wp2_with fail
  go_loopw [3] (fun kv wr => ∃ j k : Nat, k = 2 ^ j ∧ k < n ∧ kv = .int .i64 k ∧ w = wr) (fun kv _ => n - (intOf kv).toNat)
  case atStart => exact ⟨0, 1, rfl, by omega, rfl, rfl⟩
  case round =>
    obtain ⟨j, k, hkj, hkn, rfl, rfl⟩ := hrel
    have Hkj := Lib.hid hkj
    have hk0 : 1 ≤ k := by rw [hkj]; exact Nat.one_le_two_pow
    clear hkj
    by_cases hlt : 2 * k < n
    · have hlt' : 2 * (k : Int) < (n : Int) := by omega
      go_wp2_with fail
      go_roundw
      case rel => exact ⟨j + 1, 2 * k, by rw [Nat.pow_succ, ← Hkj.out]; omega, hlt, by go_num, by first | rfl | trivial⟩
      case measure => simp [intOf]; omega
    · have hlt' : ¬ (2 * (k : Int) < (n : Int)) := by omega
      have hh : halfN n = k := by
        unfold halfN
        rw [(Nat.log2_eq_iff (by omega)).2 (show 2 ^ j ≤ n - 1 ∧ n - 1 < 2 ^ (j + 1) from ⟨by have := Hkj.out; omega, by rw [Nat.pow_succ, ← Hkj.out]; omega⟩)]
        exact Hkj.out.symm
      have Hh := Lib.hid hh
      clear hh
      go_wp2_with fail
      go_ret
      exact ⟨by rw [Hh.out]; rfl, by first | rfl | trivial⟩
set_option maxHeartbeats 1000000 in
set_option maxRecDepth 100000 in
theorem r8root_any (h : Value) (n : Nat) : ∀ (N : Nat) (ls : List (List UInt8)), ls.length ≤ N → ls.length ≤ 4611686018427387904 → (∀ b ∈ ls, b.length ≤ 140737488351232) → ∀ (v : Value) (w : World), SSl w w.heap.size v ls → Hsr w w.heap.size h n →
    Calls Tryd.prog 67 #[h, v] w fun e w' => e = .returned (.agg (dat (rootM n ls))) ∧ Below w.heap.size w w' := by
  intro N
  induction N with
  | zero =>
    intro ls hN h62 hall v w hv hh
    have hnil : ls = [] := List.eq_nil_of_length_eq_zero (by omega)
    subst hnil
    obtain ⟨A, cap, vs, rfl, h2, h3, h4, h5, h6⟩ := hv
    clear h4 h5 h6 vs
    obtain ⟨g, t, rfl, hg, hB, hT, hn1, hn2⟩ := hh
    have Hh : Hid (Hsr w w.heap.size (.pointer (some ⟨g, 0, none⟩)) n) := Lib.hid ⟨g, t, rfl, hg, hB, hT, hn1, hn2⟩
    clear hB hT
    have hD := Blk.new w 38 (arr 32 fun _ => 0)
    have hb0 := below_new1 w (Obj.cells (arr 32 fun _ => 0) 38)
    go_enter Tryd.func67, Tryd.ntmps67
    go_wp2_with fail
    refine calls_at (fun W => Blk W w.heap.size 38 (arr 32 fun _ => 0) ∧ Below w.heap.size w W) ⟨hD, hb0⟩ ?_
    clear hD hb0
    rintro W ⟨hD, hbel⟩
    refine (r8sum_any _ _ n [] W (Hh.out.nxt hbel) BSl.nil_ (by simp)).mono ?_
    rintro e w2 ⟨rfl, hb1⟩
    replace hD := hD.below hb1 hD.lt
    replace hbel := hbel.trans (hb1.mono hbel.size)
    clear hb1
    go_wp2_with (first
      | (refine wpList_storeDat rfl rfl 38 (.tmp 4) (.tmp 10) rfl w.heap.size rfl _ _ rfl _ hD (by kernel_rfl) ?_; intro w10 hD10 hon10))
    have hb10 := below_only hbel hon10 (Nat.le_refl _) hbel.size
    exact bodyPost_ret (results_cell_row (p := 4) (ty := 38) rfl _ _ w.heap.size _ _ _ _ rfl hD10 Tryd.underlying38 rfl (by rw [dat_size]; kernel_rfl)) rfl ⟨rfl, hb10⟩
  | succ N ih =>
    intro ls hN h62 hall v w hv hh
    by_cases hz : ls.length = 0
    · exact ih ls (by omega) h62 hall v w hv hh
    have IH := Lib.hid ih
    have Hall := Lib.hid hall
    clear ih hall
    obtain ⟨A, cap, vs, rfl, h2, h3, h4, h5, h6⟩ := hv
    have hv : SSl w w.heap.size (.slice A ls.length cap) ls := ⟨A, cap, vs, rfl, h2, h3, h4, h5, h6⟩
    clear h4 h5 h6 vs
    obtain ⟨g, t, rfl, hg, hB, hT, hn1, hn2⟩ := hh
    have Hh : Hid (Hsr w w.heap.size (.pointer (some ⟨g, 0, none⟩)) n) := Lib.hid ⟨g, t, rfl, hg, hB, hT, hn1, hn2⟩
    clear hB hT
    have hD := Blk.new w 38 (arr 32 fun _ => 0)
    have hb0 := below_new1 w (Obj.cells (arr 32 fun _ => 0) 38)
    have e0 : ((ls.length : Int) == 0) = false := by rw [beq_eq_false_iff_ne]; omega
    go_enter Tryd.func67, Tryd.ntmps67
    by_cases hone : ls.length = 1
    · have e1 : ((ls.length : Int) == 1) = true := by rw [beq_iff_eq]; omega
      have Hr := Lib.hid (rootM_single n ls hone)
      have hlt : (0 : Int) < (ls.length : Int) := by omega
      go_upto_region 4 with fail
      refine wp_at (fun W => Blk W w.heap.size 38 (arr 32 fun _ => 0) ∧ Below w.heap.size w W) ⟨hD, hb0⟩ ?_
      clear hD hb0
      rintro W ⟨hD, hbel⟩
      obtain ⟨b0, off, u, rfl, hb0, hcu, hu⟩ := (hv.next hbel).cellAt 0 (by omega)
      have Hlb : Hid ((ls.getD 0 []).length ≤ 140737488351232) := Lib.hid (Hall.out _ (by rw [List.getD_eq_getElem?_getD, List.getElem?_eq_getElem (show 0 < ls.length by omega)]; exact List.getElem_mem _))
      rw [Nat.add_zero] at hcu
      clear hone e1 e0 hv hN h62 h2 h3 hz
      go_wp2_with fail
      refine (r8leaf_any _ u n (ls.getD 0 []) W (Hh.out.nxt hbel) hu Hlb.out).mono ?_
      rintro e w2 ⟨rfl, hb1⟩
      replace hD := hD.below hb1 hD.lt
      replace hbel := hbel.trans (hb1.mono hbel.size)
      clear hb1 hcu hu
      go_wp2_with (first
        | (refine wpList_storeDat rfl rfl 38 (.tmp 4) (.tmp 18) rfl w.heap.size rfl _ _ rfl _ hD (by kernel_rfl) ?_; intro w10 hD10 hon10))
      have hb10 := below_only hbel hon10 (Nat.le_refl _) hbel.size
      refine bodyPost_ret (results_cell_row (p := 4) (ty := 38) rfl _ _ w.heap.size _ _ _ _ rfl hD10 Tryd.underlying38 rfl (by rw [dat_size]; kernel_rfl)) rfl ⟨?_, hb10⟩
      rw [Hr.out, List.getD_eq_getElem?_getD]
    · have e1 : ((ls.length : Int) == 1) = false := by rw [beq_eq_false_iff_ne]; omega
      go_wp2_with fail
      refine calls_at (fun W => Blk W w.heap.size 38 (arr 32 fun _ => 0) ∧ Below w.heap.size w W) ⟨hD, hb0⟩ ?_
      clear hD hb0
      rintro W ⟨hD, hbel⟩
      have h2l : 2 ≤ ls.length := by omega
      refine (r8half_any ls.length h2l h62 W).mono ?_
      rintro e _ ⟨rfl, rfl⟩
      have Hp := Lib.hid (half_parts ls h2l)
      have Hr := Lib.hid (rootM_node n ls h2l)
      obtain ⟨p, hp⟩ : ∃ p, rootM n (ls.take (halfN ls.length)) = p := ⟨_, rfl⟩
      obtain ⟨q, hq⟩ : ∃ q, rootM n (ls.drop (halfN ls.length)) = q := ⟨_, rfl⟩
      have Hpq : Hid (p.length = 32 ∧ q.length = 32 ∧ rootM n ls = nodeM n p q) := Lib.hid ⟨by rw [← hp]; exact rootM_length _ _, by rw [← hq]; exact rootM_length _ _, by rw [Hr.out, hp, hq]⟩
      have Hp0 := Lib.hid hp
      have Hq0 := Lib.hid hq
      clear hp hq Hr e1 e0 hone h2l hz
      obtain ⟨k, hk⟩ : ∃ k, halfN ls.length = k := ⟨_, rfl⟩
      rw [hk] at Hp Hp0 Hq0 ⊢
      clear hk
      have hkl : (k : Int) ≤ (ls.length : Int) := by have := Hp.out; omega
      have hk0 : (0 : Int) ≤ (k : Int) := by omega
      have hkc : (k : Int) ≤ (cap : Int) := by omega
      go_wp2_with fail
      refine wp_region_mixT 12 (.plain 0 <| .plain 1 <| .plain 2 <| .plain 3 <| .plain 4 <| .plain 6 <| .plain 7 <| .plain 8 <| .plain 9 <| .only 5 <| .only 10 <| .only 11 <| .done) (by kernel_rfl) (by kernel_rfl) (fun W1 hb1 => ?_)
      replace hD := hD.below hb1 hD.lt
      replace hbel := hbel.trans (hb1.mono hbel.size)
      clear hb1
      have hv1 := hv.next hbel
      have hT := hv1.take k (by omega)
      have hR := hv1.drop k (by omega)
      clear hv hv1
      iterate 9 (refine mix_plain rfl ?_; (first
        | (refine wpQuiet_cutL rfl _ (.tmp 29) (.tmp 30) rfl 23 Tryd.underlying46 (by kernel_rfl) A ls.length cap k rfl rfl (by omega) ?_; simp only [Act.put, List.setIfInBounds_toArray, List.set_cons_zero, List.set_cons_succ])
        | go_big_quiet_step (fail)); refine wpQuiet_nil ?_)
      refine mix_only rfl (fun K hK => ?_)
      go_wp2_with fail
      refine (IH.out (ls.take k) (by have := Hp.out; omega) (by have := Hp.out; omega) (fun b hb => Hall.out b (List.mem_of_mem_take hb)) _ W1 hT (Hh.out.nxt hbel)).mono ?_
      rintro e W2 ⟨rfl, hb1⟩
      rw [Hp0.out]
      go_wp2_with fail
      refine hK _ _ hb1 ?_
      clear hK K hT
      replace hD := hD.below hb1 hD.lt
      replace hR := hR.next hb1
      replace hbel := hbel.trans (hb1.mono hbel.size)
      clear hb1
      refine mix_only rfl (fun K hK => ?_)
      go_wp2_with fail
      refine (IH.out (ls.drop k) (by have := Hp.out; omega) (by have := Hp.out; omega) (fun b hb => Hall.out b (List.mem_of_mem_drop hb)) _ W2 hR (Hh.out.nxt hbel)).mono ?_
      rintro e W3 ⟨rfl, hb1⟩
      rw [Hq0.out]
      go_wp2_with fail
      refine hK _ _ hb1 ?_
      clear hK K hR
      replace hD := hD.below hb1 hD.lt
      replace hbel := hbel.trans (hb1.mono hbel.size)
      clear hb1
      refine mix_only rfl (fun K hK => ?_)
      go_wp2_with fail
      refine (r8node_any _ n p q Hpq.out.1 Hpq.out.2.1 W3 (Hh.out.nxt hbel)).mono ?_
      rintro e W4 ⟨rfl, hb1⟩
      go_wp2_with fail
      refine hK _ _ hb1 ?_
      clear hK K
      replace hD := hD.below hb1 hD.lt
      replace hbel := hbel.trans (hb1.mono hbel.size)
      clear hb1
      refine mix_done ?_
      simp only [List.drop_succ_cons, List.drop_zero]
      refine wpList_storeDat rfl rfl 38 (.tmp 4) (.tmp 33) rfl w.heap.size rfl _ _ rfl _ hD (by kernel_rfl) ?_
      intro w10 hD10 hon10
      have hb10 := below_only hbel hon10 (Nat.le_refl _) hbel.size
      go_wp2
      refine bodyPost_ret (results_cell_row (p := 4) (ty := 38) rfl _ _ w.heap.size _ _ _ _ rfl hD10 Tryd.underlying38 rfl (by rw [dat_size]; kernel_rfl)) rfl ⟨?_, hb10⟩
      rw [Hpq.out.2.2]
end Go.Proofs.YtcdkadidkkbhpaaDoor
