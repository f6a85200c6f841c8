/- Texts that stand behind one another: VerB, VerC, VerQ, VerS, Const. No condition. -/
import Derived.Test.YteonmcconpfkjaaDoorP9
import Derived.Test.YteonmcconpfkjaaDoorP6
import Derived.Test.YteonmcconpfkjaaDoorP4
import Derived.Lib.SlBytesConst
/- The walks of verify's leaf and node. No condition. -/
namespace Go.Proofs.YteonmcconpfkjaaDoor
open Go Go.RowKit
attribute [local irreducible] mixW
attribute [local go_sem] n8_lo n8_hi n64_lo n64_hi n32_lo n32_hi
set_option maxRecDepth 100000 in
theorem vleaf_any (x : Int) (v : Value) (b : List UInt8) (w : World) (hv : BSl w w.heap.size v b) (hl : b.length ≤ 140737488355200) (hG : Glob w) :
    Calls Tryd.prog 160 #[.int .i64 x, v] w fun e w' => ∃ u, e = .returned (.agg (stepC u (leafM (cutW x) b))) ∧ w'.ownsRow w.heap.size 5 1 u (0 :: b).length ((0 :: b).map v8) ∧ Below w.heap.size w w' := by
  obtain ⟨A, c, rfl, h1, h2, hrd⟩ := hv
  have hv : BSl w w.heap.size (.slice A b.length c) b := ⟨A, c, rfl, h1, h2, hrd⟩
  clear hrd h1 h2
  obtain ⟨m, hm⟩ : ∃ m, b.length = m := ⟨_, rfl⟩
  have Hm := Lib.hid hm
  rw [hm] at hv hl ⊢
  clear hm
  have hS0 : Blk (((w.alloc (Obj.cells step0 186)).alloc (Obj.cells #[.int .u8 0] 5)).alloc (Obj.cells #[.slice (some ⟨w.heap.size + 1, 0, none⟩) 1 1, .slice A m c] 22)) (w.heap.size + 2) 22 #[.slice (some ⟨w.heap.size + 1, 0, none⟩) 1 1, .slice A m c] := Blk.new3 w (Obj.cells step0 186) (Obj.cells #[.int .u8 0] 5) 22 #[.slice (some ⟨w.heap.size + 1, 0, none⟩) 1 1, .slice A m c]
  have hD3 := ((Blk.new w 186 step0).alloc (Obj.cells #[.int .u8 0] 5)).alloc (Obj.cells #[.slice (some ⟨w.heap.size + 1, 0, none⟩) 1 1, .slice A m c] 22)
  have hK3 := (Blk.new2 w (Obj.cells step0 186) 5 #[.int .u8 0]).alloc (Obj.cells #[.slice (some ⟨w.heap.size + 1, 0, none⟩) 1 1, .slice A m c] 22)
  have hb3 := below_new3 w (Obj.cells step0 186) (Obj.cells #[.int .u8 0] 5) (Obj.cells #[.slice (some ⟨w.heap.size + 1, 0, none⟩) 1 1, .slice A m c] 22)
  go_enter Tryd.func160, Tryd.ntmps160
  go_wp2_with fail
  refine calls_at (fun W => Blk W w.heap.size 186 step0 ∧ Blk W (w.heap.size + 1) 5 #[.int .u8 0] ∧ Blk W (w.heap.size + 2) 22 #[.slice (some ⟨w.heap.size + 1, 0, none⟩) 1 1, .slice A m c] ∧ Below w.heap.size w W) ⟨hD3, hK3, hS0, hb3⟩ ?_
  clear hD3 hK3 hS0 hb3
  rintro W ⟨hD, hK, hS, hbel⟩
  have hk : BSl W W.heap.size (.slice (some ⟨w.heap.size + 1, 0, none⟩) 1 1) [0] := ⟨_, 1, rfl, by decide, by decide, (by have h0 := Reads.of_blk hK hK.lt 0; simpa using h0 : Reads W W.heap.size (some ⟨w.heap.size + 1, 0, none⟩) [Value.int .u8 0])⟩
  have hSS := SSl.two hS _ hS.lt hk (hv.next hbel)
  refine (join_any _ _ W hSS (by have := Hm.out; simp; omega)).mono ?_
  rintro e w1 ⟨u, rfl, hown, hb1⟩
  have hfl : ([[(0 : UInt8)], b] : List (List UInt8)).flatten = 0 :: b := by simp
  rw [hfl] at hown
  obtain ⟨Au, cu, hu⟩ := own_slice hown
  replace hD := hD.below hb1 hD.lt
  have hown := own_base hown hbel.size
  replace hbel := hbel.trans (hb1.mono hbel.size)
  clear hb1 hS hK hk hSS hfl
  have HO := Lib.hid (And.intro hown hu)
  clear hown hu
  go_wp2_with fail
  refine (mleaf_any x _ b w1 (hv.next hbel) (by have := Hm.out; omega) (hG.next hbel)).mono ?_
  rintro e w2 ⟨rfl, hb1⟩
  replace hD := hD.below hb1 hD.lt
  replace hbel := hbel.trans (hb1.mono hbel.size)
  have HO2 := Lib.hid (And.intro (own_below HO.out.1 hb1) HO.out.2)
  clear hb1 HO hv
  have hu := HO2.out.2
  subst hu
  go_wp2_with (first
    | (refine wpList_buildStep rfl (.tmp 8) (.tmp 11) rfl Au _ cu (leafM (cutW x) b) rfl rfl ?_)
    | (refine wpList_storeStep rfl rfl (.tmp 4) (.tmp 12) rfl w.heap.size rfl Au _ cu _ rfl _ _ hD step0_size ?_; intro w10 hD10 hon10))
  have hb10 := below_only hbel hon10 (Nat.le_refl _) hbel.size
  have hown := own_grown HO2.out.1 hon10 (own_diff HO2.out.1 hD (by decide))
  have Hf := Lib.hid hown
  clear hown HO2
  refine bodyPost_ret (results_cell_row (p := 4) (ty := 186) rfl _ _ w.heap.size _ _ _ _ rfl hD10 Tryd.underlying186 rfl (by rw [stepC_size]; kernel_rfl)) rfl ⟨_, rfl, ?_, hb10⟩
  exact Hf.out
set_option maxHeartbeats 400000 in
set_option maxRecDepth 100000 in
theorem vnode_any (x : Int) (p q : List UInt8) (hp : p.length = 32) (hq : q.length = 32) (w : World) (hG : Glob w) :
    Calls Tryd.prog 161 #[.int .i64 x, .agg (dat p), .agg (dat q)] w fun e w' => ∃ u, e = .returned (.agg (stepC u (nodeM (cutW x) p q))) ∧ w'.ownsRow w.heap.size 5 1 u (nodeT (cutW x) p q).length ((nodeT (cutW x) p q).map v8) ∧ Below w.heap.size w w' := by
  have hP := ((Blk.new w 43 (dat p)).alloc (Obj.cells (dat q) 43)).alloc (Obj.cells step0 186)
  have hQ := (Blk.new2 w (Obj.cells (dat p) 43) 43 (dat q)).alloc (Obj.cells step0 186)
  have hD := Blk.new3 w (Obj.cells (dat p) 43) (Obj.cells (dat q) 43) 186 step0
  have hb3 := below_new3 w (Obj.cells (dat p) 43) (Obj.cells (dat q) 43) (Obj.cells step0 186)
  have Hp := Lib.hid hp
  have Hq := Lib.hid hq
  clear hp hq
  go_enter Tryd.func161, Tryd.ntmps161
  go_wp2_with fail
  refine calls_at (fun W => Blk W w.heap.size 43 (dat p) ∧ Blk W (w.heap.size + 1) 43 (dat q) ∧ Blk W (w.heap.size + 2) 186 step0 ∧ Below w.heap.size w W) ⟨hP, hQ, hD, hb3⟩ ?_
  clear hP hQ hD hb3
  rintro W ⟨hP, hQ, hD, hbel⟩
  refine (vcut_any x W).mono ?_
  rintro e _ ⟨rfl, rfl⟩
  have hn1 := cutW_lo x
  have hn2 := cutW_hi x
  have Hl := Lib.hid (show (nodeT (cutW x) p q).length ≤ 65 by unfold nodeT; simp only [List.length_cons, List.length_append, List.length_take]; omega)
  obtain ⟨n, hn⟩ : ∃ n, cutW x = n := ⟨_, rfl⟩
  rw [hn] at hn1 hn2 Hl ⊢
  have Hn := Lib.hid hn
  clear hn
  go_wp2_with fail
  have i1 : (n : Int) ≤ 32 := by omega
  refine wp_region_mixT 12 (.plain 1 <| .plain 2 <| .plain 3 <| .plain 4 <| .plain 7 <| .plain 8 <| .plain 9 <| .only 0 <| .only 5 <| .only 6 <| .only 10 <| .plain 11 <| .done) (by kernel_rfl) (by kernel_rfl) (fun W1 hb1 => ?_)
  replace hP := hP.below hb1 hP.lt
  replace hQ := hQ.below hb1 hQ.lt
  replace hD := hD.below hb1 hD.lt
  replace hbel := hbel.trans (hb1.mono hbel.size)
  clear hb1
  iterate 7 (refine mix_plain rfl ?_; (first
    | (refine wpQuiet_load rfl _ (.tmp 4) rfl w.heap.size rfl _ _ _ _ (fun _ ⟨e, he⟩ => by rw [he]; exact hP.plus e) Tryd.underlying43 rfl (by kernel_rfl) ?_; simp only [Act.put, List.setIfInBounds_toArray, List.set_cons_zero, List.set_cons_succ])
    | (refine wpQuiet_load rfl _ (.tmp 5) rfl (w.heap.size + 1) rfl _ _ _ _ (fun _ ⟨e, he⟩ => by rw [he]; exact hQ.plus e) Tryd.underlying43 rfl (by kernel_rfl) ?_; simp only [Act.put, List.setIfInBounds_toArray, List.set_cons_zero, List.set_cons_succ])
    | go_big_quiet_step (fail)); refine wpQuiet_nil ?_)
  refine mix_only rfl (fun K hK => ?_)
  go_wp2_with fail
  refine hK _ _ (below_new1 W1 _) ?_
  clear hK K
  have hb1 := below_new1 W1 (Obj.cells #[.int .u8 1] 5)
  refine mix_at (fun W => Blk W W1.heap.size 5 #[.int .u8 1] ∧ Blk W w.heap.size 43 (dat p) ∧ Blk W (w.heap.size + 1) 43 (dat q) ∧ Blk W (w.heap.size + 2) 186 step0 ∧ Below w.heap.size w W) ⟨Blk.new W1 5 #[.int .u8 1], hP.below hb1 hP.lt, hQ.below hb1 hQ.lt, hD.below hb1 hD.lt, hbel.trans (hb1.mono hbel.size)⟩ ?_
  clear hb1 hP hQ hD hbel
  rintro W2 ⟨hK1, hP, hQ, hD, hbel⟩
  generalize W1.heap.size = g1 at hK1 ⊢
  refine mix_only rfl (fun K hK => ?_)
  go_wp2_with fail
  refine hK _ _ (below_new1 W2 _) ?_
  clear hK K
  have hb1 := below_new1 W2 (Obj.cells #[.slice (some ⟨g1, 0, none⟩) 1 1, .slice (some ⟨w.heap.size, 0, none⟩) n 32, .slice (some ⟨w.heap.size + 1, 0, none⟩) n 32] 22)
  refine mix_at (fun W => Blk W W2.heap.size 22 #[.slice (some ⟨g1, 0, none⟩) 1 1, .slice (some ⟨w.heap.size, 0, none⟩) n 32, .slice (some ⟨w.heap.size + 1, 0, none⟩) n 32] ∧ Blk W g1 5 #[.int .u8 1] ∧ Blk W w.heap.size 43 (dat p) ∧ Blk W (w.heap.size + 1) 43 (dat q) ∧ Blk W (w.heap.size + 2) 186 step0 ∧ Below w.heap.size w W) ⟨Blk.new W2 _ _, hK1.below hb1 hK1.lt, hP.below hb1 hP.lt, hQ.below hb1 hQ.lt, hD.below hb1 hD.lt, hbel.trans (hb1.mono hbel.size)⟩ ?_
  clear hb1 hK1 hP hQ hD hbel
  rintro W3 ⟨hS, hK1, hP, hQ, hD, hbel⟩
  generalize W2.heap.size = g2 at hS ⊢
  have hk : BSl W3 W3.heap.size (.slice (some ⟨g1, 0, none⟩) 1 1) [1] := ⟨_, 1, rfl, by decide, by decide, (by have h0 := Reads.of_blk hK1 hK1.lt 0; simpa using h0 : Reads W3 W3.heap.size (some ⟨g1, 0, none⟩) [Value.int .u8 1])⟩
  have hSS := SSl.three hS _ hS.lt hk (dat_take hP Hp.out hn2) (dat_take hQ Hq.out hn2)
  have hll : (p.take n).length ≤ 32 ∧ (q.take n).length ≤ 32 := by rw [List.length_take, List.length_take]; omega
  refine mix_only rfl (fun K hK => ?_)
  go_wp2_with fail
  refine (join_any _ _ W3 hSS (by simp only [List.flatten_cons, List.flatten_nil, List.append_nil, List.length_append, List.length_cons, List.length_nil]; omega)).mono ?_
  rintro e W4 ⟨u, rfl, hown, hb1⟩
  have hfl : ([[(1 : UInt8)], p.take n, q.take n] : List (List UInt8)).flatten = nodeT n p q := by simp [nodeT]
  rw [hfl] at hown
  go_wp2_with fail
  refine hK _ _ hb1 ?_
  clear hK K hfl
  obtain ⟨Au, cu, hu⟩ := own_slice hown
  replace hD := hD.below hb1 hD.lt
  have hown := own_base hown hbel.size
  replace hbel := hbel.trans (hb1.mono hbel.size)
  clear hb1 hS hK1 hP hQ hk hSS
  subst hu
  refine mix_only rfl (fun K hK => ?_)
  go_wp2_with fail
  refine (mnode_any x p q Hp.out Hq.out W4 (hG.next hbel)).mono ?_
  rintro e W5 ⟨rfl, hb1⟩
  rw [Hn.out]
  go_wp2_with fail
  refine hK _ _ hb1 ?_
  clear hK K
  replace hD := hD.below hb1 hD.lt
  replace hown := own_below hown hb1
  replace hbel := hbel.trans (hb1.mono hbel.size)
  clear hb1
  refine mix_plain rfl ?_
  refine wpQuiet_buildStep rfl (.tmp 16) (.tmp 20) rfl Au _ cu (nodeM n p q) rfl rfl ?_
  simp only [Act.put, List.setIfInBounds_toArray, List.set_cons_zero, List.set_cons_succ]
  refine wpQuiet_nil ?_
  refine mix_done ?_
  simp only [List.drop_succ_cons, List.drop_zero]
  refine wpList_storeStep rfl rfl (.tmp 6) (.tmp 21) rfl (w.heap.size + 2) rfl Au _ cu _ rfl _ _ hD step0_size ?_
  intro w10 hD10 hon10
  have hb10 := below_only hbel hon10 (by omega) hbel.size
  have hown := own_grown hown hon10 (own_diff hown hD (by decide))
  have Hf := Lib.hid hown
  clear hown
  go_wp2
  refine bodyPost_ret (results_cell_row (p := 6) (ty := 186) rfl _ _ (w.heap.size + 2) _ _ _ _ rfl hD10 Tryd.underlying186 rfl (by rw [stepC_size]; kernel_rfl)) rfl ⟨.slice Au (nodeT n p q).length cu, by rw [Hn.out], by rw [Hn.out]; exact Hf.out, hb10⟩
end Go.Proofs.YteonmcconpfkjaaDoor

/- Lists of verify's steps: their cells, append of one onto a row of the call's own. No condition. -/
namespace Go.Proofs.YteonmcconpfkjaaDoor
open Go Go.RowKit
/-- the cells of some steps: each a text's slice, and the hash of the text -/
def scells (n : Nat) (l : List (Value × List UInt8)) : List Value := (l.map fun p => (stepC p.1 (sumM n p.2)).toList).flatten
theorem scells_snoc (n : Nat) (l : List (Value × List UInt8)) (p : Value × List UInt8) : scells n (l ++ [p]) = scells n l ++ (stepC p.1 (sumM n p.2)).toList := by simp [scells]
theorem scells_at (n : Nat) (l : List (Value × List UInt8)) (k : Nat) (hk : k < l.length) (j : Nat) (hj : j < 33) : (scells n l)[k * 33 + j]? = (stepC l[k].1 (sumM n l[k].2))[j]? := by
  induction l generalizing k with
  | nil => simp at hk
  | cons d l ih =>
    have hd : (stepC d.1 (sumM n d.2)).toList.length = 33 := by rw [Array.length_toList, stepC_size]
    have e : scells n (d :: l) = (stepC d.1 (sumM n d.2)).toList ++ scells n l := by simp [scells]
    rw [e]
    cases k with
    | zero => rw [List.getElem?_append_left (by omega)]; simp
    | succ k =>
      rw [List.getElem?_append_right (by omega), hd, show (k + 1) * 33 + j - 33 = k * 33 + j by omega, ih k (by simpa using hk)]; simp
/-- v is a row of steps of the call's own -/
def Stp (w : World) (base : Nat) (v : Value) (n : Nat) (l : List (Value × List UInt8)) : Prop :=
  w.ownsRow base 186 33 v l.length (scells n l) ∧ ∀ p ∈ l, w.ownsRow base 5 1 p.1 p.2.length (p.2.map v8)
theorem Stp.below {w w' : World} {base n : Nat} {v : Value} {l : List (Value × List UInt8)} (h : Stp w base v n l) (hb : Below w.heap.size w w') : Stp w' base v n l :=
  ⟨own_below h.1 hb, fun p hp => own_below (h.2 p hp) hb⟩
theorem Stp.base {w : World} {base b2 n : Nat} {v : Value} {l : List (Value × List UInt8)} (h : Stp w base v n l) (hb : b2 ≤ base) : Stp w b2 v n l :=
  ⟨own_base h.1 hb, fun p hp => own_base (h.2 p hp) hb⟩
theorem own_grownT {w w' : World} {base s s' n m : Nat} {e e' : TypeId} {v u : Value} {xs ys : List Value} (h : w.ownsRow base e s v n xs) (hu : w.ownsRow base e' s' u m ys) (ht : e ≠ e') (hg : w.grownBy w' v.ownBlock) : w'.ownsRow base e' s' u m ys := by
  rcases h.2 with ⟨rfl, _⟩ | ⟨b, cap, cur, rfl, _, hb, _⟩
  · exact own_grown hu hg (fun g hg e => by cases e)
  · exact own_grown hu hg (own_diff hu (show Blk w b e cur from hb) ht)
theorem Stp.grown {w w' : World} {base n : Nat} {v u : Value} {l l' : List (Value × List UInt8)} (h : Stp w base v n l) (hown : w'.ownsRow base 186 33 u l'.length (scells n l')) (hg : w.grownBy w' v.ownBlock) (p : Value × List UInt8) (hp : w.ownsRow base 5 1 p.1 p.2.length (p.2.map v8)) (hl : l' = l ++ [p]) : Stp w' base u n l' := by
  subst hl
  refine ⟨hown, fun q hq => ?_⟩
  rcases List.mem_append.1 hq with hq | hq
  · exact own_grownT h.1 (h.2 q hq) (by decide) hg
  · rw [List.mem_singleton.1 hq]; exact own_grownT h.1 hp (by decide) hg
theorem Stp.text {w : World} {base n : Nat} {v : Value} {l : List (Value × List UInt8)} (h : Stp w base v n l) (k : Nat) (hk : k < l.length) : BSl w w.heap.size l[k].1 l[k].2 :=
  BSl.of_own (h.2 _ (List.getElem_mem hk))
/-- the hash of a step, in the row -/
theorem Stp.hash {w : World} {base n : Nat} {v : Value} {l : List (Value × List UInt8)} (h : Stp w base v n l) (k : Nat) (hk : k < l.length) : ∃ g c, v = .slice (some ⟨g, 0, none⟩) l.length c ∧ g < w.heap.size ∧ base ≤ g ∧ w.cell? ⟨g, k * 33, none⟩ = some l[k].1 ∧ w.rangeAt g (k * 33 + 1) (dat (sumM n l[k].2)).toList := by
  have hlt := own_lt h.1
  rcases h.1.2 with ⟨_, h0⟩ | ⟨g, cap, cur, e, hb, hh, hc1, _, hsz, hcur⟩
  · omega
  · have hcell : ∀ j, j < 33 → w.cell? ⟨g, k * 33 + j, none⟩ = (stepC l[k].1 (sumM n l[k].2))[j]? := by
      intro j hj
      rw [cell_of_row w g (k * 33 + j) cur _ (0, 0) hh]
      have h1 := scells_at n l k hk j hj
      rw [← hcur, List.getElem?_take, if_pos (by omega)] at h1
      rw [← h1]; simp
    refine ⟨g, cap, e, hlt g (by rw [e]; rfl), hb, by have := hcell 0 (by decide); simpa [stepC] using this, fun j v hj => ?_⟩
    have hj32 : j < 32 := by
      have := (List.getElem?_eq_some_iff.1 hj).1
      rw [Array.length_toList, dat_size] at this; exact this
    have := hcell (j + 1) (by omega)
    rw [show k * 33 + 1 + j = k * 33 + (j + 1) by omega, this, ← hj]
    simp [stepC]
theorem Stp.lt {w : World} {base n : Nat} {v : Value} {l : List (Value × List UInt8)} (h : Stp w base v n l) : ∃ A c, v = .slice A l.length c := own_slice h.1
set_option maxRecDepth 100000 in
theorem build_steps (A : Option Addr) (n c : Nat) (d : List UInt8) (w : World) : (Instr.buildSlice 182 1 #[(0, .agg (stepC (.slice A n c) d))]).run Tryd.prog w = .ok (.slice (some ⟨w.heap.size, 0, none⟩) 1 1) (w.alloc (.cells (stepC (.slice A n c) d) 186)) := by kernel_rfl
theorem wpList_buildSteps {w : World} {ops : Array Oper} {rest : List Oper} {o : Oper} {a : Act} {Q : Exit → Act → World → Prop} (hgd : o.guard = none) (x : Operand) (ho : o.op = .buildSlice 182 1 #[(0, x)]) (A : Option Addr) (n c : Nat) (d : List UInt8) (hx : a.eval x = .agg (stepC (.slice A n c) d))
    (h : wpList Tryd.prog ops Q rest (a.put o.dst (.slice (some ⟨w.heap.size, 0, none⟩) 1 1)) (w.alloc (.cells (stepC (.slice A n c) d) 186))) : wpList Tryd.prog ops Q (o :: rest) a w :=
  wpList_plain hgd fun K hK => by
    unfold Oper.wp execOp
    simp only [ho, List.map_toArray, List.map_cons, List.map_nil, hx, Sem.run_bind, build_steps A n c d, Result.andThen_ok, Sem.run_pure]
    exact hK _ _ h
theorem own_oneS (w : World) (base n : Nat) (hb : base ≤ w.heap.size) (p : Value × List UInt8) : (w.alloc (.cells (stepC p.1 (sumM n p.2)) 186)).ownsRow base 186 33 (.slice (some ⟨w.heap.size, 0, none⟩) 1 1) [p].length (scells n [p]) := by
  have hl : (scells n [p]) = (stepC p.1 (sumM n p.2)).toList := by simp [scells]
  refine ⟨by rw [hl, Array.length_toList, stepC_size]; rfl, .inr ⟨w.heap.size, 1, stepC p.1 (sumM n p.2), rfl, hb, heap_alloc_new w _, Nat.le_refl _, by decide, by rw [stepC_size], ?_⟩⟩
  rw [hl, List.take_of_length_le (by rw [Array.length_toList, stepC_size]; show 33 ≤ 1 * 33; decide)]
/-- append of one step onto a row of steps of the call's own -/
theorem wpList_appendStep {w : World} {ops : Array Oper} {rest : List Oper} {o : Oper} {a : Act} {Q : Exit → Act → World → Prop} (hgd : o.guard = none) (s x : Operand)
    (ho : o.op = .call { callee := .builtin .append, args := #[s, x], argTypes := #[182, 182] })
    (base n : Nat) (v : Value) (l : List (Value × List UInt8)) (hs : a.eval s = v) (hS : Stp w base v n l)
    (A : Option Addr) (m c : Nat) (t : List UInt8) (g : Nat) (hx : a.eval x = .slice (some ⟨g, 0, none⟩) 1 1) (hX : Blk w g 186 (stepC (.slice A m c) (sumM n t))) (ht : w.ownsRow base 5 1 (.slice A m c) t.length (t.map v8)) (hl : l.length ≤ 1000000000) (hbase : base ≤ w.heap.size)
    (h : ∀ v' w', Stp w' base v' n (l ++ [(.slice A m c, t)]) → w.grownBy w' v.ownBlock → wpList Tryd.prog ops Q rest (a.put o.dst v') w') : wpList Tryd.prog ops Q (o :: rest) a w := by
  obtain ⟨i0, hi, hz0, hz1, hz2⟩ := info_parts (by kernel_rfl : (Tryd.prog.info? 186).map (fun i => (i.zero, i.size, i.bytes)) = some (some (.agg step0), 33, 56))
  refine wpList_append_own_at _ hgd s x _ ho base 186 i0 _ 33 56 Tryd.underlying182 hi hz0 hz1 hz2 (by show step0.size = 33; exact step0_size) (by decide) v _ _ hs hS.1 ⟨g, 0, none⟩ 1 1 (stepC (.slice A m c) (sumM n t)).toList hx (by rw [Array.length_toList, stepC_size]) (fun j u hj => by
      have e : (⟨g, 0, none⟩ : Addr).add j = ⟨g, j, none⟩ := by unfold Addr.add; split <;> simp_all
      rw [e, hX.cell, ← hj]; simp) (stepC_one _ _ rfl) (by unfold maxLen; omega) (by omega) hbase ?_
  intro v' w' hown' hg _ _
  have e2 : scells n l ++ (stepC (.slice A m c) (sumM n t)).toList = scells n (l ++ [(.slice A m c, t)]) := (scells_snoc n l (.slice A m c, t)).symm
  rw [e2] at hown'
  exact h v' w' (hS.grown (by rw [List.length_append]; exact hown') hg (.slice A m c, t) ht rfl) hg
end Go.Proofs.YteonmcconpfkjaaDoor

/- Whatever merkle proves is taken: the path of a place leads to the root. Plain. No condition. -/
namespace Go.Proofs.YteonmcconpfkjaaDoor
theorem halfN_of (N m : Nat) (h1 : 2 ^ m < N) (h2 : N ≤ 2 ^ (m + 1)) : halfN N = 2 ^ m := by
  unfold halfN
  have h3 : (N - 1).log2 = m := (Nat.log2_eq_iff (by have := Nat.one_le_two_pow (n := m); omega)).2 ⟨by omega, by omega⟩
  rw [h3]
theorem cutL_sum (n : Nat) (b : List UInt8) : cutL (sumM n b) n = sumM n b := by
  unfold sumM
  rw [cutL_cutL _ _ _ (sha_length b)]
  congr 1
  omega
theorem way_path (n : Nat) : ∀ (m : Nat) (l : List (List UInt8)) (a i sn : Nat) (T : List (List UInt8)), i < l.length → l.length ≤ 2 ^ m →
    (sn = a * 2 ^ m + (l.length - 1) ∨ (l.length = 2 ^ m ∧ (a + 1) * 2 ^ m ≤ sn)) → lastH n T = leafM n (l.getD i []) →
    ∃ X, lastH n (T ++ X) = rootM n l ∧ ∀ rest, wayS n (pathM n l i ++ rest) (a * 2 ^ m + i) sn T = wayS n rest a (sn / 2 ^ m) (T ++ X) := by
  intro m
  induction m with
  | zero =>
    intro l a i sn T hi hl hs hT
    simp only [Nat.pow_zero] at *
    obtain rfl : i = 0 := by omega
    refine ⟨[], ?_, fun rest => ?_⟩
    · rw [List.append_nil, hT, rootM_single n l (by omega)]
    · rw [pathM_one n l 0 (by omega), List.append_nil, Nat.mul_one, Nat.add_zero, Nat.div_one]; rfl
  | succ m ih =>
    intro l a i sn T hi hl hs hT
    have hp : 2 ^ (m + 1) = 2 * 2 ^ m := by rw [Nat.pow_succ]; omega
    have h1 : 1 ≤ 2 ^ m := Nat.one_le_two_pow
    have hd : sn / 2 ^ (m + 1) = sn / 2 ^ m / 2 := by rw [Nat.pow_succ, Nat.div_div_eq_div_mul]
    have ea : a * 2 ^ (m + 1) = (2 * a) * 2 ^ m := by rw [hp, ← Nat.mul_assoc, Nat.mul_comm a 2]
    have ea1 : (a + 1) * 2 ^ (m + 1) = (2 * a) * 2 ^ m + 2 * 2 ^ m := by rw [Nat.add_mul, ea, Nat.one_mul, hp]
    have eb : (2 * a + 1) * 2 ^ m = (2 * a) * 2 ^ m + 2 ^ m := by rw [Nat.add_mul, Nat.one_mul]
    have ec : (2 * a + 1 + 1) * 2 ^ m = (2 * a) * 2 ^ m + 2 ^ m + 2 ^ m := by rw [Nat.add_mul, eb, Nat.one_mul]
    rw [ea1, ea] at hs
    rw [ea, hd]
    by_cases hN : l.length ≤ 2 ^ m
    · have hs1 : sn = (2 * a) * 2 ^ m + (l.length - 1) := by rcases hs with h | h <;> omega
      obtain ⟨X, hX, hw⟩ := ih l (2 * a) i sn T hi hN (.inl hs1) hT
      refine ⟨X, hX, fun rest => ?_⟩
      have hq : sn / 2 ^ m = 2 * a := by
        rw [hs1, Nat.mul_comm, Nat.mul_add_div (by omega), Nat.div_eq_of_lt (by omega), Nat.add_zero]
      rw [hw rest, hq]
      by_cases h0 : a = 0
      · subst h0; rfl
      · rw [wayS_skip n (2 * a) rest _ (by omega) (by omega)]
        rw [show 2 * a / 2 = a by omega]
    · have hh := halfN_of l.length m (by omega) hl
      have hge : 2 * a + 1 ≤ sn / 2 ^ m := by
        rw [Nat.le_div_iff_mul_le (by omega), eb]
        rcases hs with h | h <;> omega
      have hr := rootM_node n l (by omega)
      rw [pathM_node n l i (by omega)]
      rw [hh] at hr ⊢
      by_cases hlt : i < 2 ^ m
      · rw [if_pos hlt]
        have hg : (l.take (2 ^ m)).getD i [] = l.getD i [] := by
          rw [List.getD_eq_getElem?_getD, List.getElem?_take_of_lt hlt, ← List.getD_eq_getElem?_getD]
        obtain ⟨X, hX, hw⟩ := ih (l.take (2 ^ m)) (2 * a) i sn T (by rw [List.length_take]; omega) (by rw [List.length_take]; omega) (.inr ⟨by rw [List.length_take]; omega, by rw [eb]; rcases hs with h | h <;> omega⟩) (by rw [hg]; exact hT)
        refine ⟨X ++ [nodeT n (lastH n (T ++ X)) (rootM n (l.drop (2 ^ m)))], ?_, fun rest => ?_⟩
        · rw [← List.append_assoc, lastH_snoc, ← nodeM_sum, hX, hr]
        · rw [List.append_assoc, hw, List.singleton_append, wayS_right n _ _ _ _ _ (by omega) (by omega) (by omega), List.append_assoc]
          rw [show 2 * a / 2 = a by omega]
      · rw [if_neg hlt]
        have hg : (l.drop (2 ^ m)).getD (i - 2 ^ m) [] = l.getD i [] := by
          rw [List.getD_eq_getElem?_getD, List.getElem?_drop, show 2 ^ m + (i - 2 ^ m) = i by omega, ← List.getD_eq_getElem?_getD]
        obtain ⟨X, hX, hw⟩ := ih (l.drop (2 ^ m)) (2 * a + 1) (i - 2 ^ m) sn T (by rw [List.length_drop]; omega) (by rw [List.length_drop]; omega) (by
          rw [List.length_drop, eb, ec]
          rcases hs with h | h
          · left; omega
          · right; omega) (by rw [hg]; exact hT)
        refine ⟨X ++ [nodeT n (rootM n (l.take (2 ^ m))) (lastH n (T ++ X))], ?_, fun rest => ?_⟩
        · rw [← List.append_assoc, lastH_snoc, ← nodeM_sum, hX, hr]
        · rw [List.append_assoc, show (2 * a) * 2 ^ m + i = (2 * a + 1) * 2 ^ m + (i - 2 ^ m) by rw [eb]; omega, hw, List.singleton_append, wayS_odd n _ _ _ _ _ (by omega) (by omega), List.append_assoc]
          rw [show (2 * a + 1) / 2 = a by omega]
/-- what is proved is taken -/
theorem leafS_path (n : Nat) (l : List (List UInt8)) (i : Nat) (hi : i < l.length) : leafS n (l.getD i []) i l.length (pathM n l i) (rootM n l) = true := by
  obtain ⟨m, hm⟩ : ∃ m, l.length ≤ 2 ^ m := ⟨l.length, Nat.le_of_lt Nat.lt_two_pow_self⟩
  obtain ⟨X, hX, hw⟩ := way_path n m l 0 i (l.length - 1) [0 :: l.getD i []] hi hm (.inl (by omega)) rfl
  have h := hw []
  rw [List.append_nil, Nat.zero_mul, Nat.zero_add, Nat.div_eq_of_lt (by omega), wayS_nil, if_pos rfl] at h
  unfold leafS
  rw [if_neg (by omega), h]
  refine decide_eq_true ?_
  rw [hX]
  obtain ⟨b, hb⟩ : ∃ b, rootM n l = sumM n b := by
    by_cases h2 : 2 ≤ l.length
    · rw [rootM_node n l h2]; exact ⟨_, rfl⟩
    · rw [rootM_single n l (by omega)]; exact ⟨_, rfl⟩
  rw [hb, cutL_sum]
end Go.Proofs.YteonmcconpfkjaaDoor

/- Proofs of a leaf, plain: how many hashes a path has; what two ways of one place tell. No condition. -/
namespace Go.Proofs.YteonmcconpfkjaaDoor
theorem stepsF_le : ∀ (f k fn sn : Nat), sn < 2 ^ k → stepsF f fn sn ≤ k := by
  intro f
  induction f with
  | zero => intro k fn sn h; exact Nat.zero_le _
  | succ f ih =>
    intro k fn sn h
    rw [stepsF]
    by_cases h0 : sn = 0
    · rw [if_pos h0]; exact Nat.zero_le _
    · rw [if_neg h0]
      cases k with
      | zero => simp at h; omega
      | succ k =>
        rw [Nat.pow_succ] at h
        split
        · have := ih k (fn / 2) (sn / 2) (by omega); omega
        · have hs := strip_snd fn sn
          have := ih k ((strip fn sn).1 / 2) ((strip fn sn).2 / 2) (by omega); omega
theorem wayS_some (n : Nat) : ∀ (f : Nat) (ps : List (List UInt8)) (fn sn : Nat) (T : List (List UInt8)), sn ≤ f → ps.length = stepsF f fn sn → ∃ X, wayS n ps fn sn T = some X := by
  intro f
  induction f with
  | zero =>
    intro ps fn sn T h hp
    obtain rfl : sn = 0 := by omega
    rw [stepsF, List.length_eq_zero_iff] at hp
    rw [wayS_end, if_pos hp]; exact ⟨_, rfl⟩
  | succ f ih =>
    intro ps fn sn T h hp
    rw [stepsF] at hp
    by_cases h0 : sn = 0
    · subst h0
      rw [if_pos rfl, List.length_eq_zero_iff] at hp
      rw [wayS_end, if_pos hp]; exact ⟨_, rfl⟩
    · rw [if_neg h0] at hp
      cases ps with
      | nil => split at hp <;> simp at hp <;> omega
      | cons p ps =>
        rw [List.length_cons] at hp
        by_cases hc : fn % 2 = 0 ∧ fn ≠ sn
        · rw [if_pos hc] at hp
          rw [wayS_right n fn sn p ps T h0 hc.1 hc.2]
          exact ih _ _ _ _ (by omega) (by omega)
        · rw [if_neg hc] at hp
          rw [wayS_left n fn sn p ps T h0 hc]
          have hs := strip_snd fn sn
          exact ih _ _ _ _ (by omega) (by omega)
theorem wayS_isSome (n : Nat) (ps : List (List UInt8)) (fn sn : Nat) (T : List (List UInt8)) : (wayS n ps fn sn T).isSome = decide (ps.length = stepsF sn fn sn) := by
  by_cases h : ps.length = stepsF sn fn sn
  · obtain ⟨X, hX⟩ := wayS_some n sn ps fn sn T (Nat.le_refl _) h
    rw [hX, decide_eq_true h]; rfl
  · rw [decide_eq_false h]
    cases hw : wayS n ps fn sn T with
    | none => rfl
    | some X => exact absurd (wayS_len n sn ps fn sn T X (Nat.le_refl _) hw).2 h
/-- what comes behind depends on the last hash alone -/
theorem wayS_swap (n : Nat) : ∀ (ps : List (List UInt8)) (fn sn : Nat) (T T' X : List (List UInt8)), lastH n T = lastH n T' → wayS n ps fn sn T = some X → ∃ Z, X = T ++ Z ∧ wayS n ps fn sn T' = some (T' ++ Z) := by
  intro ps
  induction ps with
  | nil =>
    intro fn sn T T' X h hx
    rw [wayS_nil] at hx ⊢
    split at hx
    · rename_i h0
      injection hx with hx
      exact ⟨[], by rw [← hx, List.append_nil], by rw [if_pos h0, List.append_nil]⟩
    · cases hx
  | cons p ps ih =>
    intro fn sn T T' X h hx
    by_cases h0 : sn = 0
    · rw [wayS, if_pos h0] at hx; cases hx
    · by_cases hc : fn % 2 = 0 ∧ fn ≠ sn
      · rw [wayS_right n fn sn p ps _ h0 hc.1 hc.2] at hx ⊢
        rw [h] at hx
        obtain ⟨Z, h1, h2⟩ := ih _ _ _ (T' ++ [nodeT n (lastH n T') p]) _ (by rw [lastH_snoc, lastH_snoc]) hx
        exact ⟨nodeT n (lastH n T') p :: Z, by rw [h1]; simp, by rw [h2]; simp⟩
      · rw [wayS_left n fn sn p ps _ h0 hc] at hx ⊢
        rw [h] at hx
        obtain ⟨Z, h1, h2⟩ := ih _ _ _ (T' ++ [nodeT n p (lastH n T')]) _ (by rw [lastH_snoc, lastH_snoc]) hx
        exact ⟨nodeT n p (lastH n T') :: Z, by rw [h1]; simp, by rw [h2]; simp⟩
theorem wayS_head (n : Nat) (ps : List (List UInt8)) (fn sn : Nat) (t : List UInt8) (X : List (List UInt8)) (h : wayS n ps fn sn [t] = some X) : ∃ Z, X = t :: Z := by
  obtain ⟨Z, h1, _⟩ := wayS_swap n ps fn sn [t] [t] X rfl h
  exact ⟨Z, h1⟩
theorem wayS_ne (n : Nat) (ps : List (List UInt8)) (fn sn : Nat) (t : List UInt8) (X : List (List UInt8)) (h : wayS n ps fn sn [t] = some X) : 1 ≤ X.length := by
  obtain ⟨Z, rfl⟩ := wayS_head n ps fn sn t X h
  simp
/-- two unlike texts of one hash, the first ones of two ways -/
def collF (n : Nat) : List (List UInt8) → List (List UInt8) → Option (List UInt8 × List UInt8)
  | x :: X, y :: Y => if sumM n x = sumM n y ∧ x ≠ y then some (x, y) else collF n X Y
  | _, _ => none
theorem collF_drop (n : Nat) (X Y : List (List UInt8)) (i : Nat) (h1 : i < X.length) (h2 : i < Y.length) :
    collF n (X.drop i) (Y.drop i) = if sumM n (X.getD i []) = sumM n (Y.getD i []) ∧ X.getD i [] ≠ Y.getD i [] then some (X.getD i [], Y.getD i []) else collF n (X.drop (i + 1)) (Y.drop (i + 1)) := by
  rw [List.drop_eq_getElem_cons h1, List.drop_eq_getElem_cons h2, collF]
  have e1 : X.getD i [] = X[i] := by rw [List.getD_eq_getElem?_getD, List.getElem?_eq_getElem h1]; rfl
  have e2 : Y.getD i [] = Y[i] := by rw [List.getD_eq_getElem?_getD, List.getElem?_eq_getElem h2]; rfl
  rw [e1, e2]
theorem collF_end (n : Nat) (X Y : List (List UInt8)) (i : Nat) (h : X.length ≤ i ∨ Y.length ≤ i) : collF n (X.drop i) (Y.drop i) = none := by
  rcases h with h | h
  · rw [List.drop_of_length_le h]; rfl
  · rw [List.drop_of_length_le h]
    cases X.drop i <;> rfl
theorem collF_sound (n : Nat) : ∀ (X Y : List (List UInt8)) (x y : List UInt8), collF n X Y = some (x, y) → sumM n x = sumM n y ∧ x ≠ y := by
  intro X
  induction X with
  | nil => intro Y x y h; cases h
  | cons a X ih =>
    intro Y x y h
    cases Y with
    | nil => cases h
    | cons b Y =>
      rw [collF] at h
      split at h
      · rename_i hc
        injection h with h
        injection h with h1 h2
        subst h1; subst h2; exact hc
      · exact ih Y x y h
/-- what Collide tells -/
def collS (n : Nat) (a b : List UInt8) (i s : Nat) (p q : List (List UInt8)) : Option (List UInt8 × List UInt8) :=
  if a = b then none else if s ≤ i then none else
  match wayS n p i (s - 1) [0 :: a], wayS n q i (s - 1) [0 :: b] with
  | some X, some Y => if lastH n X = lastH n Y then collF n X Y else none
  | _, _ => none
theorem collS_sound (n : Nat) (a b : List UInt8) (i s : Nat) (p q : List (List UInt8)) (x y : List UInt8) (h : collS n a b i s p q = some (x, y)) : sumM n x = sumM n y ∧ x ≠ y := by
  unfold collS at h
  split at h
  · cases h
  · split at h
    · cases h
    · split at h
      · split at h
        · exact collF_sound n _ _ x y h
        · cases h
      · cases h
theorem leafS_swap (n : Nat) (a b : List UInt8) (i s : Nat) (p : List (List UInt8)) (root : List UInt8) (h : leafM n a = leafM n b) (ht : leafS n a i s p root = true) : leafS n b i s p root = true := by
  unfold leafS at ht ⊢
  split at ht
  · cases ht
  · rename_i h0
    rw [if_neg h0]
    cases hw : wayS n p i (s - 1) [0 :: a] with
    | none => rw [hw] at ht; cases ht
    | some X =>
      rw [hw] at ht
      obtain ⟨Z, h1, h2⟩ := wayS_swap n p i (s - 1) [0 :: a] [0 :: b] X h hw
      rw [h2]
      simp only at ht ⊢
      rw [← of_decide_eq_true ht, h1]
      refine decide_eq_true ?_
      unfold lastH
      cases Z with
      | nil => exact h.symm
      | cons z Z => simp [List.getLastD_cons]
/-- two unlike leaves of one hash are told -/
theorem collS_swap (n : Nat) (a b : List UInt8) (i s : Nat) (p : List (List UInt8)) (root : List UInt8) (h : leafM n a = leafM n b) (hne : a ≠ b) (ht : leafS n a i s p root = true) : collS n a b i s p p = some (0 :: a, 0 :: b) := by
  unfold leafS at ht
  unfold collS
  rw [if_neg hne]
  split at ht
  · cases ht
  · rename_i h0
    rw [if_neg h0]
    cases hw : wayS n p i (s - 1) [0 :: a] with
    | none => rw [hw] at ht; cases ht
    | some X =>
      obtain ⟨Z, h1, h2⟩ := wayS_swap n p i (s - 1) [0 :: a] [0 :: b] X h hw
      rw [h2]
      subst h1
      have hl : lastH n ([0 :: a] ++ Z) = lastH n ([0 :: b] ++ Z) := by
        unfold lastH
        cases Z with
        | nil => exact h
        | cons z Z => simp [List.getLastD_cons]
      simp only [if_pos hl]
      rw [List.singleton_append, List.singleton_append, collF, if_pos ⟨h, by simpa using hne⟩]
end Go.Proofs.YteonmcconpfkjaaDoor

/- Two constant texts as bytes in one region that draws its order: literals' rows, and the conversion of a literal's row to its own type, which marks it. No condition. -/
namespace Go.Proofs.YteonmcconpfkjaaDoor
open Go Go.RowKit
/-- Block g is just these bytes (marked or not). -/
def Lit (V : World) (g : Nat) (bs : List UInt8) : Prop := ∃ t fr, V.heap[g]? = some (.cells (bs.map v8).toArray t fr)
theorem Lit.lt {V : World} {g : Nat} {bs : List UInt8} (h : Lit V g bs) : g < V.heap.size := by
  obtain ⟨t, fr, h⟩ := h
  rcases Nat.lt_or_ge g V.heap.size with hlt | hge
  · exact hlt
  · rw [Array.getElem?_eq_none hge] at h; cases h
theorem Lit.bsl {V : World} {g : Nat} {bs : List UInt8} (h : Lit V g bs) (n : Nat) (hn : bs.length = n) (hc : n ≤ 9223372036854775807) : BSl V V.heap.size (.slice (some ⟨g, 0, none⟩) n n) bs := by
  subst hn
  have hl := h.lt
  obtain ⟨t, fr, h⟩ := h
  exact BSl.of_marked h _ hl hc
theorem Lit.new (V : World) (bs : List UInt8) (t : TypeId) : Lit (V.alloc (.cells (bs.map v8).toArray t)) V.heap.size bs := ⟨t, _, heap_alloc_new V _⟩
theorem Lit.alloc {V : World} {g : Nat} {bs : List UInt8} (h : Lit V g bs) (o : Obj) : Lit (V.alloc o) g bs := by
  have hl := h.lt
  obtain ⟨t, fr, h⟩ := h
  exact ⟨t, fr, (Below.heap_alloc V o g hl).trans h⟩
theorem freeze_block (V : World) (a : Addr) (n g : Nat) {cs : Array Value} {t : TypeId} {fr : Nat × Nat} (h : V.heap[g]? = some (.cells cs t fr)) : ∃ fr', (V.freeze a n).heap[g]? = some (.cells cs t fr') := by
  unfold World.freeze
  split
  · exact ⟨fr, h⟩
  · rw [Array.getElem?_modify]
    by_cases hg : a.block = g
    · subst hg
      rw [if_pos rfl, h]
      exact ⟨_, rfl⟩
    · rw [if_neg hg]; exact ⟨fr, h⟩
theorem Lit.freeze {V : World} {g : Nat} {bs : List UInt8} (h : Lit V g bs) (a : Addr) (n : Nat) : Lit (V.freeze a n) g bs := by
  obtain ⟨t, fr, h⟩ := h
  obtain ⟨fr', h'⟩ := freeze_block V a n g h
  exact ⟨t, fr', h'⟩
theorem below_freeze {B : Nat} {W V : World} (h : Below B W V) (a : Addr) (ha : B ≤ a.block) (n : Nat) : Below B W (V.freeze a n) := by
  refine ⟨?_, ?_, ?_, ?_, fun k hk => ?_⟩
  · unfold World.freeze; split <;> exact h.os
  · unfold World.freeze; split <;> exact h.tape
  · unfold World.freeze; split <;> exact h.output
  · unfold World.freeze; split
    · exact h.size
    · simpa using h.size
  · unfold World.freeze; split
    · exact h.block k hk
    · simp only
      rw [Array.getElem?_modify, if_neg (by omega)]; exact h.block k hk
theorem wpList_convSelf {P : Program} {V : World} {ops : Array Oper} {rest : List Oper} {o : Oper} {a : Act} {Q : Exit → Act → World → Prop} (hgd : o.guard = none) (t e : TypeId) (x : Operand) (ho : o.op = .convert t t x)
    (ht : P.underlying t = some (.slice e)) (he : P.underlying e = some (.int .u8)) (g n c : Nat) (hx : a.eval x = .slice (some ⟨g, 0, none⟩) n c) (bs : List UInt8) (hg : Lit V g bs)
    (h : ∀ k, wpList P ops Q rest (a.put o.dst (.slice (some ⟨g, 0, none⟩) n c)) (V.freeze ⟨g, k, none⟩ 1)) : wpList P ops Q (o :: rest) a V := by
  refine wpList_plain hgd fun K hK => ?_
  obtain ⟨t', fr, hg⟩ := hg
  have hsh : V.shape? g = some (t', bs.length) := by unfold World.shape?; rw [hg]; simp
  have hr : (convert t t (.slice (some ⟨g, 0, none⟩) n c)).run P V = .ok (.slice (some ⟨g, 0, none⟩) n c) (V.freeze ⟨g, bs.length, none⟩ 1) := by
    simp [convert, run_underlying ht, run_underlying he, markStringish, hsh]
  unfold Oper.wp execOp
  simp only [ho, hx, Sem.run_bind, hr, Result.andThen_ok, Sem.run_pure]
  exact hK _ _ (h _)
/-- the world behind a point of a walk by plan, the class staying -/
theorem mix_atC {P : Program} {ops : Array Oper} {K : Act → World → Prop} {p : Plan} {S : World → Prop} {a : Act} {w : World} (R : World → Prop) (hR : R w) (h : ∀ W, R W → mixW P ops K p S a W) : mixW P ops K p S a w := h w hR
end Go.Proofs.YteonmcconpfkjaaDoor
