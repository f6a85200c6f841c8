/- The walks of sha's Cut and Join. No condition. -/
import Derived.Test.YtbhmmoecoijojaaDoorShaC
import Derived.Test.YtbhmmoecoijojaaDoorQuiet
namespace Go.Proofs.YtbhmmoecoijojaaDoor
open Go.RowKit
def cutL (d : List UInt8) (n : Int) : List UInt8 := d.take n.toNat ++ List.replicate (32 - n.toNat) 0
theorem cutL_length (d : List UInt8) (n : Int) (hd : d.length = 32) : (cutL d n).length = 32 := by
  unfold cutL; rw [List.length_append, List.length_take, List.length_replicate, hd]; omega
theorem cutL_arr (d : List UInt8) (n : Int) (hd : d.length = 32) : ((cutL d n).map v8).toArray = arr 32 (fun p => if (p : Int) < n then d.getD p 0 else 0) := by
  rw [arr_list, cutL_length d n hd]
  apply arr_congr
  intro p hp
  unfold cutL
  rw [List.getD_eq_getElem?_getD]
  by_cases h : (p : Int) < n
  · rw [if_pos h, List.getElem?_append_left (by rw [List.length_take]; omega), List.getElem?_take, if_pos (by omega)]; rfl
  · rw [if_neg h, List.getElem?_append_right (by rw [List.length_take]; omega), List.getElem?_replicate]
    split <;> rfl
theorem cutL_map (d : List UInt8) (n : Int) (hd : d.length = 32) : cutL d n = (List.range 32).map (fun p : Nat => if (p : Int) < n then d.getD p 0 else 0) := by
  apply List.ext_getElem?
  intro p
  unfold cutL
  by_cases hp : p < 32
  · rw [List.getElem?_map, List.getElem?_range hp]
    by_cases h : (p : Int) < n
    · rw [List.getElem?_append_left (by rw [List.length_take]; omega), List.getElem?_take, if_pos (by omega)]
      simp [h, hd, hp]
    · rw [List.getElem?_append_right (by rw [List.length_take]; omega), List.getElem?_replicate, if_pos (by rw [List.length_take]; omega)]
      simp [h]
  · rw [List.getElem?_eq_none (by rw [List.length_append, List.length_take, List.length_replicate]; omega), List.getElem?_eq_none (by simp; omega)]
theorem cutL_cutL (d : List UInt8) (m n : Int) (hd : d.length = 32) : cutL (cutL d m) n = cutL d (min m n) := by
  rw [cutL_map (cutL d m) n (cutL_length d m hd), cutL_map d (min m n) hd]
  apply List.map_congr_left
  intro p hp
  have hp := List.mem_range.1 hp
  rw [cutL_map d m hd]
  by_cases h1 : (p : Int) < n
  · by_cases h2 : (p : Int) < m
    · rw [if_pos h1, if_pos (show (p : Int) < min m n by omega)]; simp [hp, h2]
    · rw [if_pos h1, if_neg (show ¬ (p : Int) < min m n by omega)]; simp [hp, h2]
  · rw [if_neg h1, if_neg (show ¬ (p : Int) < min m n by omega)]
/-- '==' on digests -/
theorem eql_dat (X Y : List UInt8) (hX : X.length = 32) (hY : Y.length = 32) (W : World) : (binOp .eql 27 (.agg (dat X)) (.agg (dat Y))).run Tryd.prog W = .ok (.bool (decide (X = Y))) W := by
  rw [dat_eq X hX, dat_eq Y hY]
  obtain ⟨i0, hi, _⟩ := info_parts (by kernel_rfl : (Tryd.prog.info? 5).map (fun i => (i.zero, i.size, i.bytes)) = some (some (.int .u8 0), 1, 1))
  exact run_eql_bytes W 27 5 32 i0 Tryd.underlying27 hi Tryd.underlying5 (by kernel_rfl) X Y hX hY
/-- the same, as the walk opens '==' and '!=' -/
theorem eqi_dat (X Y : List UInt8) (hX : X.length = 32) (hY : Y.length = 32) (W : World) : (Op.equalIn 10000 27 (.agg (dat X)) (.agg (dat Y))).run Tryd.prog W = .ok (decide (X = Y)) W := by
  rw [dat_eq X hX, dat_eq Y hY]
  obtain ⟨i0, hi, _⟩ := info_parts (by kernel_rfl : (Tryd.prog.info? 5).map (fun i => (i.zero, i.size, i.bytes)) = some (some (.int .u8 0), 1, 1))
  exact run_eqi_bytes W 27 5 32 i0 Tryd.underlying27 hi Tryd.underlying5 (by kernel_rfl) X Y hX hY
theorem eqi_true (X Y : List UInt8) (hX : X.length = 32) (hY : Y.length = 32) (h : X = Y) (W : World) : (Op.equalIn 10000 27 (.agg (dat X)) (.agg (dat Y))).run Tryd.prog W = .ok true W := by
  rw [eqi_dat X Y hX hY, decide_eq_true h]
theorem eqi_false (X Y : List UInt8) (hX : X.length = 32) (hY : Y.length = 32) (h : X ≠ Y) (W : World) : (Op.equalIn 10000 27 (.agg (dat X)) (.agg (dat Y))).run Tryd.prog W = .ok false W := by
  rw [eqi_dat X Y hX hY, decide_eq_false h]
theorem neq_dat (X Y : List UInt8) (hX : X.length = 32) (hY : Y.length = 32) (W : World) : (binOp .neq 27 (.agg (dat X)) (.agg (dat Y))).run Tryd.prog W = .ok (.bool (!decide (X = Y))) W := by
  rw [dat_eq X hX, dat_eq Y hY]
  obtain ⟨i0, hi, _⟩ := info_parts (by kernel_rfl : (Tryd.prog.info? 5).map (fun i => (i.zero, i.size, i.bytes)) = some (some (.int .u8 0), 1, 1))
  exact run_neq_bytes W 27 5 32 i0 Tryd.underlying27 hi Tryd.underlying5 (by kernel_rfl) X Y hX hY
section
variable {ops : Array Oper} {C : World → Prop} {Q : Act → Prop} {a : Act} {o : Oper} {rest : List Oper}
theorem eqGuard_dat (op : BinOp) (x y : Operand) (X Y : Array Value) (W : World) : (eqGuard op 27 x y (.agg X) (.agg Y)).run Tryd.prog W = .ok () W := run_eqGuard_agg W op 27 x y X Y (by kernel_rfl)
/-- '==' on digests in a quiet region -/
theorem wpQuiet_eqD (hw : Region.wanted o (yielded ops a.tmps) = true) (x y : Operand) (yt : TypeId) (ho : o.op = .binOp .eql 27 x y yt) (X Y : List UInt8) (hx : a.eval x = .agg (dat X)) (hy : a.eval y = .agg (dat Y)) (hX : X.length = 32) (hY : Y.length = 32)
    (b : Bool) (hb : decide (X = Y) = b) (h : wpQuiet Tryd.prog ops C Q rest (a.put o.dst (.bool b))) : wpQuiet Tryd.prog ops C Q (o :: rest) a :=
  wpQuiet_wanted hw (.bool b) (fun w _ => by
    unfold Oper.quietAt execOp
    simp only [ho, hx, hy, Sem.run_bind, Sem.run_pure, Result.andThen_ok, eqGuard_dat, eql_dat X Y hX hY, hb]
    exact ⟨rfl, rfl⟩) h
theorem wpQuiet_neD (hw : Region.wanted o (yielded ops a.tmps) = true) (x y : Operand) (yt : TypeId) (ho : o.op = .binOp .neq 27 x y yt) (X Y : List UInt8) (hx : a.eval x = .agg (dat X)) (hy : a.eval y = .agg (dat Y)) (hX : X.length = 32) (hY : Y.length = 32)
    (b : Bool) (hb : decide (X = Y) = b) (h : wpQuiet Tryd.prog ops C Q rest (a.put o.dst (.bool (!b)))) : wpQuiet Tryd.prog ops C Q (o :: rest) a :=
  wpQuiet_wanted hw (.bool (!b)) (fun w _ => by
    unfold Oper.quietAt execOp
    simp only [ho, hx, hy, Sem.run_bind, Sem.run_pure, Result.andThen_ok, eqGuard_dat, neq_dat X Y hX hY, hb]
    exact ⟨rfl, rfl⟩) h
/-- .. and in a plain region -/
theorem wpList_eqD {w : World} {Q : Exit → Act → World → Prop} (hgd : o.guard = none) (x y : Operand) (yt : TypeId) (ho : o.op = .binOp .eql 27 x y yt) (X Y : List UInt8) (hx : a.eval x = .agg (dat X)) (hy : a.eval y = .agg (dat Y)) (hX : X.length = 32) (hY : Y.length = 32)
    (b : Bool) (hb : decide (X = Y) = b) (h : wpList Tryd.prog ops Q rest (a.put o.dst (.bool b)) w) : wpList Tryd.prog ops Q (o :: rest) a w :=
  wpList_plain hgd fun K hK => by
    unfold Oper.wp execOp
    simp only [ho, hx, hy, Sem.run_bind, Sem.run_pure, Result.andThen_ok, eqGuard_dat, eql_dat X Y hX hY, hb]
    exact hK _ _ h
theorem wpList_neD {w : World} {Q : Exit → Act → World → Prop} (hgd : o.guard = none) (x y : Operand) (yt : TypeId) (ho : o.op = .binOp .neq 27 x y yt) (X Y : List UInt8) (hx : a.eval x = .agg (dat X)) (hy : a.eval y = .agg (dat Y)) (hX : X.length = 32) (hY : Y.length = 32)
    (b : Bool) (hb : decide (X = Y) = b) (h : wpList Tryd.prog ops Q rest (a.put o.dst (.bool (!b))) w) : wpList Tryd.prog ops Q (o :: rest) a w :=
  wpList_plain hgd fun K hK => by
    unfold Oper.wp execOp
    simp only [ho, hx, hy, Sem.run_bind, Sem.run_pure, Result.andThen_ok, eqGuard_dat, neq_dat X Y hX hY, hb]
    exact hK _ _ h
end
set_option maxRecDepth 100000 in
theorem cut_any (d : List UInt8) (hd : d.length = 32) (n : Int) (w : World) :
    Calls Tryd.prog 79 #[.agg (dat d), .int .i64 n] w fun e w' => e = .returned (.agg (dat (cutL d n))) ∧ Below w.heap.size w w' := by
  have ed : (d.map v8).toArray = arr 32 (fun p => d.getD p 0) := by rw [arr_list, hd]
  show Calls _ _ #[.agg (arr 32 fun p => d.getD p 0), .int .i64 n] _ _
  go_enter Tryd.func79, Tryd.ntmps79
  go_wp2
  refine wp_at (fun W => Blk W w.heap.size 27 (arr 32 fun p => d.getD p 0) ∧ Blk W (w.heap.size + 1) 27 (arr 32 fun _ => 0) ∧ Blk W (w.heap.size + 2) 27 (arr 32 fun _ => 0) ∧ Below w.heap.size w W)
    ⟨((Blk.new w _ _).alloc _).alloc _, ?_, ?_, (((Below.refl _ _).alloc (Nat.le_refl _) _).alloc (by simp) _).alloc (by simp; omega) _⟩ ?_
  · refine Blk.alloc ?_ _
    rw [show w.heap.size + 1 = (w.alloc (Obj.cells (arr 32 fun p => d.getD p 0) 27)).heap.size by simp]
    exact Blk.new _ _ _
  · rw [show w.heap.size + 2 = ((w.alloc (Obj.cells (arr 32 fun p => d.getD p 0) 27)).alloc (Obj.cells (arr 32 fun _ => 0) 27)).heap.size by simp]
    exact Blk.new _ _ _
  intro W ⟨hA, hB, hC, hbel⟩
  refine wp_region_quiet_tail 5 (fun W' => ∃ n, W' = W.drewN n) (by kernel_rfl) (by kernel_rfl) ⟨1, rfl⟩ ?_
  simp only [List.take_succ_cons, List.take_zero, List.drop_succ_cons, List.drop_zero]
  repeat (go_big_quiet_step (fail))
  obtain ⟨m, hm⟩ : ∃ m : Nat, m = min n.toNat 32 := ⟨_, rfl⟩
  have hm32 : m ≤ 32 := by omega
  rw [show (if 32 < if n < 0 then 0 else n then 32 else if n < 0 then 0 else n) = (m : Int) by split <;> (try split) <;> omega]
  have Hm := Lib.hid hm
  clear hm
  generalize (if n < 0 then 0 else n) = n8'
  have hsl : ∀ wx, (Instr.sliceAt 27 (.pointer (some ⟨w.heap.size, 0, none⟩)) none (some (.int .i64 (m : Int))) none).run Tryd.prog wx = .ok (.slice (some ⟨w.heap.size, 0, none⟩) m 32) wx := fun wx =>
    run_sliceAt_array_hh (P := Tryd.prog) (w := wx) ⟨w.heap.size, 0, none⟩ Tryd.underlying27 (by kernel_rfl) .i64 (m : Int) (by omega) (by omega)
  repeat (go_big_quiet_step (fail))
  refine wpQuiet_nil ?_
  intro W' hW'
  obtain ⟨nq, rfl⟩ := hW'
  have e1 := copied_arr 32 (fun _ => 0) 0 (d.take m) 32 (by rw [List.length_take, hd]; show 0 + min (min m 32) 32 ≤ 32; omega)
  have e2 : (d.take m).length = m := by rw [List.length_take, hd]; omega
  rw [e2] at e1
  have hrd : Reads (W.drewN nq) (w.heap.size + 1) (some ⟨w.heap.size, 0, none⟩) ((d.take m).map v8) := by
    have := (Reads.of_blk (hA.drewN nq) (by omega : w.heap.size < w.heap.size + 1) 0).take m
    rw [List.map_take]
    rw [← ed] at this
    simpa using this
  refine wpList_copyR rfl (.tmp 6) (.tmp 10) _ _ rfl 5 Tryd.underlying32 (by kernel_rfl) (w.heap.size + 2) 0 32 32 _ _ _ rfl rfl _ _ (hC.drewN nq) _ _ hrd (by rw [List.length_map, e2]) (by rw [arr_size]; show 0 + min m 32 ≤ 32; omega) (oneCell_v8 _) ?_
  intro W2 hC2 hon2
  rw [e1] at hC2
  have hB2 := (hB.drewN nq).grown hon2 (by simp)
  have hb2 := below_only (below_drewN hbel nq) hon2 (by omega) hbel.size
  go_wp2_with (first
    | (refine wpList_load_row rfl 27 (.tmp 5) rfl (w.heap.size + 2) rfl _ _ _ _ hC2 Tryd.underlying27 rfl (by kernel_rfl) ?_)
    | (refine wpList_storeArr rfl rfl 27 (.tmp 4) (.tmp 12) rfl (w.heap.size + 1) rfl 32 _ _ rfl _ hB2 (by kernel_rfl) ?_; intro w6 hR6 hon6))
  have hb6 := below_only hb2 hon6 (by omega) hb2.size
  refine bodyPost_ret (results_cell_row (p := 4) (ty := 27) rfl _ _ (w.heap.size + 1) _ _ _ _ rfl hR6 Tryd.underlying27 rfl (by kernel_rfl)) rfl ⟨?_, hb6⟩
  rw [dat_eq _ (cutL_length d n hd), cutL_arr d n hd]
  congr 2
  apply arr_congr
  intro p hp
  have := Hm.out
  show (if 0 ≤ p ∧ p < 0 + min m 32 then (d.take m).getD (p - 0) 0 else 0) = _
  by_cases h : (p : Int) < n
  · rw [if_pos h, if_pos (show 0 ≤ p ∧ p < 0 + min m 32 by omega), Nat.sub_zero, List.getD_eq_getElem?_getD, List.getElem?_take, if_pos (by omega)]; rfl
  · rw [if_neg h, if_neg (show ¬ (0 ≤ p ∧ p < 0 + min m 32) by omega)]
theorem take_flat (ls : List (List UInt8)) (k : Nat) (hk : k < ls.length) : (ls.take (k + 1)).flatten = (ls.take k).flatten ++ ls.getD k [] := by
  rw [List.take_succ_eq_append_getElem hk, List.flatten_append]
  simp [hk]
theorem flat_le (ls : List (List UInt8)) (k : Nat) : (ls.take k).flatten.length ≤ ls.flatten.length := by
  conv => rhs; rw [← List.take_append_drop k ls]
  rw [List.flatten_append, List.length_append]; omega
theorem join_any (v : Value) (ls : List (List UInt8)) (w : World) (h : SSl w w.heap.size v ls) (hlen : ls.flatten.length ≤ 140737488355328) :
    Calls Tryd.prog 57 #[v] w fun e w' => ∃ u, e = .returned u ∧ w'.ownsRow w.heap.size 5 1 u ls.flatten.length (ls.flatten.map v8) ∧ Below w.heap.size w w' := by
  obtain ⟨i0, hi, hz0, hz1, hz2⟩ := info_parts (by kernel_rfl : (Tryd.prog.info? 5).map (fun i => (i.zero, i.size, i.bytes)) = some (some (.int .u8 0), 1, 1))
  obtain ⟨A, cap, vs, rfl, hc1, hc2, hr, hvl, hel⟩ := h
  go_enter Tryd.func57, Tryd.ntmps57
  go_wp2
  go_loopw [3, 5, 8] (fun u _ i wr => ∃ k : Nat, k ≤ ls.length ∧ i = .int .i64 k ∧ wr.ownsRow w.heap.size 5 1 u ((ls.take k).flatten.map v8).length ((ls.take k).flatten.map v8) ∧ Below w.heap.size w wr) (fun _ _ i _ => ls.length - (intOf i).toNat)
  case atStart => exact ⟨0, by omega, rfl, by simpa using World.ownsRow_nil _ _ _ _, Below.refl _ _⟩
  case round =>
    obtain ⟨k, hk, rfl, hown, hbel⟩ := hrel
    by_cases hlt : k < ls.length
    · obtain ⟨b, off, rfl, hb, hc⟩ := hr (by omega)
      have hvk : vs[k]? = some (vs.getD k undef) := by rw [List.getD_eq_getElem?_getD, List.getElem?_eq_getElem (by omega)]; rfl
      obtain ⟨A2, cap2, e2, hc21, hc22, hr2⟩ := hel k hlt
      rw [e2] at hvk
      have cv : wr.cell? ⟨b, off + k, none⟩ = some (.slice A2 (ls.getD k []).length cap2) := (hbel.cell (p := ⟨b, off + k, none⟩) hb).trans (hc k _ hvk)
      have hr3 := hr2.below hbel
      have hL1 := flat_le ls (k + 1)
      rw [take_flat ls k hlt, List.length_append] at hL1
      obtain ⟨x, hx⟩ : ∃ x, x = ls.getD k [] := ⟨_, rfl⟩
      rw [← hx] at cv hr3 hL1
      have Hx := Lib.hid hx
      have He2 := Lib.hid e2
      clear hx hvk hr2 hc21 e2
      have hlx : ((ls.take k).flatten.map v8).length = (ls.take k).flatten.length := List.length_map ..
      go_wp2_with (first
        | (at_builtin; refine wpList_appendR rfl (.tmp 12) (.tmp 13) _ rfl w.heap.size 5 i0 _ 1 Tryd.underlying32 hi hz0 hz1 hz2 rfl _ _ rfl hown _ A2 _ _ _ rfl hr3 (by rw [List.length_map]) (oneCell_v8 _) (by unfold maxLen; omega) (by omega) hbel.size ?_; intro u1 w1 hown1 hg1 hat1))
      have hg2 : wr.grownBy w1 u3.ownBlock := hg1
      go_roundw
      case rel =>
        refine ⟨k + 1, by omega, by go_num, ?_, below_own hbel hown hg2 hbel.size⟩
        rw [take_flat ls k hlt, List.map_append, ← Hx.out]
        exact hown1
      case measure => simp [intOf]; omega
    · have ek : k = ls.length := by omega
      rw [ek, List.take_length] at hown
      clear ek
      go_wp2
      go_ret
      rw [List.length_map] at hown
      exact ⟨u3, rfl, hown, hbel⟩
end Go.Proofs.YtbhmmoecoijojaaDoor
