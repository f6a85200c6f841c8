/- Texts that stand behind one another: ShaD, Str, StrEq, StrA, Mix. No condition. -/
import Derived.Test.YtlmboaenmdcpbaaDoorQ4
import Derived.Laws.BytesArg
import Derived.Laws.StructEq
import Derived.OrdersHeld
/- The walks of sha's Cut and Join. No condition. -/
namespace Go.Proofs.YtlmboaenmdcpbaaDoor
open Go.RowKit
def cutL (d : List UInt8) (n : Int) : List UInt8 := d.take n.toNat ++ List.replicate (32 - n.toNat) 0
theorem cutL_length (d : List UInt8) (n : Int) (hd : d.length = 32) : (cutL d n).length = 32 := by
  unfold cutL; rw [List.length_append, List.length_take, List.length_replicate, hd]; omega
theorem cutL_arr (d : List UInt8) (n : Int) (hd : d.length = 32) : ((cutL d n).map v8).toArray = arr 32 (fun p => if (p : Int) < n then d.getD p 0 else 0) := by
  rw [arr_list, cutL_length d n hd]
  apply arr_congr
  intro p hp
  unfold cutL
  rw [List.getD_eq_getElem?_getD]
  by_cases h : (p : Int) < n
  · rw [if_pos h, List.getElem?_append_left (by rw [List.length_take]; omega), List.getElem?_take, if_pos (by omega)]; rfl
  · rw [if_neg h, List.getElem?_append_right (by rw [List.length_take]; omega), List.getElem?_replicate]
    split <;> rfl
theorem cutL_map (d : List UInt8) (n : Int) (hd : d.length = 32) : cutL d n = (List.range 32).map (fun p : Nat => if (p : Int) < n then d.getD p 0 else 0) := by
  apply List.ext_getElem?
  intro p
  unfold cutL
  by_cases hp : p < 32
  · rw [List.getElem?_map, List.getElem?_range hp]
    by_cases h : (p : Int) < n
    · rw [List.getElem?_append_left (by rw [List.length_take]; omega), List.getElem?_take, if_pos (by omega)]
      simp [h, hd, hp]
    · rw [List.getElem?_append_right (by rw [List.length_take]; omega), List.getElem?_replicate, if_pos (by rw [List.length_take]; omega)]
      simp [h]
  · rw [List.getElem?_eq_none (by rw [List.length_append, List.length_take, List.length_replicate]; omega), List.getElem?_eq_none (by simp; omega)]
theorem cutL_cutL (d : List UInt8) (m n : Int) (hd : d.length = 32) : cutL (cutL d m) n = cutL d (min m n) := by
  rw [cutL_map (cutL d m) n (cutL_length d m hd), cutL_map d (min m n) hd]
  apply List.map_congr_left
  intro p hp
  have hp := List.mem_range.1 hp
  rw [cutL_map d m hd]
  by_cases h1 : (p : Int) < n
  · by_cases h2 : (p : Int) < m
    · rw [if_pos h1, if_pos (show (p : Int) < min m n by omega)]; simp [hp, h2]
    · rw [if_pos h1, if_neg (show ¬ (p : Int) < min m n by omega)]; simp [hp, h2]
  · rw [if_neg h1, if_neg (show ¬ (p : Int) < min m n by omega)]
/-- '==' on digests -/
theorem eql_dat (X Y : List UInt8) (hX : X.length = 32) (hY : Y.length = 32) (W : World) : (binOp .eql 56 (.agg (dat X)) (.agg (dat Y))).run Tryd.prog W = .ok (.bool (decide (X = Y))) W := by
  rw [dat_eq X hX, dat_eq Y hY]
  obtain ⟨i0, hi, _⟩ := info_parts (by kernel_rfl : (Tryd.prog.info? 5).map (fun i => (i.zero, i.size, i.bytes)) = some (some (.int .u8 0), 1, 1))
  exact run_eql_bytes W 56 5 32 i0 Tryd.underlying56 hi Tryd.underlying5 (by kernel_rfl) X Y hX hY
/-- the same, as the walk opens '==' and '!=' -/
theorem eqi_dat (X Y : List UInt8) (hX : X.length = 32) (hY : Y.length = 32) (W : World) : (Op.equalIn 10000 56 (.agg (dat X)) (.agg (dat Y))).run Tryd.prog W = .ok (decide (X = Y)) W := by
  rw [dat_eq X hX, dat_eq Y hY]
  obtain ⟨i0, hi, _⟩ := info_parts (by kernel_rfl : (Tryd.prog.info? 5).map (fun i => (i.zero, i.size, i.bytes)) = some (some (.int .u8 0), 1, 1))
  exact run_eqi_bytes W 56 5 32 i0 Tryd.underlying56 hi Tryd.underlying5 (by kernel_rfl) X Y hX hY
theorem eqi_true (X Y : List UInt8) (hX : X.length = 32) (hY : Y.length = 32) (h : X = Y) (W : World) : (Op.equalIn 10000 56 (.agg (dat X)) (.agg (dat Y))).run Tryd.prog W = .ok true W := by
  rw [eqi_dat X Y hX hY, decide_eq_true h]
theorem eqi_false (X Y : List UInt8) (hX : X.length = 32) (hY : Y.length = 32) (h : X ≠ Y) (W : World) : (Op.equalIn 10000 56 (.agg (dat X)) (.agg (dat Y))).run Tryd.prog W = .ok false W := by
  rw [eqi_dat X Y hX hY, decide_eq_false h]
theorem neq_dat (X Y : List UInt8) (hX : X.length = 32) (hY : Y.length = 32) (W : World) : (binOp .neq 56 (.agg (dat X)) (.agg (dat Y))).run Tryd.prog W = .ok (.bool (!decide (X = Y))) W := by
  rw [dat_eq X hX, dat_eq Y hY]
  obtain ⟨i0, hi, _⟩ := info_parts (by kernel_rfl : (Tryd.prog.info? 5).map (fun i => (i.zero, i.size, i.bytes)) = some (some (.int .u8 0), 1, 1))
  exact run_neq_bytes W 56 5 32 i0 Tryd.underlying56 hi Tryd.underlying5 (by kernel_rfl) X Y hX hY
section
variable {ops : Array Oper} {C : World → Prop} {Q : Act → Prop} {a : Act} {o : Oper} {rest : List Oper}
theorem eqGuard_dat (op : BinOp) (x y : Operand) (X Y : Array Value) (W : World) : (eqGuard op 56 x y (.agg X) (.agg Y)).run Tryd.prog W = .ok () W := run_eqGuard_agg W op 56 x y X Y (by kernel_rfl)
/-- '==' on digests in a quiet region -/
theorem wpQuiet_eqD (hw : Region.wanted o (yielded ops a.tmps) = true) (x y : Operand) (yt : TypeId) (ho : o.op = .binOp .eql 56 x y yt) (X Y : List UInt8) (hx : a.eval x = .agg (dat X)) (hy : a.eval y = .agg (dat Y)) (hX : X.length = 32) (hY : Y.length = 32)
    (b : Bool) (hb : decide (X = Y) = b) (h : wpQuiet Tryd.prog ops C Q rest (a.put o.dst (.bool b))) : wpQuiet Tryd.prog ops C Q (o :: rest) a :=
  wpQuiet_wanted hw (.bool b) (fun w _ => by
    unfold Oper.quietAt execOp
    simp only [ho, hx, hy, Sem.run_bind, Sem.run_pure, Result.andThen_ok, eqGuard_dat, eql_dat X Y hX hY, hb]
    exact ⟨rfl, rfl⟩) h
theorem wpQuiet_neD (hw : Region.wanted o (yielded ops a.tmps) = true) (x y : Operand) (yt : TypeId) (ho : o.op = .binOp .neq 56 x y yt) (X Y : List UInt8) (hx : a.eval x = .agg (dat X)) (hy : a.eval y = .agg (dat Y)) (hX : X.length = 32) (hY : Y.length = 32)
    (b : Bool) (hb : decide (X = Y) = b) (h : wpQuiet Tryd.prog ops C Q rest (a.put o.dst (.bool (!b)))) : wpQuiet Tryd.prog ops C Q (o :: rest) a :=
  wpQuiet_wanted hw (.bool (!b)) (fun w _ => by
    unfold Oper.quietAt execOp
    simp only [ho, hx, hy, Sem.run_bind, Sem.run_pure, Result.andThen_ok, eqGuard_dat, neq_dat X Y hX hY, hb]
    exact ⟨rfl, rfl⟩) h
/-- .. and in a plain region -/
theorem wpList_eqD {w : World} {Q : Exit → Act → World → Prop} (hgd : o.guard = none) (x y : Operand) (yt : TypeId) (ho : o.op = .binOp .eql 56 x y yt) (X Y : List UInt8) (hx : a.eval x = .agg (dat X)) (hy : a.eval y = .agg (dat Y)) (hX : X.length = 32) (hY : Y.length = 32)
    (b : Bool) (hb : decide (X = Y) = b) (h : wpList Tryd.prog ops Q rest (a.put o.dst (.bool b)) w) : wpList Tryd.prog ops Q (o :: rest) a w :=
  wpList_plain hgd fun K hK => by
    unfold Oper.wp execOp
    simp only [ho, hx, hy, Sem.run_bind, Sem.run_pure, Result.andThen_ok, eqGuard_dat, eql_dat X Y hX hY, hb]
    exact hK _ _ h
theorem wpList_neD {w : World} {Q : Exit → Act → World → Prop} (hgd : o.guard = none) (x y : Operand) (yt : TypeId) (ho : o.op = .binOp .neq 56 x y yt) (X Y : List UInt8) (hx : a.eval x = .agg (dat X)) (hy : a.eval y = .agg (dat Y)) (hX : X.length = 32) (hY : Y.length = 32)
    (b : Bool) (hb : decide (X = Y) = b) (h : wpList Tryd.prog ops Q rest (a.put o.dst (.bool (!b))) w) : wpList Tryd.prog ops Q (o :: rest) a w :=
  wpList_plain hgd fun K hK => by
    unfold Oper.wp execOp
    simp only [ho, hx, hy, Sem.run_bind, Sem.run_pure, Result.andThen_ok, eqGuard_dat, neq_dat X Y hX hY, hb]
    exact hK _ _ h
end
set_option maxRecDepth 100000 in
theorem cut_any (d : List UInt8) (hd : d.length = 32) (n : Int) (w : World) :
    Calls Tryd.prog 88 #[.agg (dat d), .int .i64 n] w fun e w' => e = .returned (.agg (dat (cutL d n))) ∧ Below w.heap.size w w' := by
  have ed : (d.map v8).toArray = arr 32 (fun p => d.getD p 0) := by rw [arr_list, hd]
  show Calls _ _ #[.agg (arr 32 fun p => d.getD p 0), .int .i64 n] _ _
  go_enter Tryd.func88, Tryd.ntmps88
  go_wp2
  refine wp_at (fun W => Blk W w.heap.size 56 (arr 32 fun p => d.getD p 0) ∧ Blk W (w.heap.size + 1) 56 (arr 32 fun _ => 0) ∧ Blk W (w.heap.size + 2) 56 (arr 32 fun _ => 0) ∧ Below w.heap.size w W)
    ⟨((Blk.new w _ _).alloc _).alloc _, ?_, ?_, (((Below.refl _ _).alloc (Nat.le_refl _) _).alloc (by simp) _).alloc (by simp; omega) _⟩ ?_
  · refine Blk.alloc ?_ _
    rw [show w.heap.size + 1 = (w.alloc (Obj.cells (arr 32 fun p => d.getD p 0) 56)).heap.size by simp]
    exact Blk.new _ _ _
  · rw [show w.heap.size + 2 = ((w.alloc (Obj.cells (arr 32 fun p => d.getD p 0) 56)).alloc (Obj.cells (arr 32 fun _ => 0) 56)).heap.size by simp]
    exact Blk.new _ _ _
  intro W ⟨hA, hB, hC, hbel⟩
  refine wp_region_quiet_tail 5 (fun W' => ∃ n, W' = W.drewN n) (by kernel_rfl) (by kernel_rfl) ⟨1, rfl⟩ ?_
  simp only [List.take_succ_cons, List.take_zero, List.drop_succ_cons, List.drop_zero]
  repeat (go_big_quiet_step (fail))
  obtain ⟨m, hm⟩ : ∃ m : Nat, m = min n.toNat 32 := ⟨_, rfl⟩
  have hm32 : m ≤ 32 := by omega
  rw [show (if 32 < if n < 0 then 0 else n then 32 else if n < 0 then 0 else n) = (m : Int) by split <;> (try split) <;> omega]
  have Hm := Lib.hid hm
  clear hm
  generalize (if n < 0 then 0 else n) = n8'
  have hsl : ∀ wx, (Instr.sliceAt 56 (.pointer (some ⟨w.heap.size, 0, none⟩)) none (some (.int .i64 (m : Int))) none).run Tryd.prog wx = .ok (.slice (some ⟨w.heap.size, 0, none⟩) m 32) wx := fun wx =>
    run_sliceAt_array_hh (P := Tryd.prog) (w := wx) ⟨w.heap.size, 0, none⟩ Tryd.underlying56 (by kernel_rfl) .i64 (m : Int) (by omega) (by omega)
  repeat (go_big_quiet_step (fail))
  refine wpQuiet_nil ?_
  intro W' hW'
  obtain ⟨nq, rfl⟩ := hW'
  have e1 := copied_arr 32 (fun _ => 0) 0 (d.take m) 32 (by rw [List.length_take, hd]; show 0 + min (min m 32) 32 ≤ 32; omega)
  have e2 : (d.take m).length = m := by rw [List.length_take, hd]; omega
  rw [e2] at e1
  have hrd : Reads (W.drewN nq) (w.heap.size + 1) (some ⟨w.heap.size, 0, none⟩) ((d.take m).map v8) := by
    have := (Reads.of_blk (hA.drewN nq) (by omega : w.heap.size < w.heap.size + 1) 0).take m
    rw [List.map_take]
    rw [← ed] at this
    simpa using this
  refine wpList_copyR rfl (.tmp 6) (.tmp 10) _ _ rfl 5 Tryd.underlying42 (by kernel_rfl) (w.heap.size + 2) 0 32 32 _ _ _ rfl rfl _ _ (hC.drewN nq) _ _ hrd (by rw [List.length_map, e2]) (by rw [arr_size]; show 0 + min m 32 ≤ 32; omega) (oneCell_v8 _) ?_
  intro W2 hC2 hon2
  rw [e1] at hC2
  have hB2 := (hB.drewN nq).grown hon2 (by simp)
  have hb2 := below_only (below_drewN hbel nq) hon2 (by omega) hbel.size
  go_wp2_with (first
    | (refine wpList_load_row rfl 56 (.tmp 5) rfl (w.heap.size + 2) rfl _ _ _ _ hC2 Tryd.underlying56 rfl (by kernel_rfl) ?_)
    | (refine wpList_storeArr rfl rfl 56 (.tmp 4) (.tmp 12) rfl (w.heap.size + 1) rfl 32 _ _ rfl _ hB2 (by kernel_rfl) ?_; intro w6 hR6 hon6))
  have hb6 := below_only hb2 hon6 (by omega) hb2.size
  refine bodyPost_ret (results_cell_row (p := 4) (ty := 56) rfl _ _ (w.heap.size + 1) _ _ _ _ rfl hR6 Tryd.underlying56 rfl (by kernel_rfl)) rfl ⟨?_, hb6⟩
  rw [dat_eq _ (cutL_length d n hd), cutL_arr d n hd]
  congr 2
  apply arr_congr
  intro p hp
  have := Hm.out
  show (if 0 ≤ p ∧ p < 0 + min m 32 then (d.take m).getD (p - 0) 0 else 0) = _
  by_cases h : (p : Int) < n
  · rw [if_pos h, if_pos (show 0 ≤ p ∧ p < 0 + min m 32 by omega), Nat.sub_zero, List.getD_eq_getElem?_getD, List.getElem?_take, if_pos (by omega)]; rfl
  · rw [if_neg h, if_neg (show ¬ (0 ≤ p ∧ p < 0 + min m 32) by omega)]
theorem take_flat (ls : List (List UInt8)) (k : Nat) (hk : k < ls.length) : (ls.take (k + 1)).flatten = (ls.take k).flatten ++ ls.getD k [] := by
  rw [List.take_succ_eq_append_getElem hk, List.flatten_append]
  simp [hk]
theorem flat_le (ls : List (List UInt8)) (k : Nat) : (ls.take k).flatten.length ≤ ls.flatten.length := by
  conv => rhs; rw [← List.take_append_drop k ls]
  rw [List.flatten_append, List.length_append]; omega
theorem join_any (v : Value) (ls : List (List UInt8)) (w : World) (h : SSl w w.heap.size v ls) (hlen : ls.flatten.length ≤ 140737488355328) :
    Calls Tryd.prog 70 #[v] w fun e w' => ∃ u, e = .returned u ∧ w'.ownsRow w.heap.size 5 1 u ls.flatten.length (ls.flatten.map v8) ∧ Below w.heap.size w w' := by
  obtain ⟨i0, hi, hz0, hz1, hz2⟩ := info_parts (by kernel_rfl : (Tryd.prog.info? 5).map (fun i => (i.zero, i.size, i.bytes)) = some (some (.int .u8 0), 1, 1))
  obtain ⟨A, cap, vs, rfl, hc1, hc2, hr, hvl, hel⟩ := h
  go_enter Tryd.func70, Tryd.ntmps70
  go_wp2
  go_loopw [3, 5, 8] (fun u _ i wr => ∃ k : Nat, k ≤ ls.length ∧ i = .int .i64 k ∧ wr.ownsRow w.heap.size 5 1 u ((ls.take k).flatten.map v8).length ((ls.take k).flatten.map v8) ∧ Below w.heap.size w wr) (fun _ _ i _ => ls.length - (intOf i).toNat)
  case atStart => exact ⟨0, by omega, rfl, by simpa using World.ownsRow_nil _ _ _ _, Below.refl _ _⟩
  case round =>
    obtain ⟨k, hk, rfl, hown, hbel⟩ := hrel
    by_cases hlt : k < ls.length
    · obtain ⟨b, off, rfl, hb, hc⟩ := hr (by omega)
      have hvk : vs[k]? = some (vs.getD k undef) := by rw [List.getD_eq_getElem?_getD, List.getElem?_eq_getElem (by omega)]; rfl
      obtain ⟨A2, cap2, e2, hc21, hc22, hr2⟩ := hel k hlt
      rw [e2] at hvk
      have cv : wr.cell? ⟨b, off + k, none⟩ = some (.slice A2 (ls.getD k []).length cap2) := (hbel.cell (p := ⟨b, off + k, none⟩) hb).trans (hc k _ hvk)
      have hr3 := hr2.below hbel
      have hL1 := flat_le ls (k + 1)
      rw [take_flat ls k hlt, List.length_append] at hL1
      obtain ⟨x, hx⟩ : ∃ x, x = ls.getD k [] := ⟨_, rfl⟩
      rw [← hx] at cv hr3 hL1
      have Hx := Lib.hid hx
      have He2 := Lib.hid e2
      clear hx hvk hr2 hc21 e2
      have hlx : ((ls.take k).flatten.map v8).length = (ls.take k).flatten.length := List.length_map ..
      go_wp2_with (first
        | (at_builtin; refine wpList_appendR rfl (.tmp 12) (.tmp 13) _ rfl w.heap.size 5 i0 _ 1 Tryd.underlying42 hi hz0 hz1 hz2 rfl _ _ rfl hown _ A2 _ _ _ rfl hr3 (by rw [List.length_map]) (oneCell_v8 _) (by unfold maxLen; omega) (by omega) hbel.size ?_; intro u1 w1 hown1 hg1 hat1))
      have hg2 : wr.grownBy w1 u3.ownBlock := hg1
      go_roundw
      case rel =>
        refine ⟨k + 1, by omega, by go_num, ?_, below_own hbel hown hg2 hbel.size⟩
        rw [take_flat ls k hlt, List.map_append, ← Hx.out]
        exact hown1
      case measure => simp [intOf]; omega
    · have ek : k = ls.length := by omega
      rw [ek, List.take_length] at hown
      clear ek
      go_wp2
      go_ret
      rw [List.length_map] at hown
      exact ⟨u3, rfl, hown, hbel⟩
end Go.Proofs.YtlmboaenmdcpbaaDoor

/- A slice of bytes as a string, in a quiet walk. No condition. -/
namespace Go.Proofs.YtlmboaenmdcpbaaDoor
open Go Go.RowKit
/-- the string of some bytes -/
def strV (bs : List UInt8) : Value := .string ⟨bs.toArray⟩
theorem nums_n8 (bs : List UInt8) : strOfNums (bs.map n8) = ⟨bs.toArray⟩ := by
  unfold strOfNums
  congr 1
  rw [List.map_map]
  congr 1
  apply List.ext_getElem (by simp)
  intro i h1 h2
  simp [n8]
theorem run_bytes_str {w : World} {B : Nat} {v : Value} {bs : List UInt8} (hv : BSl w B v bs) : (convert 42 9 v).run Tryd.prog w = .ok (strV bs) w := by
  obtain ⟨A, c, rfl, h1, h2, hr⟩ := hv
  cases A with
  | none =>
    have h0 : bs = [] := by
      cases bs with
      | nil => rfl
      | cons b l => obtain ⟨_, _, e, _⟩ := hr (by simp); cases e
    subst h0
    exact run_convert_bytes_nil w _ _ Tryd.underlying42 Tryd.underlying5 _ _ _ Tryd.underlying9
  | some p =>
    cases bs with
    | nil =>
      have hl : (loadCells p 0).run Tryd.prog w = .ok (([] : List Int).map (Value.int .u8)).toArray w := by
        have := run_loadCells_list (P := Tryd.prog) w p [] (fun j v hj => by simp at hj)
        simpa using this
      rw [List.length_nil, run_convert_bytes_string w _ _ _ _ 0 c Tryd.underlying42 Tryd.underlying5 Tryd.underlying9, run_bytesToString w p 0 c [] hl]
      rfl
    | cons b l =>
      obtain ⟨g, off, e, hb, hc⟩ := hr (by simp)
      cases e
      have h := run_convert_bytes_arg (P := Tryd.prog) w 42 5 Tryd.underlying42 Tryd.underlying5 g off (b :: l).length c ((b :: l).map n8) (by simp) (fun i hi => by
        have hh := hc i (v8 ((b :: l).getD i 0)) (by rw [List.getElem?_map, List.getElem?_eq_getElem hi]; simp [List.getD, List.getElem?_eq_getElem hi])
        rw [hh]
        rw [List.getD_eq_getElem?_getD, List.getD_eq_getElem?_getD, List.getElem?_map, List.getElem?_eq_getElem hi]
        rfl) 9 Tryd.underlying9
      rw [h, nums_n8]; rfl
section
variable {ops : Array Oper} {C : World → Prop} {Q : Act → Prop} {a : Act} {o : Oper} {rest : List Oper}
theorem wpQuiet_str (hw : Region.wanted o (yielded ops a.tmps) = true) (x : Operand) (ho : o.op = .convert 42 9 x) (v : Value) (bs : List UInt8) (B : Nat) (hx : a.eval x = v) (hv : ∀ w, C w → BSl w B v bs)
    (h : wpQuiet Tryd.prog ops C Q rest (a.put o.dst (strV bs))) : wpQuiet Tryd.prog ops C Q (o :: rest) a :=
  wpQuiet_wanted hw (strV bs) (fun w hC => by
    unfold Oper.quietAt execOp
    simp only [ho, hx, Sem.run_bind, run_bytes_str (hv w hC), Result.andThen_ok, Sem.run_pure]
    exact ⟨rfl, rfl⟩) h
end
end Go.Proofs.YtlmboaenmdcpbaaDoor

/- '==' on strings of bytes. No condition. -/
namespace Go.Proofs.YtlmboaenmdcpbaaDoor
open Go Go.RowKit
theorem bytes_beq (a b : List UInt8) : ((⟨a.toArray⟩ : ByteArray).toList == (⟨b.toArray⟩ : ByteArray).toList) = decide (a = b) := by
  rw [ByteArray.toList_eq, ByteArray.toList_eq]
  show (a == b) = decide (a = b)
  by_cases h : a = b
  · subst h; simp
  · rw [decide_eq_false h, beq_eq_false_iff_ne]; exact h
theorem run_strEq (w : World) (a b : List UInt8) : (binOp .eql 9 (strV a) (strV b)).run Tryd.prog w = .ok (.bool (decide (a = b))) w := by
  unfold strV
  rw [binOp_string_eql, bytes_beq]
  simp
section
variable {ops : Array Oper} {C : World → Prop} {Q : Act → Prop} {a : Act} {o : Oper} {rest : List Oper}
theorem wpQuiet_eqStr (hw : Region.wanted o (yielded ops a.tmps) = true) (x y : Operand) (yt : TypeId) (ho : o.op = .binOp .eql 9 x y yt) (X Y : List UInt8) (hx : a.eval x = strV X) (hy : a.eval y = strV Y)
    (b : Bool) (hb : decide (X = Y) = b) (hk : wpQuiet Tryd.prog ops C Q rest (a.put o.dst (.bool b))) : wpQuiet Tryd.prog ops C Q (o :: rest) a :=
  wpQuiet_wanted hw (.bool b) (fun w _ => by
    have hg : (eqGuard .eql 9 x y (strV X) (strV Y)).run Tryd.prog w = .ok () w := by unfold strV; simp [eqGuard]
    unfold Oper.quietAt execOp
    simp only [ho, hx, hy, Sem.run_bind, Sem.run_pure, Result.andThen_ok, hg, run_strEq, hb]
    exact ⟨rfl, rfl⟩) hk
theorem run_strNe (w : World) (a b : List UInt8) : (binOp .neq 9 (strV a) (strV b)).run Tryd.prog w = .ok (.bool (!decide (a = b))) w := by
  have h : binOp .neq 9 (strV a) (strV b) = pure (.bool (!((⟨a.toArray⟩ : ByteArray).toList == (⟨b.toArray⟩ : ByteArray).toList))) := by unfold strV; first | (simp [binOp, Op.stringOp]; done) | simp [binOp, Op.stringOp, bne]
  rw [h, bytes_beq]
  simp
theorem wpQuiet_neStr (hw : Region.wanted o (yielded ops a.tmps) = true) (x y : Operand) (yt : TypeId) (ho : o.op = .binOp .neq 9 x y yt) (X Y : List UInt8) (hx : a.eval x = strV X) (hy : a.eval y = strV Y)
    (b : Bool) (hb : decide (X = Y) = b) (hk : wpQuiet Tryd.prog ops C Q rest (a.put o.dst (.bool (!b)))) : wpQuiet Tryd.prog ops C Q (o :: rest) a :=
  wpQuiet_wanted hw (.bool (!b)) (fun w _ => by
    have hg : (eqGuard .neq 9 x y (strV X) (strV Y)).run Tryd.prog w = .ok () w := by unfold strV; simp [eqGuard]
    unfold Oper.quietAt execOp
    simp only [ho, hx, hy, Sem.run_bind, Sem.run_pure, Result.andThen_ok, hg, run_strNe, hb]
    exact ⟨rfl, rfl⟩) hk
end
end Go.Proofs.YtlmboaenmdcpbaaDoor

/- Strings of bytes in a forced walk: conversion, '+', '!='. No condition. -/
namespace Go.Proofs.YtlmboaenmdcpbaaDoor
open Go Go.RowKit
theorem run_strAdd (w : World) (a b : List UInt8) (h : a.length + b.length ≤ 9223372036854775807) : (binOp .add 9 (strV a) (strV b)).run Tryd.prog w = .ok (strV (a ++ b)) w := by
  unfold strV
  have e : (⟨a.toArray⟩ : ByteArray) ++ ⟨b.toArray⟩ = ⟨(a ++ b).toArray⟩ := by
    apply ByteArray.ext
    rw [ByteArray.data_append]
    simp
  have hn : ¬ ((((⟨a.toArray⟩ : ByteArray).size + (⟨b.toArray⟩ : ByteArray).size : Nat) : Int) > IntKind.i64.max) := by
    show ¬ (((a.toArray.size + b.toArray.size : Nat) : Int) > 9223372036854775807)
    simp only [List.size_toArray]
    omega
  have h1 : binOp .add 9 (.string ⟨a.toArray⟩) (.string ⟨b.toArray⟩) = Op.stringOp .add ⟨a.toArray⟩ ⟨b.toArray⟩ := rfl
  rw [h1]
  unfold Op.stringOp
  simp only [if_neg hn, e, Sem.run_pure]
section
variable {w : World} {ops : Array Oper} {rest : List Oper} {o : Oper} {a : Act} {Q : Exit → Act → World → Prop}
theorem wpList_strA (hgd : o.guard = none) (x : Operand) (ho : o.op = .convert 42 9 x) (v : Value) (bs : List UInt8) (B : Nat) (hx : a.eval x = v) (hv : BSl w B v bs)
    (h : wpList Tryd.prog ops Q rest (a.put o.dst (strV bs)) w) : wpList Tryd.prog ops Q (o :: rest) a w :=
  wpList_plain hgd fun K hK => by
    unfold Oper.wp execOp
    simp only [ho, hx, Sem.run_bind, run_bytes_str hv, Result.andThen_ok, Sem.run_pure]
    exact hK _ _ h
theorem wpList_addStr (hgd : o.guard = none) (x y : Operand) (yt : TypeId) (ho : o.op = .binOp .add 9 x y yt) (X Y : List UInt8) (hx : a.eval x = strV X) (hy : a.eval y = strV Y) (hl : X.length + Y.length ≤ 9223372036854775807)
    (h : wpList Tryd.prog ops Q rest (a.put o.dst (strV (X ++ Y))) w) : wpList Tryd.prog ops Q (o :: rest) a w :=
  wpList_plain hgd fun K hK => by
    have hg : (eqGuard .add 9 x y (strV X) (strV Y)).run Tryd.prog w = .ok () w := by unfold strV; simp [eqGuard]
    unfold Oper.wp execOp
    simp only [ho, hx, hy, Sem.run_bind, hg, run_strAdd w X Y hl, Result.andThen_ok, Sem.run_pure]
    exact hK _ _ h
theorem wpList_neStr (hgd : o.guard = none) (x y : Operand) (yt : TypeId) (ho : o.op = .binOp .neq 9 x y yt) (X Y : List UInt8) (hx : a.eval x = strV X) (hy : a.eval y = strV Y)
    (b : Bool) (hb : decide (X = Y) = b) (h : wpList Tryd.prog ops Q rest (a.put o.dst (.bool (!b))) w) : wpList Tryd.prog ops Q (o :: rest) a w :=
  wpList_plain hgd fun K hK => by
    have hg : (eqGuard .neq 9 x y (strV X) (strV Y)).run Tryd.prog w = .ok () w := by unfold strV; simp [eqGuard]
    unfold Oper.wp execOp
    simp only [ho, hx, hy, Sem.run_bind, hg, run_strNe, hb, Result.andThen_ok, Sem.run_pure]
    exact hK _ _ h
end
end Go.Proofs.YtlmboaenmdcpbaaDoor

/- A region that draws its order: plain operations have one value in every world of a class and are taken as soon as they may come up; what is left comes up alone (or two at a time) and is walked by itself. No condition. -/
namespace Go.Proofs.YtlmboaenmdcpbaaDoor
open Go Go.RowKit
/-- No way out but K. -/
def OnlyK (K : Act → World → Prop) : Exit → Act → World → Prop
  | .normal, a, w => K a w
  | _, _, _ => False
theorem onlyK_imp {Q : Exit → Act → World → Prop} : ∀ (e : Exit) (a : Act) (w : World), OnlyK (Q .normal) e a w → Q e a w := fun e a w h => by
  cases e <;> first | exact h | exact (h : False).elim
theorem onlyK_out {K : Act → World → Prop} : ¬ LetsOut (OnlyK K) := fun ⟨_, _, h⟩ => h
/-- operations that yield a value and touch nothing -/
def plainOp (o : Oper) : Bool :=
  match o.op with
  | .move _ | .assign _ | .load _ _ | .binOp _ _ _ _ _ | .unOp _ _ _ | .convert _ _ _ | .slice _ _ _ _ _ | .fieldAddr _ _ _ | .field _ _ _ | .indexAddr _ _ _ | .index _ _ _ | .extract _ _ | .build _ _ | .makeFunc _ _ _ | .pick _ _ _ | .makeInterface _ _ | .nilCheck _ => true
  | .call c => match c.callee with
    | .builtin .len | .builtin .cap | .builtin .min | .builtin .max => true
    | _ => false
  | _ => false
/-- How a region is walked. -/
inductive Plan where
  | done
  | plain (i : Nat) (p : Plan)
  | only (i : Nat) (p : Plan)
  | two (i j : Nat) (p q : Plan)
section
variable {P : Program} {ops : Array Oper} {md : Region.Mode} {Q : Exit → Act → World → Prop} {S : World → Prop}
theorem run_value_only {s : Sem Value} {w w' : World} {n : Next} (h : (do pure (Next.value (← s)) : Sem Next).run P w = .ok n w') : ∃ v, n = .value v := by
  simp only [Sem.run_bind] at h
  generalize s.run P w = r at h
  cases r with
  | ok x w1 =>
    rw [Result.andThen_ok, Sem.run_pure] at h
    injection h with h1 h2
    exact ⟨x, h1.symm⟩
  | halt x w1 => cases h
theorem run_bind_only {α : Type} {s : Sem α} {f : α → Sem Next} {w w' : World} {n : Next} (hf : ∀ x w1 w2 n, (f x).run P w1 = .ok n w2 → ∃ v, n = .value v) (h : (s >>= f).run P w = .ok n w') : ∃ v, n = .value v := by
  rw [Sem.run_bind] at h
  generalize s.run P w = r at h
  cases r with
  | ok x w1 => rw [Result.andThen_ok] at h; exact hf _ _ _ _ h
  | halt x w1 => cases h
theorem plain_value {o : Oper} (hp : plainOp o = true) {a : Act} {w w' : World} {n : Next} (h : (execOp a.eval o).run P w = .ok n w') : ∃ v, n = .value v := by
  unfold plainOp at hp
  unfold execOp at h
  split at hp <;> rename_i ho <;> simp only [ho] at h <;> try exact run_value_only h
  · rw [Sem.run_pure] at h; injection h with h1 _; exact ⟨_, h1.symm⟩
  · rw [Sem.run_pure] at h; injection h with h1 _; exact ⟨_, h1.symm⟩
  · simp only [Sem.run_bind] at h
    generalize (asBool _).run P w = r at h
    cases r with
    | ok x w1 => rw [Result.andThen_ok, Sem.run_pure] at h; injection h with h1 _; exact ⟨_, h1.symm⟩
    | halt x w1 => cases h
  · generalize a.eval _ = x at h
    split at h
    · simp [runtimePanic] at h
    · simp [runtimePanic] at h
    · simp [runtimePanic] at h
    · split at h
      · simp [runtimePanic] at h
      · refine run_bind_only (fun x w1 w2 n h => run_bind_only (fun b w3 w4 n h => ?_) h) h
        split at h
        · exact run_bind_only (fun _ w5 w6 n h => by rw [Sem.run_pure] at h; injection h with h1 _; exact ⟨_, h1.symm⟩) h
        · rw [Sem.run_pure] at h; injection h with h1 _; exact ⟨_, h1.symm⟩
      · rw [Sem.run_pure] at h; injection h with h1 _; exact ⟨_, h1.symm⟩
    · rw [Sem.run_pure] at h; injection h with h1 _; exact ⟨_, h1.symm⟩
  · split at hp
    · rename_i hc
      simp only [resolve, hc, Sem.run_bind, Sem.run_pure, Result.andThen_ok, invoke, builtin] at h
      exact run_value_only (by simpa only [Sem.run_bind, Sem.run_pure] using h)
    · rename_i hc
      simp only [resolve, hc, Sem.run_bind, Sem.run_pure, Result.andThen_ok, invoke, builtin] at h
      exact run_value_only (by simpa only [Sem.run_bind, Sem.run_pure] using h)
    · rename_i hc
      simp only [resolve, hc, Sem.run_bind, Sem.run_pure, Result.andThen_ok, invoke, builtin] at h
      exact run_value_only (by simpa only [Sem.run_bind, Sem.run_pure] using h)
    · rename_i hc
      simp only [resolve, hc, Sem.run_bind, Sem.run_pure, Result.andThen_ok, invoke, builtin] at h
      exact run_value_only (by simpa only [Sem.run_bind, Sem.run_pure] using h)
    · cases hp
  · cases hp
/-- Whatever order is picked from here on; behind each operation the class may shrink. -/
def wpAnyM (P : Program) (md : Region.Mode) (ops : Array Oper) (Q : Exit → Act → World → Prop) : Nat → (World → Prop) → Array Bool → Act → World → Prop
  | 0, _, listed, a, w => Region.ready md ops listed = [] ∧ Q .normal a w
  | fuel + 1, S, listed, a, w =>
    (Region.ready md ops listed = [] → Q .normal a w) ∧
    ∀ i ∈ Region.ready md ops listed, wpOp P ops Q i (fun a' w' => ∃ S' : World → Prop, (∀ w, S' w → S w) ∧ S' w' ∧ wpAnyM P md ops Q fuel S' (listed.setIfInBounds i true) a' w') a w
theorem wpAny_of_mix : ∀ (fuel : Nat) (S : World → Prop) (listed : Array Bool) (a : Act) (w : World), wpAnyM P md ops Q fuel S listed a w → wpAny P md ops Q fuel listed a w
  | 0, _, _, _, _, h => h
  | fuel + 1, _, _, _, _, h => ⟨h.1, fun i hi => wpOp_mono (fun a' w' ⟨_, _, _, h'⟩ => wpAny_of_mix fuel _ _ a' w' h') (h.2 i hi)⟩
theorem yieldsIf_less {S' : World → Prop} {o : Oper} {v : Value} {a : Act} (h : YieldsIf P ops S o v a) (hS : ∀ w, S' w → S w) : YieldsIf P ops S' o v a :=
  h.imp (fun ⟨h1, h2⟩ => ⟨h1, fun w hw => h2 w (hS w hw)⟩) id
theorem wpAnyM_first {i : Nat} {oi : Oper} {v : Value} (hi : ops[i]? = some oi) (hsel : ∀ (j : Nat) (o : Oper) cs b, ops[j]? = some o → o.op ≠ .select cs b)
    (hQ : ∀ c a w, Q (.panic c) (a.put oi.dst v) w → Q (.panic c) a w) :
    ∀ (fuel : Nat) (S : World → Prop) (listed : Array Bool) (a : Act) (w : World),
      (∀ j oj, ops[j]? = some oj → j ≠ i → listed.getD j true = false → (∀ e ∈ oj.after, Region.binds md e = true → e.on ≠ i) → oi.apart ops oj = true) →
      i ∈ Region.ready md ops listed → YieldsIf P ops S oi v a → S w →
      wpAnyM P md ops Q fuel S (listed.setIfInBounds i true) (a.put oi.dst v) w → wpAnyM P md ops Q (fuel + 1) S listed a w := by
  intro fuel
  induction fuel with
  | zero =>
    intro S listed a w _ hr hy hS H
    refine ⟨fun h => (by rw [h] at hr; cases hr), fun j hj => ?_⟩
    by_cases hji : j = i
    · subst hji; exact hy.wpOp hi hS ⟨S, fun _ h => h, hS, H⟩
    · have := ready_mono hj hji
      rw [H.1] at this
      cases this
  | succ fuel ih =>
    intro S listed a w hfree hr hy hS H
    refine ⟨fun h => (by rw [h] at hr; cases hr), fun j hj => ?_⟩
    by_cases hji : j = i
    · subst hji; exact hy.wpOp hi hS ⟨S, fun _ h => h, hS, H⟩
    · have h1 := H.2 j (ready_mono hj hji)
      obtain ⟨hjun, oj, hoj, hall⟩ := mem_ready.1 hj
      have hnot : ∀ e ∈ oj.after, Region.binds md e = true → e.on ≠ i := fun e he hb heq => by
        have h1 := hall e he hb
        have h0 := (mem_ready.1 hr).1
        rw [heq] at h1
        rcases Nat.lt_or_ge i listed.size with h' | h'
        · simp [h'] at h0 h1; rw [h0] at h1; cases h1
        · simp [Array.getElem?_eq_none h'] at h1
      have h2 := wpOp_putIf hoj (hfree j oj hoj hji hjun hnot) (fun cs b => hsel i oi cs b hi) (fun cs b => hsel j oj cs b hoj) hQ hy h1
      have hfree' : ∀ k ok, ops[k]? = some ok → k ≠ i → (listed.setIfInBounds j true).getD k true = false →
          (∀ e ∈ ok.after, Region.binds md e = true → e.on ≠ i) → oi.apart ops ok = true := fun k ok hk hki hun hno => by
        refine hfree k ok hk hki ?_ hno
        by_cases hjk : j = k
        · subst hjk; exact hjun
        · rw [getD_set_ne true hjk] at hun; exact hun
      refine wpOp_mono (fun a' w' ⟨h3, S', h4, h5, h6⟩ => ⟨S', h4, h5, ih S' (listed.setIfInBounds j true) a' w' hfree' (ready_mono hr (Ne.symm hji)) (yieldsIf_less h3 h4) h5 ?_⟩) h2
      rw [Array.setIfInBounds_comm _ _ hji]
      exact h6
/-- the goal of a walk by a plan -/
def mixW (P : Program) (ops : Array Oper) (K : Act → World → Prop) : Plan → (World → Prop) → Act → World → Prop
  | .done, _, a, w => K a w
  | .plain i p, S, a, w => match ops[i]? with
    | none => False
    | some o => wpQuiet P ops S (fun a' => mixW P ops K p S a' w) [o] a
  | .only i p, S, a, w => match ops[i]? with
    | none => False
    | some o => wpList P ops (OnlyK fun a' w' => ∃ S' : World → Prop, (∀ w, S' w → S w) ∧ S' w' ∧ mixW P ops K p S' a' w') [o] a w
  | .two i j p q, S, a, w => (match ops[i]? with
    | none => False
    | some o => wpList P ops (OnlyK fun a' w' => ∃ S' : World → Prop, (∀ w, S' w → S w) ∧ S' w' ∧ mixW P ops K p S' a' w') [o] a w) ∧ (match ops[j]? with
    | none => False
    | some o => wpList P ops (OnlyK fun a' w' => ∃ S' : World → Prop, (∀ w, S' w → S w) ∧ S' w' ∧ mixW P ops K q S' a' w') [o] a w)
def Plan.len : Plan → Nat
  | .done => 0
  | .plain _ p => p.len + 1
  | .only _ p => p.len + 1
  | .two _ _ p _ => p.len + 1
def mixB (md : Region.Mode) (ops : Array Oper) : Plan → Array Bool → Bool
  | .done, listed => (Region.ready md ops listed).isEmpty
  | .plain i p, listed => Region.free md ops listed i && (Region.ready md ops listed).contains i && ((ops[i]?).map plainOp).getD false && mixB md ops p (listed.setIfInBounds i true)
  | .only i p, listed => (Region.ready md ops listed == [i]) && mixB md ops p (listed.setIfInBounds i true)
  | .two i j p q, listed => (Region.ready md ops listed == [i, j]) && (p.len == q.len) && mixB md ops p (listed.setIfInBounds i true) && mixB md ops q (listed.setIfInBounds j true)
theorem wpOp_of_list {i : Nat} {o : Oper} (ho : ops[i]? = some o) {K : Act → World → Prop} {a : Act} {w : World} (h : wpList P ops (OnlyK K) [o] a w) : wpOp P ops (OnlyK (Q .normal)) i K a w := by
  unfold wpOp
  simp only [ho]
  unfold wpList at h
  split
  · rename_i hw
    rw [if_pos hw] at h
    rcases h with h | h
    · refine .inl ?_
      unfold Oper.wp at *
      generalize (execOp a.eval o).run P w = r at *
      cases r with
      | ok n w' =>
        cases n <;> simp only [Oper.upon] at h ⊢ <;>
          first
            | exact h
            | exact Calls.mono h (fun e w'' he => by cases e <;> first | exact he | exact (he : False).elim | exact (onlyK_out he).elim)
            | exact Rows.mono h (fun _ _ he => he)
      | halt x w' => cases x <;> simp only [Oper.upon] at h ⊢ <;> first | exact h | exact (h : False).elim
    · exact (onlyK_out h.2).elim
  · rename_i hw
    rw [if_neg hw] at h
    exact h
theorem yieldsIf_of_quiet {o : Oper} (hp : plainOp o = true) {K : Act → Prop} {a : Act} (h : wpQuiet P ops S K [o] a) : ∃ v, YieldsIf P ops S o v a ∧ K (a.put o.dst v) := by
  unfold wpQuiet at h
  split at h
  · rename_i hw
    obtain ⟨v, h1, h2⟩ := h
    refine ⟨v, .inl ⟨hw, fun w hS => ?_⟩, h2⟩
    have h3 := h1 w hS
    unfold Oper.quietAt at h3
    generalize hr : (execOp a.eval o).run P w = r at h3
    cases r with
    | ok n w' =>
      obtain ⟨u, rfl⟩ := plain_value hp hr
      simp only [Oper.quietUpon] at h3
      rw [h3.1, h3.2]
    | halt x w' => exact h3.elim
  · rename_i hw
    exact ⟨undef, .inr ⟨by simpa using hw, rfl⟩, h⟩
theorem wpAnyM_of_mix (hsel : Region.noSelect ops = true) : ∀ (p : Plan) (S : World → Prop) (listed : Array Bool) (a : Act) (w : World), mixB md ops p listed = true → S w → mixW P ops (Q .normal) p S a w →
    wpAnyM P md ops (OnlyK (Q .normal)) p.len S listed a w
  | .done, S, listed, a, w, hB, hS, h => ⟨by simpa [mixB] using hB, h⟩
  | .plain i p, S, listed, a, w, hB, hS, h => by
    simp only [mixB, Bool.and_eq_true] at hB
    obtain ⟨⟨⟨hf, hr⟩, hp⟩, hB⟩ := hB
    unfold mixW at h
    cases ho : ops[i]? with
    | none => rw [ho] at h; exact h.elim
    | some o =>
      rw [ho] at h hp
      obtain ⟨v, hy, hK⟩ := yieldsIf_of_quiet (by simpa using hp) h
      exact wpAnyM_first ho (Region.noSelect_spec hsel) (fun _ _ _ h => h) _ S listed a w (Region.free_spec ho hf) (by simpa using hr) hy hS (wpAnyM_of_mix hsel p S _ _ w hB hS hK)
  | .only i p, S, listed, a, w, hB, hS, h => by
    simp only [mixB, Bool.and_eq_true, beq_iff_eq] at hB
    obtain ⟨hr, hB⟩ := hB
    unfold mixW at h
    refine ⟨fun h0 => (by rw [hr] at h0; cases h0), fun j hj => ?_⟩
    rw [hr, List.mem_singleton] at hj
    subst hj
    cases ho : ops[j]? with
    | none => rw [ho] at h; exact h.elim
    | some o =>
      rw [ho] at h
      exact wpOp_mono (fun a' w' ⟨S', h1, h2, h3⟩ => ⟨S', h1, h2, wpAnyM_of_mix hsel p S' _ a' w' hB h2 h3⟩) (wpOp_of_list ho h)
  | .two i k p q, S, listed, a, w, hB, hS, h => by
    simp only [mixB, Bool.and_eq_true, beq_iff_eq] at hB
    obtain ⟨⟨⟨hr, hl⟩, hB1⟩, hB2⟩ := hB
    unfold mixW at h
    refine ⟨fun h0 => (by rw [hr] at h0; cases h0), fun j hj => ?_⟩
    rw [hr] at hj
    rcases List.mem_cons.1 hj with rfl | hj
    · cases ho : ops[j]? with
      | none => rw [ho] at h; exact h.1.elim
      | some o =>
        rw [ho] at h
        exact wpOp_mono (fun a' w' ⟨S', h1, h2, h3⟩ => ⟨S', h1, h2, wpAnyM_of_mix hsel p S' _ a' w' hB1 h2 h3⟩) (wpOp_of_list ho h.1)
    · rw [List.mem_singleton] at hj
      subst hj
      cases ho : ops[j]? with
      | none => rw [ho] at h; exact h.2.elim
      | some o =>
        rw [ho] at h
        show wpOp P ops _ _ (fun a' w' => ∃ S' : World → Prop, (∀ w, S' w → S w) ∧ S' w' ∧ wpAnyM P md ops (OnlyK (Q .normal)) p.len S' _ a' w') a w
        rw [hl]
        exact wpOp_mono (fun a' w' ⟨S', h1, h2, h3⟩ => ⟨S', h1, h2, wpAnyM_of_mix hsel q S' _ a' w' hB2 h2 h3⟩) (wpOp_of_list ho h.2)
/-- A region that draws its order, walked by a plan: the Bool is closed. -/
theorem wp_region_mix {id : Nat} {a : Act} {w : World} {l : List Oper} (p : Plan) (S : World → Prop) (hm : P.follows .mixedOrders = true)
    (hB : (Region.noSelect l.toArray && (p.len == l.length) && mixB .any l.toArray p (Array.replicate l.length false)) = true) (hS : S (w.drewN 1))
    (h : mixW P l.toArray (Q .normal) p S a (w.drewN 1)) : (Code.region id l.toArray true).wp P Q a w := by
  simp only [Bool.and_eq_true, beq_iff_eq] at hB
  obtain ⟨⟨hs, hl⟩, hB⟩ := hB
  refine Code.wp_mono (Q := OnlyK (Q .normal)) onlyK_imp (wp_region_any hm ?_)
  have := wpAny_of_mix _ _ _ _ _ (wpAnyM_of_mix (P := P) (Q := Q) hs p S _ a _ hB hS h)
  rw [hl] at this
  exact this
theorem in_plus {w : World} : (fun v => ∃ e, v = plus w e) w := ⟨⟨#[], w.drawn⟩, by simp [plus]⟩
/-- The same, where all but the plain operations only make memory. -/
theorem wp_region_mixP {id : Nat} {a : Act} {w : World} {l : List Oper} (p : Plan) (hm : P.follows .mixedOrders = true)
    (hB : (Region.noSelect l.toArray && (p.len == l.length) && mixB .any l.toArray p (Array.replicate l.length false)) = true)
    (h : ∀ W, Below w.heap.size w W → mixW P l.toArray (Q .normal) p (fun v => ∃ e, v = plus W e) a W) : (Code.region id l.toArray true).wp P Q a w :=
  wp_region_mix p (fun v => ∃ e, v = plus (w.drewN 1) e) hm hB (in_plus (w := w.drewN 1)) (h _ (below_drewN (Below.refl _ w) 1))
/-- the operation at a place, as the walk reads it -/
def opAt : List Oper → Nat → Option Oper
  | [], _ => none
  | o :: _, 0 => some o
  | _ :: l, n + 1 => opAt l n
theorem opAt_eq : ∀ (l : List Oper) (i : Nat), l.toArray[i]? = opAt l i
  | [], i => by simp [opAt]
  | o :: l, 0 => by simp [opAt]
  | o :: l, n + 1 => by have := opAt_eq l n; simp only [List.getElem?_toArray] at this; simp [opAt, this]
section
variable {l : List Oper} {K : Act → World → Prop} {p q : Plan} {i j : Nat} {o o' : Oper} {a : Act} {w : World}
theorem mix_done (h : K a w) : mixW P l.toArray K .done S a w := h
theorem mix_plain (ho : opAt l i = some o) (h : wpQuiet P l.toArray S (fun a' => mixW P l.toArray K p S a' w) [o] a) : mixW P l.toArray K (.plain i p) S a w := by
  unfold mixW; rw [opAt_eq, ho]; exact h
/-- behind an operation that makes memory alone, the class is what lies behind it -/
theorem mix_only (ho : opAt l i = some o) (h : ∀ K' : Act → World → Prop, (∀ a' w', Below w.heap.size w w' → mixW P l.toArray K p (fun v => ∃ e, v = plus w' e) a' w' → K' a' w') → wpList P l.toArray (OnlyK K') [o] a w) :
    mixW P l.toArray K (.only i p) (fun v => ∃ e, v = plus w e) a w := by
  unfold mixW; rw [opAt_eq, ho]
  refine h _ fun a' w' hb' h' => ⟨_, fun v hv => ?_, in_plus, h'⟩
  obtain ⟨e, rfl⟩ := hv
  exact below_plus (hb'.trans ((plus_below w' e).mono hb'.size))
/-- the same at any class -/
theorem mix_only_in (ho : opAt l i = some o) (h : ∀ K' : Act → World → Prop, (∀ a' w', S w' → mixW P l.toArray K p S a' w' → K' a' w') → wpList P l.toArray (OnlyK K') [o] a w) : mixW P l.toArray K (.only i p) S a w := by
  unfold mixW; rw [opAt_eq, ho]
  exact h _ fun a' w' hS h' => ⟨S, fun _ h => h, hS, h'⟩
theorem mix_two_in (ho : opAt l i = some o) (ho' : opAt l j = some o')
    (h : ∀ K' : Act → World → Prop, (∀ a' w', S w' → mixW P l.toArray K p S a' w' → K' a' w') → wpList P l.toArray (OnlyK K') [o] a w)
    (h' : ∀ K' : Act → World → Prop, (∀ a' w', S w' → mixW P l.toArray K q S a' w' → K' a' w') → wpList P l.toArray (OnlyK K') [o'] a w) :
    mixW P l.toArray K (.two i j p q) S a w := by
  unfold mixW; rw [opAt_eq l i, opAt_eq l j, ho, ho']
  exact ⟨h _ fun a' w' hS h' => ⟨S, fun _ h => h, hS, h'⟩, h' _ fun a' w' hS h' => ⟨S, fun _ h => h, hS, h'⟩⟩
/-- the class at an elder world W; behind the operation it is what lies behind the world at hand -/
theorem mix_only_to {W : World} (ho : opAt l i = some o) (h : ∀ K' : Act → World → Prop, (∀ a' w', Below W.heap.size W w' → mixW P l.toArray K p (fun v => ∃ e, v = plus w' e) a' w' → K' a' w') → wpList P l.toArray (OnlyK K') [o] a w) :
    mixW P l.toArray K (.only i p) (fun v => ∃ e, v = plus W e) a w := by
  unfold mixW; rw [opAt_eq, ho]
  refine h _ fun a' w' hb' h' => ⟨_, fun v hv => ?_, in_plus, h'⟩
  obtain ⟨e, rfl⟩ := hv
  exact below_plus (hb'.trans ((plus_below w' e).mono hb'.size))
theorem mix_two (ho : opAt l i = some o) (ho' : opAt l j = some o')
    (h : ∀ K' : Act → World → Prop, (∀ a' w', Below w.heap.size w w' → mixW P l.toArray K p (fun v => ∃ e, v = plus w' e) a' w' → K' a' w') → wpList P l.toArray (OnlyK K') [o] a w)
    (h' : ∀ K' : Act → World → Prop, (∀ a' w', Below w.heap.size w w' → mixW P l.toArray K q (fun v => ∃ e, v = plus w' e) a' w' → K' a' w') → wpList P l.toArray (OnlyK K') [o'] a w) :
    mixW P l.toArray K (.two i j p q) (fun v => ∃ e, v = plus w e) a w := by
  have h1 := mix_only (p := p) ho h
  have h2 := mix_only (p := q) ho' h'
  unfold mixW at h1 h2 ⊢
  rw [opAt_eq l i, ho] at h1; rw [opAt_eq l j, ho'] at h2
  rw [opAt_eq l i, opAt_eq l j, ho, ho']
  exact ⟨h1, h2⟩
end
end
end Go.Proofs.YtlmboaenmdcpbaaDoor
