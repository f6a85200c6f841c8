/- Texts that stand behind one another: ShaD, RefC, RefD. No condition. -/
import Derived.Test.YtcdkadidkkbhpaaDoorS5
import Derived.Test.YtcdkadidkkbhpaaDoorS1
import Derived.Test.YtcdkadidkkbhpaaDoorS7
/- The walks of sha's Cut and Join. No condition. -/
namespace Go.Proofs.YtcdkadidkkbhpaaDoor
open Go.RowKit
def cutL (d : List UInt8) (n : Int) : List UInt8 := d.take n.toNat ++ List.replicate (32 - n.toNat) 0
theorem cutL_length (d : List UInt8) (n : Int) (hd : d.length = 32) : (cutL d n).length = 32 := by
  unfold cutL; rw [List.length_append, List.length_take, List.length_replicate, hd]; omega
theorem cutL_arr (d : List UInt8) (n : Int) (hd : d.length = 32) : ((cutL d n).map v8).toArray = arr 32 (fun p => if (p : Int) < n then d.getD p 0 else 0) := by
  rw [arr_list, cutL_length d n hd]
  apply arr_congr
  intro p hp
  unfold cutL
  rw [List.getD_eq_getElem?_getD]
  by_cases h : (p : Int) < n
  · rw [if_pos h, List.getElem?_append_left (by rw [List.length_take]; omega), List.getElem?_take, if_pos (by omega)]; rfl
  · rw [if_neg h, List.getElem?_append_right (by rw [List.length_take]; omega), List.getElem?_replicate]
    split <;> rfl
theorem cutL_map (d : List UInt8) (n : Int) (hd : d.length = 32) : cutL d n = (List.range 32).map (fun p : Nat => if (p : Int) < n then d.getD p 0 else 0) := by
  apply List.ext_getElem?
  intro p
  unfold cutL
  by_cases hp : p < 32
  · rw [List.getElem?_map, List.getElem?_range hp]
    by_cases h : (p : Int) < n
    · rw [List.getElem?_append_left (by rw [List.length_take]; omega), List.getElem?_take, if_pos (by omega)]
      simp [h, hd, hp]
    · rw [List.getElem?_append_right (by rw [List.length_take]; omega), List.getElem?_replicate, if_pos (by rw [List.length_take]; omega)]
      simp [h]
  · rw [List.getElem?_eq_none (by rw [List.length_append, List.length_take, List.length_replicate]; omega), List.getElem?_eq_none (by simp; omega)]
theorem cutL_cutL (d : List UInt8) (m n : Int) (hd : d.length = 32) : cutL (cutL d m) n = cutL d (min m n) := by
  rw [cutL_map (cutL d m) n (cutL_length d m hd), cutL_map d (min m n) hd]
  apply List.map_congr_left
  intro p hp
  have hp := List.mem_range.1 hp
  rw [cutL_map d m hd]
  by_cases h1 : (p : Int) < n
  · by_cases h2 : (p : Int) < m
    · rw [if_pos h1, if_pos (show (p : Int) < min m n by omega)]; simp [hp, h2]
    · rw [if_pos h1, if_neg (show ¬ (p : Int) < min m n by omega)]; simp [hp, h2]
  · rw [if_neg h1, if_neg (show ¬ (p : Int) < min m n by omega)]
/-- '==' on digests -/
theorem eql_dat (X Y : List UInt8) (hX : X.length = 32) (hY : Y.length = 32) (W : World) : (binOp .eql 38 (.agg (dat X)) (.agg (dat Y))).run Tryd.prog W = .ok (.bool (decide (X = Y))) W := by
  rw [dat_eq X hX, dat_eq Y hY]
  obtain ⟨i0, hi, _⟩ := info_parts (by kernel_rfl : (Tryd.prog.info? 5).map (fun i => (i.zero, i.size, i.bytes)) = some (some (.int .u8 0), 1, 1))
  exact run_eql_bytes W 38 5 32 i0 Tryd.underlying38 hi Tryd.underlying5 (by kernel_rfl) X Y hX hY
/-- the same, as the walk opens '==' and '!=' -/
theorem eqi_dat (X Y : List UInt8) (hX : X.length = 32) (hY : Y.length = 32) (W : World) : (Op.equalIn 10000 38 (.agg (dat X)) (.agg (dat Y))).run Tryd.prog W = .ok (decide (X = Y)) W := by
  rw [dat_eq X hX, dat_eq Y hY]
  obtain ⟨i0, hi, _⟩ := info_parts (by kernel_rfl : (Tryd.prog.info? 5).map (fun i => (i.zero, i.size, i.bytes)) = some (some (.int .u8 0), 1, 1))
  exact run_eqi_bytes W 38 5 32 i0 Tryd.underlying38 hi Tryd.underlying5 (by kernel_rfl) X Y hX hY
theorem eqi_true (X Y : List UInt8) (hX : X.length = 32) (hY : Y.length = 32) (h : X = Y) (W : World) : (Op.equalIn 10000 38 (.agg (dat X)) (.agg (dat Y))).run Tryd.prog W = .ok true W := by
  rw [eqi_dat X Y hX hY, decide_eq_true h]
theorem eqi_false (X Y : List UInt8) (hX : X.length = 32) (hY : Y.length = 32) (h : X ≠ Y) (W : World) : (Op.equalIn 10000 38 (.agg (dat X)) (.agg (dat Y))).run Tryd.prog W = .ok false W := by
  rw [eqi_dat X Y hX hY, decide_eq_false h]
theorem neq_dat (X Y : List UInt8) (hX : X.length = 32) (hY : Y.length = 32) (W : World) : (binOp .neq 38 (.agg (dat X)) (.agg (dat Y))).run Tryd.prog W = .ok (.bool (!decide (X = Y))) W := by
  rw [dat_eq X hX, dat_eq Y hY]
  obtain ⟨i0, hi, _⟩ := info_parts (by kernel_rfl : (Tryd.prog.info? 5).map (fun i => (i.zero, i.size, i.bytes)) = some (some (.int .u8 0), 1, 1))
  exact run_neq_bytes W 38 5 32 i0 Tryd.underlying38 hi Tryd.underlying5 (by kernel_rfl) X Y hX hY
section
variable {ops : Array Oper} {C : World → Prop} {Q : Act → Prop} {a : Act} {o : Oper} {rest : List Oper}
theorem eqGuard_dat (op : BinOp) (x y : Operand) (X Y : Array Value) (W : World) : (eqGuard op 38 x y (.agg X) (.agg Y)).run Tryd.prog W = .ok () W := run_eqGuard_agg W op 38 x y X Y (by kernel_rfl)
/-- '==' on digests in a quiet region -/
theorem wpQuiet_eqD (hw : Region.wanted o (yielded ops a.tmps) = true) (x y : Operand) (yt : TypeId) (ho : o.op = .binOp .eql 38 x y yt) (X Y : List UInt8) (hx : a.eval x = .agg (dat X)) (hy : a.eval y = .agg (dat Y)) (hX : X.length = 32) (hY : Y.length = 32)
    (b : Bool) (hb : decide (X = Y) = b) (h : wpQuiet Tryd.prog ops C Q rest (a.put o.dst (.bool b))) : wpQuiet Tryd.prog ops C Q (o :: rest) a :=
  wpQuiet_wanted hw (.bool b) (fun w _ => by
    unfold Oper.quietAt execOp
    simp only [ho, hx, hy, Sem.run_bind, Sem.run_pure, Result.andThen_ok, eqGuard_dat, eql_dat X Y hX hY, hb]
    exact ⟨rfl, rfl⟩) h
theorem wpQuiet_neD (hw : Region.wanted o (yielded ops a.tmps) = true) (x y : Operand) (yt : TypeId) (ho : o.op = .binOp .neq 38 x y yt) (X Y : List UInt8) (hx : a.eval x = .agg (dat X)) (hy : a.eval y = .agg (dat Y)) (hX : X.length = 32) (hY : Y.length = 32)
    (b : Bool) (hb : decide (X = Y) = b) (h : wpQuiet Tryd.prog ops C Q rest (a.put o.dst (.bool (!b)))) : wpQuiet Tryd.prog ops C Q (o :: rest) a :=
  wpQuiet_wanted hw (.bool (!b)) (fun w _ => by
    unfold Oper.quietAt execOp
    simp only [ho, hx, hy, Sem.run_bind, Sem.run_pure, Result.andThen_ok, eqGuard_dat, neq_dat X Y hX hY, hb]
    exact ⟨rfl, rfl⟩) h
/-- .. and in a plain region -/
theorem wpList_eqD {w : World} {Q : Exit → Act → World → Prop} (hgd : o.guard = none) (x y : Operand) (yt : TypeId) (ho : o.op = .binOp .eql 38 x y yt) (X Y : List UInt8) (hx : a.eval x = .agg (dat X)) (hy : a.eval y = .agg (dat Y)) (hX : X.length = 32) (hY : Y.length = 32)
    (b : Bool) (hb : decide (X = Y) = b) (h : wpList Tryd.prog ops Q rest (a.put o.dst (.bool b)) w) : wpList Tryd.prog ops Q (o :: rest) a w :=
  wpList_plain hgd fun K hK => by
    unfold Oper.wp execOp
    simp only [ho, hx, hy, Sem.run_bind, Sem.run_pure, Result.andThen_ok, eqGuard_dat, eql_dat X Y hX hY, hb]
    exact hK _ _ h
theorem wpList_neD {w : World} {Q : Exit → Act → World → Prop} (hgd : o.guard = none) (x y : Operand) (yt : TypeId) (ho : o.op = .binOp .neq 38 x y yt) (X Y : List UInt8) (hx : a.eval x = .agg (dat X)) (hy : a.eval y = .agg (dat Y)) (hX : X.length = 32) (hY : Y.length = 32)
    (b : Bool) (hb : decide (X = Y) = b) (h : wpList Tryd.prog ops Q rest (a.put o.dst (.bool (!b))) w) : wpList Tryd.prog ops Q (o :: rest) a w :=
  wpList_plain hgd fun K hK => by
    unfold Oper.wp execOp
    simp only [ho, hx, hy, Sem.run_bind, Sem.run_pure, Result.andThen_ok, eqGuard_dat, neq_dat X Y hX hY, hb]
    exact hK _ _ h
end
set_option maxRecDepth 100000 in
theorem cut_any (d : List UInt8) (hd : d.length = 32) (n : Int) (w : World) :
    Calls Tryd.prog 72 #[.agg (dat d), .int .i64 n] w fun e w' => e = .returned (.agg (dat (cutL d n))) ∧ Below w.heap.size w w' := by
  have ed : (d.map v8).toArray = arr 32 (fun p => d.getD p 0) := by rw [arr_list, hd]
  show Calls _ _ #[.agg (arr 32 fun p => d.getD p 0), .int .i64 n] _ _
  go_enter Tryd.func72, Tryd.ntmps72
  go_wp2
  refine wp_at (fun W => Blk W w.heap.size 38 (arr 32 fun p => d.getD p 0) ∧ Blk W (w.heap.size + 1) 38 (arr 32 fun _ => 0) ∧ Blk W (w.heap.size + 2) 38 (arr 32 fun _ => 0) ∧ Below w.heap.size w W)
    ⟨((Blk.new w _ _).alloc _).alloc _, ?_, ?_, (((Below.refl _ _).alloc (Nat.le_refl _) _).alloc (by simp) _).alloc (by simp; omega) _⟩ ?_
  · refine Blk.alloc ?_ _
    rw [show w.heap.size + 1 = (w.alloc (Obj.cells (arr 32 fun p => d.getD p 0) 38)).heap.size by simp]
    exact Blk.new _ _ _
  · rw [show w.heap.size + 2 = ((w.alloc (Obj.cells (arr 32 fun p => d.getD p 0) 38)).alloc (Obj.cells (arr 32 fun _ => 0) 38)).heap.size by simp]
    exact Blk.new _ _ _
  intro W ⟨hA, hB, hC, hbel⟩
  refine wp_region_quiet_tail 5 (fun W' => ∃ n, W' = W.drewN n) (by kernel_rfl) (by kernel_rfl) ⟨1, rfl⟩ ?_
  simp only [List.take_succ_cons, List.take_zero, List.drop_succ_cons, List.drop_zero]
  repeat (go_big_quiet_step (fail))
  obtain ⟨m, hm⟩ : ∃ m : Nat, m = min n.toNat 32 := ⟨_, rfl⟩
  have hm32 : m ≤ 32 := by omega
  rw [show (if 32 < if n < 0 then 0 else n then 32 else if n < 0 then 0 else n) = (m : Int) by split <;> (try split) <;> omega]
  have Hm := Lib.hid hm
  clear hm
  generalize (if n < 0 then 0 else n) = n8'
  have hsl : ∀ wx, (Instr.sliceAt 38 (.pointer (some ⟨w.heap.size, 0, none⟩)) none (some (.int .i64 (m : Int))) none).run Tryd.prog wx = .ok (.slice (some ⟨w.heap.size, 0, none⟩) m 32) wx := fun wx =>
    run_sliceAt_array_hh (P := Tryd.prog) (w := wx) ⟨w.heap.size, 0, none⟩ Tryd.underlying38 (by kernel_rfl) .i64 (m : Int) (by omega) (by omega)
  repeat (go_big_quiet_step (fail))
  refine wpQuiet_nil ?_
  intro W' hW'
  obtain ⟨nq, rfl⟩ := hW'
  have e1 := copied_arr 32 (fun _ => 0) 0 (d.take m) 32 (by rw [List.length_take, hd]; show 0 + min (min m 32) 32 ≤ 32; omega)
  have e2 : (d.take m).length = m := by rw [List.length_take, hd]; omega
  rw [e2] at e1
  have hrd : Reads (W.drewN nq) (w.heap.size + 1) (some ⟨w.heap.size, 0, none⟩) ((d.take m).map v8) := by
    have := (Reads.of_blk (hA.drewN nq) (by omega : w.heap.size < w.heap.size + 1) 0).take m
    rw [List.map_take]
    rw [← ed] at this
    simpa using this
  refine wpList_copyR rfl (.tmp 6) (.tmp 10) _ _ rfl 5 Tryd.underlying23 (by kernel_rfl) (w.heap.size + 2) 0 32 32 _ _ _ rfl rfl _ _ (hC.drewN nq) _ _ hrd (by rw [List.length_map, e2]) (by rw [arr_size]; show 0 + min m 32 ≤ 32; omega) (oneCell_v8 _) ?_
  intro W2 hC2 hon2
  rw [e1] at hC2
  have hB2 := (hB.drewN nq).grown hon2 (by simp)
  have hb2 := below_only (below_drewN hbel nq) hon2 (by omega) hbel.size
  go_wp2_with (first
    | (refine wpList_load_row rfl 38 (.tmp 5) rfl (w.heap.size + 2) rfl _ _ _ _ hC2 Tryd.underlying38 rfl (by kernel_rfl) ?_)
    | (refine wpList_storeArr rfl rfl 38 (.tmp 4) (.tmp 12) rfl (w.heap.size + 1) rfl 32 _ _ rfl _ hB2 (by kernel_rfl) ?_; intro w6 hR6 hon6))
  have hb6 := below_only hb2 hon6 (by omega) hb2.size
  refine bodyPost_ret (results_cell_row (p := 4) (ty := 38) rfl _ _ (w.heap.size + 1) _ _ _ _ rfl hR6 Tryd.underlying38 rfl (by kernel_rfl)) rfl ⟨?_, hb6⟩
  rw [dat_eq _ (cutL_length d n hd), cutL_arr d n hd]
  congr 2
  apply arr_congr
  intro p hp
  have := Hm.out
  show (if 0 ≤ p ∧ p < 0 + min m 32 then (d.take m).getD (p - 0) 0 else 0) = _
  by_cases h : (p : Int) < n
  · rw [if_pos h, if_pos (show 0 ≤ p ∧ p < 0 + min m 32 by omega), Nat.sub_zero, List.getD_eq_getElem?_getD, List.getElem?_take, if_pos (by omega)]; rfl
  · rw [if_neg h, if_neg (show ¬ (0 ≤ p ∧ p < 0 + min m 32) by omega)]
theorem take_flat (ls : List (List UInt8)) (k : Nat) (hk : k < ls.length) : (ls.take (k + 1)).flatten = (ls.take k).flatten ++ ls.getD k [] := by
  rw [List.take_succ_eq_append_getElem hk, List.flatten_append]
  simp [hk]
theorem flat_le (ls : List (List UInt8)) (k : Nat) : (ls.take k).flatten.length ≤ ls.flatten.length := by
  conv => rhs; rw [← List.take_append_drop k ls]
  rw [List.flatten_append, List.length_append]; omega
theorem join_any (v : Value) (ls : List (List UInt8)) (w : World) (h : SSl w w.heap.size v ls) (hlen : ls.flatten.length ≤ 140737488355328) :
    Calls Tryd.prog 60 #[v] w fun e w' => ∃ u, e = .returned u ∧ w'.ownsRow w.heap.size 5 1 u ls.flatten.length (ls.flatten.map v8) ∧ Below w.heap.size w w' := by
  obtain ⟨i0, hi, hz0, hz1, hz2⟩ := info_parts (by kernel_rfl : (Tryd.prog.info? 5).map (fun i => (i.zero, i.size, i.bytes)) = some (some (.int .u8 0), 1, 1))
  obtain ⟨A, cap, vs, rfl, hc1, hc2, hr, hvl, hel⟩ := h
  go_enter Tryd.func60, Tryd.ntmps60
  go_wp2
  go_loopw [3, 5, 8] (fun u _ i wr => ∃ k : Nat, k ≤ ls.length ∧ i = .int .i64 k ∧ wr.ownsRow w.heap.size 5 1 u ((ls.take k).flatten.map v8).length ((ls.take k).flatten.map v8) ∧ Below w.heap.size w wr) (fun _ _ i _ => ls.length - (intOf i).toNat)
  case atStart => exact ⟨0, by omega, rfl, by simpa using World.ownsRow_nil _ _ _ _, Below.refl _ _⟩
  case round =>
    obtain ⟨k, hk, rfl, hown, hbel⟩ := hrel
    by_cases hlt : k < ls.length
    · obtain ⟨b, off, rfl, hb, hc⟩ := hr (by omega)
      have hvk : vs[k]? = some (vs.getD k undef) := by rw [List.getD_eq_getElem?_getD, List.getElem?_eq_getElem (by omega)]; rfl
      obtain ⟨A2, cap2, e2, hc21, hc22, hr2⟩ := hel k hlt
      rw [e2] at hvk
      have cv : wr.cell? ⟨b, off + k, none⟩ = some (.slice A2 (ls.getD k []).length cap2) := (hbel.cell (p := ⟨b, off + k, none⟩) hb).trans (hc k _ hvk)
      have hr3 := hr2.below hbel
      have hL1 := flat_le ls (k + 1)
      rw [take_flat ls k hlt, List.length_append] at hL1
      obtain ⟨x, hx⟩ : ∃ x, x = ls.getD k [] := ⟨_, rfl⟩
      rw [← hx] at cv hr3 hL1
      have Hx := Lib.hid hx
      have He2 := Lib.hid e2
      clear hx hvk hr2 hc21 e2
      have hlx : ((ls.take k).flatten.map v8).length = (ls.take k).flatten.length := List.length_map ..
      go_wp2_with (first
        | (at_builtin; refine wpList_appendR rfl (.tmp 12) (.tmp 13) _ rfl w.heap.size 5 i0 _ 1 Tryd.underlying23 hi hz0 hz1 hz2 rfl _ _ rfl hown _ A2 _ _ _ rfl hr3 (by rw [List.length_map]) (oneCell_v8 _) (by unfold maxLen; omega) (by omega) hbel.size ?_; intro u1 w1 hown1 hg1 hat1))
      have hg2 : wr.grownBy w1 u3.ownBlock := hg1
      go_roundw
      case rel =>
        refine ⟨k + 1, by omega, by go_num, ?_, below_own hbel hown hg2 hbel.size⟩
        rw [take_flat ls k hlt, List.map_append, ← Hx.out]
        exact hown1
      case measure => simp [intOf]; omega
    · have ek : k = ls.length := by omega
      rw [ek, List.take_length] at hown
      clear ek
      go_wp2
      go_ret
      rw [List.length_map] at hown
      exact ⟨u3, rfl, hown, hbel⟩
end Go.Proofs.YtcdkadidkkbhpaaDoor

/- The walks of the reference's primes, New. No condition. -/
namespace Go.Proofs.YtcdkadidkkbhpaaDoor
open Go.RowKit
/-- the k-th number that is tried -/
def pN (k : Nat) : UInt64 := UInt64.ofNat (k + 2)
theorem pN_val (k : Nat) (h : k ≤ 1000) : n64 (pN k) = (k : Int) + 2 := by
  unfold n64 pN; rw [UInt64.toNat_ofNat_of_lt' (by show _ < 18446744073709551616; omega)]; omega
theorem pN_nz (k : Nat) (h : k ≤ 1000) : pN k ≠ 0 := fun e => by
  have h1 := pN_val k h
  rw [e] at h1
  have h2 : n64 0 = 0 := rfl
  omega
/-- the primes below k + 2 -/
def pl : Nat → List UInt64
  | 0 => []
  | k + 1 => if (pl k).all (fun q => pN k % q != 0) then pl k ++ [pN k] else pl k
theorem pl_mono : ∀ (k d : Nat), (pl k).length ≤ (pl (k + d)).length
  | k, 0 => Nat.le_refl _
  | k, d + 1 => Nat.le_trans (pl_mono k d) (by
      show (pl (k + d)).length ≤ (pl (k + d + 1)).length
      rw [pl]; split
      · simp
      · exact Nat.le_refl _)
theorem pl_succ (k : Nat) : pl (k + 1) = if (pl k).all (fun q => pN k % q != 0) then pl k ++ [pN k] else pl k := rfl
theorem pl_309 : (pl 309).length = 63 := by decide +kernel
theorem pl_310 : pl 310 = primeL := by decide +kernel
theorem pl_lt (k : Nat) (h : k < 310) : (pl k).length < 64 := by
  have := pl_mono k (309 - k)
  rw [show k + (309 - k) = 309 by omega, pl_309] at this; omega
theorem pl_nz : ∀ k, k ≤ 310 → ∀ x ∈ pl k, x ≠ 0
  | 0, _, _, h => by simp [pl] at h
  | k + 1, hk, x, h => by
    rw [pl] at h
    split at h
    · rcases List.mem_append.1 h with h | h
      · exact pl_nz k (by omega) x h
      · rw [List.mem_singleton] at h
        subst h
        exact pN_nz k (by omega)
    · exact pl_nz k (by omega) x h
/-- the inner loop's flag -/
def isP (l : List UInt64) (p : UInt64) : Nat → Bool
  | 0 => true
  | i + 1 => isP l p i && p % l.getD i 0 != 0
theorem isP_all (l : List UInt64) (p : UInt64) : ∀ i, i ≤ l.length → isP l p i = (l.take i).all (fun q => p % q != 0)
  | 0, _ => by simp [isP]
  | i + 1, h => by
    rw [isP, isP_all l p i (by omega), List.take_succ_eq_append_getElem (by omega), List.all_append, List.getD_eq_getElem?_getD, List.getElem?_eq_getElem (by omega)]
    simp
theorem wrap_mod64 (x y : UInt64) : IntKind.u64.wrap ((n64 x).tmod (n64 y)) = n64 (x % y) := by
  rw [wrap_u64', Int.tmod_eq_emod_of_nonneg (n64_lo _)]
  unfold n64
  rw [UInt64.toNat_mod]
  have := Nat.mod_le x.toNat y.toNat
  have := x.toNat_lt
  omega
theorem tmod64 (x y : UInt64) : (n64 x).tmod (n64 y) = n64 (x % y) := by
  rw [Int.tmod_eq_emod_of_nonneg (n64_lo _)]
  unfold n64
  rw [UInt64.toNat_mod]; rfl
theorem n64_bne0 (z : UInt64) : (n64 z != 0) = (z != 0) := by
  by_cases h : z = 0
  · subst h; rfl
  · have : n64 z ≠ 0 := fun e => h (n64_inj (by rw [e]; rfl))
    rw [bne_iff_ne.2 this, bne_iff_ne.2 h]
theorem Reads.own {w : World} {base : Nat} {e : TypeId} {n : Nat} {v : Value} {xs : List Value} (h : w.ownsRow base e 1 v n xs) : ∃ A cap, v = .slice A n cap ∧ n ≤ cap ∧ cap ≤ 9223372036854775807 ∧ Reads w w.heap.size A xs := by
  rcases h.2 with ⟨rfl, h0⟩ | ⟨g, cap, cur, hv, _, _, hnc, hcap, _, _⟩
  · subst h0
    have : xs = [] := List.eq_nil_of_length_eq_zero (by have := h.1; omega)
    subst this
    exact ⟨none, 0, rfl, Nat.le_refl _, by decide, Reads.nil_⟩
  · subst hv
    exact ⟨_, cap, rfl, hnc, hcap, Reads.of_own h⟩
theorem own_none (w : World) (base : Nat) (e : TypeId) : w.ownsRow base e 1 (.slice none 0 0) ([] : List Value).length [] := ⟨rfl, .inl ⟨rfl, rfl⟩⟩
attribute [local go_sem] and64_c wrap_n64 wrap_mod64 wrap_add64 wrap_sub64 n64_lo n64_hi
theorem own_below {w w' : World} {base : Nat} {e : TypeId} {size n : Nat} {v : Value} {xs : List Value} (h : w.ownsRow base e size v n xs) (hb : Below w.heap.size w w') : w'.ownsRow base e size v n xs := by
  refine ⟨h.1, ?_⟩
  rcases h.2 with h0 | ⟨g, cap, cur, hv, hbs, hh, hrest⟩
  · exact .inl h0
  · exact .inr ⟨g, cap, cur, hv, hbs, Blk.below (show Blk w g e cur from hh) hb (Blk.lt (show Blk w g e cur from hh)), hrest⟩
set_option maxRecDepth 100000 in
theorem primes_any (w : World) :
    Calls Tryd.prog 61 #[.int .i64 64] w fun e w' => ∃ v, e = .returned v ∧ w'.ownsRow w.heap.size 27 1 v 64 (primeL.map v64) ∧ Below w.heap.size w w' := by
  obtain ⟨i0, hi, hz0, hz1, hz2⟩ := info_parts (by kernel_rfl : (Tryd.prog.info? 27).map (fun i => (i.zero, i.size, i.bytes)) = some (some (.int .u64 0), 1, 8))
  go_enter Tryd.func61, Tryd.ntmps61
  go_wp2
  go_loopw [3, 4] (fun v p wr => ∃ k : Nat, k ≤ 310 ∧ wr.ownsRow w.heap.size 27 1 v ((pl k).map v64).length ((pl k).map v64) ∧ p = .int .u64 (n64 (pN k)) ∧ Below w.heap.size w wr) (fun _ p _ => 400 - (intOf p).toNat)
  case atStart => exact ⟨0, by omega, own_none _ _ _, rfl, Below.refl _ _⟩
  case round =>
    obtain ⟨k, hk, hown, rfl, hbel⟩ := hrel
    obtain ⟨A, cap, rfl, hc1, hc2, hr⟩ := Reads.own hown
    rw [List.length_map] at *
    by_cases hlt : k < 310
    · have hl := pl_lt k hlt
      have hnz := pl_nz k (by omega)
      have hpl := pl_succ k
      have hall := isP_all (pl k) (pN k) (pl k).length (Nat.le_refl _)
      rw [List.take_length] at hall
      rw [← hall] at hpl
      have hpb := pN_val k (by omega)
      have hpb' := pN_val (k + 1) (by omega)
      have hnx : n64 (pN k) + 1 = n64 (pN (k + 1)) := by rw [hpb, hpb']; omega
      clear hall
      have Hpl := Lib.hid hpl
      have Hpb := Lib.hid (And.intro hpb hpb')
      clear hpl hpb hpb'
      go_wp2_with fail
      go_loopw [5, 6] (fun b iv wr' => ∃ i : Nat, i ≤ (pl k).length ∧ iv = .int .i64 i ∧ b = .bool (isP (pl k) (pN k) i) ∧ wr' = wr) (fun _ iv _ => (pl k).length - (intOf iv).toNat)
      case atStart => exact ⟨0, by omega, rfl, rfl, rfl⟩
      case round =>
        obtain ⟨i, hil, rfl, rfl, rfl⟩ := hrel
        by_cases hi' : i < (pl k).length
        · obtain ⟨g, off, rfl, hg, hc⟩ := hr (by rw [List.length_map]; omega)
          have cq := hc i _ (v64_at (pl k) i hi')
          have hq0 : n64 ((pl k).getD i 0) ≠ 0 := by
            have h9 := hnz ((pl k).getD i 0) (by rw [List.getD_eq_getElem?_getD, List.getElem?_eq_getElem hi']; exact List.getElem_mem _)
            intro e; exact h9 (n64_inj (by rw [e]; rfl))
          have e1 : isP (pl k) (pN k) (i + 1) = (isP (pl k) (pN k) i && (pN k % (pl k).getD i 0 != 0)) := rfl
          have He := Lib.hid e1
          clear e1 hc hnz hown hr
          generalize hqq : (pl k).getD i 0 = q at *
          have Hqq := Lib.hid hqq
          clear hqq
          cases hb : isP (pl k) (pN k) i with
          | true =>
            have Hb := Lib.hid hb
            clear hb
            go_wp2_with fail
            go_roundw
            case rel =>
              refine ⟨i + 1, by omega, by go_num, ?_, by trivial⟩
              rw [He.out, Hb.out, tmod64, n64_bne0, Bool.true_and]
            case measure => simp [intOf]; omega
          | false =>
            have Hb := Lib.hid hb
            clear hb
            go_wp2_with fail
            go_roundw
            case rel => exact ⟨i + 1, by omega, by go_num, by rw [He.out, Hb.out]; rfl, by trivial⟩
            case measure => simp [intOf]; omega
        · have ei : i = (pl k).length := by omega
          subst ei
          have s1 := Lib.hid (show ((pl k).map v64).length + 1 ≤ maxLen by unfold maxLen; simp; omega)
          have s2 := Lib.hid (show (((pl k).map v64).length + 1) * 8 ≤ 140737488355328 by simp; omega)
          have hownA : wr.ownsRow w.heap.size 27 1 (.slice A (pl k).length cap) ((pl k).map v64).length ((pl k).map v64) := by rw [List.length_map]; exact hown
          clear hown
          cases hb : isP (pl k) (pN k) (pl k).length with
          | true =>
            have e2 := Hpl.out
            rw [hb, if_pos rfl] at e2
            have He := Lib.hid e2
            have Hb := Lib.hid hb
            clear hb e2
            go_wp2_with (first
              | (at_builtin; refine wpList_appendR rfl (.tmp 30) (.tmp 32) _ rfl w.heap.size 27 i0 _ 8 Tryd.underlying127 hi hz0 hz1 hz2 rfl _ _ rfl (own_below hownA (below_new1 wr _)) (wr.heap.size + 1) (some ⟨wr.heap.size, 0, none⟩) 1 1 [v64 (pN k)] rfl (show Reads (wr.alloc (Obj.cells #[v64 (pN k)] 27)) (wr.heap.size + 1) (some ⟨wr.heap.size, 0, none⟩) [v64 (pN k)] from Reads.of_blk (Blk.new wr 27 #[v64 (pN k)]) (by omega) 0) rfl (fun u hu => by rw [List.mem_singleton] at hu; subst hu; rfl) s1.out s2.out (Nat.le_trans hbel.size (below_new1 wr _).size) ?_; intro u1 w1 hown1 hg1 hat1; have hb1 := below_own (hbel.trans ((below_new1 wr _).mono hbel.size)) (own_below hownA (below_new1 wr _)) hg1 (Nat.le_trans hbel.size (below_new1 wr _).size)))
            go_roundw
            case rel =>
              refine ⟨k + 1, by omega, ?_, rfl, hb1⟩
              rw [He.out, List.map_append]; exact hown1
            case measure => have := Hpb.out; simp only [intOf]; omega
          | false =>
            have e2 := Hpl.out
            rw [hb, if_neg (by simp)] at e2
            have He := Lib.hid e2
            have Hb := Lib.hid hb
            clear hb e2
            go_wp2_with fail
            go_roundw
            case rel =>
              refine ⟨k + 1, by omega, ?_, rfl, hbel⟩
              rw [He.out]; exact hownA
            case measure => have := Hpb.out; simp only [intOf]; omega
    · have ek : k = 310 := by omega
      subst ek
      rw [pl_310] at *
      have hpl : primeL.length = 64 := rfl
      rw [hpl] at *
      clear hpl
      go_wp2
      go_ret
      exact ⟨_, rfl, hown, hbel⟩
theorem arr_table : (List.replicate 72 (Value.int .u32 0)).toArray = (((List.replicate 64 (0 : UInt32)) ++ (List.replicate 8 (0 : UInt32))).map v32).toArray := by rfl
end Go.Proofs.YtcdkadidkkbhpaaDoor

/- The walk of the reference's New. No condition. -/
namespace Go.Proofs.YtcdkadidkkbhpaaDoor
open Go.RowKit
/-- the table: K, then H -/
def tabL : List UInt32 := K0 ++ H0.list
/-- the table while it is filled -/
def tabK (k : Nat) : List UInt32 := K0.take k ++ List.replicate (72 - k) 0
def tabH (k : Nat) : List UInt32 := K0 ++ (H0.list.take k ++ List.replicate (8 - k) 0)
theorem tabK_len : ∀ k, k ≤ 64 → (tabK k).length = 72 := by decide +kernel
theorem tabK_set : ∀ k, k < 64 → (tabK k).set k (K0.getD k 0) = tabK (k + 1) := by decide +kernel
theorem tabH_len : ∀ k, k ≤ 8 → (tabH k).length = 72 := by decide +kernel
theorem tabH_set : ∀ k, k < 8 → (tabH k).set (64 + k) (H0.list.getD k 0) = tabH (k + 1) := by decide +kernel
theorem tabK_64 : tabK 64 = tabH 0 := by decide +kernel
theorem tabH_8 : tabH 8 = tabL := by decide +kernel
/-- v points at the table -/
def Tbl (w : World) (B : Nat) (v : Value) : Prop := ∃ g, v = .pointer (some ⟨g, 0, none⟩) ∧ g < B ∧ Blk w g 126 (tabL.map v32).toArray
set_option maxRecDepth 100000 in
theorem new_at (w : World) : Calls Tryd.prog 38 #[] w fun e w' => e = .returned (.pointer (some ⟨w.heap.size, 0, none⟩)) ∧ Blk w' w.heap.size 126 (tabL.map v32).toArray ∧ Below w.heap.size w w' := by
  go_enter Tryd.func38, Tryd.ntmps38
  have hzv : ∀ w, (zeroValue 126).run Tryd.prog w = .ok (.agg (((tabK 0).map v32).toArray)) w := fun _ => by kernel_rfl
  go_wp2_with fail
  refine (primes_any _).mono ?_
  rintro e w1 ⟨v1, rfl, hown, hb1⟩
  have hT := (Blk.new w 126 ((tabK 0).map v32).toArray).below hb1 (Blk.new w 126 ((tabK 0).map v32).toArray).lt
  have hbel := (below_new1 w (Obj.cells ((tabK 0).map v32).toArray 126)).trans (hb1.mono (below_new1 w _).size)
  obtain ⟨A, cap, rfl, hc1, hc2, hr⟩ := Reads.own hown
  obtain ⟨bb, off, rfl, hbb, hcb⟩ := hr (by decide)
  have hne : w.heap.size < bb := by
    have := own_ge hown bb rfl
    have h2 : (w.alloc (Obj.cells ((tabK 0).map v32).toArray 126)).heap.size = w.heap.size + 1 := by simp
    omega
  have hcb1 : ∀ j, j < 64 → w1.cell? ⟨bb, off + j, none⟩ = some (.int .u64 (n64 (primeL.getD j 0))) := fun j hj => hcb j _ (v64_at primeL j hj)
  clear hr hcb hown hb1 hzv
  go_wp2_with fail
  go_loopw [3] (fun iv wr => ∃ k : Nat, k ≤ 64 ∧ iv = .int .i64 k ∧ Blk wr w.heap.size 126 ((tabK k).map v32).toArray ∧ (∀ j, j < 64 → wr.cell? ⟨bb, off + j, none⟩ = some (.int .u64 (n64 (primeL.getD j 0)))) ∧ bb < wr.heap.size ∧ Below w.heap.size w wr) (fun iv _ => 64 - (intOf iv).toNat)
  case atStart => exact ⟨0, by omega, rfl, hT, hcb1, hbb, hbel⟩
  case round =>
    clear hT hcb1 hbb hbel
    obtain ⟨k, hk, rfl, hT, hcb, hbb, hbel⟩ := hrel
    by_cases hlt : k < 64
    · have cp : ∀ e, (plus wr e).cell? ⟨bb, off + k, none⟩ = some (.int .u64 (n64 (primeL.getD k 0))) := fun e => ((plus_below wr e).cell (p := ⟨bb, _, none⟩) hbb).trans (hcb k hlt)
      have hroot := root_K k hlt
      have hset := tabK_set k hlt
      have hlen := tabK_len k hk
      generalize primeL.getD k 0 = p at cp hroot
      generalize K0.getD k 0 = kv at hroot hset
      have Hset := Lib.hid hset
      clear hset
      go_wp2_with fail
      refine wp_region_quiet_tail_plus 10 (by kernel_rfl) (by kernel_rfl) ?_
      simp only [List.take_succ_cons, List.take_zero, List.drop_succ_cons, List.drop_zero]
      repeat (go_big_quiet_step ((go_at_call 62; exact calls_plus (hroot _))))
      refine wpQuiet_nil ?_
      rintro _ ⟨e5, rfl⟩
      have hT5 := hT.plus e5
      have hbel5 := hbel.trans ((plus_below wr e5).mono hbel.size)
      have hbb5 : bb < (plus wr e5).heap.size := Nat.lt_of_lt_of_le hbb (plus_below wr e5).size
      have hcb5 : ∀ j, j < 64 → (plus wr e5).cell? ⟨bb, off + j, none⟩ = some (.int .u64 (n64 (primeL.getD j 0))) := fun j hj => ((plus_below wr e5).cell (p := ⟨bb, _, none⟩) hbb).trans (hcb j hj)
      clear cp hcb hT hbel hbb hroot
      generalize plus wr e5 = w5 at hT5 hbel5 hbb5 hcb5 ⊢
      go_wp2_with (first
        | (refine wpList_store1 rfl rfl 22 (.tmp 21) (.tmp 18) rfl w.heap.size k rfl (v32 kv) rfl _ _ hT5 (by kernel_rfl) (by simp; omega) rfl rfl ?_; intro w6 hT6 hon6))
      have hbel6 := below_only hbel5 hon6 (Nat.le_refl _) hbel5.size
      have hbb6 : bb < w6.heap.size := Nat.lt_of_lt_of_le hbb5 hon6.size
      have hcb6 : ∀ j, j < 64 → w6.cell? ⟨bb, off + j, none⟩ = some (.int .u64 (n64 (primeL.getD j 0))) := fun j hj => hon6.cell (hcb5 j hj) (by simp; omega)
      clear hcb5
      go_roundw
      case rel =>
        refine ⟨k + 1, by omega, by go_num, ?_, hcb6, hbb6, hbel6⟩
        rw [← Hset.out, List.map_set]
        rw [List.setIfInBounds_toArray] at hT6
        exact hT6
      case measure => simp [intOf]; omega
    · have ek : k = 64 := by omega
      subst ek
      rw [tabK_64] at hT
      go_wp2_with fail
      go_loopw [4] (fun iv wr => ∃ k : Nat, k ≤ 8 ∧ iv = .int .i64 k ∧ Blk wr w.heap.size 126 ((tabH k).map v32).toArray ∧ (∀ j, j < 64 → wr.cell? ⟨bb, off + j, none⟩ = some (.int .u64 (n64 (primeL.getD j 0)))) ∧ bb < wr.heap.size ∧ Below w.heap.size w wr) (fun iv _ => 8 - (intOf iv).toNat)
      case atStart => exact ⟨0, by omega, rfl, hT, hcb, hbb, hbel⟩
      case round =>
        clear hT hcb hbb hbel
        obtain ⟨k, hk, rfl, hT, hcb, hbb, hbel⟩ := hrel
        by_cases hlt : k < 8
        · have cp : ∀ e, (plus wr e).cell? ⟨bb, off + k, none⟩ = some (.int .u64 (n64 (primeL.getD k 0))) := fun e => ((plus_below wr e).cell (p := ⟨bb, _, none⟩) hbb).trans (hcb k (by omega))
          have hroot := root_H k hlt
          have hset := tabH_set k hlt
          have hlen := tabH_len k hk
          generalize primeL.getD k 0 = p at cp hroot
          generalize H0.list.getD k 0 = kv at hroot hset
          have Hset := Lib.hid hset
          clear hset
          go_wp2_with fail
          refine wp_region_quiet_tail_plus 10 (by kernel_rfl) (by kernel_rfl) ?_
          simp only [List.take_succ_cons, List.take_zero, List.drop_succ_cons, List.drop_zero]
          repeat (go_big_quiet_step ((go_at_call 62; exact calls_plus (hroot _))))
          refine wpQuiet_nil ?_
          rintro _ ⟨e5, rfl⟩
          have hT5 := hT.plus e5
          have hbel5 := hbel.trans ((plus_below wr e5).mono hbel.size)
          have hbb5 : bb < (plus wr e5).heap.size := Nat.lt_of_lt_of_le hbb (plus_below wr e5).size
          have hcb5 : ∀ j, j < 64 → (plus wr e5).cell? ⟨bb, off + j, none⟩ = some (.int .u64 (n64 (primeL.getD j 0))) := fun j hj => ((plus_below wr e5).cell (p := ⟨bb, _, none⟩) hbb).trans (hcb j hj)
          clear cp hcb hT hbel hbb hroot
          generalize plus wr e5 = w5 at hT5 hbel5 hbb5 hcb5 ⊢
          go_wp2_with (first
            | (refine wpList_store1 rfl rfl 22 (.tmp 35) (.tmp 32) rfl w.heap.size (64 + k) rfl (v32 kv) rfl _ _ hT5 (by kernel_rfl) (by simp; omega) rfl rfl ?_; intro w6 hT6 hon6))
          have hbel6 := below_only hbel5 hon6 (Nat.le_refl _) hbel5.size
          have hbb6 : bb < w6.heap.size := Nat.lt_of_lt_of_le hbb5 hon6.size
          have hcb6 : ∀ j, j < 64 → w6.cell? ⟨bb, off + j, none⟩ = some (.int .u64 (n64 (primeL.getD j 0))) := fun j hj => hon6.cell (hcb5 j hj) (by simp; omega)
          clear hcb5
          go_roundw
          case rel =>
            refine ⟨k + 1, by omega, by go_num, ?_, hcb6, hbb6, hbel6⟩
            rw [← Hset.out, List.map_set]
            rw [List.setIfInBounds_toArray] at hT6
            exact hT6
          case measure => simp [intOf]; omega
        · have ek : k = 8 := by omega
          subst ek
          rw [tabH_8] at hT
          go_wp2_with fail
          go_ret
          exact ⟨rfl, hT, hbel⟩
theorem new_any (w : World) : Calls Tryd.prog 38 #[] w fun e w' => ∃ v, e = .returned v ∧ Tbl w' w'.heap.size v ∧ Below w.heap.size w w' :=
  (new_at w).mono fun _ _ ⟨h1, h2, h3⟩ => ⟨_, h1, ⟨_, rfl, h2.lt, h2⟩, h3⟩
end Go.Proofs.YtcdkadidkkbhpaaDoor
