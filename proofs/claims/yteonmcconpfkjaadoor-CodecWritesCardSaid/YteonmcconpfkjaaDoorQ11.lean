/- Texts that stand behind one another: RdD, RdE, Str, StrEq, StrA. No condition. -/
import Derived.Test.YteonmcconpfkjaaDoorQ10
import Derived.Test.YteonmcconpfkjaaDoorQ6
import Derived.Test.YteonmcconpfkjaaDoorQ1
import Derived.Laws.BytesArg
import Derived.Laws.StructEq
/- The walks of codec's Reader: Digest, End. No condition. -/
namespace Go.Proofs.YteonmcconpfkjaaDoor
open Go Go.RowKit
attribute [local irreducible] mixW
attribute [local go_sem] n8_lo n8_hi n64_lo n64_hi
theorem digest_arr (xs : List UInt8) (h : xs = [] ∨ xs.length = 32) : copied (arr 32 fun _ => 0) 0 (xs.map v8) 32 = dat (if xs = [] then List.replicate 32 0 else xs) := by
  rw [copied_arr 32 (fun _ => 0) 0 xs 32 (by have : Nat.min xs.length 32 ≤ 32 := Nat.min_le_right _ _; omega)]
  unfold dat
  apply arr_congr
  intro p hp
  rcases h with h | h
  · subst h
    rw [if_neg (by show ¬ (0 ≤ p ∧ p < 0 + Nat.min 0 32); simp), if_pos rfl, List.getD_eq_getElem?_getD, List.getElem?_replicate, if_pos hp]; rfl
  · have hne : xs ≠ [] := by intro e; rw [e] at h; simp at h
    have e : Nat.min xs.length 32 = 32 := by rw [h]; rfl
    rw [if_pos (by rw [e]; omega), if_neg hne]; rfl
set_option maxHeartbeats 1000000 in
set_option maxRecDepth 100000 in
theorem rdDigest_any (w : World) (B g : Nat) (s : RdL) (hR : Rdr w B g s) (hB : B ≤ w.heap.size) :
    Calls Tryd.prog 83 #[.pointer (some ⟨g, 0, none⟩)] w fun e w' => e = .returned (.agg (dat s.digest.1)) ∧ Rdr w' B g s.digest.2 ∧ w.grownBy w' (some g) := by
  have hZ := (Blk.new w 43 (arr 32 fun _ => 0)).alloc (Obj.cells (arr 32 fun _ => 0) 43)
  have hY := Blk.new2 w (Obj.cells (arr 32 fun _ => 0) 43) 43 (arr 32 fun _ => 0)
  have hb2 := (below_new1 w (Obj.cells (arr 32 fun _ => 0) 43)).alloc (below_new1 w (Obj.cells (arr 32 fun _ => 0) 43)).size (Obj.cells (arr 32 fun _ => 0) 43)
  have hgl : g < w.heap.size := by obtain ⟨A, c, q, b1, b2, _⟩ := id hR; exact b2.lt
  have H0 := Lib.hid (And.intro hZ (And.intro hY (And.intro (hR.below hb2) hb2)))
  have hs2 := hb2.size
  clear hR hZ hY hb2
  go_enter Tryd.func83, Tryd.ntmps83
  go_upto_region 2 with fail
  refine wp_at (fun W => Blk W w.heap.size 43 (arr 32 fun _ => 0) ∧ Blk W (w.heap.size + 1) 43 (arr 32 fun _ => 0) ∧ Rdr W B g s ∧ Below w.heap.size w W) H0.out ?_
  clear H0 hs2
  rintro W ⟨hZ, hY, hR, hb2⟩
  refine wp_region_mix (.plain 0 <| .plain 1 <| .only 2 <| .only 3 <| .done) (fun _ => True) (by kernel_rfl) (by kernel_rfl) trivial ?_
  have hb1 := below_drewN (Below.refl W.heap.size W) 1
  refine mix_atC (fun V => Blk V w.heap.size 43 (arr 32 fun _ => 0) ∧ Blk V (w.heap.size + 1) 43 (arr 32 fun _ => 0) ∧ Rdr V B g s ∧ Below w.heap.size w V) ⟨hZ.drewN 1, hY.drewN 1, hR.below hb1, below_drewN hb2 1⟩ ?_
  clear hZ hY hR hb2 hb1
  rintro W1 ⟨hZ, hY, hR, hb2⟩
  have hB1 : B ≤ W1.heap.size := Nat.le_trans hB hb2.size
  iterate 2 (refine mix_plain rfl ?_; go_big_quiet_step ((intros; rfl)); refine wpQuiet_nil ?_)
  refine mix_only_in rfl (fun K hK => ?_)
  have HR := Lib.hid (And.intro hR hb2)
  clear hR hb2
  go_wp2_with fail
  refine (take_any W1 B g s 32 (by decide) HR.out.1 hB1).mono ?_
  rintro e W2 ⟨v, rfl, hv, hR2, hg2⟩
  have hZ2 := hZ.grown hg2 (fun e => by injection e; omega)
  have hY2 := hY.grown hg2 (fun e => by injection e; omega)
  have hlen := s.take_len 32
  have hdg : s.digest = (if (s.take 32).1 = [] then List.replicate 32 0 else (s.take 32).1, (s.take 32).2) := rfl
  obtain ⟨xs, hxs⟩ : ∃ xs, (s.take 32).1 = xs := ⟨_, rfl⟩
  rw [hxs] at hv hlen hdg
  obtain ⟨d, hd⟩ : ∃ d, (if xs = [] then List.replicate 32 (0 : UInt8) else xs) = d := ⟨_, rfl⟩
  have hcp := digest_arr xs hlen
  rw [hd] at hcp hdg
  have HD := Lib.hid hdg
  have hgw : w.grownBy W2 (some g) := grown_trans (below_grown _ HR.out.2) hg2
  have H2 := Lib.hid (And.intro hR2 hgw)
  have Hcp := Lib.hid hcp
  have Hlen := Lib.hid hlen
  have hsz2 : W1.heap.size ≤ W2.heap.size := hg2.size
  obtain ⟨A, c, rfl, hc1, hc2, hrd⟩ := hv
  clear hR2 hgw hcp hlen hdg hd hxs hg2 hZ hY HR
  go_wp2_with fail
  refine hK _ _ trivial ?_
  clear hK K
  refine mix_only_in rfl (fun K hK => ?_)
  have hmin : Nat.min xs.length 32 ≤ 32 := Nat.min_le_right _ _
  refine wpList_copyR rfl (.tmp 4) (.tmp 6) _ _ rfl 5 Tryd.underlying22 (by kernel_rfl) (w.heap.size + 1) 0 32 32 A xs.length c rfl rfl _ _ hY2 _ _ hrd (by rw [List.length_map]) (by rw [arr_size]; show 0 + min xs.length 32 ≤ 32; omega) (oneCell_v8 _) ?_
  intro W3 hY3 hg3
  rw [Hcp.out] at hY3
  have hZ3 := hZ2.grown hg3 (fun e => by injection e; omega)
  have hR3 := H2.out.1.grown hg3 hY2 (by decide) (by decide) (by omega)
  have hg13 : w.grownBy W3 (some g) := ⟨hg3.os.trans H2.out.2.os, hg3.tape.trans H2.out.2.tape, hg3.output.trans H2.out.2.output, Nat.le_trans H2.out.2.size hg3.size, fun i hi hne => (hg3.block i (Nat.lt_of_lt_of_le hi H2.out.2.size) (fun e => by injection e; omega)).trans (H2.out.2.block i hi hne)⟩
  have H3 := Lib.hid (And.intro hR3 hg13)
  clear hR3 hg13 hg3 hY2 hZ2 hrd H2 hmin
  simp only [Act.put, List.setIfInBounds_toArray, List.set_cons_zero, List.set_cons_succ]
  refine hK _ _ trivial ?_
  clear hK K
  refine mix_done ?_
  go_wp2_with (first
    | (refine wpList_load_row rfl _ (.tmp 3) rfl (w.heap.size + 1) rfl _ _ _ _ hY3 Tryd.underlying43 rfl (by rw [dat_size]; kernel_rfl) ?_)
    | (refine wpList_storeDat rfl rfl 43 (.tmp 2) (.tmp 8) rfl w.heap.size rfl d _ rfl _ hZ3 (by kernel_rfl) ?_; intro W4 hZ4 hg4))
  have hR4 := H3.out.1.grown hg4 hZ3 (by decide) (by decide) (by omega)
  have hg14 : w.grownBy W4 (some g) := ⟨hg4.os.trans H3.out.2.os, hg4.tape.trans H3.out.2.tape, hg4.output.trans H3.out.2.output, Nat.le_trans H3.out.2.size hg4.size, fun i hi hne => (hg4.block i (Nat.lt_of_lt_of_le hi H3.out.2.size) (fun e => by injection e; omega)).trans (H3.out.2.block i hi hne)⟩
  refine bodyPost_ret (results_cell_row (p := 2) (ty := 43) rfl _ _ w.heap.size _ _ _ _ rfl hZ4 Tryd.underlying43 rfl (by rw [dat_size]; kernel_rfl)) rfl ?_
  rw [HD.out]
  exact ⟨rfl, hR4, hg14⟩
end Go.Proofs.YteonmcconpfkjaaDoor

/- The walk of codec's Reader.End. No condition. -/
namespace Go.Proofs.YteonmcconpfkjaaDoor
open Go Go.RowKit
attribute [local irreducible] mixW
attribute [local go_sem] n8_lo n8_hi n64_lo n64_hi
/-- the error that End tells -/
def ErrV (w : World) (B : Nat) (e : Value) : Option (Nat × Nat) → Prop
  | none => e = .nilIface
  | some x => ∃ h, e = .iface 231 (.pointer (some ⟨h, 0, none⟩)) ∧ B ≤ h ∧ Blk w h 236 #[.int .i64 (x.1 : Int), .int .i64 (x.2 : Int)]
theorem ErrV.below {w w' : World} {B : Nat} {e : Value} {o : Option (Nat × Nat)} (h : ErrV w B e o) (hb : Below w.heap.size w w') : ErrV w' B e o := by
  cases o with
  | none => exact h
  | some x => obtain ⟨k, e, hB, hk⟩ := h; exact ⟨k, e, hB, hk.below hb hk.lt⟩
set_option maxHeartbeats 1000000 in
set_option maxRecDepth 100000 in
theorem rdEnd_any (w : World) (B g : Nat) (s : RdL) (hR : Rdr w B g s) :
    Calls Tryd.prog 72 #[.pointer (some ⟨g, 0, none⟩)] w fun e w' => ∃ v, e = .returned v ∧ ErrV w' w.heap.size v s.stop ∧ Below w.heap.size w w' := by
  obtain ⟨A, c, q, b1, b2, b3, b4, b5, b6⟩ := id hR
  have hk2 : w.cell? ⟨g, 2, none⟩ = some q := b2.cell 2
  obtain ⟨y, hy⟩ : ∃ y, s.stop = y := ⟨_, rfl⟩
  rw [hy]
  unfold RdL.stop at hy
  cases hno : s.no with
  | some x =>
    rw [hno] at hy b6
    simp only at hy
    subst hy
    obtain ⟨h, rfl, hBh, hh⟩ := b6
    have HF := Lib.hid (And.intro b2 hh)
    clear b1 b2 b3 b4 b5 hR hno hh
    go_enter Tryd.func72, Tryd.ntmps72
    go_upto_region 2 with fail
    refine wp_region_mixP (.plain 0 <| .plain 1 <| .plain 2 <| .plain 3 <| .plain 4 <| .plain 5 <| .plain 6 <| .plain 7 <| .plain 8 <| .plain 9 <| .plain 10 <| .plain 11 <| .plain 12 <| .plain 13 <| .plain 14 <| .only 15 <| .plain 16 <| .plain 17 <| .done) (by kernel_rfl) (by kernel_rfl) (fun W1 hb1 => ?_)
    have hbk1 := HF.out.1.below hb1 HF.out.1.lt
    have hh1 := HF.out.2.below hb1 HF.out.2.lt
    have d2 : ∀ z, (plus W1 z).cell? ⟨g, 2, none⟩ = some (.pointer (some ⟨h, 0, none⟩)) := fun z => (hbk1.plus z).cell 2
    have d3 : ∀ z, (plus W1 z).cell? ⟨h, 0, none⟩ = some (.int .i64 (x.1 : Int)) := fun z => (hh1.plus z).cell 0
    have d4 : ∀ z, (plus W1 z).cell? ⟨h, 1, none⟩ = some (.int .i64 (x.2 : Int)) := fun z => (hh1.plus z).cell 1
    iterate 15 (refine mix_plain rfl ?_; go_big_quiet_step (fail); refine wpQuiet_nil ?_)
    clear d2 d3 d4 hbk1 hh1
    have hn1 := below_new1 W1 (Obj.cells #[.int .i64 (x.1 : Int), .int .i64 (x.2 : Int)] 236)
    have hblk := Blk.new W1 236 #[.int .i64 (x.1 : Int), .int .i64 (x.2 : Int)]
    have HN := Lib.hid (And.intro hblk (And.intro hn1 (And.intro hb1 hb1.size)))
    clear hblk hn1 hb1
    refine mix_only_in rfl (fun K hK => ?_)
    go_wp2_with fail
    refine hK _ _ (below_plus HN.out.2.1) ?_
    clear hK K
    iterate 2 (refine mix_plain rfl ?_; go_big_quiet_step (fail); refine wpQuiet_nil ?_)
    refine mix_done ?_
    go_wp2_with fail
    go_ret
    exact ⟨_, rfl, ⟨W1.heap.size, rfl, HN.out.2.2.2, HN.out.1⟩, HN.out.2.2.1.trans (HN.out.2.1.mono HN.out.2.2.2)⟩
  | none =>
    rw [hno] at hy b6
    simp only at hy
    have b6 : q = .pointer none := b6
    subst b6
    obtain ⟨L, hL⟩ : ∃ L, s.bs.length = L := ⟨_, rfl⟩
    obtain ⟨p, hp⟩ : ∃ p, s.pos = p := ⟨_, rfl⟩
    rw [hL, hp] at hy b2 b4
    rw [hL] at b5
    have HF1 := Lib.hid b2
    clear b1 b2 b3 hR hno hL hp
    go_enter Tryd.func72, Tryd.ntmps72
    go_upto_region 3 with fail
    refine wp_region_mixP (.plain 0 <| .plain 1 <| .plain 2 <| .plain 3 <| .plain 4 <| .plain 5 <| .plain 6 <| .plain 7 <| .plain 8 <| .plain 9 <| .plain 10 <| .done) (by kernel_rfl) (by kernel_rfl) (fun W1 hb1 => ?_)
    have hbk1 := HF1.out.below hb1 HF1.out.lt
    have d0 : ∀ z, (plus W1 z).cell? ⟨g, 0, none⟩ = some (.slice A L c) := fun z => (hbk1.plus z).cell 0
    have d1 : ∀ z, (plus W1 z).cell? ⟨g, 1, none⟩ = some (.int .i64 (p : Int)) := fun z => (hbk1.plus z).cell 1
    iterate 11 (refine mix_plain rfl ?_; go_big_quiet_step (fail); refine wpQuiet_nil ?_)
    clear d0 d1 hk2
    refine mix_done ?_
    have hk1 : W1.cell? ⟨g, 1, none⟩ = some (.int .i64 (p : Int)) := hbk1.cell 1
    have HB := Lib.hid hb1
    clear hb1 hbk1
    by_cases hlt : p < L
    · rw [if_pos hlt] at hy
      subst hy
      have hlt' : (p : Int) < (L : Int) := by omega
      have hn1 := below_new1 W1 (Obj.cells #[.int .i64 (p : Int), .int .i64 11] 236)
      have hblk := Blk.new W1 236 #[.int .i64 (p : Int), .int .i64 11]
      have HN := Lib.hid (And.intro hblk (And.intro (HB.out.trans (hn1.mono HB.out.size)) HB.out.size))
      clear hblk hn1 hlt
      go_wp2_with fail
      go_ret
      exact ⟨_, rfl, ⟨W1.heap.size, rfl, HN.out.2.2, HN.out.1⟩, HN.out.2.1⟩
    · rw [if_neg hlt] at hy
      subst hy
      have hge : (L : Int) ≤ (p : Int) := by omega
      clear hlt
      go_wp2_with fail
      go_ret
      exact ⟨_, rfl, rfl, HB.out⟩
end Go.Proofs.YteonmcconpfkjaaDoor

/- A slice of bytes as a string, in a quiet walk. No condition. -/
namespace Go.Proofs.YteonmcconpfkjaaDoor
open Go Go.RowKit
/-- the string of some bytes -/
def strV (bs : List UInt8) : Value := .string ⟨bs.toArray⟩
theorem nums_n8 (bs : List UInt8) : strOfNums (bs.map n8) = ⟨bs.toArray⟩ := by
  unfold strOfNums
  congr 1
  rw [List.map_map]
  congr 1
  apply List.ext_getElem (by simp)
  intro i h1 h2
  simp [n8]
theorem run_bytes_str {w : World} {B : Nat} {v : Value} {bs : List UInt8} (hv : BSl w B v bs) : (convert 22 9 v).run Tryd.prog w = .ok (strV bs) w := by
  obtain ⟨A, c, rfl, h1, h2, hr⟩ := hv
  cases A with
  | none =>
    have h0 : bs = [] := by
      cases bs with
      | nil => rfl
      | cons b l => obtain ⟨_, _, e, _⟩ := hr (by simp); cases e
    subst h0
    exact run_convert_bytes_nil w _ _ Tryd.underlying22 Tryd.underlying5 _ _ _ Tryd.underlying9
  | some p =>
    cases bs with
    | nil =>
      have hl : (loadCells p 0).run Tryd.prog w = .ok (([] : List Int).map (Value.int .u8)).toArray w := by
        have := run_loadCells_list (P := Tryd.prog) w p [] (fun j v hj => by simp at hj)
        simpa using this
      rw [List.length_nil, run_convert_bytes_string w _ _ _ _ 0 c Tryd.underlying22 Tryd.underlying5 Tryd.underlying9, run_bytesToString w p 0 c [] hl]
      rfl
    | cons b l =>
      obtain ⟨g, off, e, hb, hc⟩ := hr (by simp)
      cases e
      have h := run_convert_bytes_arg (P := Tryd.prog) w 22 5 Tryd.underlying22 Tryd.underlying5 g off (b :: l).length c ((b :: l).map n8) (by simp) (fun i hi => by
        have hh := hc i (v8 ((b :: l).getD i 0)) (by rw [List.getElem?_map, List.getElem?_eq_getElem hi]; simp [List.getD, List.getElem?_eq_getElem hi])
        rw [hh]
        rw [List.getD_eq_getElem?_getD, List.getD_eq_getElem?_getD, List.getElem?_map, List.getElem?_eq_getElem hi]
        rfl) 9 Tryd.underlying9
      rw [h, nums_n8]; rfl
section
variable {ops : Array Oper} {C : World → Prop} {Q : Act → Prop} {a : Act} {o : Oper} {rest : List Oper}
theorem wpQuiet_str (hw : Region.wanted o (yielded ops a.tmps) = true) (x : Operand) (ho : o.op = .convert 22 9 x) (v : Value) (bs : List UInt8) (B : Nat) (hx : a.eval x = v) (hv : ∀ w, C w → BSl w B v bs)
    (h : wpQuiet Tryd.prog ops C Q rest (a.put o.dst (strV bs))) : wpQuiet Tryd.prog ops C Q (o :: rest) a :=
  wpQuiet_wanted hw (strV bs) (fun w hC => by
    unfold Oper.quietAt execOp
    simp only [ho, hx, Sem.run_bind, run_bytes_str (hv w hC), Result.andThen_ok, Sem.run_pure]
    exact ⟨rfl, rfl⟩) h
end
end Go.Proofs.YteonmcconpfkjaaDoor

/- '==' on strings of bytes. No condition. -/
namespace Go.Proofs.YteonmcconpfkjaaDoor
open Go Go.RowKit
theorem bytes_beq (a b : List UInt8) : ((⟨a.toArray⟩ : ByteArray).toList == (⟨b.toArray⟩ : ByteArray).toList) = decide (a = b) := by
  rw [ByteArray.toList_eq, ByteArray.toList_eq]
  show (a.toArray.toList == b.toArray.toList) = decide (a = b)
  simp only [List.toList_toArray]
  by_cases h : a = b
  · subst h; simp
  · rw [decide_eq_false h, beq_eq_false_iff_ne]; exact h
theorem run_strEq (w : World) (a b : List UInt8) : (binOp .eql 9 (strV a) (strV b)).run Tryd.prog w = .ok (.bool (decide (a = b))) w := by
  unfold strV
  rw [binOp_string_eql, bytes_beq]
  simp
section
variable {ops : Array Oper} {C : World → Prop} {Q : Act → Prop} {a : Act} {o : Oper} {rest : List Oper}
theorem wpQuiet_eqStr (hw : Region.wanted o (yielded ops a.tmps) = true) (x y : Operand) (yt : TypeId) (ho : o.op = .binOp .eql 9 x y yt) (X Y : List UInt8) (hx : a.eval x = strV X) (hy : a.eval y = strV Y)
    (b : Bool) (hb : decide (X = Y) = b) (hk : wpQuiet Tryd.prog ops C Q rest (a.put o.dst (.bool b))) : wpQuiet Tryd.prog ops C Q (o :: rest) a :=
  wpQuiet_wanted hw (.bool b) (fun w _ => by
    have hg : (eqGuard .eql 9 x y (strV X) (strV Y)).run Tryd.prog w = .ok () w := by unfold strV; simp [eqGuard]
    unfold Oper.quietAt execOp
    simp only [ho, hx, hy, Sem.run_bind, Sem.run_pure, Result.andThen_ok, hg, run_strEq, hb]
    exact ⟨rfl, rfl⟩) hk
theorem run_strNe (w : World) (a b : List UInt8) : (binOp .neq 9 (strV a) (strV b)).run Tryd.prog w = .ok (.bool (!decide (a = b))) w := by
  have h : binOp .neq 9 (strV a) (strV b) = pure (.bool (!((⟨a.toArray⟩ : ByteArray).toList == (⟨b.toArray⟩ : ByteArray).toList))) := by unfold strV; simp [binOp, Op.stringOp, bne]
  rw [h, bytes_beq]
  simp
theorem wpQuiet_neStr (hw : Region.wanted o (yielded ops a.tmps) = true) (x y : Operand) (yt : TypeId) (ho : o.op = .binOp .neq 9 x y yt) (X Y : List UInt8) (hx : a.eval x = strV X) (hy : a.eval y = strV Y)
    (b : Bool) (hb : decide (X = Y) = b) (hk : wpQuiet Tryd.prog ops C Q rest (a.put o.dst (.bool (!b)))) : wpQuiet Tryd.prog ops C Q (o :: rest) a :=
  wpQuiet_wanted hw (.bool (!b)) (fun w _ => by
    have hg : (eqGuard .neq 9 x y (strV X) (strV Y)).run Tryd.prog w = .ok () w := by unfold strV; simp [eqGuard]
    unfold Oper.quietAt execOp
    simp only [ho, hx, hy, Sem.run_bind, Sem.run_pure, Result.andThen_ok, hg, run_strNe, hb]
    exact ⟨rfl, rfl⟩) hk
end
end Go.Proofs.YteonmcconpfkjaaDoor

/- Strings of bytes in a forced walk: conversion, '+', '!='. No condition. -/
namespace Go.Proofs.YteonmcconpfkjaaDoor
open Go Go.RowKit
theorem run_strAdd (w : World) (a b : List UInt8) (h : a.length + b.length ≤ 9223372036854775807) : (binOp .add 9 (strV a) (strV b)).run Tryd.prog w = .ok (strV (a ++ b)) w := by
  unfold strV
  have e : (⟨a.toArray⟩ : ByteArray) ++ ⟨b.toArray⟩ = ⟨(a ++ b).toArray⟩ := by
    apply ByteArray.ext
    rw [ByteArray.data_append]
    simp
  have hn : ¬ ((((⟨a.toArray⟩ : ByteArray).size + (⟨b.toArray⟩ : ByteArray).size : Nat) : Int) > IntKind.i64.max) := by
    show ¬ (((a.toArray.size + b.toArray.size : Nat) : Int) > 9223372036854775807)
    simp only [List.size_toArray]
    omega
  have h1 : binOp .add 9 (.string ⟨a.toArray⟩) (.string ⟨b.toArray⟩) = Op.stringOp .add ⟨a.toArray⟩ ⟨b.toArray⟩ := rfl
  rw [h1]
  unfold Op.stringOp
  simp only [if_neg hn, e, Sem.run_pure]
section
variable {w : World} {ops : Array Oper} {rest : List Oper} {o : Oper} {a : Act} {Q : Exit → Act → World → Prop}
theorem wpList_strA (hgd : o.guard = none) (x : Operand) (ho : o.op = .convert 22 9 x) (v : Value) (bs : List UInt8) (B : Nat) (hx : a.eval x = v) (hv : BSl w B v bs)
    (h : wpList Tryd.prog ops Q rest (a.put o.dst (strV bs)) w) : wpList Tryd.prog ops Q (o :: rest) a w :=
  wpList_plain hgd fun K hK => by
    unfold Oper.wp execOp
    simp only [ho, hx, Sem.run_bind, run_bytes_str hv, Result.andThen_ok, Sem.run_pure]
    exact hK _ _ h
theorem wpList_addStr (hgd : o.guard = none) (x y : Operand) (yt : TypeId) (ho : o.op = .binOp .add 9 x y yt) (X Y : List UInt8) (hx : a.eval x = strV X) (hy : a.eval y = strV Y) (hl : X.length + Y.length ≤ 9223372036854775807)
    (h : wpList Tryd.prog ops Q rest (a.put o.dst (strV (X ++ Y))) w) : wpList Tryd.prog ops Q (o :: rest) a w :=
  wpList_plain hgd fun K hK => by
    have hg : (eqGuard .add 9 x y (strV X) (strV Y)).run Tryd.prog w = .ok () w := by unfold strV; simp [eqGuard]
    unfold Oper.wp execOp
    simp only [ho, hx, hy, Sem.run_bind, hg, run_strAdd w X Y hl, Result.andThen_ok, Sem.run_pure]
    exact hK _ _ h
theorem wpList_neStr (hgd : o.guard = none) (x y : Operand) (yt : TypeId) (ho : o.op = .binOp .neq 9 x y yt) (X Y : List UInt8) (hx : a.eval x = strV X) (hy : a.eval y = strV Y)
    (b : Bool) (hb : decide (X = Y) = b) (h : wpList Tryd.prog ops Q rest (a.put o.dst (.bool (!b))) w) : wpList Tryd.prog ops Q (o :: rest) a w :=
  wpList_plain hgd fun K hK => by
    have hg : (eqGuard .neq 9 x y (strV X) (strV Y)).run Tryd.prog w = .ok () w := by unfold strV; simp [eqGuard]
    unfold Oper.wp execOp
    simp only [ho, hx, hy, Sem.run_bind, hg, run_strNe, hb, Result.andThen_ok, Sem.run_pure]
    exact hK _ _ h
end
end Go.Proofs.YteonmcconpfkjaaDoor
