/- Texts that stand behind one another: Cut, Const, Codec, Wrt, WrtB. No condition. -/
import Derived.Test.YteonmcconpfkjaaDoorQ2
import Derived.Lib.SlBytesConst
import Derived.Test.YteonmcconpfkjaaDoorQ8
import Derived.Lib.SliceRun
/- Cuts of slices whose elements are one cell each: the value under one name, in a quiet walk and in a forced one; what a cut of bytes reads. No condition. -/
namespace Go.Proofs.YteonmcconpfkjaaDoor
open Go Go.RowKit
/-- a cut, as the model makes it -/
def cutV (A : Option Addr) (cap lo hi : Nat) : Value := .slice (if cap = lo then A else A.map (·.add lo)) (hi - lo) (cap - lo)
section
variable {P : Program} {t e : TypeId} {A : Option Addr} {len cap : Nat}
theorem run_cut_lh (ht : P.underlying t = some (.slice e)) (hs : (P.info? e).map (·.size) = some 1) (lo hi : Nat) (h1 : lo ≤ hi) (h2 : hi ≤ cap) (w : World) :
    (Instr.sliceAt t (.slice A len cap) (some (.int .i64 lo)) (some (.int .i64 hi)) none).run P w = .ok (cutV A cap lo hi) w := by
  obtain ⟨i, hi1, hi2⟩ : ∃ i, P.info? e = some i ∧ i.size = 1 := by
    cases hq : P.info? e with
    | none => rw [hq] at hs; cases hs
    | some i => rw [hq] at hs; exact ⟨i, rfl, by simpa using hs⟩
  have a1 : (lo : Int) ≤ (hi : Int) := by omega
  have a2 : (hi : Int) ≤ (cap : Int) := by omega
  simp [Instr.sliceAt, Instr.slice, run_underlying ht, Instr.sliceBounds, run_sliceBound, cutV, hi1, hi2, sizeOf, typeInfo, a1, a2]
theorem run_cut_l (ht : P.underlying t = some (.slice e)) (hs : (P.info? e).map (·.size) = some 1) (lo : Nat) (h1 : lo ≤ len) (w : World) :
    (Instr.sliceAt t (.slice A len cap) (some (.int .i64 lo)) none none).run P w = .ok (cutV A cap lo len) w := by
  obtain ⟨i, hi1, hi2⟩ : ∃ i, P.info? e = some i ∧ i.size = 1 := by
    cases hq : P.info? e with
    | none => rw [hq] at hs; cases hs
    | some i => rw [hq] at hs; exact ⟨i, rfl, by simpa using hs⟩
  have a1 : (lo : Int) ≤ (len : Int) := by omega
  simp [Instr.sliceAt, Instr.slice, run_underlying ht, Instr.sliceBounds, run_sliceBound, cutV, hi1, hi2, sizeOf, typeInfo, a1]
section
variable {ops : Array Oper} {C : World → Prop} {K : Act → Prop} {a : Act} {o : Oper} {rest : List Oper}
theorem wpQuiet_cutLH (hw : Region.wanted o (yielded ops a.tmps) = true) (t : TypeId) (x l h : Operand) (ho : o.op = .slice t x (some l) (some h) none) (e : TypeId) (ht : P.underlying t = some (.slice e)) (hs : (P.info? e).map (·.size) = some 1)
    (A : Option Addr) (len cap lo hi : Nat) (hx : a.eval x = .slice A len cap) (hl : a.eval l = .int .i64 lo) (hh : a.eval h = .int .i64 hi) (h1 : lo ≤ hi) (h2 : hi ≤ cap)
    (hk : wpQuiet P ops C K rest (a.put o.dst (cutV A cap lo hi))) : wpQuiet P ops C K (o :: rest) a :=
  wpQuiet_wanted hw _ (fun w _ => by
    unfold Oper.quietAt execOp
    simp only [ho, Option.map_some, Option.map_none, hx, hl, hh, Sem.run_bind, run_cut_lh ht hs lo hi h1 h2, Result.andThen_ok, Sem.run_pure]
    exact ⟨rfl, rfl⟩) hk
theorem wpQuiet_cutL (hw : Region.wanted o (yielded ops a.tmps) = true) (t : TypeId) (x l : Operand) (ho : o.op = .slice t x (some l) none none) (e : TypeId) (ht : P.underlying t = some (.slice e)) (hs : (P.info? e).map (·.size) = some 1)
    (A : Option Addr) (len cap lo : Nat) (hx : a.eval x = .slice A len cap) (hl : a.eval l = .int .i64 lo) (h1 : lo ≤ len)
    (hk : wpQuiet P ops C K rest (a.put o.dst (cutV A cap lo len))) : wpQuiet P ops C K (o :: rest) a :=
  wpQuiet_wanted hw _ (fun w _ => by
    unfold Oper.quietAt execOp
    simp only [ho, Option.map_some, Option.map_none, hx, hl, Sem.run_bind, run_cut_l ht hs lo h1, Result.andThen_ok, Sem.run_pure]
    exact ⟨rfl, rfl⟩) hk
theorem wpList_cutLH {w : World} {Q : Exit → Act → World → Prop} (hg : o.guard = none) (t : TypeId) (x l h : Operand) (ho : o.op = .slice t x (some l) (some h) none) (e : TypeId) (ht : P.underlying t = some (.slice e)) (hs : (P.info? e).map (·.size) = some 1)
    (A : Option Addr) (len cap lo hi : Nat) (hx : a.eval x = .slice A len cap) (hl : a.eval l = .int .i64 lo) (hh : a.eval h = .int .i64 hi) (h1 : lo ≤ hi) (h2 : hi ≤ cap)
    (hk : wpList P ops Q rest (a.put o.dst (cutV A cap lo hi)) w) : wpList P ops Q (o :: rest) a w :=
  wpList_plain hg fun K hK => by
    unfold Oper.wp execOp
    simp only [ho, Option.map_some, Option.map_none, hx, hl, hh, Sem.run_bind, run_cut_lh ht hs lo hi h1 h2, Result.andThen_ok, Sem.run_pure]
    exact hK _ _ hk
theorem wpList_cutL {w : World} {Q : Exit → Act → World → Prop} (hg : o.guard = none) (t : TypeId) (x l : Operand) (ho : o.op = .slice t x (some l) none none) (e : TypeId) (ht : P.underlying t = some (.slice e)) (hs : (P.info? e).map (·.size) = some 1)
    (A : Option Addr) (len cap lo : Nat) (hx : a.eval x = .slice A len cap) (hl : a.eval l = .int .i64 lo) (h1 : lo ≤ len)
    (hk : wpList P ops Q rest (a.put o.dst (cutV A cap lo len)) w) : wpList P ops Q (o :: rest) a w :=
  wpList_plain hg fun K hK => by
    unfold Oper.wp execOp
    simp only [ho, Option.map_some, Option.map_none, hx, hl, Sem.run_bind, run_cut_l ht hs lo h1, Result.andThen_ok, Sem.run_pure]
    exact hK _ _ hk
end
end
theorem wpQuiet_nilCheck {P : Program} {ops : Array Oper} {C : World → Prop} {K : Act → Prop} {a : Act} {o : Oper} {rest : List Oper} (hw : Region.wanted o (yielded ops a.tmps) = true) (x : Operand) (ho : o.op = .nilCheck x) (p : Addr) (hx : a.eval x = .pointer (some p))
    (hk : wpQuiet P ops C K rest (a.put o.dst (.pointer (some p)))) : wpQuiet P ops C K (o :: rest) a :=
  wpQuiet_wanted hw _ (fun w _ => by
    unfold Oper.quietAt execOp
    simp only [ho, hx, Sem.run_pure]
    exact ⟨rfl, rfl⟩) hk
/-- a cell is read, at any class that tells it -/
theorem wpQuiet_load1 {P : Program} {ops : Array Oper} {C : World → Prop} {K : Act → Prop} {a : Act} {o : Oper} {rest : List Oper} (hw : Region.wanted o (yielded ops a.tmps) = true) (ty : TypeId) (x : Operand) (ho : o.op = .load ty x) (p : Addr) (hx : a.eval x = .pointer (some p))
    (d : TypeDesc) (hu : P.underlying ty = some d) (hd : (match d with | .struct _ | .array _ _ => false | _ => true) = true) (v : Value) (hS : ∀ w, C w → w.cell? p = some v)
    (hk : wpQuiet P ops C K rest (a.put o.dst v)) : wpQuiet P ops C K (o :: rest) a :=
  wpQuiet_wanted hw _ (fun w hC => by
    have hc := hS w hC
    unfold Oper.quietAt execOp
    have ha : (isAgg ty).run P w = .ok false w := by
      cases d <;> simp_all [isAgg, run_underlying hu]
    simp only [ho, hx, Instr.loadAt, Instr.sureAddr, Sem.run_bind, Sem.run_pure, Result.andThen_ok, loadVar, ha]
    simp [hc, Oper.quietUpon]) hk
theorem cut_b {w : World} {B : Nat} {A : Option Addr} {len cap : Nat} {bs : List UInt8} (h : BSl w B (.slice A len cap) bs) (lo hi : Nat) (h1 : lo ≤ hi) (h2 : hi ≤ len) : BSl w B (cutV A cap lo hi) ((bs.take hi).drop lo) := by
  obtain ⟨A', cap', e1, hc1, hc2, hr⟩ := h
  injection e1 with e1 e2 e3
  subst e1; subst e3
  have hl : ((bs.take hi).drop lo).length = hi - lo := by simp; omega
  refine ⟨_, cap - lo, by unfold cutV; rw [hl], by omega, by omega, ?_⟩
  have := (hr.take hi).cut (k := lo) (cap := cap) (by simp; omega) (by simp; omega)
  rw [← List.map_take, ← List.map_drop] at this
  exact this
/-- the head of a slice of bytes -/
theorem head_b {w : World} {B : Nat} {A : Option Addr} {len cap : Nat} {bs : List UInt8} (h : BSl w B (.slice A len cap) bs) (hi : Nat) (h2 : hi ≤ len) : BSl w B (.slice A hi cap) (bs.take hi) := by
  obtain ⟨A', cap', e1, hc1, hc2, hr⟩ := h
  injection e1 with e1 e2 e3
  subst e1; subst e3
  have hl : (bs.take hi).length = hi := by simp; omega
  refine ⟨_, cap, by rw [hl], by omega, by omega, ?_⟩
  have := hr.take hi
  rw [← List.map_take] at this
  exact this
theorem take_b {w : World} {B : Nat} {A : Option Addr} {cap : Nat} {bs : List UInt8} (h : BSl w B (.slice A bs.length cap) bs) (k : Nat) : BSl w B (.slice A (bs.take k).length cap) (bs.take k) := by
  obtain ⟨A', cap', e1, hc1, hc2, hr⟩ := h
  injection e1 with e1 e2 e3
  subst e1; subst e3
  refine ⟨_, cap, rfl, by rw [List.length_take]; omega, hc2, ?_⟩
  rw [List.map_take]; exact hr.take k
/-- the world behind a point of a walk by plan -/
theorem mix_at {P : Program} {ops : Array Oper} {K : Act → World → Prop} {p : Plan} {a : Act} {w : World} (R : World → Prop) (hR : R w) (h : ∀ W, R W → mixW P ops K p (fun v => ∃ e, v = plus W e) a W) : mixW P ops K p (fun v => ∃ e, v = plus w e) a w := h w hR
end Go.Proofs.YteonmcconpfkjaaDoor

/- Two constant texts as bytes in one region that draws its order: literals' rows, and the conversion of a literal's row to its own type, which marks it. No condition. -/
namespace Go.Proofs.YteonmcconpfkjaaDoor
open Go Go.RowKit
/-- Block g is just these bytes (marked or not). -/
def Lit (V : World) (g : Nat) (bs : List UInt8) : Prop := ∃ t fr, V.heap[g]? = some (.cells (bs.map v8).toArray t fr)
theorem Lit.lt {V : World} {g : Nat} {bs : List UInt8} (h : Lit V g bs) : g < V.heap.size := by
  obtain ⟨t, fr, h⟩ := h
  rcases Nat.lt_or_ge g V.heap.size with hlt | hge
  · exact hlt
  · rw [Array.getElem?_eq_none hge] at h; cases h
theorem Lit.bsl {V : World} {g : Nat} {bs : List UInt8} (h : Lit V g bs) (n : Nat) (hn : bs.length = n) (hc : n ≤ 9223372036854775807) : BSl V V.heap.size (.slice (some ⟨g, 0, none⟩) n n) bs := by
  subst hn
  have hl := h.lt
  obtain ⟨t, fr, h⟩ := h
  exact BSl.of_marked h _ hl hc
theorem Lit.new (V : World) (bs : List UInt8) (t : TypeId) : Lit (V.alloc (.cells (bs.map v8).toArray t)) V.heap.size bs := ⟨t, _, heap_alloc_new V _⟩
theorem Lit.alloc {V : World} {g : Nat} {bs : List UInt8} (h : Lit V g bs) (o : Obj) : Lit (V.alloc o) g bs := by
  have hl := h.lt
  obtain ⟨t, fr, h⟩ := h
  exact ⟨t, fr, (Below.heap_alloc V o g hl).trans h⟩
theorem freeze_block (V : World) (a : Addr) (n g : Nat) {cs : Array Value} {t : TypeId} {fr : Nat × Nat} (h : V.heap[g]? = some (.cells cs t fr)) : ∃ fr', (V.freeze a n).heap[g]? = some (.cells cs t fr') := by
  unfold World.freeze
  split
  · exact ⟨fr, h⟩
  · rw [Array.getElem?_modify]
    by_cases hg : a.block = g
    · subst hg
      rw [if_pos rfl, h]
      exact ⟨_, rfl⟩
    · rw [if_neg hg]; exact ⟨fr, h⟩
theorem Lit.freeze {V : World} {g : Nat} {bs : List UInt8} (h : Lit V g bs) (a : Addr) (n : Nat) : Lit (V.freeze a n) g bs := by
  obtain ⟨t, fr, h⟩ := h
  obtain ⟨fr', h'⟩ := freeze_block V a n g h
  exact ⟨t, fr', h'⟩
theorem below_freeze {B : Nat} {W V : World} (h : Below B W V) (a : Addr) (ha : B ≤ a.block) (n : Nat) : Below B W (V.freeze a n) := by
  refine ⟨?_, ?_, ?_, ?_, fun k hk => ?_⟩
  · unfold World.freeze; split <;> exact h.os
  · unfold World.freeze; split <;> exact h.tape
  · unfold World.freeze; split <;> exact h.output
  · unfold World.freeze; split
    · exact h.size
    · simpa using h.size
  · unfold World.freeze; split
    · exact h.block k hk
    · simp only
      rw [Array.getElem?_modify, if_neg (by omega)]; exact h.block k hk
theorem wpList_convSelf {P : Program} {V : World} {ops : Array Oper} {rest : List Oper} {o : Oper} {a : Act} {Q : Exit → Act → World → Prop} (hgd : o.guard = none) (t e : TypeId) (x : Operand) (ho : o.op = .convert t t x)
    (ht : P.underlying t = some (.slice e)) (he : P.underlying e = some (.int .u8)) (g n c : Nat) (hx : a.eval x = .slice (some ⟨g, 0, none⟩) n c) (bs : List UInt8) (hg : Lit V g bs)
    (h : ∀ k, wpList P ops Q rest (a.put o.dst (.slice (some ⟨g, 0, none⟩) n c)) (V.freeze ⟨g, k, none⟩ 1)) : wpList P ops Q (o :: rest) a V := by
  refine wpList_plain hgd fun K hK => ?_
  obtain ⟨t', fr, hg⟩ := hg
  have hsh : V.shape? g = some (t', bs.length) := by unfold World.shape?; rw [hg]; simp
  have hr : (convert t t (.slice (some ⟨g, 0, none⟩) n c)).run P V = .ok (.slice (some ⟨g, 0, none⟩) n c) (V.freeze ⟨g, bs.length, none⟩ 1) := by
    simp [convert, run_underlying ht, run_underlying he, markStringish, hsh]
  unfold Oper.wp execOp
  simp only [ho, hx, Sem.run_bind, hr, Result.andThen_ok, Sem.run_pure]
  exact hK _ _ (h _)
/-- the world behind a point of a walk by plan, the class staying -/
theorem mix_atC {P : Program} {ops : Array Oper} {K : Act → World → Prop} {p : Plan} {S : World → Prop} {a : Act} {w : World} (R : World → Prop) (hR : R w) (h : ∀ W, R W → mixW P ops K p S a W) : mixW P ops K p S a w := h w hR
end Go.Proofs.YteonmcconpfkjaaDoor

/- The walks of codec's Writer. No condition. -/
namespace Go.Proofs.YteonmcconpfkjaaDoor
open Go.RowKit
attribute [local go_sem] n8_lo n8_hi n64_lo n64_hi
theorem size_any (k : Int) (hk : -9223372036854775808 ≤ k ∧ k ≤ 9223372036854775807) (w : World) : Calls Tryd.prog 146 #[.int .i64 k] w fun e w' => e = .returned (.int .i64 (clamp8 k)) ∧ w = w' := by
  obtain ⟨h1, h2⟩ := hk
  have hc : clamp8 k = if k < 1 then 1 else if k > 8 then 8 else k.toNat := rfl
  by_cases a : k < 1
  · rw [if_pos a] at hc
    have Hc := Lib.hid hc
    clear hc
    go_enter Tryd.func146, Tryd.ntmps146
    go_wp2
    go_ret
    exact ⟨by rw [Hc.out]; rfl, rfl⟩
  · rw [if_neg a] at hc
    by_cases b : k > 8
    · rw [if_pos b] at hc
      have Hc := Lib.hid hc
      clear hc
      go_enter Tryd.func146, Tryd.ntmps146
      go_wp2
      go_ret
      exact ⟨by rw [Hc.out]; rfl, rfl⟩
    · rw [if_neg b] at hc
      have Hc := Lib.hid hc
      clear hc
      go_enter Tryd.func146, Tryd.ntmps146
      go_wp2
      go_ret
      exact ⟨by rw [Hc.out, Int.toNat_of_nonneg (by omega)]; rfl, rfl⟩
/-- p is a Writer of the call's own (from block B on), in which bs was written. -/
def Wrt (w : World) (B : Nat) (p : Value) (bs : List UInt8) : Prop :=
  ∃ g v, p = .pointer (some ⟨g, 0, none⟩) ∧ B ≤ g ∧ Blk w g 230 #[v] ∧ w.ownsRow B 5 1 v (bs.map v8).length (bs.map v8) ∧ v.ownBlock ≠ some g
theorem newWriter_any (w : World) : Calls Tryd.prog 64 #[] w fun e w' => ∃ p, e = .returned p ∧ Wrt w' w.heap.size p [] ∧ Below w.heap.size w w' := by
  go_enter Tryd.func64, Tryd.ntmps64
  go_wp2
  go_ret
  exact ⟨_, rfl, ⟨w.heap.size, .slice none 0 0, rfl, Nat.le_refl _, Blk.new w _ _, World.ownsRow_nil _ _ _ _, by intro h; cases h⟩, below_new1 w _⟩
set_option maxHeartbeats 1000000 in
set_option maxRecDepth 100000 in
theorem number_any (p : Value) (bs : List UInt8) (n : UInt64) (k : Int) (hk : -9223372036854775808 ≤ k ∧ k ≤ 9223372036854775807) (w : World) (B : Nat) (hW : Wrt w B p bs) (hB : B ≤ w.heap.size) (hl : bs.length ≤ 140737488355264) :
    Calls Tryd.prog 70 #[p, .int .u64 (n64 n), .int .i64 k] w fun e w' => e = .returned (.tuple #[]) ∧ Wrt w' B p (bs ++ numB n (clamp8 k)) ∧ Below B w w' := by
  obtain ⟨g, v, rfl, hg, hblk, hown, hne⟩ := hW
  have s1 := clamp8_lo k
  have s8 := clamp8_hi k
  go_enter Tryd.func70, Tryd.ntmps70
  go_wp2_with fail
  refine (size_any k hk _).mono ?_
  rintro e w' ⟨rfl, rfl⟩
  obtain ⟨s, hs⟩ : ∃ s, clamp8 k = s := ⟨_, rfl⟩
  rw [hs] at s1 s8
  have Hs := Lib.hid hs
  rw [hs]
  clear hs
  go_wp2_with fail
  have h0 := numTo_0 n s
  have hE := Lib.hid (numTo_end n s)
  have hS := Lib.hid (numTo_step n s)
  have hb0 := Lib.hid (byte_val n)
  go_loopw [6] (fun iv wr => ∃ (j : Nat) (u : Value), j ≤ s ∧ iv = .int .i64 ((j : Int) - 1) ∧ Blk wr g 230 #[u] ∧ wr.ownsRow B 5 1 u ((bs ++ numTo n s j).map v8).length ((bs ++ numTo n s j).map v8) ∧ u.ownBlock ≠ some g ∧ Below B w wr) (fun iv _ => ((intOf iv) + 1).toNat)
  case atStart => exact ⟨s, v, Nat.le_refl _, rfl, hblk, by rw [h0, List.append_nil]; exact hown, hne, Below.refl _ _⟩
  case round =>
    clear hblk hown hne h0 v
    obtain ⟨j, v, hj, rfl, hblk, hown, hne, hbel⟩ := hrel
    by_cases h0 : j = 0
    · subst h0
      have hd : decide ((0 : Int) ≤ ((0 : Nat) : Int) - 1) = false := by decide
      rw [hE.out] at hown
      go_wp2
      refine bodyPost_end (results_none rfl _ _ _) rfl ⟨rfl, ⟨g, v, rfl, hg, hblk, by rw [Hs.out]; exact hown, hne⟩, hbel⟩
    · obtain ⟨i, rfl⟩ : ∃ i, j = i + 1 := ⟨j - 1, by omega⟩
      have hi8 : i < 8 := by omega
      have hst := Lib.hid (hS.out i (by omega))
      have hbv := hb0.out i
      have hlt : (numTo n s (i + 1)).length ≤ 8 := by unfold numTo; rw [List.length_take, numB_length]; omega
      have hlen : ((bs ++ numTo n s (i + 1)).map v8).length + 1 ≤ 140737488355328 := by simp; omega
      have e8 : IntKind.i64.wrap (8 * (i : Int)) = ((8 * i : Nat) : Int) := by rw [IntWalk.i64_in _ (by omega)]; omega
      rw [show (((i + 1 : Nat) : Int) - 1) = (i : Int) by omega]
      have Hlen := Lib.hid hlen
      clear hlen
      go_wp2
      have hW0 := hblk.cell 0
      refine wp_region_mixS 14 (.plain 0 <| .plain 1 <| .plain 2 <| .plain 3 <| .plain 4 <| .plain 5 <| .plain 6 <| .plain 7 <| .plain 8 <| .plain 9 <| .only 10 <| .only 11 <| .plain 12 <| .plain 13 <| .done) (fun w' => w'.cell? ⟨g, 0, none⟩ = some v) (by kernel_rfl) (by kernel_rfl) hW0 ?_
      repeat (refine mix_plain rfl ?_; (first
        | (refine wpQuiet_nilCheck rfl (.tmp 15) rfl _ rfl ?_; simp only [Act.put, List.setIfInBounds_toArray, List.set_cons_zero, List.set_cons_succ])
        | (refine wpQuiet_nilCheck rfl (.tmp 14) rfl _ rfl ?_; simp only [Act.put, List.setIfInBounds_toArray, List.set_cons_zero, List.set_cons_succ])
        | (refine wpQuiet_load1 rfl _ (.tmp 17) rfl _ rfl _ Tryd.underlying22 rfl v (fun _ h => h) ?_; simp only [Act.put, List.setIfInBounds_toArray, List.set_cons_zero, List.set_cons_succ])
        | go_big_quiet_step ((intro _; rfl))
        | go_big_quiet_step (fail)); refine wpQuiet_nil ?_)
      rw [hbv]
      obtain ⟨i0, hi, hz0, hz1, hz2⟩ := info_parts (by kernel_rfl : (Tryd.prog.info? 5).map (fun i => (i.zero, i.size, i.bytes)) = some (some (.int .u8 0), 1, 1))
      have hownD : (wr.drewN 1).ownsRow B 5 1 v ((bs ++ numTo n s (i + 1)).map v8).length ((bs ++ numTo n s (i + 1)).map v8) := hown
      have hblkD := hblk.drewN 1
      have hbelD := below_drewN hbel 1
      have hsz := hbel.size
      clear hown hblk hbel hW0 e8 hbv
      have hBD : B ≤ (wr.drewN 1).heap.size := by show B ≤ wr.heap.size; omega
      generalize wr.drewN 1 = wd at hownD hblkD hbelD hBD ⊢
      have hn1 := below_new1 wd (Obj.cells #[.int .u8 (n8 (byteAt n i))] 5)
      have hblkA := hblkD.below hn1 hblkD.lt
      have hownA := own_below hownD hn1
      have hrd : Reads (wd.alloc (Obj.cells #[.int .u8 (n8 (byteAt n i))] 5)) (wd.heap.size + 1) (some ⟨wd.heap.size, 0, none⟩) [v8 (byteAt n i)] := Reads.of_blk (Blk.new wd 5 #[v8 (byteAt n i)]) (by omega) 0
      have hbelA := hbelD.alloc hBD (Obj.cells #[.int .u8 (n8 (byteAt n i))] 5)
      have hBA : B ≤ (wd.alloc (Obj.cells #[.int .u8 (n8 (byteAt n i))] 5)).heap.size := Nat.le_trans hBD hn1.size
      refine mix_only_in rfl (fun K hK => ?_)
      go_wp2_with fail
      refine hK _ _ (hblkA.cell 0) ?_
      clear hK K
      refine mix_only_in rfl (fun K hK => ?_)
      refine wpList_appendR rfl (.tmp 18) (.tmp 24) _ rfl B 5 i0 _ 1 Tryd.underlying22 hi hz0 hz1 hz2 rfl v _ rfl hownA (wd.heap.size + 1) (some ⟨wd.heap.size, 0, none⟩) 1 1 [v8 (byteAt n i)] rfl hrd rfl (oneCell_v8 [byteAt n i]) (by have := Hlen.out; unfold maxLen; omega) (by have := Hlen.out; omega) hBA ?_
      intro v' w2 hown2 hg2 hat2
      simp only [Act.put, List.setIfInBounds_toArray, List.set_cons_zero, List.set_cons_succ]
      have hneg : some g ≠ v.ownBlock := fun e => hne e.symm
      have hblk2 := hblkA.grown hg2 hneg
      have hbel2 := below_own hbelA hownA hg2 hBA
      have hne2 : v'.ownBlock ≠ some g := by
        rcases hat2 with e | e
        · rw [e]; exact hne
        · rw [e]; intro e2; injection e2 with e2; have := hblkA.lt; omega
      rw [show (bs ++ numTo n s (i + 1)).map v8 ++ [v8 (byteAt n i)] = (bs ++ numTo n s i).map v8 by rw [hst.out, ← List.append_assoc, List.map_append (l₁ := bs ++ numTo n s (i + 1))]; rfl] at hown2
      refine hK _ _ (hblk2.cell 0) ?_
      clear hK K hownA hrd hbelA hblkA hownD hblkD hbelD hg2 hat2 hneg hn1
      repeat (refine mix_plain rfl ?_; (first
        | (refine wpQuiet_nilCheck rfl (.tmp 14) rfl _ rfl ?_; simp only [Act.put, List.setIfInBounds_toArray, List.set_cons_zero, List.set_cons_succ])
        | go_big_quiet_step ((intro _; rfl))
        | go_big_quiet_step (fail)); refine wpQuiet_nil ?_)
      refine mix_done ?_
      simp only [List.drop_succ_cons, List.drop_zero]
      have h5 : w2.ownsRow B 5 1 v' ((bs ++ numTo n s i).map v8).length ((bs ++ numTo n s i).map v8) ∧ v'.ownBlock ≠ some g ∧ Below B w w2 := ⟨hown2, hne2, hbel2⟩
      have hv1 : v'.cells = #[v'] ∧ v'.oneCell' = true := by
        rcases hown2.2 with ⟨rfl, _⟩ | ⟨g', cap', cur, rfl, _⟩ <;> exact ⟨rfl, rfl⟩
      refine wpList_store1 rfl rfl _ (.tmp 27) (.tmp 25) rfl g 0 rfl v' rfl _ _ hblk2 (by kernel_rfl) (by simp) hv1.1 hv1.2 ?_
      intro w3 hblk3 hon3
      have hown3 := own_grown hown2 hon3 (fun g' hg' e => by injection e with e; subst e; exact hne2 hg')
      have hbel3 := below_only hbel2 hon3 hg (Nat.le_trans hB hbel2.size)
      have e3 : (#[v] : Array Value).setIfInBounds 0 v' = #[v'] := by simp
      rw [e3] at hblk3
      clear hblk2 hown2 hon3 hbel2 h5 hv1 e3 hst Hlen
      go_wp2
      go_roundw
      case rel => exact ⟨i, v', by omega, rfl, hblk3, hown3, hne2, hbel3⟩
      case measure => simp [intOf]
set_option maxRecDepth 100000 in
/-- slices.Clone of bytes -/
theorem clone_any (u : Value) (bs : List UInt8) (w : World) (hu : BSl w w.heap.size u bs) (hl : bs.length ≤ 140737488355328) :
    Calls Tryd.prog 92 #[u] w fun e w' => ∃ v, e = .returned v ∧ w'.ownsRow w.heap.size 5 1 v (bs.map v8).length (bs.map v8) ∧ Below w.heap.size w w' := by
  obtain ⟨A, c, rfl, h1, h2, hr⟩ := hu
  cases A with
  | none =>
    have hb : bs = [] := by
      cases bs with
      | nil => rfl
      | cons x xs => obtain ⟨_, _, e, _⟩ := hr (by simp); cases e
    subst hb
    have hnil : ∀ w, (binOp .eql 22 (.slice none 0 c) (.slice none 0 0)).run Tryd.prog w = .ok (.bool true) w := fun w => by rw [Lib.run_eql_slice_nil (P := Tryd.prog) w 22 5 none 0 c 0 0 Tryd.underlying22]; rfl
    go_enter Tryd.func92, Tryd.ntmps92
    go_wp2
    go_ret
    exact ⟨_, rfl, World.ownsRow_nil _ _ _ _, Below.refl _ _⟩
  | some A =>
    have hoe := own_emptyB w w.heap.size (Nat.le_refl _)
    have hb1 := below_new1 w (Obj.cells #[] 5)
    have hnil : ∀ w, (binOp .eql 22 (.slice (some A) bs.length c) (.slice none 0 0)).run Tryd.prog w = .ok (.bool false) w := fun w => by rw [Lib.run_eql_slice_nil (P := Tryd.prog) w 22 5 (some A) _ c 0 0 Tryd.underlying22]; rfl
    go_enter Tryd.func92, Tryd.ntmps92
    go_wp2_with (first
      | (at_builtin; refine wpList_appendS rfl (.tmp 5) (.tmp 6) rfl w.heap.size _ [] bs rfl hoe _ _ _ _ rfl rfl (hr.below hb1) (by simp; omega) hb1.size w hb1 ?_; intro u1 w1 hown1 hb2; simp only [List.nil_append] at hown1))
    go_ret
    exact ⟨_, rfl, hown1, hb2⟩
theorem done_any (p : Value) (bs : List UInt8) (w : World) (B : Nat) (hW : Wrt w B p bs) (hl : bs.length ≤ 140737488355328) :
    Calls Tryd.prog 66 #[p] w fun e w' => ∃ v, e = .returned v ∧ BSl w' w'.heap.size v bs ∧ w'.ownsRow w.heap.size 5 1 v (bs.map v8).length (bs.map v8) ∧ Below w.heap.size w w' := by
  obtain ⟨g, v, rfl, hg, hblk, hown, hne⟩ := hW
  have hc := hblk.cell 0
  have hB := BSl.of_own hown
  clear hblk hown hne
  go_enter Tryd.func66, Tryd.ntmps66
  go_wp2_with fail
  refine (clone_any v bs w hB hl).mono ?_
  rintro e w1 ⟨u, rfl, hown1, hb1⟩
  go_wp2_with fail
  go_ret
  exact ⟨_, rfl, BSl.of_own hown1, hown1, hb1⟩
set_option maxHeartbeats 1000000 in
set_option maxRecDepth 100000 in
theorem digest_any (p : Value) (bs d : List UInt8) (hd : d.length = 32) (w : World) (B : Nat) (hW : Wrt w B p bs) (hB : B ≤ w.heap.size) (hl : bs.length ≤ 140737488355264) :
    Calls Tryd.prog 79 #[p, .agg (dat d)] w fun e w' => e = .returned (.tuple #[]) ∧ Wrt w' B p (bs ++ d) ∧ Below B w w' := by
  obtain ⟨g, v, rfl, hg, hblk, hown, hne⟩ := hW
  obtain ⟨i0, hi, hz0, hz1, hz2⟩ := info_parts (by kernel_rfl : (Tryd.prog.info? 5).map (fun i => (i.zero, i.size, i.bytes)) = some (some (.int .u8 0), 1, 1))
  have hlt := hblk.lt
  have hD := Blk.new w 43 (dat d)
  have hb1 := below_new1 w (Obj.cells (dat d) 43)
  go_enter Tryd.func79, Tryd.ntmps79
  go_wp2
  refine wp_at (fun W => Blk W w.heap.size 43 (dat d) ∧ Below w.heap.size w W) ⟨hD, hb1⟩ ?_
  clear hD hb1
  rintro W ⟨hD, hb1⟩
  have hblkD := (hblk.below hb1 hlt).drewN 1
  have hownD : (W.drewN 1).ownsRow B 5 1 v (bs.map v8).length (bs.map v8) := own_below hown (below_drewN hb1 1)
  have hbelD := below_drewN (hb1.mono hB) 1
  have hDD := hD.drewN 1
  have hBD : B ≤ (W.drewN 1).heap.size := Nat.le_trans hB hb1.size
  have hrd := Reads.of_blk hDD hDD.lt 0
  rw [dat_eq d hd] at hrd
  have hlD : (d.map v8).length = 32 := by rw [List.length_map, hd]
  have HlD := Lib.hid hlD
  clear hlD
  refine wp_region_mixS 9 (.plain 0 <| .plain 1 <| .plain 2 <| .plain 3 <| .plain 4 <| .plain 5 <| .only 6 <| .plain 7 <| .plain 8 <| .done) (fun w' => w'.cell? ⟨g, 0, none⟩ = some v) (by kernel_rfl) (by kernel_rfl) (hblkD.cell 0) ?_
  clear hblk hown hb1 hD
  generalize W.drewN 1 = wd at hownD hblkD hbelD hBD hDD hrd ⊢
  repeat (refine mix_plain rfl ?_; (first
    | (refine wpQuiet_nilCheck rfl (.tmp 5) rfl _ rfl ?_; simp only [Act.put, List.setIfInBounds_toArray, List.set_cons_zero, List.set_cons_succ])
    | (refine wpQuiet_load1 rfl _ (.tmp 7) rfl _ rfl _ Tryd.underlying22 rfl v (fun _ h => h) ?_; simp only [Act.put, List.setIfInBounds_toArray, List.set_cons_zero, List.set_cons_succ])
    | go_big_quiet_step ((intro _; rfl))
    | go_big_quiet_step (fail)); refine wpQuiet_nil ?_)
  refine mix_only_in rfl (fun K hK => ?_)
  refine wpList_appendR rfl (.tmp 8) (.tmp 9) _ rfl B 5 i0 _ 1 Tryd.underlying22 hi hz0 hz1 hz2 rfl v _ rfl hownD wd.heap.size (some ⟨w.heap.size, 0, none⟩) 32 32 (d.map v8) rfl (by simpa using hrd) HlD.out (oneCell_v8 d) (by unfold maxLen; rw [List.length_map]; omega) (by rw [List.length_map]; omega) hBD ?_
  intro v' w2 hown2 hg2 hat2
  simp only [Act.put, List.setIfInBounds_toArray, List.set_cons_zero, List.set_cons_succ]
  have hneg : some g ≠ v.ownBlock := fun e => hne e.symm
  have hblk2 := hblkD.grown hg2 hneg
  have hbel2 := below_own hbelD hownD hg2 hBD
  have hne2 : v'.ownBlock ≠ some g := by
    rcases hat2 with e | e
    · rw [e]; exact hne
    · rw [e]; intro e2; injection e2 with e2; have := hblkD.lt; omega
  rw [← List.map_append] at hown2
  refine hK _ _ (hblk2.cell 0) ?_
  clear hK K hrd hownD hblkD hbelD hg2 hat2 hneg hDD
  repeat (refine mix_plain rfl ?_; (first
    | (refine wpQuiet_nilCheck rfl (.tmp 4) rfl _ rfl ?_; simp only [Act.put, List.setIfInBounds_toArray, List.set_cons_zero, List.set_cons_succ])
    | go_big_quiet_step ((intro _; rfl))
    | go_big_quiet_step (fail)); refine wpQuiet_nil ?_)
  refine mix_done ?_
  simp only [List.drop_succ_cons, List.drop_zero]
  have hv1 : v'.cells = #[v'] ∧ v'.oneCell' = true := by
    rcases hown2.2 with ⟨rfl, _⟩ | ⟨g', cap', cur, rfl, _⟩ <;> exact ⟨rfl, rfl⟩
  refine wpList_store1 rfl rfl _ (.tmp 12) (.tmp 10) rfl g 0 rfl v' rfl _ _ hblk2 (by kernel_rfl) (by simp) hv1.1 hv1.2 ?_
  intro w3 hblk3 hon3
  have hown3 := own_grown hown2 hon3 (fun g' hg' e => by injection e with e; subst e; exact hne2 hg')
  have hbel3 := below_only hbel2 hon3 hg (Nat.le_trans hB hbel2.size)
  have e3 : (#[v] : Array Value).setIfInBounds 0 v' = #[v'] := by simp
  rw [e3] at hblk3
  clear hblk2 hown2 hon3 hbel2 hv1 e3
  go_wp2
  exact bodyPost_end (results_none rfl _ _ _) rfl ⟨rfl, ⟨g, v', rfl, hg, hblk3, hown3, hne2⟩, hbel3⟩
end Go.Proofs.YteonmcconpfkjaaDoor

/- The walks of codec's Writer with an exact frame: of what was there only its own block and its row's may turn. No condition. -/
namespace Go.Proofs.YteonmcconpfkjaaDoor
open Go Go.RowKit
attribute [local irreducible] mixW
attribute [local go_sem] n8_lo n8_hi n64_lo n64_hi
/-- Of what was there only block g and the row of v may have turned; u is where the row is now. -/
structure Two (w w' : World) (g : Nat) (v u : Value) : Prop where
  os : w'.os = w.os
  tape : w'.tape = w.tape
  output : w'.output = w.output
  size : w.heap.size ≤ w'.heap.size
  block : ∀ i, i < w.heap.size → i ≠ g → some i ≠ v.ownBlock → w'.heap[i]? = w.heap[i]?
  at_ : u.ownBlock = v.ownBlock ∨ ∃ k, w.heap.size ≤ k ∧ u.ownBlock = some k
section
variable {a w w' : World} {g B : Nat} {v u u' : Value}
theorem Two.refl (w : World) (g : Nat) (v : Value) : Two w w g v v := ⟨rfl, rfl, rfl, Nat.le_refl _, fun _ _ _ _ => rfl, .inl rfl⟩
theorem Two.drewN (h : Two a w g v u) (n : Nat) : Two a (w.drewN n) g v u := ⟨h.os, h.tape, h.output, h.size, h.block, h.at_⟩
theorem Two.below (h : Two a w g v u) (hb : Below w.heap.size w w') : Two a w' g v u :=
  ⟨hb.os.trans h.os, hb.tape.trans h.tape, hb.output.trans h.output, Nat.le_trans h.size hb.size, fun i hi h1 h2 => (hb.block i (Nat.lt_of_lt_of_le hi h.size)).trans (h.block i hi h1 h2), h.at_⟩
theorem Two.app (h : Two a w g v u) (hg : w.grownBy w' u.ownBlock) (hat : u'.ownBlock = u.ownBlock ∨ u'.ownBlock = some w.heap.size) : Two a w' g v u' := by
  have hs := h.size
  refine ⟨hg.os.trans h.os, hg.tape.trans h.tape, hg.output.trans h.output, Nat.le_trans h.size hg.size, fun i hi h1 h2 => (hg.block i (Nat.lt_of_lt_of_le hi h.size) (fun e => ?_)).trans (h.block i hi h1 h2), ?_⟩
  · rcases h.at_ with e1 | ⟨k, hk, e1⟩
    · exact h2 (e.trans e1)
    · rw [e1] at e; injection e with e; omega
  · rcases hat with e | e
    · rw [e]; exact h.at_
    · exact .inr ⟨_, h.size, e⟩
theorem Two.store (h : Two a w g v u) (hg : w.grownBy w' (some g)) : Two a w' g v u :=
  ⟨hg.os.trans h.os, hg.tape.trans h.tape, hg.output.trans h.output, Nat.le_trans h.size hg.size, fun i hi h1 h2 => (hg.block i (Nat.lt_of_lt_of_le hi h.size) (fun e => h1 (by injection e))).trans (h.block i hi h1 h2), h.at_⟩
theorem Two.trans (h : Two a w g v u) (h' : Two w w' g u u') : Two a w' g v u' := by
  have hs := h.size
  refine ⟨h'.os.trans h.os, h'.tape.trans h.tape, h'.output.trans h.output, Nat.le_trans h.size h'.size, fun i hi h1 h2 => (h'.block i (Nat.lt_of_lt_of_le hi h.size) h1 (fun e => ?_)).trans (h.block i hi h1 h2), ?_⟩
  · rcases h.at_ with e1 | ⟨k, hk, e1⟩
    · exact h2 (e.trans e1)
    · rw [e1] at e; injection e with e; omega
  · rcases h'.at_ with e | ⟨k, hk, e⟩
    · rw [e]; exact h.at_
    · exact .inr ⟨k, Nat.le_trans h.size hk, e⟩
theorem Two.bel (h : Two w w' g v u) (hg : B ≤ g) (hv : ∀ k, v.ownBlock = some k → B ≤ k) (hB : B ≤ w.heap.size) : Below B w w' :=
  ⟨h.os, h.tape, h.output, h.size, fun i hi => h.block i (by omega) (by omega) (fun e => by have := hv i e.symm; omega)⟩
theorem Two.blk {k : Nat} {t : TypeId} {cs : Array Value} (h : Two w w' g v u) (hk : Blk w k t cs) (h1 : k ≠ g) (h2 : some k ≠ v.ownBlock) : Blk w' k t cs := (h.block k hk.lt h1 h2).trans hk
theorem Two.own {base s n : Nat} {e : TypeId} {x : Value} {xs : List Value} (h : Two w w' g v u) (hx : w.ownsRow base e s x n xs) (h1 : x.ownBlock ≠ some g) (h2 : ∀ k, x.ownBlock = some k → v.ownBlock ≠ some k) : w'.ownsRow base e s x n xs := by
  refine ⟨hx.1, ?_⟩
  rcases hx.2 with h0 | ⟨k, cap, cur, rfl, hB, hh, h3⟩
  · exact .inl h0
  · refine .inr ⟨k, cap, cur, rfl, hB, ?_, h3⟩
    have hlt : k < w.heap.size := by
      rcases Nat.lt_or_ge k w.heap.size with h' | h'
      · exact h'
      · rw [Array.getElem?_eq_none h'] at hh; cases hh
    exact (h.block k hlt (fun e => h1 (by subst e; rfl)) (fun e => h2 k rfl e.symm)).trans hh
theorem Two.reads {A : Option Addr} {xs : List Value} (h : Two w w' g v u) (hr : Reads w w.heap.size A xs) (h1 : 0 < xs.length → ∀ b o, A = some ⟨b, o, none⟩ → b ≠ g ∧ some b ≠ v.ownBlock) : Reads w' w'.heap.size A xs := by
  intro hx
  obtain ⟨b, off, e, hb, hc⟩ := hr hx
  have hs := h.size
  refine ⟨b, off, e, by omega, fun j x hj => ?_⟩
  have hk := h.block b hb (h1 hx b off e).1 (h1 hx b off e).2
  exact (World.cell?_of_block (a := ⟨b, off + j, none⟩) hk).trans (hc j x hj)
end
/-- a Writer of the call's own in block g, its row v -/
def Wr (w : World) (B g : Nat) (v : Value) (bs : List UInt8) : Prop :=
  B ≤ g ∧ Blk w g 230 #[v] ∧ w.ownsRow B 5 1 v (bs.map v8).length (bs.map v8)
theorem own_ne {w : World} {g base s n : Nat} {t e : TypeId} {cs : Array Value} {v : Value} {xs : List Value} (hb : Blk w g t cs) (h : w.ownsRow base e s v n xs) (ht : t ≠ e) : v.ownBlock ≠ some g := by
  intro hv
  rcases h.2 with ⟨rfl, _⟩ | ⟨k, cap, cur, rfl, _, hh, _⟩
  · cases hv
  · have hk : k = g := by injection hv
    subst hk
    have : some (Obj.cells _ _ _) = some (Obj.cells _ _ _) := hb.symm.trans hh
    injection this with this
    injection this with _ h3 _
    exact ht h3
theorem Wr.ne {w : World} {B g : Nat} {v : Value} {bs : List UInt8} (h : Wr w B g v bs) : v.ownBlock ≠ some g := own_ne h.2.1 h.2.2 (by decide)
theorem Wr.wrt {w : World} {B g : Nat} {v : Value} {bs : List UInt8} (h : Wr w B g v bs) : Wrt w B (.pointer (some ⟨g, 0, none⟩)) bs := ⟨g, v, rfl, h.1, h.2.1, h.2.2, h.ne⟩
theorem Wr.below {w w' : World} {B g : Nat} {v : Value} {bs : List UInt8} (h : Wr w B g v bs) (hb : Below w.heap.size w w') : Wr w' B g v bs := ⟨h.1, h.2.1.below hb h.2.1.lt, own_below h.2.2 hb⟩
theorem Wr.low {w : World} {B g : Nat} {v : Value} {bs : List UInt8} (h : Wr w B g v bs) : ∀ k, v.ownBlock = some k → B ≤ k := by
  intro k hk
  rcases h.2.2.2 with ⟨rfl, _⟩ | ⟨k', cap, cur, rfl, hB, _⟩
  · cases hk
  · have : k' = k := by injection hk
    omega
theorem Wr.of_new {w : World} {B : Nat} {p : Value} (h : Wrt w B p []) : ∃ g v, p = .pointer (some ⟨g, 0, none⟩) ∧ Wr w B g v [] := by
  obtain ⟨g, v, rfl, hg, hb, ho, _⟩ := h
  exact ⟨g, v, rfl, hg, hb, ho⟩
set_option maxHeartbeats 1000000 in
set_option maxRecDepth 100000 in
theorem number_two (g : Nat) (v0 : Value) (bs : List UInt8) (n : UInt64) (k : Int) (hk : -9223372036854775808 ≤ k ∧ k ≤ 9223372036854775807) (w : World) (B : Nat) (hW : Wr w B g v0 bs) (hB : B ≤ w.heap.size) (hl : bs.length ≤ 140737488355264) :
    Calls Tryd.prog 70 #[.pointer (some ⟨g, 0, none⟩), .int .u64 (n64 n), .int .i64 k] w fun e w' => e = .returned (.tuple #[]) ∧ ∃ u, Wr w' B g u (bs ++ numB n (clamp8 k)) ∧ Two w w' g v0 u := by
  have hne := hW.ne
  obtain ⟨hg, hblk, hown⟩ := hW
  have s1 := clamp8_lo k
  have s8 := clamp8_hi k
  go_enter Tryd.func70, Tryd.ntmps70
  go_wp2_with fail
  refine (size_any k hk _).mono ?_
  rintro e w' ⟨rfl, rfl⟩
  obtain ⟨s, hs⟩ : ∃ s, clamp8 k = s := ⟨_, rfl⟩
  rw [hs] at s1 s8
  have Hs := Lib.hid hs
  rw [hs]
  clear hs
  go_wp2_with fail
  have h0 := numTo_0 n s
  have hE := Lib.hid (numTo_end n s)
  have hS := Lib.hid (numTo_step n s)
  have hb0 := Lib.hid (byte_val n)
  go_loopw [6] (fun iv wr => ∃ (j : Nat) (u : Value), j ≤ s ∧ iv = .int .i64 ((j : Int) - 1) ∧ Blk wr g 230 #[u] ∧ wr.ownsRow B 5 1 u ((bs ++ numTo n s j).map v8).length ((bs ++ numTo n s j).map v8) ∧ u.ownBlock ≠ some g ∧ Two w wr g v0 u) (fun iv _ => ((intOf iv) + 1).toNat)
  case atStart => exact ⟨s, v0, Nat.le_refl _, rfl, hblk, by rw [h0, List.append_nil]; exact hown, hne, Two.refl _ _ _⟩
  case round =>
    clear hblk hown hne h0
    obtain ⟨j, v, hj, rfl, hblk, hown, hne, htw⟩ := hrel
    by_cases h0 : j = 0
    · subst h0
      have hd : decide ((0 : Int) ≤ ((0 : Nat) : Int) - 1) = false := by decide
      rw [hE.out] at hown
      have HT := Lib.hid htw
      clear htw
      go_wp2
      refine bodyPost_end (results_none rfl _ _ _) rfl ⟨rfl, v, ⟨hg, hblk, by rw [Hs.out]; exact hown⟩, HT.out⟩
    · obtain ⟨i, rfl⟩ : ∃ i, j = i + 1 := ⟨j - 1, by omega⟩
      have hi8 : i < 8 := by omega
      have hst := Lib.hid (hS.out i (by omega))
      have hbv := hb0.out i
      have hlt : (numTo n s (i + 1)).length ≤ 8 := by unfold numTo; rw [List.length_take, numB_length]; omega
      have hlen : ((bs ++ numTo n s (i + 1)).map v8).length + 1 ≤ 140737488355328 := by simp; omega
      have e8 : IntKind.i64.wrap (8 * (i : Int)) = ((8 * i : Nat) : Int) := by rw [IntWalk.i64_in _ (by omega)]; omega
      rw [show (((i + 1 : Nat) : Int) - 1) = (i : Int) by omega]
      have Hlen := Lib.hid hlen
      have HT := Lib.hid htw
      clear hlen htw
      go_wp2
      have hW0 := hblk.cell 0
      refine wp_region_mixS 14 (.plain 0 <| .plain 1 <| .plain 2 <| .plain 3 <| .plain 4 <| .plain 5 <| .plain 6 <| .plain 7 <| .plain 8 <| .plain 9 <| .only 10 <| .only 11 <| .plain 12 <| .plain 13 <| .done) (fun w' => w'.cell? ⟨g, 0, none⟩ = some v) (by kernel_rfl) (by kernel_rfl) hW0 ?_
      repeat (refine mix_plain rfl ?_; (first
        | (refine wpQuiet_nilCheck rfl (.tmp 15) rfl _ rfl ?_; simp only [Act.put, List.setIfInBounds_toArray, List.set_cons_zero, List.set_cons_succ])
        | (refine wpQuiet_nilCheck rfl (.tmp 14) rfl _ rfl ?_; simp only [Act.put, List.setIfInBounds_toArray, List.set_cons_zero, List.set_cons_succ])
        | (refine wpQuiet_load1 rfl _ (.tmp 17) rfl _ rfl _ Tryd.underlying22 rfl v (fun _ h => h) ?_; simp only [Act.put, List.setIfInBounds_toArray, List.set_cons_zero, List.set_cons_succ])
        | go_big_quiet_step ((intro _; rfl))
        | go_big_quiet_step (fail)); refine wpQuiet_nil ?_)
      rw [hbv]
      obtain ⟨i0, hi, hz0, hz1, hz2⟩ := info_parts (by kernel_rfl : (Tryd.prog.info? 5).map (fun i => (i.zero, i.size, i.bytes)) = some (some (.int .u8 0), 1, 1))
      have hownD : (wr.drewN 1).ownsRow B 5 1 v ((bs ++ numTo n s (i + 1)).map v8).length ((bs ++ numTo n s (i + 1)).map v8) := hown
      have hblkD := hblk.drewN 1
      have htwD := HT.out.drewN 1
      have hsz := HT.out.size
      clear hown hblk hW0 e8 hbv
      have hBD : B ≤ (wr.drewN 1).heap.size := by show B ≤ wr.heap.size; omega
      generalize wr.drewN 1 = wd at hownD hblkD htwD hBD ⊢
      have hn1 := below_new1 wd (Obj.cells #[.int .u8 (n8 (byteAt n i))] 5)
      have hblkA := hblkD.below hn1 hblkD.lt
      have hownA := own_below hownD hn1
      have hrd : Reads (wd.alloc (Obj.cells #[.int .u8 (n8 (byteAt n i))] 5)) (wd.heap.size + 1) (some ⟨wd.heap.size, 0, none⟩) [v8 (byteAt n i)] := Reads.of_blk (Blk.new wd 5 #[v8 (byteAt n i)]) (by omega) 0
      have HTA := Lib.hid (htwD.below hn1)
      have hBA : B ≤ (wd.alloc (Obj.cells #[.int .u8 (n8 (byteAt n i))] 5)).heap.size := Nat.le_trans hBD hn1.size
      clear htwD
      refine mix_only_in rfl (fun K hK => ?_)
      go_wp2_with fail
      refine hK _ _ (hblkA.cell 0) ?_
      clear hK K
      refine mix_only_in rfl (fun K hK => ?_)
      refine wpList_appendR rfl (.tmp 18) (.tmp 24) _ rfl B 5 i0 _ 1 Tryd.underlying22 hi hz0 hz1 hz2 rfl v _ rfl hownA (wd.heap.size + 1) (some ⟨wd.heap.size, 0, none⟩) 1 1 [v8 (byteAt n i)] rfl hrd rfl (oneCell_v8 [byteAt n i]) (by have := Hlen.out; unfold maxLen; omega) (by have := Hlen.out; omega) hBA ?_
      intro v' w2 hown2 hg2 hat2
      simp only [Act.put, List.setIfInBounds_toArray, List.set_cons_zero, List.set_cons_succ]
      have hneg : some g ≠ v.ownBlock := fun e => hne e.symm
      have hblk2 := hblkA.grown hg2 hneg
      have HT2 := Lib.hid (HTA.out.app hg2 hat2)
      have hB2 : B ≤ w2.heap.size := Nat.le_trans hBA hg2.size
      rw [show (bs ++ numTo n s (i + 1)).map v8 ++ [v8 (byteAt n i)] = (bs ++ numTo n s i).map v8 by rw [hst.out, ← List.append_assoc, List.map_append (l₁ := bs ++ numTo n s (i + 1))]; rfl] at hown2
      have hne2 : v'.ownBlock ≠ some g := own_ne hblk2 hown2 (by decide)
      refine hK _ _ (hblk2.cell 0) ?_
      clear hK K hownA hrd hblkA hownD hblkD hg2 hat2 hneg hn1
      repeat (refine mix_plain rfl ?_; (first
        | (refine wpQuiet_nilCheck rfl (.tmp 14) rfl _ rfl ?_; simp only [Act.put, List.setIfInBounds_toArray, List.set_cons_zero, List.set_cons_succ])
        | go_big_quiet_step ((intro _; rfl))
        | go_big_quiet_step (fail)); refine wpQuiet_nil ?_)
      refine mix_done ?_
      simp only [List.drop_succ_cons, List.drop_zero]
      have hv1 : v'.cells = #[v'] ∧ v'.oneCell' = true := by
        rcases hown2.2 with ⟨rfl, _⟩ | ⟨g', cap', cur, rfl, _⟩ <;> exact ⟨rfl, rfl⟩
      refine wpList_store1 rfl rfl _ (.tmp 27) (.tmp 25) rfl g 0 rfl v' rfl _ _ hblk2 (by kernel_rfl) (by simp) hv1.1 hv1.2 ?_
      intro w3 hblk3 hon3
      have hown3 := own_grown hown2 hon3 (fun g' hg' e => by injection e with e; subst e; exact hne2 hg')
      have HT3 := Lib.hid (HT2.out.store hon3)
      have e3 : (#[v] : Array Value).setIfInBounds 0 v' = #[v'] := by simp
      rw [e3] at hblk3
      clear hblk2 hown2 hon3 hv1 e3 hst Hlen HT HTA HT2
      go_wp2
      go_roundw
      case rel => exact ⟨i, v', by omega, rfl, hblk3, hown3, hne2, HT3.out⟩
      case measure => simp [intOf]
end Go.Proofs.YteonmcconpfkjaaDoor

/- The walk of codec's Writer.Bytes with an exact frame. No condition. -/
namespace Go.Proofs.YteonmcconpfkjaaDoor
open Go Go.RowKit
attribute [local irreducible] mixW
attribute [local go_sem] n8_lo n8_hi n64_lo n64_hi
/-- a text as it is written: its length in two bytes, then itself -/
def txtB (xs : List UInt8) : List UInt8 := numB (UInt64.ofNat (xs.length % 65536)) 2 ++ xs.take (xs.length % 65536)
theorem bsl_reads {w : World} {B n c : Nat} {A : Option Addr} {bs : List UInt8} (h : BSl w B (.slice A n c) bs) : Reads w B A (bs.map v8) := by
  obtain ⟨A', c', e, _, _, hr⟩ := h
  injection e with e
  subst e
  exact hr
theorem run_cut_h {P : Program} {t e : TypeId} {A : Option Addr} {len cap : Nat} (ht : P.underlying t = some (.slice e)) (hs : (P.info? e).map (·.size) = some 1) (hi : Nat) (h2 : hi ≤ cap) (w : World) :
    (Instr.sliceAt t (.slice A len cap) none (some (.int .i64 hi)) none).run P w = .ok (.slice A hi cap) w := by
  obtain ⟨i, hi1, hi2⟩ : ∃ i, P.info? e = some i ∧ i.size = 1 := by
    cases hq : P.info? e with
    | none => rw [hq] at hs; cases hs
    | some i => rw [hq] at hs; exact ⟨i, rfl, by simpa using hs⟩
  have a2 : (hi : Int) ≤ (cap : Int) := by omega
  simp [Instr.sliceAt, Instr.slice, run_underlying ht, Instr.sliceBounds, run_sliceBound, hi1, hi2, sizeOf, typeInfo, a2]
  intro _
  cases A with
  | none => rfl
  | some x => simp [Addr.add]
theorem wpQuiet_cutH {P : Program} {ops : Array Oper} {C : World → Prop} {K : Act → Prop} {a : Act} {o : Oper} {rest : List Oper} (hw : Region.wanted o (yielded ops a.tmps) = true) (t : TypeId) (x h : Operand) (ho : o.op = .slice t x none (some h) none) (e : TypeId) (ht : P.underlying t = some (.slice e)) (hs : (P.info? e).map (·.size) = some 1)
    (A : Option Addr) (len cap hi : Nat) (hx : a.eval x = .slice A len cap) (hh : a.eval h = .int .i64 hi) (h2 : hi ≤ cap)
    (hk : wpQuiet P ops C K rest (a.put o.dst (.slice A hi cap))) : wpQuiet P ops C K (o :: rest) a :=
  wpQuiet_wanted hw _ (fun w _ => by
    unfold Oper.quietAt execOp
    simp only [ho, Option.map_some, Option.map_none, hx, hh, Sem.run_bind, run_cut_h ht hs hi h2, Result.andThen_ok, Sem.run_pure]
    exact ⟨rfl, rfl⟩) hk
theorem i64_and65535 (n : Int) : bits .and .i64 n 65535 = n % 65536 := by
  have h : (BitVec.ofInt 64 65535).toNat = 2 ^ 16 - 1 := by decide
  have key : (BitVec.ofInt 64 n &&& BitVec.ofInt 64 65535).toNat = (n % ((2 ^ 64 : Nat) : Int)).toNat % 2 ^ 16 := by
    rw [BitVec.toNat_and, BitVec.toNat_ofInt, h, Nat.and_two_pow_sub_one_eq_mod]
  show IntKind.i64.wrap ((BitVec.ofInt 64 n &&& BitVec.ofInt 64 65535).toNat : Nat) = n % 65536
  rw [key, IntKind.wrap_i64]
  omega
set_option maxHeartbeats 1000000 in
set_option maxRecDepth 100000 in
theorem wbytes_two (g : Nat) (v0 : Value) (bs : List UInt8) (A : Option Addr) (cap : Nat) (xs : List UInt8) (w : World) (B : Nat) (hW : Wr w B g v0 bs) (hB : B ≤ w.heap.size) (hu : BSl w w.heap.size (.slice A xs.length cap) xs)
    (hap : 0 < xs.length → ∀ b o, A = some ⟨b, o, none⟩ → b ≠ g ∧ some b ≠ v0.ownBlock) (hl : bs.length ≤ 140737488289728) :
    Calls Tryd.prog 65 #[.pointer (some ⟨g, 0, none⟩), .slice A xs.length cap] w fun e w' => e = .returned (.tuple #[]) ∧ ∃ u, Wr w' B g u (bs ++ txtB xs) ∧ Two w w' g v0 u := by
  obtain ⟨m, hm⟩ : ∃ m, xs.length % 65536 = m := ⟨_, rfl⟩
  have Ht : Hid (txtB xs = numB (UInt64.ofNat m) 2 ++ xs.take m) := Lib.hid (by rw [← hm]; rfl)
  have hand : bits .and .i64 (xs.length : Int) 65535 = (m : Int) := by rw [i64_and65535]; omega
  have hm1 : m ≤ 65535 := by omega
  have hm2 : m ≤ xs.length := by rw [← hm]; exact Nat.mod_le _ _
  have Hc : Hid ((m : Int) = n64 (UInt64.ofNat m)) := Lib.hid (by unfold n64; rw [UInt64.toNat_ofNat_of_lt' (by show _ < 18446744073709551616; omega)])
  have hrd := bsl_reads hu
  have hxc : xs.length ≤ cap := by obtain ⟨_, _, e, h, _⟩ := hu; injection e with _ _ e; subst e; exact h
  have hxl : cap ≤ 9223372036854775807 := by obtain ⟨_, _, e, _, h, _⟩ := hu; injection e with _ _ e; subst e; exact h
  obtain ⟨L, hL⟩ : ∃ L, xs.length = L := ⟨_, rfl⟩
  have HW := Lib.hid hW
  have HR := Lib.hid hrd
  have Hap := Lib.hid (show 0 < (xs.map v8).length → ∀ b o, A = some ⟨b, o, none⟩ → b ≠ g ∧ some b ≠ v0.ownBlock from fun h => hap (by rw [List.length_map] at h; exact h))
  have HL := Lib.hid hL
  rw [hL] at hand hm2 hxc ⊢
  clear hW hu hrd hap hm hL
  go_enter Tryd.func65, Tryd.ntmps65
  go_wp2_with fail
  have h2 : (numB (UInt64.ofNat m) 2).length = 2 := numB_length _ _
  rw [show Value.int IntKind.u64 (m : Int) = .int .u64 (n64 (UInt64.ofNat m)) from by rw [← Hc.out]]
  refine (number_two g v0 bs (UInt64.ofNat m) 2 (by decide) w B HW.out hB (by omega)).mono ?_
  rintro e w1 ⟨rfl, v, hW1, ht1⟩
  rw [show clamp8 2 = 2 from rfl] at hW1
  have hr1 := ht1.reads HR.out Hap.out
  have hB1 : B ≤ w1.heap.size := Nat.le_trans hB ht1.size
  have hl1 : (bs ++ numB (UInt64.ofNat m) 2).length ≤ 140737488289730 := by rw [List.length_append]; omega
  generalize hq : bs ++ numB (UInt64.ofNat m) 2 = bs1 at hW1 hl1
  have Hq := Lib.hid hq
  have hne := hW1.ne
  obtain ⟨hg, hblk, hown⟩ := hW1
  have HT1 := Lib.hid ht1
  have HR1 := Lib.hid hr1
  have Hc' := Lib.hid hown
  clear hown ht1 hr1 hq h2
  go_wp2_with fail
  refine wp_region_mixS 11 (.plain 0 <| .plain 1 <| .plain 2 <| .plain 3 <| .plain 4 <| .plain 5 <| .plain 6 <| .plain 7 <| .only 8 <| .plain 9 <| .plain 10 <| .done) (fun w' => w'.cell? ⟨g, 0, none⟩ = some v) (by kernel_rfl) (by kernel_rfl) ((hblk.drewN 1).cell 0) ?_
  have hblkD := hblk.drewN 1
  have hownD : (w1.drewN 1).ownsRow B 5 1 v (bs1.map v8).length (bs1.map v8) := Hc'.out
  have HT1D := Lib.hid (HT1.out.drewN 1)
  have HR1D := Lib.hid (HR1.out.drewN 1)
  have hBD : B ≤ (w1.drewN 1).heap.size := hB1
  clear hblk HT1 HR1 Hc'
  generalize w1.drewN 1 = wd at hblkD hownD HT1D HR1D hBD ⊢
  have HO := Lib.hid hownD
  clear hownD
  iterate 8 (refine mix_plain rfl ?_; (first
    | (refine wpQuiet_nilCheck rfl (.tmp 13) rfl _ rfl ?_; simp only [Act.put, List.setIfInBounds_toArray, List.set_cons_zero, List.set_cons_succ])
    | (refine wpQuiet_load1 rfl _ (.tmp 15) rfl _ rfl _ Tryd.underlying22 rfl v (fun _ h => h) ?_; simp only [Act.put, List.setIfInBounds_toArray, List.set_cons_zero, List.set_cons_succ])
    | (refine wpQuiet_cutH rfl 22 (.tmp 17) (.tmp 18) rfl 5 Tryd.underlying22 (by kernel_rfl) A L cap m rfl rfl (Nat.le_trans hm2 hxc) ?_; simp only [Act.put, List.setIfInBounds_toArray, List.set_cons_zero, List.set_cons_succ])
    | go_big_quiet_step ((intro _; rfl))
    | go_big_quiet_step (fail)); refine wpQuiet_nil ?_)
  refine mix_only_in rfl (fun K hK => ?_)
  obtain ⟨i0, hi, hz0, hz1, hz2⟩ := info_parts (by kernel_rfl : (Tryd.prog.info? 5).map (fun i => (i.zero, i.size, i.bytes)) = some (some (.int .u8 0), 1, 1))
  have hrd2 : Reads wd w1.heap.size A ((xs.take m).map v8) := by rw [List.map_take]; exact HR1D.out.take m
  have hlm : ((xs.take m).map v8).length = m := by rw [List.length_map, List.length_take, HL.out]; omega
  have hl2 : (bs1.map v8).length + m ≤ 140737488355265 := by rw [List.length_map]; omega
  have HL2 := Lib.hid (And.intro hl2 (And.intro hrd2 hlm))
  clear hl2 hrd2 hlm
  refine wpList_appendR rfl (.tmp 16) (.tmp 19) _ rfl B 5 i0 _ 1 Tryd.underlying22 hi hz0 hz1 hz2 rfl v _ rfl HO.out w1.heap.size A m cap ((xs.take m).map v8) rfl HL2.out.2.1 HL2.out.2.2 (oneCell_v8 _) (by have := HL2.out.1; unfold maxLen; omega) (by have := HL2.out.1; omega) hBD ?_
  intro v' w2 hown2 hg2 hat2
  simp only [Act.put, List.setIfInBounds_toArray, List.set_cons_zero, List.set_cons_succ]
  have hneg : some g ≠ v.ownBlock := fun e => hne e.symm
  have hblk2 := hblkD.grown hg2 hneg
  have HT2 := Lib.hid (HT1D.out.app hg2 hat2)
  rw [← List.map_append] at hown2
  have hne2 : v'.ownBlock ≠ some g := own_ne hblk2 hown2 (by decide)
  refine hK _ _ (hblk2.cell 0) ?_
  clear hK K hblkD hg2 hat2 hneg HO
  iterate 2 (refine mix_plain rfl ?_; (first
    | (refine wpQuiet_nilCheck rfl (.tmp 12) rfl _ rfl ?_; simp only [Act.put, List.setIfInBounds_toArray, List.set_cons_zero, List.set_cons_succ])
    | go_big_quiet_step ((intro _; rfl))
    | go_big_quiet_step (fail)); refine wpQuiet_nil ?_)
  refine mix_done ?_
  simp only [List.drop_succ_cons, List.drop_zero]
  have hv1 : v'.cells = #[v'] ∧ v'.oneCell' = true := by
    rcases hown2.2 with ⟨rfl, _⟩ | ⟨g', cap', cur, rfl, _⟩ <;> exact ⟨rfl, rfl⟩
  refine wpList_store1 rfl rfl _ (.tmp 22) (.tmp 20) rfl g 0 rfl v' rfl _ _ hblk2 (by kernel_rfl) (by simp) hv1.1 hv1.2 ?_
  intro w3 hblk3 hon3
  have hown3 := own_grown hown2 hon3 (fun g' hg' e => by injection e with e; subst e; exact hne2 hg')
  have HT3 := Lib.hid (HT2.out.store hon3)
  have e3 : (#[v] : Array Value).setIfInBounds 0 v' = #[v'] := by simp
  rw [e3] at hblk3
  have hbs : bs1 ++ xs.take m = bs ++ txtB xs := by rw [Ht.out, ← Hq.out, List.append_assoc]
  rw [hbs] at hown3
  have HF := Lib.hid (And.intro hblk3 hown3)
  clear hblk2 hown2 hon3 hv1 e3 HT2 hblk3 hown3 hbs
  go_wp2
  exact bodyPost_end (results_none rfl _ _ _) rfl ⟨rfl, v', ⟨hg, HF.out.1, HF.out.2⟩, HT3.out⟩
end Go.Proofs.YteonmcconpfkjaaDoor
