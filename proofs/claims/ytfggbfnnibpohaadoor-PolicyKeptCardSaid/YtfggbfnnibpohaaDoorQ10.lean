/- Texts that stand behind one another: PolD, PolN, Ops, Cut, SameI. No condition. -/
import Derived.Test.YtfggbfnnibpohaaDoorQ8
import Derived.Test.YtfggbfnnibpohaaDoorQ9
import Derived.LaidEqlPtr
import Derived.Test.YtfggbfnnibpohaaDoorQ1
import Derived.Test.YtfggbfnnibpohaaDoorQ7
import Derived.Test.YtfggbfnnibpohaaDoorQ5
import Derived.Test.YtfggbfnnibpohaaDoorQ6
import Derived.Lib.Hide
import Derived.BigQuiet
import Derived.Deep.DeepCutAuto
import Derived.Deep.DeepMust
import Derived.Outline
/- The walks of law13's denied and known. Conditions: the table of strconv; errors.errorType. -/
namespace Go.Proofs.YtfggbfnnibpohaaDoor
open Go Go.RowKit Go.Extern.Stop Go.Stop Go.Extern
/-- errors.errorType -/
def Ety (w : World) : Prop := w.cell? ⟨1, 0, none⟩ = some (.iface 230 (.agg #[.pointer (some ⟨6, 93, none⟩)]))
theorem Ety.lt {w : World} (h : Ety w) : 1 < w.heap.size := block_lt_of_cell (a := ⟨1, 0, none⟩) h
theorem Ety.below {w w' : World} (h : Ety w) (hb : Below w.heap.size w w') : Ety w' := (hb.cell (p := ⟨1, 0, none⟩) h.lt).trans h
theorem asRefP (p : Option Addr) (w : World) : (Instr.typeAssert (.iface 184 (.pointer p)) 93 184 true).run Tryd.prog w = .ok (.tuple #[.pointer p, .bool true]) w := by
  simp [Instr.typeAssert, run_underlying Tryd.underlying184]
theorem neText (w : World) (l : List UInt8) (h : 0 < l.length) : (binOp .neq 9 (strV l) (.string ⟨#[]⟩)).run Tryd.prog w = .ok (.bool true) w := by
  have := run_strNe w l []
  rw [show decide (l = []) = false from by rw [decide_eq_false_iff_not]; intro e; subst e; simp at h] at this
  exact this
theorem neGuard (w : World) (x y : Operand) (l : List UInt8) : (eqGuard .neq 9 x y (strV l) (.string ⟨#[]⟩)).run Tryd.prog w = .ok () w := by unfold strV; simp [eqGuard]
theorem eqPtr (a : Addr) (w : World) : (binOp .eql 184 (.pointer (some a)) (.pointer (some a))).run Tryd.prog w = .ok (.bool true) w := by
  obtain ⟨j, hj⟩ := Option.isSome_iff_exists.1 (by kernel_rfl : (Tryd.prog.info? 186).isSome = true)
  exact run_eql_ptr_same w a Tryd.underlying184 hj
theorem polAs_any (e t : Addr) (old : Value) (w : World) (hg : Ety w) (ht0 : w.cell? t = some old) (hf0 : w.frozen? t = false) :
    Calls Tryd.prog 128 #[.iface 184 (.pointer (some e)), .iface 222 (.pointer (some t))] w fun ev w' => ev = .returned (.bool true) ∧ w'.cell? t = some (.pointer (some e)) ∧ (∀ B, B ≤ t.block → B ≤ w.heap.size → Below B w w') := by
  have htl : t.block < w.heap.size := block_lt_of_cell ht0
  refine (polAs_hit e t old w hg ht0 hf0).mono ?_
  rintro ev w' ⟨rfl, rfl⟩
  refine ⟨rfl, World.cell?_setCell_same _ _ _ (u := old) ?_, fun B h1 h2 => ?_⟩
  · rw [World.cell?_alloc_lt _ _ t (by simp; omega), World.cell?_alloc_lt _ _ t (by simp; omega), World.cell?_alloc_lt _ _ t (by simp; omega), World.cell?_alloc_lt _ _ t htl]; exact ht0
  · refine Below.setCell ?_ h1 _
    exact ((((Below.refl B w).alloc h2 _).alloc (by simp; omega) _).alloc (by simp; omega) _).alloc (by simp; omega) _
set_option maxRecDepth 100000 in
set_option maxHeartbeats 4000000 in
theorem denied_any (g : Nat) (op role : Int) (ho : -9223372036854775808 ≤ op ∧ op ≤ 9223372036854775807) (hr : -9223372036854775808 ≤ role ∧ role ≤ 9223372036854775807) (w : World) (hz : Pz w) (he : Ety w) (hb : Blk w g 186 (refP op role)) :
    Calls Tryd.prog 101 #[.iface 184 (.pointer (some ⟨g, 0, none⟩)), .int .i64 op, .int .i64 role] w fun e w' => e = .returned (.bool true) ∧ Below w.heap.size w w' := by
  have eo : (op == op) = true := beq_self_eq_true op
  have er : (role == role) = true := beq_self_eq_true role
  have hn1 := below_new1 w (Obj.cells #[.pointer none] 184)
  have hnb := Blk.new w 184 #[.pointer none]
  have hbk := hb.below hn1 hb.lt
  have hz1 := hz.below hn1
  have he1 := he.below hn1
  have c0 : (w.alloc (Obj.cells #[.pointer none] 184)).cell? ⟨g, 0, none⟩ = some (.int .i64 op) := hbk.cell 0
  have c1 : (w.alloc (Obj.cells #[.pointer none] 184)).cell? ⟨g, 1, none⟩ = some (.int .i64 role) := hbk.cell 1
  have c2 : (w.alloc (Obj.cells #[.pointer none] 184)).cell? ⟨g, 2, none⟩ = some (.int .i64 21) := hbk.cell 2
  have hsz := hn1.size
  have HF := Lib.hid (And.intro hn1 (And.intro hnb (And.intro hbk (And.intro hz1 (And.intro he1 hsz)))))
  clear hb hz he hn1 hbk hz1 he1 hnb hsz
  have tA := asRefP
  go_enter Tryd.func101, Tryd.ntmps101
  go_wp2_with fail
  refine (polErr_any g op role ho hr _ HF.out.2.2.2.1 HF.out.2.2.1).mono ?_
  rintro e W2 ⟨l, rfl, hl0, hb2⟩
  have ne := neText W2 l hl0
  have ng := neGuard W2
  have hbk2 := HF.out.2.2.1.below hb2 HF.out.2.2.1.lt
  have hnb2 := HF.out.2.1.below hb2 HF.out.2.1.lt
  have he2 := HF.out.2.2.2.2.1.below hb2
  have hs2 := hb2.size
  have H2 := Lib.hid (And.intro hb2 (And.intro hbk2 (And.intro hnb2 (And.intro he2 hs2))))
  clear hb2 hbk2 hnb2 he2 hs2
  go_wp2_with fail
  refine (polIs_any g op role W2 H2.out.2.1).mono ?_
  rintro e _ ⟨rfl, rfl⟩
  go_wp2_with fail
  refine (polIsNo_any g op role W2 H2.out.2.1).mono ?_
  rintro e _ ⟨rfl, rfl⟩
  go_wp2_with fail
  refine (polAs_any ⟨g, 0, none⟩ ⟨w.heap.size, 0, none⟩ _ W2 H2.out.2.2.2.1 (H2.out.2.2.1.cell 0) (H2.out.2.2.1.frozen 0)).mono ?_
  rintro e W3 ⟨rfl, hc3, hb3⟩
  have eP := eqPtr ⟨g, 0, none⟩ W3
  go_wp2_with fail
  go_ret
  exact ⟨rfl, (HF.out.1.trans (H2.out.1.mono HF.out.2.2.2.2.2)).trans (hb3 w.heap.size (Nat.le_refl _) (Nat.le_trans HF.out.2.2.2.2.2 H2.out.2.2.2.2))⟩
set_option maxRecDepth 100000 in
set_option maxHeartbeats 4000000 in
theorem known13_any (w : World) (hz : Pz w) (he : Ety w) : Calls Tryd.prog 42 #[] w fun e w' => e = .returned (.bool true) ∧ Below w.heap.size w w' := by
  have m1 := may_any 2 1 w
  have m2 := may_any 1 1 w
  have m3 := decide_any 2 1 1 2 w
  rw [show mayP 2 1 = true from by decide] at m1
  rw [show mayP 1 1 = false from by decide] at m2
  rw [show decP 2 1 1 2 = false from by decide] at m3
  have H0 := Lib.hid (And.intro hz he)
  clear hz he
  go_enter Tryd.func42, Tryd.ntmps42
  go_wp2_with fail
  refine m1.mono ?_
  rintro e _ ⟨rfl, rfl⟩
  go_wp2_with fail
  refine m2.mono ?_
  rintro e _ ⟨rfl, rfl⟩
  go_wp2_with fail
  refine m3.mono ?_
  rintro e W1 ⟨v, rfl, ⟨h, rfl, hB, hk⟩, hb1⟩
  have H1 := Lib.hid (And.intro hk (And.intro hb1 (And.intro (H0.out.1.below hb1) (And.intro (H0.out.2.below hb1) hb1.size))))
  clear hk hb1
  go_wp2_with fail
  refine (denied_any h 1 2 (by omega) (by omega) W1 H1.out.2.2.1 H1.out.2.2.2.1 H1.out.1).mono ?_
  rintro e W2 ⟨rfl, hb2⟩
  go_wp2_with fail
  go_ret
  exact ⟨rfl, H1.out.2.1.trans (hb2.mono H1.out.2.2.2.2)⟩
end Go.Proofs.YtfggbfnnibpohaaDoor

/- The list of a role's operations, read from the front, in plain Lean. No condition. -/
namespace Go.Proofs.YtfggbfnnibpohaaDoor
theorem opsP_pre (role : Int) (n : Nat) : ∀ m : Nat, ∃ t, opsP role (n + m) = opsP role n ++ t
  | 0 => ⟨[], by simp⟩
  | m + 1 => by
    obtain ⟨t, ht⟩ := opsP_pre role n m
    refine ⟨t ++ (if mayP role (((n + m : Nat) : Int) + 1) then [((n + m : Nat) : Int) + 1] else []), ?_⟩
    rw [← Nat.add_assoc, opsP_succ, ht, List.append_assoc]
/-- what stands behind the operations up to n, where n + 1 is one of them -/
theorem opsP_at (role : Int) (n : Nat) (hn : n < 12) (h : mayP role ((n : Int) + 1) = true) : (opsP role 12)[(opsP role n).length]? = some ((n : Int) + 1) := by
  obtain ⟨t, ht⟩ := opsP_pre role (n + 1) (12 - (n + 1))
  rw [show n + 1 + (12 - (n + 1)) = 12 by omega, opsP_succ role n, if_pos h] at ht
  rw [ht, List.append_assoc, List.getElem?_append_right (Nat.le_refl _), Nat.sub_self]
  rfl
/-- no operation lies past the twelfth -/
theorem opsP_past (role : Int) : ∀ m : Nat, opsP role (12 + m) = opsP role 12
  | 0 => rfl
  | m + 1 => by
    rw [← Nat.add_assoc, opsP_succ, mayP_op role (by omega), opsP_past role m]
    simp
end Go.Proofs.YtfggbfnnibpohaaDoor

/- Rows of ints of the call's own; the walk of policy's Ops. No condition. -/
namespace Go.Proofs.YtfggbfnnibpohaaDoor
open Go Go.RowKit
def nI (n : Int) : Value := .int .i64 n
theorem nI_one (ns : List Int) : ∀ u ∈ ns.map nI, u.oneCell' = true := fun u hu => by
  rw [List.mem_map] at hu
  obtain ⟨n, _, rfl⟩ := hu
  rfl
theorem ownI_below {w w' : World} {base : Nat} {e : TypeId} {size n : Nat} {v : Value} {xs : List Value} (h : w.ownsRow base e size v n xs) (hb : Below w.heap.size w w') : w'.ownsRow base e size v n xs := by
  refine ⟨h.1, ?_⟩
  rcases h.2 with h0 | ⟨g, cap, cur, hv, hbs, hh, hrest⟩
  · exact .inl h0
  · exact .inr ⟨g, cap, cur, hv, hbs, Blk.below (show Blk w g e cur from hh) hb (Blk.lt (show Blk w g e cur from hh)), hrest⟩
/-- a row of ints of the call's own -/
def OwnI (w : World) (base : Nat) (v : Value) (ns : List Int) : Prop := w.ownsRow base 3 1 v (ns.map nI).length (ns.map nI)
theorem OwnI.nil (w : World) (base : Nat) : OwnI w base (.slice none 0 0) [] := World.ownsRow_nil _ _ _ _
theorem OwnI.slice {w : World} {base : Nat} {v : Value} {ns : List Int} (h : OwnI w base v ns) : ∃ A c, v = .slice A ns.length c ∧ Reads w w.heap.size A (ns.map nI) := by
  have hl : (ns.map nI).length = ns.length := List.length_map _
  rcases id h.2 with ⟨e, h0⟩ | ⟨g, cap, cur, e, _⟩
  · subst e
    have : ns = [] := List.eq_nil_of_length_eq_zero (by omega)
    subst this
    exact ⟨none, 0, rfl, Reads.of_own (n := 0) h⟩
  · subst e
    refine ⟨_, _, by rw [hl], ?_⟩
    exact Reads.of_own h
theorem OwnI.below {w w' : World} {base : Nat} {v : Value} {ns : List Int} (h : OwnI w base v ns) (hb : Below w.heap.size w w') : OwnI w' base v ns := ownI_below h hb
theorem wpList_appendI {wr : World} {ops : Array Oper} {rest : List Oper} {o : Oper} {a : Act} {Q : Exit → Act → World → Prop} (hgd : o.guard = none) (s x : Operand)
    (ho : o.op = .call { callee := .builtin .append, args := #[s, x], argTypes := #[89, 89] })
    (base : Nat) (v : Value) (ns : List Int) (hs : a.eval s = v) (hown : OwnI wr base v ns) (n : Int)
    (hx : a.eval x = .slice (some ⟨wr.heap.size, 0, none⟩) 1 1) (hlen : ns.length + 1 ≤ 100000000000) (hbase : base ≤ wr.heap.size) (w0 : World) (hbel : Below base w0 wr)
    (h : ∀ v' w', OwnI w' base v' (ns ++ [n]) → Below base w0 w' → wpList Tryd.prog ops Q rest (a.put o.dst v') w') :
    wpList Tryd.prog ops Q (o :: rest) a (wr.alloc (Obj.cells #[nI n] 3)) := by
  obtain ⟨i0, hi, hz0, hz1, hz2⟩ := info_parts (by kernel_rfl : (Tryd.prog.info? 3).map (fun i => (i.zero, i.size, i.bytes)) = some (some (.int .i64 0), 1, 8))
  have hbt : base ≤ (wr.alloc (Obj.cells #[nI n] 3)).heap.size := Nat.le_trans hbase (below_new1 wr _).size
  have hl : (ns.map nI).length = ns.length := List.length_map _
  refine wpList_appendR hgd s x _ ho base 3 i0 _ 8 Tryd.underlying89 hi hz0 hz1 hz2 rfl v (ns.map nI) hs (ownI_below hown (below_new1 wr _)) (wr.heap.size + 1) (some ⟨wr.heap.size, 0, none⟩) 1 1 [nI n] hx (show Reads (wr.alloc (Obj.cells #[nI n] 3)) (wr.heap.size + 1) (some ⟨wr.heap.size, 0, none⟩) [nI n] from Reads.of_blk (Blk.new wr 3 #[nI n]) (by omega) 0) rfl (fun u' hu' => by rw [List.mem_singleton] at hu'; subst hu'; rfl) (by unfold maxLen; omega) (by omega) hbt ?_
  intro v' w' hown' hg hat
  have e : ns.map nI ++ [nI n] = (ns ++ [n]).map nI := by simp
  rw [e] at hown'
  exact h v' w' hown' (below_own (hbel.trans ((below_new1 wr _).mono hbase)) (ownI_below hown (below_new1 wr _)) hg hbt)
set_option maxRecDepth 100000 in
set_option maxHeartbeats 2000000 in
theorem ops_any (role : Int) (w : World) : Calls Tryd.prog 37 #[.int .i64 role] w fun e w' => ∃ v, e = .returned v ∧ OwnI w' w.heap.size v (opsP role 12) ∧ Below w.heap.size w w' := by
  obtain ⟨i0, hi, hz0, hz1, hz2⟩ := info_parts (by kernel_rfl : (Tryd.prog.info? 3).map (fun i => (i.zero, i.size, i.bytes)) = some (some (.int .i64 0), 1, 8))
  go_enter Tryd.func37, Tryd.ntmps37
  go_wp2_with fail
  go_loopg [3, 4] 13 (fun gk lv nv wr => ∃ k : Nat, 13 ≤ k + gk ∧ k ≤ 12 ∧ nv = .int .i64 ((k : Int) + 1) ∧ OwnI wr w.heap.size lv (opsP role k) ∧ Below w.heap.size w wr)
  case atStart => exact ⟨0, by omega, by omega, rfl, OwnI.nil _ _, Below.refl _ _⟩
  case round =>
    obtain ⟨k, hk, hk12, rfl, hown, hbel⟩ := hrel
    have hl := opsP_len role k
    have HF := Lib.hid (And.intro hown (And.intro hbel (And.intro hbel.size (And.intro hl hk))))
    clear hown hbel hl hk
    by_cases h12 : k < 12
    · have m1 := may_any role ((k : Int) + 1) wr
      have hs := opsP_succ role k
      obtain ⟨b, hb⟩ : ∃ b, mayP role ((k : Int) + 1) = b := ⟨_, rfl⟩
      rw [hb] at m1 hs
      clear hb
      have hle : decide ((k : Int) + 1 ≤ 12) = true := decide_eq_true (by omega)
      cases b with
      | true =>
        go_wp2_with (first
          | (at_builtin; refine wpList_appendI rfl (.tmp 12) (.tmp 14) rfl w.heap.size _ _ rfl HF.out.1 ((k : Int) + 1) rfl (by have := HF.out.2.2.2.1; omega) HF.out.2.2.1 w HF.out.2.1 ?_; intro u1 w1 hown1 hb1)
          | (refine m1.mono ?_; rintro e _ ⟨rfl, rfl⟩))
        have hgk : 0 < gk := by have := HF.out.2.2.2.2; omega
        rw [if_pos trivial] at hs
        have HR := Lib.hid (show ∃ k' : Nat, 13 ≤ k' + (gk - 1) ∧ k' ≤ 12 ∧ Value.int .i64 ((k : Int) + 1 + 1) = .int .i64 ((k' : Int) + 1) ∧ OwnI w1 w.heap.size u1 (opsP role k') ∧ Below w.heap.size w w1 from
          ⟨k + 1, by have := HF.out.2.2.2.2; omega, by omega, by congr 1, by rw [hs]; exact hown1, hb1⟩)
        go_roundg (gk - 1)
        case measure => omega
        case rel => exact HR.out
      | false =>
        go_wp2_with (first
          | (refine m1.mono ?_; rintro e _ ⟨rfl, rfl⟩))
        have hgk : 0 < gk := by have := HF.out.2.2.2.2; omega
        rw [if_neg (by simp), List.append_nil] at hs
        have HR := Lib.hid (show ∃ k' : Nat, 13 ≤ k' + (gk - 1) ∧ k' ≤ 12 ∧ Value.int .i64 ((k : Int) + 1 + 1) = .int .i64 ((k' : Int) + 1) ∧ OwnI wr w.heap.size u3 (opsP role k') ∧ Below w.heap.size w wr from
          ⟨k + 1, by have := HF.out.2.2.2.2; omega, by omega, by congr 1, by rw [hs]; exact HF.out.1, HF.out.2.1⟩)
        go_roundg (gk - 1)
        case measure => omega
        case rel => exact HR.out
    · obtain rfl : k = 12 := by omega
      go_wp2_with fail
      go_ret
      exact ⟨_, rfl, HF.out.1, HF.out.2.1⟩
end Go.Proofs.YtfggbfnnibpohaaDoor

/- Cuts of slices whose elements are one cell each: the value under one name, in a quiet walk and in a forced one; what a cut of bytes reads. No condition. -/
namespace Go.Proofs.YtfggbfnnibpohaaDoor
open Go Go.RowKit
/-- a cut, as the model makes it -/
def cutV (A : Option Addr) (cap lo hi : Nat) : Value := .slice (if cap = lo then A else A.map (·.add lo)) (hi - lo) (cap - lo)
section
variable {P : Program} {t e : TypeId} {A : Option Addr} {len cap : Nat}
theorem run_cut_lh (ht : P.underlying t = some (.slice e)) (hs : (P.info? e).map (·.size) = some 1) (lo hi : Nat) (h1 : lo ≤ hi) (h2 : hi ≤ cap) (w : World) :
    (Instr.sliceAt t (.slice A len cap) (some (.int .i64 lo)) (some (.int .i64 hi)) none).run P w = .ok (cutV A cap lo hi) w := by
  obtain ⟨i, hi1, hi2⟩ : ∃ i, P.info? e = some i ∧ i.size = 1 := by
    cases hq : P.info? e with
    | none => rw [hq] at hs; cases hs
    | some i => rw [hq] at hs; exact ⟨i, rfl, by simpa using hs⟩
  have a1 : (lo : Int) ≤ (hi : Int) := by omega
  have a2 : (hi : Int) ≤ (cap : Int) := by omega
  simp [Instr.sliceAt, Instr.slice, run_underlying ht, Instr.sliceBounds, run_sliceBound, cutV, hi1, hi2, sizeOf, typeInfo, a1, a2]
theorem run_cut_l (ht : P.underlying t = some (.slice e)) (hs : (P.info? e).map (·.size) = some 1) (lo : Nat) (h1 : lo ≤ len) (w : World) :
    (Instr.sliceAt t (.slice A len cap) (some (.int .i64 lo)) none none).run P w = .ok (cutV A cap lo len) w := by
  obtain ⟨i, hi1, hi2⟩ : ∃ i, P.info? e = some i ∧ i.size = 1 := by
    cases hq : P.info? e with
    | none => rw [hq] at hs; cases hs
    | some i => rw [hq] at hs; exact ⟨i, rfl, by simpa using hs⟩
  have a1 : (lo : Int) ≤ (len : Int) := by omega
  simp [Instr.sliceAt, Instr.slice, run_underlying ht, Instr.sliceBounds, run_sliceBound, cutV, hi1, hi2, sizeOf, typeInfo, a1]
section
variable {ops : Array Oper} {C : World → Prop} {K : Act → Prop} {a : Act} {o : Oper} {rest : List Oper}
theorem wpQuiet_cutLH (hw : Region.wanted o (yielded ops a.tmps) = true) (t : TypeId) (x l h : Operand) (ho : o.op = .slice t x (some l) (some h) none) (e : TypeId) (ht : P.underlying t = some (.slice e)) (hs : (P.info? e).map (·.size) = some 1)
    (A : Option Addr) (len cap lo hi : Nat) (hx : a.eval x = .slice A len cap) (hl : a.eval l = .int .i64 lo) (hh : a.eval h = .int .i64 hi) (h1 : lo ≤ hi) (h2 : hi ≤ cap)
    (hk : wpQuiet P ops C K rest (a.put o.dst (cutV A cap lo hi))) : wpQuiet P ops C K (o :: rest) a :=
  wpQuiet_wanted hw _ (fun w _ => by
    unfold Oper.quietAt execOp
    simp only [ho, Option.map_some, Option.map_none, hx, hl, hh, Sem.run_bind, run_cut_lh ht hs lo hi h1 h2, Result.andThen_ok, Sem.run_pure]
    exact ⟨rfl, rfl⟩) hk
theorem wpQuiet_cutL (hw : Region.wanted o (yielded ops a.tmps) = true) (t : TypeId) (x l : Operand) (ho : o.op = .slice t x (some l) none none) (e : TypeId) (ht : P.underlying t = some (.slice e)) (hs : (P.info? e).map (·.size) = some 1)
    (A : Option Addr) (len cap lo : Nat) (hx : a.eval x = .slice A len cap) (hl : a.eval l = .int .i64 lo) (h1 : lo ≤ len)
    (hk : wpQuiet P ops C K rest (a.put o.dst (cutV A cap lo len))) : wpQuiet P ops C K (o :: rest) a :=
  wpQuiet_wanted hw _ (fun w _ => by
    unfold Oper.quietAt execOp
    simp only [ho, Option.map_some, Option.map_none, hx, hl, Sem.run_bind, run_cut_l ht hs lo h1, Result.andThen_ok, Sem.run_pure]
    exact ⟨rfl, rfl⟩) hk
theorem wpList_cutLH {w : World} {Q : Exit → Act → World → Prop} (hg : o.guard = none) (t : TypeId) (x l h : Operand) (ho : o.op = .slice t x (some l) (some h) none) (e : TypeId) (ht : P.underlying t = some (.slice e)) (hs : (P.info? e).map (·.size) = some 1)
    (A : Option Addr) (len cap lo hi : Nat) (hx : a.eval x = .slice A len cap) (hl : a.eval l = .int .i64 lo) (hh : a.eval h = .int .i64 hi) (h1 : lo ≤ hi) (h2 : hi ≤ cap)
    (hk : wpList P ops Q rest (a.put o.dst (cutV A cap lo hi)) w) : wpList P ops Q (o :: rest) a w :=
  wpList_plain hg fun K hK => by
    unfold Oper.wp execOp
    simp only [ho, Option.map_some, Option.map_none, hx, hl, hh, Sem.run_bind, run_cut_lh ht hs lo hi h1 h2, Result.andThen_ok, Sem.run_pure]
    exact hK _ _ hk
theorem wpList_cutL {w : World} {Q : Exit → Act → World → Prop} (hg : o.guard = none) (t : TypeId) (x l : Operand) (ho : o.op = .slice t x (some l) none none) (e : TypeId) (ht : P.underlying t = some (.slice e)) (hs : (P.info? e).map (·.size) = some 1)
    (A : Option Addr) (len cap lo : Nat) (hx : a.eval x = .slice A len cap) (hl : a.eval l = .int .i64 lo) (h1 : lo ≤ len)
    (hk : wpList P ops Q rest (a.put o.dst (cutV A cap lo len)) w) : wpList P ops Q (o :: rest) a w :=
  wpList_plain hg fun K hK => by
    unfold Oper.wp execOp
    simp only [ho, Option.map_some, Option.map_none, hx, hl, Sem.run_bind, run_cut_l ht hs lo h1, Result.andThen_ok, Sem.run_pure]
    exact hK _ _ hk
end
end
theorem wpQuiet_nilCheck {P : Program} {ops : Array Oper} {C : World → Prop} {K : Act → Prop} {a : Act} {o : Oper} {rest : List Oper} (hw : Region.wanted o (yielded ops a.tmps) = true) (x : Operand) (ho : o.op = .nilCheck x) (p : Addr) (hx : a.eval x = .pointer (some p))
    (hk : wpQuiet P ops C K rest (a.put o.dst (.pointer (some p)))) : wpQuiet P ops C K (o :: rest) a :=
  wpQuiet_wanted hw _ (fun w _ => by
    unfold Oper.quietAt execOp
    simp only [ho, hx, Sem.run_pure]
    exact ⟨rfl, rfl⟩) hk
/-- a cell is read, at any class that tells it -/
theorem wpQuiet_load1 {P : Program} {ops : Array Oper} {C : World → Prop} {K : Act → Prop} {a : Act} {o : Oper} {rest : List Oper} (hw : Region.wanted o (yielded ops a.tmps) = true) (ty : TypeId) (x : Operand) (ho : o.op = .load ty x) (p : Addr) (hx : a.eval x = .pointer (some p))
    (d : TypeDesc) (hu : P.underlying ty = some d) (hd : (match d with | .struct _ | .array _ _ => false | _ => true) = true) (v : Value) (hS : ∀ w, C w → w.cell? p = some v)
    (hk : wpQuiet P ops C K rest (a.put o.dst v)) : wpQuiet P ops C K (o :: rest) a :=
  wpQuiet_wanted hw _ (fun w hC => by
    have hc := hS w hC
    unfold Oper.quietAt execOp
    have ha : (isAgg ty).run P w = .ok false w := by
      cases d <;> simp_all [isAgg, run_underlying hu]
    simp only [ho, hx, Instr.loadAt, Instr.sureAddr, Sem.run_bind, Sem.run_pure, Result.andThen_ok, loadVar, ha]
    simp [hc, Oper.quietUpon]) hk
theorem cut_b {w : World} {B : Nat} {A : Option Addr} {len cap : Nat} {bs : List UInt8} (h : BSl w B (.slice A len cap) bs) (lo hi : Nat) (h1 : lo ≤ hi) (h2 : hi ≤ len) : BSl w B (cutV A cap lo hi) ((bs.take hi).drop lo) := by
  obtain ⟨A', cap', e1, hc1, hc2, hr⟩ := h
  injection e1 with e1 e2 e3
  subst e1; subst e3
  have hl : ((bs.take hi).drop lo).length = hi - lo := by simp; omega
  refine ⟨_, cap - lo, by unfold cutV; rw [hl], by omega, by omega, ?_⟩
  have := (hr.take hi).cut (k := lo) (cap := cap) (by simp; omega) (by simp; omega)
  rw [← List.map_take, ← List.map_drop] at this
  exact this
/-- the head of a slice of bytes -/
theorem head_b {w : World} {B : Nat} {A : Option Addr} {len cap : Nat} {bs : List UInt8} (h : BSl w B (.slice A len cap) bs) (hi : Nat) (h2 : hi ≤ len) : BSl w B (.slice A hi cap) (bs.take hi) := by
  obtain ⟨A', cap', e1, hc1, hc2, hr⟩ := h
  injection e1 with e1 e2 e3
  subst e1; subst e3
  have hl : (bs.take hi).length = hi := by simp; omega
  refine ⟨_, cap, by rw [hl], by omega, by omega, ?_⟩
  have := hr.take hi
  rw [← List.map_take] at this
  exact this
theorem take_b {w : World} {B : Nat} {A : Option Addr} {cap : Nat} {bs : List UInt8} (h : BSl w B (.slice A bs.length cap) bs) (k : Nat) : BSl w B (.slice A (bs.take k).length cap) (bs.take k) := by
  obtain ⟨A', cap', e1, hc1, hc2, hr⟩ := h
  injection e1 with e1 e2 e3
  subst e1; subst e3
  refine ⟨_, cap, rfl, by rw [List.length_take]; omega, hc2, ?_⟩
  rw [List.map_take]; exact hr.take k
/-- the world behind a point of a walk by plan -/
theorem mix_at {P : Program} {ops : Array Oper} {K : Act → World → Prop} {p : Plan} {a : Act} {w : World} (R : World → Prop) (hR : R w) (h : ∀ W, R W → mixW P ops K p (fun v => ∃ e, v = plus W e) a W) : mixW P ops K p (fun v => ∃ e, v = plus w e) a w := h w hR
end Go.Proofs.YtfggbfnnibpohaaDoor

/- Slices of numbers; the walk of deponentbook's Same at numbers. No condition. -/
namespace Go.Proofs.YtfggbfnnibpohaaDoor
open Go Go.RowKit
/-- a slice of numbers that reads ns, below block B -/
def ISl (w : World) (B : Nat) (v : Value) (ns : List Int) : Prop :=
  ∃ A cap, v = .slice A ns.length cap ∧ ns.length ≤ cap ∧ cap ≤ 9223372036854775807 ∧ Reads w B A (ns.map nI)
section
variable {w w' : World} {B B' : Nat} {v : Value} {ns : List Int}
theorem ISl.below (h : ISl w B v ns) (hb : Below B w w') : ISl w' B v ns := by
  obtain ⟨A, cap, h1, h2, h3, h4⟩ := h
  exact ⟨A, cap, h1, h2, h3, h4.below hb⟩
theorem ISl.more (h : ISl w B v ns) (hB : B ≤ B') : ISl w B' v ns := by
  obtain ⟨A, cap, h1, h2, h3, h4⟩ := h
  exact ⟨A, cap, h1, h2, h3, h4.more hB⟩
theorem ISl.next (h : ISl w w.heap.size v ns) (hb : Below w.heap.size w w') : ISl w' w'.heap.size v ns := (h.below hb).more hb.size
theorem ISl.nil_ : ISl w B (.slice none 0 0) [] := ⟨none, 0, rfl, Nat.le_refl _, by decide, Reads.nil_⟩
theorem ISl.of_own {base : Nat} {e : TypeId} {n : Nat} (h : w.ownsRow base e 1 v n (ns.map nI)) : ISl w w.heap.size v ns := by
  have hn : ns.length = n := by have := h.1; rw [List.length_map] at this; omega
  subst hn
  rcases h.2 with ⟨rfl, h0⟩ | ⟨g, cap, cur, hv, _, _, hnc, hcap, _, _⟩
  · have := List.eq_nil_of_length_eq_zero h0
    subst this
    exact ISl.nil_
  · subst hv
    exact ⟨_, cap, rfl, hnc, hcap, Reads.of_own h⟩
end
theorem ISl.cellAt {w : World} {A : Option Addr} {n cap : Nat} {ns : List Int} (h : ISl w w.heap.size (.slice A n cap) ns) (k : Nat) (hk : k < n) :
    ∃ b off, A = some ⟨b, off, none⟩ ∧ b < w.heap.size ∧ ∀ j, j < n → w.cell? ⟨b, off + j, none⟩ = some (.int .i64 (ns.getD j 0)) := by
  obtain ⟨A', cap', e1, hc1, hc2, hr⟩ := h
  injection e1 with e1 e2 e3
  subst e1; subst e3; subst e2
  obtain ⟨b, off, rfl, hb, hc⟩ := hr (by rw [List.length_map]; omega)
  refine ⟨b, off, rfl, hb, fun j hj => hc j _ ?_⟩
  rw [List.getElem?_map, List.getElem?_eq_getElem hj, List.getD_eq_getElem?_getD, List.getElem?_eq_getElem hj]; rfl
theorem takeI_same (xs ys : List Int) (k : Nat) (hx : k < xs.length) (hy : k < ys.length) (h : xs.take k = ys.take k) (he : xs.getD k 0 = ys.getD k 0) : xs.take (k + 1) = ys.take (k + 1) := by
  rw [List.take_succ_eq_append_getElem hx, List.take_succ_eq_append_getElem hy, h]
  simp [List.getD_eq_getElem?_getD, hx, hy] at he
  rw [he]
theorem takeI_apart (xs ys : List Int) (k : Nat) (he : xs.getD k 0 ≠ ys.getD k 0) : decide (xs = ys) = false := by
  rw [decide_eq_false_iff_not]; rintro rfl; exact he rfl
set_option maxRecDepth 100000 in
theorem sameI_any (u v : Value) (xs ys : List Int) (w : World) (hu : ISl w w.heap.size u xs) (hv : ISl w w.heap.size v ys) :
    Calls Tryd.prog 41 #[u, v] w fun e w' => e = .returned (.bool (decide (xs = ys))) ∧ Below w.heap.size w w' := by
  obtain ⟨A1, c1, rfl, h11, h12, hr1⟩ := hu
  obtain ⟨A2, c2, rfl, h21, h22, hr2⟩ := hv
  have hu : ISl w w.heap.size (.slice A1 xs.length c1) xs := ⟨A1, c1, rfl, h11, h12, hr1⟩
  have hv : ISl w w.heap.size (.slice A2 ys.length c2) ys := ⟨A2, c2, rfl, h21, h22, hr2⟩
  clear hr1 hr2
  by_cases hl : xs.length = ys.length
  · have hD := Lib.hid (show xs.take xs.length = ys.take xs.length → decide (xs = ys) = true from fun h => by rw [List.take_length, hl, List.take_length] at h; exact decide_eq_true h)
    have hL := Lib.hid hl
    have hA := Lib.hid (takeI_apart xs ys)
    have hS := Lib.hid (takeI_same xs ys)
    rw [← hl] at hv ⊢
    have h21' : xs.length ≤ c2 := by omega
    generalize decide (xs = ys) = d at hD hA ⊢
    clear hl h21
    go_enter Tryd.func41, Tryd.ntmps41
    go_wp2
    go_loopw [5] (fun i wr => ∃ k : Nat, k ≤ xs.length ∧ i = .int .i64 k ∧ xs.take k = ys.take k ∧ Below w.heap.size w wr) (fun i _ => xs.length - (intOf i).toNat)
    case atStart => exact ⟨0, by omega, rfl, by simp, Below.refl _ _⟩
    case round =>
      obtain ⟨k, hk, rfl, ht, hbel⟩ := hrel
      have Ht := Lib.hid ht
      clear ht
      by_cases hlt : k < xs.length
      · obtain ⟨b1, o1, rfl, hb1, hc1⟩ := (hu.next hbel).cellAt k hlt
        obtain ⟨b2, o2, rfl, hb2, hc2⟩ := (hv.next hbel).cellAt k hlt
        have g1 := hc1 k hlt
        have g2 := hc2 k hlt
        clear hc1 hc2 hu hv
        by_cases he : xs.getD k 0 = ys.getD k 0
        · have hs := Lib.hid (hS.out k hlt (by have := hL.out; omega) Ht.out he)
          have he' : (xs.getD k 0 != ys.getD k 0) = false := by rw [he]; simp
          generalize xs.getD k 0 = x1 at g1 he'
          generalize ys.getD k 0 = x2 at g2 he'
          clear he
          go_wp2
          go_quiet (fail)
          go_wp2
          go_roundw
          case rel => exact ⟨k + 1, by omega, by go_num, hs.out, below_drewN hbel nq⟩
          case measure => simp [intOf]; omega
        · have he' : (xs.getD k 0 != ys.getD k 0) = true := by rw [bne_iff_ne]; exact he
          have hd := Lib.hid (hA.out k he)
          generalize xs.getD k 0 = x1 at g1 he'
          generalize ys.getD k 0 = x2 at g2 he'
          clear he
          go_wp2
          go_quiet (fail)
          go_wp2
          go_ret
          rw [hd.out]
          exact ⟨rfl, below_drewN hbel nq⟩
      · have ek : k = xs.length := by omega
        have hd := Lib.hid (hD.out (by rw [← ek]; exact Ht.out))
        go_wp2
        go_ret
        rw [hd.out]
        exact ⟨rfl, hbel⟩
  · have hd := Lib.hid (show decide (xs = ys) = false from decide_eq_false fun e => hl (by rw [e]))
    have hl' : ((xs.length : Int) != (ys.length : Int)) = true := by rw [bne_iff_ne]; omega
    clear hl hu hv
    go_enter Tryd.func41, Tryd.ntmps41
    go_wp2
    go_ret
    rw [hd.out]
    exact ⟨rfl, Below.refl _ _⟩
end Go.Proofs.YtfggbfnnibpohaaDoor
