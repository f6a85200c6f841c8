/- Texts that stand behind one another: PolD. No condition. -/
import Derived.Test.YtlmboaenmdcpbaaDoorQ7
import Derived.Test.YtlmboaenmdcpbaaDoorQ8
import Derived.LaidEqlPtr
/- The walks of law13's denied and known. Conditions: the table of strconv; errors.errorType. -/
namespace Go.Proofs.YtlmboaenmdcpbaaDoor
open Go Go.RowKit Go.Extern.Stop Go.Stop Go.Extern
/-- errors.errorType -/
def Ety (w : World) : Prop := w.cell? ⟨0, 0, none⟩ = some (.iface 143 (.agg #[.pointer (some ⟨6, 23, none⟩)]))
theorem Ety.lt {w : World} (h : Ety w) : 0 < w.heap.size := block_lt_of_cell (a := ⟨0, 0, none⟩) h
theorem Ety.below {w w' : World} (h : Ety w) (hb : Below w.heap.size w w') : Ety w' := (hb.cell (p := ⟨0, 0, none⟩) h.lt).trans h
theorem asRefP (p : Option Addr) (w : World) : (Instr.typeAssert (.iface 76 (.pointer p)) 23 76 true).run Tryd.prog w = .ok (.tuple #[.pointer p, .bool true]) w := by
  simp [Instr.typeAssert, run_underlying Tryd.underlying76]
theorem neText (w : World) (l : List UInt8) (h : 0 < l.length) : (binOp .neq 9 (strV l) (.string ⟨#[]⟩)).run Tryd.prog w = .ok (.bool true) w := by
  have := run_strNe w l []
  rw [show decide (l = []) = false from by rw [decide_eq_false_iff_not]; intro e; subst e; simp at h] at this
  exact this
theorem neGuard (w : World) (x y : Operand) (l : List UInt8) : (eqGuard .neq 9 x y (strV l) (.string ⟨#[]⟩)).run Tryd.prog w = .ok () w := by unfold strV; simp [eqGuard]
theorem eqPtr (a : Addr) (w : World) : (binOp .eql 76 (.pointer (some a)) (.pointer (some a))).run Tryd.prog w = .ok (.bool true) w := by
  obtain ⟨j, hj⟩ := Option.isSome_iff_exists.1 (by kernel_rfl : (Tryd.prog.info? 78).isSome = true)
  exact run_eql_ptr_same w a Tryd.underlying76 hj
theorem polAs_any (e t : Addr) (old : Value) (w : World) (hg : Ety w) (ht0 : w.cell? t = some old) (hf0 : w.frozen? t = false) :
    Calls Tryd.prog 38 #[.iface 76 (.pointer (some e)), .iface 82 (.pointer (some t))] w fun ev w' => ev = .returned (.bool true) ∧ w'.cell? t = some (.pointer (some e)) ∧ (∀ B, B ≤ t.block → B ≤ w.heap.size → Below B w w') := by
  have htl : t.block < w.heap.size := block_lt_of_cell ht0
  refine (polAs_hit e t old w hg ht0 hf0).mono ?_
  rintro ev w' ⟨rfl, rfl⟩
  refine ⟨rfl, World.cell?_setCell_same _ _ _ (u := old) ?_, fun B h1 h2 => ?_⟩
  · rw [World.cell?_alloc_lt _ _ t (by simp; omega), World.cell?_alloc_lt _ _ t (by simp; omega), World.cell?_alloc_lt _ _ t (by simp; omega), World.cell?_alloc_lt _ _ t htl]; exact ht0
  · refine Below.setCell ?_ h1 _
    exact ((((Below.refl B w).alloc h2 _).alloc (by simp; omega) _).alloc (by simp; omega) _).alloc (by simp; omega) _
set_option maxRecDepth 100000 in
set_option maxHeartbeats 4000000 in
theorem denied_any (g : Nat) (op role : Int) (ho : -9223372036854775808 ≤ op ∧ op ≤ 9223372036854775807) (hr : -9223372036854775808 ≤ role ∧ role ≤ 9223372036854775807) (w : World) (hz : Pz w) (he : Ety w) (hb : Blk w g 78 (refP op role)) :
    Calls Tryd.prog 15 #[.iface 76 (.pointer (some ⟨g, 0, none⟩)), .int .i64 op, .int .i64 role] w fun e w' => e = .returned (.bool true) ∧ Below w.heap.size w w' := by
  have eo : (op == op) = true := beq_self_eq_true op
  have er : (role == role) = true := beq_self_eq_true role
  have hn1 := below_new1 w (Obj.cells #[.pointer none] 76)
  have hnb := Blk.new w 76 #[.pointer none]
  have hbk := hb.below hn1 hb.lt
  have hz1 := hz.below hn1
  have he1 := he.below hn1
  have c0 : (w.alloc (Obj.cells #[.pointer none] 76)).cell? ⟨g, 0, none⟩ = some (.int .i64 op) := hbk.cell 0
  have c1 : (w.alloc (Obj.cells #[.pointer none] 76)).cell? ⟨g, 1, none⟩ = some (.int .i64 role) := hbk.cell 1
  have c2 : (w.alloc (Obj.cells #[.pointer none] 76)).cell? ⟨g, 2, none⟩ = some (.int .i64 21) := hbk.cell 2
  have hsz := hn1.size
  have HF := Lib.hid (And.intro hn1 (And.intro hnb (And.intro hbk (And.intro hz1 (And.intro he1 hsz)))))
  clear hb hz he hn1 hbk hz1 he1 hnb hsz
  have tA := asRefP
  go_enter Tryd.func15, Tryd.ntmps15
  go_wp2_with fail
  refine (polErr_any g op role ho hr _ HF.out.2.2.2.1 HF.out.2.2.1).mono ?_
  rintro e W2 ⟨l, rfl, hl0, hb2⟩
  have ne := neText W2 l hl0
  have ng := neGuard W2
  have hbk2 := HF.out.2.2.1.below hb2 HF.out.2.2.1.lt
  have hnb2 := HF.out.2.1.below hb2 HF.out.2.1.lt
  have he2 := HF.out.2.2.2.2.1.below hb2
  have hs2 := hb2.size
  have H2 := Lib.hid (And.intro hb2 (And.intro hbk2 (And.intro hnb2 (And.intro he2 hs2))))
  clear hb2 hbk2 hnb2 he2 hs2
  go_wp2_with fail
  refine (polIs_any g op role W2 H2.out.2.1).mono ?_
  rintro e _ ⟨rfl, rfl⟩
  go_wp2_with fail
  refine (polIsNo_any g op role W2 H2.out.2.1).mono ?_
  rintro e _ ⟨rfl, rfl⟩
  go_wp2_with fail
  refine (polAs_any ⟨g, 0, none⟩ ⟨w.heap.size, 0, none⟩ _ W2 H2.out.2.2.2.1 (H2.out.2.2.1.cell 0) (H2.out.2.2.1.frozen 0)).mono ?_
  rintro e W3 ⟨rfl, hc3, hb3⟩
  have eP := eqPtr ⟨g, 0, none⟩ W3
  go_wp2_with fail
  go_ret
  exact ⟨rfl, (HF.out.1.trans (H2.out.1.mono HF.out.2.2.2.2.2)).trans (hb3 w.heap.size (Nat.le_refl _) (Nat.le_trans HF.out.2.2.2.2.2 H2.out.2.2.2.2))⟩
set_option maxRecDepth 100000 in
set_option maxHeartbeats 4000000 in
theorem known13_any (w : World) (hz : Pz w) (he : Ety w) : Calls Tryd.prog 14 #[] w fun e w' => e = .returned (.bool true) ∧ Below w.heap.size w w' := by
  have m1 := may_any 2 1 w
  have m2 := may_any 1 1 w
  have m3 := decide_any 2 1 1 2 w
  rw [show mayP 2 1 = true from by decide] at m1
  rw [show mayP 1 1 = false from by decide] at m2
  rw [show decP 2 1 1 2 = false from by decide] at m3
  have H0 := Lib.hid (And.intro hz he)
  clear hz he
  go_enter Tryd.func14, Tryd.ntmps14
  go_wp2_with fail
  refine m1.mono ?_
  rintro e _ ⟨rfl, rfl⟩
  go_wp2_with fail
  refine m2.mono ?_
  rintro e _ ⟨rfl, rfl⟩
  go_wp2_with fail
  refine m3.mono ?_
  rintro e W1 ⟨v, rfl, ⟨h, rfl, hB, hk⟩, hb1⟩
  have H1 := Lib.hid (And.intro hk (And.intro hb1 (And.intro (H0.out.1.below hb1) (And.intro (H0.out.2.below hb1) hb1.size))))
  clear hk hb1
  go_wp2_with fail
  refine (denied_any h 1 2 (by omega) (by omega) W1 H1.out.2.2.1 H1.out.2.2.2.1 H1.out.1).mono ?_
  rintro e W2 ⟨rfl, hb2⟩
  go_wp2_with fail
  go_ret
  exact ⟨rfl, H1.out.2.1.trans (hb2.mono H1.out.2.2.2.2)⟩
end Go.Proofs.YtlmboaenmdcpbaaDoor
