/- Texts that stand behind one another: RdF, Kn2, TwoR. No condition. -/
import Derived.Test.YteonmcconpfkjaaDoorQ14
import Derived.Test.YteonmcconpfkjaaDoorQ9
/- The walk of the laws' refused. Condition: the table of strconv. -/
namespace Go.Proofs.YteonmcconpfkjaaDoor
open Go Go.RowKit
attribute [local irreducible] mixW
section
variable {ops : Array Oper} {C : World → Prop} {Q : Act → Prop} {a : Act} {o : Oper} {rest : List Oper}
theorem wpQuiet_eqErrno (hw : Region.wanted o (yielded ops a.tmps) = true) (x y : Operand) (yt : TypeId) (ho : o.op = .binOp .eql 129 x y yt) (k : Int) (hx : a.eval x = .iface 48 (.int .i64 k)) (hy : a.eval y = .iface 48 (.int .i64 k))
    (h : wpQuiet Tryd.prog ops C Q rest (a.put o.dst (.bool true))) : wpQuiet Tryd.prog ops C Q (o :: rest) a :=
  wpQuiet_wanted hw (.bool true) (fun w hC => by
    have hg : (eqGuard .eql 129 x y (.iface 48 (.int .i64 k)) (.iface 48 (.int .i64 k))).run Tryd.prog w = .ok () w := by simp [eqGuard]
    unfold Oper.quietAt execOp
    simp only [ho, hx, hy, Sem.run_bind, hg, run_eql_errno k w, Result.andThen_ok, Sem.run_pure]
    exact ⟨rfl, rfl⟩) h
end
theorem asRefusal (p : Option Addr) (w : World) : (Instr.typeAssert (.iface 231 (.pointer p)) 129 231 true).run Tryd.prog w = .ok (.tuple #[.pointer p, .bool true]) w := by
  simp [Instr.typeAssert, run_underlying Tryd.underlying231]
set_option maxRecDepth 100000 in
theorem refused_nil (at_ : Int) (w : World) : Calls Tryd.prog 74 #[.nilIface, .int .i64 at_, .int .i64 0] w fun e w' => e = .returned (.bool true) ∧ w = w' := by
  go_enter Tryd.func74, Tryd.ntmps74
  go_wp2_with fail
  go_ret
  exact ⟨rfl, rfl⟩
set_option maxRecDepth 100000 in
set_option maxHeartbeats 4000000 in
theorem refused_some (g pos k : Nat) (hp : pos ≤ 9223372036854775807) (hk : k ≤ 30) (hk0 : k ≠ 0) (w : World) (hz : Pz w) (hb : Blk w g 236 #[.int .i64 (pos : Int), .int .i64 (k : Int)]) :
    Calls Tryd.prog 74 #[.iface 231 (.pointer (some ⟨g, 0, none⟩)), .int .i64 (pos : Int), .int .i64 (k : Int)] w fun e w' => e = .returned (.bool true) ∧ Below w.heap.size w w' := by
  have e0 : ((k : Int) == 0) = false := by rw [beq_eq_false_iff_ne]; omega
  go_enter Tryd.func74, Tryd.ntmps74
  have tA := asRefusal (some ⟨g, 0, none⟩) w
  go_upto_region 4 with fail
  clear e0 tA
  refine wp_region_mixP (.plain 0 <| .plain 1 <| .plain 2 <| .plain 3 <| .plain 4 <| .plain 5 <| .plain 6 <| .plain 7 <| .plain 8 <| .plain 9 <| .plain 10 <| .plain 11 <| .plain 12 <| .plain 13 <| .plain 14 <| .plain 15 <| .plain 16 <| .plain 17 <| .plain 18 <| .plain 19 <| .plain 20 <| .plain 21 <| .plain 22 <| .only 23 <| .plain 24 <| .plain 25 <| .plain 26 <| .plain 27 <| .plain 29 <| .plain 30 <| .plain 31 <| .plain 32 <| .plain 33 <| .only 28 <| .plain 34 <| .plain 35 <| .plain 36 <| .plain 37 <| .plain 38 <| .plain 39 <| .only 40 <| .plain 41 <| .plain 42 <| .done) (by kernel_rfl) (by kernel_rfl) (fun W1 hb1 => ?_)
  have hbk := hb.below hb1 hb.lt
  have c0 : ∀ z, (plus W1 z).cell? ⟨g, 0, none⟩ = some (.int .i64 (pos : Int)) := fun z => (hbk.plus z).cell 0
  have c1 : ∀ z, (plus W1 z).cell? ⟨g, 1, none⟩ = some (.int .i64 (k : Int)) := fun z => (hbk.plus z).cell 1
  have hz1 := hz.below hb1
  clear hb hz
  iterate 23 (refine mix_plain rfl ?_; (first
    | (refine wpQuiet_nilCheck rfl (.tmp 24) rfl _ rfl ?_; simp only [Act.put, List.setIfInBounds_toArray, List.set_cons_zero, List.set_cons_succ])
    | (refine wpQuiet_nilCheck rfl (.tmp 32) rfl _ rfl ?_; simp only [Act.put, List.setIfInBounds_toArray, List.set_cons_zero, List.set_cons_succ])
    | (refine wpQuiet_load1 rfl _ (.tmp 26) rfl ⟨g, 0, none⟩ rfl _ Tryd.underlying3 rfl _ (fun _ ⟨e, he⟩ => by rw [he]; exact c0 e) ?_; simp only [Act.put, List.setIfInBounds_toArray, List.set_cons_zero, List.set_cons_succ])
    | (refine wpQuiet_load1 rfl _ (.tmp 34) rfl ⟨g, 1, none⟩ rfl _ Tryd.underlying48 rfl _ (fun _ ⟨e, he⟩ => by rw [he]; exact c1 e) ?_; simp only [Act.put, List.setIfInBounds_toArray, List.set_cons_zero, List.set_cons_succ])
    | go_big_quiet_step (fail)); refine wpQuiet_nil ?_)
  try simp only [beq_self_eq_true]
  refine mix_only rfl (fun K hK => ?_)
  go_wp2_with fail
  refine (refErr_any g pos k hp hk W1 hz1 hbk).mono ?_
  rintro e W2 ⟨l, rfl, hl, hb2⟩
  go_wp2_with fail
  refine hK _ _ hb2 ?_
  clear hK K c0 c1 hz1
  have hbk2 := hbk.below hb2 hbk.lt
  have c1 : ∀ z, (plus W2 z).cell? ⟨g, 1, none⟩ = some (.int .i64 (k : Int)) := fun z => (hbk2.plus z).cell 1
  have hne : decide (l = []) = false := by
    rw [decide_eq_false_iff_not]
    intro h
    rw [h] at hl
    exact absurd hl (by decide)
  clear hbk
  iterate 9 (refine mix_plain rfl ?_; (first
    | (refine wpQuiet_neStr rfl (.tmp 41) (.const (.string _)) _ rfl l [] rfl rfl _ hne ?_; simp only [Act.put, List.setIfInBounds_toArray, List.set_cons_zero, List.set_cons_succ]; try simp only [Bool.not_false])
    | (refine wpQuiet_nilCheck rfl (.tmp 47) rfl _ rfl ?_; simp only [Act.put, List.setIfInBounds_toArray, List.set_cons_zero, List.set_cons_succ])
    | (refine wpQuiet_load1 rfl _ (.tmp 49) rfl ⟨g, 1, none⟩ rfl _ Tryd.underlying48 rfl _ (fun _ ⟨e, he⟩ => by rw [he]; exact c1 e) ?_; simp only [Act.put, List.setIfInBounds_toArray, List.set_cons_zero, List.set_cons_succ])
    | go_big_quiet_step (fail)); refine wpQuiet_nil ?_)
  refine mix_only rfl (fun K hK => ?_)
  go_wp2_with fail
  refine (unwrap_any g pos k W2 hbk2).mono ?_
  rintro e _ ⟨rfl, rfl⟩
  go_wp2_with fail
  refine hK _ _ (Below.refl _ _) ?_
  clear hK K hne
  iterate 6 (refine mix_plain rfl ?_; (first
    | (refine wpQuiet_eqErrno rfl (.tmp 46) (.tmp 51) _ rfl (k : Int) rfl rfl ?_; simp only [Act.put, List.setIfInBounds_toArray, List.set_cons_zero, List.set_cons_succ])
    | go_big_quiet_step (fail)); refine wpQuiet_nil ?_)
  refine mix_only rfl (fun K hK => ?_)
  go_wp2_with fail
  refine (errorsIs_any g pos k W2 hbk2).mono ?_
  rintro e _ ⟨rfl, rfl⟩
  go_wp2_with fail
  refine hK _ _ (Below.refl _ _) ?_
  clear hK K
  iterate 2 (refine mix_plain rfl ?_; go_big_quiet_step (fail); refine wpQuiet_nil ?_)
  refine mix_done ?_
  go_wp2_with fail
  go_ret
  exact ⟨rfl, hb1.trans (hb2.mono hb1.size)⟩
end Go.Proofs.YteonmcconpfkjaaDoor

/- The walk of deponentlaw2's known. Condition: the table of strconv. -/
namespace Go.Proofs.YteonmcconpfkjaaDoor
open Go Go.RowKit
attribute [local irreducible] mixW
attribute [local go_sem] n8_lo n8_hi n64_lo n64_hi
/-- a literal of bytes, converted to its own type -/
theorem wpList_convLitA {w : World} {ops : Array Oper} {rest : List Oper} {o : Oper} {a : Act} {Q : Exit → Act → World → Prop} (hgd : o.guard = none) (x : Operand) (ho : o.op = .convert 22 22 x)
    (w0 : World) (n : Nat) (bs : List UInt8) (hn : bs.length = n) (hn1 : n ≤ 1000) (hx : a.eval x = .slice (some ⟨w0.heap.size, 0, none⟩) n n) (hw : w = w0.alloc (.cells (bs.map v8).toArray 5))
    (h : ∀ W, BSl W W.heap.size (.slice (some ⟨w0.heap.size, 0, none⟩) n n) bs → Below w0.heap.size w0 W → wpList Tryd.prog ops Q rest (a.put o.dst (.slice (some ⟨w0.heap.size, 0, none⟩) n n)) W) : wpList Tryd.prog ops Q (o :: rest) a w := by
  subst hw
  refine wpList_convSelf hgd _ 5 x ho Tryd.underlying22 Tryd.underlying5 w0.heap.size n n hx bs (Lit.new w0 bs 5) ?_
  intro k
  exact h _ (((Lit.new w0 bs 5).freeze ⟨w0.heap.size, k, none⟩ 1).bsl n hn (by omega)) (below_freeze (below_new1 w0 _) ⟨w0.heap.size, k, none⟩ (Nat.le_refl _) 1)
theorem kn2_bytes : (([] : List UInt8) ++ numB 258 (clamp8 2)) ++ txtB [97] = [1, 2, 0, 1, 97] := by decide +kernel
theorem kn2_num : (⟨[1, 2, 0, 1, 97], 0, none⟩ : RdL).number 2 = (258, ⟨[1, 2, 0, 1, 97], 2, none⟩) := by rfl
theorem kn2_txt : (⟨[1, 2, 0, 1, 97], 2, none⟩ : RdL).bytes 0 = ([], ⟨[1, 2, 0, 1, 97], 2, some (2, 3)⟩) := by rfl
set_option maxHeartbeats 1000000 in
set_option maxRecDepth 100000 in
theorem known2_any (w : World) (hz : Pz w) : Calls Tryd.prog 69 #[] w fun e w' => e = .returned (.bool true) ∧ Below w.heap.size w w' := by
  go_enter Tryd.func69, Tryd.ntmps69
  go_wp2_with fail
  refine (newWriter_any w).mono ?_
  rintro e w1 ⟨p, rfl, hW, hb1⟩
  obtain ⟨g, v, rfl, hW1⟩ := Wr.of_new hW
  have HW := Lib.hid hW1
  have Hb := Lib.hid hb1
  clear hW hb1 hW1
  go_wp2_with fail
  refine (number_two g v [] 258 2 (by decide) w1 w.heap.size HW.out Hb.out.size (by decide)).mono ?_
  rintro e w2 ⟨rfl, v2, hW2, ht2⟩
  have hsz := Hb.out.size
  have hb2 := Hb.out.trans (ht2.bel HW.out.1 HW.out.low hsz)
  have HW2 := Lib.hid (And.intro hW2 hb2)
  clear hW2 hb2 ht2 HW Hb
  go_wp2_with (first
    | (refine wpList_convLitA rfl (.tmp 12) rfl w2 1 [97] rfl (by decide) rfl rfl ?_; intro W3 hL3 hb3))
  have hW3 := HW2.out.1.below hb3
  have hb3' := HW2.out.2.trans (hb3.mono HW2.out.2.size)
  have hneq : ∀ b o, (some ⟨w2.heap.size, 0, none⟩ : Option Addr) = some ⟨b, o, none⟩ → b ≠ g ∧ some b ≠ v2.ownBlock := by
    intro b o e
    injection e with e
    injection e with e1 _
    subst e1
    refine ⟨fun e => ?_, fun e => ?_⟩
    · have := HW2.out.1.2.1.lt; omega
    · have := HW2.out.1.2.2.lt _ e.symm; omega
  refine (wbytes_two g v2 _ (some ⟨w2.heap.size, 0, none⟩) 1 [97] W3 w.heap.size hW3 hb3'.size hL3 (fun _ => hneq) (by rw [List.length_append, numB_length]; decide)).mono ?_
  rintro e w4 ⟨rfl, v4, hW4, ht4⟩
  have hb4 := hb3'.trans (ht4.bel hW3.1 hW3.low hb3'.size)
  rw [kn2_bytes] at hW4
  have HW4 := Lib.hid (And.intro hW4 hb4)
  clear hW4 hb4 ht4 HW2 hW3 hb3' hneq hL3 hb3
  go_wp2_with fail
  refine (done_any _ [1, 2, 0, 1, 97] w4 w.heap.size HW4.out.1.wrt (by decide)).mono ?_
  rintro e w5 ⟨x, rfl, hx, hown, hb5⟩
  obtain ⟨A, c, rfl⟩ := hx.len
  have HX := Lib.hid (And.intro hx (HW4.out.2.trans (hb5.mono HW4.out.2.size)))
  clear hx hown hb5 HW4
  go_wp2_with fail
  refine (newReader_any _ [1, 2, 0, 1, 97] w5 HX.out.1 (by decide)).mono ?_
  rintro e w6 ⟨h, rfl, hR, hb6⟩
  have HR := Lib.hid (And.intro hR (And.intro (HX.out.1.next hb6) (HX.out.2.trans (hb6.mono HX.out.2.size))))
  have hB6 := hb6.size
  have hsz5 := HX.out.2.size
  clear hR hb6 HX
  go_wp2_with (first
    | (refine wpList_unguard rfl ?_; refine wpList_strA rfl (.tmp 22) rfl _ [1, 2, 0, 1, 97] _ rfl HR.out.2.1 ?_)
    | (refine wpList_unguard rfl ?_; refine wpList_neStr rfl (.tmp 23) (.const (.string _)) _ rfl [1, 2, 0, 1, 97] [1, 2, 0, 1, 97] rfl rfl true (decide_eq_true rfl) ?_; simp only [Bool.not_true]))
  refine (rdNumber_any w6 w5.heap.size h _ 2 (by decide) HR.out.1 hB6).mono ?_
  rw [kn2_num]
  rintro e w7 ⟨rfl, hR7, hg7⟩
  have HR7 := Lib.hid (And.intro hR7 hg7)
  have hB7 := Nat.le_trans hB6 hg7.size
  clear hR7 hg7
  go_wp2_with fail
  refine (rdBytes_any w7 w5.heap.size h _ 0 (by decide) HR7.out.1 hB7).mono ?_
  rw [kn2_txt]
  rintro e w8 ⟨y, rfl, hown, hR8, hg8⟩
  obtain ⟨A8, c8, rfl⟩ := own_slice hown
  have HR8 := Lib.hid (And.intro hR8 (And.intro hg8 (grown_trans HR7.out.2 hg8)))
  have hhB : w5.heap.size ≤ h := by obtain ⟨_, _, _, h1, _⟩ := HR.out.1; exact h1.1
  clear hown hR8 hg8
  have hb8 := below_only HR.out.2.2 HR8.out.2.2 (Nat.le_trans hsz5 hhB) (Nat.le_trans hsz5 hB6)
  go_wp2_with fail
  refine (rdEnd_any w8 w5.heap.size h _ HR8.out.1).mono ?_
  rintro e w9 ⟨u, rfl, ⟨k, rfl, -, hk⟩, hb9⟩
  have hbb := hb8.trans (hb9.mono hb8.size)
  have hz9 := hz.below hbb
  clear hb8 hb9
  go_wp2_with fail
  refine (refused_some k 2 3 (by decide) (by decide) (by decide) w9 hz9 hk).mono ?_
  rintro e w10 ⟨rfl, hb10⟩
  have hbc := hbb.trans (hb10.mono hbb.size)
  clear hbb hb10 hz9 hk
  go_wp2_with fail
  go_ret
  exact ⟨rfl, hbc⟩
end Go.Proofs.YteonmcconpfkjaaDoor

/- Readers and a Writer beside each other. No condition. -/
namespace Go.Proofs.YteonmcconpfkjaaDoor
open Go Go.RowKit
attribute [local irreducible] mixW
theorem newWriter_two (w : World) : Calls Tryd.prog 64 #[] w fun e w' => e = .returned (.pointer (some ⟨w.heap.size, 0, none⟩)) ∧ Wr w' w.heap.size w.heap.size (.slice none 0 0) [] ∧ Below w.heap.size w w' := by
  go_enter Tryd.func64, Tryd.ntmps64
  go_wp2
  go_ret
  exact ⟨rfl, ⟨Nat.le_refl _, Blk.new w _ _, World.ownsRow_nil _ _ _ _⟩, below_new1 w _⟩
section
variable {w w' : World} {B B' g k : Nat} {s s' : RdL} {v u : Value} {bs : List UInt8}
theorem Two.grown_nil (h : Two w w' g (.slice none 0 0) u) : w.grownBy w' (some g) :=
  ⟨h.os, h.tape, h.output, h.size, fun i hi hne => h.block i hi (fun e => hne (by rw [e])) (fun e => by cases e)⟩
theorem Rdr.base (h : Rdr w B g s) (hB : B' ≤ B) : Rdr w B' g s := by
  obtain ⟨A, c, q, h1, h2, h3, h4, h5, h6⟩ := h
  refine ⟨A, c, q, ⟨Nat.le_trans hB h1.1, h1.2⟩, h2, own_baseR h3 hB, h4, h5, ?_⟩
  cases hn : s.no with
  | none => rw [hn] at h6; exact h6
  | some x => rw [hn] at h6; obtain ⟨j, e, hj, hk⟩ := h6; exact ⟨j, e, Nat.le_trans hB hj, hk⟩
theorem Rdr.blk (h : Rdr w B g s) : ∃ cs, Blk w g 233 cs := by
  obtain ⟨A, c, q, _, h2, _⟩ := h
  exact ⟨_, h2⟩
theorem Rdr.lt (h : Rdr w B g s) : g < w.heap.size := by obtain ⟨_, h⟩ := h.blk; exact h.lt
theorem Rdr.ge (h : Rdr w B g s) : B ≤ g := by obtain ⟨_, _, _, h, _⟩ := h; exact h.1
/-- another reader reads -/
theorem Rdr.other (h : Rdr w B g s) (h' : Rdr w B' k s') (hne : g ≠ k) (hg : w.grownBy w' (some k)) : Rdr w' B g s := by
  obtain ⟨cs, hk⟩ := h'.blk
  exact h.grown hg hk (by decide) (by decide) hne
/-- a row that is younger than the reader is written -/
theorem Rdr.away {t : TypeId} {cs : Array Value} (h : Rdr w B g s) (hg : w.grownBy w' (some k)) (hk : Blk w k t cs) (hgk : g < k) (ht : t ≠ 236) : Rdr w' B g s := by
  obtain ⟨A, c, q, b1, b2, b3, b4, b5, b6⟩ := h
  exact ⟨A, c, q, b1, b2.grown hg (fun e => by injection e; omega), own_grown b3 hg (fun q hq e => by injection e with e; have := b1.2 q hq; omega), b4, b5, b6.grown hg hk ht⟩
/-- a writer with no row yet writes -/
theorem Rdr.two (h : Rdr w B g s) (hw : Wr w B' k (.slice none 0 0) bs) (ht : Two w w' k (.slice none 0 0) u) : Rdr w' B g s := by
  obtain ⟨cs, hg⟩ := h.blk
  refine h.grown ht.grown_nil hw.2.1 (by decide) (by decide) (fun e => ?_)
  subst e
  have : some (Obj.cells _ _ _) = some (Obj.cells _ _ _) := hg.symm.trans hw.2.1
  injection this with this
  injection this with _ h3 _
  exact absurd h3 (by decide)
theorem Wr.other (h : Wr w B g v bs) (h' : Rdr w B' k s') (hg : w.grownBy w' (some k)) : Wr w' B g v bs := by
  obtain ⟨cs, hk⟩ := h'.blk
  refine ⟨h.1, h.2.1.grown hg (fun e => ?_), own_typed h.2.2 hg hk (by decide)⟩
  injection e with e
  subst e
  have : some (Obj.cells _ _ _) = some (Obj.cells _ _ _) := hk.symm.trans h.2.1
  injection this with this
  injection this with _ h3 _
  exact absurd h3 (by decide)
theorem Wr.base (h : Wr w B g v bs) (hB : B' ≤ B) : Wr w B' g v bs := ⟨Nat.le_trans hB h.1, h.2.1, own_baseR h.2.2 hB⟩
end
end Go.Proofs.YteonmcconpfkjaaDoor
