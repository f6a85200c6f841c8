/- Texts that stand behind one another: AudR, ErrI, ErrJ, ErrK. No condition. -/
import Derived.Test.YtfggbfnnibpohaaDoorU11
import Derived.Test.YtfggbfnnibpohaaDoorItoa
import Derived.Test.YtfggbfnnibpohaaDoorU12
import Derived.Lib.ItoaLen
import Derived.Lib.LaidTab
import Derived.LaidEql
import Derived.Stop.Asserts
import Derived.RowKitTokens
import Derived.Test.YtfggbfnnibpohaaDoorU4
import Derived.Test.YtfggbfnnibpohaaDoorU14
/- The walks of audit's Refusal: Error, Unwrap, errors.Is at it. Condition: the table of strconv. (402: how many types the seat's translation has, and 100; 6: how many package-level variables.) -/
namespace Go.Proofs.YtfggbfnnibpohaaDoor
open Go Go.RowKit
attribute [local irreducible] mixW
attribute [local go_sem] n8_lo n8_hi n64_lo n64_hi
/-- strconv's table -/
def Pz (w : World) : Prop := Lib.TabIs Tryd.prog w "internal/strconv.uint64pow10" .u64 Lib.pow10Tab
/-- a text that is not empty -/
def Txt (v : Value) : Prop := ∃ l : List UInt8, v = strV l ∧ 0 < l.length ∧ l.length ≤ 1000
theorem txt_const (l : List UInt8) (h : 0 < l.length) (h2 : l.length ≤ 1000) : Txt (.string ⟨l.toArray⟩) := ⟨l, rfl, h, h2⟩
theorem own_nilRow (w : World) (base : Nat) : w.ownsRow base 5 1 (.slice none 0 0) ([] : List Value).length [] := World.ownsRow_nil _ _ _ _
set_option maxHeartbeats 2000000 in
set_option maxRecDepth 100000 in
theorem errnoText_any (k : Nat) (hk : k ≤ 30) (w : World) : Calls Tryd.prog 133 #[.int .i64 (k : Int)] w fun e w' => ∃ v, e = .returned v ∧ Txt v ∧ Below w.heap.size w w' := by
  obtain ⟨i0, hi, hz0, hz1, hz2⟩ := info_parts (by kernel_rfl : (Tryd.prog.info? 5).map (fun i => (i.zero, i.size, i.bytes)) = some (some (.int .u8 0), 1, 1))
  by_cases h0 : k = 0
  · subst h0
    go_enter Tryd.func133, Tryd.ntmps133
    go_wp2_with fail
    go_ret
    exact ⟨_, rfl, txt_const _ (by decide) (by decide), Below.refl _ _⟩
  by_cases h1 : k = 1
  · subst h1
    go_enter Tryd.func133, Tryd.ntmps133
    go_wp2_with fail
    go_ret
    exact ⟨_, rfl, txt_const _ (by decide) (by decide), Below.refl _ _⟩
  by_cases h20 : k = 20
  · subst h20
    go_enter Tryd.func133, Tryd.ntmps133
    go_wp2_with fail
    go_ret
    exact ⟨_, rfl, txt_const _ (by decide) (by decide), Below.refl _ _⟩
  by_cases h21 : k = 21
  · subst h21
    go_enter Tryd.func133, Tryd.ntmps133
    go_wp2_with fail
    go_ret
    exact ⟨_, rfl, txt_const _ (by decide) (by decide), Below.refl _ _⟩
  by_cases h22 : k = 22
  · subst h22
    go_enter Tryd.func133, Tryd.ntmps133
    go_wp2_with fail
    go_ret
    exact ⟨_, rfl, txt_const _ (by decide) (by decide), Below.refl _ _⟩
  have e0 : ((k : Int) == 0) = false := by simp; omega
  have e1 : ((k : Int) == 1) = false := by simp; omega
  have e20 : ((k : Int) == 20) = false := by simp; omega
  have e21 : ((k : Int) == 21) = false := by simp; omega
  have e22 : ((k : Int) == 22) = false := by simp; omega
  clear h0 h1 h20 h21 h22
  go_enter Tryd.func133, Tryd.ntmps133
  go_wp2_with fail
  go_loopg [3, 4] 40 (fun gk nv bv wr => ∃ (n : Nat) (bs : List UInt8), n + bs.length ≤ 31 ∧ n + (if bs.length = 0 then 1 else 0) ≤ gk ∧ nv = .int .i64 n ∧ wr.ownsRow w.heap.size 5 1 bv (bs.map v8).length (bs.map v8) ∧ Below w.heap.size w wr)
  case atStart => exact ⟨k, [], by simp; omega, by simp; omega, rfl, own_nilRow _ _, Below.refl _ _⟩
  case round =>
    obtain ⟨n, bs, hnb, hgk, rfl, hown, hb⟩ := hrel
    rw [List.length_map] at hown
    obtain ⟨A, c, rfl⟩ := own_slice hown
    obtain ⟨x, hx⟩ : ∃ x : UInt8, n8 x = 48 + (n : Int) % 10 := ⟨UInt8.ofNat (48 + n % 10), by unfold n8; rw [UInt8.toNat_ofNat']; omega⟩
    have hn1 := below_new1 wr (Obj.cells #[.int .u8 (n8 x)] 5)
    have hlit : (wr.alloc (Obj.cells #[.int .u8 (n8 x)] 5)).ownsRow wr.heap.size 5 1 (.slice (some ⟨wr.heap.size, 0, none⟩) 1 1) ([v8 x] : List Value).length [v8 x] := ⟨rfl, .inr ⟨wr.heap.size, 1, #[v8 x], rfl, Nat.le_refl _, heap_alloc_new wr _, Nat.le_refl _, by decide, rfl, rfl⟩⟩
    have hrd := Reads.of_own (own_below hown hn1)
    have HF := Lib.hid (And.intro hown (And.intro hb (And.intro hlit (And.intro hrd hn1))))
    have hsz := hb.size
    have hsz1 := hn1.size
    clear hown hb hlit hrd hn1
    by_cases hgo : 0 < n ∨ bs.length = 0
    · have hm : n / 10 < n + (if bs.length = 0 then 1 else 0) := by
        rcases hgo with h | h
        · omega
        · rw [if_pos h]; omega
      have hgk' := hgk
      have HM := Lib.hid (And.intro hm hgk)
      have Hs1 := Lib.hid (show ([v8 x] : List Value).length + bs.length ≤ maxLen by unfold maxLen; simp only [List.length_cons, List.length_nil]; omega)
      have Hs2 := Lib.hid (show (([v8 x] : List Value).length + bs.length) * 1 ≤ 140737488355328 by simp only [List.length_cons, List.length_nil]; omega)
      have Hs3 := Lib.hid hnb
      have e10 : (n : Int) % 10 = ((n % 10 : Nat) : Int) := by omega
      clear hgk hm hgk'
      by_cases hn : n = 0
      · subst hn
        have hmm : 0 + bs.length ≤ 31 := hnb
        have hl1 : ((bs.length : Int) == 0) = true := by rw [beq_iff_eq]; omega
        have Hs4 := Lib.hid (show bs.length = 0 by omega)
        have hx0 : n8 x = 48 := by rw [hx]; rfl
        rw [hx0] at HF
        clear hgo
        go_upto_region 17 with fail
        go_wp2_with (first | (at_builtin; refine wpList_appendR rfl (.tmp 30) (.tmp 31) _ rfl wr.heap.size 5 i0 _ 1 Tryd.underlying22 hi hz0 hz1 hz2 rfl _ [v8 x] rfl HF.out.2.2.1 _ A bs.length c (bs.map v8) rfl HF.out.2.2.2.1 (by simp) (oneCell_v8 bs) Hs1.out Hs2.out HF.out.2.2.2.2.size ?_; intro v' w2 hown2 hg2 hat2))
        have hrel2 : ∃ (n' : Nat) (bs' : List UInt8), n' + bs'.length ≤ 31 ∧ n' + (if bs'.length = 0 then 1 else 0) ≤ gk - 1 ∧ Value.int .i64 0 = .int .i64 n' ∧ w2.ownsRow w.heap.size 5 1 v' (bs'.map v8).length (bs'.map v8) ∧ Below w.heap.size w w2 := by
          refine ⟨0, x :: bs, by have := Hs4.out; simp only [List.length_cons]; omega, ?_, rfl, own_baseR hown2 hsz, ?_⟩
          · have := HM.out
            simp only [List.length_cons, Nat.succ_ne_zero, if_false]
            omega
          · exact HF.out.2.1.trans ((below_own HF.out.2.2.2.2 HF.out.2.2.1 hg2 HF.out.2.2.2.2.size).mono hsz)
        have HR := Lib.hid hrel2
        have hgk : 0 < gk := by have := HM.out; omega
        clear hrel2 hown2 hg2 hat2 HF HM
        go_roundg (gk - 1)
        case measure => omega
        case rel => exact HR.out
      · have hn0 : decide ((0:Int) < (n : Int)) = true := by simp; omega
        clear hgo
        go_upto_region 17 with fail
        have hq0 : (0:Int) ≤ (n : Int) % 10 ∧ (n : Int) % 10 < 10 := by omega
        clear e10
        rw [hx] at HF
        go_wp2_with (first | (at_builtin; refine wpList_appendR rfl (.tmp 30) (.tmp 31) _ rfl wr.heap.size 5 i0 _ 1 Tryd.underlying22 hi hz0 hz1 hz2 rfl _ [v8 x] rfl HF.out.2.2.1 _ A bs.length c (bs.map v8) rfl HF.out.2.2.2.1 (by simp) (oneCell_v8 bs) Hs1.out Hs2.out HF.out.2.2.2.2.size ?_; intro v' w2 hown2 hg2 hat2))
        have hrel2 : ∃ (n' : Nat) (bs' : List UInt8), n' + bs'.length ≤ 31 ∧ n' + (if bs'.length = 0 then 1 else 0) ≤ gk - 1 ∧ Value.int .i64 ((n : Int) / 10) = .int .i64 n' ∧ w2.ownsRow w.heap.size 5 1 v' (bs'.map v8).length (bs'.map v8) ∧ Below w.heap.size w w2 := by
          refine ⟨n / 10, x :: bs, by have := Hs3.out; simp only [List.length_cons]; omega, ?_, by congr 1, own_baseR hown2 hsz, ?_⟩
          · have := HM.out
            simp only [List.length_cons, Nat.succ_ne_zero, if_false]
            omega
          · exact HF.out.2.1.trans ((below_own HF.out.2.2.2.2 HF.out.2.2.1 hg2 HF.out.2.2.2.2.size).mono hsz)
        have HR := Lib.hid hrel2
        have hgk : 0 < gk := by have := HM.out; omega
        clear hrel2 hown2 hg2 hat2 HF HM
        go_roundg (gk - 1)
        case measure => omega
        case rel => exact HR.out
    · have hz : n = 0 ∧ bs.length ≠ 0 := by omega
      obtain ⟨rfl, hl0⟩ := hz
      have hl1 : ((bs.length : Int) == 0) = false := by rw [beq_eq_false_iff_ne]; omega
      have hbs : bs.length ≤ 31 := by omega
      clear hgo hgk hl0
      go_wp2_with (first
        | (refine wpList_strA rfl (.tmp 35) rfl _ bs _ rfl (BSl.of_own HF.out.1) ?_)
        | (refine wpList_addStr rfl (.const (.string _)) (.tmp 36) _ rfl [114, 101, 102, 117, 115, 97, 108, 32] bs rfl rfl (by simp; omega) ?_))
      go_ret
      exact ⟨_, rfl, txt_const _ (by simp) (by simp; omega), HF.out.2.1⟩
theorem Pz.below {w w' : World} (h : Pz w) (hb : Below w.heap.size w w') : Pz w' := by
  unfold Pz Lib.TabIs World.var? at *
  cases hg : Tryd.prog.globalNamed "internal/strconv.uint64pow10" with
  | none => simp [hg] at h
  | some g =>
    simp only [hg, Option.bind_some] at h ⊢
    have hlt : g < w.heap.size := by
      rcases Nat.lt_or_ge g w.heap.size with h' | h'
      · exact h'
      · rw [Array.getElem?_eq_none h'] at h; simp at h
    rw [hb.block g hlt]
    exact h
theorem below_grow (w : World) (k : Nat) (os : Array Obj) : Below w.heap.size w (Sort.grow (w.drewN k) os) :=
  ⟨rfl, rfl, rfl, by unfold Sort.grow; rw [Array.size_append]; exact Nat.le_add_right _ _, fun i hi => by
    unfold Sort.grow
    exact Array.getElem?_append_left hi⟩
/-- strconv.Itoa -/
theorem itoa_any (n : Int) (h0 : -9223372036854775808 ≤ n) (h1 : n ≤ 9223372036854775807) (w : World) (hz : Pz w) :
    Calls Tryd.prog 132 #[.int .i64 n] w fun e w' => ∃ l : List UInt8, e = .returned (strV l) ∧ l.length ≤ 21 ∧ Below w.heap.size w w' :=
  (Tryd.strconv_Itoa n h0 h1 w hz).mono fun e w' ⟨he, k, os, hw⟩ => ⟨Lib.itoa n, he, Lib.itoa_length_le n h0 h1, by rw [hw]; exact below_grow w k os⟩
section
variable {ops : Array Oper} {C : World → Prop} {Q : Act → Prop} {a : Act} {o : Oper} {rest : List Oper}
theorem wpQuiet_addStr (hw : Region.wanted o (yielded ops a.tmps) = true) (x y : Operand) (yt : TypeId) (ho : o.op = .binOp .add 9 x y yt) (X Y : List UInt8) (hx : a.eval x = strV X) (hy : a.eval y = strV Y) (hl : X.length + Y.length ≤ 9223372036854775807)
    (h : wpQuiet Tryd.prog ops C Q rest (a.put o.dst (strV (X ++ Y)))) : wpQuiet Tryd.prog ops C Q (o :: rest) a :=
  wpQuiet_wanted hw (strV (X ++ Y)) (fun w hC => by
    have hg : (eqGuard .add 9 x y (strV X) (strV Y)).run Tryd.prog w = .ok () w := by unfold strV; simp [eqGuard]
    unfold Oper.quietAt execOp
    simp only [ho, hx, hy, Sem.run_bind, hg, run_strAdd w X Y hl, Result.andThen_ok, Sem.run_pure]
    exact ⟨rfl, rfl⟩) h
end
set_option maxRecDepth 100000 in
set_option maxHeartbeats 2000000 in
theorem audUnwrap_any (g pos k : Nat) (w : World) (hb : Blk w g 196 #[.int .i64 (pos : Int), .int .i64 (k : Int)]) :
    Calls Tryd.prog 184 #[.pointer (some ⟨g, 0, none⟩)] w fun e w' => e = .returned (.iface 40 (.int .i64 (k : Int))) ∧ w = w' := by
  have c1 : w.cell? ⟨g, 1, none⟩ = some (.int .i64 (k : Int)) := hb.cell 1
  go_enter Tryd.func184, Tryd.ntmps184
  go_wp2_with fail
  go_ret
  exact ⟨rfl, rfl⟩
set_option maxRecDepth 100000 in
set_option maxHeartbeats 4000000 in
theorem audErr_any (g pos k : Nat) (hp : pos ≤ 9223372036854775807) (hk : k ≤ 30) (w : World) (hz : Pz w) (hb : Blk w g 196 #[.int .i64 (pos : Int), .int .i64 (k : Int)]) :
    Calls Tryd.prog 110 #[.pointer (some ⟨g, 0, none⟩)] w fun e w' => ∃ l : List UInt8, e = .returned (strV l) ∧ 0 < l.length ∧ Below w.heap.size w w' := by
  go_enter Tryd.func110, Tryd.ntmps110
  go_upto_region 1 with fail
  refine wp_region_mixP (.plain 0 <| .plain 1 <| .plain 2 <| .plain 3 <| .plain 7 <| .plain 8 <| .plain 9 <| .plain 10 <| .only 4 <| .plain 5 <| .plain 6 <| .only 11 <| .plain 12 <| .plain 13 <| .done) (by kernel_rfl) (by kernel_rfl) (fun W1 hb1 => ?_)
  have hbk := hb.below hb1 hb.lt
  have c0 : ∀ z, (plus W1 z).cell? ⟨g, 0, none⟩ = some (.int .i64 (pos : Int)) := fun z => (hbk.plus z).cell 0
  have c1 : ∀ z, (plus W1 z).cell? ⟨g, 1, none⟩ = some (.int .i64 (k : Int)) := fun z => (hbk.plus z).cell 1
  have hz1 := hz.below hb1
  clear hb hz hbk
  iterate 8 (refine mix_plain rfl ?_; (first
    | (refine wpQuiet_nilCheck rfl (.tmp 3) rfl _ rfl ?_; simp only [Act.put, List.setIfInBounds_toArray, List.set_cons_zero, List.set_cons_succ])
    | (refine wpQuiet_nilCheck rfl (.tmp 10) rfl _ rfl ?_; simp only [Act.put, List.setIfInBounds_toArray, List.set_cons_zero, List.set_cons_succ])
    | (refine wpQuiet_load1 rfl _ (.tmp 5) rfl ⟨g, 0, none⟩ rfl _ Tryd.underlying3 rfl _ (fun _ ⟨e, he⟩ => by rw [he]; exact c0 e) ?_; simp only [Act.put, List.setIfInBounds_toArray, List.set_cons_zero, List.set_cons_succ])
    | (refine wpQuiet_load1 rfl _ (.tmp 12) rfl ⟨g, 1, none⟩ rfl _ Tryd.underlying40 rfl _ (fun _ ⟨e, he⟩ => by rw [he]; exact c1 e) ?_; simp only [Act.put, List.setIfInBounds_toArray, List.set_cons_zero, List.set_cons_succ])
    | go_big_quiet_step (fail)); refine wpQuiet_nil ?_)
  refine mix_only rfl (fun K hK => ?_)
  go_wp2_with fail
  refine (itoa_any (pos : Int) (by omega) (by omega) W1 hz1).mono ?_
  rintro e W2 ⟨l, rfl, hl, hb2⟩
  go_wp2_with fail
  refine hK _ _ hb2 ?_
  clear hK K
  iterate 2 (refine mix_plain rfl ?_; (first
    | (refine wpQuiet_addStr rfl (.const (.string _)) (.tmp 7) _ rfl [116, 114, 101, 101, 32] l rfl rfl (by simp only [List.length_cons, List.length_nil]; omega) ?_; simp only [Act.put, List.setIfInBounds_toArray, List.set_cons_zero, List.set_cons_succ])
    | (refine wpQuiet_addStr rfl (.tmp 8) (.const (.string _)) _ rfl ([116, 114, 101, 101, 32] ++ l) [58, 32] rfl rfl (by simp only [List.length_append, List.length_cons, List.length_nil]; omega) ?_; simp only [Act.put, List.setIfInBounds_toArray, List.set_cons_zero, List.set_cons_succ])
    | go_big_quiet_step (fail)); refine wpQuiet_nil ?_)
  have hl2 : ([116, 114, 101, 101, 32] ++ l ++ [58, 32]).length ≤ 28 := by simp only [List.length_append, List.length_cons, List.length_nil]; omega
  generalize ([116, 114, 101, 101, 32] ++ l ++ [58, 32]) = m at hl2 ⊢
  refine mix_only rfl (fun K hK => ?_)
  go_wp2_with fail
  refine (errnoText_any k hk W2).mono ?_
  rintro e W3 ⟨v, rfl, ⟨t, rfl, ht0, ht⟩, hb3⟩
  go_wp2_with fail
  refine hK _ _ hb3 ?_
  clear hK K
  iterate 2 (refine mix_plain rfl ?_; (first
    | (refine wpQuiet_addStr rfl (.tmp 9) (.tmp 14) _ rfl m t rfl rfl (by omega) ?_; simp only [Act.put, List.setIfInBounds_toArray, List.set_cons_zero, List.set_cons_succ])
    | go_big_quiet_step (fail)); refine wpQuiet_nil ?_)
  refine mix_done ?_
  go_wp2_with fail
  go_ret
  exact ⟨m ++ t, rfl, by rw [List.length_append]; omega, hb1.trans ((hb2.trans (hb3.mono hb2.size)).mono hb1.size)⟩
open Go.Extern.Stop Go.Stop Go.Extern
theorem isTypeOf (v : Value) (w : World) : (Extern.ReflectliteType.typeOf #[.iface 40 v]).run Tryd.prog w = .ok (.iface 230 (.agg #[.pointer (some ⟨6, 40, none⟩)])) w := by kernel_rfl
theorem isComparable (w : World) : ((Extern.ReflectliteType.method fun t => do Extern.Rtype.noPackHeld "Comparable" t; (fun a => Value.bool a.comparable) <$> typeInfo t) #[.agg #[.pointer (some ⟨6, 40, none⟩)]]).run Tryd.prog w = .ok (.bool true) w := by kernel_rfl
theorem isMethodComparable (v : Value) (w : World) : (Go.method 402 230 v "Comparable").run Tryd.prog w = .ok (189, v) w := by kernel_rfl
theorem noIs (v : Value) (xT : TypeId) (w : World) : (Instr.typeAssert (.iface 194 v) xT 232 true).run Tryd.prog w = .ok (.tuple #[.nilIface, .bool false]) w := run_typeAssert_lacksB Tryd.underlying232 (by kernel_rfl) (by kernel_rfl) v xT w
theorem hasUnwrap (v : Value) (xT : TypeId) (w : World) : (Instr.typeAssert (.iface 194 v) xT 235 true).run Tryd.prog w = .ok (.tuple #[.iface 194 v, .bool true]) w := run_typeAssert_hasB Tryd.underlying235 (by kernel_rfl) v xT w
theorem methodUnwrap (v : Value) (w : World) : (Go.method 402 194 v "Unwrap").run Tryd.prog w = .ok (184, v) w := by kernel_rfl
theorem errnoComp : (Tryd.prog.info? 40).map (·.comparable) = some true := by kernel_rfl
theorem run_eql_errno (k : Int) (w : World) : (binOp .eql 93 (.iface 40 (.int .i64 k)) (.iface 40 (.int .i64 k))).run Tryd.prog w = .ok (.bool true) w := by
  obtain ⟨i, hi, hcmp⟩ := Option.map_eq_some_iff.1 errnoComp
  have h : ∀ d : Nat, (Op.equalIn (d + 2) 93 (.iface 40 (.int .i64 k)) (.iface 40 (.int .i64 k))).run Tryd.prog w = .ok true w := fun d => by
    simp [Op.equalIn, run_underlying Tryd.underlying93, run_underlying Tryd.underlying40, typeInfo, hi, hcmp]
  simp only [binOp]
  simp [Op.equal, Op.maxDepth, h 9998]
set_option maxRecDepth 100000 in
set_option maxHeartbeats 2000000 in
theorem audIs_any (g pos k : Nat) (w : World) (hb : Blk w g 196 #[.int .i64 (pos : Int), .int .i64 (k : Int)]) :
    Calls Tryd.prog 59 #[.iface 194 (.pointer (some ⟨g, 0, none⟩)), .iface 40 (.int .i64 (k : Int))] w fun e w' => e = .returned (.bool true) ∧ w = w' := by
  have h1 := @run_callFunc_extern Tryd.prog 112 _ Extern.ReflectliteType.typeOf Tryd.func112 (by kernel_rfl) (by kernel_rfl) (by kernel_rfl) (by kernel_rfl)
  have h2 := @run_callFunc_extern Tryd.prog 189 _ (Extern.ReflectliteType.method fun t => do Extern.Rtype.noPackHeld "Comparable" t; pure (.bool (← typeInfo t).comparable)) Tryd.func189 (by kernel_rfl) (by kernel_rfl) (by kernel_rfl) (by kernel_rfl)
  have tT := isTypeOf
  have cT := isComparable
  have mR := isMethodComparable
  have nW := noIs
  have uW := hasUnwrap
  have mU := methodUnwrap
  have heq := run_eql_errno (k : Int) w
  have hty := run_eql_iface_types (P := Tryd.prog) 194 40 (.pointer (some ⟨g, 0, none⟩)) (.int .i64 (k : Int)) Tryd.underlying93 (by decide) w
  have c1 : w.cell? ⟨g, 1, none⟩ = some (.int .i64 (k : Int)) := hb.cell 1
  go_enter Tryd.func59, Tryd.ntmps59
  go_wp2
  refine wp_loop_rounds 2 ?_
  rw [rounds_succ]
  go_wp2
  rw [rounds_succ]
  go_wp2
  go_ret
  exact ⟨rfl, rfl⟩
end Go.Proofs.YtfggbfnnibpohaaDoor

/- errors.is at an api.Errno and at a joined error; errors.Is at a joined error. No condition. -/
namespace Go.Proofs.YtfggbfnnibpohaaDoor
open Go Go.RowKit Go.Extern.Stop Go.Stop Go.Extern
attribute [local irreducible] mixW
theorem run_eq_errno (a k : Int) (w : World) : (binOp .eql 93 (.iface 40 (.int .i64 a)) (.iface 40 (.int .i64 k))).run Tryd.prog w = .ok (.bool (a == k)) w := by
  obtain ⟨i, hi, hcmp⟩ := Option.map_eq_some_iff.1 errnoComp
  have h : ∀ d : Nat, (Op.equalIn (d + 2) 93 (.iface 40 (.int .i64 a)) (.iface 40 (.int .i64 k))).run Tryd.prog w = .ok (a == k) w := fun d => by
    simp [Op.equalIn, run_underlying Tryd.underlying93, run_underlying Tryd.underlying40, typeInfo, hi, hcmp]
  simp only [binOp]
  simp [Op.equal, Op.maxDepth, h 9998]
theorem errNoIs (v : Value) (xT : TypeId) (w : World) : (Instr.typeAssert (.iface 40 v) xT 232 true).run Tryd.prog w = .ok (.tuple #[.nilIface, .bool false]) w := run_typeAssert_lacksB Tryd.underlying232 (by kernel_rfl) (by kernel_rfl) v xT w
theorem errNoUnwrap (v : Value) (xT : TypeId) (w : World) : (Instr.typeAssert (.iface 40 v) xT 235 true).run Tryd.prog w = .ok (.tuple #[.nilIface, .bool false]) w := run_typeAssert_lacksB Tryd.underlying235 (by kernel_rfl) (by kernel_rfl) v xT w
theorem errNoUnwrapL (v : Value) (xT : TypeId) (w : World) : (Instr.typeAssert (.iface 40 v) xT 237 true).run Tryd.prog w = .ok (.tuple #[.nilIface, .bool false]) w := run_typeAssert_lacksB Tryd.underlying237 (by kernel_rfl) (by kernel_rfl) v xT w
set_option maxRecDepth 100000 in
set_option maxHeartbeats 2000000 in
theorem isErrno_any (a k : Int) (w : World) : Calls Tryd.prog 113 #[.iface 40 (.int .i64 a), .iface 40 (.int .i64 k), .bool true] w fun e w' => e = .returned (.bool (a == k)) ∧ w = w' := by
  have heq := run_eq_errno a k w
  have nE := errNoIs
  have nU := errNoUnwrap
  have nL := errNoUnwrapL
  obtain ⟨b, hb⟩ : ∃ b, (a == k) = b := ⟨_, rfl⟩
  rw [hb] at heq ⊢
  clear hb
  cases b with
  | true =>
    go_enter Tryd.func113, Tryd.ntmps113
    go_wp2
    refine wp_loop_rounds 1 ?_
    rw [rounds_succ]
    go_wp2
    go_ret
    exact ⟨rfl, rfl⟩
  | false =>
    go_enter Tryd.func113, Tryd.ntmps113
    go_wp2
    refine wp_loop_rounds 1 ?_
    rw [rounds_succ]
    go_wp2
    go_ret
    exact ⟨rfl, rfl⟩
end Go.Proofs.YtfggbfnnibpohaaDoor

/- errors.Is at a joined error of api.Errnos. No condition. (402: how many types the seat's translation has, and 100.) -/
namespace Go.Proofs.YtfggbfnnibpohaaDoor
open Go Go.RowKit Go.Extern.Stop Go.Stop Go.Extern
attribute [local irreducible] mixW
theorem joinNoIs (v : Value) (xT : TypeId) (w : World) : (Instr.typeAssert (.iface 226 v) xT 232 true).run Tryd.prog w = .ok (.tuple #[.nilIface, .bool false]) w := run_typeAssert_lacksB Tryd.underlying232 (by kernel_rfl) (by kernel_rfl) v xT w
theorem joinNoUnwrap (v : Value) (xT : TypeId) (w : World) : (Instr.typeAssert (.iface 226 v) xT 235 true).run Tryd.prog w = .ok (.tuple #[.nilIface, .bool false]) w := run_typeAssert_lacksB Tryd.underlying235 (by kernel_rfl) (by kernel_rfl) v xT w
theorem joinUnwrapL (v : Value) (xT : TypeId) (w : World) : (Instr.typeAssert (.iface 226 v) xT 237 true).run Tryd.prog w = .ok (.tuple #[.iface 226 v, .bool true]) w := run_typeAssert_hasB Tryd.underlying237 (by kernel_rfl) v xT w
theorem joinMethod (v : Value) (w : World) : (Go.method 402 226 v "Unwrap").run Tryd.prog w = .ok (186, v) w := by kernel_rfl
/-- an api.Errno as an error -/
def errV (a : Nat) : Value := .iface 40 (.int .i64 (a : Int))
theorem any_take_succ (es : List Nat) (k i : Nat) (hi : i < es.length) (h : (es.take i).any (· == k) = false) (hn : (es[i] == k) = false) : (es.take (i + 1)).any (· == k) = false := by
  rw [List.take_succ_eq_append_getElem hi, List.any_append, h]
  simpa using hn
set_option maxRecDepth 100000 in
theorem joinUnwrap_any (j : Nat) (A : Option Addr) (n c : Nat) (w : World) (hb : Blk w j 228 #[.slice A n c]) :
    Calls Tryd.prog 186 #[.pointer (some ⟨j, 0, none⟩)] w fun e w' => e = .returned (.slice A n c) ∧ w = w' := by
  have c0 : w.cell? ⟨j, 0, none⟩ = some (.slice A n c) := hb.cell 0
  go_enter Tryd.func186, Tryd.ntmps186
  go_wp2_with fail
  go_ret
  exact ⟨rfl, rfl⟩
set_option maxRecDepth 100000 in
set_option maxHeartbeats 4000000 in
theorem isJ_any (j : Nat) (A : Option Addr) (c : Nat) (es : List Nat) (hlen : es.length ≤ 1000) (k : Nat) (w : World) (hb : Blk w j 228 #[.slice A es.length c]) (hr : Reads w w.heap.size A (es.map errV)) :
    Calls Tryd.prog 113 #[.iface 226 (.pointer (some ⟨j, 0, none⟩)), .iface 40 (.int .i64 (k : Int)), .bool true] w fun e w' => e = .returned (.bool (es.any (· == k))) ∧ w = w' := by
  have nI := joinNoIs
  have nU := joinNoUnwrap
  have uL := joinUnwrapL
  have mU := joinMethod
  have hty := run_eql_iface_types (P := Tryd.prog) 226 40 (.pointer (some ⟨j, 0, none⟩)) (.int .i64 (k : Int)) Tryd.underlying93 (by decide) w
  have hm := joinUnwrap_any j A es.length c w hb
  have HR := Lib.hid hr
  clear hb hr
  go_enter Tryd.func113, Tryd.ntmps113
  go_wp2_with fail
  refine wp_loop_rounds 1 ?_
  rw [rounds_succ]
  go_wp2_with (first
    | (refine hm.mono ?_; rintro e _ ⟨rfl, rfl⟩))
  clear nI nU uL mU hty hm
  go_loopg [45] (es.length + 1) (fun gk iv wr => w = wr ∧ ∃ i : Nat, es.length + 1 ≤ i + gk ∧ i ≤ es.length ∧ iv = .int .i64 (i : Int) ∧ (es.take i).any (· == k) = false)
  case atStart => exact ⟨rfl, 0, by omega, Nat.zero_le _, rfl, by simp⟩
  case round =>
    obtain ⟨rfl, i, hi, hil, rfl, hno⟩ := hrel
    have Hno := Lib.hid (And.intro hno hi)
    clear hno hi
    by_cases hlt : i < es.length
    · obtain ⟨b, off, rfl, _, hc⟩ := HR.out (by rw [List.length_map]; omega)
      have hci : w.cell? ⟨b, off + i, none⟩ = some (.iface 40 (.int .i64 ((es[i] : Nat) : Int))) := hc i (errV es[i]) (by rw [List.getElem?_map, List.getElem?_eq_getElem hlt]; rfl)
      have hil' : (i : Int) < (es.length : Int) := by omega
      have hi1000 : (i : Int) < 1000 := by omega
      have hgk : 0 < gk := by have := Hno.out.2; omega
      obtain ⟨a, ha⟩ : ∃ a, es[i] = a := ⟨_, rfl⟩
      have Ha := Lib.hid ha
      rw [ha] at hci
      clear ha hc
      have hm := isErrno_any (a : Int) (k : Int) w
      by_cases hak : a = k
      · have e1 : ((a : Int) == (k : Int)) = true := by rw [beq_iff_eq]; omega
        rw [e1] at hm
        have Hk := Lib.hid (show es.any (· == k) = true by rw [List.any_eq_true]; exact ⟨es[i], List.getElem_mem hlt, by rw [Ha.out, hak]; simp⟩)
        clear e1 hak
        go_wp2_with (first
          | (refine hm.mono ?_; rintro e _ ⟨rfl, rfl⟩))
        go_ret
        exact ⟨by rw [Hk.out]; rfl, rfl⟩
      · have e1 : ((a : Int) == (k : Int)) = false := by rw [beq_eq_false_iff_ne]; omega
        rw [e1] at hm
        have Hk := Lib.hid (any_take_succ es k i hlt Hno.out.1 (by rw [Ha.out, beq_eq_false_iff_ne]; exact hak))
        clear e1 hak
        go_wp2_with (first
          | (refine hm.mono ?_; rintro e _ ⟨rfl, rfl⟩))
        go_roundg (gk - 1)
        case measure => omega
        case rel => exact ⟨rfl, i + 1, by have := Hno.out.2; omega, by omega, by go_num, Hk.out⟩
    · obtain rfl : i = es.length := by omega
      have Hk := Lib.hid (show es.any (· == k) = false by have := Hno.out.1; rwa [List.take_length] at this)
      clear hlt
      go_wp2_with fail
      go_ret
      exact ⟨by rw [Hk.out]; rfl, rfl⟩
set_option maxRecDepth 100000 in
set_option maxHeartbeats 4000000 in
theorem isJoin_any (j : Nat) (A : Option Addr) (c : Nat) (es : List Nat) (hlen : es.length ≤ 1000) (k : Nat) (w : World) (hb : Blk w j 228 #[.slice A es.length c]) (hr : Reads w w.heap.size A (es.map errV)) :
    Calls Tryd.prog 59 #[.iface 226 (.pointer (some ⟨j, 0, none⟩)), .iface 40 (.int .i64 (k : Int))] w fun e w' => e = .returned (.bool (es.any (· == k))) ∧ w = w' := by
  have h1 := @run_callFunc_extern Tryd.prog 112 _ Extern.ReflectliteType.typeOf Tryd.func112 (by kernel_rfl) (by kernel_rfl) (by kernel_rfl) (by kernel_rfl)
  have h2 := @run_callFunc_extern Tryd.prog 189 _ (Extern.ReflectliteType.method fun t => do Extern.Rtype.noPackHeld "Comparable" t; pure (.bool (← typeInfo t).comparable)) Tryd.func189 (by kernel_rfl) (by kernel_rfl) (by kernel_rfl) (by kernel_rfl)
  have tT := isTypeOf
  have cT := isComparable
  have mR := isMethodComparable
  have hm := isJ_any j A c es hlen k w hb hr
  generalize es.any (· == k) = q at hm ⊢
  clear hb hr
  go_enter Tryd.func59, Tryd.ntmps59
  go_wp2_with (first
    | (refine hm.mono ?_; rintro e _ ⟨rfl, rfl⟩))
  go_ret
  exact ⟨rfl, rfl⟩
end Go.Proofs.YtfggbfnnibpohaaDoor

/- errors.Join and audit's Join at api.Errnos. No condition. -/
namespace Go.Proofs.YtfggbfnnibpohaaDoor
open Go Go.RowKit
attribute [local irreducible] mixW
theorem wpList_make0 {P : Program} {w : World} {ops : Array Oper} {rest : List Oper} {o : Oper} {a : Act} {Q : Exit → Act → World → Prop} (hgd : o.guard = none) (l c : Operand) (t : TypeId) (ho : o.op = Op.makeSlice t l c)
    (e : TypeId) (i : TypeInfo) (z : Value) (ht : P.underlying t = some (.slice e)) (hi : P.info? e = some i) (hz : i.zero = some z) (hs : i.size = 1) (hzc : z.cells = #[z])
    (kl kc : IntKind) (n : Nat) (hl : a.eval l = .int kl (0 : Int)) (hc : a.eval c = .int kc (n : Int)) (hbytes : i.bytes * n ≤ 281474976710656) (h63 : n ≤ 9223372036854775807)
    (h : wpList P ops Q rest (a.put o.dst (.slice (some ⟨w.heap.size, 0, none⟩) 0 n)) (w.alloc (.cells (List.replicate n z).toArray e))) : wpList P ops Q (o :: rest) a w := by
  refine wpList_plain hgd fun K hK => ?_
  have hb : (i.bytes : Int) * (n : Int) ≤ 281474976710656 := by
    have h : ((i.bytes * n : Nat) : Int) ≤ 281474976710656 := by omega
    rwa [Int.natCast_mul] at h
  have hr := run_make (P := P) w t e i z ht hi hz kl kc 0 n (by omega) (by omega) hb (by omega)
  rw [Int.toNat_natCast, hs, Nat.mul_one, madeCells_one z hzc] at hr
  unfold Oper.wp
  simp [execOp, ho, hl, hc, hr, Result.andThen]
  exact hK _ _ h
/-- an error, or none -/
def optV : Option Nat → Value
  | none => .nilIface
  | some a => errV a
/-- the errors that are none -/
def some24 (xs : List (Option Nat)) : List Nat := xs.filterMap id
theorem some24_succ (xs : List (Option Nat)) (i : Nat) (hi : i < xs.length) : some24 (xs.take (i + 1)) = some24 (xs.take i) ++ (match xs[i] with | none => [] | some a => [a]) := by
  unfold some24
  rw [List.take_succ_eq_append_getElem hi, List.filterMap_append]
  congr 1
  cases xs[i] <;> rfl
theorem some24_le (xs : List (Option Nat)) (i : Nat) : (some24 (xs.take i)).length ≤ xs.length := by
  unfold some24
  refine Nat.le_trans (List.length_filterMap_le _ _) ?_
  rw [List.length_take]; omega
theorem built_join (A : Option Addr) (n c : Nat) (w : World) : (Instr.build 228 #[(0, .slice A n c)]).run Tryd.prog w = .ok (.agg #[.slice A n c]) w := by kernel_rfl
set_option maxRecDepth 100000 in
set_option maxHeartbeats 4000000 in
theorem errJoin_any (A : Option Addr) (c : Nat) (xs : List (Option Nat)) (hx : xs.length ≤ 1000) (w : World) (hr : Reads w w.heap.size A (xs.map optV)) :
    Calls Tryd.prog 111 #[.slice A xs.length c] w fun e w' => ((some24 xs = [] ∧ e = .returned .nilIface) ∨ ∃ j A' c', 0 < (some24 xs).length ∧ e = .returned (.iface 226 (.pointer (some ⟨j, 0, none⟩))) ∧ Blk w' j 228 #[.slice A' (some24 xs).length c'] ∧ Reads w' w'.heap.size A' ((some24 xs).map errV)) ∧ Below w.heap.size w w' := by
  obtain ⟨i0, hi0, hz0, hz1, hz2⟩ := info_parts (by kernel_rfl : (Tryd.prog.info? 93).map (fun i => (i.zero, i.size, i.bytes)) = some (some .nilIface, 1, 16))
  have HR := Lib.hid hr
  have kB := built_join
  clear hr
  go_enter Tryd.func111, Tryd.ntmps111
  go_wp2_with fail
  go_loopg [3, 11] (xs.length + 1) (fun gk nv iv wr => w = wr ∧ ∃ i : Nat, xs.length + 1 ≤ i + gk ∧ i ≤ xs.length ∧ iv = .int .i64 (i : Int) ∧ nv = .int .i64 ((some24 (xs.take i)).length : Nat))
  case atStart => exact ⟨rfl, 0, by omega, Nat.zero_le _, rfl, rfl⟩
  case round =>
    obtain ⟨rfl, i, hi, hil, rfl, rfl⟩ := hrel
    have Hi := Lib.hid hi
    clear hi
    by_cases hlt : i < xs.length
    · obtain ⟨b, off, rfl, _, hc⟩ := HR.out (by rw [List.length_map]; omega)
      have hci : w.cell? ⟨b, off + i, none⟩ = some (optV xs[i]) := hc i (optV xs[i]) (by rw [List.getElem?_map, List.getElem?_eq_getElem hlt]; rfl)
      have hs := some24_succ xs i hlt
      have hle := some24_le xs i
      have hil' : (i : Int) < (xs.length : Int) := by omega
      have hi1000 : (i : Int) < 1000 := by omega
      have hgk : 0 < gk := by have := Hi.out; omega
      obtain ⟨n, hn⟩ : ∃ n, (some24 (xs.take i)).length = n := ⟨_, rfl⟩
      have hn1000 : (n : Int) ≤ 1000 := by omega
      cases hxi : xs[i] with
      | none =>
        rw [hxi] at hci hs
        have Hs := Lib.hid (show (some24 (xs.take (i + 1))).length = n by rw [hs, List.length_append, hn]; rfl)
        rw [hn]
        replace hci : w.cell? ⟨b, off + i, none⟩ = some .nilIface := hci
        clear hc hs hn hxi hle
        go_wp2_with fail
        go_roundg (gk - 1)
        case measure => omega
        case rel => exact ⟨rfl, i + 1, by have := Hi.out; omega, by omega, by go_num, by rw [Hs.out]⟩
      | some a =>
        rw [hxi] at hci hs
        have Hs := Lib.hid (show (some24 (xs.take (i + 1))).length = n + 1 by rw [hs, List.length_append, hn]; rfl)
        rw [hn]
        replace hci : w.cell? ⟨b, off + i, none⟩ = some (.iface 40 (.int .i64 (a : Int))) := hci
        clear hc hs hn hxi hle
        go_wp2_with fail
        go_roundg (gk - 1)
        case measure => omega
        case rel => exact ⟨rfl, i + 1, by have := Hi.out; omega, by omega, by go_num, by rw [Hs.out]; go_num⟩
    · obtain rfl : i = xs.length := by omega
      rw [List.take_length]
      have hle := some24_le xs xs.length
      rw [List.take_length] at hle
      clear hlt
      by_cases h0 : some24 xs = []
      · rw [h0]
        have H0 := Lib.hid h0
        clear h0 hle
        go_wp2_with fail
        go_ret
        exact ⟨.inl ⟨H0.out, rfl⟩, Below.refl _ _⟩
      · have hpos : 0 < (some24 xs).length := List.length_pos_iff.2 h0
        obtain ⟨N, hN⟩ : ∃ N, (some24 xs).length = N := ⟨_, rfl⟩
        have HN := Lib.hid (And.intro hN (show 0 < N ∧ N ≤ 1000 by omega))
        have hN0 : ((N : Int) == 0) = false := by rw [beq_eq_false_iff_ne]; omega
        rw [hN]
        clear h0 hpos hle hN
        go_upto_region 11 with (first
          | (refine wpList_make0 rfl _ _ _ rfl 93 i0 _ Tryd.underlying119 hi0 hz0 hz1 rfl _ _ N rfl rfl (by have := HN.out.2.2; rw [hz2]; omega) (by have := HN.out.2.2; omega) ?_; have hb2 := kB (some ⟨w.heap.size, 0, none⟩) 0 N))
        have hn2 := below_new1 w (Obj.cells (List.replicate N Value.nilIface).toArray 93)
        have hn3 := below_new1 (w.alloc (Obj.cells (List.replicate N Value.nilIface).toArray 93)) (Obj.cells #[.slice (some ⟨w.heap.size, 0, none⟩) 0 N] 228)
        have hJ : Blk ((w.alloc (Obj.cells (List.replicate N Value.nilIface).toArray 93)).alloc (Obj.cells #[.slice (some ⟨w.heap.size, 0, none⟩) 0 N] 228)) (w.heap.size + 1) 228 #[.slice (some ⟨w.heap.size, 0, none⟩) 0 N] := by
          have e : w.heap.size + 1 = (w.alloc (Obj.cells (List.replicate N Value.nilIface).toArray 93)).heap.size := by simp
          rw [e]
          exact Blk.new _ _ _
        have hO : (w.alloc (Obj.cells (List.replicate N Value.nilIface).toArray 93)).ownsRow w.heap.size 93 1 (.slice (some ⟨w.heap.size, 0, none⟩) 0 N) ([] : List Value).length [] :=
          ⟨rfl, .inr ⟨w.heap.size, N, _, rfl, Nat.le_refl _, heap_alloc_new w _, Nat.zero_le _, by have := HN.out.2.2; unfold maxLen; omega, by simp, rfl⟩⟩
        refine wp_at (fun W => ∃ v, Blk W (w.heap.size + 1) 228 #[v] ∧ W.ownsRow w.heap.size 93 1 v ((some24 (xs.take 0)).map errV).length ((some24 (xs.take 0)).map errV) ∧ Below w.heap.size w W) ⟨_, hJ, own_below hO hn3, hn2.trans (hn3.mono hn2.size)⟩ ?_
        clear hn2 hn3 hJ hO
        rintro W2 h2
        have H2 := Lib.hid h2
        clear h2
        go_wp2_with fail
        go_loopg [28] (xs.length + 1) (fun gk iv wr => ∃ i : Nat, xs.length + 1 ≤ i + gk ∧ i ≤ xs.length ∧ iv = .int .i64 (i : Int) ∧ ∃ v, Blk wr (w.heap.size + 1) 228 #[v] ∧ wr.ownsRow w.heap.size 93 1 v ((some24 (xs.take i)).map errV).length ((some24 (xs.take i)).map errV) ∧ Below w.heap.size w wr)
        case atStart => exact ⟨0, by omega, Nat.zero_le _, rfl, H2.out⟩
        case round =>
          clear H2
          obtain ⟨i, hi, hil, rfl, v, hJ, hO, hB⟩ := hrel
          obtain ⟨Av, cv, rfl⟩ := own_slice hO
          have Hi := Lib.hid (And.intro hi (And.intro hJ (And.intro hO hB)))
          clear hi
          by_cases hlt : i < xs.length
          · obtain ⟨b, off, rfl, _, hc⟩ := (HR.out.below hB) (by rw [List.length_map]; omega)
            have hci : wr.cell? ⟨b, off + i, none⟩ = some (optV xs[i]) := hc i (optV xs[i]) (by rw [List.getElem?_map, List.getElem?_eq_getElem hlt]; rfl)
            have hs := some24_succ xs i hlt
            have hle := some24_le xs i
            have hil' : (i : Int) < (xs.length : Int) := by omega
            have hi1000 : (i : Int) < 1000 := by omega
            have hgk : 0 < gk := by have := Hi.out.1; omega
            cases hxi : xs[i] with
            | none =>
              rw [hxi] at hci hs
              have Hs := Lib.hid (show some24 (xs.take (i + 1)) = some24 (xs.take i) by rw [hs]; exact List.append_nil _)
              replace hci : wr.cell? ⟨b, off + i, none⟩ = some .nilIface := hci
              clear hc hs hxi hle hJ hO hB
              go_wp2_with fail
              go_roundg (gk - 1)
              case measure => omega
              case rel => exact ⟨i + 1, by have := Hi.out.1; omega, by omega, by go_num, _, Hi.out.2.1, by rw [Hs.out]; exact Hi.out.2.2.1, Hi.out.2.2.2⟩
            | some a =>
              rw [hxi] at hci hs
              have Hs := Lib.hid (show some24 (xs.take (i + 1)) = some24 (xs.take i) ++ [a] from hs)
              replace hci : wr.cell? ⟨b, off + i, none⟩ = some (.iface 40 (.int .i64 (a : Int))) := hci
              have cj : wr.cell? ⟨w.heap.size + 1, 0, none⟩ = some (.slice Av ((some24 (xs.take i)).map errV).length cv) := hJ.cell 0
              have hn5 := below_new1 wr (Obj.cells #[.iface 40 (.int .i64 (a : Int))] 93)
              have hO5 := own_below hO hn5
              have hJ5 := hJ.below hn5 hJ.lt
              have hB5 := hB.trans (hn5.mono hB.size)
              have hrd : Reads (wr.alloc (Obj.cells #[.iface 40 (.int .i64 (a : Int))] 93)) (wr.heap.size + 1) (some ⟨wr.heap.size, 0, none⟩) [errV a] := Reads.of_blk (Blk.new wr 93 #[errV a]) (by omega) 0
              clear hc hs hxi hJ hO hB
              obtain ⟨L, hL⟩ : ∃ L, (some24 (xs.take i)).map errV = L := ⟨_, rfl⟩
              have HL := Lib.hid (And.intro hL (show L.length ≤ 1000 by rw [← hL, List.length_map]; omega))
              rw [hL] at cj hO5 hJ5
              clear hL hle
              go_wp2_with (first
                | (at_builtin; refine wpList_appendR rfl (.tmp 38) (.tmp 40) 119 rfl w.heap.size 93 i0 _ 16 Tryd.underlying119 hi0 hz0 hz1 hz2 rfl (.slice Av L.length cv) L rfl hO5 _ _ 1 1 [errV a] rfl hrd rfl (fun u hu => by rw [List.mem_singleton] at hu; subst hu; rfl) (by have := HL.out.2; unfold maxLen; omega) (by have := HL.out.2; omega) hB5.size ?_; intro v6 W6 hO6 hg6 _; obtain ⟨A6, c6, rfl⟩ := own_slice hO6; have hJ6 := hJ5.grown hg6 (fun e => own_ne hJ5 hO5 (by decide) e.symm))
                | (refine wpList_store1 rfl rfl _ (.tmp 43) (.tmp 41) rfl (w.heap.size + 1) 0 rfl (.slice A6 _ c6) rfl _ _ hJ6 (by kernel_rfl) (by show 0 < 1; decide) rfl rfl ?_; intro W7 hJ7 hg7))
              have hO7 := own_typed hO6 hg7 hJ6 (by decide)
              have hB7 := below_only (below_own hB5 hO5 hg6 hB5.size) hg7 (by omega) (Nat.le_trans hB5.size hg6.size)
              have eL : L ++ [errV a] = (some24 (xs.take (i + 1))).map errV := by rw [Hs.out, List.map_append, ← HL.out.1]; rfl
              rw [eL] at hO7
              have Hlen := Lib.hid (show ((some24 (xs.take (i + 1))).map errV).length = L.length + 1 by rw [← eL, List.length_append]; rfl)
              have H7 := Lib.hid (And.intro hJ7 (And.intro hO7 hB7))
              clear hJ7 hO7 hB7 hJ6 hO6 hg6 hg7 hrd hO5 hJ5 hB5 hn5 eL
              go_roundg (gk - 1)
              case measure => omega
              case rel => exact ⟨i + 1, by have := Hi.out.1; omega, by omega, by go_num, _, H7.out.1, by have h := H7.out.2.1; rw [Hlen.out] at h ⊢; exact h, H7.out.2.2⟩
          · obtain rfl : i = xs.length := by omega
            clear hlt hJ hO hB
            go_wp2_with fail
            go_ret
            have hO := Hi.out.2.2.1
            have hJ := Hi.out.2.1
            rw [List.take_length, List.length_map] at hO hJ
            refine ⟨.inr ⟨w.heap.size + 1, Av, cv, by rw [HN.out.1]; exact HN.out.2.1, rfl, hJ, ?_⟩, Hi.out.2.2.2⟩
            have := Reads.of_own hO
            exact this
end Go.Proofs.YtfggbfnnibpohaaDoor
