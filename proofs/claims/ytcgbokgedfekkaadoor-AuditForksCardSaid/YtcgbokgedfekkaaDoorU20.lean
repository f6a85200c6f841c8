/- Texts that stand behind one another: AudR. No condition. -/
import Derived.Test.YtcgbokgedfekkaaDoorU11
import Derived.Test.YtcgbokgedfekkaaDoorItoa
import Derived.Test.YtcgbokgedfekkaaDoorU12
import Derived.Lib.ItoaLen
import Derived.Lib.LaidTab
import Derived.LaidEql
import Derived.Stop.Asserts
import Derived.RowKitTokens
/- The walks of audit's Refusal: Error, Unwrap, errors.Is at it. Condition: the table of strconv. (372: how many types the seat's translation has, and 100; 5: how many package-level variables.) -/
namespace Go.Proofs.YtcgbokgedfekkaaDoor
open Go Go.RowKit
attribute [local irreducible] mixW
attribute [local go_sem] n8_lo n8_hi n64_lo n64_hi
/-- strconv's table -/
def Pz (w : World) : Prop := Lib.TabIs Tryd.prog w "internal/strconv.uint64pow10" .u64 Lib.pow10Tab
/-- a text that is not empty -/
def Txt (v : Value) : Prop := ∃ l : List UInt8, v = strV l ∧ 0 < l.length ∧ l.length ≤ 1000
theorem txt_const (l : List UInt8) (h : 0 < l.length) (h2 : l.length ≤ 1000) : Txt (.string ⟨l.toArray⟩) := ⟨l, rfl, h, h2⟩
theorem own_nilRow (w : World) (base : Nat) : w.ownsRow base 5 1 (.slice none 0 0) ([] : List Value).length [] := World.ownsRow_nil _ _ _ _
set_option maxHeartbeats 2000000 in
set_option maxRecDepth 100000 in
theorem errnoText_any (k : Nat) (hk : k ≤ 30) (w : World) : Calls Tryd.prog 129 #[.int .i64 (k : Int)] w fun e w' => ∃ v, e = .returned v ∧ Txt v ∧ Below w.heap.size w w' := by
  obtain ⟨i0, hi, hz0, hz1, hz2⟩ := info_parts (by kernel_rfl : (Tryd.prog.info? 5).map (fun i => (i.zero, i.size, i.bytes)) = some (some (.int .u8 0), 1, 1))
  by_cases h0 : k = 0
  · subst h0
    go_enter Tryd.func129, Tryd.ntmps129
    go_wp2_with fail
    go_ret
    exact ⟨_, rfl, txt_const _ (by decide) (by decide), Below.refl _ _⟩
  by_cases h1 : k = 1
  · subst h1
    go_enter Tryd.func129, Tryd.ntmps129
    go_wp2_with fail
    go_ret
    exact ⟨_, rfl, txt_const _ (by decide) (by decide), Below.refl _ _⟩
  by_cases h20 : k = 20
  · subst h20
    go_enter Tryd.func129, Tryd.ntmps129
    go_wp2_with fail
    go_ret
    exact ⟨_, rfl, txt_const _ (by decide) (by decide), Below.refl _ _⟩
  by_cases h21 : k = 21
  · subst h21
    go_enter Tryd.func129, Tryd.ntmps129
    go_wp2_with fail
    go_ret
    exact ⟨_, rfl, txt_const _ (by decide) (by decide), Below.refl _ _⟩
  by_cases h22 : k = 22
  · subst h22
    go_enter Tryd.func129, Tryd.ntmps129
    go_wp2_with fail
    go_ret
    exact ⟨_, rfl, txt_const _ (by decide) (by decide), Below.refl _ _⟩
  have e0 : ((k : Int) == 0) = false := by simp; omega
  have e1 : ((k : Int) == 1) = false := by simp; omega
  have e20 : ((k : Int) == 20) = false := by simp; omega
  have e21 : ((k : Int) == 21) = false := by simp; omega
  have e22 : ((k : Int) == 22) = false := by simp; omega
  clear h0 h1 h20 h21 h22
  go_enter Tryd.func129, Tryd.ntmps129
  go_wp2_with fail
  go_loopg [3, 4] 40 (fun gk nv bv wr => ∃ (n : Nat) (bs : List UInt8), n + bs.length ≤ 31 ∧ n + (if bs.length = 0 then 1 else 0) ≤ gk ∧ nv = .int .i64 n ∧ wr.ownsRow w.heap.size 5 1 bv (bs.map v8).length (bs.map v8) ∧ Below w.heap.size w wr)
  case atStart => exact ⟨k, [], by simp; omega, by simp; omega, rfl, own_nilRow _ _, Below.refl _ _⟩
  case round =>
    obtain ⟨n, bs, hnb, hgk, rfl, hown, hb⟩ := hrel
    rw [List.length_map] at hown
    obtain ⟨A, c, rfl⟩ := own_slice hown
    obtain ⟨x, hx⟩ : ∃ x : UInt8, n8 x = 48 + (n : Int) % 10 := ⟨UInt8.ofNat (48 + n % 10), by unfold n8; rw [UInt8.toNat_ofNat']; omega⟩
    have hn1 := below_new1 wr (Obj.cells #[.int .u8 (n8 x)] 5)
    have hlit : (wr.alloc (Obj.cells #[.int .u8 (n8 x)] 5)).ownsRow wr.heap.size 5 1 (.slice (some ⟨wr.heap.size, 0, none⟩) 1 1) ([v8 x] : List Value).length [v8 x] := ⟨rfl, .inr ⟨wr.heap.size, 1, #[v8 x], rfl, Nat.le_refl _, heap_alloc_new wr _, Nat.le_refl _, by decide, rfl, rfl⟩⟩
    have hrd := Reads.of_own (own_below hown hn1)
    have HF := Lib.hid (And.intro hown (And.intro hb (And.intro hlit (And.intro hrd hn1))))
    have hsz := hb.size
    have hsz1 := hn1.size
    clear hown hb hlit hrd hn1
    by_cases hgo : 0 < n ∨ bs.length = 0
    · have hm : n / 10 < n + (if bs.length = 0 then 1 else 0) := by
        rcases hgo with h | h
        · omega
        · rw [if_pos h]; omega
      have hgk' := hgk
      have HM := Lib.hid (And.intro hm hgk)
      have Hs1 := Lib.hid (show ([v8 x] : List Value).length + bs.length ≤ maxLen by unfold maxLen; simp only [List.length_cons, List.length_nil]; omega)
      have Hs2 := Lib.hid (show (([v8 x] : List Value).length + bs.length) * 1 ≤ 140737488355328 by simp only [List.length_cons, List.length_nil]; omega)
      have Hs3 := Lib.hid hnb
      have e10 : (n : Int) % 10 = ((n % 10 : Nat) : Int) := by omega
      clear hgk hm hgk'
      by_cases hn : n = 0
      · subst hn
        have hmm : 0 + bs.length ≤ 31 := hnb
        have hl1 : ((bs.length : Int) == 0) = true := by rw [beq_iff_eq]; omega
        have Hs4 := Lib.hid (show bs.length = 0 by omega)
        have hx0 : n8 x = 48 := by rw [hx]; rfl
        rw [hx0] at HF
        clear hgo
        go_upto_region 17 with fail
        go_wp2_with (first | (at_builtin; refine wpList_appendR rfl (.tmp 30) (.tmp 31) _ rfl wr.heap.size 5 i0 _ 1 Tryd.underlying46 hi hz0 hz1 hz2 rfl _ [v8 x] rfl HF.out.2.2.1 _ A bs.length c (bs.map v8) rfl HF.out.2.2.2.1 (by simp) (oneCell_v8 bs) Hs1.out Hs2.out HF.out.2.2.2.2.size ?_; intro v' w2 hown2 hg2 hat2))
        have hrel2 : ∃ (n' : Nat) (bs' : List UInt8), n' + bs'.length ≤ 31 ∧ n' + (if bs'.length = 0 then 1 else 0) ≤ gk - 1 ∧ Value.int .i64 0 = .int .i64 n' ∧ w2.ownsRow w.heap.size 5 1 v' (bs'.map v8).length (bs'.map v8) ∧ Below w.heap.size w w2 := by
          refine ⟨0, x :: bs, by have := Hs4.out; simp only [List.length_cons]; omega, ?_, rfl, own_baseR hown2 hsz, ?_⟩
          · have := HM.out
            simp only [List.length_cons, Nat.succ_ne_zero, if_false]
            omega
          · exact HF.out.2.1.trans ((below_own HF.out.2.2.2.2 HF.out.2.2.1 hg2 HF.out.2.2.2.2.size).mono hsz)
        have HR := Lib.hid hrel2
        have hgk : 0 < gk := by have := HM.out; omega
        clear hrel2 hown2 hg2 hat2 HF HM
        go_roundg (gk - 1)
        case measure => omega
        case rel => exact HR.out
      · have hn0 : decide ((0:Int) < (n : Int)) = true := by simp; omega
        clear hgo
        go_upto_region 17 with fail
        have hq0 : (0:Int) ≤ (n : Int) % 10 ∧ (n : Int) % 10 < 10 := by omega
        clear e10
        rw [hx] at HF
        go_wp2_with (first | (at_builtin; refine wpList_appendR rfl (.tmp 30) (.tmp 31) _ rfl wr.heap.size 5 i0 _ 1 Tryd.underlying46 hi hz0 hz1 hz2 rfl _ [v8 x] rfl HF.out.2.2.1 _ A bs.length c (bs.map v8) rfl HF.out.2.2.2.1 (by simp) (oneCell_v8 bs) Hs1.out Hs2.out HF.out.2.2.2.2.size ?_; intro v' w2 hown2 hg2 hat2))
        have hrel2 : ∃ (n' : Nat) (bs' : List UInt8), n' + bs'.length ≤ 31 ∧ n' + (if bs'.length = 0 then 1 else 0) ≤ gk - 1 ∧ Value.int .i64 ((n : Int) / 10) = .int .i64 n' ∧ w2.ownsRow w.heap.size 5 1 v' (bs'.map v8).length (bs'.map v8) ∧ Below w.heap.size w w2 := by
          refine ⟨n / 10, x :: bs, by have := Hs3.out; simp only [List.length_cons]; omega, ?_, by congr 1, own_baseR hown2 hsz, ?_⟩
          · have := HM.out
            simp only [List.length_cons, Nat.succ_ne_zero, if_false]
            omega
          · exact HF.out.2.1.trans ((below_own HF.out.2.2.2.2 HF.out.2.2.1 hg2 HF.out.2.2.2.2.size).mono hsz)
        have HR := Lib.hid hrel2
        have hgk : 0 < gk := by have := HM.out; omega
        clear hrel2 hown2 hg2 hat2 HF HM
        go_roundg (gk - 1)
        case measure => omega
        case rel => exact HR.out
    · have hz : n = 0 ∧ bs.length ≠ 0 := by omega
      obtain ⟨rfl, hl0⟩ := hz
      have hl1 : ((bs.length : Int) == 0) = false := by rw [beq_eq_false_iff_ne]; omega
      have hbs : bs.length ≤ 31 := by omega
      clear hgo hgk hl0
      go_wp2_with (first
        | (refine wpList_strA rfl (.tmp 35) rfl _ bs _ rfl (BSl.of_own HF.out.1) ?_)
        | (refine wpList_addStr rfl (.const (.string _)) (.tmp 36) _ rfl [114, 101, 102, 117, 115, 97, 108, 32] bs rfl rfl (by simp; omega) ?_))
      go_ret
      exact ⟨_, rfl, txt_const _ (by simp) (by simp; omega), HF.out.2.1⟩
theorem Pz.below {w w' : World} (h : Pz w) (hb : Below w.heap.size w w') : Pz w' := by
  unfold Pz Lib.TabIs World.var? at *
  cases hg : Tryd.prog.globalNamed "internal/strconv.uint64pow10" with
  | none => simp [hg] at h
  | some g =>
    simp only [hg, Option.bind_some] at h ⊢
    have hlt : g < w.heap.size := by
      rcases Nat.lt_or_ge g w.heap.size with h' | h'
      · exact h'
      · rw [Array.getElem?_eq_none h'] at h; simp at h
    rw [hb.block g hlt]
    exact h
theorem below_grow (w : World) (k : Nat) (os : Array Obj) : Below w.heap.size w (Sort.grow (w.drewN k) os) :=
  ⟨rfl, rfl, rfl, by unfold Sort.grow; rw [Array.size_append]; exact Nat.le_add_right _ _, fun i hi => by
    unfold Sort.grow
    exact Array.getElem?_append_left hi⟩
/-- strconv.Itoa -/
theorem itoa_any (n : Int) (h0 : -9223372036854775808 ≤ n) (h1 : n ≤ 9223372036854775807) (w : World) (hz : Pz w) :
    Calls Tryd.prog 128 #[.int .i64 n] w fun e w' => ∃ l : List UInt8, e = .returned (strV l) ∧ l.length ≤ 21 ∧ Below w.heap.size w w' :=
  (Tryd.strconv_Itoa n h0 h1 w hz).mono fun e w' ⟨he, k, os, hw⟩ => ⟨Lib.itoa n, he, Lib.itoa_length_le n h0 h1, by rw [hw]; exact below_grow w k os⟩
section
variable {ops : Array Oper} {C : World → Prop} {Q : Act → Prop} {a : Act} {o : Oper} {rest : List Oper}
theorem wpQuiet_addStr (hw : Region.wanted o (yielded ops a.tmps) = true) (x y : Operand) (yt : TypeId) (ho : o.op = .binOp .add 9 x y yt) (X Y : List UInt8) (hx : a.eval x = strV X) (hy : a.eval y = strV Y) (hl : X.length + Y.length ≤ 9223372036854775807)
    (h : wpQuiet Tryd.prog ops C Q rest (a.put o.dst (strV (X ++ Y)))) : wpQuiet Tryd.prog ops C Q (o :: rest) a :=
  wpQuiet_wanted hw (strV (X ++ Y)) (fun w hC => by
    have hg : (eqGuard .add 9 x y (strV X) (strV Y)).run Tryd.prog w = .ok () w := by unfold strV; simp [eqGuard]
    unfold Oper.quietAt execOp
    simp only [ho, hx, hy, Sem.run_bind, hg, run_strAdd w X Y hl, Result.andThen_ok, Sem.run_pure]
    exact ⟨rfl, rfl⟩) h
end
set_option maxRecDepth 100000 in
set_option maxHeartbeats 2000000 in
theorem audUnwrap_any (g pos k : Nat) (w : World) (hb : Blk w g 183 #[.int .i64 (pos : Int), .int .i64 (k : Int)]) :
    Calls Tryd.prog 168 #[.pointer (some ⟨g, 0, none⟩)] w fun e w' => e = .returned (.iface 29 (.int .i64 (k : Int))) ∧ w = w' := by
  have c1 : w.cell? ⟨g, 1, none⟩ = some (.int .i64 (k : Int)) := hb.cell 1
  go_enter Tryd.func168, Tryd.ntmps168
  go_wp2_with fail
  go_ret
  exact ⟨rfl, rfl⟩
set_option maxRecDepth 100000 in
set_option maxHeartbeats 4000000 in
theorem audErr_any (g pos k : Nat) (hp : pos ≤ 9223372036854775807) (hk : k ≤ 30) (w : World) (hz : Pz w) (hb : Blk w g 183 #[.int .i64 (pos : Int), .int .i64 (k : Int)]) :
    Calls Tryd.prog 108 #[.pointer (some ⟨g, 0, none⟩)] w fun e w' => ∃ l : List UInt8, e = .returned (strV l) ∧ 0 < l.length ∧ Below w.heap.size w w' := by
  go_enter Tryd.func108, Tryd.ntmps108
  go_upto_region 1 with fail
  refine wp_region_mixP (.plain 0 <| .plain 1 <| .plain 2 <| .plain 3 <| .plain 7 <| .plain 8 <| .plain 9 <| .plain 10 <| .only 4 <| .plain 5 <| .plain 6 <| .only 11 <| .plain 12 <| .plain 13 <| .done) (by kernel_rfl) (by kernel_rfl) (fun W1 hb1 => ?_)
  have hbk := hb.below hb1 hb.lt
  have c0 : ∀ z, (plus W1 z).cell? ⟨g, 0, none⟩ = some (.int .i64 (pos : Int)) := fun z => (hbk.plus z).cell 0
  have c1 : ∀ z, (plus W1 z).cell? ⟨g, 1, none⟩ = some (.int .i64 (k : Int)) := fun z => (hbk.plus z).cell 1
  have hz1 := hz.below hb1
  clear hb hz hbk
  iterate 8 (refine mix_plain rfl ?_; (first
    | (refine wpQuiet_nilCheck rfl (.tmp 3) rfl _ rfl ?_; simp only [Act.put, List.setIfInBounds_toArray, List.set_cons_zero, List.set_cons_succ])
    | (refine wpQuiet_nilCheck rfl (.tmp 10) rfl _ rfl ?_; simp only [Act.put, List.setIfInBounds_toArray, List.set_cons_zero, List.set_cons_succ])
    | (refine wpQuiet_load1 rfl _ (.tmp 5) rfl ⟨g, 0, none⟩ rfl _ Tryd.underlying3 rfl _ (fun _ ⟨e, he⟩ => by rw [he]; exact c0 e) ?_; simp only [Act.put, List.setIfInBounds_toArray, List.set_cons_zero, List.set_cons_succ])
    | (refine wpQuiet_load1 rfl _ (.tmp 12) rfl ⟨g, 1, none⟩ rfl _ Tryd.underlying29 rfl _ (fun _ ⟨e, he⟩ => by rw [he]; exact c1 e) ?_; simp only [Act.put, List.setIfInBounds_toArray, List.set_cons_zero, List.set_cons_succ])
    | go_big_quiet_step (fail)); refine wpQuiet_nil ?_)
  refine mix_only rfl (fun K hK => ?_)
  go_wp2_with fail
  refine (itoa_any (pos : Int) (by omega) (by omega) W1 hz1).mono ?_
  rintro e W2 ⟨l, rfl, hl, hb2⟩
  go_wp2_with fail
  refine hK _ _ hb2 ?_
  clear hK K
  iterate 2 (refine mix_plain rfl ?_; (first
    | (refine wpQuiet_addStr rfl (.const (.string _)) (.tmp 7) _ rfl [116, 114, 101, 101, 32] l rfl rfl (by simp only [List.length_cons, List.length_nil]; omega) ?_; simp only [Act.put, List.setIfInBounds_toArray, List.set_cons_zero, List.set_cons_succ])
    | (refine wpQuiet_addStr rfl (.tmp 8) (.const (.string _)) _ rfl ([116, 114, 101, 101, 32] ++ l) [58, 32] rfl rfl (by simp only [List.length_append, List.length_cons, List.length_nil]; omega) ?_; simp only [Act.put, List.setIfInBounds_toArray, List.set_cons_zero, List.set_cons_succ])
    | go_big_quiet_step (fail)); refine wpQuiet_nil ?_)
  have hl2 : ([116, 114, 101, 101, 32] ++ l ++ [58, 32]).length ≤ 28 := by simp only [List.length_append, List.length_cons, List.length_nil]; omega
  generalize ([116, 114, 101, 101, 32] ++ l ++ [58, 32]) = m at hl2 ⊢
  refine mix_only rfl (fun K hK => ?_)
  go_wp2_with fail
  refine (errnoText_any k hk W2).mono ?_
  rintro e W3 ⟨v, rfl, ⟨t, rfl, ht0, ht⟩, hb3⟩
  go_wp2_with fail
  refine hK _ _ hb3 ?_
  clear hK K
  iterate 2 (refine mix_plain rfl ?_; (first
    | (refine wpQuiet_addStr rfl (.tmp 9) (.tmp 14) _ rfl m t rfl rfl (by omega) ?_; simp only [Act.put, List.setIfInBounds_toArray, List.set_cons_zero, List.set_cons_succ])
    | go_big_quiet_step (fail)); refine wpQuiet_nil ?_)
  refine mix_done ?_
  go_wp2_with fail
  go_ret
  exact ⟨m ++ t, rfl, by rw [List.length_append]; omega, hb1.trans ((hb2.trans (hb3.mono hb2.size)).mono hb1.size)⟩
open Go.Extern.Stop Go.Stop Go.Extern
theorem isTypeOf (v : Value) (w : World) : (Extern.ReflectliteType.typeOf #[.iface 29 v]).run Tryd.prog w = .ok (.iface 219 (.agg #[.pointer (some ⟨5, 29, none⟩)])) w := by kernel_rfl
theorem isComparable (w : World) : ((Extern.ReflectliteType.method fun t => do Extern.Rtype.noPackHeld "Comparable" t; (fun a => Value.bool a.comparable) <$> typeInfo t) #[.agg #[.pointer (some ⟨5, 29, none⟩)]]).run Tryd.prog w = .ok (.bool true) w := by kernel_rfl
theorem isMethodComparable (v : Value) (w : World) : (Go.method 372 219 v "Comparable").run Tryd.prog w = .ok (172, v) w := by kernel_rfl
theorem noIs (v : Value) (xT : TypeId) (w : World) : (Instr.typeAssert (.iface 181 v) xT 221 true).run Tryd.prog w = .ok (.tuple #[.nilIface, .bool false]) w := run_typeAssert_lacksB Tryd.underlying221 (by kernel_rfl) (by kernel_rfl) v xT w
theorem hasUnwrap (v : Value) (xT : TypeId) (w : World) : (Instr.typeAssert (.iface 181 v) xT 224 true).run Tryd.prog w = .ok (.tuple #[.iface 181 v, .bool true]) w := run_typeAssert_hasB Tryd.underlying224 (by kernel_rfl) v xT w
theorem methodUnwrap (v : Value) (w : World) : (Go.method 372 181 v "Unwrap").run Tryd.prog w = .ok (168, v) w := by kernel_rfl
theorem errnoComp : (Tryd.prog.info? 29).map (·.comparable) = some true := by kernel_rfl
theorem run_eql_errno (k : Int) (w : World) : (binOp .eql 96 (.iface 29 (.int .i64 k)) (.iface 29 (.int .i64 k))).run Tryd.prog w = .ok (.bool true) w := by
  obtain ⟨i, hi, hcmp⟩ := Option.map_eq_some_iff.1 errnoComp
  have h : ∀ d : Nat, (Op.equalIn (d + 2) 96 (.iface 29 (.int .i64 k)) (.iface 29 (.int .i64 k))).run Tryd.prog w = .ok true w := fun d => by
    simp [Op.equalIn, run_underlying Tryd.underlying96, run_underlying Tryd.underlying29, typeInfo, hi, hcmp]
  simp only [binOp]
  simp [Op.equal, Op.maxDepth, h 9998]
set_option maxRecDepth 100000 in
set_option maxHeartbeats 2000000 in
theorem audIs_any (g pos k : Nat) (w : World) (hb : Blk w g 183 #[.int .i64 (pos : Int), .int .i64 (k : Int)]) :
    Calls Tryd.prog 109 #[.iface 181 (.pointer (some ⟨g, 0, none⟩)), .iface 29 (.int .i64 (k : Int))] w fun e w' => e = .returned (.bool true) ∧ w = w' := by
  have h1 := @run_callFunc_extern Tryd.prog 130 _ Extern.ReflectliteType.typeOf Tryd.func130 (by kernel_rfl) (by kernel_rfl) (by kernel_rfl) (by kernel_rfl)
  have h2 := @run_callFunc_extern Tryd.prog 172 _ (Extern.ReflectliteType.method fun t => do Extern.Rtype.noPackHeld "Comparable" t; pure (.bool (← typeInfo t).comparable)) Tryd.func172 (by kernel_rfl) (by kernel_rfl) (by kernel_rfl) (by kernel_rfl)
  have tT := isTypeOf
  have cT := isComparable
  have mR := isMethodComparable
  have nW := noIs
  have uW := hasUnwrap
  have mU := methodUnwrap
  have heq := run_eql_errno (k : Int) w
  have hty := run_eql_iface_types (P := Tryd.prog) 181 29 (.pointer (some ⟨g, 0, none⟩)) (.int .i64 (k : Int)) Tryd.underlying96 (by decide) w
  have c1 : w.cell? ⟨g, 1, none⟩ = some (.int .i64 (k : Int)) := hb.cell 1
  go_enter Tryd.func109, Tryd.ntmps109
  go_wp2
  refine wp_loop_rounds 2 ?_
  rw [rounds_succ]
  go_wp2
  rw [rounds_succ]
  go_wp2
  go_ret
  exact ⟨rfl, rfl⟩
end Go.Proofs.YtcgbokgedfekkaaDoor
