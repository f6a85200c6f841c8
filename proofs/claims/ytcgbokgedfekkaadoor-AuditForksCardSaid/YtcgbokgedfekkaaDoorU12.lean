/- Texts that stand behind one another: Str, StrEq, StrA. No condition. -/
import Derived.Test.YtcgbokgedfekkaaDoorU7
import Derived.Laws.BytesArg
import Derived.Laws.StructEq
/- A slice of bytes as a string, in a quiet walk. No condition. -/
namespace Go.Proofs.YtcgbokgedfekkaaDoor
open Go Go.RowKit
/-- the string of some bytes -/
def strV (bs : List UInt8) : Value := .string ⟨bs.toArray⟩
theorem nums_n8 (bs : List UInt8) : strOfNums (bs.map n8) = ⟨bs.toArray⟩ := by
  unfold strOfNums
  congr 1
  rw [List.map_map]
  congr 1
  apply List.ext_getElem (by simp)
  intro i h1 h2
  simp [n8]
theorem run_bytes_str {w : World} {B : Nat} {v : Value} {bs : List UInt8} (hv : BSl w B v bs) : (convert 46 9 v).run Tryd.prog w = .ok (strV bs) w := by
  obtain ⟨A, c, rfl, h1, h2, hr⟩ := hv
  cases A with
  | none =>
    have h0 : bs = [] := by
      cases bs with
      | nil => rfl
      | cons b l => obtain ⟨_, _, e, _⟩ := hr (by simp); cases e
    subst h0
    exact run_convert_bytes_nil w _ _ Tryd.underlying46 Tryd.underlying5 _ _ _ Tryd.underlying9
  | some p =>
    cases bs with
    | nil =>
      have hl : (loadCells p 0).run Tryd.prog w = .ok (([] : List Int).map (Value.int .u8)).toArray w := by
        have := run_loadCells_list (P := Tryd.prog) w p [] (fun j v hj => by simp at hj)
        simpa using this
      rw [List.length_nil, run_convert_bytes_string w _ _ _ _ 0 c Tryd.underlying46 Tryd.underlying5 Tryd.underlying9, run_bytesToString w p 0 c [] hl]
      rfl
    | cons b l =>
      obtain ⟨g, off, e, hb, hc⟩ := hr (by simp)
      cases e
      have h := run_convert_bytes_arg (P := Tryd.prog) w 46 5 Tryd.underlying46 Tryd.underlying5 g off (b :: l).length c ((b :: l).map n8) (by simp) (fun i hi => by
        have hh := hc i (v8 ((b :: l).getD i 0)) (by rw [List.getElem?_map, List.getElem?_eq_getElem hi]; simp [List.getD, List.getElem?_eq_getElem hi])
        rw [hh]
        rw [List.getD_eq_getElem?_getD, List.getD_eq_getElem?_getD, List.getElem?_map, List.getElem?_eq_getElem hi]
        rfl) 9 Tryd.underlying9
      rw [h, nums_n8]; rfl
section
variable {ops : Array Oper} {C : World → Prop} {Q : Act → Prop} {a : Act} {o : Oper} {rest : List Oper}
theorem wpQuiet_str (hw : Region.wanted o (yielded ops a.tmps) = true) (x : Operand) (ho : o.op = .convert 46 9 x) (v : Value) (bs : List UInt8) (B : Nat) (hx : a.eval x = v) (hv : ∀ w, C w → BSl w B v bs)
    (h : wpQuiet Tryd.prog ops C Q rest (a.put o.dst (strV bs))) : wpQuiet Tryd.prog ops C Q (o :: rest) a :=
  wpQuiet_wanted hw (strV bs) (fun w hC => by
    unfold Oper.quietAt execOp
    simp only [ho, hx, Sem.run_bind, run_bytes_str (hv w hC), Result.andThen_ok, Sem.run_pure]
    exact ⟨rfl, rfl⟩) h
end
end Go.Proofs.YtcgbokgedfekkaaDoor

/- '==' on strings of bytes. No condition. -/
namespace Go.Proofs.YtcgbokgedfekkaaDoor
open Go Go.RowKit
theorem bytes_beq (a b : List UInt8) : ((⟨a.toArray⟩ : ByteArray).toList == (⟨b.toArray⟩ : ByteArray).toList) = decide (a = b) := by
  rw [ByteArray.toList_eq, ByteArray.toList_eq]
  show (a == b) = decide (a = b)
  by_cases h : a = b
  · subst h; simp
  · rw [decide_eq_false h, beq_eq_false_iff_ne]; exact h
theorem run_strEq (w : World) (a b : List UInt8) : (binOp .eql 9 (strV a) (strV b)).run Tryd.prog w = .ok (.bool (decide (a = b))) w := by
  unfold strV
  rw [binOp_string_eql, bytes_beq]
  simp
section
variable {ops : Array Oper} {C : World → Prop} {Q : Act → Prop} {a : Act} {o : Oper} {rest : List Oper}
theorem wpQuiet_eqStr (hw : Region.wanted o (yielded ops a.tmps) = true) (x y : Operand) (yt : TypeId) (ho : o.op = .binOp .eql 9 x y yt) (X Y : List UInt8) (hx : a.eval x = strV X) (hy : a.eval y = strV Y)
    (b : Bool) (hb : decide (X = Y) = b) (hk : wpQuiet Tryd.prog ops C Q rest (a.put o.dst (.bool b))) : wpQuiet Tryd.prog ops C Q (o :: rest) a :=
  wpQuiet_wanted hw (.bool b) (fun w _ => by
    have hg : (eqGuard .eql 9 x y (strV X) (strV Y)).run Tryd.prog w = .ok () w := by unfold strV; simp [eqGuard]
    unfold Oper.quietAt execOp
    simp only [ho, hx, hy, Sem.run_bind, Sem.run_pure, Result.andThen_ok, hg, run_strEq, hb]
    exact ⟨rfl, rfl⟩) hk
theorem run_strNe (w : World) (a b : List UInt8) : (binOp .neq 9 (strV a) (strV b)).run Tryd.prog w = .ok (.bool (!decide (a = b))) w := by
  have h : binOp .neq 9 (strV a) (strV b) = pure (.bool (!((⟨a.toArray⟩ : ByteArray).toList == (⟨b.toArray⟩ : ByteArray).toList))) := by unfold strV; first | (simp [binOp, Op.stringOp]; done) | simp [binOp, Op.stringOp, bne]
  rw [h, bytes_beq]
  simp
theorem wpQuiet_neStr (hw : Region.wanted o (yielded ops a.tmps) = true) (x y : Operand) (yt : TypeId) (ho : o.op = .binOp .neq 9 x y yt) (X Y : List UInt8) (hx : a.eval x = strV X) (hy : a.eval y = strV Y)
    (b : Bool) (hb : decide (X = Y) = b) (hk : wpQuiet Tryd.prog ops C Q rest (a.put o.dst (.bool (!b)))) : wpQuiet Tryd.prog ops C Q (o :: rest) a :=
  wpQuiet_wanted hw (.bool (!b)) (fun w _ => by
    have hg : (eqGuard .neq 9 x y (strV X) (strV Y)).run Tryd.prog w = .ok () w := by unfold strV; simp [eqGuard]
    unfold Oper.quietAt execOp
    simp only [ho, hx, hy, Sem.run_bind, Sem.run_pure, Result.andThen_ok, hg, run_strNe, hb]
    exact ⟨rfl, rfl⟩) hk
end
end Go.Proofs.YtcgbokgedfekkaaDoor

/- Strings of bytes in a forced walk: conversion, '+', '!='. No condition. -/
namespace Go.Proofs.YtcgbokgedfekkaaDoor
open Go Go.RowKit
theorem run_strAdd (w : World) (a b : List UInt8) (h : a.length + b.length ≤ 9223372036854775807) : (binOp .add 9 (strV a) (strV b)).run Tryd.prog w = .ok (strV (a ++ b)) w := by
  unfold strV
  have e : (⟨a.toArray⟩ : ByteArray) ++ ⟨b.toArray⟩ = ⟨(a ++ b).toArray⟩ := by
    apply ByteArray.ext
    rw [ByteArray.data_append]
    simp
  have hn : ¬ ((((⟨a.toArray⟩ : ByteArray).size + (⟨b.toArray⟩ : ByteArray).size : Nat) : Int) > IntKind.i64.max) := by
    show ¬ (((a.toArray.size + b.toArray.size : Nat) : Int) > 9223372036854775807)
    simp only [List.size_toArray]
    omega
  have h1 : binOp .add 9 (.string ⟨a.toArray⟩) (.string ⟨b.toArray⟩) = Op.stringOp .add ⟨a.toArray⟩ ⟨b.toArray⟩ := rfl
  rw [h1]
  unfold Op.stringOp
  simp only [if_neg hn, e, Sem.run_pure]
section
variable {w : World} {ops : Array Oper} {rest : List Oper} {o : Oper} {a : Act} {Q : Exit → Act → World → Prop}
theorem wpList_strA (hgd : o.guard = none) (x : Operand) (ho : o.op = .convert 46 9 x) (v : Value) (bs : List UInt8) (B : Nat) (hx : a.eval x = v) (hv : BSl w B v bs)
    (h : wpList Tryd.prog ops Q rest (a.put o.dst (strV bs)) w) : wpList Tryd.prog ops Q (o :: rest) a w :=
  wpList_plain hgd fun K hK => by
    unfold Oper.wp execOp
    simp only [ho, hx, Sem.run_bind, run_bytes_str hv, Result.andThen_ok, Sem.run_pure]
    exact hK _ _ h
theorem wpList_addStr (hgd : o.guard = none) (x y : Operand) (yt : TypeId) (ho : o.op = .binOp .add 9 x y yt) (X Y : List UInt8) (hx : a.eval x = strV X) (hy : a.eval y = strV Y) (hl : X.length + Y.length ≤ 9223372036854775807)
    (h : wpList Tryd.prog ops Q rest (a.put o.dst (strV (X ++ Y))) w) : wpList Tryd.prog ops Q (o :: rest) a w :=
  wpList_plain hgd fun K hK => by
    have hg : (eqGuard .add 9 x y (strV X) (strV Y)).run Tryd.prog w = .ok () w := by unfold strV; simp [eqGuard]
    unfold Oper.wp execOp
    simp only [ho, hx, hy, Sem.run_bind, hg, run_strAdd w X Y hl, Result.andThen_ok, Sem.run_pure]
    exact hK _ _ h
theorem wpList_neStr (hgd : o.guard = none) (x y : Operand) (yt : TypeId) (ho : o.op = .binOp .neq 9 x y yt) (X Y : List UInt8) (hx : a.eval x = strV X) (hy : a.eval y = strV Y)
    (b : Bool) (hb : decide (X = Y) = b) (h : wpList Tryd.prog ops Q rest (a.put o.dst (.bool (!b))) w) : wpList Tryd.prog ops Q (o :: rest) a w :=
  wpList_plain hgd fun K hK => by
    have hg : (eqGuard .neq 9 x y (strV X) (strV Y)).run Tryd.prog w = .ok () w := by unfold strV; simp [eqGuard]
    unfold Oper.wp execOp
    simp only [ho, hx, hy, Sem.run_bind, hg, run_strNe, hb, Result.andThen_ok, Sem.run_pure]
    exact hK _ _ h
end
end Go.Proofs.YtcgbokgedfekkaaDoor
