/- Texts that stand behind one another: Ops. No condition. -/
import Derived.Test.YtlmboaenmdcpbaaDoorQ6
import Derived.Test.YtlmboaenmdcpbaaDoorQ4
/- Rows of ints of the call's own; the walk of policy's Ops. No condition. -/
namespace Go.Proofs.YtlmboaenmdcpbaaDoor
open Go Go.RowKit
def nI (n : Int) : Value := .int .i64 n
theorem nI_one (ns : List Int) : ∀ u ∈ ns.map nI, u.oneCell' = true := fun u hu => by
  rw [List.mem_map] at hu
  obtain ⟨n, _, rfl⟩ := hu
  rfl
theorem ownI_below {w w' : World} {base : Nat} {e : TypeId} {size n : Nat} {v : Value} {xs : List Value} (h : w.ownsRow base e size v n xs) (hb : Below w.heap.size w w') : w'.ownsRow base e size v n xs := by
  refine ⟨h.1, ?_⟩
  rcases h.2 with h0 | ⟨g, cap, cur, hv, hbs, hh, hrest⟩
  · exact .inl h0
  · exact .inr ⟨g, cap, cur, hv, hbs, Blk.below (show Blk w g e cur from hh) hb (Blk.lt (show Blk w g e cur from hh)), hrest⟩
/-- a row of ints of the call's own -/
def OwnI (w : World) (base : Nat) (v : Value) (ns : List Int) : Prop := w.ownsRow base 3 1 v (ns.map nI).length (ns.map nI)
theorem OwnI.nil (w : World) (base : Nat) : OwnI w base (.slice none 0 0) [] := World.ownsRow_nil _ _ _ _
theorem OwnI.slice {w : World} {base : Nat} {v : Value} {ns : List Int} (h : OwnI w base v ns) : ∃ A c, v = .slice A ns.length c ∧ Reads w w.heap.size A (ns.map nI) := by
  have hl : (ns.map nI).length = ns.length := List.length_map _
  rcases id h.2 with ⟨e, h0⟩ | ⟨g, cap, cur, e, _⟩
  · subst e
    have : ns = [] := List.eq_nil_of_length_eq_zero (by omega)
    subst this
    exact ⟨none, 0, rfl, Reads.of_own (n := 0) h⟩
  · subst e
    refine ⟨_, _, by rw [hl], ?_⟩
    exact Reads.of_own h
theorem OwnI.below {w w' : World} {base : Nat} {v : Value} {ns : List Int} (h : OwnI w base v ns) (hb : Below w.heap.size w w') : OwnI w' base v ns := ownI_below h hb
theorem wpList_appendI {wr : World} {ops : Array Oper} {rest : List Oper} {o : Oper} {a : Act} {Q : Exit → Act → World → Prop} (hgd : o.guard = none) (s x : Operand)
    (ho : o.op = .call { callee := .builtin .append, args := #[s, x], argTypes := #[30, 30] })
    (base : Nat) (v : Value) (ns : List Int) (hs : a.eval s = v) (hown : OwnI wr base v ns) (n : Int)
    (hx : a.eval x = .slice (some ⟨wr.heap.size, 0, none⟩) 1 1) (hlen : ns.length + 1 ≤ 100000000000) (hbase : base ≤ wr.heap.size) (w0 : World) (hbel : Below base w0 wr)
    (h : ∀ v' w', OwnI w' base v' (ns ++ [n]) → Below base w0 w' → wpList Tryd.prog ops Q rest (a.put o.dst v') w') :
    wpList Tryd.prog ops Q (o :: rest) a (wr.alloc (Obj.cells #[nI n] 3)) := by
  obtain ⟨i0, hi, hz0, hz1, hz2⟩ := info_parts (by kernel_rfl : (Tryd.prog.info? 3).map (fun i => (i.zero, i.size, i.bytes)) = some (some (.int .i64 0), 1, 8))
  have hbt : base ≤ (wr.alloc (Obj.cells #[nI n] 3)).heap.size := Nat.le_trans hbase (below_new1 wr _).size
  have hl : (ns.map nI).length = ns.length := List.length_map _
  refine wpList_appendR hgd s x _ ho base 3 i0 _ 8 Tryd.underlying30 hi hz0 hz1 hz2 rfl v (ns.map nI) hs (ownI_below hown (below_new1 wr _)) (wr.heap.size + 1) (some ⟨wr.heap.size, 0, none⟩) 1 1 [nI n] hx (show Reads (wr.alloc (Obj.cells #[nI n] 3)) (wr.heap.size + 1) (some ⟨wr.heap.size, 0, none⟩) [nI n] from Reads.of_blk (Blk.new wr 3 #[nI n]) (by omega) 0) rfl (fun u' hu' => by rw [List.mem_singleton] at hu'; subst hu'; rfl) (by unfold maxLen; omega) (by omega) hbt ?_
  intro v' w' hown' hg hat
  have e : ns.map nI ++ [nI n] = (ns ++ [n]).map nI := by simp
  rw [e] at hown'
  exact h v' w' hown' (below_own (hbel.trans ((below_new1 wr _).mono hbase)) (ownI_below hown (below_new1 wr _)) hg hbt)
set_option maxRecDepth 100000 in
set_option maxHeartbeats 2000000 in
theorem ops_any (role : Int) (w : World) : Calls Tryd.prog 17 #[.int .i64 role] w fun e w' => ∃ v, e = .returned v ∧ OwnI w' w.heap.size v (opsP role 12) ∧ Below w.heap.size w w' := by
  obtain ⟨i0, hi, hz0, hz1, hz2⟩ := info_parts (by kernel_rfl : (Tryd.prog.info? 3).map (fun i => (i.zero, i.size, i.bytes)) = some (some (.int .i64 0), 1, 8))
  go_enter Tryd.func17, Tryd.ntmps17
  go_wp2_with fail
  go_loopg [3, 4] 13 (fun gk lv nv wr => ∃ k : Nat, 13 ≤ k + gk ∧ k ≤ 12 ∧ nv = .int .i64 ((k : Int) + 1) ∧ OwnI wr w.heap.size lv (opsP role k) ∧ Below w.heap.size w wr)
  case atStart => exact ⟨0, by omega, by omega, rfl, OwnI.nil _ _, Below.refl _ _⟩
  case round =>
    obtain ⟨k, hk, hk12, rfl, hown, hbel⟩ := hrel
    have hl := opsP_len role k
    have HF := Lib.hid (And.intro hown (And.intro hbel (And.intro hbel.size (And.intro hl hk))))
    clear hown hbel hl hk
    by_cases h12 : k < 12
    · have m1 := may_any role ((k : Int) + 1) wr
      have hs := opsP_succ role k
      obtain ⟨b, hb⟩ : ∃ b, mayP role ((k : Int) + 1) = b := ⟨_, rfl⟩
      rw [hb] at m1 hs
      clear hb
      have hle : decide ((k : Int) + 1 ≤ 12) = true := decide_eq_true (by omega)
      cases b with
      | true =>
        go_wp2_with (first
          | (at_builtin; refine wpList_appendI rfl (.tmp 12) (.tmp 14) rfl w.heap.size _ _ rfl HF.out.1 ((k : Int) + 1) rfl (by have := HF.out.2.2.2.1; omega) HF.out.2.2.1 w HF.out.2.1 ?_; intro u1 w1 hown1 hb1)
          | (refine m1.mono ?_; rintro e _ ⟨rfl, rfl⟩))
        have hgk : 0 < gk := by have := HF.out.2.2.2.2; omega
        rw [if_pos trivial] at hs
        have HR := Lib.hid (show ∃ k' : Nat, 13 ≤ k' + (gk - 1) ∧ k' ≤ 12 ∧ Value.int .i64 ((k : Int) + 1 + 1) = .int .i64 ((k' : Int) + 1) ∧ OwnI w1 w.heap.size u1 (opsP role k') ∧ Below w.heap.size w w1 from
          ⟨k + 1, by have := HF.out.2.2.2.2; omega, by omega, by congr 1, by rw [hs]; exact hown1, hb1⟩)
        go_roundg (gk - 1)
        case measure => omega
        case rel => exact HR.out
      | false =>
        go_wp2_with (first
          | (refine m1.mono ?_; rintro e _ ⟨rfl, rfl⟩))
        have hgk : 0 < gk := by have := HF.out.2.2.2.2; omega
        rw [if_neg (by simp), List.append_nil] at hs
        have HR := Lib.hid (show ∃ k' : Nat, 13 ≤ k' + (gk - 1) ∧ k' ≤ 12 ∧ Value.int .i64 ((k : Int) + 1 + 1) = .int .i64 ((k' : Int) + 1) ∧ OwnI wr w.heap.size u3 (opsP role k') ∧ Below w.heap.size w wr from
          ⟨k + 1, by have := HF.out.2.2.2.2; omega, by omega, by congr 1, by rw [hs]; exact HF.out.1, HF.out.2.1⟩)
        go_roundg (gk - 1)
        case measure => omega
        case rel => exact HR.out
    · obtain rfl : k = 12 := by omega
      go_wp2_with fail
      go_ret
      exact ⟨_, rfl, HF.out.1, HF.out.2.1⟩
end Go.Proofs.YtlmboaenmdcpbaaDoor
