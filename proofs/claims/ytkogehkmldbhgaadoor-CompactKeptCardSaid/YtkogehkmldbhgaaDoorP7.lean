/- Texts that stand behind one another: CmpA. No condition. -/
import Derived.Test.YtkogehkmldbhgaaDoorP5
import Derived.Test.YtkogehkmldbhgaaDoorP3
import Derived.Test.YtkogehkmldbhgaaDoorP6
import Derived.Shelf.Spec.TrailingZeros
/- Slices of 64-bit words; the walk of the library's count of trailing noughts. Condition: the library's own table stands as its text lays it. -/
namespace Go.Proofs.YtkogehkmldbhgaaDoor
open Go Go.RowKit
def nU (n : Nat) : Value := .int .u64 (n : Int)
theorem nU_one (ns : List Nat) : ∀ u ∈ ns.map nU, u.oneCell' = true := fun u hu => by
  rw [List.mem_map] at hu
  obtain ⟨n, _, rfl⟩ := hu
  rfl
/-- v is a slice of 64-bit words that reads ns -/
def NSl (w : World) (B : Nat) (v : Value) (ns : List Nat) : Prop :=
  ∃ A cap, v = .slice A ns.length cap ∧ ns.length ≤ cap ∧ cap ≤ 9223372036854775807 ∧ Reads w B A (ns.map nU)
theorem NSl.next {w w' : World} {v : Value} {ns : List Nat} (h : NSl w w.heap.size v ns) (hb : Below w.heap.size w w') : NSl w' w'.heap.size v ns := by
  obtain ⟨A, cap, h1, h2, h3, h4⟩ := h
  exact ⟨A, cap, h1, h2, h3, (h4.below hb).more hb.size⟩
/-- a row of 64-bit words of the call's own -/
def OwnU (w : World) (base : Nat) (v : Value) (ns : List Nat) : Prop := w.ownsRow base 22 1 v (ns.map nU).length (ns.map nU)
theorem OwnU.nil (w : World) (base : Nat) : OwnU w base (.slice none 0 0) [] := World.ownsRow_nil _ _ _ _
theorem OwnU.nsl {w : World} {base : Nat} {v : Value} {ns : List Nat} (h : OwnU w base v ns) : NSl w w.heap.size v ns := by
  have hl : (ns.map nU).length = ns.length := List.length_map _
  rcases h.2 with ⟨rfl, h0⟩ | ⟨b, cap, cur, rfl, hbs, hb, hc1, hc2, hsz, hcur⟩
  · have : ns = [] := List.eq_nil_of_length_eq_zero (by omega)
    subst this
    exact ⟨none, 0, rfl, Nat.le_refl _, by decide, Reads.nil_⟩
  · refine ⟨some ⟨b, 0, none⟩, cap, by rw [hl], by omega, hc2, fun _ => ⟨b, 0, rfl, Blk.lt (show Blk w b _ cur from hb), fun j u hj => ?_⟩⟩
    have hj2 := (List.getElem?_eq_some_iff.1 hj).1
    rw [cell_of_row w b (0 + j) cur _ (0, 0) hb, ← hj, ← hcur, List.getElem?_take, if_pos (by omega), Nat.zero_add]
    simp
/-- append of one word, out of a slice literal, onto a row of the call's own -/
theorem wpList_appendU {wr : World} {ops : Array Oper} {rest : List Oper} {o : Oper} {a : Act} {Q : Exit → Act → World → Prop} (hgd : o.guard = none) (s x : Operand)
    (ho : o.op = .call { callee := .builtin .append, args := #[s, x], argTypes := #[23, 23] })
    (base : Nat) (v : Value) (ns : List Nat) (hs : a.eval s = v) (hown : OwnU wr base v ns) (n : Nat)
    (hx : a.eval x = .slice (some ⟨wr.heap.size, 0, none⟩) 1 1) (hlen : ns.length + 1 ≤ 100000000000) (hbase : base ≤ wr.heap.size) (w0 : World) (hbel : Below base w0 wr)
    (h : ∀ v' w', OwnU w' base v' (ns ++ [n]) → Below base w0 w' → wpList Tryd.prog ops Q rest (a.put o.dst v') w') :
    wpList Tryd.prog ops Q (o :: rest) a (wr.alloc (Obj.cells #[nU n] 22)) := by
  obtain ⟨i0, hi, hz0, hz1, hz2⟩ := info_parts (by kernel_rfl : (Tryd.prog.info? 22).map (fun i => (i.zero, i.size, i.bytes)) = some (some (.int .u64 0), 1, 8))
  have hbt : base ≤ (wr.alloc (Obj.cells #[nU n] 22)).heap.size := Nat.le_trans hbase (below_new1 wr _).size
  have hl : (ns.map nU).length = ns.length := List.length_map _
  refine wpList_appendR hgd s x _ ho base 22 i0 _ 8 Tryd.underlying23 hi hz0 hz1 hz2 rfl v (ns.map nU) hs (own_below hown (below_new1 wr _)) (wr.heap.size + 1) (some ⟨wr.heap.size, 0, none⟩) 1 1 [nU n] hx (show Reads (wr.alloc (Obj.cells #[nU n] 22)) (wr.heap.size + 1) (some ⟨wr.heap.size, 0, none⟩) [nU n] from Reads.of_blk (Blk.new wr 22 #[nU n]) (by omega) 0) rfl (fun u' hu' => by rw [List.mem_singleton] at hu'; subst hu'; rfl) (by unfold maxLen; omega) (by omega) hbt ?_
  intro v' w' hown' hg hat
  have e : ns.map nU ++ [nU n] = (ns ++ [n]).map nU := by simp
  rw [e] at hown'
  exact h v' w' hown' (below_own (hbel.trans ((below_new1 wr _).mono hbase)) (own_below hown (below_new1 wr _)) hg hbt)
/-- the library's table of de Bruijn's -/
structure Tz (w : World) : Prop where
  tab : TabAt 0 Lib.deBruijn64tab w
  b0 : 0 < w.heap.size
theorem Tz.next {w w' : World} (h : Tz w) (hb : Below w.heap.size w w') : Tz w' :=
  ⟨fun j hj => (hb.cell (p := ⟨_, _, none⟩) h.b0).trans (h.tab j hj), Nat.lt_of_lt_of_le h.b0 hb.size⟩
theorem tz_zero (w : World) : Calls Tryd.prog 36 #[.int .u64 0] w fun e w' => e = .returned (.int .i64 64) ∧ w = w' := by
  go_enter Tryd.func36, Tryd.ntmps36
  go_wp2
  go_ret
  exact ⟨rfl, rfl⟩
theorem tz_core (x k idx : Nat) (w : World) (hx0 : ((x : Int) == 0) = false)
    (key : IntKind.u64.wrap (bits BinOp.and IntKind.u64 (x : Int) (IntKind.u64.wrap (-(x : Int))) * 285870213051353865) / 288230376151711744 = (idx : Int))
    (hi : idx < 64) (hk : k < 64) (hcell : w.cell? ⟨0, idx, none⟩ = some (.int .u8 k)) :
    Calls Tryd.prog 36 #[.int .u64 x] w fun e w' => e = .returned (.int .i64 k) ∧ w = w' := by
  go_enter Tryd.func36, Tryd.ntmps36
  go_wp2_with (simp only [key])
  go_ret
  exact ⟨rfl, rfl⟩
theorem odd_dvd {c m i : Nat} (h : 2 ^ i ∣ 2 ^ c * (2 * m + 1)) : i ≤ c := Nat.le_of_not_lt fun hlt => by
  have h1 : 2 ^ (c + 1) ∣ 2 ^ c * (2 * m + 1) := Nat.dvd_trans (p2_dvd hlt) h
  rw [Nat.pow_succ] at h1
  have h2 := Nat.dvd_of_mul_dvd_mul_left (p2_pos c) h1
  omega
/-- the count of trailing noughts -/
theorem tz_any (x : Nat) (hx : x < 18446744073709551616) (w : World) (hT : Tz w) :
    Calls Tryd.prog 36 #[.int .u64 x] w fun e w' => ∃ k : Nat, e = .returned (.int .i64 k) ∧ w = w' ∧ k ≤ 64 ∧ 2 ^ k ∣ x ∧ ∀ i, i ≤ 64 → 2 ^ i ∣ x → i ≤ k := by
  by_cases hx0 : x = 0
  · subst hx0
    exact (tz_zero w).mono fun e w' ⟨h1, h2⟩ => ⟨64, h1, h2, Nat.le_refl _, Nat.dvd_zero _, fun i hi _ => hi⟩
  · obtain ⟨hlow, hk⟩ := Lib.lowest_bit 64 x hx0 hx
    obtain ⟨hi, htab⟩ := Lib.deBruijn64_at _ hk
    have hcell := hT.tab _ hi
    rw [htab] at hcell
    have hspec := Lib.ctzFrom_spec 64 x (by omega) hx
    have hc : Lib.ctz 64 x = Lib.ctzFrom 64 x := if_neg hx0
    obtain ⟨m, hm, _⟩ := hspec
    rw [← hc] at hm
    exact (tz_core x _ _ w (by simp; omega) (tz64_key x _ hx hx0 hlow) hi hk hcell).mono fun e w' ⟨h1, h2⟩ =>
      ⟨_, h1, h2, by omega, ⟨2 * m + 1, hm⟩, fun i _ hd => odd_dvd (m := m) (Eq.mp (congrArg (2 ^ i ∣ ·) hm) hd)⟩
end Go.Proofs.YtkogehkmldbhgaaDoor
