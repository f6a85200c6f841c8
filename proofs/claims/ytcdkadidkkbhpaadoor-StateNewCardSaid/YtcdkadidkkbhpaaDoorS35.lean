/- Texts that stand behind one another: Rd, RdT, Rr, RdN, RdB. No condition. -/
import Derived.Test.YtcdkadidkkbhpaaDoorS34
import Derived.Test.YtcdkadidkkbhpaaDoorS13
import Derived.Test.YtcdkadidkkbhpaaDoorS12
import Derived.Test.YtcdkadidkkbhpaaDoorS15
/- The walks of codec's Reader: refuse, take. No condition. -/
namespace Go.Proofs.YtcdkadidkkbhpaaDoor
open Go Go.RowKit
attribute [local irreducible] mixW
attribute [local go_sem] n8_lo n8_hi n64_lo n64_hi
section
variable {w w' : World} {B g : Nat} {s : RdL}
theorem below_grown {w w' : World} (row : Option Nat) (h : Below w.heap.size w w') : w.grownBy w' row := Only.of_below h row
theorem grown_trans {a b c : World} {k : Nat} (h : a.grownBy b (some k)) (h' : b.grownBy c (some k)) : a.grownBy c (some k) := Only.trans h h'
end
end Go.Proofs.YtcdkadidkkbhpaaDoor

/- The walk of codec's Reader.take. No condition. -/
namespace Go.Proofs.YtcdkadidkkbhpaaDoor
open Go Go.RowKit
attribute [local irreducible] mixW
attribute [local go_sem] n8_lo n8_hi n64_lo n64_hi
theorem own_cap {w : World} {base s n c : Nat} {A : Option Addr} {e : TypeId} {xs : List Value} (h : w.ownsRow base e s (.slice A n c) n xs) : n ≤ c := by
  rcases h.2 with ⟨e, h0⟩ | ⟨g, cap, cur, e, _, _, h1, _⟩
  · rw [h0]; exact Nat.zero_le _
  · injection e with _ _ e; subst e; exact h1
end Go.Proofs.YtcdkadidkkbhpaaDoor

/- The walks of the reference's Reader: width, refuse, take. No condition. -/
namespace Go.Proofs.YtcdkadidkkbhpaaDoor
open Go Go.RowKit
attribute [local irreducible] mixW
attribute [local go_sem] n8_lo n8_hi n64_lo n64_hi
theorem width2_any (k : Int) (hk : -9223372036854775808 ≤ k ∧ k ≤ 9223372036854775807) (w : World) : Calls Tryd.prog 64 #[.int .i64 k] w fun e w' => e = .returned (.int .i64 (clamp8 k)) ∧ w = w' := by
  obtain ⟨h1, h2⟩ := hk
  have hc : clamp8 k = if k < 1 then 1 else if k > 8 then 8 else k.toNat := rfl
  by_cases a : k < 1
  · rw [if_pos a] at hc
    have Hc := Lib.hid hc
    clear hc
    go_enter Tryd.func64, Tryd.ntmps64
    go_wp2
    go_ret
    exact ⟨by rw [Hc.out]; rfl, rfl⟩
  · rw [if_neg a] at hc
    by_cases b : k > 8
    · rw [if_pos b] at hc
      have Hc := Lib.hid hc
      clear hc
      go_enter Tryd.func64, Tryd.ntmps64
      go_wp2
      go_ret
      exact ⟨by rw [Hc.out]; rfl, rfl⟩
    · rw [if_neg b] at hc
      have Hc := Lib.hid hc
      clear hc
      go_enter Tryd.func64, Tryd.ntmps64
      go_wp2
      go_ret
      exact ⟨by rw [Hc.out, Int.toNat_of_nonneg (by omega)]; rfl, rfl⟩
/-- the cells of a reference's Reader -/
def rrC (A : Option Addr) (cap : Nat) (s : RdL) : Array Value :=
  #[.slice A s.bs.length cap, .int .i64 (s.pos : Int), .int .i64 (((s.no.getD (0, 0)).2 : Nat) : Int), .int .i64 (((s.no.getD (0, 0)).1 : Nat) : Int), .bool s.no.isSome]
section
variable {w w' : World} {B g : Nat} {A : Option Addr} {cap : Nat} {s s' : RdL}
theorem bsl_grown {v : Value} {bs : List UInt8} (h : BSl w B v bs) (hg : w.grownBy w' (some g)) (hB : B ≤ g) (hs : B ≤ w.heap.size) : BSl w' B v bs := by
  obtain ⟨A, c, e, h1, h2, hr⟩ := h
  exact ⟨A, c, e, h1, h2, hr.grown hg hs (fun k e => by injection e with e; omega)⟩
end
end Go.Proofs.YtcdkadidkkbhpaaDoor

/- The walks of codec's Reader: NewReader, Number, Fail. No condition. -/
namespace Go.Proofs.YtcdkadidkkbhpaaDoor
open Go Go.RowKit
attribute [local irreducible] mixW
attribute [local go_sem] n8_lo n8_hi n64_lo n64_hi
theorem BSl.cell0 {w : World} {A : Option Addr} {n cap : Nat} {bs : List UInt8} (h : BSl w w.heap.size (.slice A n cap) bs) (k : Nat) (hk : k < n) :
    ∃ b off, A = some ⟨b, off, none⟩ ∧ b < w.heap.size ∧ ∀ j, j < n → w.cell? ⟨b, off + j, none⟩ = some (.int .u8 (n8 (bs.getD j 0))) := by
  obtain ⟨A', cap', e1, hc1, hc2, hr⟩ := h
  injection e1 with e1 e2 e3
  subst e1; subst e3; subst e2
  obtain ⟨b, off, rfl, hb, hc⟩ := hr (by rw [List.length_map]; omega)
  refine ⟨b, off, rfl, hb, fun j hj => hc j _ ?_⟩
  rw [List.getElem?_map, List.getElem?_eq_getElem hj, List.getD_eq_getElem?_getD, List.getElem?_eq_getElem hj]; rfl
end Go.Proofs.YtcdkadidkkbhpaaDoor

/- The walks of codec's Reader: Bytes, Digest, End. No condition. -/
namespace Go.Proofs.YtcdkadidkkbhpaaDoor
open Go Go.RowKit
attribute [local irreducible] mixW
attribute [local go_sem] n8_lo n8_hi n64_lo n64_hi
theorem RdL.take_no (s : RdL) (n : Nat) (h : s.no.isSome = true) : s.take n = ([], s) := by unfold RdL.take; rw [if_pos h]
theorem BSl.len {w : World} {B : Nat} {v : Value} {bs : List UInt8} (h : BSl w B v bs) : ∃ A c, v = .slice A bs.length c := by
  obtain ⟨A, c, h, _⟩ := h
  exact ⟨A, c, h⟩
end Go.Proofs.YtcdkadidkkbhpaaDoor
