/- Texts that stand behind one another: Const. No condition. -/
import Derived.Test.YtfggbfnnibpohaaDoorQ10
import Derived.Lib.SlBytesConst
/- Two constant texts as bytes in one region that draws its order: literals' rows, and the conversion of a literal's row to its own type, which marks it. No condition. -/
namespace Go.Proofs.YtfggbfnnibpohaaDoor
open Go Go.RowKit
/-- Block g is just these bytes (marked or not). -/
def Lit (V : World) (g : Nat) (bs : List UInt8) : Prop := ∃ t fr, V.heap[g]? = some (.cells (bs.map v8).toArray t fr)
theorem Lit.lt {V : World} {g : Nat} {bs : List UInt8} (h : Lit V g bs) : g < V.heap.size := by
  obtain ⟨t, fr, h⟩ := h
  rcases Nat.lt_or_ge g V.heap.size with hlt | hge
  · exact hlt
  · rw [Array.getElem?_eq_none hge] at h; cases h
theorem Lit.bsl {V : World} {g : Nat} {bs : List UInt8} (h : Lit V g bs) (n : Nat) (hn : bs.length = n) (hc : n ≤ 9223372036854775807) : BSl V V.heap.size (.slice (some ⟨g, 0, none⟩) n n) bs := by
  subst hn
  have hl := h.lt
  obtain ⟨t, fr, h⟩ := h
  exact BSl.of_marked h _ hl hc
theorem Lit.new (V : World) (bs : List UInt8) (t : TypeId) : Lit (V.alloc (.cells (bs.map v8).toArray t)) V.heap.size bs := ⟨t, _, heap_alloc_new V _⟩
theorem Lit.alloc {V : World} {g : Nat} {bs : List UInt8} (h : Lit V g bs) (o : Obj) : Lit (V.alloc o) g bs := by
  have hl := h.lt
  obtain ⟨t, fr, h⟩ := h
  exact ⟨t, fr, (Below.heap_alloc V o g hl).trans h⟩
theorem freeze_block (V : World) (a : Addr) (n g : Nat) {cs : Array Value} {t : TypeId} {fr : Nat × Nat} (h : V.heap[g]? = some (.cells cs t fr)) : ∃ fr', (V.freeze a n).heap[g]? = some (.cells cs t fr') := by
  unfold World.freeze
  split
  · exact ⟨fr, h⟩
  · rw [Array.getElem?_modify]
    by_cases hg : a.block = g
    · subst hg
      rw [if_pos rfl, h]
      exact ⟨_, rfl⟩
    · rw [if_neg hg]; exact ⟨fr, h⟩
theorem Lit.freeze {V : World} {g : Nat} {bs : List UInt8} (h : Lit V g bs) (a : Addr) (n : Nat) : Lit (V.freeze a n) g bs := by
  obtain ⟨t, fr, h⟩ := h
  obtain ⟨fr', h'⟩ := freeze_block V a n g h
  exact ⟨t, fr', h'⟩
theorem below_freeze {B : Nat} {W V : World} (h : Below B W V) (a : Addr) (ha : B ≤ a.block) (n : Nat) : Below B W (V.freeze a n) := by
  refine ⟨?_, ?_, ?_, ?_, fun k hk => ?_⟩
  · unfold World.freeze; split <;> exact h.os
  · unfold World.freeze; split <;> exact h.tape
  · unfold World.freeze; split <;> exact h.output
  · unfold World.freeze; split
    · exact h.size
    · simpa using h.size
  · unfold World.freeze; split
    · exact h.block k hk
    · simp only
      rw [Array.getElem?_modify, if_neg (by omega)]; exact h.block k hk
theorem wpList_convSelf {P : Program} {V : World} {ops : Array Oper} {rest : List Oper} {o : Oper} {a : Act} {Q : Exit → Act → World → Prop} (hgd : o.guard = none) (t e : TypeId) (x : Operand) (ho : o.op = .convert t t x)
    (ht : P.underlying t = some (.slice e)) (he : P.underlying e = some (.int .u8)) (g n c : Nat) (hx : a.eval x = .slice (some ⟨g, 0, none⟩) n c) (bs : List UInt8) (hg : Lit V g bs)
    (h : ∀ k, wpList P ops Q rest (a.put o.dst (.slice (some ⟨g, 0, none⟩) n c)) (V.freeze ⟨g, k, none⟩ 1)) : wpList P ops Q (o :: rest) a V := by
  refine wpList_plain hgd fun K hK => ?_
  obtain ⟨t', fr, hg⟩ := hg
  have hsh : V.shape? g = some (t', bs.length) := by unfold World.shape?; rw [hg]; simp
  have hr : (convert t t (.slice (some ⟨g, 0, none⟩) n c)).run P V = .ok (.slice (some ⟨g, 0, none⟩) n c) (V.freeze ⟨g, bs.length, none⟩ 1) := by
    simp [convert, run_underlying ht, run_underlying he, markStringish, hsh]
  unfold Oper.wp execOp
  simp only [ho, hx, Sem.run_bind, hr, Result.andThen_ok, Sem.run_pure]
  exact hK _ _ (h _)
/-- the world behind a point of a walk by plan, the class staying -/
theorem mix_atC {P : Program} {ops : Array Oper} {K : Act → World → Prop} {p : Plan} {S : World → Prop} {a : Act} {w : World} (R : World → Prop) (hR : R w) (h : ∀ W, R W → mixW P ops K p S a W) : mixW P ops K p S a w := h w hR
end Go.Proofs.YtfggbfnnibpohaaDoor
