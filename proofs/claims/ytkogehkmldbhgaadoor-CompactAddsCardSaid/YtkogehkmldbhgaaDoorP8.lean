/- Texts that stand behind one another: Const, ListP, RefD. No condition. -/
import Derived.Test.YtkogehkmldbhgaaDoorP5
import Derived.Lib.SlBytesConst
import Derived.Test.YtkogehkmldbhgaaDoorP7
/- Two constant texts as bytes in one region that draws its order: literals' rows, and the conversion of a literal's row to its own type, which marks it. No condition. -/
namespace Go.Proofs.YtkogehkmldbhgaaDoor
open Go Go.RowKit
/-- Block g is just these bytes (marked or not). -/
def Lit (V : World) (g : Nat) (bs : List UInt8) : Prop := ∃ t fr, V.heap[g]? = some (.cells (bs.map v8).toArray t fr)
theorem Lit.lt {V : World} {g : Nat} {bs : List UInt8} (h : Lit V g bs) : g < V.heap.size := by
  obtain ⟨t, fr, h⟩ := h
  rcases Nat.lt_or_ge g V.heap.size with hlt | hge
  · exact hlt
  · rw [Array.getElem?_eq_none hge] at h; cases h
theorem Lit.bsl {V : World} {g : Nat} {bs : List UInt8} (h : Lit V g bs) (n : Nat) (hn : bs.length = n) (hc : n ≤ 9223372036854775807) : BSl V V.heap.size (.slice (some ⟨g, 0, none⟩) n n) bs := by
  subst hn
  have hl := h.lt
  obtain ⟨t, fr, h⟩ := h
  exact BSl.of_marked h _ hl hc
theorem Lit.new (V : World) (bs : List UInt8) (t : TypeId) : Lit (V.alloc (.cells (bs.map v8).toArray t)) V.heap.size bs := ⟨t, _, heap_alloc_new V _⟩
theorem Lit.alloc {V : World} {g : Nat} {bs : List UInt8} (h : Lit V g bs) (o : Obj) : Lit (V.alloc o) g bs := by
  have hl := h.lt
  obtain ⟨t, fr, h⟩ := h
  exact ⟨t, fr, (Below.heap_alloc V o g hl).trans h⟩
theorem freeze_block (V : World) (a : Addr) (n g : Nat) {cs : Array Value} {t : TypeId} {fr : Nat × Nat} (h : V.heap[g]? = some (.cells cs t fr)) : ∃ fr', (V.freeze a n).heap[g]? = some (.cells cs t fr') := by
  unfold World.freeze
  split
  · exact ⟨fr, h⟩
  · rw [Array.getElem?_modify]
    by_cases hg : a.block = g
    · subst hg
      rw [if_pos rfl, h]
      exact ⟨_, rfl⟩
    · rw [if_neg hg]; exact ⟨fr, h⟩
theorem Lit.freeze {V : World} {g : Nat} {bs : List UInt8} (h : Lit V g bs) (a : Addr) (n : Nat) : Lit (V.freeze a n) g bs := by
  obtain ⟨t, fr, h⟩ := h
  obtain ⟨fr', h'⟩ := freeze_block V a n g h
  exact ⟨t, fr', h'⟩
theorem below_freeze {B : Nat} {W V : World} (h : Below B W V) (a : Addr) (ha : B ≤ a.block) (n : Nat) : Below B W (V.freeze a n) := by
  refine ⟨?_, ?_, ?_, ?_, fun k hk => ?_⟩
  · unfold World.freeze; split <;> exact h.os
  · unfold World.freeze; split <;> exact h.tape
  · unfold World.freeze; split <;> exact h.output
  · unfold World.freeze; split
    · exact h.size
    · simpa using h.size
  · unfold World.freeze; split
    · exact h.block k hk
    · simp only
      rw [Array.getElem?_modify, if_neg (by omega)]; exact h.block k hk
theorem wpList_convSelf {P : Program} {V : World} {ops : Array Oper} {rest : List Oper} {o : Oper} {a : Act} {Q : Exit → Act → World → Prop} (hgd : o.guard = none) (t e : TypeId) (x : Operand) (ho : o.op = .convert t t x)
    (ht : P.underlying t = some (.slice e)) (he : P.underlying e = some (.int .u8)) (g n c : Nat) (hx : a.eval x = .slice (some ⟨g, 0, none⟩) n c) (bs : List UInt8) (hg : Lit V g bs)
    (h : ∀ k, wpList P ops Q rest (a.put o.dst (.slice (some ⟨g, 0, none⟩) n c)) (V.freeze ⟨g, k, none⟩ 1)) : wpList P ops Q (o :: rest) a V := by
  refine wpList_plain hgd fun K hK => ?_
  obtain ⟨t', fr, hg⟩ := hg
  have hsh : V.shape? g = some (t', bs.length) := by unfold World.shape?; rw [hg]; simp
  have hr : (convert t t (.slice (some ⟨g, 0, none⟩) n c)).run P V = .ok (.slice (some ⟨g, 0, none⟩) n c) (V.freeze ⟨g, bs.length, none⟩ 1) := by
    simp [convert, run_underlying ht, run_underlying he, markStringish, hsh]
  unfold Oper.wp execOp
  simp only [ho, hx, Sem.run_bind, hr, Result.andThen_ok, Sem.run_pure]
  exact hK _ _ (h _)
/-- the world behind a point of a walk by plan, the class staying -/
theorem mix_atC {P : Program} {ops : Array Oper} {K : Act → World → Prop} {p : Plan} {S : World → Prop} {a : Act} {w : World} (R : World → Prop) (hR : R w) (h : ∀ W, R W → mixW P ops K p S a W) : mixW P ops K p S a w := h w hR
end Go.Proofs.YtkogehkmldbhgaaDoor

/- Lists of short texts. No condition. -/
namespace Go.Proofs.YtkogehkmldbhgaaDoor
open Go Go.RowKit
attribute [local go_sem] n8_lo n8_hi n64_lo n64_hi n32_lo n32_hi
def elemL (c : UInt8) (i : Nat) : List UInt8 := [c, UInt8.ofNat i, UInt8.ofNat (i / 256)]
def listL (n : Nat) (c : UInt8) : List (List UInt8) := (List.range n).map (elemL c)
theorem listL_length (n : Nat) (c : UInt8) : (listL n c).length = n := by simp [listL]
theorem listL_at (n : Nat) (c : UInt8) (i : Nat) (h : i < n) : (listL n c).getD i [] = elemL c i := by
  unfold listL; rw [List.getD_eq_getElem?_getD, List.getElem?_map, List.getElem?_range h]; rfl
theorem listL_mem {n : Nat} {c : UInt8} {b : List UInt8} (h : b ∈ listL n c) : b.length = 3 := by
  unfold listL at h
  obtain ⟨i, _, rfl⟩ := List.mem_map.1 h; rfl
theorem byte_nat (k : Nat) : (k : Int) % 256 = n8 (UInt8.ofNat k) := by
  unfold n8; rw [UInt8.toNat_ofNat']; omega
/-- u is a slice that reads some bytes, all of a block -/
def Whole (w : World) (u : Value) (b : List UInt8) : Prop := ∃ g, u = .slice (some ⟨g, 0, none⟩) b.length b.length ∧ Blk w g 5 (b.map v8).toArray
theorem Whole.below {w w' : World} {u : Value} {b : List UInt8} (h : Whole w u b) (hb : Below w.heap.size w w') : Whole w' u b := by
  obtain ⟨g, e, h⟩ := h; exact ⟨g, e, h.below hb h.lt⟩
theorem Whole.grown {w w' : World} {u v : Value} {b : List UInt8} {base n : Nat} {xs : List Value} (h : Whole w u b) (hown : w.ownsRow base 62 1 v n xs) (hg : w.grownBy w' v.ownBlock) : Whole w' u b := by
  obtain ⟨g, e, h⟩ := h
  refine ⟨g, e, h.grown hg (fun e2 => ?_)⟩
  rcases hown.2 with ⟨rfl, _⟩ | ⟨g', cap, cur, rfl, _, hb, _⟩
  · cases e2
  · have e3 : g = g' := by injection e2
    subst e3
    unfold Blk at h
    rw [h] at hb
    injection hb with hb
    injection hb with _ hb
    exact absurd hb (by decide)
theorem Whole.bsl {w : World} {u : Value} {b : List UInt8} (h : Whole w u b) (hl : b.length ≤ 9223372036854775807) : BSl w w.heap.size u b := by
  obtain ⟨g, rfl, h⟩ := h
  refine ⟨_, _, rfl, Nat.le_refl _, hl, ?_⟩
  have := Reads.of_blk h h.lt 0
  simpa using this
theorem SSl.of_own {w : World} {base : Nat} {e : TypeId} {v : Value} {vs : List Value} {ls : List (List UInt8)} (h : w.ownsRow base e 1 v vs.length vs) (hl : vs.length = ls.length) (hel : ∀ i, i < ls.length → BSl w w.heap.size (vs.getD i undef) (ls.getD i [])) : SSl w w.heap.size v ls := by
  obtain ⟨A, cap, hv, h1, h2, hr⟩ := Reads.own h
  exact ⟨A, cap, vs, by rw [hv, hl], by omega, h2, hr, hl, hel⟩
end Go.Proofs.YtkogehkmldbhgaaDoor

/- The walk of the reference's New. No condition. -/
namespace Go.Proofs.YtkogehkmldbhgaaDoor
open Go.RowKit
/-- the table: K, then H -/
def tabL : List UInt32 := K0 ++ H0.list
/-- the table while it is filled -/
def tabK (k : Nat) : List UInt32 := K0.take k ++ List.replicate (72 - k) 0
def tabH (k : Nat) : List UInt32 := K0 ++ (H0.list.take k ++ List.replicate (8 - k) 0)
theorem tabK_len : ∀ k, k ≤ 64 → (tabK k).length = 72 := by decide +kernel
theorem tabK_set : ∀ k, k < 64 → (tabK k).set k (K0.getD k 0) = tabK (k + 1) := by decide +kernel
theorem tabH_len : ∀ k, k ≤ 8 → (tabH k).length = 72 := by decide +kernel
theorem tabH_set : ∀ k, k < 8 → (tabH k).set (64 + k) (H0.list.getD k 0) = tabH (k + 1) := by decide +kernel
theorem tabK_64 : tabK 64 = tabH 0 := by decide +kernel
theorem tabH_8 : tabH 8 = tabL := by decide +kernel
/-- v points at the table -/
def Tbl (w : World) (B : Nat) (v : Value) : Prop := ∃ g, v = .pointer (some ⟨g, 0, none⟩) ∧ g < B ∧ Blk w g 95 (tabL.map v32).toArray
set_option maxRecDepth 100000 in
theorem new_at (w : World) : Calls Tryd.prog 39 #[] w fun e w' => e = .returned (.pointer (some ⟨w.heap.size, 0, none⟩)) ∧ Blk w' w.heap.size 95 (tabL.map v32).toArray ∧ Below w.heap.size w w' := by
  go_enter Tryd.func39, Tryd.ntmps39
  have hzv : ∀ w, (zeroValue 95).run Tryd.prog w = .ok (.agg (((tabK 0).map v32).toArray)) w := fun _ => by kernel_rfl
  go_wp2_with fail
  refine (primes_any _).mono ?_
  rintro e w1 ⟨v1, rfl, hown, hb1⟩
  have hT := (Blk.new w 95 ((tabK 0).map v32).toArray).below hb1 (Blk.new w 95 ((tabK 0).map v32).toArray).lt
  have hbel := (below_new1 w (Obj.cells ((tabK 0).map v32).toArray 95)).trans (hb1.mono (below_new1 w _).size)
  obtain ⟨A, cap, rfl, hc1, hc2, hr⟩ := Reads.own hown
  obtain ⟨bb, off, rfl, hbb, hcb⟩ := hr (by decide)
  have hne : w.heap.size < bb := by
    have := own_ge hown bb rfl
    have h2 : (w.alloc (Obj.cells ((tabK 0).map v32).toArray 95)).heap.size = w.heap.size + 1 := by simp
    omega
  have hcb1 : ∀ j, j < 64 → w1.cell? ⟨bb, off + j, none⟩ = some (.int .u64 (n64 (primeL.getD j 0))) := fun j hj => hcb j _ (v64_at primeL j hj)
  clear hr hcb hown hb1 hzv
  go_wp2_with fail
  go_loopw [3] (fun iv wr => ∃ k : Nat, k ≤ 64 ∧ iv = .int .i64 k ∧ Blk wr w.heap.size 95 ((tabK k).map v32).toArray ∧ (∀ j, j < 64 → wr.cell? ⟨bb, off + j, none⟩ = some (.int .u64 (n64 (primeL.getD j 0)))) ∧ bb < wr.heap.size ∧ Below w.heap.size w wr) (fun iv _ => 64 - (intOf iv).toNat)
  case atStart => exact ⟨0, by omega, rfl, hT, hcb1, hbb, hbel⟩
  case round =>
    clear hT hcb1 hbb hbel
    obtain ⟨k, hk, rfl, hT, hcb, hbb, hbel⟩ := hrel
    by_cases hlt : k < 64
    · have cp : ∀ e, (plus wr e).cell? ⟨bb, off + k, none⟩ = some (.int .u64 (n64 (primeL.getD k 0))) := fun e => ((plus_below wr e).cell (p := ⟨bb, _, none⟩) hbb).trans (hcb k hlt)
      have hroot := root_K k hlt
      have hset := tabK_set k hlt
      have hlen := tabK_len k hk
      generalize primeL.getD k 0 = p at cp hroot
      generalize K0.getD k 0 = kv at hroot hset
      have Hset := Lib.hid hset
      clear hset
      go_wp2_with fail
      refine wp_region_quiet_tail_plus 10 (by kernel_rfl) (by kernel_rfl) ?_
      simp only [List.take_succ_cons, List.take_zero, List.drop_succ_cons, List.drop_zero]
      repeat (go_big_quiet_step ((go_at_call 56; exact calls_plus (hroot _))))
      refine wpQuiet_nil ?_
      rintro _ ⟨e5, rfl⟩
      have hT5 := hT.plus e5
      have hbel5 := hbel.trans ((plus_below wr e5).mono hbel.size)
      have hbb5 : bb < (plus wr e5).heap.size := Nat.lt_of_lt_of_le hbb (plus_below wr e5).size
      have hcb5 : ∀ j, j < 64 → (plus wr e5).cell? ⟨bb, off + j, none⟩ = some (.int .u64 (n64 (primeL.getD j 0))) := fun j hj => ((plus_below wr e5).cell (p := ⟨bb, _, none⟩) hbb).trans (hcb j hj)
      clear cp hcb hT hbel hbb hroot
      generalize plus wr e5 = w5 at hT5 hbel5 hbb5 hcb5 ⊢
      go_wp2_with (first
        | (refine wpList_store1 rfl rfl 91 (.tmp 21) (.tmp 18) rfl w.heap.size k rfl (v32 kv) rfl _ _ hT5 (by kernel_rfl) (by simp; omega) rfl rfl ?_; intro w6 hT6 hon6))
      have hbel6 := below_only hbel5 hon6 (Nat.le_refl _) hbel5.size
      have hbb6 : bb < w6.heap.size := Nat.lt_of_lt_of_le hbb5 hon6.size
      have hcb6 : ∀ j, j < 64 → w6.cell? ⟨bb, off + j, none⟩ = some (.int .u64 (n64 (primeL.getD j 0))) := fun j hj => hon6.cell (hcb5 j hj) (by simp; omega)
      clear hcb5
      go_roundw
      case rel =>
        refine ⟨k + 1, by omega, by go_num, ?_, hcb6, hbb6, hbel6⟩
        rw [← Hset.out, List.map_set]
        rw [List.setIfInBounds_toArray] at hT6
        exact hT6
      case measure => simp [intOf]; omega
    · have ek : k = 64 := by omega
      subst ek
      rw [tabK_64] at hT
      go_wp2_with fail
      go_loopw [4] (fun iv wr => ∃ k : Nat, k ≤ 8 ∧ iv = .int .i64 k ∧ Blk wr w.heap.size 95 ((tabH k).map v32).toArray ∧ (∀ j, j < 64 → wr.cell? ⟨bb, off + j, none⟩ = some (.int .u64 (n64 (primeL.getD j 0)))) ∧ bb < wr.heap.size ∧ Below w.heap.size w wr) (fun iv _ => 8 - (intOf iv).toNat)
      case atStart => exact ⟨0, by omega, rfl, hT, hcb, hbb, hbel⟩
      case round =>
        clear hT hcb hbb hbel
        obtain ⟨k, hk, rfl, hT, hcb, hbb, hbel⟩ := hrel
        by_cases hlt : k < 8
        · have cp : ∀ e, (plus wr e).cell? ⟨bb, off + k, none⟩ = some (.int .u64 (n64 (primeL.getD k 0))) := fun e => ((plus_below wr e).cell (p := ⟨bb, _, none⟩) hbb).trans (hcb k (by omega))
          have hroot := root_H k hlt
          have hset := tabH_set k hlt
          have hlen := tabH_len k hk
          generalize primeL.getD k 0 = p at cp hroot
          generalize H0.list.getD k 0 = kv at hroot hset
          have Hset := Lib.hid hset
          clear hset
          go_wp2_with fail
          refine wp_region_quiet_tail_plus 10 (by kernel_rfl) (by kernel_rfl) ?_
          simp only [List.take_succ_cons, List.take_zero, List.drop_succ_cons, List.drop_zero]
          repeat (go_big_quiet_step ((go_at_call 56; exact calls_plus (hroot _))))
          refine wpQuiet_nil ?_
          rintro _ ⟨e5, rfl⟩
          have hT5 := hT.plus e5
          have hbel5 := hbel.trans ((plus_below wr e5).mono hbel.size)
          have hbb5 : bb < (plus wr e5).heap.size := Nat.lt_of_lt_of_le hbb (plus_below wr e5).size
          have hcb5 : ∀ j, j < 64 → (plus wr e5).cell? ⟨bb, off + j, none⟩ = some (.int .u64 (n64 (primeL.getD j 0))) := fun j hj => ((plus_below wr e5).cell (p := ⟨bb, _, none⟩) hbb).trans (hcb j hj)
          clear cp hcb hT hbel hbb hroot
          generalize plus wr e5 = w5 at hT5 hbel5 hbb5 hcb5 ⊢
          go_wp2_with (first
            | (refine wpList_store1 rfl rfl 91 (.tmp 35) (.tmp 32) rfl w.heap.size (64 + k) rfl (v32 kv) rfl _ _ hT5 (by kernel_rfl) (by simp; omega) rfl rfl ?_; intro w6 hT6 hon6))
          have hbel6 := below_only hbel5 hon6 (Nat.le_refl _) hbel5.size
          have hbb6 : bb < w6.heap.size := Nat.lt_of_lt_of_le hbb5 hon6.size
          have hcb6 : ∀ j, j < 64 → w6.cell? ⟨bb, off + j, none⟩ = some (.int .u64 (n64 (primeL.getD j 0))) := fun j hj => hon6.cell (hcb5 j hj) (by simp; omega)
          clear hcb5
          go_roundw
          case rel =>
            refine ⟨k + 1, by omega, by go_num, ?_, hcb6, hbb6, hbel6⟩
            rw [← Hset.out, List.map_set]
            rw [List.setIfInBounds_toArray] at hT6
            exact hT6
          case measure => simp [intOf]; omega
        · have ek : k = 8 := by omega
          subst ek
          rw [tabH_8] at hT
          go_wp2_with fail
          go_ret
          exact ⟨rfl, hT, hbel⟩
theorem new_any (w : World) : Calls Tryd.prog 39 #[] w fun e w' => ∃ v, e = .returned v ∧ Tbl w' w'.heap.size v ∧ Below w.heap.size w w' :=
  (new_at w).mono fun _ _ ⟨h1, h2, h3⟩ => ⟨_, h1, ⟨_, rfl, h2.lt, h2⟩, h3⟩
end Go.Proofs.YtkogehkmldbhgaaDoor
