/- The walk of deponentlaw8's list. No condition. -/
import Derived.Test.YtbhmmoecoijojaaDoorMerkR
import Derived.Test.YtbhmmoecoijojaaDoorRefC
namespace Go.Proofs.YtbhmmoecoijojaaDoor
open Go Go.RowKit
attribute [local go_sem] n8_lo n8_hi n64_lo n64_hi n32_lo n32_hi
def elemL (c : UInt8) (i : Nat) : List UInt8 := [c, UInt8.ofNat i, UInt8.ofNat (i / 256)]
def listL (n : Nat) (c : UInt8) : List (List UInt8) := (List.range n).map (elemL c)
theorem listL_length (n : Nat) (c : UInt8) : (listL n c).length = n := by simp [listL]
theorem listL_at (n : Nat) (c : UInt8) (i : Nat) (h : i < n) : (listL n c).getD i [] = elemL c i := by
  unfold listL; rw [List.getD_eq_getElem?_getD, List.getElem?_map, List.getElem?_range h]; rfl
theorem listL_mem {n : Nat} {c : UInt8} {b : List UInt8} (h : b ∈ listL n c) : b.length = 3 := by
  unfold listL at h
  obtain ⟨i, _, rfl⟩ := List.mem_map.1 h; rfl
theorem byte_nat (k : Nat) : (k : Int) % 256 = n8 (UInt8.ofNat k) := by
  unfold n8; rw [UInt8.toNat_ofNat']; omega
/-- u is a slice that reads some bytes, all of a block -/
def Whole (w : World) (u : Value) (b : List UInt8) : Prop := ∃ g, u = .slice (some ⟨g, 0, none⟩) b.length b.length ∧ Blk w g 5 (b.map v8).toArray
theorem Whole.below {w w' : World} {u : Value} {b : List UInt8} (h : Whole w u b) (hb : Below w.heap.size w w') : Whole w' u b := by
  obtain ⟨g, e, h⟩ := h; exact ⟨g, e, h.below hb h.lt⟩
theorem Whole.grown {w w' : World} {u v : Value} {b : List UInt8} {base n : Nat} {xs : List Value} (h : Whole w u b) (hown : w.ownsRow base 32 1 v n xs) (hg : w.grownBy w' v.ownBlock) : Whole w' u b := by
  obtain ⟨g, e, h⟩ := h
  refine ⟨g, e, h.grown hg (fun e2 => ?_)⟩
  rcases hown.2 with ⟨rfl, _⟩ | ⟨g', cap, cur, rfl, _, hb, _⟩
  · cases e2
  · have e3 : g = g' := by injection e2
    subst e3
    unfold Blk at h
    rw [h] at hb
    injection hb with hb
    injection hb with _ hb
    exact absurd hb (by decide)
theorem Whole.bsl {w : World} {u : Value} {b : List UInt8} (h : Whole w u b) (hl : b.length ≤ 9223372036854775807) : BSl w w.heap.size u b := by
  obtain ⟨g, rfl, h⟩ := h
  refine ⟨_, _, rfl, Nat.le_refl _, hl, ?_⟩
  have := Reads.of_blk h h.lt 0
  simpa using this
theorem SSl.of_own {w : World} {base : Nat} {e : TypeId} {v : Value} {vs : List Value} {ls : List (List UInt8)} (h : w.ownsRow base e 1 v vs.length vs) (hl : vs.length = ls.length) (hel : ∀ i, i < ls.length → BSl w w.heap.size (vs.getD i undef) (ls.getD i [])) : SSl w w.heap.size v ls := by
  obtain ⟨A, cap, hv, h1, h2, hr⟩ := Reads.own h
  exact ⟨A, cap, vs, by rw [hv, hl], by omega, h2, hr, hl, hel⟩
set_option maxHeartbeats 400000 in
set_option maxRecDepth 100000 in
theorem list_any (n : Int) (c : UInt8) (hn : n ≤ 1000000) (hn2 : -9223372036854775808 ≤ n) (w : World) :
    Calls Tryd.prog 15 #[.int .i64 n, .int .u8 (n8 c)] w fun e w' => ∃ v, e = .returned v ∧ SSl w' w'.heap.size v (listL n.toNat c) ∧ Below w.heap.size w w' := by
  obtain ⟨i0, hi, hz0, hz1, hz2⟩ := info_parts (by kernel_rfl : (Tryd.prog.info? 32).map (fun i => (i.zero, i.size, i.bytes)) = some (some (.slice none 0 0), 1, 24))
  go_enter Tryd.func15, Tryd.ntmps15
  go_wp2_with fail
  go_loopw [5, 6] (fun v iv wr => ∃ (k : Nat) (vs : List Value), k ≤ n.toNat ∧ iv = .int .i64 k ∧ vs.length = k ∧ wr.ownsRow w.heap.size 32 1 v vs.length vs ∧ (∀ i, i < k → Whole wr (vs.getD i undef) (elemL c i)) ∧ Below w.heap.size w wr) (fun _ iv _ => n.toNat - (intOf iv).toNat)
  case atStart => exact ⟨0, [], by omega, rfl, rfl, World.ownsRow_nil _ _ _ _, fun i hi => by omega, Below.refl _ _⟩
  case round =>
    obtain ⟨k, vs, hk, rfl, hvl, hown, hall, hbel⟩ := hrel
    by_cases hlt : (k : Int) < n
    · have b1 := byte_nat k
      have b2 := byte_nat (k / 256)
      have b3 : ((k / 256 : Nat) : Int) = (k : Int) / 256 := by omega
      rw [b3] at b2
      have hk1 : k ≤ 1000000 := by omega
      have hA := Blk.new w 5 #[]
      clear hA
      have hb1w := below_new1 wr (Obj.cells #[.int .u8 (n8 c), .int .u8 (n8 (UInt8.ofNat k)), .int .u8 (n8 (UInt8.ofNat (k / 256)))] 5)
      have hbw := hb1w.alloc hb1w.size (Obj.cells #[.slice (some ⟨wr.heap.size, 0, none⟩) 3 3] 32)
      have hE := (Blk.new wr 5 #[.int .u8 (n8 c), .int .u8 (n8 (UInt8.ofNat k)), .int .u8 (n8 (UInt8.ofNat (k / 256)))]).alloc (Obj.cells #[.slice (some ⟨wr.heap.size, 0, none⟩) 3 3] 32)
      have hS := Blk.new2 wr (Obj.cells #[.int .u8 (n8 c), .int .u8 (n8 (UInt8.ofNat k)), .int .u8 (n8 (UInt8.ofNat (k / 256)))] 5) 32 #[.slice (some ⟨wr.heap.size, 0, none⟩) 3 3]
      have hW : Whole ((wr.alloc (Obj.cells #[.int .u8 (n8 c), .int .u8 (n8 (UInt8.ofNat k)), .int .u8 (n8 (UInt8.ofNat (k / 256)))] 5)).alloc (Obj.cells #[.slice (some ⟨wr.heap.size, 0, none⟩) 3 3] 32)) (.slice (some ⟨wr.heap.size, 0, none⟩) 3 3) (elemL c k) := ⟨wr.heap.size, rfl, hE⟩
      have hown2 := own_below hown hbw
      have HWs := Lib.hid (And.intro hW (fun i (hi : i < k) => (hall i hi).below hbw))
      have hbase := Nat.le_trans hbel.size hbw.size
      clear hb1w hE hW hall hown
      go_wp2_with (first
        | (at_builtin; refine wpList_appendR rfl (.tmp 12) (.tmp 20) _ rfl w.heap.size 32 i0 _ 24 Tryd.underlying24 hi hz0 hz1 hz2 rfl _ vs rfl hown2 _ (some ⟨wr.heap.size + 1, 0, none⟩) 1 1 [.slice (some ⟨wr.heap.size, 0, none⟩) 3 3] rfl (Reads.of_blk hS hS.lt 0) rfl (fun u hu => by rw [List.mem_singleton] at hu; subst hu; rfl) (by unfold maxLen; omega) (by omega) hbase ?_; intro u1 w1 hown1 hg1 hat1))
      have hbel1 := below_own (hbel.trans (hbw.mono hbel.size)) hown2 hg1 hbase
      have hE1 := HWs.out.1.grown hown2 hg1
      have hall1 : ∀ i, i < k → Whole w1 (vs.getD i undef) (elemL c i) := fun i hi => (HWs.out.2 i hi).grown hown2 hg1
      have HF := Lib.hid (And.intro hbel1 (And.intro hE1 (And.intro hall1 hown1)))
      clear hbel1 hE1 hall1 hown1 HWs hown2 hg1 hat1 hS hbw hbase
      go_wp2_with fail
      go_roundw
      case rel =>
        refine ⟨k + 1, vs ++ [.slice (some ⟨wr.heap.size, 0, none⟩) 3 3], by omega, by go_num, by rw [List.length_append, hvl]; rfl, HF.out.2.2.2, fun i hi => ?_, HF.out.1⟩
        rw [List.getD_eq_getElem?_getD]
        by_cases hik : i < k
        · rw [List.getElem?_append_left (by omega), ← List.getD_eq_getElem?_getD]
          exact HF.out.2.2.1 i hik
        · obtain rfl : i = k := by omega
          rw [List.getElem?_append_right (by omega), show i - vs.length = 0 by omega]
          exact HF.out.2.1
      case measure => simp [intOf]; omega
    · have ek : k = n.toNat := by omega
      have HF := Lib.hid (And.intro hown hall)
      clear hown hall
      go_wp2_with fail
      go_ret
      refine ⟨_, rfl, ?_, hbel⟩
      rw [← ek]
      refine SSl.of_own HF.out.1 (by rw [hvl, listL_length]) (fun i hi => ?_)
      rw [listL_length] at hi
      rw [listL_at k c i hi]
      exact (HF.out.2 i hi).bsl (by show (3 : Nat) ≤ _; decide)
end Go.Proofs.YtbhmmoecoijojaaDoor
