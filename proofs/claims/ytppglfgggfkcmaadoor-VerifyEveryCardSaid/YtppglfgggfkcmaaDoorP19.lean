/- Texts that stand behind one another: List9, Hash9. No condition. -/
import Derived.Test.YtppglfgggfkcmaaDoorP7
import Derived.Test.YtppglfgggfkcmaaDoorP15
/- The walk of deponentlaw9's list. No condition. -/
namespace Go.Proofs.YtppglfgggfkcmaaDoor
open Go Go.RowKit
attribute [local go_sem] n8_lo n8_hi n64_lo n64_hi n32_lo n32_hi
set_option maxHeartbeats 400000 in
set_option maxRecDepth 100000 in
theorem list9_any (n : Int) (c : UInt8) (hn : n ≤ 1000000) (hn2 : -9223372036854775808 ≤ n) (w : World) :
    Calls Tryd.prog 21 #[.int .i64 n, .int .u8 (n8 c)] w fun e w' => ∃ v, e = .returned v ∧ SSl w' w'.heap.size v (listL n.toNat c) ∧ Below w.heap.size w w' := by
  obtain ⟨i0, hi, hz0, hz1, hz2⟩ := info_parts (by kernel_rfl : (Tryd.prog.info? 22).map (fun i => (i.zero, i.size, i.bytes)) = some (some (.slice none 0 0), 1, 24))
  go_enter Tryd.func21, Tryd.ntmps21
  go_wp2_with fail
  go_loopw [5, 6] (fun v iv wr => ∃ (k : Nat) (vs : List Value), k ≤ n.toNat ∧ iv = .int .i64 k ∧ vs.length = k ∧ wr.ownsRow w.heap.size 22 1 v vs.length vs ∧ (∀ i, i < k → Whole wr (vs.getD i undef) (elemL c i)) ∧ Below w.heap.size w wr) (fun _ iv _ => n.toNat - (intOf iv).toNat)
  case atStart => exact ⟨0, [], by omega, rfl, rfl, World.ownsRow_nil _ _ _ _, fun i hi => by omega, Below.refl _ _⟩
  case round =>
    obtain ⟨k, vs, hk, rfl, hvl, hown, hall, hbel⟩ := hrel
    by_cases hlt : (k : Int) < n
    · have b1 := byte_nat k
      have b2 := byte_nat (k / 256)
      have b3 : ((k / 256 : Nat) : Int) = (k : Int) / 256 := by omega
      rw [b3] at b2
      have hk1 : k ≤ 1000000 := by omega
      have hA := Blk.new w 5 #[]
      clear hA
      have hb1w := below_new1 wr (Obj.cells #[.int .u8 (n8 c), .int .u8 (n8 (UInt8.ofNat k)), .int .u8 (n8 (UInt8.ofNat (k / 256)))] 5)
      have hbw := hb1w.alloc hb1w.size (Obj.cells #[.slice (some ⟨wr.heap.size, 0, none⟩) 3 3] 22)
      have hE := (Blk.new wr 5 #[.int .u8 (n8 c), .int .u8 (n8 (UInt8.ofNat k)), .int .u8 (n8 (UInt8.ofNat (k / 256)))]).alloc (Obj.cells #[.slice (some ⟨wr.heap.size, 0, none⟩) 3 3] 22)
      have hS := Blk.new2 wr (Obj.cells #[.int .u8 (n8 c), .int .u8 (n8 (UInt8.ofNat k)), .int .u8 (n8 (UInt8.ofNat (k / 256)))] 5) 22 #[.slice (some ⟨wr.heap.size, 0, none⟩) 3 3]
      have hW : Whole ((wr.alloc (Obj.cells #[.int .u8 (n8 c), .int .u8 (n8 (UInt8.ofNat k)), .int .u8 (n8 (UInt8.ofNat (k / 256)))] 5)).alloc (Obj.cells #[.slice (some ⟨wr.heap.size, 0, none⟩) 3 3] 22)) (.slice (some ⟨wr.heap.size, 0, none⟩) 3 3) (elemL c k) := ⟨wr.heap.size, rfl, hE⟩
      have hown2 := own_below hown hbw
      have HWs := Lib.hid (And.intro hW (fun i (hi : i < k) => (hall i hi).below hbw))
      have hbase := Nat.le_trans hbel.size hbw.size
      clear hb1w hE hW hall hown
      go_wp2_with (first
        | (at_builtin; refine wpList_appendR rfl (.tmp 12) (.tmp 20) _ rfl w.heap.size 22 i0 _ 24 Tryd.underlying38 hi hz0 hz1 hz2 rfl _ vs rfl hown2 _ (some ⟨wr.heap.size + 1, 0, none⟩) 1 1 [.slice (some ⟨wr.heap.size, 0, none⟩) 3 3] rfl (Reads.of_blk hS hS.lt 0) rfl (fun u hu => by rw [List.mem_singleton] at hu; subst hu; rfl) (by unfold maxLen; omega) (by omega) hbase ?_; intro u1 w1 hown1 hg1 hat1))
      have hbel1 := below_own (hbel.trans (hbw.mono hbel.size)) hown2 hg1 hbase
      have hE1 := HWs.out.1.grown hown2 hg1
      have hall1 : ∀ i, i < k → Whole w1 (vs.getD i undef) (elemL c i) := fun i hi => (HWs.out.2 i hi).grown hown2 hg1
      have HF := Lib.hid (And.intro hbel1 (And.intro hE1 (And.intro hall1 hown1)))
      clear hbel1 hE1 hall1 hown1 HWs hown2 hg1 hat1 hS hbw hbase
      go_wp2_with fail
      go_roundw
      case rel =>
        refine ⟨k + 1, vs ++ [.slice (some ⟨wr.heap.size, 0, none⟩) 3 3], by omega, by go_num, by rw [List.length_append, hvl]; rfl, HF.out.2.2.2, fun i hi => ?_, HF.out.1⟩
        rw [List.getD_eq_getElem?_getD]
        by_cases hik : i < k
        · rw [List.getElem?_append_left (by omega), ← List.getD_eq_getElem?_getD]
          exact HF.out.2.2.1 i hik
        · obtain rfl : i = k := by omega
          rw [List.getElem?_append_right (by omega), show i - vs.length = 0 by omega]
          exact HF.out.2.1
      case measure => simp [intOf]; omega
    · have ek : k = n.toNat := by omega
      have HF := Lib.hid (And.intro hown hall)
      clear hown hall
      go_wp2_with fail
      go_ret
      refine ⟨_, rfl, ?_, hbel⟩
      rw [← ek]
      refine SSl.of_own HF.out.1 (by rw [hvl, listL_length]) (fun i hi => ?_)
      rw [listL_length] at hi
      rw [listL_at k c i hi]
      exact (HF.out.2 i hi).bsl (by show (3 : Nat) ≤ _; decide)
end Go.Proofs.YtppglfgggfkcmaaDoor

/- The walk of deponentlaw9's hasher. No condition. -/
namespace Go.Proofs.YtppglfgggfkcmaaDoor
open Go.RowKit
attribute [local go_sem] n8_lo n8_hi n64_lo n64_hi n32_lo n32_hi
set_option maxRecDepth 100000 in
theorem hasher9_any (x : Int) (w : World) :
    Calls Tryd.prog 12 #[.int .i64 x] w fun e w' => ∃ v, e = .returned v ∧ Hsr w' w'.heap.size v (cutW x) ∧ Below w.heap.size w w' := by
  go_enter Tryd.func12, Tryd.ntmps12
  go_wp2_with fail
  refine (new_any w).mono ?_
  rintro e w1 ⟨t, rfl, hT, hb⟩
  go_wp2_with fail
  refine (new8_any t x w1 hT).mono ?_
  rintro e w2 ⟨v, rfl, hv, hb2⟩
  go_wp2_with fail
  go_ret
  exact ⟨_, rfl, hv, hb.trans (hb2.mono hb.size)⟩
end Go.Proofs.YtppglfgggfkcmaaDoor
