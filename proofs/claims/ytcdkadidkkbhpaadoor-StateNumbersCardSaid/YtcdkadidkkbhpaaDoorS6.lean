/- Texts that stand behind one another: RefA. No condition. -/
import Derived.Test.YtcdkadidkkbhpaaDoorS5
/- The walks of the reference's limbs, times, below, root. No condition. -/
namespace Go.Proofs.YtcdkadidkkbhpaaDoor
open Go.RowKit
attribute [local go_sem] and64_c shr64_16 shr64_32 shr64_48 wrap_mul64 wrap_add64 n64_lo n64_hi
theorem limbs_any (x : UInt64) (w : World) : Calls Tryd.prog 86 #[.int .u64 (n64 x)] w fun e w' => ∃ v, e = .returned v ∧ USl w' w'.heap.size v (limbsU x) ∧ Below w.heap.size w w' := by
  go_enter Tryd.func86, Tryd.ntmps86
  go_wp2
  go_ret
  have hb := Blk.new w 27 ((limbsU x).map v64).toArray
  exact ⟨_, rfl, USl.of_blk hb _ hb.lt 4 (by simp [limbsU]) (by decide), below_new1 w _⟩
set_option maxRecDepth 100000 in
theorem times_any (u v : Value) (a b : List UInt64) (w : World) (ha : USl w w.heap.size u a) (hb : USl w w.heap.size v b) (hla : a.length ≤ 16) (hlb : b.length ≤ 16) (hpa : 0 < a.length) (hpb : 0 < b.length) :
    Calls Tryd.prog 87 #[u, v] w fun e w' => ∃ v', e = .returned v' ∧ USl w' w'.heap.size v' (timesU a b) ∧ Below w.heap.size w w' := by
  obtain ⟨A, cap, rfl, hc1, hc2, hr⟩ := ha
  obtain ⟨Ab, capb, rfl, hd1, hd2, hrb⟩ := hb
  obtain ⟨ba, offa, rfl, hba, hca⟩ := hr (by rw [List.length_map]; exact hpa)
  obtain ⟨bb, offb, rfl, hbb, hcb⟩ := hrb (by rw [List.length_map]; exact hpb)
  obtain ⟨i0, hi, hz0, hz1, hz2⟩ := info_parts (by kernel_rfl : (Tryd.prog.info? 27).map (fun i => (i.zero, i.size, i.bytes)) = some (some (.int .u64 0), 1, 8))
  clear hr hrb
  go_enter Tryd.func87, Tryd.ntmps87
  go_wp2_with (first
    | (refine wpList_makeB rfl _ _ _ rfl 27 i0 _ Tryd.underlying127 hi hz0 hz1 rfl _ _ (a.length + b.length) rfl rfl (by rw [hz2]; omega) (by omega) ?_))
  go_loopw [6] (fun iv wr => ∃ i : Nat, i ≤ a.length ∧ iv = .int .i64 i ∧ Blk wr w.heap.size 27 ((tOut a b i).map v64).toArray ∧ Below w.heap.size w wr) (fun iv _ => a.length - (intOf iv).toNat)
  case atStart => exact ⟨0, by omega, rfl, by rw [tOut, List.map_replicate]; exact Blk.new _ _ _, below_new1 w _⟩
  case round =>
    obtain ⟨i, hil, rfl, hblk, hbel⟩ := hrel
    by_cases hlt : i < a.length
    · go_wp2
      go_loopw [7, 8] (fun c kv wr => ∃ k : Nat, k ≤ b.length ∧ kv = .int .i64 k ∧ c = v64 (tIn i (a.getD i 0) b (tOut a b i) k).2 ∧ Blk wr w.heap.size 27 ((tIn i (a.getD i 0) b (tOut a b i) k).1.map v64).toArray ∧ Below w.heap.size w wr) (fun _ kv _ => b.length - (intOf kv).toNat)
      case atStart => exact ⟨0, by omega, rfl, rfl, hblk, hbel⟩
      case round =>
        clear hblk hbel
        obtain ⟨k, hk, rfl, rfl, hblk, hbel⟩ := hrel
        by_cases hlk : k < b.length
        · have hOl : (tIn i (a.getD i 0) b (tOut a b i) k).1.length = a.length + b.length := by rw [tIn_length, tOut_length]
          have cO : wr.cell? ⟨w.heap.size, i + k, none⟩ = some (.int .u64 (n64 ((tIn i (a.getD i 0) b (tOut a b i) k).1.getD (i + k) 0))) := by
            rw [hblk.cell]; simpa using v64_at (tIn i (a.getD i 0) b (tOut a b i) k).1 (i + k) (by omega)
          have cA : wr.cell? ⟨ba, offa + i, none⟩ = some (.int .u64 (n64 (a.getD i 0))) := (hbel.cell (p := ⟨ba, _, none⟩) hba).trans (hca i _ (v64_at a i hlt))
          have cB : wr.cell? ⟨bb, offb + k, none⟩ = some (.int .u64 (n64 (b.getD k 0))) := (hbel.cell (p := ⟨bb, _, none⟩) hbb).trans (hcb k _ (v64_at b k hlk))
          have fO := hblk.frozen (i + k)
          have e1 := tIn_succ i (a.getD i 0) b (tOut a b i) k
          clear hca hcb
          generalize tIn i (a.getD i 0) b (tOut a b i) k = O at *
          generalize hai : a.getD i 0 = ai at *
          generalize hbk : b.getD k 0 = bk at *
          generalize hok : O.1.getD (i + k) 0 = ok at *
          have He := Lib.hid e1
          have H1 := Lib.hid (And.intro hai (And.intro hbk hok))
          clear e1 hai hbk hok
          simp only [v64]
          go_wp2
          go_quiet (fail)
          go_wp2
          go_roundw
          case rel =>
            refine ⟨k + 1, by omega, by go_num, ?_, ?_, (below_drewN hbel nq).setCell (Nat.le_refl _) _⟩
            · rw [He.out]
            · rw [He.out, List.map_set]
              have := (hblk.drewN nq).set (i + k) (v64 (ok + ai * bk + O.2 &&& 65535))
              simpa [v64] using this
          case measure => simp [intOf]; omega
        · have ek : k = b.length := by omega
          subst ek
          have hOl : (tIn i (a.getD i 0) b (tOut a b i) b.length).1.length = a.length + b.length := by rw [tIn_length, tOut_length]
          have cO : wr.cell? ⟨w.heap.size, i + b.length, none⟩ = some (.int .u64 (n64 ((tIn i (a.getD i 0) b (tOut a b i) b.length).1.getD (i + b.length) 0))) := by
            rw [hblk.cell]; simpa using v64_at (tIn i (a.getD i 0) b (tOut a b i) b.length).1 (i + b.length) (by omega)
          have fO := hblk.frozen (i + b.length)
          have e1 := tOut_succ a b i
          generalize tIn i (a.getD i 0) b (tOut a b i) b.length = O at *
          generalize hok : O.1.getD (i + b.length) 0 = ok at *
          have He := Lib.hid e1
          clear e1 hok hca hcb
          simp only [v64]
          go_wp2
          go_roundw
          case rel =>
            refine ⟨i + 1, by omega, by go_num, ?_, (hbel).setCell (Nat.le_refl _) _⟩
            rw [He.out, List.map_set]
            have := hblk.set (i + b.length) (v64 (ok + O.2))
            simpa [v64] using this
          case measure => simp [intOf]; omega
    · have ei : i = a.length := by omega
      subst ei
      have hOl := tOut_length a b a.length
      go_wp2
      go_ret
      have hU := USl.of_blk hblk wr.heap.size hblk.lt (a.length + b.length) (by omega) (by omega)
      rw [hOl] at hU
      exact ⟨_, rfl, hU, hbel⟩
end Go.Proofs.YtcdkadidkkbhpaaDoor
