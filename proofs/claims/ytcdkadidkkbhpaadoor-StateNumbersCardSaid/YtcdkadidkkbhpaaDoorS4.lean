/- Texts that stand behind one another: ShaB. No condition. -/
import Derived.Test.YtcdkadidkkbhpaaDoorS3
import Derived.Test.YtcdkadidkkbhpaaDoorS1
import Derived.BigRegion
/- The walk of sha's mix. No condition. -/
namespace Go.Proofs.YtcdkadidkkbhpaaDoor
open Go.RowKit
attribute [local go_sem] bits_and32 bits_or32 bits_xor32 bits_not32' u32_signed add32 n32_lo n32_hi n8_lo n8_hi cv8_32 shl32_24 shl32_16 shl32_8
set_option maxRecDepth 100000 in
theorem mix_any (g : Nat) (s : S8) (K : List UInt32) (bb off len cap : Nat) (bs : List UInt8) (w : World)
    (hs : Blk w g 124 (s.list.map v32).toArray) (hl : 64 ≤ bs.length) (hlen : bs.length ≤ len) (_hcap : len ≤ cap) (_hcm : cap ≤ 9223372036854775807)
    (hb : ∀ j, j < 64 → w.cell? ⟨bb, off + j, none⟩ = some (.int .u8 (n8 (bs.getD j 0)))) (_hne : bb ≠ g) (hbB : bb < w.heap.size)
    (hK0 : ∀ j, j < 64 → w.cell? ⟨1, j, none⟩ = some (.int .u32 (n32 (K.getD j 0)))) (_hg1 : g ≠ 1) (hKB : 1 < w.heap.size) :
    Calls Tryd.prog 82 #[.pointer (some ⟨g, 0, none⟩), .slice (some ⟨bb, off, none⟩) len cap] w fun e w' => e = .returned (.tuple #[]) ∧ Blk w' g 124 ((mixed K s bs).list.map v32).toArray ∧ w.grownBy w' (some g) := by
  go_enter Tryd.func82, Tryd.ntmps82
  go_wp2
  go_loopw [5, 13] (fun _ i wr => ∃ k : Nat, k ≤ 64 ∧ i = .int .i64 k ∧ Blk wr w.heap.size 123 (warr bs k) ∧ Below w.heap.size w wr ∧ wr.heap.size = w.heap.size + 1) (fun _ i _ => 64 - (intOf i).toNat)
  case atStart => exact ⟨0, by omega, rfl, by exact Blk.new _ _ _, (Below.refl _ _).alloc (Nat.le_refl _) _, by simp⟩
  case round =>
    obtain ⟨k, hk, rfl, hblk, hbel, hsz⟩ := hrel
    by_cases hlt : k < 64
    · by_cases h16 : k < 16
      · have c0 : wr.cell? ⟨bb, off + 4 * k, none⟩ = some (.int .u8 (n8 (bs.getD (4 * k) 0))) := (hbel.cell (p := ⟨bb, _, none⟩) hbB).trans (hb _ (by omega))
        have c1 : wr.cell? ⟨bb, off + (4 * k + 1), none⟩ = some (.int .u8 (n8 (bs.getD (4 * k + 1) 0))) := (hbel.cell (p := ⟨bb, _, none⟩) hbB).trans (hb _ (by omega))
        have c2 : wr.cell? ⟨bb, off + (4 * k + 2), none⟩ = some (.int .u8 (n8 (bs.getD (4 * k + 2) 0))) := (hbel.cell (p := ⟨bb, _, none⟩) hbB).trans (hb _ (by omega))
        have c3 : wr.cell? ⟨bb, off + (4 * k + 3), none⟩ = some (.int .u8 (n8 (bs.getD (4 * k + 3) 0))) := (hbel.cell (p := ⟨bb, _, none⟩) hbB).trans (hb _ (by omega))
        have cw : wr.cell? ⟨w.heap.size, k, none⟩ = some (v32 0) := by rw [hblk.cell]; exact warr_next bs k hlt
        have fw := hblk.frozen k
        clear hb
        have hlen' : 4 * k + 3 < len := by omega
        go_wp2
        refine wp_region_quiet_tail 35 (fun W => ∃ n, W = wr.drewN n) (by kernel_rfl) (by kernel_rfl) ⟨1, rfl⟩ ?_
        simp only [List.take_succ_cons, List.take_zero, List.drop_succ_cons, List.drop_zero]
        repeat (go_big_quiet_step (fail))
        refine wpQuiet_nil ?_
        intro W hW
        obtain ⟨nq, rfl⟩ := hW
        go_wp2
        go_roundw
        case rel =>
          have hnx : nextW bs (wat bs k) k = be32 bs k := if_pos h16
          refine ⟨k + 1, by omega, by go_num, ?_, (below_drewN hbel nq).setCell (Nat.le_refl _) _, by simpa using hsz⟩
          have := (hblk.drewN nq).set k (v32 (nextW bs (wat bs k) k))
          rw [warr_set bs k hlt, hnx] at this
          exact this
        case measure => simp [intOf]; omega
      · have hd : ∀ j, j < k → wr.cell? ⟨w.heap.size, j, none⟩ = some (.int .u32 (n32 ((wat bs k).getD j 0))) := fun j hj => by rw [hblk.cell]; exact warr_at bs k j hj
        have c0 := hd (k - 2) (by omega)
        have c1 := hd (k - 7) (by omega)
        have c2 := hd (k - 15) (by omega)
        have c3 := hd (k - 16) (by omega)
        have cw : wr.cell? ⟨w.heap.size, k, none⟩ = some (v32 0) := by rw [hblk.cell]; exact warr_next bs k hlt
        have fw := hblk.frozen k
        have h16' : 16 ≤ k := by omega
        clear hb hd h16
        go_wp2
        refine wp_region_quiet_tail 23 (fun W => ∃ n, W = wr.drewN n) (by kernel_rfl) (by kernel_rfl) ⟨1, rfl⟩ ?_
        simp only [List.take_succ_cons, List.take_zero, List.drop_succ_cons, List.drop_zero]
        repeat (go_big_quiet_step ((go_at_call 91; exact Calls.quiet_of (shifted_any _ _ _ _ _ (by decide) (by decide) (by decide) (by decide) (by decide) (by decide) (by decide) (by decide)))))
        refine wpQuiet_nil ?_
        intro W hW
        obtain ⟨nq, rfl⟩ := hW
        go_wp2
        go_roundw
        case rel =>
          have hnx : nextW bs (wat bs k) k = _ := if_neg (by omega)
          refine ⟨k + 1, by omega, by go_num, ?_, (below_drewN hbel nq).setCell (Nat.le_refl _) _, by simpa using hsz⟩
          have := (hblk.drewN nq).set k (v32 (nextW bs (wat bs k) k))
          rw [warr_set bs k hlt, hnx] at this
          exact this
        case measure => simp [intOf]; omega
    · have ek : k = 64 := by omega
      rw [ek] at hblk
      clear ek
      have hs' := hs.below hbel hs.lt
      have hgl := hs.lt
      have hK' : ∀ j, j < 64 → wr.cell? ⟨1, j, none⟩ = some (.int .u32 (n32 (K.getD j 0))) := fun j hj => (hbel.cell (p := ⟨_, _, none⟩) hKB).trans (hK0 j hj)
      clear hb
      have s0 := hs'.cell 0
      have s1 := hs'.cell 1
      have s2 := hs'.cell 2
      have s3 := hs'.cell 3
      have s4 := hs'.cell 4
      have s5 := hs'.cell 5
      have s6 := hs'.cell 6
      have s7 := hs'.cell 7
      simp only [S8.list, List.map_cons, List.map_nil, List.getElem?_toArray, List.getElem?_cons_zero, List.getElem?_cons_succ, v32] at s0 s1 s2 s3 s4 s5 s6 s7
      go_wp2
      have hbl2 : Blk (wr.alloc (Obj.cells #[.int .u32 (n32 s.a), .int .u32 (n32 s.b), .int .u32 (n32 s.c), .int .u32 (n32 s.d), .int .u32 (n32 s.e), .int .u32 (n32 s.f), .int .u32 (n32 s.g), .int .u32 (n32 s.h)] 124)) (w.heap.size + 1) 124 ((turns K (wat bs 64) s 0).list.map v32).toArray := by
        rw [← hsz]; exact Blk.new _ _ _
      have hbl1 := hblk.alloc (Obj.cells #[.int .u32 (n32 s.a), .int .u32 (n32 s.b), .int .u32 (n32 s.c), .int .u32 (n32 s.d), .int .u32 (n32 s.e), .int .u32 (n32 s.f), .int .u32 (n32 s.g), .int .u32 (n32 s.h)] 124)
      have hbe1 := hbel.alloc (by omega : w.heap.size ≤ wr.heap.size) (Obj.cells #[.int .u32 (n32 s.a), .int .u32 (n32 s.b), .int .u32 (n32 s.c), .int .u32 (n32 s.d), .int .u32 (n32 s.e), .int .u32 (n32 s.f), .int .u32 (n32 s.g), .int .u32 (n32 s.h)] 124)
      have hsz1 : (wr.alloc (Obj.cells #[.int .u32 (n32 s.a), .int .u32 (n32 s.b), .int .u32 (n32 s.c), .int .u32 (n32 s.d), .int .u32 (n32 s.e), .int .u32 (n32 s.f), .int .u32 (n32 s.g), .int .u32 (n32 s.h)] 124)).heap.size = w.heap.size + 2 := by simp [hsz]
      revert hbl2 hbl1 hbe1 hsz1
      generalize wr.alloc (Obj.cells #[.int .u32 (n32 s.a), .int .u32 (n32 s.b), .int .u32 (n32 s.c), .int .u32 (n32 s.d), .int .u32 (n32 s.e), .int .u32 (n32 s.f), .int .u32 (n32 s.g), .int .u32 (n32 s.h)] 124) = w2
      intro hbl2 hbl1 hbe1 hsz1
      have hKw := hK'
      clear hK' hs' s0 s1 s2 s3 s4 s5 s6 s7 hblk hbel hsz
      go_loopw [7, 8, 9, 10, 11, 80] (fun _ _ _ _ _ i wr => ∃ k : Nat, k ≤ 64 ∧ i = .int .i64 k ∧ Blk wr w.heap.size 123 (warr bs 64) ∧ Blk wr (w.heap.size + 1) 124 ((turns K (wat bs 64) s k).list.map v32).toArray ∧ Below w.heap.size w wr ∧ wr.heap.size = w.heap.size + 2) (fun _ _ _ _ _ i _ => 64 - (intOf i).toNat)
      case atStart => exact ⟨0, by omega, rfl, hbl1, hbl2, hbe1, hsz1⟩
      case round =>
        obtain ⟨k, hk, rfl, hblk, hbls, hbel, hsz⟩ := hrel
        clear hbl1 hbl2 hbe1 hsz1
        by_cases hlt : k < 64
        · have cW : wr.cell? ⟨w.heap.size, k, none⟩ = some (.int .u32 (n32 ((wat bs 64).getD k 0))) := by rw [hblk.cell]; exact warr_at bs 64 k hlt
          have cK : wr.cell? ⟨1, k, none⟩ = some (.int .u32 (n32 (K.getD k 0))) := (hbel.cell (p := ⟨_, _, none⟩) hKB).trans (hK0 k hlt)
          have s0 := hbls.cell 0
          have s1 := hbls.cell 1
          have s2 := hbls.cell 2
          have s3 := hbls.cell 3
          have s4 := hbls.cell 4
          have s5 := hbls.cell 5
          have s6 := hbls.cell 6
          have s7 := hbls.cell 7
          have f0 := hbls.frozen 0
          have f1 := hbls.frozen 1
          have f2 := hbls.frozen 2
          have f3 := hbls.frozen 3
          have f4 := hbls.frozen 4
          have f5 := hbls.frozen 5
          have f6 := hbls.frozen 6
          have f7 := hbls.frozen 7
          simp only [S8.list, List.map_cons, List.map_nil, List.getElem?_toArray, List.getElem?_cons_zero, List.getElem?_cons_succ, v32] at s0 s1 s2 s3 s4 s5 s6 s7
          generalize hq : turns K (wat bs 64) s k = q at s0 s1 s2 s3 s4 s5 s6 s7
          have Hq := Lib.hid hq
          clear hq
          go_wp2
          go_quiet ((go_at_call 92; exact Calls.quiet_of_same ((turned_any _ _ _ _ _ (by decide) (by decide) (by decide) (by decide) (by decide) (by decide) (by decide) (by decide) (by decide)).mono fun _ _ h => ⟨h.1, h.2.symm⟩)))
          go_wp2_with (go_at_call 92; refine (turned_any _ _ _ _ _ (by decide) (by decide) (by decide) (by decide) (by decide) (by decide) (by decide) (by decide) (by decide)).mono ?_; rintro e w' ⟨rfl, rfl⟩)
          go_roundw
          case rel =>
            refine ⟨k + 1, by omega, by go_num, (hblk.drewN nq).far8 (by omega) _ _ _ _ _ _ _ _, ?_, below_set8 (below_drewN hbel nq) (by omega) _ _ _ _ _ _ _ _, by simpa using hsz⟩
            have := (hbls.drewN nq).set8 rfl (v32 (q.one (K.getD k 0) ((wat bs 64).getD k 0) + q.two)) (v32 q.a) (v32 q.b) (v32 q.c) (v32 (q.d + q.one (K.getD k 0) ((wat bs 64).getD k 0))) (v32 q.e) (v32 q.f) (v32 q.g)
            have e : turns K (wat bs 64) s (k + 1) = q.turn (K.getD k 0) ((wat bs 64).getD k 0) := by rw [← Hq.out]; rfl
            rw [e]
            exact this
          case measure => simp [intOf]; omega
        · have ek : k = 64 := by omega
          rw [ek] at hbls
          clear ek
          have hgs := hs.below hbel hgl
          have hon : w.grownBy wr (some g) := Only.of_below hbel _
          go_wp2
          go_loopw [12, 154] (fun _ i wr => ∃ k : Nat, k ≤ 8 ∧ i = .int .i64 k ∧ Blk wr (w.heap.size + 1) 124 ((turns K (wat bs 64) s 64).list.map v32).toArray ∧ Blk wr g 124 ((padd s (turns K (wat bs 64) s 64) k).map v32).toArray ∧ w.grownBy wr (some g)) (fun _ i _ => 8 - (intOf i).toNat)
          case atStart => exact ⟨0, by omega, rfl, hbls, hgs, hon⟩
          case round =>
            clear hblk hbls hbel hsz hgs hon
            obtain ⟨j, hj, rfl, hbls, hgs, hon⟩ := hrel
            by_cases hjt : j < 8
            · have cs : wr.cell? ⟨w.heap.size + 1, j, none⟩ = some (.int .u32 (n32 ((turns K (wat bs 64) s 64).list.getD j 0))) := by rw [hbls.cell]; exact list_at _ j hjt
              have cg : wr.cell? ⟨g, j, none⟩ = some (.int .u32 (n32 (s.list.getD j 0))) := by rw [hgs.cell]; exact padd_at _ _ j hjt
              have fg := hgs.frozen j
              go_wp2
              refine wp_region_quiet_tail 11 (fun W => ∃ n, W = wr.drewN n) (by kernel_rfl) (by kernel_rfl) ⟨1, rfl⟩ ?_
              simp only [List.take_succ_cons, List.take_zero, List.drop_succ_cons, List.drop_zero]
              repeat (go_big_quiet_step (fail))
              refine wpQuiet_nil ?_
              intro W hW
              obtain ⟨nq, rfl⟩ := hW
              go_wp2
              go_roundw
              case rel =>
                refine ⟨j + 1, by omega, by go_num, (hbls.drewN nq).far (p := ⟨g, j, none⟩) (by show _ ≠ g; omega) _, ?_, Only.setCell (Only.drewN hon nq) (.inl rfl) _⟩
                rw [← padd_set _ _ j hjt]
                exact (hgs.drewN nq).set j _
              case measure => simp [intOf]; omega
            · have ej : j = 8 := by omega
              rw [ej] at hgs
              go_wp2
              go_end0
              exact ⟨rfl, hgs, hon⟩
end Go.Proofs.YtcdkadidkkbhpaaDoor
