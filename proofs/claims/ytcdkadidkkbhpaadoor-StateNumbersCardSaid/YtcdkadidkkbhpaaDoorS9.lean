/- Texts that stand behind one another: RefE. No condition. -/
import Derived.Test.YtcdkadidkkbhpaaDoorS8
import Derived.Test.YtcdkadidkkbhpaaDoorS1
import Derived.BigRegion
/- The walks of the reference's turn, block. No condition. -/
namespace Go.Proofs.YtcdkadidkkbhpaaDoor
open Go.RowKit
theorem turn_val (x : UInt32) (r : Nat) (_hr : r ≤ 32) : bits .or .u32 (n32 x / 2 ^ r) (n32 x * 2 ^ (32 - r) % 4294967296) = n32 (rotr x r) := by
  have h1 : n32 x * 2 ^ (32 - r) % 4294967296 = n32 (UInt32.ofNat (x.toNat * 2 ^ (32 - r) % 4294967296)) := by
    unfold n32; rw [UInt32.toNat_ofNat_of_lt' (Nat.mod_lt _ (by decide))]; simp
  rw [n32_shr, h1, bits_or32]
  congr 1
  apply UInt32.toNat_inj.1
  rw [UInt32.toNat_or, UInt32.toNat_ofNat_of_lt' (Nat.mod_lt _ (by decide))]
  unfold shr32 rotr
  rw [UInt32.toNat_ofNat_of_lt' (shr_lt _ x.toNat_lt r), UInt32.toNat_ofNat_of_lt' (rotr_lt x r)]
theorem turn_any (x : UInt32) (r : Int) (w : World) (hr0 : 0 < r) (hr : r < 32) :
    Calls Tryd.prog 93 #[.int .u32 (n32 x), .int .u64 r] w fun e w' => e = .returned (.int .u32 (n32 (rotr x r.toNat))) ∧ w = w' := by
  have h0 := n32_lo x
  have h1 := n32_hi x
  go_enter Tryd.func93, Tryd.ntmps93
  go_wp2
  go_ret
  refine ⟨?_, rfl⟩
  rw [← turn_val x r.toNat (by omega), show (32 - r).toNat = 32 - r.toNat by omega]
  rfl
theorem n32_shr10 (x : UInt32) : n32 x / (1024 : Int) = n32 (shr32 x 10) := n32_shr x 10
theorem n32_shr3 (x : UInt32) : n32 x / (8 : Int) = n32 (shr32 x 3) := n32_shr x 3
attribute [local go_sem] n32_shr10 n32_shr3 bits_and32 bits_or32 bits_xor32 bits_not32' u32_signed add32 n32_lo n32_hi n8_lo n8_hi cv8_32 shl32_24 shl32_16 shl32_8
theorem v32_at (l : List UInt32) (i : Nat) (h : i < l.length) : (l.map v32)[i]? = some (.int .u32 (n32 (l.getD i 0))) := by
  rw [List.getElem?_map, List.getElem?_eq_getElem h, List.getD_eq_getElem?_getD, List.getElem?_eq_getElem h]; rfl
theorem tabL_K : ∀ k, k < 64 → tabL.getD k 0 = K0.getD k 0 := by decide +kernel
theorem tab_K {w : World} {g : Nat} (h : Blk w g 126 (tabL.map v32).toArray) (k : Nat) (hk : k < 64) : w.cell? ⟨g, k, none⟩ = some (.int .u32 (n32 (K0.getD k 0))) := by
  rw [h.cell, List.getElem?_toArray, v32_at tabL k (Nat.lt_of_lt_of_le hk (by decide)), tabL_K k hk]
/-- what the call has laid: the state, the result, the words -/
structure Wk (w wr : World) (S : List UInt32) (W : Array Value) : Prop where
  st : Blk wr w.heap.size 124 (S.map v32).toArray
  out : Blk wr (w.heap.size + 1) 124 ((List.replicate 8 (0 : UInt32)).map v32).toArray
  wd : Blk wr (w.heap.size + 1 + 1) 123 W
  bel : Below w.heap.size w wr
theorem Wk.drewN {w wr : World} {S : List UInt32} {W : Array Value} (h : Wk w wr S W) (n : Nat) : Wk w (wr.drewN n) S W := ⟨h.st.drewN n, h.out.drewN n, h.wd.drewN n, below_drewN h.bel n⟩
theorem Wk.setW {w wr : World} {S : List UInt32} {W : Array Value} (h : Wk w wr S W) (k : Nat) (u : Value) : Wk w (wr.setCell ⟨w.heap.size + 1 + 1, k, none⟩ u) S (W.setIfInBounds k u) :=
  ⟨h.st.far (p := ⟨_, _, none⟩) (by show _ ≠ w.heap.size + 1 + 1; omega) _, h.out.far (p := ⟨_, _, none⟩) (by show _ ≠ w.heap.size + 1 + 1; omega) _, h.wd.set k u, h.bel.setCell (p := ⟨_, _, none⟩) (by show _ ≤ w.heap.size + 1 + 1; omega) _⟩
set_option maxHeartbeats 1000000 in
set_option maxRecDepth 100000 in
theorem block_any (v : Value) (s : S8) (bb off len cap : Nat) (bs : List UInt8) (w : World) (ht : Tbl w w.heap.size v) (hl : 64 ≤ bs.length) (hlen : bs.length ≤ len) (_hcap : len ≤ cap) (_hcm : cap ≤ 9223372036854775807)
    (hb : ∀ j, j < 64 → w.cell? ⟨bb, off + j, none⟩ = some (.int .u8 (n8 (bs.getD j 0)))) (hbB : bb < w.heap.size) :
    Calls Tryd.prog 83 #[v, .agg (s.list.map v32).toArray, .slice (some ⟨bb, off, none⟩) len cap] w fun e w' => e = .returned (.agg ((mixed K0 s bs).list.map v32).toArray) ∧ Below w.heap.size w w' := by
  obtain ⟨gt, rfl, hgt, hT⟩ := ht
  obtain ⟨S, hS⟩ : ∃ S, S = (s.list.map v32).toArray := ⟨_, rfl⟩
  rw [← hS]
  go_enter Tryd.func83, Tryd.ntmps83
  go_wp2_with fail
  go_loopw [8] (fun iv wr => ∃ k : Nat, k ≤ 16 ∧ iv = .int .i64 k ∧ Wk w wr s.list (warr bs k)) (fun iv _ => 16 - (intOf iv).toNat)
  case atStart =>
    refine ⟨0, by omega, rfl, ?_, ?_, ?_, below_new3 _ _ _ _⟩
    · exact ((Blk.new _ _ _).alloc _).alloc _
    · exact (Blk.new2 w _ _ _).alloc _
    · exact Blk.new3 _ _ _ _ _
  case round =>
    obtain ⟨k, hk, rfl, hw⟩ := hrel
    by_cases hlt : k < 16
    · have c0 : wr.cell? ⟨bb, off + 4 * k, none⟩ = some (.int .u8 (n8 (bs.getD (4 * k) 0))) := (hw.bel.cell (p := ⟨bb, _, none⟩) hbB).trans (hb _ (by omega))
      have c1 : wr.cell? ⟨bb, off + (4 * k + 1), none⟩ = some (.int .u8 (n8 (bs.getD (4 * k + 1) 0))) := (hw.bel.cell (p := ⟨bb, _, none⟩) hbB).trans (hb _ (by omega))
      have c2 : wr.cell? ⟨bb, off + (4 * k + 2), none⟩ = some (.int .u8 (n8 (bs.getD (4 * k + 2) 0))) := (hw.bel.cell (p := ⟨bb, _, none⟩) hbB).trans (hb _ (by omega))
      have c3 : wr.cell? ⟨bb, off + (4 * k + 3), none⟩ = some (.int .u8 (n8 (bs.getD (4 * k + 3) 0))) := (hw.bel.cell (p := ⟨bb, _, none⟩) hbB).trans (hb _ (by omega))
      have cw : wr.cell? ⟨w.heap.size + 1 + 1, k, none⟩ = some (v32 0) := by rw [hw.wd.cell]; exact warr_next bs k (by omega)
      have fw := hw.wd.frozen k
      clear hb
      have hlen' : 4 * k + 3 < len := by omega
      go_wp2
      refine wp_region_quiet_tail 35 (fun W => ∃ n, W = wr.drewN n) (by kernel_rfl) (by kernel_rfl) ⟨1, rfl⟩ ?_
      simp only [List.take_succ_cons, List.take_zero, List.drop_succ_cons, List.drop_zero]
      repeat (go_big_quiet_step (fail))
      refine wpQuiet_nil ?_
      intro W hW
      obtain ⟨nq, rfl⟩ := hW
      go_wp2
      go_roundw
      case rel =>
        have hnx : nextW bs (wat bs k) k = be32 bs k := if_pos hlt
        refine ⟨k + 1, by omega, by go_num, ?_⟩
        have := (hw.drewN nq).setW k (v32 (nextW bs (wat bs k) k))
        rw [warr_set bs k (by omega), hnx] at this
        exact this
      case measure => simp [intOf]; omega
    · have ek : k = 16 := by omega
      subst ek
      go_wp2
      go_loopw [9] (fun iv wr => ∃ k : Nat, 16 ≤ k ∧ k ≤ 64 ∧ iv = .int .i64 k ∧ Wk w wr s.list (warr bs k)) (fun iv _ => 64 - (intOf iv).toNat)
      case atStart => exact ⟨16, by omega, by omega, rfl, hw⟩
      case round =>
        clear hw
        obtain ⟨k, hk16, hk, rfl, hw⟩ := hrel
        by_cases hlt : k < 64
        · have hd : ∀ j, j < k → wr.cell? ⟨w.heap.size + 1 + 1, j, none⟩ = some (.int .u32 (n32 ((wat bs k).getD j 0))) := fun j hj => by rw [hw.wd.cell]; exact warr_at bs k j hj
          have c0 := hd (k - 2) (by omega)
          have c1 := hd (k - 7) (by omega)
          have c2 := hd (k - 15) (by omega)
          have c3 := hd (k - 16) (by omega)
          have cw : wr.cell? ⟨w.heap.size + 1 + 1, k, none⟩ = some (v32 0) := by rw [hw.wd.cell]; exact warr_next bs k hlt
          have fw := hw.wd.frozen k
          have hnx : nextW bs (wat bs k) k = _ := if_neg (by omega)
          have Hnx := Lib.hid hnx
          clear hb hd hnx
          generalize hx2 : (wat bs k).getD (k - 2) 0 = x2 at c0
          generalize hx7 : (wat bs k).getD (k - 7) 0 = x7 at c1
          generalize hx15 : (wat bs k).getD (k - 15) 0 = x15 at c2
          generalize hx16 : (wat bs k).getD (k - 16) 0 = x16 at c3
          have Hxs := Lib.hid (And.intro hx2 (And.intro hx7 (And.intro hx15 hx16)))
          clear hx2 hx7 hx15 hx16
          go_wp2
          refine wp_region_quiet_tail 29 (fun W => ∃ n, W = wr.drewN n) (by kernel_rfl) (by kernel_rfl) ⟨1, rfl⟩ ?_
          simp only [List.take_succ_cons, List.take_zero, List.drop_succ_cons, List.drop_zero]
          repeat (go_big_quiet_step ((go_at_call 93; exact Calls.quiet_of_same ((turn_any _ _ _ (by decide) (by decide)).mono fun _ _ h => ⟨h.1, h.2.symm⟩))))
          refine wpQuiet_nil ?_
          intro W hW
          obtain ⟨nq, rfl⟩ := hW
          go_wp2
          go_roundw
          case rel =>
            refine ⟨k + 1, by omega, by omega, by go_num, ?_⟩
            have := (hw.drewN nq).setW k (v32 (nextW bs (wat bs k) k))
            rw [warr_set bs k hlt, Hnx.out, Hxs.out.1, Hxs.out.2.1, Hxs.out.2.2.1, Hxs.out.2.2.2] at this
            exact this
          case measure => simp [intOf]; omega
        · have ek : k = 64 := by omega
          subst ek
          have s0 := hw.st.cell 0
          have s1 := hw.st.cell 1
          have s2 := hw.st.cell 2
          have s3 := hw.st.cell 3
          have s4 := hw.st.cell 4
          have s5 := hw.st.cell 5
          have s6 := hw.st.cell 6
          have s7 := hw.st.cell 7
          simp only [S8.list, List.map_cons, List.map_nil, List.getElem?_toArray, List.getElem?_cons_zero, List.getElem?_cons_succ, v32] at s0 s1 s2 s3 s4 s5 s6 s7
          go_wp2
          obtain ⟨G, hGe⟩ : ∃ G, G = wr.heap.size := ⟨_, rfl⟩
          have hGlt : w.heap.size + 1 + 1 < G := by rw [hGe]; exact hw.wd.lt
          have hS8 : Blk (wr.alloc (Obj.cells #[.int .u32 (n32 s.a), .int .u32 (n32 s.b), .int .u32 (n32 s.c), .int .u32 (n32 s.d), .int .u32 (n32 s.e), .int .u32 (n32 s.f), .int .u32 (n32 s.g), .int .u32 (n32 s.h)] 124)) G 124 (s.list.map v32).toArray := by
            rw [hGe]; exact Blk.new _ _ _
          have hw2 : Wk w (wr.alloc (Obj.cells #[.int .u32 (n32 s.a), .int .u32 (n32 s.b), .int .u32 (n32 s.c), .int .u32 (n32 s.d), .int .u32 (n32 s.e), .int .u32 (n32 s.f), .int .u32 (n32 s.g), .int .u32 (n32 s.h)] 124)) s.list (warr bs 64) :=
            ⟨hw.st.alloc _, hw.out.alloc _, hw.wd.alloc _, hw.bel.alloc hw.bel.size _⟩
          rw [← hGe]
          clear s0 s1 s2 s3 s4 s5 s6 s7 hw hGe
          revert hS8 hw2
          generalize wr.alloc (Obj.cells #[.int .u32 (n32 s.a), .int .u32 (n32 s.b), .int .u32 (n32 s.c), .int .u32 (n32 s.d), .int .u32 (n32 s.e), .int .u32 (n32 s.f), .int .u32 (n32 s.g), .int .u32 (n32 s.h)] 124) = w2
          intro hS8 hw2
          go_loopw [13] (fun iv wr => ∃ k : Nat, k ≤ 64 ∧ iv = .int .i64 k ∧ Wk w wr s.list (warr bs 64) ∧ Blk wr G 124 ((turns K0 (wat bs 64) s k).list.map v32).toArray) (fun iv _ => 64 - (intOf iv).toNat)
          case atStart => exact ⟨0, by omega, rfl, hw2, hS8⟩
          case round =>
            clear hw2 hS8
            obtain ⟨k, hk, rfl, hw, hq8⟩ := hrel
            by_cases hlt : k < 64
            · have cW : wr.cell? ⟨w.heap.size + 1 + 1, k, none⟩ = some (.int .u32 (n32 ((wat bs 64).getD k 0))) := by rw [hw.wd.cell]; exact warr_at bs 64 k hlt
              have cK := tab_K (hT.below hw.bel hgt) k hlt
              have s0 := hq8.cell 0
              have s1 := hq8.cell 1
              have s2 := hq8.cell 2
              have s3 := hq8.cell 3
              have s4 := hq8.cell 4
              have s5 := hq8.cell 5
              have s6 := hq8.cell 6
              have s7 := hq8.cell 7
              have f0 := hq8.frozen 0
              have f1 := hq8.frozen 1
              have f2 := hq8.frozen 2
              have f3 := hq8.frozen 3
              have f4 := hq8.frozen 4
              have f5 := hq8.frozen 5
              have f6 := hq8.frozen 6
              have f7 := hq8.frozen 7
              simp only [S8.list, List.map_cons, List.map_nil, List.getElem?_toArray, List.getElem?_cons_zero, List.getElem?_cons_succ, v32] at s0 s1 s2 s3 s4 s5 s6 s7
              have e1 : turns K0 (wat bs 64) s (k + 1) = (turns K0 (wat bs 64) s k).turn (K0.getD k 0) ((wat bs 64).getD k 0) := rfl
              generalize turns K0 (wat bs 64) s k = q at *
              generalize K0.getD k 0 = kk at *
              generalize (wat bs 64).getD k 0 = ww at *
              have He := Lib.hid e1
              clear e1 hb
              go_wp2
              go_quiet ((go_at_call 93; exact Calls.quiet_of_same ((turn_any _ _ _ (by decide) (by decide)).mono fun _ _ h => ⟨h.1, h.2.symm⟩)))
              go_wp2
              have hw := hw.drewN nq
              have hq8 := hq8.drewN nq
              clear s0 s1 s2 s3 s4 s5 s6 s7 f0 f1 f2 f3 f4 f5 f6 f7 cW cK
              generalize wr.drewN nq = wr at hw hq8 ⊢
              have s0 := hq8.cell 0
              have s1 := hq8.cell 1
              have s2 := hq8.cell 2
              have s3 := hq8.cell 3
              have s4 := hq8.cell 4
              have s5 := hq8.cell 5
              have s6 := hq8.cell 6
              have s7 := hq8.cell 7
              have f0 := hq8.frozen 0
              have f1 := hq8.frozen 1
              have f2 := hq8.frozen 2
              have f3 := hq8.frozen 3
              have f4 := hq8.frozen 4
              have f5 := hq8.frozen 5
              have f6 := hq8.frozen 6
              have f7 := hq8.frozen 7
              simp only [S8.list, List.map_cons, List.map_nil, List.getElem?_toArray, List.getElem?_cons_zero, List.getElem?_cons_succ, v32] at s0 s1 s2 s3 s4 s5 s6 s7
              go_quiet ((go_at_call 93; exact Calls.quiet_of_same ((turn_any _ _ _ (by decide) (by decide)).mono fun _ _ h => ⟨h.1, h.2.symm⟩)))
              go_wp2
              go_roundw
              case rel =>
                have hd := hw.drewN nq
                refine ⟨k + 1, by omega, by go_num, ⟨hd.st.far8 (by omega) _ _ _ _ _ _ _ _, hd.out.far8 (by omega) _ _ _ _ _ _ _ _, hd.wd.far8 (by omega) _ _ _ _ _ _ _ _, below_set8 hd.bel (by omega) _ _ _ _ _ _ _ _⟩, ?_⟩
                have := (hq8.drewN nq).set8 rfl (v32 (q.one kk ww + q.two)) (v32 q.a) (v32 q.b) (v32 q.c) (v32 (q.d + q.one kk ww)) (v32 q.e) (v32 q.f) (v32 q.g)
                rw [He.out]
                exact this
              case measure => simp [intOf]; omega
            · have ek : k = 64 := by omega
              subst ek
              go_wp2
              go_loopw [18] (fun iv wr => ∃ k : Nat, k ≤ 8 ∧ iv = .int .i64 k ∧ Blk wr w.heap.size 124 ((padd s (turns K0 (wat bs 64) s 64) k).map v32).toArray ∧ Blk wr (w.heap.size + 1) 124 ((List.replicate 8 (0 : UInt32)).map v32).toArray ∧ Blk wr G 124 ((turns K0 (wat bs 64) s 64).list.map v32).toArray ∧ Below w.heap.size w wr) (fun iv _ => 8 - (intOf iv).toNat)
              case atStart => exact ⟨0, by omega, rfl, hw.st, hw.out, hq8, hw.bel⟩
              case round =>
                clear hw hq8
                obtain ⟨j, hj, rfl, hst, hout, hq8, hbel⟩ := hrel
                by_cases hjt : j < 8
                · have cs : wr.cell? ⟨G, j, none⟩ = some (.int .u32 (n32 ((turns K0 (wat bs 64) s 64).list.getD j 0))) := by rw [hq8.cell]; exact list_at _ j hjt
                  have cg : wr.cell? ⟨w.heap.size, j, none⟩ = some (.int .u32 (n32 (s.list.getD j 0))) := by rw [hst.cell]; exact padd_at _ _ j hjt
                  have fg := hst.frozen j
                  have hset := padd_set s (turns K0 (wat bs 64) s 64) j hjt
                  generalize (turns K0 (wat bs 64) s 64).list.getD j 0 = xs at *
                  generalize s.list.getD j 0 = xg at *
                  have Hset := Lib.hid hset
                  clear hset hb
                  go_wp2
                  refine wp_region_quiet_tail 9 (fun W => ∃ n, W = wr.drewN n) (by kernel_rfl) (by kernel_rfl) ⟨1, rfl⟩ ?_
                  simp only [List.take_succ_cons, List.take_zero, List.drop_succ_cons, List.drop_zero]
                  repeat (go_big_quiet_step (fail))
                  refine wpQuiet_nil ?_
                  intro W hW
                  obtain ⟨nq, rfl⟩ := hW
                  go_wp2
                  go_roundw
                  case rel =>
                    refine ⟨j + 1, by omega, by go_num, ?_, (hout.drewN nq).far (p := ⟨_, _, none⟩) (by show _ ≠ w.heap.size; omega) _, (hq8.drewN nq).far (p := ⟨_, _, none⟩) (by show _ ≠ w.heap.size; omega) _, (below_drewN hbel nq).setCell (p := ⟨_, _, none⟩) (Nat.le_refl _) _⟩
                    rw [← Hset.out]
                    exact (hst.drewN nq).set j _
                  case measure => simp [intOf]; omega
                · have ej : j = 8 := by omega
                  subst ej
                  rw [padd_8] at hst
                  clear hq8 hb
                  have em : s.add (turns K0 (wat bs 64) s 64) = mixed K0 s bs := rfl
                  rw [em] at hst
                  generalize hr : mixed K0 s bs = r at hst
                  have Hr := Lib.hid hr
                  clear hr em
                  have o0 : wr.cell? ⟨w.heap.size + 1, 0, none⟩ = some (.int .u32 0) := (hout.cell 0).trans rfl
                  have o1 : wr.cell? ⟨w.heap.size + 1, 1, none⟩ = some (.int .u32 0) := (hout.cell 1).trans rfl
                  have o2 : wr.cell? ⟨w.heap.size + 1, 2, none⟩ = some (.int .u32 0) := (hout.cell 2).trans rfl
                  have o3 : wr.cell? ⟨w.heap.size + 1, 3, none⟩ = some (.int .u32 0) := (hout.cell 3).trans rfl
                  have o4 : wr.cell? ⟨w.heap.size + 1, 4, none⟩ = some (.int .u32 0) := (hout.cell 4).trans rfl
                  have o5 : wr.cell? ⟨w.heap.size + 1, 5, none⟩ = some (.int .u32 0) := (hout.cell 5).trans rfl
                  have o6 : wr.cell? ⟨w.heap.size + 1, 6, none⟩ = some (.int .u32 0) := (hout.cell 6).trans rfl
                  have o7 : wr.cell? ⟨w.heap.size + 1, 7, none⟩ = some (.int .u32 0) := (hout.cell 7).trans rfl
                  have s0 := hst.cell 0
                  have s1 := hst.cell 1
                  have s2 := hst.cell 2
                  have s3 := hst.cell 3
                  have s4 := hst.cell 4
                  have s5 := hst.cell 5
                  have s6 := hst.cell 6
                  have s7 := hst.cell 7
                  have f0 := hout.frozen 0
                  have f1 := hout.frozen 1
                  have f2 := hout.frozen 2
                  have f3 := hout.frozen 3
                  have f4 := hout.frozen 4
                  have f5 := hout.frozen 5
                  have f6 := hout.frozen 6
                  have f7 := hout.frozen 7
                  simp only [S8.list, List.map_cons, List.map_nil, List.getElem?_toArray, List.getElem?_cons_zero, List.getElem?_cons_succ, v32] at s0 s1 s2 s3 s4 s5 s6 s7
                  go_wp2
                  have hR := hout.set8 rfl (v32 r.a) (v32 r.b) (v32 r.c) (v32 r.d) (v32 r.e) (v32 r.f) (v32 r.g) (v32 r.h)
                  have hB := below_set8 hbel (show w.heap.size ≤ w.heap.size + 1 by omega) (v32 r.a) (v32 r.b) (v32 r.c) (v32 r.d) (v32 r.e) (v32 r.f) (v32 r.g) (v32 r.h)
                  refine bodyPost_ret (results_cell_row (p := 6) (ty := 124) rfl _ _ (w.heap.size + 1) _ _ _ _ rfl hR Tryd.underlying124 rfl (by kernel_rfl)) rfl ⟨by rw [Hr.out]; rfl, hB⟩
end Go.Proofs.YtcdkadidkkbhpaaDoor
