/- The walk of sha's Sum. No condition. -/
import Derived.Test.YtbhmmoecoijojaaDoorShaB
import Derived.Test.YtbhmmoecoijojaaDoorShaSum
import Derived.Test.YtbhmmoecoijojaaDoorLaws
import Derived.Deep.DeepCutAuto
namespace Go.Proofs.YtbhmmoecoijojaaDoor
open Go.RowKit
attribute [local go_sem] n32_lo n32_hi n8_lo n8_hi u32_signed
def K0 : List UInt32 := [0x428a2f98, 0x71374491, 0xb5c0fbcf, 0xe9b5dba5, 0x3956c25b, 0x59f111f1, 0x923f82a4, 0xab1c5ed5, 0xd807aa98, 0x12835b01, 0x243185be, 0x550c7dc3, 0x72be5d74, 0x80deb1fe, 0x9bdc06a7, 0xc19bf174, 0xe49b69c1, 0xefbe4786, 0x0fc19dc6, 0x240ca1cc, 0x2de92c6f, 0x4a7484aa, 0x5cb0a9dc, 0x76f988da, 0x983e5152, 0xa831c66d, 0xb00327c8, 0xbf597fc7, 0xc6e00bf3, 0xd5a79147, 0x06ca6351, 0x14292967, 0x27b70a85, 0x2e1b2138, 0x4d2c6dfc, 0x53380d13, 0x650a7354, 0x766a0abb, 0x81c2c92e, 0x92722c85, 0xa2bfe8a1, 0xa81a664b, 0xc24b8b70, 0xc76c51a3, 0xd192e819, 0xd6990624, 0xf40e3585, 0x106aa070, 0x19a4c116, 0x1e376c08, 0x2748774c, 0x34b0bcb5, 0x391c0cb3, 0x4ed8aa4a, 0x5b9cca4f, 0x682e6ff3, 0x748f82ee, 0x78a5636f, 0x84c87814, 0x8cc70208, 0x90befffa, 0xa4506ceb, 0xbef9a3f7, 0xc67178f2]
def H0 : S8 := ⟨0x6a09e667, 0xbb67ae85, 0x3c6ef372, 0xa54ff53a, 0x510e527f, 0x9b05688c, 0x1f83d9ab, 0x5be0cd19⟩
/-- the hash of a text -/
def sha (bs : List UInt8) : List UInt8 := sumOf K0 H0 bs
/-- the two tables of package sha stand as the text lays them -/
structure Glob (w : World) : Prop where
  start : ∀ j, j < 8 → w.cell? ⟨0, j, none⟩ = some (.int .u32 (n32 (H0.list.getD j 0)))
  words : ∀ j, j < 64 → w.cell? ⟨1, j, none⟩ = some (.int .u32 (n32 (K0.getD j 0)))
  b0 : 0 < w.heap.size
  b1 : 1 < w.heap.size
theorem Glob.below {B : Nat} {w w' : World} (h : Glob w) (hb : Below B w w') (h0 : 0 < B) (h1 : 1 < B) : Glob w' :=
  ⟨fun j hj => (hb.cell (p := ⟨_, _, none⟩) h0).trans (h.start j hj), fun j hj => (hb.cell (p := ⟨_, _, none⟩) h1).trans (h.words j hj), Nat.lt_of_lt_of_le h.b0 hb.size, Nat.lt_of_lt_of_le h.b1 hb.size⟩
theorem Glob.next {w w' : World} (h : Glob w) (hb : Below w.heap.size w w') : Glob w' := h.below hb h.b0 h.b1
theorem zero128 (w : World) : (zeroValue 136).run Tryd.prog w = .ok (.agg (arr 128 fun _ => 0)) w := by kernel_rfl
set_option maxRecDepth 100000 in
theorem sum_any (A : Option Addr) (cap : Nat) (bs : List UInt8) (w : World) (hr : Reads w w.heap.size A (bs.map v8)) (hcap : bs.length ≤ cap) (hcm : cap ≤ 9223372036854775807) (hlm : bs.length ≤ 1152921504606846976) (hG : Glob w) :
    Calls Tryd.prog 80 #[.slice A bs.length cap] w fun e w' => e = .returned (.agg (dat (sha bs))) ∧ Below w.heap.size w w' := by
  have g0 : w.cell? ⟨0, 0, none⟩ = some (.int .u32 (n32 H0.a)) := hG.start 0 (by decide)
  have g1 : w.cell? ⟨0, 1, none⟩ = some (.int .u32 (n32 H0.b)) := hG.start 1 (by decide)
  have g2 : w.cell? ⟨0, 2, none⟩ = some (.int .u32 (n32 H0.c)) := hG.start 2 (by decide)
  have g3 : w.cell? ⟨0, 3, none⟩ = some (.int .u32 (n32 H0.d)) := hG.start 3 (by decide)
  have g4 : w.cell? ⟨0, 4, none⟩ = some (.int .u32 (n32 H0.e)) := hG.start 4 (by decide)
  have g5 : w.cell? ⟨0, 5, none⟩ = some (.int .u32 (n32 H0.f)) := hG.start 5 (by decide)
  have g6 : w.cell? ⟨0, 6, none⟩ = some (.int .u32 (n32 H0.g)) := hG.start 6 (by decide)
  have g7 : w.cell? ⟨0, 7, none⟩ = some (.int .u32 (n32 H0.h)) := hG.start 7 (by decide)
  have b0 := hG.b0
  have b1 := hG.b1
  go_enter Tryd.func80, Tryd.ntmps80
  go_wp2
  clear g0 g1 g2 g3 g4 g5 g6 g7
  go_loopw [5] (fun i wr => ∃ k : Nat, k ≤ bs.length / 64 ∧ i = .int .i64 ((64 * k : Nat) : Int) ∧ Blk wr (w.heap.size + 1) 108 ((hashN K0 H0 bs k).list.map v32).toArray ∧ Blk wr w.heap.size 27 (arr 32 fun _ => 0) ∧ Below w.heap.size w wr) (fun i _ => bs.length - (intOf i).toNat)
  case atStart =>
    refine ⟨0, by omega, rfl, ?_, ?_, ((Below.refl _ _).alloc (Nat.le_refl _) _).alloc (by simp) _⟩
    · have := Blk.new (w.alloc (Obj.cells (arr 32 fun _ => 0) 27)) 108 (H0.list.map v32).toArray
      rw [show (w.alloc (Obj.cells (arr 32 fun _ => 0) 27)).heap.size = w.heap.size + 1 from by simp] at this
      exact this
    · exact (Blk.new w 27 (arr 32 fun _ => 0)).alloc _
  case round =>
    obtain ⟨k, hk, rfl, hS, hR, hbel⟩ := hrel
    have hGr := hG.next hbel
    have hSl := hS.lt
    by_cases hlt : k < bs.length / 64
    · obtain ⟨b, off, rfl, hb, hc⟩ := hr (by rw [List.length_map]; omega)
      have hne : ¬ cap = 64 * k := by omega
      have h64 : 64 * k + 64 ≤ bs.length := by omega
      have hb1 : Hid (b < w.heap.size) := hb
      go_wp2_with fail
      refine (mix_any _ (hashN K0 H0 bs k) K0 _ _ _ _ (bs.drop (64 * k)) _ hS ?h1 ?h2 ?h3 ?h4 ?h5 ?h6 ?h7 ?h8 ?h9 ?h10).mono ?_
      case h1 => rw [List.length_drop]; omega
      case h2 => rw [List.length_drop]; omega
      case h3 => omega
      case h4 => omega
      case h5 =>
        intro j hj
        rw [getD_drop]
        have hj2 : 64 * k + j < bs.length := by omega
        have := (hbel.cell (p := ⟨b, off + (64 * k + j), none⟩) hb).trans (hc (64 * k + j) (.int .u8 (n8 (bs.getD (64 * k + j) 0))) (by simp [hj2, v8]))
        rw [← Nat.add_assoc] at this
        exact this
      case h6 => omega
      case h7 => omega
      case h8 => exact hGr.words
      case h9 => omega
      case h10 => exact hGr.b1
      rintro e w' ⟨rfl, hS', hon⟩
      go_wp2
      go_roundw
      case rel =>
        refine ⟨k + 1, by omega, by go_num, hS', hR.grown hon (by simp), below_only hbel hon (by omega) hbel.size⟩
      case measure => simp [intOf]; omega
    · have ek : k = bs.length / 64 := by omega
      rw [ek] at hS
      have hz := zero128
      have hcut := hr.cut (k := 64 * (bs.length / 64)) (cap := cap) (by rw [List.length_map]; omega) (by rw [List.length_map]; exact hcap)
      go_wp2
      have hT := Blk.new wr 136 (arr 128 fun _ => 0)
      have hS2 := hS.alloc (Obj.cells (arr 128 fun _ => 0) 136)
      have hR2 := hR.alloc (Obj.cells (arr 128 fun _ => 0) 136)
      have hbel2 := hbel.alloc hbel.size (Obj.cells (arr 128 fun _ => 0) 136)
      have hrc := (hcut.below hbel).alloc hbel.size (Obj.cells (arr 128 fun _ => 0) 136)
      generalize wr.alloc (Obj.cells (arr 128 fun _ => 0) 136) = w2 at hT hS2 hR2 hbel2 hrc ⊢
      have hTl := hT.lt
      clear hcut hS hR hz
      obtain ⟨T, eT⟩ : ∃ T, T = wr.heap.size := ⟨_, rfl⟩
      rw [← eT] at hT hSl hTl ⊢
      have hTw : w.heap.size + 1 < T := hSl
      clear hSl
      have HeT := Lib.hid eT
      clear eT
      have hi0 : (0 : Int) ≤ (bs.length : Int) / 64 * 64 := by omega
      have hi1 : ((bs.length : Int) / 64 * 64).toNat = 64 * (bs.length / 64) := by omega
      refine wp_region_quiet_tail 4 (fun W => ∃ n, W = w2.drewN n) (by kernel_rfl) (by kernel_rfl) ⟨1, rfl⟩ ?_
      simp only [List.take_succ_cons, List.take_zero, List.drop_succ_cons, List.drop_zero]
      repeat (go_big_quiet_step (fail))
      refine wpQuiet_nil ?_
      intro W hW
      obtain ⟨nq, rfl⟩ := hW
      generalize (if cap = 64 * (bs.length / 64) then A else Option.map (fun x => x.add (64 * (bs.length / 64))) A) = AA at hrc ⊢
      obtain ⟨R, eR⟩ : ∃ R, R = bs.length - 64 * (bs.length / 64) := ⟨_, rfl⟩
      have hR64 : R < 64 := by omega
      have hRl : (bs.drop (64 * (bs.length / 64))).length = R := by rw [List.length_drop, eR]
      have e1 := copied_arr 128 (fun _ => 0) 0 (bs.drop (64 * (bs.length / 64))) 128 (by rw [hRl]; show 0 + min R 128 ≤ 128; omega)
      rw [hRl, List.map_drop] at e1
      refine wpList_copyR rfl (.tmp 27) (.tmp 30) _ _ rfl 5 Tryd.underlying32 (by kernel_rfl) T 0 128 128 _ _ _ rfl rfl _ _ (hT.drewN nq) _ _ (hrc.drewN nq) (by rw [List.length_drop, List.length_map]) (by rw [arr_size, ← eR]; show 0 + min R 128 ≤ 128; omega) (by rw [← List.map_drop]; exact oneCell_v8 _) ?_
      intro w3 hT3 hon3
      rw [e1] at hT3
      rw [← eR]
      have hmin : Nat.min R 128 = R := by show min R 128 = R; omega
      have hS3 := (hS2.drewN nq).grown hon3 (by simp; omega)
      have hR3 := (hR2.drewN nq).grown hon3 (by simp; omega)
      have hbel3 := below_only (below_drewN hbel2 nq) hon3 (by omega) hbel2.size
      have hRlH := Lib.hid hRl
      have HeR := Lib.hid eR
      rw [hmin] at hT3 ⊢
      clear e1 eR hRl hmin hT hS2 hR2 hbel2 hrc hon3 HeT hi0 hi1
      have cT := hT3.cell R
      rw [arr_at _ _ _ (by omega)] at cT
      have fT := hT3.frozen R
      go_upto_if 36 with fail
      go_cut [8] (fun s8 wx => s8 = .int .i64 ((tailEnd bs.length : Nat) : Int) ∧ Blk wx T 136 (arr 128 (tailB (bs.drop (64 * (bs.length / 64))) bs.length (tailEnd bs.length) 0)) ∧ Blk wx (w.heap.size + 1) 108 ((hashN K0 H0 bs (bs.length / 64)).list.map v32).toArray ∧ Blk wx w.heap.size 27 (arr 32 fun _ => 0) ∧ Below w.heap.size w wx)
      case first =>
        have hE : tailEnd bs.length = if R + 9 > 64 then 128 else 64 := by unfold tailEnd; rw [show bs.length % 64 = R by rw [HeR.out]; omega]
        by_cases h9 : 55 < R
        all_goals
          go_wp2_with fail
          go_meet
          have hfin : arr 128 (fun p => if p = R then 0x80 else if 0 ≤ p ∧ p < 0 + R then (bs.drop (64 * (bs.length / 64))).getD (p - 0) 0 else 0) = arr 128 (tailB (bs.drop (64 * (bs.length / 64))) bs.length (tailEnd bs.length) 0) := by
            apply arr_congr
            intro p hp
            unfold tailB
            rw [hRlH.out]
            by_cases h1 : p < R
            · rw [if_neg (show ¬ p = R by omega), if_pos (show 0 ≤ p ∧ p < 0 + R by omega), if_pos h1]; rfl
            · rw [if_neg (show ¬ (0 ≤ p ∧ p < 0 + R) by omega), if_neg h1, if_neg (show ¬ (p < tailEnd bs.length ∧ tailEnd bs.length ≤ p + 0) by omega)]
          have hT4 := hT3.set R (v8 0x80)
          rw [arr_set, hfin] at hT4
          refine ⟨?_, hT4, hS3.far (p := ⟨T, R, none⟩) (by show _ ≠ T; omega) _, hR3.far (p := ⟨T, R, none⟩) (by show _ ≠ T; omega) _, hbel3.setCell (p := ⟨T, R, none⟩) (by show _ ≤ T; omega) _⟩
          rw [hE]
          first | (rw [if_pos (by omega)]; rfl) | (rw [if_neg (by omega)]; rfl)
      case rest =>
        obtain ⟨rfl, hT4, hS4, hR4, hbel4⟩ := hcut
        have hRE : R + 9 ≤ tailEnd bs.length := by
          unfold tailEnd
          rw [show bs.length % 64 = R by rw [HeR.out]; omega]
          split <;> omega
        have hE1 : 64 ≤ tailEnd bs.length ∧ tailEnd bs.length ≤ 128 ∧ tailEnd bs.length % 64 = 0 := by unfold tailEnd; split <;> decide
        have HE := Lib.hid (rfl : tailEnd bs.length = tailEnd bs.length)
        generalize hEq : tailEnd bs.length = E at hT4 hE1 hRE ⊢
        have HEq := Lib.hid hEq
        clear hEq HE
        obtain ⟨hE1, hE2, hE3⟩ := hE1
        have HE3 := Lib.hid hE3
        clear hE3
        generalize hrr : bs.drop (64 * (bs.length / 64)) = r at hT4
        have Hrr := Lib.hid hrr
        have hrl : r.length = R := by rw [← hrr]; exact hRlH.out
        have Hrl := Lib.hid hrl
        clear hrr hrl hT3 hS3 hR3 hbel3 cT fT
        go_wp2
        go_loopw [9, 37] (fun _ i wr => ∃ j : Nat, j ≤ 8 ∧ i = .int .i64 j ∧ Blk wr T 136 (arr 128 (tailB r bs.length E j)) ∧ Blk wr (w.heap.size + 1) 108 ((hashN K0 H0 bs (bs.length / 64)).list.map v32).toArray ∧ Blk wr w.heap.size 27 (arr 32 fun _ => 0) ∧ Below w.heap.size w wr) (fun _ i _ => 8 - (intOf i).toNat)
        case atStart => exact ⟨0, by omega, rfl, hT4, hS4, hR4, hbel4⟩
        case round =>
          clear hT4 hS4 hR4 hbel4
          obtain ⟨j, hj, rfl, hT4, hS4, hR4, hbel4⟩ := hrel
          by_cases hj8 : j < 8
          · have cT := hT4.cell (E - 1 - j)
            rw [arr_at _ _ _ (by omega)] at cT
            have fT := hT4.frozen (E - 1 - j)
            have ei : ((E : Int) - 1 - j).toNat = E - 1 - j := by omega
            go_wp2
            go_roundw
            case rel =>
              have hstep := hT4.set (E - 1 - j) (v8 (lenByte bs.length (7 - j)))
              rw [arr_set, tailB_step r bs.length E j hj8 (by rw [Hrl.out]; omega)] at hstep
              refine ⟨j + 1, by omega, by go_num, ?_, hS4.far (p := ⟨T, _, none⟩) (by show _ ≠ T; omega) _, hR4.far (p := ⟨T, _, none⟩) (by show _ ≠ T; omega) _, hbel4.setCell (p := ⟨T, _, none⟩) (by show _ ≤ T; omega) _⟩
              rw [lenByte_val _ _ hj8]
              exact hstep
            case measure => simp [intOf]; omega
          · have ej : j = 8 := by omega
            rw [ej] at hT4
            clear ej
            obtain ⟨TL, hTL⟩ : ∃ TL : List UInt8, TL = (List.range 128).map (tailB r bs.length E 8) := ⟨_, rfl⟩
            have hTLl : TL.length = 128 := by rw [hTL]; simp
            have hTLa : ∀ p, p < 128 → tailB r bs.length E 8 p = TL.getD p 0 := fun p hp => by rw [hTL]; simp [hp]
            have HTLl := Lib.hid hTLl
            have HTLa := Lib.hid hTLa
            clear hTL hTLl hTLa
            have hcT : ∀ p, p < 128 → Hid (∀ wx, Blk wx T 136 (arr 128 (tailB r bs.length E 8)) → wx.cell? ⟨T, p, none⟩ = some (.int .u8 (n8 (TL.getD p 0)))) := fun p hp wx hx => by
              rw [hx.cell, arr_at _ _ _ hp, HTLa.out p hp]
            go_wp2
            go_loopw [10] (fun i wr => ∃ m : Nat, m ≤ E / 64 ∧ i = .int .i64 ((64 * m : Nat) : Int) ∧ Blk wr T 136 (arr 128 (tailB r bs.length E 8)) ∧ Blk wr (w.heap.size + 1) 108 ((hashN K0 (hashN K0 H0 bs (bs.length / 64)) TL m).list.map v32).toArray ∧ Blk wr w.heap.size 27 (arr 32 fun _ => 0) ∧ Below w.heap.size w wr) (fun i _ => E - (intOf i).toNat)
            case atStart => exact ⟨0, by omega, rfl, hT4, hS4, hR4, hbel4⟩
            case round =>
              clear hT4 hS4 hR4 hbel4
              obtain ⟨m, hm, rfl, hT4, hS4, hR4, hbel4⟩ := hrel
              have hGr := hG.next hbel4
              have hSl := hS4.lt
              have hTl4 := hT4.lt
              by_cases hmE : m < E / 64
              · have hm64 : 64 * m + 64 ≤ E := by omega
                have hsl : ∀ wx, (Instr.sliceAt 136 (.pointer (some ⟨T, 0, none⟩)) (some (.int .i64 (64 * (m : Int)))) none none).run Tryd.prog wx = .ok (.slice (some ⟨T, 64 * m, none⟩) (128 - 64 * m) (128 - 64 * m)) wx := fun wx => by
                  rw [run_sliceAt_array_l (P := Tryd.prog) (w := wx) ⟨T, 0, none⟩ Tryd.underlying136 (by kernel_rfl) .i64 (64 * (m : Int)) (by omega) (by omega), show (64 * (m : Int)).toNat = 64 * m by omega]
                  unfold Addr.add
                  by_cases h0 : 64 * m = 0
                  · rw [if_pos h0, h0]
                  · rw [if_neg h0]; simp
                go_wp2_with fail
                refine (mix_any _ (hashN K0 (hashN K0 H0 bs (bs.length / 64)) TL m) K0 _ _ _ _ (TL.drop (64 * m)) _ hS4 ?h1 ?h2 ?h3 ?h4 ?h5 ?h6 ?h7 ?h8 ?h9 ?h10).mono ?_
                case h1 => rw [List.length_drop, HTLl.out]; omega
                case h2 => rw [List.length_drop, HTLl.out]; omega
                case h3 => omega
                case h4 => omega
                case h5 =>
                  intro q hq
                  rw [getD_drop]
                  have := (hcT (64 * m + q) (by omega)) _ hT4
                  simpa using this
                case h6 => omega
                case h7 => omega
                case h8 => exact hGr.words
                case h9 => omega
                case h10 => exact hGr.b1
                rintro e w' ⟨rfl, hS', hon⟩
                go_wp2
                go_roundw
                case rel => exact ⟨m + 1, by omega, by go_num, hT4.grown hon (by simp; omega), hS', hR4.grown hon (by simp), below_only hbel4 hon (by omega) hbel4.size⟩
                case measure => simp [intOf]; omega
              · have em : m = E / 64 := by omega
                rw [em] at hS4
                clear em
                have hge : E ≤ 64 * m := by have := HE3.out; omega
                go_wp2
                have hD := Blk.new wr 27 (arr 32 fun _ => 0)
                have hS5 := hS4.alloc (Obj.cells (arr 32 fun _ => 0) 27)
                have hR5 := hR4.alloc (Obj.cells (arr 32 fun _ => 0) 27)
                have hbel5 := hbel4.alloc hbel4.size (Obj.cells (arr 32 fun _ => 0) 27)
                change Code.wp _ _ _ _ (wr.alloc (Obj.cells (arr 32 fun _ => 0) 27))
                generalize wr.alloc (Obj.cells (arr 32 fun _ => 0) 27) = w5 at hD hS5 hR5 hbel5 ⊢
                obtain ⟨D, eD⟩ : ∃ D, D = wr.heap.size := ⟨_, rfl⟩
                rw [← eD] at hD hSl hTl4 ⊢
                have HeD := Lib.hid eD
                clear eD hT4 hS4 hR4 hbel4 hGr
                have hfinal : sha bs = outBytes (hashN K0 (hashN K0 H0 bs (bs.length / 64)) TL (E / 64)) := by
                  rw [← HEq.out]
                  exact (sumOf_tail K0 H0 bs TL fun p hp => by rw [← HTLa.out p (by have := HEq.out; omega), HEq.out, Hrr.out]).symm
                have Hfin := Lib.hid hfinal
                clear hfinal
                generalize hq : hashN K0 (hashN K0 H0 bs (bs.length / 64)) TL (E / 64) = q at hS5 Hfin
                have Hq := Lib.hid hq
                clear hq
                go_loopw [12, 62] (fun _ i wr => ∃ j : Nat, j ≤ 32 ∧ i = .int .i64 j ∧ Blk wr D 27 (arr 32 fun p => if p < j then outB q p else 0) ∧ Blk wr (w.heap.size + 1) 108 (q.list.map v32).toArray ∧ Blk wr w.heap.size 27 (arr 32 fun _ => 0) ∧ Below w.heap.size w wr) (fun _ i _ => 32 - (intOf i).toNat)
                case atStart => exact ⟨0, by omega, rfl, hD, hS5, hR5, hbel5⟩
                case round =>
                  clear hD hS5 hR5 hbel5
                  obtain ⟨l, hl, rfl, hD, hS5, hR5, hbel5⟩ := hrel
                  by_cases hl32 : l < 32
                  · have cS := hS5.cell (l / 4)
                    rw [list_at q (l / 4) (by omega)] at cS
                    have cD := hD.cell l
                    rw [arr_at _ _ _ hl32] at cD
                    have fD := hD.frozen l
                    have ei : ((l : Int) / 4).toNat = l / 4 := by omega
                    go_wp2
                    go_roundw
                    case rel =>
                      have hstep := hD.set l (v8 (outB q l))
                      rw [arr_set, arr_congr 32 _ (fun p => if p < l + 1 then outB q p else 0) (fun p _ => by
                        by_cases h1 : p = l
                        · rw [if_pos h1, if_pos (by omega), h1]
                        · rw [if_neg h1]
                          by_cases h2 : p < l
                          · rw [if_pos h2, if_pos (by omega)]
                          · rw [if_neg h2, if_neg (by omega)])] at hstep
                      refine ⟨l + 1, by omega, by go_num, ?_, hS5.far (p := ⟨D, _, none⟩) (by show _ ≠ D; omega) _, hR5.far (p := ⟨D, _, none⟩) (by show _ ≠ D; omega) _, hbel5.setCell (p := ⟨D, _, none⟩) (by show _ ≤ D; omega) _⟩
                      rw [show (q.list[l / 4]?.getD 0) = q.list.getD (l / 4) 0 from rfl, outB_val]
                      exact hstep
                    case measure => simp [intOf]; omega
                  · have el : l = 32 := by omega
                    rw [el] at hD
                    clear el
                    have hDf : arr 32 (fun p => if p < 32 then outB q p else 0) = arr 32 (outB q) := arr_congr 32 _ _ fun p hp => if_pos hp
                    rw [hDf] at hD
                    clear hDf
                    go_wp2_with (first
                      | (refine wpList_load_row rfl 27 (.tmp 11) rfl D rfl _ _ _ _ hD Tryd.underlying27 rfl (by kernel_rfl) ?_)
                      | (refine wpList_storeArr rfl rfl 27 (.tmp 2) (.tmp 78) rfl w.heap.size rfl 32 (outB q) _ rfl _ hR5 (by kernel_rfl) ?_; intro w6 hR6 hon6))
                    have hb6 := below_only hbel5 hon6 (Nat.le_refl _) hbel5.size
                    refine bodyPost_ret (results_cell_row (p := 2) (ty := 27) rfl _ _ w.heap.size _ _ _ _ rfl hR6 Tryd.underlying27 rfl (by kernel_rfl)) rfl ⟨?_, hb6⟩
                    rw [Hfin.out, outBytes_dat]
theorem sum_b (v : Value) (bs : List UInt8) (w : World) (h : BSl w w.heap.size v bs) (hlm : bs.length ≤ 1152921504606846976) (hG : Glob w) :
    Calls Tryd.prog 80 #[v] w fun e w' => e = .returned (.agg (dat (sha bs))) ∧ Below w.heap.size w w' := by
  obtain ⟨A, cap, rfl, h1, h2, h3⟩ := h
  exact sum_any A cap bs w h3 h1 h2 hlm hG
theorem sha_length (bs : List UInt8) : (sha bs).length = 32 := by simp [sha, sumOf, outBytes]
attribute [irreducible] sha
end Go.Proofs.YtbhmmoecoijojaaDoor
