/- Texts that stand behind one another: Within, RefF, RefGa, BookP, MixT. No condition. -/
import Derived.Test.YtfggbfnnibpohaaDoorQ3
import Derived.Test.YtfggbfnnibpohaaDoorChecked
import Derived.WalkKit
import Derived.Lib.Hide
import Derived.Test.YtfggbfnnibpohaaDoorQ13
import Derived.Test.YtfggbfnnibpohaaDoorQ5
import Derived.Lib.SlBytesConst
import Derived.Maps.AppendAt
import Derived.Test.YtfggbfnnibpohaaDoorQ6
/- The walk of deponentbook's Within. No condition. -/
namespace Go.Proofs.YtfggbfnnibpohaaDoor
open Go.RowKit
def withinI (x lo hi : Int) : Int := if x.tmod (hi - lo + 1) < 0 then lo + (x.tmod (hi - lo + 1) + hi - lo + 1) else lo + x.tmod (hi - lo + 1)
theorem withinI_bounds (x lo hi : Int) (h1 : lo ≤ hi) : lo ≤ withinI x lo hi ∧ withinI x lo hi ≤ hi := by
  have b1 := Int.tmod_lt_of_pos x (show 0 < hi - lo + 1 by omega)
  have b2 := Int.lt_tmod_of_pos x (show 0 < hi - lo + 1 by omega)
  unfold withinI
  split <;> omega
theorem within_any (x lo hi : Int) (w : World) (h0 : 0 ≤ lo) (h1 : lo ≤ hi) (h2 : hi < 4611686018427387904) (_hx : -9223372036854775808 ≤ x) (_hx2 : x ≤ 9223372036854775807) :
    Calls Tryd.prog 18 #[.int .i64 x, .int .i64 lo, .int .i64 hi] w fun e w' => e = .returned (.int .i64 (withinI x lo hi)) ∧ w = w' := by
  have b1 := Int.tmod_lt_of_pos x (show 0 < hi - lo + 1 by omega)
  have b2 := Int.lt_tmod_of_pos x (show 0 < hi - lo + 1 by omega)
  by_cases hm : x.tmod (hi - lo + 1) < 0
  · have e : withinI x lo hi = lo + (x.tmod (hi - lo + 1) + hi - lo + 1) := if_pos hm
    have He := Lib.hid e
    clear e
    go_enter Tryd.func18, Tryd.ntmps18
    go_wp2
    go_ret
    rw [He.out]
    exact ⟨rfl, rfl⟩
  · have e : withinI x lo hi = lo + x.tmod (hi - lo + 1) := if_neg hm
    have He := Lib.hid e
    clear e
    go_enter Tryd.func18, Tryd.ntmps18
    go_wp2
    go_ret
    rw [He.out]
    exact ⟨rfl, rfl⟩
end Go.Proofs.YtfggbfnnibpohaaDoor

/- The walk of the reference's Sum. No condition. -/
namespace Go.Proofs.YtfggbfnnibpohaaDoor
open Go.RowKit
/-- the padded text while it is built: k zeros; j bytes of the length -/
def padZ (bs : List UInt8) (k : Nat) : List UInt8 := bs ++ [0x80] ++ List.replicate k 0
def padJ (bs : List UInt8) (j : Nat) : List UInt8 := padZ bs (zeros bs.length) ++ ((List.range 8).map (lenByte bs.length)).take j
theorem padZ_len (bs : List UInt8) (k : Nat) : (padZ bs k).length = bs.length + 1 + k := by simp [padZ]; omega
theorem padZ_succ (bs : List UInt8) (k : Nat) : padZ bs (k + 1) = padZ bs k ++ [0] := by
  unfold padZ; rw [List.replicate_succ']; simp
theorem padJ_len (bs : List UInt8) (j : Nat) (hj : j ≤ 8) : (padJ bs j).length = bs.length + 1 + zeros bs.length + j := by
  rw [padJ, List.length_append, padZ_len, List.length_take]; simp; omega
theorem padJ_succ (bs : List UInt8) (j : Nat) (hj : j < 8) : padJ bs (j + 1) = padJ bs j ++ [lenByte bs.length j] := by
  unfold padJ
  rw [List.take_succ_eq_append_getElem (by simpa using hj), List.append_assoc]
  simp
theorem padJ_8 (bs : List UInt8) : padJ bs 8 = pad bs := by
  unfold padJ padZ pad
  rw [List.take_of_length_le (by simp)]; simp
theorem zeros_lt (n : Nat) : zeros n < 64 := by unfold zeros; omega
theorem zeros_iff (n k : Nat) (hk : k ≤ zeros n) : (n + 1 + k) % 64 = 56 ↔ k = zeros n := by unfold zeros at *; omega
theorem getD_take64 (l : List UInt8) : ∀ j, j < 64 → (l.take 64).getD j 0 = l.getD j 0 := fun j hj => by
  rw [List.getD_eq_getElem?_getD, List.getD_eq_getElem?_getD, List.getElem?_take, if_pos hj]
theorem s8_size (s : S8) : (s.list.map v32).toArray.size = 8 := rfl
theorem s8_one (s : S8) : ∀ v ∈ (s.list.map v32).toArray.toList, v.oneCell' = true := by
  intro v hv
  obtain ⟨b, _, rfl⟩ := List.mem_map.1 hv
  rfl
def lenOf : Value → Nat
  | .slice _ n _ => n
  | _ => 0
attribute [local go_sem] n64_lo n64_hi n8_lo n8_hi
set_option maxHeartbeats 1000000 in
set_option maxRecDepth 100000 in
theorem rsum_any (v u : Value) (bs : List UInt8) (w : World) (ht : Tbl w w.heap.size v) (hb : BSl w w.heap.size u bs) (hbl : bs.length ≤ 140737488355200) :
    Calls Tryd.prog 116 #[v, u] w fun e w' => e = .returned (.agg (dat (sha bs))) ∧ Below w.heap.size w w' := by
  obtain ⟨gt, rfl, hgt, hT⟩ := ht
  obtain ⟨A, cap, rfl, hc1, hc2, hr⟩ := hb
  obtain ⟨i0, hi, hz0, hz1, hz2⟩ := info_parts (by kernel_rfl : (Tryd.prog.info? 5).map (fun i => (i.zero, i.size, i.bytes)) = some (some (.int .u8 0), 1, 1))
  have s1 := Lib.hid (show ([] : List Value).length + bs.length ≤ maxLen by unfold maxLen; simp; omega)
  have s2 := Lib.hid (show (([] : List Value).length + bs.length) * 1 ≤ 140737488355328 by simp; omega)
  have s3 := Lib.hid (show (([] : List Value) ++ bs.map v8).length + 1 ≤ maxLen by unfold maxLen; simp; omega)
  have s4 := Lib.hid (show ((([] : List Value) ++ bs.map v8).length + 1) * 1 ≤ 140737488355328 by simp; omega)
  go_enter Tryd.func116, Tryd.ntmps116
  have hR0 := Blk.new w 35 (arr 32 fun _ => 0)
  have hw0 := below_new1 w (Obj.cells (arr 32 fun _ => 0) 35)
  have hz : (w.alloc (Obj.cells (arr 32 fun _ => 0) 35)).heap.size = w.heap.size + 1 := by simp
  go_wp2_with (first
    | (refine wpl_at (w := w.alloc (Obj.cells _ 35)) (fun W => Blk W w.heap.size 35 (arr 32 fun _ => 0) ∧ Below w.heap.size w W ∧ W.heap.size = w.heap.size + 1) ⟨hR0, hw0, hz⟩ ?_; clear hR0 hw0 hz; rintro w0 ⟨hR0, hw0, hz⟩; have hr0 := hr.below hw0; have hn1 : Below (w.heap.size + 1) w0 (w0.alloc (Obj.cells #[] 5)) := (by have := below_new1 w0 (Obj.cells #[] 5); rw [hz] at this; exact this); have hoe : (w0.alloc (Obj.cells #[] 5)).ownsRow (w.heap.size + 1) 5 1 (.slice (some ⟨w.heap.size + 1, 0, none⟩) 0 0) ([] : List Value).length [] := (by have := own_empty w0 w0.heap.size 5 (Nat.le_refl _); rw [hz] at this; exact this))
    | (at_builtin; refine wpList_appendR rfl (.tmp 12) (.tmp 13) _ rfl (w.heap.size + 1) 5 i0 _ 1 Tryd.underlying22 hi hz0 hz1 hz2 rfl _ [] rfl hoe _ A _ _ _ rfl (hr0.below (hn1.mono (by omega))) (by rw [List.length_map]) (oneCell_v8 _) s1.out s2.out (by have := hn1.size; omega) ?_; intro u1 w1 hown1 hg1 hat1; have hb1 := below_own hn1 hoe hg1 (by have := hn1.size; omega); have hz1s : w.heap.size + 1 ≤ w1.heap.size := (by have := hb1.size; omega); have hz1t : w.heap.size + 1 ≤ (w1.alloc (Obj.cells #[v8 128] 5)).heap.size := Nat.le_trans hz1s (below_new1 w1 _).size)
    | (at_builtin; refine wpList_appendR rfl (.tmp 14) (.tmp 15) _ rfl (w.heap.size + 1) 5 i0 _ 1 Tryd.underlying22 hi hz0 hz1 hz2 rfl _ _ rfl (own_below hown1 (below_new1 w1 _)) (w1.heap.size + 1) (some ⟨w1.heap.size, 0, none⟩) 1 1 [v8 128] rfl (show Reads (w1.alloc (Obj.cells #[v8 128] 5)) (w1.heap.size + 1) (some ⟨w1.heap.size, 0, none⟩) [v8 128] from Reads.of_blk (Blk.new w1 5 #[v8 128]) (by omega) 0) rfl (fun u hu => by rw [List.mem_singleton] at hu; subst hu; rfl) s3.out s4.out hz1t ?_; intro u2 w2 hown2 hg2 hat2; have hb2 := below_own (hb1.trans ((below_new1 w1 _).mono hz1s)) (own_below hown1 (below_new1 w1 _)) hg2 hz1t))
  have hP0 : ([] : List Value) ++ bs.map v8 ++ [v8 128] = (padZ bs 0).map v8 := by simp [padZ]
  rw [hP0] at hown2
  have hzl := zeros_lt bs.length
  clear hP0 hown1 hg1 hat1 hb1 hz1s hz1t hg2 hat2 hoe hn1 hr0 s1 s2 s3 s4
  go_loopw [5] (fun v wr => ∃ k : Nat, k ≤ zeros bs.length ∧ lenOf v = bs.length + 1 + k ∧ wr.ownsRow (w.heap.size + 1) 5 1 v ((padZ bs k).map v8).length ((padZ bs k).map v8) ∧ Below (w.heap.size + 1) w0 wr) (fun v _ => bs.length + 100 - lenOf v)
  case atStart =>
    refine ⟨0, by omega, ?_, hown2, hb2⟩
    obtain ⟨A2, c2, rfl, _⟩ := Reads.own hown2
    simp [lenOf, padZ_len]
  case round =>
    clear hown2 hb2
    obtain ⟨k, hk, hlen, hown, hb⟩ := hrel
    obtain ⟨A2, c2, rfl, hd1, hd2, hrd⟩ := Reads.own hown
    have hml : ((padZ bs k).map v8).length = bs.length + 1 + k := by rw [List.length_map, padZ_len]
    have hbs : w.heap.size + 1 ≤ wr.heap.size := by have := hb.size; omega
    by_cases hlt : k = zeros bs.length
    · subst hlt
      have h56 := (zeros_iff bs.length _ hk).2 rfl
      have hnn : ((bs.length : Int) + 1 + (zeros bs.length : Nat)) % 64 = 56 := by omega
      have hown' : wr.ownsRow (w.heap.size + 1) 5 1 (.slice A2 (bs.length + 1 + zeros bs.length) c2) ((padJ bs 0).map v8).length ((padJ bs 0).map v8) := by
        have : padJ bs 0 = padZ bs (zeros bs.length) := by rw [padJ]; simp
        rw [this]; rw [hml] at hown ⊢; exact hown
      rw [hml]
      clear hlen h56 hown hrd hml
      go_wp2_with fail
      clear hnn
      go_loopw [5, 7] (fun v iv wr => ∃ j : Nat, j ≤ 8 ∧ iv = .int .i64 (56 - 8 * (j : Int)) ∧ wr.ownsRow (w.heap.size + 1) 5 1 v ((padJ bs j).map v8).length ((padJ bs j).map v8) ∧ Below (w.heap.size + 1) w0 wr) (fun _ iv _ => (intOf iv + 8).toNat)
      case atStart => exact ⟨0, by omega, rfl, hown', hb⟩
      case round =>
        clear hown' hb hbs
        obtain ⟨j, hj, rfl, hown, hb⟩ := hrel
        obtain ⟨A4, c4, rfl, he1, he2, hre⟩ := Reads.own hown
        have hml : ((padJ bs j).map v8).length = bs.length + 1 + zeros bs.length + j := by rw [List.length_map, padJ_len bs j hj]
        have hbs : w.heap.size + 1 ≤ wr.heap.size := by have := hb.size; omega
        by_cases hjt : j < 8
        · have s3 := Lib.hid (show ((padJ bs j).map v8).length + 1 ≤ maxLen by rw [hml]; unfold maxLen; omega)
          have s4 := Lib.hid (show (((padJ bs j).map v8).length + 1) * 1 ≤ 140737488355328 by rw [hml]; omega)
          have hbt : ∀ u, w.heap.size + 1 ≤ (wr.alloc (Obj.cells #[v8 u] 5)).heap.size := fun u => Nat.le_trans hbs (below_new1 wr _).size
          have hown'' : wr.ownsRow (w.heap.size + 1) 5 1 (.slice A4 (bs.length + 1 + zeros bs.length + j) c4) ((padJ bs j).map v8).length ((padJ bs j).map v8) := by rw [hml] at hown ⊢; exact hown
          have hby : (bs.length : Int) * 8 / 2 ^ (56 - 8 * j) % 256 = n8 (lenByte bs.length j) := by
            have := lenByte_val bs.length (7 - j) (by omega)
            rw [show 56 - 8 * j = 8 * (7 - j) by omega, this, show 7 - (7 - j) = j by omega]
          have hsucc := Lib.hid (padJ_succ bs j hjt)
          generalize lenByte bs.length j = lb at hby hsucc
          rw [hml]
          clear hown hre
          go_wp2_with (first
            | (at_builtin; refine wpList_appendR rfl (.tmp 32) (.tmp 38) _ rfl (w.heap.size + 1) 5 i0 _ 1 Tryd.underlying22 hi hz0 hz1 hz2 rfl _ _ rfl (own_below hown'' (below_new1 wr _)) (wr.heap.size + 1) (some ⟨wr.heap.size, 0, none⟩) 1 1 [v8 lb] rfl (show Reads (wr.alloc (Obj.cells #[v8 lb] 5)) (wr.heap.size + 1) (some ⟨wr.heap.size, 0, none⟩) [v8 lb] from Reads.of_blk (Blk.new wr 5 #[v8 lb]) (by omega) 0) rfl (fun u hu => by rw [List.mem_singleton] at hu; subst hu; rfl) s3.out s4.out (hbt lb) ?_; intro u3 w3 hown3 hg3 hat3; have hb3 := below_own (hb.trans ((below_new1 wr _).mono hbs)) (own_below hown'' (below_new1 wr _)) hg3 (hbt lb)))
          go_roundw
          case rel =>
            refine ⟨j + 1, by omega, by go_num, ?_, hb3⟩
            rw [hsucc.out, List.map_append]; exact hown3
          case measure => simp only [intOf]; omega
        · have ej : j = 8 := by omega
          subst ej
          rw [padJ_8] at hown hre hml
          rw [padJ_8]
          have hpl : (bs.length + 1 + zeros bs.length + 8) = (pad bs).length := by rw [pad_length]; omega
          rw [hpl] at hml
          rw [hml] at *
          have hmod := pad_mod bs
          have hle : (pad bs).length ≤ bs.length + 72 := by rw [pad_length]; omega
          have hbel : Below w.heap.size w wr := hw0.trans (hb.mono (by omega))
          have hT' := hT.below hbel hgt
          have hR' := hR0.below hb (by omega)
          have t0 : wr.cell? ⟨gt, 64, none⟩ = some (.int .u32 (n32 H0.a)) := (hT'.cell 64).trans rfl
          have t1 : wr.cell? ⟨gt, 65, none⟩ = some (.int .u32 (n32 H0.b)) := (hT'.cell 65).trans rfl
          have t2 : wr.cell? ⟨gt, 66, none⟩ = some (.int .u32 (n32 H0.c)) := (hT'.cell 66).trans rfl
          have t3 : wr.cell? ⟨gt, 67, none⟩ = some (.int .u32 (n32 H0.d)) := (hT'.cell 67).trans rfl
          have t4 : wr.cell? ⟨gt, 68, none⟩ = some (.int .u32 (n32 H0.e)) := (hT'.cell 68).trans rfl
          have t5 : wr.cell? ⟨gt, 69, none⟩ = some (.int .u32 (n32 H0.f)) := (hT'.cell 69).trans rfl
          have t6 : wr.cell? ⟨gt, 70, none⟩ = some (.int .u32 (n32 H0.g)) := (hT'.cell 70).trans rfl
          have t7 : wr.cell? ⟨gt, 71, none⟩ = some (.int .u32 (n32 H0.h)) := (hT'.cell 71).trans rfl
          go_wp2_with fail
          have hS8 : Blk (wr.alloc (Obj.cells #[.int .u32 (n32 H0.a), .int .u32 (n32 H0.b), .int .u32 (n32 H0.c), .int .u32 (n32 H0.d), .int .u32 (n32 H0.e), .int .u32 (n32 H0.f), .int .u32 (n32 H0.g), .int .u32 (n32 H0.h)] 125)) wr.heap.size 125 (H0.list.map v32).toArray := Blk.new _ _ _
          have hbw := below_new1 wr (Obj.cells #[.int .u32 (n32 H0.a), .int .u32 (n32 H0.b), .int .u32 (n32 H0.c), .int .u32 (n32 H0.d), .int .u32 (n32 H0.e), .int .u32 (n32 H0.f), .int .u32 (n32 H0.g), .int .u32 (n32 H0.h)] 125)
          obtain ⟨bp, offp, rfl, hbp, hcp⟩ := hre (by rw [List.length_map, pad_length]; omega)
          have hcp' : ∀ j, j < (pad bs).length → wr.cell? ⟨bp, offp + j, none⟩ = some (.int .u8 (n8 ((pad bs).getD j 0))) := fun j hj => by
            have := hcp j _ (by rw [List.getElem?_map, List.getElem?_eq_getElem hj]; rfl)
            rw [this, List.getD_eq_getElem?_getD, List.getElem?_eq_getElem hj]; rfl
          have hgt' : gt < wr.heap.size := hT'.lt
          obtain ⟨N, hN⟩ : ∃ N, (pad bs).length = 64 * N := ⟨(pad bs).length / 64, by omega⟩
          have hsha : sha bs = outBytes (hashN K0 H0 (pad bs) N) := by
            unfold sha sumOf; rw [hN]; congr 2; omega
          have Hsha := Lib.hid hsha
          have he1' : 64 * N ≤ c4 := by rw [List.length_map, padJ_8] at he1; omega
          rw [hN] at hcp' hle hpl ⊢
          clear he1 hown hre hcp hT hR0 t0 t1 t2 t3 t4 t5 t6 t7 hsha hml hmod
          revert hS8 hbw
          generalize wr.alloc (Obj.cells #[.int .u32 (n32 H0.a), .int .u32 (n32 H0.b), .int .u32 (n32 H0.c), .int .u32 (n32 H0.d), .int .u32 (n32 H0.e), .int .u32 (n32 H0.f), .int .u32 (n32 H0.g), .int .u32 (n32 H0.h)] 125) = w9
          intro hS8 hbw
          obtain ⟨wa, rfl⟩ : ∃ wa, wa = wr := ⟨_, rfl⟩
          go_loopw [9] (fun iv W => ∃ m : Nat, m ≤ N ∧ iv = .int .i64 (64 * (m : Int)) ∧ Blk W wa.heap.size 125 ((hashN K0 H0 (pad bs) m).list.map v32).toArray ∧ Below wa.heap.size wa W) (fun iv _ => (64 * (N : Int) - intOf iv).toNat)
          case atStart => exact ⟨0, by omega, rfl, hS8, hbw⟩
          case round =>
            clear hS8 hbw
            obtain ⟨m, hm, rfl, hS8, hbw⟩ := hrel
            by_cases hmt : m < N
            · have hcw : ∀ e, ∀ j, j < 64 → (plus wr e).cell? ⟨bp, offp + 64 * m + j, none⟩ = some (.int .u8 (n8 ((((pad bs).drop (64 * m)).take 64).getD j 0))) := fun e j hj => by
                rw [getD_take64 _ j hj, getD_drop, ← hcp' (64 * m + j) (by omega), ((plus_below wr e).cell (p := ⟨bp, _, none⟩) (Nat.lt_of_lt_of_le hbp hbw.size)), (hbw.cell (p := ⟨bp, _, none⟩) hbp), Nat.add_assoc]
              have htb : ∀ e, Tbl (plus wr e) (plus wr e).heap.size (.pointer (some ⟨gt, 0, none⟩)) := fun e => ⟨gt, rfl, Nat.lt_of_lt_of_le hgt' (Nat.le_trans hbw.size (plus_below wr e).size), (hT'.below hbw hgt').plus e⟩
              have hbp2 : ∀ e, bp < (plus wr e).heap.size := fun e => Nat.lt_of_lt_of_le hbp (Nat.le_trans hbw.size (plus_below wr e).size)
              have hdl : (((pad bs).drop (64 * m)).take 64).length = 64 := by rw [List.length_take, List.length_drop, hN]; omega
              have hnx := Lib.hid (show hashN K0 H0 (pad bs) (m + 1) = mixed K0 (hashN K0 H0 (pad bs) m) (((pad bs).drop (64 * m)).take 64) from (mixed_congr (getD_take64 _)).symm)
              generalize hashN K0 H0 (pad bs) m = q at *
              generalize ((pad bs).drop (64 * m)).take 64 = bl at *
              go_wp2_with fail
              refine wp_region_quiet_tail_plus 8 (by kernel_rfl) (by kernel_rfl) ?_
              simp only [List.take_succ_cons, List.take_zero, List.drop_succ_cons, List.drop_zero]
              repeat (first
                | (refine wpQuiet_load (by kernel_rfl) 125 (.tmp 8) rfl wa.heap.size rfl 125 (q.list.map v32).toArray (0, 0) _ (fun w hC => by obtain ⟨e, rfl⟩ := hC; exact hS8.plus e) Tryd.underlying125 rfl (by kernel_rfl) ?_; simp only [Act.put, List.setIfInBounds_toArray, List.set_cons_zero, List.set_cons_succ])
                | go_big_quiet_step ((go_at_call 136; exact calls_plus (block_any _ q _ _ _ _ bl _ (htb _) (by omega) (by omega) (by omega) (by omega) (hcw _) (hbp2 _)))))
              refine wpQuiet_nil ?_
              rintro _ ⟨e5, rfl⟩
              have hS5 := hS8.plus e5
              have hb5 := hbw.trans ((plus_below wr e5).mono hbw.size)
              clear hcw htb hbp2 hS8 hbw hdl
              generalize plus wr e5 = w5 at hS5 hb5 ⊢
              generalize hmx : mixed K0 q bl = r at hnx ⊢
              go_wp2_with (first
                | (refine wpList_storeB rfl rfl 125 (.tmp 8) (.tmp 57) rfl wa.heap.size 0 rfl (r.list.map v32).toArray rfl 125 _ hS5 (by kernel_rfl) (by rw [s8_size, s8_size]; decide) (s8_one r) ?_; intro w6 hS6 hon6))
              rw [copied_all _ _ (by rw [s8_size, s8_size])] at hS6
              have hb6 := below_only hb5 hon6 (Nat.le_refl _) hb5.size
              go_roundw
              case rel => exact ⟨m + 1, by omega, by go_num, by rw [hnx.out]; exact hS6, hb6⟩
              case measure => simp only [intOf]; omega
            · have em : m = N := by omega
              subst em
              have hR9 := hR'.below hbw hR'.lt
              have hS5 := hS8
              have hbelw : Below w.heap.size w wr := hbel.trans (hbw.mono hbel.size)
              have hwl : w.heap.size < wr.heap.size := hR9.lt
              have hwS : w.heap.size < wa.heap.size := hR'.lt
              go_wp2_with fail
              obtain ⟨D, hDe⟩ : ∃ D, D = wr.heap.size := ⟨_, rfl⟩
              have hDS : wa.heap.size < D := by rw [hDe]; exact hS8.lt
              have hD0 : Blk (wr.alloc (Obj.cells (arr 32 fun _ => 0) 35)) D 35 (arr 32 fun _ => 0) := by rw [hDe]; exact Blk.new _ _ _
              have hS6 := hS8.alloc (Obj.cells (arr 32 fun _ => 0) 35)
              have hR6 := hR9.alloc (Obj.cells (arr 32 fun _ => 0) 35)
              have hb6 := hbelw.alloc hbelw.size (Obj.cells (arr 32 fun _ => 0) 35)
              rw [← hDe]
              clear hS8 hR9 hR' hbelw hbw hT' hcp' hDe hb hbel hS5
              have Hq := Hsha
              generalize hashN K0 H0 (pad bs) m = q at *
              refine wp_at (fun W => Blk W D 35 (arr 32 fun p => if p < 0 then outB q p else 0) ∧ Blk W wa.heap.size 125 (q.list.map v32).toArray ∧ Blk W w.heap.size 35 (arr 32 fun _ => 0) ∧ Below w.heap.size w W) ⟨hD0, hS6, hR6, hb6⟩ ?_
              clear hD0 hS6 hR6 hb6
              rintro wz ⟨hD, hS5, hR5, hbel5⟩
              go_loopw [11] (fun i wr => ∃ j : Nat, j ≤ 32 ∧ i = .int .i64 j ∧ Blk wr D 35 (arr 32 fun p => if p < j then outB q p else 0) ∧ Blk wr wa.heap.size 125 (q.list.map v32).toArray ∧ Blk wr w.heap.size 35 (arr 32 fun _ => 0) ∧ Below w.heap.size w wr) (fun i _ => 32 - (intOf i).toNat)
              case atStart => exact ⟨0, by omega, rfl, hD, hS5, hR5, hbel5⟩
              case round =>
                clear hD hS5 hR5 hbel5
                obtain ⟨l, hl, rfl, hD, hS5, hR5, hbel5⟩ := hrel
                by_cases hl32 : l < 32
                · have cS := hS5.cell (l / 4)
                  rw [list_at q (l / 4) (by omega)] at cS
                  have cD := hD.cell l
                  rw [arr_at _ _ _ hl32] at cD
                  have fD := hD.frozen l
                  have ei : ((l : Int) / 4).toNat = l / 4 := by omega
                  go_wp2
                  go_roundw
                  case rel =>
                    have hstep := hD.set l (v8 (outB q l))
                    rw [arr_set, arr_congr 32 _ (fun p => if p < l + 1 then outB q p else 0) (fun p _ => by
                      by_cases h1 : p = l
                      · rw [if_pos h1, if_pos (by omega), h1]
                      · rw [if_neg h1]
                        by_cases h2 : p < l
                        · rw [if_pos h2, if_pos (by omega)]
                        · rw [if_neg h2, if_neg (by omega)])] at hstep
                    refine ⟨l + 1, by omega, by go_num, ?_, hS5.far (p := ⟨D, _, none⟩) (by show _ ≠ D; omega) _, hR5.far (p := ⟨D, _, none⟩) (by show _ ≠ D; omega) _, hbel5.setCell (p := ⟨D, _, none⟩) (by show _ ≤ D; omega) _⟩
                    rw [show (q.list[l / 4]?.getD 0) = q.list.getD (l / 4) 0 from rfl, outB_val]
                    exact hstep
                  case measure => simp [intOf]; omega
                · have el : l = 32 := by omega
                  rw [el] at hD
                  clear el
                  have hDf : arr 32 (fun p => if p < 32 then outB q p else 0) = arr 32 (outB q) := arr_congr 32 _ _ fun p hp => if_pos hp
                  rw [hDf] at hD
                  clear hDf
                  go_wp2_with (first
                    | (refine wpList_load_row rfl 35 (.tmp 10) rfl D rfl _ _ _ _ hD Tryd.underlying35 rfl (by kernel_rfl) ?_)
                    | (refine wpList_storeArr rfl rfl 35 (.tmp 4) (.tmp 75) rfl w.heap.size rfl 32 (outB q) _ rfl _ hR5 (by kernel_rfl) ?_; intro w6 hR6 hon6))
                  have hb6 := below_only hbel5 hon6 (Nat.le_refl _) hbel5.size
                  refine bodyPost_ret (results_cell_row (p := 4) (ty := 35) rfl _ _ w.heap.size _ _ _ _ rfl hR6 Tryd.underlying35 rfl (by kernel_rfl)) rfl ⟨?_, hb6⟩
                  rw [Hq.out, outBytes_dat]
    · have h56 : ¬ (bs.length + 1 + k) % 64 = 56 := fun h => hlt ((zeros_iff bs.length k hk).1 h)
      have hnn : ¬ (((bs.length + 1 + k : Nat) : Int) % 64 = 56) := by omega
      have s3 := Lib.hid (show ((padZ bs k).map v8).length + 1 ≤ maxLen by rw [hml]; unfold maxLen; omega)
      have s4 := Lib.hid (show (((padZ bs k).map v8).length + 1) * 1 ≤ 140737488355328 by rw [hml]; omega)
      have hbt : w.heap.size + 1 ≤ (wr.alloc (Obj.cells #[v8 0] 5)).heap.size := Nat.le_trans hbs (below_new1 wr _).size
      rw [hml] at hown
      have hown' : wr.ownsRow (w.heap.size + 1) 5 1 (.slice A2 (bs.length + 1 + k) c2) ((padZ bs k).map v8).length ((padZ bs k).map v8) := by rw [hml]; exact hown
      rw [hml]
      have hk' : k < zeros bs.length := by omega
      clear hlen h56 hk hown hrd
      go_wp2_with (first
        | (at_builtin; refine wpList_appendR rfl (.tmp 21) (.tmp 22) _ rfl (w.heap.size + 1) 5 i0 _ 1 Tryd.underlying22 hi hz0 hz1 hz2 rfl _ _ rfl (own_below hown' (below_new1 wr _)) (wr.heap.size + 1) (some ⟨wr.heap.size, 0, none⟩) 1 1 [v8 0] rfl (show Reads (wr.alloc (Obj.cells #[v8 0] 5)) (wr.heap.size + 1) (some ⟨wr.heap.size, 0, none⟩) [v8 0] from Reads.of_blk (Blk.new wr 5 #[v8 0]) (by omega) 0) rfl (fun u hu => by rw [List.mem_singleton] at hu; subst hu; rfl) s3.out s4.out hbt ?_; intro u3 w3 hown3 hg3 hat3; have hb3 := below_own (hb.trans ((below_new1 wr _).mono hbs)) (own_below hown' (below_new1 wr _)) hg3 hbt))
      go_roundw
      case rel =>
        obtain ⟨A3, c3, rfl, _⟩ := Reads.own hown3
        refine ⟨k + 1, by omega, ?_, ?_, hb3⟩
        · simp only [lenOf, List.length_append, hml]; simp; omega
        · rw [padZ_succ, List.map_append]; exact hown3
      case measure =>
        obtain ⟨A3, c3, rfl, _⟩ := Reads.own hown3
        simp only [lenOf, List.length_append, hml]
        have hz64 := hzl
        show bs.length + 100 - (bs.length + 1 + k + 1) < bs.length + 100 - (bs.length + 1 + k)
        omega
end Go.Proofs.YtfggbfnnibpohaaDoor

/- Rows of the call's own: append of bytes; rows that are apart. No condition. -/
namespace Go.Proofs.YtfggbfnnibpohaaDoor
open Go.RowKit
/-- append of one byte, out of a slice literal, onto a row of the call's own -/
theorem wpList_append1 {wr : World} {ops : Array Oper} {rest : List Oper} {o : Oper} {a : Act} {Q : Exit → Act → World → Prop} (hgd : o.guard = none) (s x : Operand)
    (ho : o.op = .call { callee := .builtin .append, args := #[s, x], argTypes := #[22, 22] })
    (base : Nat) (v : Value) (xs : List Value) (hs : a.eval s = v) (hown : wr.ownsRow base 5 1 v xs.length xs) (u : Value) (hu : u.oneCell' = true)
    (hx : a.eval x = .slice (some ⟨wr.heap.size, 0, none⟩) 1 1) (hlen : xs.length + 1 ≤ 140737488355328) (hbase : base ≤ wr.heap.size) (w0 : World) (hbel : Below base w0 wr)
    (h : ∀ v' w', w'.ownsRow base 5 1 v' (xs ++ [u]).length (xs ++ [u]) → Below base w0 w' → wpList Tryd.prog ops Q rest (a.put o.dst v') w') :
    wpList Tryd.prog ops Q (o :: rest) a (wr.alloc (Obj.cells #[u] 5)) := by
  obtain ⟨i0, hi, hz0, hz1, hz2⟩ := info_parts (by kernel_rfl : (Tryd.prog.info? 5).map (fun i => (i.zero, i.size, i.bytes)) = some (some (.int .u8 0), 1, 1))
  have hbt : base ≤ (wr.alloc (Obj.cells #[u] 5)).heap.size := Nat.le_trans hbase (below_new1 wr _).size
  refine wpList_appendR hgd s x _ ho base 5 i0 _ 1 Tryd.underlying22 hi hz0 hz1 hz2 rfl v xs hs (own_below hown (below_new1 wr _)) (wr.heap.size + 1) (some ⟨wr.heap.size, 0, none⟩) 1 1 [u] hx (show Reads (wr.alloc (Obj.cells #[u] 5)) (wr.heap.size + 1) (some ⟨wr.heap.size, 0, none⟩) [u] from Reads.of_blk (Blk.new wr 5 #[u]) (by omega) 0) rfl (fun u' hu' => by rw [List.mem_singleton] at hu'; subst hu'; exact hu) (by unfold maxLen; omega) (by omega) hbt ?_
  intro v' w' hown' hg hat
  exact h v' w' hown' (below_own (hbel.trans ((below_new1 wr _).mono hbase)) (own_below hown (below_new1 wr _)) hg hbt)
theorem own_grown {w w' : World} {base : Nat} {e : TypeId} {size n : Nat} {v : Value} {xs : List Value} {row : Option Nat} (h : w.ownsRow base e size v n xs) (hg : w.grownBy w' row) (hne : ∀ g, v.ownBlock = some g → row ≠ some g) : w'.ownsRow base e size v n xs := by
  refine ⟨h.1, ?_⟩
  rcases h.2 with h0 | ⟨g, cap, cur, hv, hbs, hh, hrest⟩
  · exact .inl h0
  · exact .inr ⟨g, cap, cur, hv, hbs, Blk.grown (show Blk w g e cur from hh) hg (hne g (by rw [hv]; rfl)).symm, hrest⟩
theorem own_lt {w : World} {base : Nat} {e : TypeId} {size n : Nat} {v : Value} {xs : List Value} (h : w.ownsRow base e size v n xs) : ∀ g, v.ownBlock = some g → g < w.heap.size := by
  intro g hg
  rcases h.2 with ⟨rfl, _⟩ | ⟨g', cap, cur, hv, hbs, hh, hrest⟩
  · cases hg
  · rw [hv] at hg; cases hg; exact Blk.lt (show Blk w g' e cur from hh)
/-- two rows lie apart -/
def Apart (u v : Value) : Prop := ∀ g, u.ownBlock = some g → v.ownBlock ≠ some g
theorem Apart.symm {u v : Value} (h : Apart u v) : Apart v u := fun g h1 h2 => h g h2 h1
theorem own_cell {w : World} {base g off n cap m : Nat} {e : TypeId} {xs : List Value} (h : w.ownsRow base e 1 (.slice (some ⟨g, off, none⟩) n cap) m xs) (j : Nat) (u : Value) (hj : xs[j]? = some u) : w.cell? ⟨g, off + j, none⟩ = some u := by
  obtain ⟨A, c, he, _, _, hr⟩ := Reads.own h
  injection he with he _ _
  subst he
  obtain ⟨b, o, he2, _, hc⟩ := hr (by cases xs with | nil => simp at hj | cons a l => simp)
  injection he2 with he2
  injection he2 with e1 e2 _
  subst e1; subst e2
  exact hc j u hj
/-- append of one byte, with what it leaves of the other rows -/
theorem wpList_append1D {wr : World} {ops : Array Oper} {rest : List Oper} {o : Oper} {a : Act} {Q : Exit → Act → World → Prop} (hgd : o.guard = none) (s x : Operand)
    (ho : o.op = .call { callee := .builtin .append, args := #[s, x], argTypes := #[22, 22] })
    (base : Nat) (v : Value) (xs : List Value) (hs : a.eval s = v) (hown : wr.ownsRow base 5 1 v xs.length xs) (u : Value) (hu : u.oneCell' = true)
    (hx : a.eval x = .slice (some ⟨wr.heap.size, 0, none⟩) 1 1) (hlen : xs.length + 1 ≤ 140737488355328) (hbase : base ≤ wr.heap.size) (w0 : World) (hbel : Below base w0 wr)
    (h : ∀ v' w', w'.ownsRow base 5 1 v' (xs ++ [u]).length (xs ++ [u]) → Below base w0 w' → (∀ v2 n2 ys, wr.ownsRow base 5 1 v2 n2 ys → Apart v v2 → w'.ownsRow base 5 1 v2 n2 ys ∧ Apart v' v2) → wpList Tryd.prog ops Q rest (a.put o.dst v') w') :
    wpList Tryd.prog ops Q (o :: rest) a (wr.alloc (Obj.cells #[u] 5)) := by
  obtain ⟨i0, hi, hz0, hz1, hz2⟩ := info_parts (by kernel_rfl : (Tryd.prog.info? 5).map (fun i => (i.zero, i.size, i.bytes)) = some (some (.int .u8 0), 1, 1))
  have hbt : base ≤ (wr.alloc (Obj.cells #[u] 5)).heap.size := Nat.le_trans hbase (below_new1 wr _).size
  refine wpList_appendR hgd s x _ ho base 5 i0 _ 1 Tryd.underlying22 hi hz0 hz1 hz2 rfl v xs hs (own_below hown (below_new1 wr _)) (wr.heap.size + 1) (some ⟨wr.heap.size, 0, none⟩) 1 1 [u] hx (show Reads (wr.alloc (Obj.cells #[u] 5)) (wr.heap.size + 1) (some ⟨wr.heap.size, 0, none⟩) [u] from Reads.of_blk (Blk.new wr 5 #[u]) (by omega) 0) rfl (fun u' hu' => by rw [List.mem_singleton] at hu'; subst hu'; exact hu) (by unfold maxLen; omega) (by omega) hbt ?_
  intro v' w' hown' hg hat
  refine h v' w' hown' (below_own (hbel.trans ((below_new1 wr _).mono hbase)) (own_below hown (below_new1 wr _)) hg hbt) ?_
  intro v2 n2 ys h2 hap
  refine ⟨own_grown (own_below h2 (below_new1 wr _)) hg (fun g hg2 hg1 => hap g hg1 hg2), fun g hg1 hg2 => ?_⟩
  rcases hat with hat | hat
  · exact hap g (by rw [← hat]; exact hg1) hg2
  · have := own_lt h2 g hg2
    rw [hat] at hg1
    injection hg1 with hg1
    have hs2 : (wr.alloc (Obj.cells #[u] 5)).heap.size = wr.heap.size + 1 := by simp
    omega
/-- append of a slice that is read, onto a row of the call's own -/
theorem wpList_appendS {wr : World} {ops : Array Oper} {rest : List Oper} {o : Oper} {a : Act} {Q : Exit → Act → World → Prop} (hgd : o.guard = none) (s x : Operand)
    (ho : o.op = .call { callee := .builtin .append, args := #[s, x], argTypes := #[22, 22] })
    (base : Nat) (v : Value) (xs bs : List UInt8) (hs : a.eval s = v) (hown : wr.ownsRow base 5 1 v (xs.map v8).length (xs.map v8))
    (B : Nat) (A : Option Addr) (m c : Nat) (hx : a.eval x = .slice A m c) (hm : bs.length = m) (hr : Reads wr B A (bs.map v8)) (hlen : xs.length + bs.length ≤ 140737488355328) (hbase : base ≤ wr.heap.size) (w0 : World) (hbel : Below base w0 wr)
    (h : ∀ v' w', w'.ownsRow base 5 1 v' ((xs ++ bs).map v8).length ((xs ++ bs).map v8) → Below base w0 w' → wpList Tryd.prog ops Q rest (a.put o.dst v') w') :
    wpList Tryd.prog ops Q (o :: rest) a wr := by
  obtain ⟨i0, hi, hz0, hz1, hz2⟩ := info_parts (by kernel_rfl : (Tryd.prog.info? 5).map (fun i => (i.zero, i.size, i.bytes)) = some (some (.int .u8 0), 1, 1))
  refine wpList_appendR hgd s x _ ho base 5 i0 _ 1 Tryd.underlying22 hi hz0 hz1 hz2 rfl v (xs.map v8) hs hown B A m c (bs.map v8) hx hr (by rw [List.length_map]; exact hm) (oneCell_v8 _) (by unfold maxLen; rw [List.length_map]; omega) (by rw [List.length_map]; omega) hbase ?_
  intro v' w' hown' hg hat
  rw [← List.map_append] at hown'
  exact h v' w' hown' (below_own hbel hown hg hbase)
/-- append of a slice that is read, with what it leaves of the other rows -/
theorem wpList_appendSD {wr : World} {ops : Array Oper} {rest : List Oper} {o : Oper} {a : Act} {Q : Exit → Act → World → Prop} (hgd : o.guard = none) (s x : Operand)
    (ho : o.op = .call { callee := .builtin .append, args := #[s, x], argTypes := #[22, 22] })
    (base : Nat) (v : Value) (xs bs : List UInt8) (hs : a.eval s = v) (hown : wr.ownsRow base 5 1 v (xs.map v8).length (xs.map v8))
    (B : Nat) (A : Option Addr) (m c : Nat) (hx : a.eval x = .slice A m c) (hm : bs.length = m) (hr : Reads wr B A (bs.map v8)) (hlen : xs.length + bs.length ≤ 140737488355328) (hbase : base ≤ wr.heap.size) (w0 : World) (hbel : Below base w0 wr)
    (h : ∀ v' w', w'.ownsRow base 5 1 v' ((xs ++ bs).map v8).length ((xs ++ bs).map v8) → Below base w0 w' → (∀ v2 n2 ys, wr.ownsRow base 5 1 v2 n2 ys → Apart v v2 → w'.ownsRow base 5 1 v2 n2 ys ∧ Apart v' v2) → wpList Tryd.prog ops Q rest (a.put o.dst v') w') :
    wpList Tryd.prog ops Q (o :: rest) a wr := by
  obtain ⟨i0, hi, hz0, hz1, hz2⟩ := info_parts (by kernel_rfl : (Tryd.prog.info? 5).map (fun i => (i.zero, i.size, i.bytes)) = some (some (.int .u8 0), 1, 1))
  refine wpList_appendR hgd s x _ ho base 5 i0 _ 1 Tryd.underlying22 hi hz0 hz1 hz2 rfl v (xs.map v8) hs hown B A m c (bs.map v8) hx hr (by rw [List.length_map]; exact hm) (oneCell_v8 _) (by unfold maxLen; rw [List.length_map]; omega) (by rw [List.length_map]; omega) hbase ?_
  intro v' w' hown' hg hat
  rw [← List.map_append] at hown'
  refine h v' w' hown' (below_own hbel hown hg hbase) fun v2 n2 ys h2 hap => ⟨own_grown h2 hg (fun g hg2 hg1 => hap g hg1 hg2), fun g hg1 hg2 => ?_⟩
  rcases hat with hat | hat
  · exact hap g (by rw [← hat]; exact hg1) hg2
  · have := own_lt h2 g hg2
    rw [hat] at hg1
    injection hg1 with hg1
    omega
theorem own_emptyB (w : World) (base : Nat) (hb : base ≤ w.heap.size) : (w.alloc (.cells #[] 5)).ownsRow base 5 1 (.slice (some ⟨w.heap.size, 0, none⟩) 0 0) (([] : List UInt8).map v8).length (([] : List UInt8).map v8) :=
  own_empty w base 5 hb
theorem own_slice {w : World} {base s n : Nat} {e : TypeId} {v : Value} {xs : List Value} (h : w.ownsRow base e s v n xs) : ∃ A c, v = .slice A n c := by
  rcases h.2 with ⟨rfl, h0⟩ | ⟨g, cap, cur, e, _⟩
  · exact ⟨none, 0, by rw [h0]⟩
  · exact ⟨_, cap, e⟩
theorem own_diff {w : World} {base s n g : Nat} {e t : TypeId} {v : Value} {xs : List Value} {cs : Array Value} (h : w.ownsRow base e s v n xs) (hg : Blk w g t cs) (ht : t ≠ e) : ∀ g', v.ownBlock = some g' → some g ≠ some g' := by
  intro g' h1 h2
  injection h2 with h2
  subst h2
  rcases h.2 with ⟨rfl, _⟩ | ⟨b, cap, cur, rfl, _, hb, _⟩
  · cases h1
  · have e3 : b = g := by injection h1
    subst e3
    unfold Blk at hg
    rw [hg] at hb
    injection hb with hb
    injection hb with _ hb
    exact ht hb
end Go.Proofs.YtfggbfnnibpohaaDoor

/- Rows of the call's own that are cut from below and appended to; frames by the types of blocks. No condition. -/
namespace Go.Proofs.YtfggbfnnibpohaaDoor
open Go Go.RowKit
theorem own_baseP {w : World} {b b' s n : Nat} {e : TypeId} {v : Value} {xs : List Value} (h : w.ownsRow b' e s v n xs) (hb : b ≤ b') : w.ownsRow b e s v n xs := by
  refine ⟨h.1, ?_⟩
  rcases h.2 with h0 | ⟨g', cap, cur, h1, h2, h3⟩
  · exact .inl h0
  · exact .inr ⟨g', cap, cur, h1, Nat.le_trans hb h2, h3⟩
/-- a row of the call's own (one cell an element), cut from below -/
def Sli (w : World) (B : Nat) (t : TypeId) (v : Value) (vs : List Value) : Prop :=
  (v = .slice none 0 0 ∧ vs = []) ∨ ∃ g off cap cur, v = .slice (some ⟨g, off, none⟩) vs.length cap ∧ B ≤ g ∧ w.heap[g]? = some (.cells cur t (0, 0)) ∧ vs.length ≤ cap ∧ cap ≤ maxLen ∧ off + cap = cur.size ∧ (cur.toList.drop off).take vs.length = vs
section
variable {w w' : World} {B : Nat} {t : TypeId} {v : Value} {vs : List Value}
theorem Sli.nil_ : Sli w B t (.slice none 0 0) [] := .inl ⟨rfl, rfl⟩
theorem Sli.keep (h : Sli w B t v vs) (hk : ∀ g, v.ownBlock = some g → w'.heap[g]? = w.heap[g]?) : Sli w' B t v vs := by
  rcases h with h | ⟨g, off, cap, cur, rfl, hb, hg, hr⟩
  · exact .inl h
  · exact .inr ⟨g, off, cap, cur, rfl, hb, (hk g rfl).trans hg, hr⟩
theorem Sli.lt (h : Sli w B t v vs) : ∀ g, v.ownBlock = some g → B ≤ g ∧ g < w.heap.size := by
  intro g hg
  rcases h with ⟨rfl, _⟩ | ⟨g', off, cap, cur, rfl, hb, hh, _⟩
  · cases hg
  · cases hg; exact ⟨hb, Blk.lt (show Blk w g' t cur from hh)⟩
theorem Sli.below (h : Sli w B t v vs) (hb : Below w.heap.size w w') : Sli w' B t v vs := h.keep fun g hg => hb.block g (h.lt g hg).2
theorem Sli.form (h : Sli w B t v vs) : ∃ A c, v = .slice A vs.length c ∧ vs.length ≤ c ∧ c ≤ 9223372036854775807 := by
  rcases h with ⟨rfl, rfl⟩ | ⟨g, off, cap, cur, rfl, hb, hg, h1, h2, _⟩
  · exact ⟨none, 0, rfl, Nat.le_refl _, by decide⟩
  · exact ⟨_, cap, rfl, h1, by unfold maxLen at h2; omega⟩
theorem Sli.form1 {x : Value} (h : Sli w B t v (vs ++ [x])) : ∃ A c, v = .slice A (vs.length + 1) c ∧ vs.length + 1 ≤ c ∧ c ≤ 9223372036854775807 := by
  obtain ⟨A, c, h1, h2, h3⟩ := h.form
  rw [List.length_append, List.length_cons, List.length_nil] at h1 h2
  exact ⟨A, c, h1, h2, h3⟩
theorem Sli.type (h : Sli w B t v vs) : ∀ g, v.ownBlock = some g → ∃ cs, w.heap[g]? = some (.cells cs t (0, 0)) := by
  intro g hg
  rcases h with ⟨rfl, _⟩ | ⟨g', off, cap, cur, rfl, hb, hh, _⟩
  · cases hg
  · cases hg; exact ⟨cur, hh⟩
theorem Sli.cell {A : Option Addr} {n c : Nat} (h : Sli w B t (.slice A n c) vs) (k : Nat) (u : Value) (hk : vs[k]? = some u) : ∃ g off, A = some ⟨g, off, none⟩ ∧ B ≤ g ∧ g < w.heap.size ∧ ∀ j x, vs[j]? = some x → w.cell? ⟨g, off + j, none⟩ = some x := by
  rcases h with ⟨_, rfl⟩ | ⟨g, off, cap, cur, hv, hb, hg, hl, hm, hs, ht⟩
  · simp at hk
  · injection hv with hv _ _
    refine ⟨g, off, hv, hb, Blk.lt (show Blk w g t cur from hg), fun j x hj => ?_⟩
    have hjl := (List.getElem?_eq_some_iff.1 hj).1
    rw [cell_of_row w g (off + j) cur t (0, 0) hg, ← hj, ← ht, List.getElem?_take, if_pos hjl, List.getElem?_drop]
    simp
/-- x[1:] -/
theorem Sli.tail {A : Option Addr} {n c : Nat} {x y : Value} {r : List Value} (h : Sli w B t (.slice A n c) (x :: y :: r)) : Sli w B t (.slice (if c = 1 then A else A.map (·.add 1)) (r.length + 1) (c - 1)) (y :: r) ∧ n = r.length + 2 ∧ r.length + 2 ≤ c := by
  rcases h with ⟨_, h⟩ | ⟨g, off, cap, cur, hv, hb, hg, hl, hm, hs, ht⟩
  · cases h
  · injection hv with h1 h2 h3
    subst h1; subst h3
    simp only [List.length_cons] at hl h2
    refine ⟨.inr ⟨g, off + 1, c - 1, cur, ?_, hb, hg, by simp only [List.length_cons]; omega, by omega, by omega, ?_⟩, by omega, by omega⟩
    · rw [if_neg (by omega)]; rfl
    · have h4 : (cur.toList.drop (off + 1)).take (r.length + 1) = (((cur.toList.drop off).take (r.length + 2)).drop 1) := by
        rw [List.drop_take, List.drop_drop]; rfl
      simp only [List.length_cons] at ht ⊢
      rw [h4, ht]; rfl
end
section
variable {P : Program} (w : World)
theorem run_append_room_off (t ty e : TypeId) (i : TypeInfo) (ht : P.underlying t = some (.slice e)) (hi : P.info? e = some i) (hsz : i.size = 1)
    (g off sLen sCap : Nat) (cur : Array Value) (hg : w.heap[g]? = some (.cells cur e (0, 0)))
    (a : Addr) (c : Nat) (u : Value) (hu : w.cell? a = some u) (h1 : u.oneCell' = true) (hroom : sLen + 1 ≤ sCap) (hfit : off + sLen + 1 ≤ cur.size) :
    (Builtin.append_ #[t, t] ty #[.slice (some ⟨g, off, none⟩) sLen sCap, .slice (some a) 1 c]).run P w =
      .ok (.slice (some ⟨g, off, none⟩) (sLen + 1) sCap) (w.setRow g (cur.toList.take (off + sLen) ++ [u] ++ cur.toList.drop (off + sLen + 1)).toArray) := by
  have hnews : ∀ j x, [u][j]? = some x → w.cell? (a.add j) = some x := by
    intro j x hj
    match j, hj with
    | 0, hj => simp at hj; subst hj; simpa [Addr.add] using hu
  have hf := run_firstCells_some (P := P) w i.size 1 a 1 c [u] (by simp [hsz]) hnews
  have hst := run_storeCells_at P g (off + sLen) e [u] 0 cur w hg (by simpa using hfit) (by simpa using h1)
  simp only [Nat.add_zero] at hst
  have ha : (⟨g, off, none⟩ : Addr).add (sLen * i.size) = ⟨g, off + sLen, none⟩ := by
    rw [hsz, Nat.mul_one]
    unfold Addr.add; split
    · rename_i e; subst e; rfl
    · rfl
  simp [Builtin.append_, run_underlying ht, sizeOf, typeInfo, hi, Builtin.lenOf, hroom, hf, ha, hst]
theorem run_append_sli (B : Nat) (t ty e : TypeId) (i : TypeInfo) (z : Value) (bytes : Nat) (ht : P.underlying t = some (.slice e)) (hi : P.info? e = some i) (hz : i.zero = some z)
    (hsize : i.size = 1) (hby : i.bytes = bytes) (hzs : z.cells.size = 1) (v : Value) (vs : List Value) (hS : Sli w B e v vs)
    (a : Addr) (c : Nat) (u : Value) (hu : w.cell? a = some u) (h1 : u.oneCell' = true) (hb : (vs.length + 1) * bytes ≤ 140737488355328) (hn : vs.length + 1 ≤ 9223372036854775807) (hB : B ≤ w.heap.size) :
    ∃ v' w', (Builtin.append_ #[t, t] ty #[v, .slice (some a) 1 c]).run P w = .ok v' w' ∧ Sli w' B e v' (vs ++ [u]) ∧ w.grownBy w' v.ownBlock ∧ (v'.ownBlock = v.ownBlock ∨ v'.ownBlock = some w.heap.size) := by
  subst hby
  have hnews : ∀ j x, [u][j]? = some x → w.cell? (a.add j) = some x := by
    intro j x hj
    match j, hj with
    | 0, hj => simp at hj; subst hj; simpa [Addr.add] using hu
  have grown : ∀ (old : Nat), old < vs.length + 1 → ∀ (row : Option Nat),
      Sli (w.drew.alloc (.cells (vs.toArray ++ [u].toArray ++ Builtin.zeroCells z.cells (grownCap w (vs.length + 1) old e - (vs.length + 1))) e)) B e (.slice (some ⟨w.heap.size, 0, none⟩) (vs.length + 1) (grownCap w (vs.length + 1) old e)) (vs ++ [u]) ∧
      w.grownBy (w.drew.alloc (.cells (vs.toArray ++ [u].toArray ++ Builtin.zeroCells z.cells (grownCap w (vs.length + 1) old e - (vs.length + 1))) e)) row := by
    intro old ho row
    have hge := grownCap_ge w (vs.length + 1) old e
    have hcm : grownCap w (vs.length + 1) old e ≤ maxLen := grownCap_le_maxLen w (vs.length + 1) old e (by unfold maxLen; omega)
    refine ⟨.inr ⟨w.heap.size, 0, _, _, by rw [List.length_append]; rfl, hB, heap_alloc_new w.drew _, by rw [List.length_append]; exact hge, hcm, ?_, ?_⟩, ⟨rfl, rfl, rfl, by simp, fun k hk _ => Below.heap_alloc w.drew _ k hk⟩⟩
    · simp only [Array.size_append, List.size_toArray, size_zeroCells, hzs, List.length_cons, List.length_nil]
      omega
    · simp only [Array.toList_append, List.append_assoc, List.drop_zero]
      rw [← List.append_assoc]
      exact List.take_left
  rcases hS with ⟨rfl, rfl⟩ | ⟨g, off, cap, cur, rfl, hbg, hg, hnc, hcm, hcs, htake⟩
  · have hr := run_append_nil (P := P) w t ty e i z ht hi hz a 1 c [u] (by simp [hsize]) hnews (by decide) (by decide) (by simp at hb ⊢; omega)
    have hgr := grown 0 (by simp) (Value.ownBlock (.slice none 0 0))
    simp only [List.length_nil, Nat.zero_add, List.nil_append, Array.empty_append] at hgr ⊢
    exact ⟨_, _, hr, hgr.1, hgr.2, .inr rfl⟩
  · by_cases hroom : vs.length + 1 ≤ cap
    · have hr := run_append_room_off (P := P) w t ty e i ht hi hsize g off vs.length cap cur hg a c u hu h1 hroom (by omega)
      refine ⟨_, _, hr, .inr ⟨g, off, cap, _, by rw [List.length_append]; rfl, hbg, setRow_heap w g cur _ e _ hg, by rw [List.length_append]; exact hroom, hcm, ?_, ?_⟩, only_setRow w g _, .inl rfl⟩
      · simp only [List.size_toArray, List.length_append, List.length_take, List.length_drop, Array.length_toList, List.length_cons, List.length_nil]
        omega
      · have hcl : cur.toList.length = cur.size := Array.length_toList
        have hl : (cur.toList.take (off + vs.length)).length = off + vs.length := by rw [List.length_take]; omega
        simp only []
        rw [List.append_assoc, List.drop_append_of_le_length (by omega)]
        have e1 : (cur.toList.take (off + vs.length)).drop off = vs := by
          rw [List.drop_take, Nat.add_sub_cancel_left]
          exact htake
        rw [e1, ← List.append_assoc]
        exact List.take_left
    · have holds : ∀ j x, vs[j]? = some x → w.cell? ((⟨g, off, none⟩ : Addr).add j) = some x := by
        intro j x hj
        have hjl := (List.getElem?_eq_some_iff.1 hj).1
        have ha : (⟨g, off, none⟩ : Addr).add j = ⟨g, off + j, none⟩ := by
          unfold Addr.add; split
          · rename_i e; subst e; rfl
          · rfl
        rw [ha, cell_of_row w g (off + j) cur e (0, 0) hg, ← hj, ← htake, List.getElem?_take, if_pos hjl, List.getElem?_drop]
        simp
      have hr := run_append_grow (P := P) w t ty e i z ht hi hz ⟨g, off, none⟩ vs.length cap vs (by rw [hsize, Nat.mul_one]) holds a 1 c [u] (by simp [hsize]) hnews (by omega) (by omega) (growslice_fits (by omega) hb)
      have hgr := grown cap (by omega) (Value.ownBlock (.slice (some ⟨g, off, none⟩) vs.length cap))
      exact ⟨_, _, hr, hgr.1, hgr.2, .inr rfl⟩
/-- append of one element onto such a row -/
theorem wpList_appendSli {ops : Array Oper} {rest : List Oper} {o : Oper} {a : Act} {Q : Exit → Act → World → Prop} (hgd : o.guard = none) (s x : Operand) (t : TypeId)
    (ho : o.op = .call { callee := .builtin .append, args := #[s, x], argTypes := #[t, t] })
    (B : Nat) (e : TypeId) (i : TypeInfo) (z : Value) (bytes : Nat) (ht : P.underlying t = some (.slice e)) (hi : P.info? e = some i) (hz : i.zero = some z)
    (hsize : i.size = 1) (hby : i.bytes = bytes) (hzs : z.cells.size = 1) (v : Value) (vs : List Value) (hs : a.eval s = v) (hS : Sli w B e v vs)
    (ad : Addr) (c : Nat) (u : Value) (hx : a.eval x = .slice (some ad) 1 c) (hu : w.cell? ad = some u) (h1 : u.oneCell' = true) (hb : (vs.length + 1) * bytes ≤ 140737488355328) (hn : vs.length + 1 ≤ 9223372036854775807) (hB : B ≤ w.heap.size)
    (h : ∀ v' w', Sli w' B e v' (vs ++ [u]) → w.grownBy w' v.ownBlock → (v'.ownBlock = v.ownBlock ∨ v'.ownBlock = some w.heap.size) → wpList P ops Q rest (a.put o.dst v') w') : wpList P ops Q (o :: rest) a w := by
  refine wpList_plain hgd fun K hK => ?_
  obtain ⟨v', w', hrun, h2, h3, h4⟩ := run_append_sli (P := P) w B t o.type e i z bytes ht hi hz hsize hby hzs v vs hS ad c u hu h1 hb hn hB
  unfold Oper.wp execOp
  simp only [ho, resolve, invoke, builtin, Sem.run_bind, Sem.run_pure, Result.andThen_ok, List.map_toArray, List.map_cons, List.map_nil, hs, hx, hrun]
  exact hK _ _ (h v' w' h2 h3 h4)
end
/-- All blocks but those of two types stay as they are. -/
structure Ty2 (t1 t2 : TypeId) (w w' : World) : Prop where
  os : w'.os = w.os
  tape : w'.tape = w.tape
  output : w'.output = w.output
  size : w.heap.size ≤ w'.heap.size
  block : ∀ (g : Nat) (cs : Array Value) (t : TypeId) (fr : Nat × Nat), w.heap[g]? = some (Obj.cells cs t fr) → t ≠ t1 → t ≠ t2 → w'.heap[g]? = w.heap[g]?
section
variable {t1 t2 : TypeId} {w w' w'' : World}
theorem Ty2.refl (w : World) : Ty2 t1 t2 w w := ⟨rfl, rfl, rfl, Nat.le_refl _, fun _ _ _ _ _ _ _ => rfl⟩
theorem Ty2.trans (h : Ty2 t1 t2 w w') (k : Ty2 t1 t2 w' w'') : Ty2 t1 t2 w w'' :=
  ⟨k.os.trans h.os, k.tape.trans h.tape, k.output.trans h.output, Nat.le_trans h.size k.size, fun g cs t fr hg h1 h2 => by
    have e1 := h.block g cs t fr hg h1 h2
    exact (k.block g cs t fr (e1.trans hg) h1 h2).trans e1⟩
theorem Ty2.of_below (h : Below w.heap.size w w') : Ty2 t1 t2 w w' :=
  ⟨h.os, h.tape, h.output, h.size, fun g cs t fr hg _ _ => h.block g (by
    rcases Nat.lt_or_ge g w.heap.size with h' | h'
    · exact h'
    · rw [Array.getElem?_eq_none h'] at hg; cases hg)⟩
theorem Ty2.of_only {g : Nat} {u : TypeId} {cs : Array Value} (h : w.grownBy w' (some g)) (hb : Blk w g u cs) (hu : u = t1 ∨ u = t2) : Ty2 t1 t2 w w' :=
  ⟨h.os, h.tape, h.output, h.size, fun g' cs' t fr hg h1 h2 => h.block g' (by
    rcases Nat.lt_or_ge g' w.heap.size with h' | h'
    · exact h'
    · rw [Array.getElem?_eq_none h'] at hg; cases hg) (fun e => by
      injection e with e
      subst e
      have : some (Obj.cells cs' t fr) = some (Obj.cells cs u (0, 0)) := hg.symm.trans hb
      injection this with this
      injection this with _ h3 _
      subst h3
      rcases hu with hu | hu
      · exact h1 hu
      · exact h2 hu)⟩
theorem Ty2.blk (h : Ty2 t1 t2 w w') {g : Nat} {u : TypeId} {cs : Array Value} (hb : Blk w g u cs) (h1 : u ≠ t1) (h2 : u ≠ t2) : Blk w' g u cs := (h.block g cs u (0, 0) hb h1 h2).trans hb
theorem Ty2.own (h : Ty2 t1 t2 w w') {base : Nat} {e : TypeId} {size n : Nat} {v : Value} {xs : List Value} (hw : w.ownsRow base e size v n xs) (h1 : e ≠ t1) (h2 : e ≠ t2) : w'.ownsRow base e size v n xs := by
  refine ⟨hw.1, ?_⟩
  rcases hw.2 with h0 | ⟨g, cap, cur, hv, hbs, hh, hrest⟩
  · exact .inl h0
  · exact .inr ⟨g, cap, cur, hv, hbs, h.blk (show Blk w g e cur from hh) h1 h2, hrest⟩
theorem Ty2.sli_only {B : Nat} {t : TypeId} {v : Value} {vs : List Value} (hS : Sli w B t v vs) (h : w.grownBy w' v.ownBlock) (ht : t = t1 ∨ t = t2) : Ty2 t1 t2 w w' := by
  rcases hS with ⟨rfl, _⟩ | ⟨g, off, cap, cur, rfl, hb, hg, _⟩
  · exact Ty2.of_below ⟨h.os, h.tape, h.output, h.size, fun i hi => h.block i hi (by simp [Value.ownBlock])⟩
  · exact Ty2.of_only h (show Blk w g t cur from hg) ht
end
/-- two blocks of unlike types -/
theorem blk_ne {w : World} {g g' : Nat} {t t' : TypeId} {cs cs' : Array Value} {fr : Nat × Nat} (h : Blk w g t cs) (h' : w.heap[g']? = some (.cells cs' t' fr)) (ht : t ≠ t') : g ≠ g' := by
  rintro rfl
  have : some (Obj.cells cs t (0, 0)) = some (Obj.cells cs' t' fr) := h.symm.trans h'
  injection this with this
  injection this with _ h3 _
  exact ht h3
theorem Sli.ne {w : World} {B g : Nat} {t t' : TypeId} {v : Value} {vs : List Value} {cs : Array Value} (hS : Sli w B t v vs) (hb : Blk w g t' cs) (ht : t' ≠ t) : some g ≠ v.ownBlock := fun e => by
  obtain ⟨cs', hc⟩ := hS.type g e.symm
  exact blk_ne hb hc ht rfl
/-- another row, where one row was written or made anew -/
theorem Sli.apart {w w' : World} {B : Nat} {t : TypeId} {v v' u : Value} {us : List Value} (hu : Sli w B t u us) (hg : w.grownBy w' v.ownBlock) (hA : Apart v u) (ho : v'.ownBlock = v.ownBlock ∨ v'.ownBlock = some w.heap.size) : Sli w' B t u us ∧ Apart v' u := by
  refine ⟨hu.keep fun q hq => hg.block q (hu.lt q hq).2 (fun e => hA q e.symm hq), fun q h1 h2 => ?_⟩
  rcases ho with ho | ho
  · exact hA q (ho ▸ h1) h2
  · rw [ho] at h1
    injection h1 with h1
    have := (hu.lt q h2).2
    omega
/-- a block that was written and holds what it held: nothing was written -/
theorem below_same {w w' : World} {g : Nat} {t : TypeId} {cs : Array Value} (h : w.grownBy w' (some g)) (hb : Blk w g t cs) (hb' : Blk w' g t cs) : Below w.heap.size w w' :=
  ⟨h.os, h.tape, h.output, h.size, fun i hi => by
    by_cases e : i = g
    · subst e; exact hb'.trans hb.symm
    · exact h.block i hi (by simp [e])⟩
end Go.Proofs.YtfggbfnnibpohaaDoor

/- A region that draws its order, by a plan, with a forced tail: what stands last (a store, mostly) waits for all else, and is walked in its order behind it. No condition. -/
namespace Go.Proofs.YtfggbfnnibpohaaDoor
open Go Go.RowKit
def Never : Exit → Act → World → Prop := fun _ _ _ => False
theorem never_out : ¬ LetsOut Never := fun ⟨_, _, h⟩ => h
section
variable {P : Program} {ops : Array Oper} {md : Region.Mode} {Q : Exit → Act → World → Prop} {S : World → Prop} {n : Nat} {L : Array Bool → Act → World → Prop}
theorem wpOp_never {i : Nat} {K : Act → World → Prop} {a : Act} {w : World} (h : wpOp P ops Never i K a w) : wpOp P ops Q i K a w := by
  unfold wpOp at *
  split
  · rename_i ho; simp only [ho] at h; exact h
  · rename_i o ho
    simp only [ho] at h
    split
    · rename_i hw
      simp only [hw, if_true] at h
      rcases h with h | h
      · refine .inl ?_
        unfold Oper.wp at *
        generalize (execOp a.eval o).run P w = r at *
        cases r with
        | ok n w' =>
          cases n <;> simp only [Oper.upon] at h ⊢ <;>
            first
              | exact h
              | exact Calls.mono h (fun e w'' he => by cases e <;> first | exact he | exact (he : False).elim | exact (never_out he).elim)
              | exact Rows.mono h (fun _ _ he => he)
        | halt x w' => cases x <;> simp only [Oper.upon] at h ⊢ <;> first | exact h | exact (h : False).elim
      · exact (never_out h.2).elim
    · rename_i hw; simp only [hw] at h; exact h
def wpAnyT (P : Program) (md : Region.Mode) (ops : Array Oper) (n : Nat) (L : Array Bool → Act → World → Prop) : Nat → (World → Prop) → Array Bool → Act → World → Prop
  | 0, _, listed, a, w => L listed a w
  | fuel + 1, S, listed, a, w =>
    Region.ready md ops listed ≠ [] ∧
    ∀ i ∈ Region.ready md ops listed, i < n ∧ wpOp P ops Never i (fun a' w' => ∃ S' : World → Prop, (∀ w, S' w → S w) ∧ S' w' ∧ wpAnyT P md ops n L fuel S' (listed.setIfInBounds i true) a' w') a w
theorem wpAny_of_T {g : Nat} (hL : ∀ listed a w, L listed a w → wpAny P md ops Q g listed a w) : ∀ (fuel : Nat) (S : World → Prop) (listed : Array Bool) (a : Act) (w : World), wpAnyT P md ops n L fuel S listed a w → wpAny P md ops Q (fuel + g) listed a w
  | 0, _, _, _, _, h => by rw [Nat.zero_add]; exact hL _ _ _ h
  | fuel + 1, _, _, _, _, h => by
    rw [show fuel + 1 + g = (fuel + g) + 1 by omega]
    exact ⟨fun h0 => absurd h0 h.1, fun i hi => wpOp_never (wpOp_mono (fun a' w' ⟨_, _, _, h'⟩ => wpAny_of_T hL fuel _ _ a' w' h') (h.2 i hi).2)⟩
theorem wpAnyT_first {i : Nat} {oi : Oper} {v : Value} (hi : ops[i]? = some oi) (hsel : ∀ (j : Nat) (o : Oper) cs b, ops[j]? = some o → o.op ≠ .select cs b)
    (hs : Region.sinkB md ops n = true) (hc : Region.chainB md ops n = true) (hn : n < ops.size) (hin : i < n)
    (hdone : ∀ listed a w, L listed a w → ∀ j ∈ Region.ready md ops listed, n ≤ j) :
    ∀ (fuel : Nat) (S : World → Prop) (listed : Array Bool) (a : Act) (w : World), HeadInv md ops n listed →
      (∀ j oj, ops[j]? = some oj → j ≠ i → listed.getD j true = false → (∀ e ∈ oj.after, Region.binds md e = true → e.on ≠ i) → oi.apart ops oj = true) →
      i ∈ Region.ready md ops listed → YieldsIf P ops S oi v a → S w →
      wpAnyT P md ops n L fuel S (listed.setIfInBounds i true) (a.put oi.dst v) w → wpAnyT P md ops n L (fuel + 1) S listed a w := by
  intro fuel
  induction fuel with
  | zero =>
    intro S listed a w inv _ hr hy hS H
    have hun := (mem_ready.1 hr).1
    refine ⟨fun h => (by rw [h] at hr; cases hr), fun j hj => ?_⟩
    have hjn : j < n := by
      rcases Nat.lt_or_ge j n with h | h
      · exact h
      · exact absurd hj (tail_waits hs hc hn inv _ i rfl hin hun j h)
    refine ⟨hjn, ?_⟩
    by_cases hji : j = i
    · subst hji; exact hy.wpOp hi hS ⟨S, fun _ h => h, hS, H⟩
    · have := hdone _ _ _ H j (ready_mono hj hji)
      omega
  | succ fuel ih =>
    intro S listed a w inv hfree hr hy hS H
    have hun := (mem_ready.1 hr).1
    refine ⟨fun h => (by rw [h] at hr; cases hr), fun j hj => ?_⟩
    have hjn : j < n := by
      rcases Nat.lt_or_ge j n with h | h
      · exact h
      · exact absurd hj (tail_waits hs hc hn inv _ i rfl hin hun j h)
    refine ⟨hjn, ?_⟩
    by_cases hji : j = i
    · subst hji; exact hy.wpOp hi hS ⟨S, fun _ h => h, hS, H⟩
    · have h1 := (H.2 j (ready_mono hj hji)).2
      obtain ⟨hjun, oj, hoj, hall⟩ := mem_ready.1 hj
      have hnot : ∀ e ∈ oj.after, Region.binds md e = true → e.on ≠ i := fun e he hb heq => by
        have h1 := hall e he hb
        rw [heq, getD_both hun] at h1
        cases h1
      have h2 := wpOp_putIf hoj (hfree j oj hoj hji hjun hnot) (fun cs b => hsel i oi cs b hi) (fun cs b => hsel j oj cs b hoj) (fun _ _ _ h => h) hy h1
      have hfree' : ∀ k ok, ops[k]? = some ok → k ≠ i → (listed.setIfInBounds j true).getD k true = false →
          (∀ e ∈ ok.after, Region.binds md e = true → e.on ≠ i) → oi.apart ops ok = true := fun k ok hk hki hun hno => by
        refine hfree k ok hk hki ?_ hno
        by_cases hjk : j = k
        · subst hjk; exact hjun
        · rw [getD_set_ne true hjk] at hun; exact hun
      refine wpOp_mono (fun a' w' ⟨h3, S', h4, h5, h6⟩ => ⟨S', h4, h5, ih S' (listed.setIfInBounds j true) a' w' (inv.set hj hjn) hfree' (ready_mono hr (Ne.symm hji)) (yieldsIf_less h3 h4) h5 ?_⟩) h2
      rw [Array.setIfInBounds_comm _ _ hji]
      exact h6
def mixBT (md : Region.Mode) (ops : Array Oper) (n : Nat) : Plan → Array Bool → Bool
  | .done, listed => Region.seqB md ops (ops.size - n) n listed
  | .plain i p, listed => decide (i < n) && Region.free md ops listed i && (Region.ready md ops listed).contains i && ((ops[i]?).map plainOp).getD false && mixBT md ops n p (listed.setIfInBounds i true)
  | .only i p, listed => decide (i < n) && (Region.ready md ops listed == [i]) && mixBT md ops n p (listed.setIfInBounds i true)
  | .two _ _ _ _, _ => false
theorem wpOp_of_listN {i : Nat} {o : Oper} (ho : ops[i]? = some o) {K : Act → World → Prop} {a : Act} {w : World} (h : wpList P ops (OnlyK K) [o] a w) : wpOp P ops Never i K a w := by
  have h1 := wpOp_of_list (Q := fun _ _ _ => False) ho h
  unfold wpOp at *
  simp only [ho] at h1 ⊢
  split
  · rename_i hw
    simp only [hw, if_true] at h1
    rcases h1 with h1 | h1
    · refine .inl ?_
      unfold Oper.wp at *
      generalize (execOp a.eval o).run P w = r at *
      cases r with
      | ok n w' =>
        cases n <;> simp only [Oper.upon] at h1 ⊢ <;>
          first
            | exact h1
            | exact Calls.mono h1 (fun e w'' he => by cases e <;> first | exact he | exact (he : False).elim | exact (onlyK_out he).elim)
            | exact Rows.mono h1 (fun _ _ he => he)
      | halt x w' => cases x <;> simp only [Oper.upon] at h1 ⊢ <;> first | exact h1 | exact (h1 : False).elim
    · exact (onlyK_out h1.2).elim
  · rename_i hw; simp only [hw] at h1; exact h1
theorem wpAnyT_of_mix (hsel : Region.noSelect ops = true) (hs : Region.sinkB md ops n = true) (hc : Region.chainB md ops n = true) (hn : n < ops.size) (K : Act → World → Prop) :
    ∀ (p : Plan) (S : World → Prop) (listed : Array Bool) (a : Act) (w : World), HeadInv md ops n listed → mixBT md ops n p listed = true → S w → mixW P ops K p S a w →
    wpAnyT P md ops n (fun listed a w => Region.seqB md ops (ops.size - n) n listed = true ∧ K a w) p.len S listed a w
  | .done, S, listed, a, w, inv, hB, hS, h => ⟨hB, h⟩
  | .plain i p, S, listed, a, w, inv, hB, hS, h => by
    simp only [mixBT, Bool.and_eq_true, decide_eq_true_eq] at hB
    obtain ⟨⟨⟨⟨hin, hf⟩, hr⟩, hp⟩, hB⟩ := hB
    unfold mixW at h
    cases ho : ops[i]? with
    | none => rw [ho] at h; exact h.elim
    | some o =>
      rw [ho] at h hp
      obtain ⟨v, hy, hK⟩ := yieldsIf_of_quiet (by simpa using hp) h
      have hr' : i ∈ Region.ready md ops listed := by simpa using hr
      exact wpAnyT_first ho (Region.noSelect_spec hsel) hs hc hn hin (fun _ _ _ hL => seqB_ready hL.1) _ S listed a w inv (Region.free_spec ho hf) hr' hy hS (wpAnyT_of_mix hsel hs hc hn K p S _ _ w (inv.set hr' hin) hB hS hK)
  | .only i p, S, listed, a, w, inv, hB, hS, h => by
    simp only [mixBT, Bool.and_eq_true, beq_iff_eq, decide_eq_true_eq] at hB
    obtain ⟨⟨hin, hr⟩, hB⟩ := hB
    unfold mixW at h
    refine ⟨fun h0 => (by rw [hr] at h0; cases h0), fun j hj => ?_⟩
    rw [hr, List.mem_singleton] at hj
    subst hj
    refine ⟨hin, ?_⟩
    cases ho : ops[j]? with
    | none => rw [ho] at h; exact h.elim
    | some o =>
      rw [ho] at h
      exact wpOp_mono (fun a' w' ⟨S', h1, h2, h3⟩ => ⟨S', h1, h2, wpAnyT_of_mix hsel hs hc hn K p S' _ a' w' (inv.set (by rw [hr]; exact List.mem_singleton.2 rfl) hin) hB h2 h3⟩) (wpOp_of_listN ho h)
  | .two _ _ _ _, S, listed, a, w, inv, hB, hS, h => by cases hB
end
/-- The Bool of a region by a plan with a forced tail from place n on. -/
def mixTB (ops : Array Oper) (n : Nat) (p : Plan) : Bool :=
  Region.noSelect ops && decide (n < ops.size) && Region.sinkB .any ops n && Region.chainB .any ops n && (p.len == n) && mixBT .any ops n p (Array.replicate ops.size false)
/-- A region that draws its order, by a plan, then a forced tail; at a class. -/
theorem wp_region_mixS {P : Program} {id : Nat} {Q : Exit → Act → World → Prop} {a : Act} {w : World} {l : List Oper} (n : Nat) (p : Plan) (S : World → Prop) (hm : P.follows .mixedOrders = true) (hB : mixTB l.toArray n p = true)
    (hS : S (w.drewN 1)) (h : mixW P l.toArray (fun a w => wpList P l.toArray Q (l.drop n) a w) p S a (w.drewN 1)) : (Code.region id l.toArray true).wp P Q a w := by
  simp only [mixTB, Bool.and_eq_true, beq_iff_eq, decide_eq_true_eq] at hB
  obtain ⟨⟨⟨⟨⟨hsel, hn⟩, hs⟩, hc⟩, hl⟩, hB⟩ := hB
  have inv0 : HeadInv .any l.toArray n (Array.replicate l.toArray.size false) :=
    ⟨by simp, fun j oj _ hl => (by rw [getD_replicate_false] at hl; cases hl), fun t _ ht => getD_in (by simpa using ht) (getD_replicate_false _ _)⟩
  have hdl : (l.drop n).length = l.toArray.size - n := by simp
  have H := wpAnyT_of_mix (P := P) hsel hs hc hn _ p S _ a (w.drewN 1) inv0 hB hS h
  refine wp_region_any hm ?_
  have := wpAny_of_T (Q := Q) (g := l.toArray.size - n) (fun listed a' w' hL => by
    have := wpAny_of_seq (md := .any) (Q' := Q) (l.drop n) n listed a' w' (fun j => by simp [List.getElem?_drop]) (by rw [hdl]; exact hL.1) hL.2
    rwa [hdl] at this) _ _ _ _ _ H
  rw [hl, show n + (l.toArray.size - n) = l.toArray.size by omega] at this
  exact this
/-- A region that draws its order, by a plan, then a forced tail. -/
theorem wp_region_mixT {P : Program} {id : Nat} {Q : Exit → Act → World → Prop} {a : Act} {w : World} {l : List Oper} (n : Nat) (p : Plan) (hm : P.follows .mixedOrders = true) (hB : mixTB l.toArray n p = true)
    (h : ∀ W, Below w.heap.size w W → mixW P l.toArray (fun a w => wpList P l.toArray Q (l.drop n) a w) p (fun v => ∃ e, v = plus W e) a W) : (Code.region id l.toArray true).wp P Q a w :=
  wp_region_mixS n p _ hm hB (in_plus (w := w.drewN 1)) (h (w.drewN 1) (below_drewN (Below.refl _ w) 1))
end Go.Proofs.YtfggbfnnibpohaaDoor
