/- Texts that stand behind one another: Within, RefF, RefGa, OwnX, VerA. No condition. -/
import Derived.Test.YteonmcconpfkjaaDoorP1
import Derived.Test.YteonmcconpfkjaaDoorChecked
import Derived.WalkKit
import Derived.Lib.Hide
import Derived.Test.YteonmcconpfkjaaDoorP8
import Derived.Test.YteonmcconpfkjaaDoorP3
import Derived.Lib.SlBytesConst
import Derived.Test.YteonmcconpfkjaaDoorP7
import Derived.Test.YteonmcconpfkjaaDoorP4
import Derived.Test.YteonmcconpfkjaaDoorP5
import Derived.Test.YteonmcconpfkjaaDoorP6
/- The walk of deponentbook's Within. No condition. -/
namespace Go.Proofs.YteonmcconpfkjaaDoor
open Go.RowKit
def withinI (x lo hi : Int) : Int := if x.tmod (hi - lo + 1) < 0 then lo + (x.tmod (hi - lo + 1) + hi - lo + 1) else lo + x.tmod (hi - lo + 1)
theorem withinI_bounds (x lo hi : Int) (h1 : lo ≤ hi) : lo ≤ withinI x lo hi ∧ withinI x lo hi ≤ hi := by
  have b1 := Int.tmod_lt_of_pos x (show 0 < hi - lo + 1 by omega)
  have b2 := Int.lt_tmod_of_pos x (show 0 < hi - lo + 1 by omega)
  unfold withinI
  split <;> omega
theorem within_any (x lo hi : Int) (w : World) (h0 : 0 ≤ lo) (h1 : lo ≤ hi) (h2 : hi < 4611686018427387904) (_hx : -9223372036854775808 ≤ x) (_hx2 : x ≤ 9223372036854775807) :
    Calls Tryd.prog 28 #[.int .i64 x, .int .i64 lo, .int .i64 hi] w fun e w' => e = .returned (.int .i64 (withinI x lo hi)) ∧ w = w' := by
  have b1 := Int.tmod_lt_of_pos x (show 0 < hi - lo + 1 by omega)
  have b2 := Int.lt_tmod_of_pos x (show 0 < hi - lo + 1 by omega)
  by_cases hm : x.tmod (hi - lo + 1) < 0
  · have e : withinI x lo hi = lo + (x.tmod (hi - lo + 1) + hi - lo + 1) := if_pos hm
    have He := Lib.hid e
    clear e
    go_enter Tryd.func28, Tryd.ntmps28
    go_wp2
    go_ret
    rw [He.out]
    exact ⟨rfl, rfl⟩
  · have e : withinI x lo hi = lo + x.tmod (hi - lo + 1) := if_neg hm
    have He := Lib.hid e
    clear e
    go_enter Tryd.func28, Tryd.ntmps28
    go_wp2
    go_ret
    rw [He.out]
    exact ⟨rfl, rfl⟩
end Go.Proofs.YteonmcconpfkjaaDoor

/- The walk of the reference's Sum. No condition. -/
namespace Go.Proofs.YteonmcconpfkjaaDoor
open Go.RowKit
/-- the padded text while it is built: k zeros; j bytes of the length -/
def padZ (bs : List UInt8) (k : Nat) : List UInt8 := bs ++ [0x80] ++ List.replicate k 0
def padJ (bs : List UInt8) (j : Nat) : List UInt8 := padZ bs (zeros bs.length) ++ ((List.range 8).map (lenByte bs.length)).take j
theorem padZ_len (bs : List UInt8) (k : Nat) : (padZ bs k).length = bs.length + 1 + k := by simp [padZ]; omega
theorem padZ_succ (bs : List UInt8) (k : Nat) : padZ bs (k + 1) = padZ bs k ++ [0] := by
  unfold padZ; rw [List.replicate_succ']; simp
theorem padJ_len (bs : List UInt8) (j : Nat) (hj : j ≤ 8) : (padJ bs j).length = bs.length + 1 + zeros bs.length + j := by
  rw [padJ, List.length_append, padZ_len, List.length_take]; simp; omega
theorem padJ_succ (bs : List UInt8) (j : Nat) (hj : j < 8) : padJ bs (j + 1) = padJ bs j ++ [lenByte bs.length j] := by
  unfold padJ
  rw [List.take_succ_eq_append_getElem (by simpa using hj), List.append_assoc]
  simp
theorem padJ_8 (bs : List UInt8) : padJ bs 8 = pad bs := by
  unfold padJ padZ pad
  rw [List.take_of_length_le (by simp)]; simp
theorem zeros_lt (n : Nat) : zeros n < 64 := by unfold zeros; omega
theorem zeros_iff (n k : Nat) (hk : k ≤ zeros n) : (n + 1 + k) % 64 = 56 ↔ k = zeros n := by unfold zeros at *; omega
theorem getD_take64 (l : List UInt8) : ∀ j, j < 64 → (l.take 64).getD j 0 = l.getD j 0 := fun j hj => by
  rw [List.getD_eq_getElem?_getD, List.getD_eq_getElem?_getD, List.getElem?_take, if_pos hj]
theorem s8_size (s : S8) : (s.list.map v32).toArray.size = 8 := rfl
theorem s8_one (s : S8) : ∀ v ∈ (s.list.map v32).toArray.toList, v.oneCell' = true := by
  intro v hv
  obtain ⟨b, _, rfl⟩ := List.mem_map.1 hv
  rfl
def lenOf : Value → Nat
  | .slice _ n _ => n
  | _ => 0
attribute [local go_sem] n64_lo n64_hi n8_lo n8_hi
set_option maxHeartbeats 1000000 in
set_option maxRecDepth 100000 in
theorem rsum_any (v u : Value) (bs : List UInt8) (w : World) (ht : Tbl w w.heap.size v) (hb : BSl w w.heap.size u bs) (hbl : bs.length ≤ 140737488355200) :
    Calls Tryd.prog 119 #[v, u] w fun e w' => e = .returned (.agg (dat (sha bs))) ∧ Below w.heap.size w w' := by
  obtain ⟨gt, rfl, hgt, hT⟩ := ht
  obtain ⟨A, cap, rfl, hc1, hc2, hr⟩ := hb
  obtain ⟨i0, hi, hz0, hz1, hz2⟩ := info_parts (by kernel_rfl : (Tryd.prog.info? 5).map (fun i => (i.zero, i.size, i.bytes)) = some (some (.int .u8 0), 1, 1))
  have s1 := Lib.hid (show ([] : List Value).length + bs.length ≤ maxLen by unfold maxLen; simp; omega)
  have s2 := Lib.hid (show (([] : List Value).length + bs.length) * 1 ≤ 140737488355328 by simp; omega)
  have s3 := Lib.hid (show (([] : List Value) ++ bs.map v8).length + 1 ≤ maxLen by unfold maxLen; simp; omega)
  have s4 := Lib.hid (show ((([] : List Value) ++ bs.map v8).length + 1) * 1 ≤ 140737488355328 by simp; omega)
  go_enter Tryd.func119, Tryd.ntmps119
  have hR0 := Blk.new w 43 (arr 32 fun _ => 0)
  have hw0 := below_new1 w (Obj.cells (arr 32 fun _ => 0) 43)
  have hz : (w.alloc (Obj.cells (arr 32 fun _ => 0) 43)).heap.size = w.heap.size + 1 := by simp
  go_wp2_with (first
    | (refine wpl_at (w := w.alloc (Obj.cells _ 43)) (fun W => Blk W w.heap.size 43 (arr 32 fun _ => 0) ∧ Below w.heap.size w W ∧ W.heap.size = w.heap.size + 1) ⟨hR0, hw0, hz⟩ ?_; clear hR0 hw0 hz; rintro w0 ⟨hR0, hw0, hz⟩; have hr0 := hr.below hw0; have hn1 : Below (w.heap.size + 1) w0 (w0.alloc (Obj.cells #[] 5)) := (by have := below_new1 w0 (Obj.cells #[] 5); rw [hz] at this; exact this); have hoe : (w0.alloc (Obj.cells #[] 5)).ownsRow (w.heap.size + 1) 5 1 (.slice (some ⟨w.heap.size + 1, 0, none⟩) 0 0) ([] : List Value).length [] := (by have := own_empty w0 w0.heap.size 5 (Nat.le_refl _); rw [hz] at this; exact this))
    | (at_builtin; refine wpList_appendR rfl (.tmp 12) (.tmp 13) _ rfl (w.heap.size + 1) 5 i0 _ 1 Tryd.underlying22 hi hz0 hz1 hz2 rfl _ [] rfl hoe _ A _ _ _ rfl (hr0.below (hn1.mono (by omega))) (by rw [List.length_map]) (oneCell_v8 _) s1.out s2.out (by have := hn1.size; omega) ?_; intro u1 w1 hown1 hg1 hat1; have hb1 := below_own hn1 hoe hg1 (by have := hn1.size; omega); have hz1s : w.heap.size + 1 ≤ w1.heap.size := (by have := hb1.size; omega); have hz1t : w.heap.size + 1 ≤ (w1.alloc (Obj.cells #[v8 128] 5)).heap.size := Nat.le_trans hz1s (below_new1 w1 _).size)
    | (at_builtin; refine wpList_appendR rfl (.tmp 14) (.tmp 15) _ rfl (w.heap.size + 1) 5 i0 _ 1 Tryd.underlying22 hi hz0 hz1 hz2 rfl _ _ rfl (own_below hown1 (below_new1 w1 _)) (w1.heap.size + 1) (some ⟨w1.heap.size, 0, none⟩) 1 1 [v8 128] rfl (show Reads (w1.alloc (Obj.cells #[v8 128] 5)) (w1.heap.size + 1) (some ⟨w1.heap.size, 0, none⟩) [v8 128] from Reads.of_blk (Blk.new w1 5 #[v8 128]) (by omega) 0) rfl (fun u hu => by rw [List.mem_singleton] at hu; subst hu; rfl) s3.out s4.out hz1t ?_; intro u2 w2 hown2 hg2 hat2; have hb2 := below_own (hb1.trans ((below_new1 w1 _).mono hz1s)) (own_below hown1 (below_new1 w1 _)) hg2 hz1t))
  have hP0 : ([] : List Value) ++ bs.map v8 ++ [v8 128] = (padZ bs 0).map v8 := by simp [padZ]
  rw [hP0] at hown2
  have hzl := zeros_lt bs.length
  clear hP0 hown1 hg1 hat1 hb1 hz1s hz1t hg2 hat2 hoe hn1 hr0 s1 s2 s3 s4
  go_loopw [5] (fun v wr => ∃ k : Nat, k ≤ zeros bs.length ∧ lenOf v = bs.length + 1 + k ∧ wr.ownsRow (w.heap.size + 1) 5 1 v ((padZ bs k).map v8).length ((padZ bs k).map v8) ∧ Below (w.heap.size + 1) w0 wr) (fun v _ => bs.length + 100 - lenOf v)
  case atStart =>
    refine ⟨0, by omega, ?_, hown2, hb2⟩
    obtain ⟨A2, c2, rfl, _⟩ := Reads.own hown2
    simp [lenOf, padZ_len]
  case round =>
    clear hown2 hb2
    obtain ⟨k, hk, hlen, hown, hb⟩ := hrel
    obtain ⟨A2, c2, rfl, hd1, hd2, hrd⟩ := Reads.own hown
    have hml : ((padZ bs k).map v8).length = bs.length + 1 + k := by rw [List.length_map, padZ_len]
    have hbs : w.heap.size + 1 ≤ wr.heap.size := by have := hb.size; omega
    by_cases hlt : k = zeros bs.length
    · subst hlt
      have h56 := (zeros_iff bs.length _ hk).2 rfl
      have hnn : ((bs.length : Int) + 1 + (zeros bs.length : Nat)) % 64 = 56 := by omega
      have hown' : wr.ownsRow (w.heap.size + 1) 5 1 (.slice A2 (bs.length + 1 + zeros bs.length) c2) ((padJ bs 0).map v8).length ((padJ bs 0).map v8) := by
        have : padJ bs 0 = padZ bs (zeros bs.length) := by rw [padJ]; simp
        rw [this]; rw [hml] at hown ⊢; exact hown
      rw [hml]
      clear hlen h56 hown hrd hml
      go_wp2_with fail
      clear hnn
      go_loopw [5, 7] (fun v iv wr => ∃ j : Nat, j ≤ 8 ∧ iv = .int .i64 (56 - 8 * (j : Int)) ∧ wr.ownsRow (w.heap.size + 1) 5 1 v ((padJ bs j).map v8).length ((padJ bs j).map v8) ∧ Below (w.heap.size + 1) w0 wr) (fun _ iv _ => (intOf iv + 8).toNat)
      case atStart => exact ⟨0, by omega, rfl, hown', hb⟩
      case round =>
        clear hown' hb hbs
        obtain ⟨j, hj, rfl, hown, hb⟩ := hrel
        obtain ⟨A4, c4, rfl, he1, he2, hre⟩ := Reads.own hown
        have hml : ((padJ bs j).map v8).length = bs.length + 1 + zeros bs.length + j := by rw [List.length_map, padJ_len bs j hj]
        have hbs : w.heap.size + 1 ≤ wr.heap.size := by have := hb.size; omega
        by_cases hjt : j < 8
        · have s3 := Lib.hid (show ((padJ bs j).map v8).length + 1 ≤ maxLen by rw [hml]; unfold maxLen; omega)
          have s4 := Lib.hid (show (((padJ bs j).map v8).length + 1) * 1 ≤ 140737488355328 by rw [hml]; omega)
          have hbt : ∀ u, w.heap.size + 1 ≤ (wr.alloc (Obj.cells #[v8 u] 5)).heap.size := fun u => Nat.le_trans hbs (below_new1 wr _).size
          have hown'' : wr.ownsRow (w.heap.size + 1) 5 1 (.slice A4 (bs.length + 1 + zeros bs.length + j) c4) ((padJ bs j).map v8).length ((padJ bs j).map v8) := by rw [hml] at hown ⊢; exact hown
          have hby : (bs.length : Int) * 8 / 2 ^ (56 - 8 * j) % 256 = n8 (lenByte bs.length j) := by
            have := lenByte_val bs.length (7 - j) (by omega)
            rw [show 56 - 8 * j = 8 * (7 - j) by omega, this, show 7 - (7 - j) = j by omega]
          have hsucc := Lib.hid (padJ_succ bs j hjt)
          generalize lenByte bs.length j = lb at hby hsucc
          rw [hml]
          clear hown hre
          go_wp2_with (first
            | (at_builtin; refine wpList_appendR rfl (.tmp 32) (.tmp 38) _ rfl (w.heap.size + 1) 5 i0 _ 1 Tryd.underlying22 hi hz0 hz1 hz2 rfl _ _ rfl (own_below hown'' (below_new1 wr _)) (wr.heap.size + 1) (some ⟨wr.heap.size, 0, none⟩) 1 1 [v8 lb] rfl (show Reads (wr.alloc (Obj.cells #[v8 lb] 5)) (wr.heap.size + 1) (some ⟨wr.heap.size, 0, none⟩) [v8 lb] from Reads.of_blk (Blk.new wr 5 #[v8 lb]) (by omega) 0) rfl (fun u hu => by rw [List.mem_singleton] at hu; subst hu; rfl) s3.out s4.out (hbt lb) ?_; intro u3 w3 hown3 hg3 hat3; have hb3 := below_own (hb.trans ((below_new1 wr _).mono hbs)) (own_below hown'' (below_new1 wr _)) hg3 (hbt lb)))
          go_roundw
          case rel =>
            refine ⟨j + 1, by omega, by go_num, ?_, hb3⟩
            rw [hsucc.out, List.map_append]; exact hown3
          case measure => simp only [intOf]; omega
        · have ej : j = 8 := by omega
          subst ej
          rw [padJ_8] at hown hre hml
          rw [padJ_8]
          have hpl : (bs.length + 1 + zeros bs.length + 8) = (pad bs).length := by rw [pad_length]; omega
          rw [hpl] at hml
          rw [hml] at *
          have hmod := pad_mod bs
          have hle : (pad bs).length ≤ bs.length + 72 := by rw [pad_length]; omega
          have hbel : Below w.heap.size w wr := hw0.trans (hb.mono (by omega))
          have hT' := hT.below hbel hgt
          have hR' := hR0.below hb (by omega)
          have t0 : wr.cell? ⟨gt, 64, none⟩ = some (.int .u32 (n32 H0.a)) := (hT'.cell 64).trans rfl
          have t1 : wr.cell? ⟨gt, 65, none⟩ = some (.int .u32 (n32 H0.b)) := (hT'.cell 65).trans rfl
          have t2 : wr.cell? ⟨gt, 66, none⟩ = some (.int .u32 (n32 H0.c)) := (hT'.cell 66).trans rfl
          have t3 : wr.cell? ⟨gt, 67, none⟩ = some (.int .u32 (n32 H0.d)) := (hT'.cell 67).trans rfl
          have t4 : wr.cell? ⟨gt, 68, none⟩ = some (.int .u32 (n32 H0.e)) := (hT'.cell 68).trans rfl
          have t5 : wr.cell? ⟨gt, 69, none⟩ = some (.int .u32 (n32 H0.f)) := (hT'.cell 69).trans rfl
          have t6 : wr.cell? ⟨gt, 70, none⟩ = some (.int .u32 (n32 H0.g)) := (hT'.cell 70).trans rfl
          have t7 : wr.cell? ⟨gt, 71, none⟩ = some (.int .u32 (n32 H0.h)) := (hT'.cell 71).trans rfl
          go_wp2_with fail
          have hS8 : Blk (wr.alloc (Obj.cells #[.int .u32 (n32 H0.a), .int .u32 (n32 H0.b), .int .u32 (n32 H0.c), .int .u32 (n32 H0.d), .int .u32 (n32 H0.e), .int .u32 (n32 H0.f), .int .u32 (n32 H0.g), .int .u32 (n32 H0.h)] 156)) wr.heap.size 156 (H0.list.map v32).toArray := Blk.new _ _ _
          have hbw := below_new1 wr (Obj.cells #[.int .u32 (n32 H0.a), .int .u32 (n32 H0.b), .int .u32 (n32 H0.c), .int .u32 (n32 H0.d), .int .u32 (n32 H0.e), .int .u32 (n32 H0.f), .int .u32 (n32 H0.g), .int .u32 (n32 H0.h)] 156)
          obtain ⟨bp, offp, rfl, hbp, hcp⟩ := hre (by rw [List.length_map, pad_length]; omega)
          have hcp' : ∀ j, j < (pad bs).length → wr.cell? ⟨bp, offp + j, none⟩ = some (.int .u8 (n8 ((pad bs).getD j 0))) := fun j hj => by
            have := hcp j _ (by rw [List.getElem?_map, List.getElem?_eq_getElem hj]; rfl)
            rw [this, List.getD_eq_getElem?_getD, List.getElem?_eq_getElem hj]; rfl
          have hgt' : gt < wr.heap.size := hT'.lt
          obtain ⟨N, hN⟩ : ∃ N, (pad bs).length = 64 * N := ⟨(pad bs).length / 64, by omega⟩
          have hsha : sha bs = outBytes (hashN K0 H0 (pad bs) N) := by
            unfold sha sumOf; rw [hN]; congr 2; omega
          have Hsha := Lib.hid hsha
          have he1' : 64 * N ≤ c4 := by rw [List.length_map, padJ_8] at he1; omega
          rw [hN] at hcp' hle hpl ⊢
          clear he1 hown hre hcp hT hR0 t0 t1 t2 t3 t4 t5 t6 t7 hsha hml hmod
          revert hS8 hbw
          generalize wr.alloc (Obj.cells #[.int .u32 (n32 H0.a), .int .u32 (n32 H0.b), .int .u32 (n32 H0.c), .int .u32 (n32 H0.d), .int .u32 (n32 H0.e), .int .u32 (n32 H0.f), .int .u32 (n32 H0.g), .int .u32 (n32 H0.h)] 156) = w9
          intro hS8 hbw
          obtain ⟨wa, rfl⟩ : ∃ wa, wa = wr := ⟨_, rfl⟩
          go_loopw [9] (fun iv W => ∃ m : Nat, m ≤ N ∧ iv = .int .i64 (64 * (m : Int)) ∧ Blk W wa.heap.size 156 ((hashN K0 H0 (pad bs) m).list.map v32).toArray ∧ Below wa.heap.size wa W) (fun iv _ => (64 * (N : Int) - intOf iv).toNat)
          case atStart => exact ⟨0, by omega, rfl, hS8, hbw⟩
          case round =>
            clear hS8 hbw
            obtain ⟨m, hm, rfl, hS8, hbw⟩ := hrel
            by_cases hmt : m < N
            · have hcw : ∀ e, ∀ j, j < 64 → (plus wr e).cell? ⟨bp, offp + 64 * m + j, none⟩ = some (.int .u8 (n8 ((((pad bs).drop (64 * m)).take 64).getD j 0))) := fun e j hj => by
                rw [getD_take64 _ j hj, getD_drop, ← hcp' (64 * m + j) (by omega), ((plus_below wr e).cell (p := ⟨bp, _, none⟩) (Nat.lt_of_lt_of_le hbp hbw.size)), (hbw.cell (p := ⟨bp, _, none⟩) hbp), Nat.add_assoc]
              have htb : ∀ e, Tbl (plus wr e) (plus wr e).heap.size (.pointer (some ⟨gt, 0, none⟩)) := fun e => ⟨gt, rfl, Nat.lt_of_lt_of_le hgt' (Nat.le_trans hbw.size (plus_below wr e).size), (hT'.below hbw hgt').plus e⟩
              have hbp2 : ∀ e, bp < (plus wr e).heap.size := fun e => Nat.lt_of_lt_of_le hbp (Nat.le_trans hbw.size (plus_below wr e).size)
              have hdl : (((pad bs).drop (64 * m)).take 64).length = 64 := by rw [List.length_take, List.length_drop, hN]; omega
              have hnx := Lib.hid (show hashN K0 H0 (pad bs) (m + 1) = mixed K0 (hashN K0 H0 (pad bs) m) (((pad bs).drop (64 * m)).take 64) from (mixed_congr (getD_take64 _)).symm)
              generalize hashN K0 H0 (pad bs) m = q at *
              generalize ((pad bs).drop (64 * m)).take 64 = bl at *
              go_wp2_with fail
              refine wp_region_quiet_tail_plus 8 (by kernel_rfl) (by kernel_rfl) ?_
              simp only [List.take_succ_cons, List.take_zero, List.drop_succ_cons, List.drop_zero]
              repeat (first
                | (refine wpQuiet_load (by kernel_rfl) 156 (.tmp 8) rfl wa.heap.size rfl 156 (q.list.map v32).toArray (0, 0) _ (fun w hC => by obtain ⟨e, rfl⟩ := hC; exact hS8.plus e) Tryd.underlying156 rfl (by kernel_rfl) ?_; simp only [Act.put, List.setIfInBounds_toArray, List.set_cons_zero, List.set_cons_succ])
                | go_big_quiet_step ((go_at_call 162; exact calls_plus (block_any _ q _ _ _ _ bl _ (htb _) (by omega) (by omega) (by omega) (by omega) (hcw _) (hbp2 _)))))
              refine wpQuiet_nil ?_
              rintro _ ⟨e5, rfl⟩
              have hS5 := hS8.plus e5
              have hb5 := hbw.trans ((plus_below wr e5).mono hbw.size)
              clear hcw htb hbp2 hS8 hbw hdl
              generalize plus wr e5 = w5 at hS5 hb5 ⊢
              generalize hmx : mixed K0 q bl = r at hnx ⊢
              go_wp2_with (first
                | (refine wpList_storeB rfl rfl 156 (.tmp 8) (.tmp 57) rfl wa.heap.size 0 rfl (r.list.map v32).toArray rfl 156 _ hS5 (by kernel_rfl) (by rw [s8_size, s8_size]; decide) (s8_one r) ?_; intro w6 hS6 hon6))
              rw [copied_all _ _ (by rw [s8_size, s8_size])] at hS6
              have hb6 := below_only hb5 hon6 (Nat.le_refl _) hb5.size
              go_roundw
              case rel => exact ⟨m + 1, by omega, by go_num, by rw [hnx.out]; exact hS6, hb6⟩
              case measure => simp only [intOf]; omega
            · have em : m = N := by omega
              subst em
              have hR9 := hR'.below hbw hR'.lt
              have hS5 := hS8
              have hbelw : Below w.heap.size w wr := hbel.trans (hbw.mono hbel.size)
              have hwl : w.heap.size < wr.heap.size := hR9.lt
              have hwS : w.heap.size < wa.heap.size := hR'.lt
              go_wp2_with fail
              obtain ⟨D, hDe⟩ : ∃ D, D = wr.heap.size := ⟨_, rfl⟩
              have hDS : wa.heap.size < D := by rw [hDe]; exact hS8.lt
              have hD0 : Blk (wr.alloc (Obj.cells (arr 32 fun _ => 0) 43)) D 43 (arr 32 fun _ => 0) := by rw [hDe]; exact Blk.new _ _ _
              have hS6 := hS8.alloc (Obj.cells (arr 32 fun _ => 0) 43)
              have hR6 := hR9.alloc (Obj.cells (arr 32 fun _ => 0) 43)
              have hb6 := hbelw.alloc hbelw.size (Obj.cells (arr 32 fun _ => 0) 43)
              rw [← hDe]
              clear hS8 hR9 hR' hbelw hbw hT' hcp' hDe hb hbel hS5
              have Hq := Hsha
              generalize hashN K0 H0 (pad bs) m = q at *
              refine wp_at (fun W => Blk W D 43 (arr 32 fun p => if p < 0 then outB q p else 0) ∧ Blk W wa.heap.size 156 (q.list.map v32).toArray ∧ Blk W w.heap.size 43 (arr 32 fun _ => 0) ∧ Below w.heap.size w W) ⟨hD0, hS6, hR6, hb6⟩ ?_
              clear hD0 hS6 hR6 hb6
              rintro wz ⟨hD, hS5, hR5, hbel5⟩
              go_loopw [11] (fun i wr => ∃ j : Nat, j ≤ 32 ∧ i = .int .i64 j ∧ Blk wr D 43 (arr 32 fun p => if p < j then outB q p else 0) ∧ Blk wr wa.heap.size 156 (q.list.map v32).toArray ∧ Blk wr w.heap.size 43 (arr 32 fun _ => 0) ∧ Below w.heap.size w wr) (fun i _ => 32 - (intOf i).toNat)
              case atStart => exact ⟨0, by omega, rfl, hD, hS5, hR5, hbel5⟩
              case round =>
                clear hD hS5 hR5 hbel5
                obtain ⟨l, hl, rfl, hD, hS5, hR5, hbel5⟩ := hrel
                by_cases hl32 : l < 32
                · have cS := hS5.cell (l / 4)
                  rw [list_at q (l / 4) (by omega)] at cS
                  have cD := hD.cell l
                  rw [arr_at _ _ _ hl32] at cD
                  have fD := hD.frozen l
                  have ei : ((l : Int) / 4).toNat = l / 4 := by omega
                  go_wp2
                  go_roundw
                  case rel =>
                    have hstep := hD.set l (v8 (outB q l))
                    rw [arr_set, arr_congr 32 _ (fun p => if p < l + 1 then outB q p else 0) (fun p _ => by
                      by_cases h1 : p = l
                      · rw [if_pos h1, if_pos (by omega), h1]
                      · rw [if_neg h1]
                        by_cases h2 : p < l
                        · rw [if_pos h2, if_pos (by omega)]
                        · rw [if_neg h2, if_neg (by omega)])] at hstep
                    refine ⟨l + 1, by omega, by go_num, ?_, hS5.far (p := ⟨D, _, none⟩) (by show _ ≠ D; omega) _, hR5.far (p := ⟨D, _, none⟩) (by show _ ≠ D; omega) _, hbel5.setCell (p := ⟨D, _, none⟩) (by show _ ≤ D; omega) _⟩
                    rw [show (q.list[l / 4]?.getD 0) = q.list.getD (l / 4) 0 from rfl, outB_val]
                    exact hstep
                  case measure => simp [intOf]; omega
                · have el : l = 32 := by omega
                  rw [el] at hD
                  clear el
                  have hDf : arr 32 (fun p => if p < 32 then outB q p else 0) = arr 32 (outB q) := arr_congr 32 _ _ fun p hp => if_pos hp
                  rw [hDf] at hD
                  clear hDf
                  go_wp2_with (first
                    | (refine wpList_load_row rfl 43 (.tmp 10) rfl D rfl _ _ _ _ hD Tryd.underlying43 rfl (by kernel_rfl) ?_)
                    | (refine wpList_storeArr rfl rfl 43 (.tmp 4) (.tmp 75) rfl w.heap.size rfl 32 (outB q) _ rfl _ hR5 (by kernel_rfl) ?_; intro w6 hR6 hon6))
                  have hb6 := below_only hbel5 hon6 (Nat.le_refl _) hbel5.size
                  refine bodyPost_ret (results_cell_row (p := 4) (ty := 43) rfl _ _ w.heap.size _ _ _ _ rfl hR6 Tryd.underlying43 rfl (by kernel_rfl)) rfl ⟨?_, hb6⟩
                  rw [Hq.out, outBytes_dat]
    · have h56 : ¬ (bs.length + 1 + k) % 64 = 56 := fun h => hlt ((zeros_iff bs.length k hk).1 h)
      have hnn : ¬ (((bs.length + 1 + k : Nat) : Int) % 64 = 56) := by omega
      have s3 := Lib.hid (show ((padZ bs k).map v8).length + 1 ≤ maxLen by rw [hml]; unfold maxLen; omega)
      have s4 := Lib.hid (show (((padZ bs k).map v8).length + 1) * 1 ≤ 140737488355328 by rw [hml]; omega)
      have hbt : w.heap.size + 1 ≤ (wr.alloc (Obj.cells #[v8 0] 5)).heap.size := Nat.le_trans hbs (below_new1 wr _).size
      rw [hml] at hown
      have hown' : wr.ownsRow (w.heap.size + 1) 5 1 (.slice A2 (bs.length + 1 + k) c2) ((padZ bs k).map v8).length ((padZ bs k).map v8) := by rw [hml]; exact hown
      rw [hml]
      have hk' : k < zeros bs.length := by omega
      clear hlen h56 hk hown hrd
      go_wp2_with (first
        | (at_builtin; refine wpList_appendR rfl (.tmp 21) (.tmp 22) _ rfl (w.heap.size + 1) 5 i0 _ 1 Tryd.underlying22 hi hz0 hz1 hz2 rfl _ _ rfl (own_below hown' (below_new1 wr _)) (wr.heap.size + 1) (some ⟨wr.heap.size, 0, none⟩) 1 1 [v8 0] rfl (show Reads (wr.alloc (Obj.cells #[v8 0] 5)) (wr.heap.size + 1) (some ⟨wr.heap.size, 0, none⟩) [v8 0] from Reads.of_blk (Blk.new wr 5 #[v8 0]) (by omega) 0) rfl (fun u hu => by rw [List.mem_singleton] at hu; subst hu; rfl) s3.out s4.out hbt ?_; intro u3 w3 hown3 hg3 hat3; have hb3 := below_own (hb.trans ((below_new1 wr _).mono hbs)) (own_below hown' (below_new1 wr _)) hg3 hbt))
      go_roundw
      case rel =>
        obtain ⟨A3, c3, rfl, _⟩ := Reads.own hown3
        refine ⟨k + 1, by omega, ?_, ?_, hb3⟩
        · simp only [lenOf, List.length_append, hml]; simp; omega
        · rw [padZ_succ, List.map_append]; exact hown3
      case measure =>
        obtain ⟨A3, c3, rfl, _⟩ := Reads.own hown3
        simp only [lenOf, List.length_append, hml]
        have hz64 := hzl
        show bs.length + 100 - (bs.length + 1 + k + 1) < bs.length + 100 - (bs.length + 1 + k)
        omega
end Go.Proofs.YteonmcconpfkjaaDoor

/- Rows of the call's own: append of bytes; rows that are apart. No condition. -/
namespace Go.Proofs.YteonmcconpfkjaaDoor
open Go.RowKit
/-- append of one byte, out of a slice literal, onto a row of the call's own -/
theorem wpList_append1 {wr : World} {ops : Array Oper} {rest : List Oper} {o : Oper} {a : Act} {Q : Exit → Act → World → Prop} (hgd : o.guard = none) (s x : Operand)
    (ho : o.op = .call { callee := .builtin .append, args := #[s, x], argTypes := #[22, 22] })
    (base : Nat) (v : Value) (xs : List Value) (hs : a.eval s = v) (hown : wr.ownsRow base 5 1 v xs.length xs) (u : Value) (hu : u.oneCell' = true)
    (hx : a.eval x = .slice (some ⟨wr.heap.size, 0, none⟩) 1 1) (hlen : xs.length + 1 ≤ 140737488355328) (hbase : base ≤ wr.heap.size) (w0 : World) (hbel : Below base w0 wr)
    (h : ∀ v' w', w'.ownsRow base 5 1 v' (xs ++ [u]).length (xs ++ [u]) → Below base w0 w' → wpList Tryd.prog ops Q rest (a.put o.dst v') w') :
    wpList Tryd.prog ops Q (o :: rest) a (wr.alloc (Obj.cells #[u] 5)) := by
  obtain ⟨i0, hi, hz0, hz1, hz2⟩ := info_parts (by kernel_rfl : (Tryd.prog.info? 5).map (fun i => (i.zero, i.size, i.bytes)) = some (some (.int .u8 0), 1, 1))
  have hbt : base ≤ (wr.alloc (Obj.cells #[u] 5)).heap.size := Nat.le_trans hbase (below_new1 wr _).size
  refine wpList_appendR hgd s x _ ho base 5 i0 _ 1 Tryd.underlying22 hi hz0 hz1 hz2 rfl v xs hs (own_below hown (below_new1 wr _)) (wr.heap.size + 1) (some ⟨wr.heap.size, 0, none⟩) 1 1 [u] hx (show Reads (wr.alloc (Obj.cells #[u] 5)) (wr.heap.size + 1) (some ⟨wr.heap.size, 0, none⟩) [u] from Reads.of_blk (Blk.new wr 5 #[u]) (by omega) 0) rfl (fun u' hu' => by rw [List.mem_singleton] at hu'; subst hu'; exact hu) (by unfold maxLen; omega) (by omega) hbt ?_
  intro v' w' hown' hg hat
  exact h v' w' hown' (below_own (hbel.trans ((below_new1 wr _).mono hbase)) (own_below hown (below_new1 wr _)) hg hbt)
theorem own_grown {w w' : World} {base : Nat} {e : TypeId} {size n : Nat} {v : Value} {xs : List Value} {row : Option Nat} (h : w.ownsRow base e size v n xs) (hg : w.grownBy w' row) (hne : ∀ g, v.ownBlock = some g → row ≠ some g) : w'.ownsRow base e size v n xs := by
  refine ⟨h.1, ?_⟩
  rcases h.2 with h0 | ⟨g, cap, cur, hv, hbs, hh, hrest⟩
  · exact .inl h0
  · exact .inr ⟨g, cap, cur, hv, hbs, Blk.grown (show Blk w g e cur from hh) hg (hne g (by rw [hv]; rfl)).symm, hrest⟩
theorem own_lt {w : World} {base : Nat} {e : TypeId} {size n : Nat} {v : Value} {xs : List Value} (h : w.ownsRow base e size v n xs) : ∀ g, v.ownBlock = some g → g < w.heap.size := by
  intro g hg
  rcases h.2 with ⟨rfl, _⟩ | ⟨g', cap, cur, hv, hbs, hh, hrest⟩
  · cases hg
  · rw [hv] at hg; cases hg; exact Blk.lt (show Blk w g' e cur from hh)
/-- two rows lie apart -/
def Apart (u v : Value) : Prop := ∀ g, u.ownBlock = some g → v.ownBlock ≠ some g
theorem Apart.symm {u v : Value} (h : Apart u v) : Apart v u := fun g h1 h2 => h g h2 h1
theorem own_cell {w : World} {base g off n cap m : Nat} {e : TypeId} {xs : List Value} (h : w.ownsRow base e 1 (.slice (some ⟨g, off, none⟩) n cap) m xs) (j : Nat) (u : Value) (hj : xs[j]? = some u) : w.cell? ⟨g, off + j, none⟩ = some u := by
  obtain ⟨A, c, he, _, _, hr⟩ := Reads.own h
  injection he with he _ _
  subst he
  obtain ⟨b, o, he2, _, hc⟩ := hr (by cases xs with | nil => simp at hj | cons a l => simp)
  injection he2 with he2
  injection he2 with e1 e2 _
  subst e1; subst e2
  exact hc j u hj
/-- append of one byte, with what it leaves of the other rows -/
theorem wpList_append1D {wr : World} {ops : Array Oper} {rest : List Oper} {o : Oper} {a : Act} {Q : Exit → Act → World → Prop} (hgd : o.guard = none) (s x : Operand)
    (ho : o.op = .call { callee := .builtin .append, args := #[s, x], argTypes := #[22, 22] })
    (base : Nat) (v : Value) (xs : List Value) (hs : a.eval s = v) (hown : wr.ownsRow base 5 1 v xs.length xs) (u : Value) (hu : u.oneCell' = true)
    (hx : a.eval x = .slice (some ⟨wr.heap.size, 0, none⟩) 1 1) (hlen : xs.length + 1 ≤ 140737488355328) (hbase : base ≤ wr.heap.size) (w0 : World) (hbel : Below base w0 wr)
    (h : ∀ v' w', w'.ownsRow base 5 1 v' (xs ++ [u]).length (xs ++ [u]) → Below base w0 w' → (∀ v2 n2 ys, wr.ownsRow base 5 1 v2 n2 ys → Apart v v2 → w'.ownsRow base 5 1 v2 n2 ys ∧ Apart v' v2) → wpList Tryd.prog ops Q rest (a.put o.dst v') w') :
    wpList Tryd.prog ops Q (o :: rest) a (wr.alloc (Obj.cells #[u] 5)) := by
  obtain ⟨i0, hi, hz0, hz1, hz2⟩ := info_parts (by kernel_rfl : (Tryd.prog.info? 5).map (fun i => (i.zero, i.size, i.bytes)) = some (some (.int .u8 0), 1, 1))
  have hbt : base ≤ (wr.alloc (Obj.cells #[u] 5)).heap.size := Nat.le_trans hbase (below_new1 wr _).size
  refine wpList_appendR hgd s x _ ho base 5 i0 _ 1 Tryd.underlying22 hi hz0 hz1 hz2 rfl v xs hs (own_below hown (below_new1 wr _)) (wr.heap.size + 1) (some ⟨wr.heap.size, 0, none⟩) 1 1 [u] hx (show Reads (wr.alloc (Obj.cells #[u] 5)) (wr.heap.size + 1) (some ⟨wr.heap.size, 0, none⟩) [u] from Reads.of_blk (Blk.new wr 5 #[u]) (by omega) 0) rfl (fun u' hu' => by rw [List.mem_singleton] at hu'; subst hu'; exact hu) (by unfold maxLen; omega) (by omega) hbt ?_
  intro v' w' hown' hg hat
  refine h v' w' hown' (below_own (hbel.trans ((below_new1 wr _).mono hbase)) (own_below hown (below_new1 wr _)) hg hbt) ?_
  intro v2 n2 ys h2 hap
  refine ⟨own_grown (own_below h2 (below_new1 wr _)) hg (fun g hg2 hg1 => hap g hg1 hg2), fun g hg1 hg2 => ?_⟩
  rcases hat with hat | hat
  · exact hap g (by rw [← hat]; exact hg1) hg2
  · have := own_lt h2 g hg2
    rw [hat] at hg1
    injection hg1 with hg1
    have hs2 : (wr.alloc (Obj.cells #[u] 5)).heap.size = wr.heap.size + 1 := by simp
    omega
/-- append of a slice that is read, onto a row of the call's own -/
theorem wpList_appendS {wr : World} {ops : Array Oper} {rest : List Oper} {o : Oper} {a : Act} {Q : Exit → Act → World → Prop} (hgd : o.guard = none) (s x : Operand)
    (ho : o.op = .call { callee := .builtin .append, args := #[s, x], argTypes := #[22, 22] })
    (base : Nat) (v : Value) (xs bs : List UInt8) (hs : a.eval s = v) (hown : wr.ownsRow base 5 1 v (xs.map v8).length (xs.map v8))
    (B : Nat) (A : Option Addr) (m c : Nat) (hx : a.eval x = .slice A m c) (hm : bs.length = m) (hr : Reads wr B A (bs.map v8)) (hlen : xs.length + bs.length ≤ 140737488355328) (hbase : base ≤ wr.heap.size) (w0 : World) (hbel : Below base w0 wr)
    (h : ∀ v' w', w'.ownsRow base 5 1 v' ((xs ++ bs).map v8).length ((xs ++ bs).map v8) → Below base w0 w' → wpList Tryd.prog ops Q rest (a.put o.dst v') w') :
    wpList Tryd.prog ops Q (o :: rest) a wr := by
  obtain ⟨i0, hi, hz0, hz1, hz2⟩ := info_parts (by kernel_rfl : (Tryd.prog.info? 5).map (fun i => (i.zero, i.size, i.bytes)) = some (some (.int .u8 0), 1, 1))
  refine wpList_appendR hgd s x _ ho base 5 i0 _ 1 Tryd.underlying22 hi hz0 hz1 hz2 rfl v (xs.map v8) hs hown B A m c (bs.map v8) hx hr (by rw [List.length_map]; exact hm) (oneCell_v8 _) (by unfold maxLen; rw [List.length_map]; omega) (by rw [List.length_map]; omega) hbase ?_
  intro v' w' hown' hg hat
  rw [← List.map_append] at hown'
  exact h v' w' hown' (below_own hbel hown hg hbase)
/-- append of a slice that is read, with what it leaves of the other rows -/
theorem wpList_appendSD {wr : World} {ops : Array Oper} {rest : List Oper} {o : Oper} {a : Act} {Q : Exit → Act → World → Prop} (hgd : o.guard = none) (s x : Operand)
    (ho : o.op = .call { callee := .builtin .append, args := #[s, x], argTypes := #[22, 22] })
    (base : Nat) (v : Value) (xs bs : List UInt8) (hs : a.eval s = v) (hown : wr.ownsRow base 5 1 v (xs.map v8).length (xs.map v8))
    (B : Nat) (A : Option Addr) (m c : Nat) (hx : a.eval x = .slice A m c) (hm : bs.length = m) (hr : Reads wr B A (bs.map v8)) (hlen : xs.length + bs.length ≤ 140737488355328) (hbase : base ≤ wr.heap.size) (w0 : World) (hbel : Below base w0 wr)
    (h : ∀ v' w', w'.ownsRow base 5 1 v' ((xs ++ bs).map v8).length ((xs ++ bs).map v8) → Below base w0 w' → (∀ v2 n2 ys, wr.ownsRow base 5 1 v2 n2 ys → Apart v v2 → w'.ownsRow base 5 1 v2 n2 ys ∧ Apart v' v2) → wpList Tryd.prog ops Q rest (a.put o.dst v') w') :
    wpList Tryd.prog ops Q (o :: rest) a wr := by
  obtain ⟨i0, hi, hz0, hz1, hz2⟩ := info_parts (by kernel_rfl : (Tryd.prog.info? 5).map (fun i => (i.zero, i.size, i.bytes)) = some (some (.int .u8 0), 1, 1))
  refine wpList_appendR hgd s x _ ho base 5 i0 _ 1 Tryd.underlying22 hi hz0 hz1 hz2 rfl v (xs.map v8) hs hown B A m c (bs.map v8) hx hr (by rw [List.length_map]; exact hm) (oneCell_v8 _) (by unfold maxLen; rw [List.length_map]; omega) (by rw [List.length_map]; omega) hbase ?_
  intro v' w' hown' hg hat
  rw [← List.map_append] at hown'
  refine h v' w' hown' (below_own hbel hown hg hbase) fun v2 n2 ys h2 hap => ⟨own_grown h2 hg (fun g hg2 hg1 => hap g hg1 hg2), fun g hg1 hg2 => ?_⟩
  rcases hat with hat | hat
  · exact hap g (by rw [← hat]; exact hg1) hg2
  · have := own_lt h2 g hg2
    rw [hat] at hg1
    injection hg1 with hg1
    omega
theorem own_emptyB (w : World) (base : Nat) (hb : base ≤ w.heap.size) : (w.alloc (.cells #[] 5)).ownsRow base 5 1 (.slice (some ⟨w.heap.size, 0, none⟩) 0 0) (([] : List UInt8).map v8).length (([] : List UInt8).map v8) :=
  own_empty w base 5 hb
theorem own_slice {w : World} {base s n : Nat} {e : TypeId} {v : Value} {xs : List Value} (h : w.ownsRow base e s v n xs) : ∃ A c, v = .slice A n c := by
  rcases h.2 with ⟨rfl, h0⟩ | ⟨g, cap, cur, e, _⟩
  · exact ⟨none, 0, by rw [h0]⟩
  · exact ⟨_, cap, e⟩
theorem own_diff {w : World} {base s n g : Nat} {e t : TypeId} {v : Value} {xs : List Value} {cs : Array Value} (h : w.ownsRow base e s v n xs) (hg : Blk w g t cs) (ht : t ≠ e) : ∀ g', v.ownBlock = some g' → some g ≠ some g' := by
  intro g' h1 h2
  injection h2 with h2
  subst h2
  rcases h.2 with ⟨rfl, _⟩ | ⟨b, cap, cur, rfl, _, hb, _⟩
  · cases h1
  · have e3 : b = g := by injection h1
    subst e3
    unfold Blk at hg
    rw [hg] at hb
    injection hb with hb
    injection hb with _ hb
    exact ht hb
end Go.Proofs.YteonmcconpfkjaaDoor

/- Rows in rows: texts of the call's own; the first texts of a list, in plain Lean. No condition. -/
namespace Go.Proofs.YteonmcconpfkjaaDoor
open Go Go.RowKit
attribute [local go_sem] n8_lo n8_hi n64_lo n64_hi n32_lo n32_hi
def fewL (ls : List (List UInt8)) (n m : Nat) : List (List UInt8) := (ls.take n).map (List.take m)
theorem fewL_length (ls : List (List UInt8)) (n m : Nat) : (fewL ls n m).length = min n ls.length := by simp [fewL]
theorem fewL_at (ls : List (List UInt8)) (n m i : Nat) (h : i < n) (h2 : i < ls.length) : (fewL ls n m).getD i [] = (ls.getD i []).take m := by
  unfold fewL
  rw [List.getD_eq_getElem?_getD, List.getD_eq_getElem?_getD, List.getElem?_map, List.getElem?_take, if_pos h, List.getElem?_eq_getElem h2]; rfl
theorem fewL_mem {ls : List (List UInt8)} {n m : Nat} {b : List UInt8} (h : b ∈ fewL ls n m) : b.length ≤ m := by
  unfold fewL at h
  obtain ⟨c, _, rfl⟩ := List.mem_map.1 h
  rw [List.length_take]; omega
/-- rows of different kinds are different blocks -/
theorem own_other {w : World} {b1 b2 s1 s2 n1 n2 : Nat} {e1 e2 : TypeId} {u v : Value} {xs ys : List Value} (he : e1 ≠ e2) (h1 : w.ownsRow b1 e1 s1 u n1 xs) (h2 : w.ownsRow b2 e2 s2 v n2 ys) : ∀ g, u.ownBlock = some g → v.ownBlock ≠ some g := by
  intro g hu hv
  rcases h1.2 with ⟨rfl, _⟩ | ⟨g1, c1, cur1, rfl, _, hb1, _⟩
  · cases hu
  · rcases h2.2 with ⟨rfl, _⟩ | ⟨g2, c2, cur2, rfl, _, hb2, _⟩
    · cases hv
    · have e1' : g1 = g := by injection hu
      have e2' : g2 = g := by injection hv
      subst e1'
      rw [e2', hb1] at hb2
      injection hb2 with hb2
      injection hb2 with _ hb2
      exact he hb2
/-- a list of texts of the call's own (from block B on), each text in a row of its own -/
structure Own2 (w : World) (B : Nat) (v : Value) (vs : List Value) (ls : List (List UInt8)) : Prop where
  len : vs.length = ls.length
  row : w.ownsRow B 22 1 v vs.length vs
  el : ∀ i, i < ls.length → w.ownsRow B 5 1 (vs.getD i undef) (ls.getD i []).length ((ls.getD i []).map v8)
theorem Own2.below {w w' : World} {B : Nat} {v : Value} {vs : List Value} {ls : List (List UInt8)} (h : Own2 w B v vs ls) (hb : Below w.heap.size w w') : Own2 w' B v vs ls :=
  ⟨h.len, own_below h.row hb, fun i hi => own_below (h.el i hi) hb⟩
theorem Own2.ssl {w : World} {B : Nat} {v : Value} {vs : List Value} {ls : List (List UInt8)} (h : Own2 w B v vs ls) : SSl w w.heap.size v ls :=
  SSl.of_own h.row h.len (fun i hi => BSl.of_own (h.el i hi))
theorem Own2.ones {w : World} {B : Nat} {v : Value} {vs : List Value} {ls : List (List UInt8)} (h : Own2 w B v vs ls) : ∀ u ∈ vs, u.oneCell' = true := by
  intro u hu
  obtain ⟨i, hi, rfl⟩ := List.mem_iff_getElem.1 hu
  have he := h.el i (by rw [← h.len]; exact hi)
  rw [List.getD_eq_getElem?_getD, List.getElem?_eq_getElem hi] at he
  rcases he.2 with ⟨e, _⟩ | ⟨g, cap, cur, e, _⟩
  · have : vs[i] = .slice none 0 0 := e
    rw [this]; rfl
  · have : vs[i] = .slice (some ⟨g, 0, none⟩) _ cap := e
    rw [this]; rfl
/-- one text of a list of the call's own is written over -/
theorem Own2.setAt {w : World} {B : Nat} {v : Value} {vs : List Value} {ls : List (List UInt8)} (h : Own2 w B v vs ls) (a : Nat) (ha : a < ls.length) :
    ∃ g cap cur, v = .slice (some ⟨g, 0, none⟩) ls.length cap ∧ B ≤ g ∧ ls.length ≤ cap ∧ Blk w g 22 cur ∧ a < cur.size ∧ ∀ (w' : World) (x : Value) (b : List UInt8), Blk w' g 22 (cur.setIfInBounds a x) → w.grownBy w' (some g) → BSl w' w'.heap.size x b → SSl w' w'.heap.size v (ls.set a b) := by
  have hlen := h.len
  rcases h.row.2 with ⟨_, h0⟩ | ⟨g, cap, cur, e, hB, hg, hnc, hcap, hsz, hcur⟩
  · have h0' : vs.length = 0 := h0
    omega
  · refine ⟨g, cap, cur, by rw [e, hlen], hB, by omega, hg, by omega, fun w' x b hb hgr hx => ?_⟩
    have hcl : cur.size = cap := by omega
    have hat : ∀ j, j < vs.length → cur[j]? = vs[j]? := fun j hj => by
      have : cur.toList.take vs.length = vs := by simpa using hcur
      rw [← this, List.getElem?_take, if_pos hj]; simp
    have hl : (ls.set a b).length = ls.length := List.length_set
    refine ⟨some ⟨g, 0, none⟩, cap, vs.set a x, by rw [e, hl, hlen], by rw [hl]; omega, by unfold maxLen at hcap; omega, fun _ => ⟨g, 0, rfl, hb.lt, fun j u hu => ?_⟩, by rw [List.length_set, hl]; exact hlen, fun i hi => ?_⟩
    · have hj : j < vs.length := by have := (List.getElem?_eq_some_iff.1 hu).1; rw [List.length_set] at this; exact this
      rw [Nat.zero_add, hb.cell, ← hu, Array.getElem?_setIfInBounds, List.getElem?_set]
      by_cases hja : a = j
      · subst hja; rw [if_pos rfl, if_pos rfl, if_pos (by omega), if_pos hj]
      · rw [if_neg hja, if_neg hja, hat j hj]
    · rw [hl] at hi
      rw [List.getD_eq_getElem?_getD, List.getD_eq_getElem?_getD, List.getElem?_set, List.getElem?_set]
      by_cases hia : a = i
      · subst hia; rw [if_pos rfl, if_pos rfl, if_pos (by omega), if_pos ha]; exact hx
      · rw [if_neg hia, if_neg hia, ← List.getD_eq_getElem?_getD, ← List.getD_eq_getElem?_getD]
        have he := h.el i hi
        have hgv : v.ownBlock = some g := by rw [e]; rfl
        exact BSl.of_own (own_grown he hgr (fun g2 h2 e2 => own_other (by decide) he h.row g2 h2 (by rw [hgv]; exact e2)))
theorem fewL_succ (ls : List (List UInt8)) (k m : Nat) (h : k < ls.length) : fewL ls (k + 1) m = fewL ls k m ++ [(ls.getD k []).take m] := by
  unfold fewL
  rw [List.take_succ_eq_append_getElem h, List.map_append, List.getD_eq_getElem?_getD, List.getElem?_eq_getElem h]; rfl
theorem Own2.snoc {w w' : World} {B : Nat} {v v' x : Value} {vs : List Value} {ls : List (List UInt8)} {b : List UInt8} (h : Own2 w B v vs ls) (he : w.ownsRow B 5 1 x b.length (b.map v8)) (hown : w'.ownsRow B 22 1 v' (vs ++ [x]).length (vs ++ [x])) (hg : w.grownBy w' v.ownBlock) : Own2 w' B v' (vs ++ [x]) (ls ++ [b]) := by
  refine ⟨by rw [List.length_append, List.length_append, h.len]; rfl, hown, fun i hi => ?_⟩
  have hlen := h.len
  by_cases hik : i < ls.length
  · have h1 := h.el i hik
    rw [List.getD_eq_getElem?_getD, List.getD_eq_getElem?_getD, List.getElem?_append_left (by omega), List.getElem?_append_left hik, ← List.getD_eq_getElem?_getD, ← List.getD_eq_getElem?_getD]
    exact own_grown h1 hg (fun g hb e => own_other (by decide) h1 h.row g hb e)
  · have hi2 : i = ls.length := by rw [List.length_append, List.length_singleton] at hi; omega
    subst hi2
    rw [List.getD_eq_getElem?_getD, List.getD_eq_getElem?_getD, List.getElem?_append_right (by omega), List.getElem?_append_right (Nat.le_refl _), hlen, Nat.sub_self]
    exact own_grown he hg (fun g hb e => own_other (by decide) he h.row g hb e)
theorem own_base {w : World} {b b' s n : Nat} {e : TypeId} {v : Value} {xs : List Value} (h : w.ownsRow b' e s v n xs) (hb : b ≤ b') : w.ownsRow b e s v n xs := by
  refine ⟨h.1, ?_⟩
  rcases h.2 with h0 | ⟨g', cap, cur, h1, h2, h3⟩
  · exact .inl h0
  · exact .inr ⟨g', cap, cur, h1, Nat.le_trans hb h2, h3⟩
theorem BSl.reads {w : World} {B n c : Nat} {A : Option Addr} {bs : List UInt8} (h : BSl w B (.slice A n c) bs) : Reads w B A (bs.map v8) := by
  obtain ⟨A', c', e, _, _, hr⟩ := h
  injection e with e
  subst e
  exact hr
end Go.Proofs.YteonmcconpfkjaaDoor

/- The walks of verify's cut, leaf and node, and of bytes.Equal. No condition. -/
namespace Go.Proofs.YteonmcconpfkjaaDoor
open Go Go.RowKit
attribute [local irreducible] mixW
attribute [local go_sem] n8_lo n8_hi n64_lo n64_hi n32_lo n32_hi
theorem vcut_any (x : Int) (w : World) : Calls Tryd.prog 116 #[.int .i64 x] w fun e w' => e = .returned (.int .i64 (cutW x)) ∧ w = w' := by
  by_cases h1 : x < 1
  · have Hd := Lib.hid (show cutW x = 32 from if_pos (.inl h1))
    go_enter Tryd.func116, Tryd.ntmps116
    go_wp2
    go_ret
    exact ⟨by rw [Hd.out]; rfl, rfl⟩
  · by_cases h2 : 32 < x
    · have Hd := Lib.hid (show cutW x = 32 from if_pos (.inr h2))
      go_enter Tryd.func116, Tryd.ntmps116
      go_wp2
      go_ret
      exact ⟨by rw [Hd.out]; rfl, rfl⟩
    · have h3 : (cutW x : Int) = x := by unfold cutW; rw [if_neg (by omega)]; omega
      have Hd := Lib.hid h3
      clear h3
      go_enter Tryd.func116, Tryd.ntmps116
      go_wp2
      go_ret
      exact ⟨by rw [Hd.out]; rfl, rfl⟩
theorem wpList_str {w : World} {ops : Array Oper} {rest : List Oper} {o : Oper} {a : Act} {Q : Exit → Act → World → Prop} (hgd : o.guard = none) (x : Operand) (ho : o.op = .convert 22 9 x) (v : Value) (bs : List UInt8) (B : Nat) (hx : a.eval x = v) (hv : BSl w B v bs)
    (h : wpList Tryd.prog ops Q rest (a.put o.dst (strV bs)) w) : wpList Tryd.prog ops Q (o :: rest) a w :=
  wpList_plain hgd fun K hK => by
    unfold Oper.wp execOp
    simp only [ho, hx, Sem.run_bind, run_bytes_str hv, Result.andThen_ok, Sem.run_pure]
    exact hK _ _ h
theorem wpList_eqStr {w : World} {ops : Array Oper} {rest : List Oper} {o : Oper} {a : Act} {Q : Exit → Act → World → Prop} (hgd : o.guard = none) (x y : Operand) (yt : TypeId) (ho : o.op = .binOp .eql 9 x y yt) (X Y : List UInt8) (hx : a.eval x = strV X) (hy : a.eval y = strV Y)
    (b : Bool) (hb : decide (X = Y) = b) (h : wpList Tryd.prog ops Q rest (a.put o.dst (.bool b)) w) : wpList Tryd.prog ops Q (o :: rest) a w :=
  wpList_plain hgd fun K hK => by
    have hg : (eqGuard .eql 9 x y (strV X) (strV Y)).run Tryd.prog w = .ok () w := by unfold strV; simp [eqGuard]
    unfold Oper.wp execOp
    simp only [ho, hx, hy, Sem.run_bind, hg, run_strEq, hb, Result.andThen_ok, Sem.run_pure]
    exact hK _ _ h
theorem equal_any (u v : Value) (x y : List UInt8) (w : World) (hu : BSl w w.heap.size u x) (hv : BSl w w.heap.size v y) (b : Bool) (hb : decide (x = y) = b) :
    Calls Tryd.prog 130 #[u, v] w fun e w' => e = .returned (.bool b) ∧ w = w' := by
  have Hu := Lib.hid hu
  have Hv := Lib.hid hv
  have Hb := Lib.hid hb
  clear hu hv hb
  go_enter Tryd.func130, Tryd.ntmps130
  go_wp2_with (first
    | (refine wpList_str rfl (.tmp 5) rfl u x _ rfl Hu.out ?_)
    | (refine wpList_str rfl (.tmp 7) rfl v y _ rfl Hv.out ?_)
    | (refine wpList_eqStr rfl (.tmp 6) (.tmp 8) _ rfl x y rfl rfl b Hb.out ?_))
  go_ret
  exact ⟨rfl, rfl⟩
/-- a step's cells: its text and its hash -/
def stepC (u : Value) (d : List UInt8) : Array Value := (u :: (dat d).toList).toArray
theorem stepC_size (u : Value) (d : List UInt8) : (stepC u d).size = 33 := by unfold stepC; simp [dat_size]
theorem stepC_one (u : Value) (d : List UInt8) (h : u.oneCell' = true) : ∀ v ∈ (stepC u d).toList, v.oneCell' = true := by
  intro v hv
  unfold stepC at hv
  simp only [List.mem_cons] at hv
  rcases hv with rfl | hv
  · exact h
  · exact arr_one _ _ v (by simpa [dat] using hv)
set_option maxRecDepth 100000 in
theorem build_step (A : Option Addr) (n c : Nat) (d : List UInt8) (w : World) : (Instr.build 186 #[(0, .slice A n c), (1, .agg (dat d))]).run Tryd.prog w = .ok (.agg (stepC (.slice A n c) d)) w := by kernel_rfl
theorem wpList_buildStep {w : World} {ops : Array Oper} {rest : List Oper} {o : Oper} {a : Act} {Q : Exit → Act → World → Prop} (hgd : o.guard = none) (x y : Operand) (ho : o.op = .build 186 #[(0, x), (1, y)]) (A : Option Addr) (n c : Nat) (d : List UInt8) (hx : a.eval x = .slice A n c) (hy : a.eval y = .agg (dat d))
    (h : wpList Tryd.prog ops Q rest (a.put o.dst (.agg (stepC (.slice A n c) d))) w) : wpList Tryd.prog ops Q (o :: rest) a w :=
  wpList_plain hgd fun K hK => by
    unfold Oper.wp execOp
    simp only [ho, List.map_toArray, List.map_cons, List.map_nil, hx, hy, Sem.run_bind, build_step A n c d, Result.andThen_ok, Sem.run_pure]
    exact hK _ _ h
theorem wpQuiet_buildStep {ops : Array Oper} {C : World → Prop} {K : Act → Prop} {a : Act} {o : Oper} {rest : List Oper} (hw : Region.wanted o (yielded ops a.tmps) = true) (x y : Operand) (ho : o.op = .build 186 #[(0, x), (1, y)]) (A : Option Addr) (n c : Nat) (d : List UInt8) (hx : a.eval x = .slice A n c) (hy : a.eval y = .agg (dat d))
    (h : wpQuiet Tryd.prog ops C K rest (a.put o.dst (.agg (stepC (.slice A n c) d)))) : wpQuiet Tryd.prog ops C K (o :: rest) a :=
  wpQuiet_wanted hw _ (fun w _ => by
    unfold Oper.quietAt execOp
    simp only [ho, List.map_toArray, List.map_cons, List.map_nil, hx, hy, Sem.run_bind, build_step A n c d, Result.andThen_ok, Sem.run_pure]
    exact ⟨rfl, rfl⟩) h
/-- a whole step is stored into a block -/
theorem wpList_storeStep {w : World} {ops : Array Oper} {rest : List Oper} {o : Oper} {a : Act} {Q : Exit → Act → World → Prop} (hgd : o.guard = none) (hdst : o.dst = none) (x y : Operand) (ho : o.op = .store 186 x y) (g : Nat) (hx : a.eval x = .pointer (some ⟨g, 0, none⟩)) (A : Option Addr) (n c : Nat) (d : List UInt8) (hy : a.eval y = .agg (stepC (.slice A n c) d))
    (t : TypeId) (cs : Array Value) (hg : Blk w g t cs) (hs : cs.size = 33) (h : ∀ w', Blk w' g t (stepC (.slice A n c) d) → w.grownBy w' (some g) → wpList Tryd.prog ops Q rest a w') : wpList Tryd.prog ops Q (o :: rest) a w := by
  refine wpList_storeB hgd hdst 186 x y ho g 0 hx (stepC (.slice A n c) d) hy t cs hg (by rw [stepC_size]; kernel_rfl) (by rw [stepC_size]; omega) (stepC_one _ _ rfl) fun w' h1 h2 => ?_
  rw [copied_all cs _ (by rw [stepC_size, hs])] at h1
  exact h w' h1 h2
def step0 : Array Value := (Value.slice none 0 0 :: (arr 32 fun _ => 0).toList).toArray
theorem step0_size : step0.size = 33 := by unfold step0; simp [arr_size]
end Go.Proofs.YteonmcconpfkjaaDoor
