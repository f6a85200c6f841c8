/- Texts that stand behind one another: RefF. No condition. -/
import Derived.Test.YtcdkadidkkbhpaaDoorS9
import Derived.Test.YtcdkadidkkbhpaaDoorS8
import Derived.Test.YtcdkadidkkbhpaaDoorS10
import Derived.Lib.SlBytesConst
/- The walk of the reference's Sum. No condition. -/
namespace Go.Proofs.YtcdkadidkkbhpaaDoor
open Go.RowKit
/-- the padded text while it is built: k zeros; j bytes of the length -/
def padZ (bs : List UInt8) (k : Nat) : List UInt8 := bs ++ [0x80] ++ List.replicate k 0
def padJ (bs : List UInt8) (j : Nat) : List UInt8 := padZ bs (zeros bs.length) ++ ((List.range 8).map (lenByte bs.length)).take j
theorem padZ_len (bs : List UInt8) (k : Nat) : (padZ bs k).length = bs.length + 1 + k := by simp [padZ]; omega
theorem padZ_succ (bs : List UInt8) (k : Nat) : padZ bs (k + 1) = padZ bs k ++ [0] := by
  unfold padZ; rw [List.replicate_succ']; simp
theorem padJ_len (bs : List UInt8) (j : Nat) (hj : j ≤ 8) : (padJ bs j).length = bs.length + 1 + zeros bs.length + j := by
  rw [padJ, List.length_append, padZ_len, List.length_take]; simp; omega
theorem padJ_succ (bs : List UInt8) (j : Nat) (hj : j < 8) : padJ bs (j + 1) = padJ bs j ++ [lenByte bs.length j] := by
  unfold padJ
  rw [List.take_succ_eq_append_getElem (by simpa using hj), List.append_assoc]
  simp
theorem padJ_8 (bs : List UInt8) : padJ bs 8 = pad bs := by
  unfold padJ padZ pad
  rw [List.take_of_length_le (by simp)]; simp
theorem zeros_lt (n : Nat) : zeros n < 64 := by unfold zeros; omega
theorem zeros_iff (n k : Nat) (hk : k ≤ zeros n) : (n + 1 + k) % 64 = 56 ↔ k = zeros n := by unfold zeros at *; omega
theorem getD_take64 (l : List UInt8) : ∀ j, j < 64 → (l.take 64).getD j 0 = l.getD j 0 := fun j hj => by
  rw [List.getD_eq_getElem?_getD, List.getD_eq_getElem?_getD, List.getElem?_take, if_pos hj]
theorem s8_size (s : S8) : (s.list.map v32).toArray.size = 8 := rfl
theorem s8_one (s : S8) : ∀ v ∈ (s.list.map v32).toArray.toList, v.oneCell' = true := by
  intro v hv
  obtain ⟨b, _, rfl⟩ := List.mem_map.1 hv
  rfl
def lenOf : Value → Nat
  | .slice _ n _ => n
  | _ => 0
attribute [local go_sem] n64_lo n64_hi n8_lo n8_hi
set_option maxHeartbeats 1000000 in
set_option maxRecDepth 100000 in
theorem rsum_any (v u : Value) (bs : List UInt8) (w : World) (ht : Tbl w w.heap.size v) (hb : BSl w w.heap.size u bs) (hbl : bs.length ≤ 140737488355200) :
    Calls Tryd.prog 71 #[v, u] w fun e w' => e = .returned (.agg (dat (sha bs))) ∧ Below w.heap.size w w' := by
  obtain ⟨gt, rfl, hgt, hT⟩ := ht
  obtain ⟨A, cap, rfl, hc1, hc2, hr⟩ := hb
  obtain ⟨i0, hi, hz0, hz1, hz2⟩ := info_parts (by kernel_rfl : (Tryd.prog.info? 5).map (fun i => (i.zero, i.size, i.bytes)) = some (some (.int .u8 0), 1, 1))
  have s1 := Lib.hid (show ([] : List Value).length + bs.length ≤ maxLen by unfold maxLen; simp; omega)
  have s2 := Lib.hid (show (([] : List Value).length + bs.length) * 1 ≤ 140737488355328 by simp; omega)
  have s3 := Lib.hid (show (([] : List Value) ++ bs.map v8).length + 1 ≤ maxLen by unfold maxLen; simp; omega)
  have s4 := Lib.hid (show ((([] : List Value) ++ bs.map v8).length + 1) * 1 ≤ 140737488355328 by simp; omega)
  go_enter Tryd.func71, Tryd.ntmps71
  have hR0 := Blk.new w 38 (arr 32 fun _ => 0)
  have hw0 := below_new1 w (Obj.cells (arr 32 fun _ => 0) 38)
  have hz : (w.alloc (Obj.cells (arr 32 fun _ => 0) 38)).heap.size = w.heap.size + 1 := by simp
  go_wp2_with (first
    | (refine wpl_at (w := w.alloc (Obj.cells _ 38)) (fun W => Blk W w.heap.size 38 (arr 32 fun _ => 0) ∧ Below w.heap.size w W ∧ W.heap.size = w.heap.size + 1) ⟨hR0, hw0, hz⟩ ?_; clear hR0 hw0 hz; rintro w0 ⟨hR0, hw0, hz⟩; have hr0 := hr.below hw0; have hn1 : Below (w.heap.size + 1) w0 (w0.alloc (Obj.cells #[] 5)) := (by have := below_new1 w0 (Obj.cells #[] 5); rw [hz] at this; exact this); have hoe : (w0.alloc (Obj.cells #[] 5)).ownsRow (w.heap.size + 1) 5 1 (.slice (some ⟨w.heap.size + 1, 0, none⟩) 0 0) ([] : List Value).length [] := (by have := own_empty w0 w0.heap.size 5 (Nat.le_refl _); rw [hz] at this; exact this))
    | (at_builtin; refine wpList_appendR rfl (.tmp 12) (.tmp 13) _ rfl (w.heap.size + 1) 5 i0 _ 1 Tryd.underlying23 hi hz0 hz1 hz2 rfl _ [] rfl hoe _ A _ _ _ rfl (hr0.below (hn1.mono (by omega))) (by rw [List.length_map]) (oneCell_v8 _) s1.out s2.out (by have := hn1.size; omega) ?_; intro u1 w1 hown1 hg1 hat1; have hb1 := below_own hn1 hoe hg1 (by have := hn1.size; omega); have hz1s : w.heap.size + 1 ≤ w1.heap.size := (by have := hb1.size; omega); have hz1t : w.heap.size + 1 ≤ (w1.alloc (Obj.cells #[v8 128] 5)).heap.size := Nat.le_trans hz1s (below_new1 w1 _).size)
    | (at_builtin; refine wpList_appendR rfl (.tmp 14) (.tmp 15) _ rfl (w.heap.size + 1) 5 i0 _ 1 Tryd.underlying23 hi hz0 hz1 hz2 rfl _ _ rfl (own_below hown1 (below_new1 w1 _)) (w1.heap.size + 1) (some ⟨w1.heap.size, 0, none⟩) 1 1 [v8 128] rfl (show Reads (w1.alloc (Obj.cells #[v8 128] 5)) (w1.heap.size + 1) (some ⟨w1.heap.size, 0, none⟩) [v8 128] from Reads.of_blk (Blk.new w1 5 #[v8 128]) (by omega) 0) rfl (fun u hu => by rw [List.mem_singleton] at hu; subst hu; rfl) s3.out s4.out hz1t ?_; intro u2 w2 hown2 hg2 hat2; have hb2 := below_own (hb1.trans ((below_new1 w1 _).mono hz1s)) (own_below hown1 (below_new1 w1 _)) hg2 hz1t))
  have hP0 : ([] : List Value) ++ bs.map v8 ++ [v8 128] = (padZ bs 0).map v8 := by simp [padZ]
  rw [hP0] at hown2
  have hzl := zeros_lt bs.length
  clear hP0 hown1 hg1 hat1 hb1 hz1s hz1t hg2 hat2 hoe hn1 hr0 s1 s2 s3 s4
  go_loopw [5] (fun v wr => ∃ k : Nat, k ≤ zeros bs.length ∧ lenOf v = bs.length + 1 + k ∧ wr.ownsRow (w.heap.size + 1) 5 1 v ((padZ bs k).map v8).length ((padZ bs k).map v8) ∧ Below (w.heap.size + 1) w0 wr) (fun v _ => bs.length + 100 - lenOf v)
  case atStart =>
    refine ⟨0, by omega, ?_, hown2, hb2⟩
    obtain ⟨A2, c2, rfl, _⟩ := Reads.own hown2
    simp [lenOf, padZ_len]
  case round =>
    clear hown2 hb2
    obtain ⟨k, hk, hlen, hown, hb⟩ := hrel
    obtain ⟨A2, c2, rfl, hd1, hd2, hrd⟩ := Reads.own hown
    have hml : ((padZ bs k).map v8).length = bs.length + 1 + k := by rw [List.length_map, padZ_len]
    have hbs : w.heap.size + 1 ≤ wr.heap.size := by have := hb.size; omega
    by_cases hlt : k = zeros bs.length
    · subst hlt
      have h56 := (zeros_iff bs.length _ hk).2 rfl
      have hnn : ((bs.length : Int) + 1 + (zeros bs.length : Nat)) % 64 = 56 := by omega
      have hown' : wr.ownsRow (w.heap.size + 1) 5 1 (.slice A2 (bs.length + 1 + zeros bs.length) c2) ((padJ bs 0).map v8).length ((padJ bs 0).map v8) := by
        have : padJ bs 0 = padZ bs (zeros bs.length) := by rw [padJ]; simp
        rw [this]; rw [hml] at hown ⊢; exact hown
      rw [hml]
      clear hlen h56 hown hrd hml
      go_wp2_with fail
      clear hnn
      go_loopw [5, 7] (fun v iv wr => ∃ j : Nat, j ≤ 8 ∧ iv = .int .i64 (56 - 8 * (j : Int)) ∧ wr.ownsRow (w.heap.size + 1) 5 1 v ((padJ bs j).map v8).length ((padJ bs j).map v8) ∧ Below (w.heap.size + 1) w0 wr) (fun _ iv _ => (intOf iv + 8).toNat)
      case atStart => exact ⟨0, by omega, rfl, hown', hb⟩
      case round =>
        clear hown' hb hbs
        obtain ⟨j, hj, rfl, hown, hb⟩ := hrel
        obtain ⟨A4, c4, rfl, he1, he2, hre⟩ := Reads.own hown
        have hml : ((padJ bs j).map v8).length = bs.length + 1 + zeros bs.length + j := by rw [List.length_map, padJ_len bs j hj]
        have hbs : w.heap.size + 1 ≤ wr.heap.size := by have := hb.size; omega
        by_cases hjt : j < 8
        · have s3 := Lib.hid (show ((padJ bs j).map v8).length + 1 ≤ maxLen by rw [hml]; unfold maxLen; omega)
          have s4 := Lib.hid (show (((padJ bs j).map v8).length + 1) * 1 ≤ 140737488355328 by rw [hml]; omega)
          have hbt : ∀ u, w.heap.size + 1 ≤ (wr.alloc (Obj.cells #[v8 u] 5)).heap.size := fun u => Nat.le_trans hbs (below_new1 wr _).size
          have hown'' : wr.ownsRow (w.heap.size + 1) 5 1 (.slice A4 (bs.length + 1 + zeros bs.length + j) c4) ((padJ bs j).map v8).length ((padJ bs j).map v8) := by rw [hml] at hown ⊢; exact hown
          have hby : (bs.length : Int) * 8 / 2 ^ (56 - 8 * j) % 256 = n8 (lenByte bs.length j) := by
            have := lenByte_val bs.length (7 - j) (by omega)
            rw [show 56 - 8 * j = 8 * (7 - j) by omega, this, show 7 - (7 - j) = j by omega]
          have hsucc := Lib.hid (padJ_succ bs j hjt)
          generalize lenByte bs.length j = lb at hby hsucc
          rw [hml]
          clear hown hre
          go_wp2_with (first
            | (at_builtin; refine wpList_appendR rfl (.tmp 32) (.tmp 38) _ rfl (w.heap.size + 1) 5 i0 _ 1 Tryd.underlying23 hi hz0 hz1 hz2 rfl _ _ rfl (own_below hown'' (below_new1 wr _)) (wr.heap.size + 1) (some ⟨wr.heap.size, 0, none⟩) 1 1 [v8 lb] rfl (show Reads (wr.alloc (Obj.cells #[v8 lb] 5)) (wr.heap.size + 1) (some ⟨wr.heap.size, 0, none⟩) [v8 lb] from Reads.of_blk (Blk.new wr 5 #[v8 lb]) (by omega) 0) rfl (fun u hu => by rw [List.mem_singleton] at hu; subst hu; rfl) s3.out s4.out (hbt lb) ?_; intro u3 w3 hown3 hg3 hat3; have hb3 := below_own (hb.trans ((below_new1 wr _).mono hbs)) (own_below hown'' (below_new1 wr _)) hg3 (hbt lb)))
          go_roundw
          case rel =>
            refine ⟨j + 1, by omega, by go_num, ?_, hb3⟩
            rw [hsucc.out, List.map_append]; exact hown3
          case measure => simp only [intOf]; omega
        · have ej : j = 8 := by omega
          subst ej
          rw [padJ_8] at hown hre hml
          rw [padJ_8]
          have hpl : (bs.length + 1 + zeros bs.length + 8) = (pad bs).length := by rw [pad_length]; omega
          rw [hpl] at hml
          rw [hml] at *
          have hmod := pad_mod bs
          have hle : (pad bs).length ≤ bs.length + 72 := by rw [pad_length]; omega
          have hbel : Below w.heap.size w wr := hw0.trans (hb.mono (by omega))
          have hT' := hT.below hbel hgt
          have hR' := hR0.below hb (by omega)
          have t0 : wr.cell? ⟨gt, 64, none⟩ = some (.int .u32 (n32 H0.a)) := (hT'.cell 64).trans rfl
          have t1 : wr.cell? ⟨gt, 65, none⟩ = some (.int .u32 (n32 H0.b)) := (hT'.cell 65).trans rfl
          have t2 : wr.cell? ⟨gt, 66, none⟩ = some (.int .u32 (n32 H0.c)) := (hT'.cell 66).trans rfl
          have t3 : wr.cell? ⟨gt, 67, none⟩ = some (.int .u32 (n32 H0.d)) := (hT'.cell 67).trans rfl
          have t4 : wr.cell? ⟨gt, 68, none⟩ = some (.int .u32 (n32 H0.e)) := (hT'.cell 68).trans rfl
          have t5 : wr.cell? ⟨gt, 69, none⟩ = some (.int .u32 (n32 H0.f)) := (hT'.cell 69).trans rfl
          have t6 : wr.cell? ⟨gt, 70, none⟩ = some (.int .u32 (n32 H0.g)) := (hT'.cell 70).trans rfl
          have t7 : wr.cell? ⟨gt, 71, none⟩ = some (.int .u32 (n32 H0.h)) := (hT'.cell 71).trans rfl
          go_wp2_with fail
          have hS8 : Blk (wr.alloc (Obj.cells #[.int .u32 (n32 H0.a), .int .u32 (n32 H0.b), .int .u32 (n32 H0.c), .int .u32 (n32 H0.d), .int .u32 (n32 H0.e), .int .u32 (n32 H0.f), .int .u32 (n32 H0.g), .int .u32 (n32 H0.h)] 124)) wr.heap.size 124 (H0.list.map v32).toArray := Blk.new _ _ _
          have hbw := below_new1 wr (Obj.cells #[.int .u32 (n32 H0.a), .int .u32 (n32 H0.b), .int .u32 (n32 H0.c), .int .u32 (n32 H0.d), .int .u32 (n32 H0.e), .int .u32 (n32 H0.f), .int .u32 (n32 H0.g), .int .u32 (n32 H0.h)] 124)
          obtain ⟨bp, offp, rfl, hbp, hcp⟩ := hre (by rw [List.length_map, pad_length]; omega)
          have hcp' : ∀ j, j < (pad bs).length → wr.cell? ⟨bp, offp + j, none⟩ = some (.int .u8 (n8 ((pad bs).getD j 0))) := fun j hj => by
            have := hcp j _ (by rw [List.getElem?_map, List.getElem?_eq_getElem hj]; rfl)
            rw [this, List.getD_eq_getElem?_getD, List.getElem?_eq_getElem hj]; rfl
          have hgt' : gt < wr.heap.size := hT'.lt
          obtain ⟨N, hN⟩ : ∃ N, (pad bs).length = 64 * N := ⟨(pad bs).length / 64, by omega⟩
          have hsha : sha bs = outBytes (hashN K0 H0 (pad bs) N) := by
            unfold sha sumOf; rw [hN]; congr 2; omega
          have Hsha := Lib.hid hsha
          have he1' : 64 * N ≤ c4 := by rw [List.length_map, padJ_8] at he1; omega
          rw [hN] at hcp' hle hpl ⊢
          clear he1 hown hre hcp hT hR0 t0 t1 t2 t3 t4 t5 t6 t7 hsha hml hmod
          revert hS8 hbw
          generalize wr.alloc (Obj.cells #[.int .u32 (n32 H0.a), .int .u32 (n32 H0.b), .int .u32 (n32 H0.c), .int .u32 (n32 H0.d), .int .u32 (n32 H0.e), .int .u32 (n32 H0.f), .int .u32 (n32 H0.g), .int .u32 (n32 H0.h)] 124) = w9
          intro hS8 hbw
          obtain ⟨wa, rfl⟩ : ∃ wa, wa = wr := ⟨_, rfl⟩
          go_loopw [9] (fun iv W => ∃ m : Nat, m ≤ N ∧ iv = .int .i64 (64 * (m : Int)) ∧ Blk W wa.heap.size 124 ((hashN K0 H0 (pad bs) m).list.map v32).toArray ∧ Below wa.heap.size wa W) (fun iv _ => (64 * (N : Int) - intOf iv).toNat)
          case atStart => exact ⟨0, by omega, rfl, hS8, hbw⟩
          case round =>
            clear hS8 hbw
            obtain ⟨m, hm, rfl, hS8, hbw⟩ := hrel
            by_cases hmt : m < N
            · have hcw : ∀ e, ∀ j, j < 64 → (plus wr e).cell? ⟨bp, offp + 64 * m + j, none⟩ = some (.int .u8 (n8 ((((pad bs).drop (64 * m)).take 64).getD j 0))) := fun e j hj => by
                rw [getD_take64 _ j hj, getD_drop, ← hcp' (64 * m + j) (by omega), ((plus_below wr e).cell (p := ⟨bp, _, none⟩) (Nat.lt_of_lt_of_le hbp hbw.size)), (hbw.cell (p := ⟨bp, _, none⟩) hbp), Nat.add_assoc]
              have htb : ∀ e, Tbl (plus wr e) (plus wr e).heap.size (.pointer (some ⟨gt, 0, none⟩)) := fun e => ⟨gt, rfl, Nat.lt_of_lt_of_le hgt' (Nat.le_trans hbw.size (plus_below wr e).size), (hT'.below hbw hgt').plus e⟩
              have hbp2 : ∀ e, bp < (plus wr e).heap.size := fun e => Nat.lt_of_lt_of_le hbp (Nat.le_trans hbw.size (plus_below wr e).size)
              have hdl : (((pad bs).drop (64 * m)).take 64).length = 64 := by rw [List.length_take, List.length_drop, hN]; omega
              have hnx := Lib.hid (show hashN K0 H0 (pad bs) (m + 1) = mixed K0 (hashN K0 H0 (pad bs) m) (((pad bs).drop (64 * m)).take 64) from (mixed_congr (getD_take64 _)).symm)
              generalize hashN K0 H0 (pad bs) m = q at *
              generalize ((pad bs).drop (64 * m)).take 64 = bl at *
              go_wp2_with fail
              refine wp_region_quiet_tail_plus 8 (by kernel_rfl) (by kernel_rfl) ?_
              simp only [List.take_succ_cons, List.take_zero, List.drop_succ_cons, List.drop_zero]
              repeat (first
                | (refine wpQuiet_load (by kernel_rfl) 124 (.tmp 8) rfl wa.heap.size rfl 124 (q.list.map v32).toArray (0, 0) _ (fun w hC => by obtain ⟨e, rfl⟩ := hC; exact hS8.plus e) Tryd.underlying124 rfl (by kernel_rfl) ?_; simp only [Act.put, List.setIfInBounds_toArray, List.set_cons_zero, List.set_cons_succ])
                | go_big_quiet_step ((go_at_call 83; exact calls_plus (block_any _ q _ _ _ _ bl _ (htb _) (by omega) (by omega) (by omega) (by omega) (hcw _) (hbp2 _)))))
              refine wpQuiet_nil ?_
              rintro _ ⟨e5, rfl⟩
              have hS5 := hS8.plus e5
              have hb5 := hbw.trans ((plus_below wr e5).mono hbw.size)
              clear hcw htb hbp2 hS8 hbw hdl
              generalize plus wr e5 = w5 at hS5 hb5 ⊢
              generalize hmx : mixed K0 q bl = r at hnx ⊢
              go_wp2_with (first
                | (refine wpList_storeB rfl rfl 124 (.tmp 8) (.tmp 57) rfl wa.heap.size 0 rfl (r.list.map v32).toArray rfl 124 _ hS5 (by kernel_rfl) (by rw [s8_size, s8_size]; decide) (s8_one r) ?_; intro w6 hS6 hon6))
              rw [copied_all _ _ (by rw [s8_size, s8_size])] at hS6
              have hb6 := below_only hb5 hon6 (Nat.le_refl _) hb5.size
              go_roundw
              case rel => exact ⟨m + 1, by omega, by go_num, by rw [hnx.out]; exact hS6, hb6⟩
              case measure => simp only [intOf]; omega
            · have em : m = N := by omega
              subst em
              have hR9 := hR'.below hbw hR'.lt
              have hS5 := hS8
              have hbelw : Below w.heap.size w wr := hbel.trans (hbw.mono hbel.size)
              have hwl : w.heap.size < wr.heap.size := hR9.lt
              have hwS : w.heap.size < wa.heap.size := hR'.lt
              go_wp2_with fail
              obtain ⟨D, hDe⟩ : ∃ D, D = wr.heap.size := ⟨_, rfl⟩
              have hDS : wa.heap.size < D := by rw [hDe]; exact hS8.lt
              have hD0 : Blk (wr.alloc (Obj.cells (arr 32 fun _ => 0) 38)) D 38 (arr 32 fun _ => 0) := by rw [hDe]; exact Blk.new _ _ _
              have hS6 := hS8.alloc (Obj.cells (arr 32 fun _ => 0) 38)
              have hR6 := hR9.alloc (Obj.cells (arr 32 fun _ => 0) 38)
              have hb6 := hbelw.alloc hbelw.size (Obj.cells (arr 32 fun _ => 0) 38)
              rw [← hDe]
              clear hS8 hR9 hR' hbelw hbw hT' hcp' hDe hb hbel hS5
              have Hq := Hsha
              generalize hashN K0 H0 (pad bs) m = q at *
              refine wp_at (fun W => Blk W D 38 (arr 32 fun p => if p < 0 then outB q p else 0) ∧ Blk W wa.heap.size 124 (q.list.map v32).toArray ∧ Blk W w.heap.size 38 (arr 32 fun _ => 0) ∧ Below w.heap.size w W) ⟨hD0, hS6, hR6, hb6⟩ ?_
              clear hD0 hS6 hR6 hb6
              rintro wz ⟨hD, hS5, hR5, hbel5⟩
              go_loopw [11] (fun i wr => ∃ j : Nat, j ≤ 32 ∧ i = .int .i64 j ∧ Blk wr D 38 (arr 32 fun p => if p < j then outB q p else 0) ∧ Blk wr wa.heap.size 124 (q.list.map v32).toArray ∧ Blk wr w.heap.size 38 (arr 32 fun _ => 0) ∧ Below w.heap.size w wr) (fun i _ => 32 - (intOf i).toNat)
              case atStart => exact ⟨0, by omega, rfl, hD, hS5, hR5, hbel5⟩
              case round =>
                clear hD hS5 hR5 hbel5
                obtain ⟨l, hl, rfl, hD, hS5, hR5, hbel5⟩ := hrel
                by_cases hl32 : l < 32
                · have cS := hS5.cell (l / 4)
                  rw [list_at q (l / 4) (by omega)] at cS
                  have cD := hD.cell l
                  rw [arr_at _ _ _ hl32] at cD
                  have fD := hD.frozen l
                  have ei : ((l : Int) / 4).toNat = l / 4 := by omega
                  go_wp2
                  go_roundw
                  case rel =>
                    have hstep := hD.set l (v8 (outB q l))
                    rw [arr_set, arr_congr 32 _ (fun p => if p < l + 1 then outB q p else 0) (fun p _ => by
                      by_cases h1 : p = l
                      · rw [if_pos h1, if_pos (by omega), h1]
                      · rw [if_neg h1]
                        by_cases h2 : p < l
                        · rw [if_pos h2, if_pos (by omega)]
                        · rw [if_neg h2, if_neg (by omega)])] at hstep
                    refine ⟨l + 1, by omega, by go_num, ?_, hS5.far (p := ⟨D, _, none⟩) (by show _ ≠ D; omega) _, hR5.far (p := ⟨D, _, none⟩) (by show _ ≠ D; omega) _, hbel5.setCell (p := ⟨D, _, none⟩) (by show _ ≤ D; omega) _⟩
                    rw [show (q.list[l / 4]?.getD 0) = q.list.getD (l / 4) 0 from rfl, outB_val]
                    exact hstep
                  case measure => simp [intOf]; omega
                · have el : l = 32 := by omega
                  rw [el] at hD
                  clear el
                  have hDf : arr 32 (fun p => if p < 32 then outB q p else 0) = arr 32 (outB q) := arr_congr 32 _ _ fun p hp => if_pos hp
                  rw [hDf] at hD
                  clear hDf
                  go_wp2_with (first
                    | (refine wpList_load_row rfl 38 (.tmp 10) rfl D rfl _ _ _ _ hD Tryd.underlying38 rfl (by kernel_rfl) ?_)
                    | (refine wpList_storeArr rfl rfl 38 (.tmp 4) (.tmp 75) rfl w.heap.size rfl 32 (outB q) _ rfl _ hR5 (by kernel_rfl) ?_; intro w6 hR6 hon6))
                  have hb6 := below_only hbel5 hon6 (Nat.le_refl _) hbel5.size
                  refine bodyPost_ret (results_cell_row (p := 4) (ty := 38) rfl _ _ w.heap.size _ _ _ _ rfl hR6 Tryd.underlying38 rfl (by kernel_rfl)) rfl ⟨?_, hb6⟩
                  rw [Hq.out, outBytes_dat]
    · have h56 : ¬ (bs.length + 1 + k) % 64 = 56 := fun h => hlt ((zeros_iff bs.length k hk).1 h)
      have hnn : ¬ (((bs.length + 1 + k : Nat) : Int) % 64 = 56) := by omega
      have s3 := Lib.hid (show ((padZ bs k).map v8).length + 1 ≤ maxLen by rw [hml]; unfold maxLen; omega)
      have s4 := Lib.hid (show (((padZ bs k).map v8).length + 1) * 1 ≤ 140737488355328 by rw [hml]; omega)
      have hbt : w.heap.size + 1 ≤ (wr.alloc (Obj.cells #[v8 0] 5)).heap.size := Nat.le_trans hbs (below_new1 wr _).size
      rw [hml] at hown
      have hown' : wr.ownsRow (w.heap.size + 1) 5 1 (.slice A2 (bs.length + 1 + k) c2) ((padZ bs k).map v8).length ((padZ bs k).map v8) := by rw [hml]; exact hown
      rw [hml]
      have hk' : k < zeros bs.length := by omega
      clear hlen h56 hk hown hrd
      go_wp2_with (first
        | (at_builtin; refine wpList_appendR rfl (.tmp 21) (.tmp 22) _ rfl (w.heap.size + 1) 5 i0 _ 1 Tryd.underlying23 hi hz0 hz1 hz2 rfl _ _ rfl (own_below hown' (below_new1 wr _)) (wr.heap.size + 1) (some ⟨wr.heap.size, 0, none⟩) 1 1 [v8 0] rfl (show Reads (wr.alloc (Obj.cells #[v8 0] 5)) (wr.heap.size + 1) (some ⟨wr.heap.size, 0, none⟩) [v8 0] from Reads.of_blk (Blk.new wr 5 #[v8 0]) (by omega) 0) rfl (fun u hu => by rw [List.mem_singleton] at hu; subst hu; rfl) s3.out s4.out hbt ?_; intro u3 w3 hown3 hg3 hat3; have hb3 := below_own (hb.trans ((below_new1 wr _).mono hbs)) (own_below hown' (below_new1 wr _)) hg3 hbt))
      go_roundw
      case rel =>
        obtain ⟨A3, c3, rfl, _⟩ := Reads.own hown3
        refine ⟨k + 1, by omega, ?_, ?_, hb3⟩
        · simp only [lenOf, List.length_append, hml]; simp; omega
        · rw [padZ_succ, List.map_append]; exact hown3
      case measure =>
        obtain ⟨A3, c3, rfl, _⟩ := Reads.own hown3
        simp only [lenOf, List.length_append, hml]
        have hz64 := hzl
        show bs.length + 100 - (bs.length + 1 + k + 1) < bs.length + 100 - (bs.length + 1 + k)
        omega
end Go.Proofs.YtcdkadidkkbhpaaDoor
