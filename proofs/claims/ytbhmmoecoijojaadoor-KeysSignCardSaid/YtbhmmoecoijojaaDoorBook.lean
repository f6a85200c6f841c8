/- The walks of deponentbook's Same, Roomy, Intact at bytes. No condition. -/
import Derived.Test.YtbhmmoecoijojaaDoorCut
import Derived.Test.YtbhmmoecoijojaaDoorMake
import Derived.Test.YtbhmmoecoijojaaDoorShaSum
import Derived.Lib.Hide
import Derived.Test.YtbhmmoecoijojaaDoorChecked
import Derived.WalkKit
import Derived.BigQuiet
import Derived.Deep.DeepCutAuto
import Derived.Deep.DeepMust
import Derived.Outline
namespace Go.Proofs.YtbhmmoecoijojaaDoor
open Go.RowKit
attribute [local go_sem] n8_lo n8_hi
theorem BSl.cellAt {w : World} {A : Option Addr} {n cap : Nat} {bs : List UInt8} (h : BSl w w.heap.size (.slice A n cap) bs) (k : Nat) (hk : k < n) :
    ∃ b off, A = some ⟨b, off, none⟩ ∧ b < w.heap.size ∧ ∀ j, j < n → w.cell? ⟨b, off + j, none⟩ = some (.int .u8 (n8 (bs.getD j 0))) := by
  obtain ⟨A', cap', e1, hc1, hc2, hr⟩ := h
  injection e1 with e1 e2 e3
  subst e1; subst e3; subst e2
  obtain ⟨b, off, rfl, hb, hc⟩ := hr (by rw [List.length_map]; omega)
  refine ⟨b, off, rfl, hb, fun j hj => hc j _ ?_⟩
  rw [List.getElem?_map, List.getElem?_eq_getElem hj, List.getD_eq_getElem?_getD, List.getElem?_eq_getElem hj]; rfl
theorem take_same (xs ys : List UInt8) (k : Nat) (hx : k < xs.length) (hy : k < ys.length) (h : xs.take k = ys.take k) (he : xs.getD k 0 = ys.getD k 0) : xs.take (k + 1) = ys.take (k + 1) := by
  rw [List.take_succ_eq_append_getElem hx, List.take_succ_eq_append_getElem hy, h]
  simp [List.getD_eq_getElem?_getD, hx, hy] at he
  rw [he]
theorem take_apart (xs ys : List UInt8) (k : Nat) (he : xs.getD k 0 ≠ ys.getD k 0) : decide (xs = ys) = false := by
  rw [decide_eq_false_iff_not]; rintro rfl; exact he rfl
set_option maxRecDepth 100000 in
theorem same_any (u v : Value) (xs ys : List UInt8) (w : World) (hu : BSl w w.heap.size u xs) (hv : BSl w w.heap.size v ys) :
    Calls Tryd.prog 74 #[u, v] w fun e w' => e = .returned (.bool (decide (xs = ys))) ∧ Below w.heap.size w w' := by
  obtain ⟨A1, c1, rfl, h11, h12, hr1⟩ := hu
  obtain ⟨A2, c2, rfl, h21, h22, hr2⟩ := hv
  have hu : BSl w w.heap.size (.slice A1 xs.length c1) xs := ⟨A1, c1, rfl, h11, h12, hr1⟩
  have hv : BSl w w.heap.size (.slice A2 ys.length c2) ys := ⟨A2, c2, rfl, h21, h22, hr2⟩
  clear hr1 hr2
  by_cases hl : xs.length = ys.length
  · have hD := Lib.hid (show xs.take xs.length = ys.take xs.length → decide (xs = ys) = true from fun h => by rw [List.take_length, hl, List.take_length] at h; exact decide_eq_true h)
    have hL := Lib.hid hl
    have hA := Lib.hid (take_apart xs ys)
    have hS := Lib.hid (take_same xs ys)
    rw [← hl] at hv ⊢
    have h21' : xs.length ≤ c2 := by omega
    generalize decide (xs = ys) = d at hD hA ⊢
    clear hl h21
    go_enter Tryd.func74, Tryd.ntmps74
    go_wp2
    go_loopw [5] (fun i wr => ∃ k : Nat, k ≤ xs.length ∧ i = .int .i64 k ∧ xs.take k = ys.take k ∧ Below w.heap.size w wr) (fun i _ => xs.length - (intOf i).toNat)
    case atStart => exact ⟨0, by omega, rfl, by simp, Below.refl _ _⟩
    case round =>
      obtain ⟨k, hk, rfl, ht, hbel⟩ := hrel
      have Ht := Lib.hid ht
      clear ht
      by_cases hlt : k < xs.length
      · obtain ⟨b1, o1, rfl, hb1, hc1⟩ := (hu.next hbel).cellAt k hlt
        obtain ⟨b2, o2, rfl, hb2, hc2⟩ := (hv.next hbel).cellAt k hlt
        have g1 := hc1 k hlt
        have g2 := hc2 k hlt
        clear hc1 hc2 hu hv
        by_cases he : xs.getD k 0 = ys.getD k 0
        · have hs := Lib.hid (hS.out k hlt (by have := hL.out; omega) Ht.out he)
          have he' : (n8 (xs.getD k 0) != n8 (ys.getD k 0)) = false := by rw [he]; simp
          generalize n8 (xs.getD k 0) = x1 at g1 he'
          generalize n8 (ys.getD k 0) = x2 at g2 he'
          clear he
          go_wp2
          go_quiet (fail)
          go_wp2
          go_roundw
          case rel => exact ⟨k + 1, by omega, by go_num, hs.out, below_drewN hbel nq⟩
          case measure => simp [intOf]; omega
        · have he' : (n8 (xs.getD k 0) != n8 (ys.getD k 0)) = true := by rw [bne_iff_ne]; exact fun e => he (n8_inj e)
          have hd := Lib.hid (hA.out k he)
          generalize n8 (xs.getD k 0) = x1 at g1 he'
          generalize n8 (ys.getD k 0) = x2 at g2 he'
          clear he
          go_wp2
          go_quiet (fail)
          go_wp2
          go_ret
          rw [hd.out]
          exact ⟨rfl, below_drewN hbel nq⟩
      · have ek : k = xs.length := by omega
        have hd := Lib.hid (hD.out (by rw [← ek]; exact Ht.out))
        go_wp2
        go_ret
        rw [hd.out]
        exact ⟨rfl, hbel⟩
  · have hd := Lib.hid (show decide (xs = ys) = false from decide_eq_false fun e => hl (by rw [e]))
    have hl' : ((xs.length : Int) != (ys.length : Int)) = true := by rw [bne_iff_ne]; omega
    clear hl hu hv
    go_enter Tryd.func74, Tryd.ntmps74
    go_wp2
    go_ret
    rw [hd.out]
    exact ⟨rfl, Below.refl _ _⟩
def roomF (bs : List UInt8) (m : UInt8) (k p : Nat) : UInt8 := if p < bs.length then bs.getD p 0 else if p < k then m else 0
theorem room_0 (bs : List UInt8) (m : UInt8) (n : Nat) (h : bs.length ≤ n) : arr n (fun p => if 0 ≤ p ∧ p < 0 + Nat.min bs.length n then bs.getD (p - 0) 0 else (fun _ => 0) p) = arr n (roomF bs m bs.length) := by
  apply arr_congr
  intro p hp
  unfold roomF
  have e : Nat.min bs.length n = bs.length := Nat.min_eq_left h
  rw [e]
  by_cases h1 : p < bs.length
  · rw [if_pos h1, if_pos (by omega)]; rfl
  · rw [if_neg h1, if_neg (by omega), if_neg h1]
theorem room_step (bs : List UInt8) (m : UInt8) (k : Nat) (hk : bs.length ≤ k) : (fun p => if p = k then m else roomF bs m k p) = roomF bs m (k + 1) := by
  funext p
  unfold roomF
  by_cases h : p = k
  · rw [if_pos h, if_neg (by omega), if_pos (by omega)]
  · rw [if_neg h]
    by_cases h1 : p < bs.length
    · rw [if_pos h1, if_pos h1]
    · rw [if_neg h1, if_neg h1]
      by_cases h2 : p < k
      · rw [if_pos h2, if_pos (by omega)]
      · rw [if_neg h2, if_neg (by omega)]
theorem room_end (bs : List UInt8) (m : UInt8) (n p : Nat) (hp : p < bs.length + n) : roomF bs m (bs.length + n) p = (bs ++ List.replicate n m).getD p 0 := by
  unfold roomF
  rw [List.getD_eq_getElem?_getD, List.getD_eq_getElem?_getD]
  by_cases h1 : p < bs.length
  · rw [if_pos h1, List.getElem?_append_left h1]
  · rw [if_neg h1, if_pos hp, List.getElem?_append_right (by omega), List.getElem?_replicate, if_pos (by omega)]; rfl
theorem zeros_arr (n : Nat) : (List.replicate n (Value.int .u8 0)).toArray = arr n (fun _ => 0) := by
  apply Array.ext
  · simp [arr]
  · intro i h1 h2
    simp [arr]; rfl
set_option maxRecDepth 100000 in
theorem roomy_any (u : Value) (bs : List UInt8) (m : UInt8) (w : World) (hu : BSl w w.heap.size u bs) (hl : bs.length ≤ 140737488355264) :
    Calls Tryd.prog 30 #[u, .int .u8 (n8 m)] w fun e w' => ∃ v, e = .returned v ∧ BSl w' w'.heap.size v (bs ++ List.replicate 80 m) ∧ Below w.heap.size w w' := by
  obtain ⟨i0, hi, hz0, hz1, hz2⟩ := info_parts (by kernel_rfl : (Tryd.prog.info? 5).map (fun i => (i.zero, i.size, i.bytes)) = some (some (.int .u8 0), 1, 1))
  obtain ⟨A1, c1, rfl, h11, h12, hr1⟩ := hu
  obtain ⟨N, hN⟩ : ∃ N, N = bs.length + 80 := ⟨_, rfl⟩
  have eN : (bs.length : Int) + 80 = (N : Int) := by omega
  have HN := Lib.hid hN
  have hN1 : bs.length + 80 ≤ N := by omega
  have hN2 : N ≤ bs.length + 80 := by omega
  clear hN
  have hD := Blk.new w 5 (List.replicate N (Value.int .u8 0)).toArray
  have hb2 := below_new1 w (Obj.cells (List.replicate N (Value.int .u8 0)).toArray 5)
  go_enter Tryd.func30, Tryd.ntmps30
  go_wp2_with (first
    | (refine wpList_makeB rfl _ _ _ rfl 5 i0 _ Tryd.underlying32 hi hz0 hz1 rfl _ _ N rfl rfl (by rw [hz2]; omega) (by omega) ?_; refine wpl_at (fun W => Blk W w.heap.size 5 (List.replicate N (Value.int .u8 0)).toArray ∧ Below w.heap.size w W) ⟨hD, hb2⟩ ?_; clear hD hb2; rintro w3 ⟨hD, hb3⟩; rw [zeros_arr] at hD)
    | (refine wpList_copyR rfl (.tmp 11) (.tmp 12) _ _ rfl 5 Tryd.underlying32 (by kernel_rfl) w.heap.size 0 N N A1 _ c1 rfl rfl _ _ hD _ _ (hr1.below hb3) (by rw [List.length_map]) (by rw [arr_size]; show 0 + min bs.length N ≤ N; omega) (oneCell_v8 _) ?_; intro w4 hD4 hon4))
  rw [copied_arr N (fun _ => 0) 0 bs N (by show 0 + min bs.length N ≤ N; omega), room_0 bs m N (by omega)] at hD4
  have hb4 := below_only hb3 hon4 (Nat.le_refl _) hb3.size
  clear hD hb3 hon4 hr1
  go_loopw [6] (fun iv wr => ∃ k : Nat, bs.length ≤ k ∧ k ≤ N ∧ iv = .int .i64 k ∧ Blk wr w.heap.size 5 (arr N (roomF bs m k)) ∧ Below w.heap.size w wr) (fun iv _ => N - (intOf iv).toNat)
  case atStart => exact ⟨bs.length, Nat.le_refl _, by omega, rfl, hD4, hb4⟩
  case round =>
    clear hD4 hb4
    obtain ⟨k, hk0, hk, rfl, hD, hb3⟩ := hrel
    by_cases hlt : k < N
    · have cD := hD.cell k
      rw [arr_at _ _ _ hlt] at cD
      have fD := hD.frozen k
      go_wp2
      go_roundw
      case rel =>
        have hst := hD.set k (v8 m)
        rw [arr_set, room_step bs m k hk0] at hst
        exact ⟨k + 1, by omega, by omega, by go_num, hst, hb3.setCell (p := ⟨_, _, none⟩) (Nat.le_refl _) _⟩
      case measure => simp [intOf]; omega
    · have ek : k = N := by omega
      subst ek
      go_wp2
      go_ret
      refine ⟨_, rfl, ?_, hb3⟩
      have h80 : (bs ++ List.replicate 80 m).length = k := by rw [HN.out]; simp
      exact BSl.of_arr hD _ hD.lt _ h80 (fun p hp => by have e := HN.out; subst e; exact room_end bs m 80 p hp) (by omega)
theorem app_drop (bs : List UInt8) (m : UInt8) (k : Nat) (h1 : bs.length ≤ k) (h2 : k < bs.length + 80) : (bs ++ List.replicate 80 m).getD k 0 = m := by
  rw [List.getD_eq_getElem?_getD, List.getElem?_append_right h1, List.getElem?_replicate, if_pos (by omega)]; rfl
set_option maxRecDepth 100000 in
theorem intact_any (u v : Value) (bs : List UInt8) (m : UInt8) (w : World) (hu : BSl w w.heap.size u (bs ++ List.replicate 80 m)) (hv : BSl w w.heap.size v bs) (hl : bs.length ≤ 140737488355264) :
    Calls Tryd.prog 39 #[u, v, .int .u8 (n8 m)] w fun e w' => e = .returned (.bool true) ∧ Below w.heap.size w w' := by
  obtain ⟨A1, c1, rfl, h11, h12, hr1⟩ := hu
  obtain ⟨A2, c2, rfl, h21, h22, hr2⟩ := hv
  have hu : BSl w w.heap.size (.slice A1 (bs ++ List.replicate 80 m).length c1) (bs ++ List.replicate 80 m) := ⟨A1, c1, rfl, h11, h12, hr1⟩
  have hv : BSl w w.heap.size (.slice A2 bs.length c2) bs := ⟨A2, c2, rfl, h21, h22, hr2⟩
  clear hr1 hr2
  have h80 : (bs ++ List.replicate 80 m).length = bs.length + 80 := by simp
  rw [h80] at hu h11 ⊢
  have hh := head_b hu bs.length (by omega)
  rw [List.take_left] at hh
  have hM := Lib.hid (app_drop bs m)
  generalize bs ++ List.replicate 80 m = xs at hu hM
  clear h80
  obtain ⟨N, hN⟩ : ∃ N, N = bs.length + 80 := ⟨_, rfl⟩
  have eN : (bs.length : Int) + 80 = (N : Int) := by omega
  have hN1 : bs.length + 80 ≤ N := by omega
  have hN2 : N ≤ bs.length + 80 := by omega
  rw [← hN] at hu h11 ⊢
  clear hN
  have hne : ((N : Int) != (N : Int)) = false := by simp
  go_enter Tryd.func39, Tryd.ntmps39
  go_wp2_with fail
  refine (same_any _ _ bs bs w hh hv).mono ?_
  rintro e w1 ⟨rfl, hb1⟩
  rw [decide_eq_true (rfl : bs = bs)]
  go_wp2_with fail
  go_loopw [7] (fun iv wr => ∃ k : Nat, bs.length ≤ k ∧ k ≤ N ∧ iv = .int .i64 k ∧ Below w.heap.size w wr) (fun iv _ => N - (intOf iv).toNat)
  case atStart => exact ⟨bs.length, Nat.le_refl _, by omega, rfl, hb1⟩
  case round =>
    obtain ⟨k, hk0, hk, rfl, hbel⟩ := hrel
    clear hh hb1
    by_cases hlt : k < N
    · obtain ⟨b1, o1, rfl, hb1, hc1⟩ := (hu.next hbel).cellAt k hlt
      have g1 := hc1 k hlt
      rw [hM.out k hk0 (by omega)] at g1
      clear hc1 hu hv
      go_wp2
      go_roundw
      case rel => exact ⟨k + 1, by omega, by omega, by go_num, hbel⟩
      case measure => simp [intOf]; omega
    · have ek : k = N := by omega
      subst ek
      go_wp2
      go_ret
      exact ⟨rfl, hbel⟩
end Go.Proofs.YtbhmmoecoijojaaDoor
