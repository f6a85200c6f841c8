/- Texts that stand behind one another: Book, RefW, RencB, RencC, RencD. No condition. -/
import Derived.Test.YtcdkadidkkbhpaaDoorS12
import Derived.Test.YtcdkadidkkbhpaaDoorS5
import Derived.Lib.Hide
import Derived.Test.YtcdkadidkkbhpaaDoorChecked
import Derived.WalkKit
import Derived.BigQuiet
import Derived.Deep.DeepCutAuto
import Derived.Deep.DeepMust
import Derived.Outline
import Derived.Test.YtcdkadidkkbhpaaDoorS21
import Derived.Test.YtcdkadidkkbhpaaDoorS35
import Derived.Test.YtcdkadidkkbhpaaDoorS34
import Derived.Test.YtcdkadidkkbhpaaDoorS22
import Derived.Test.YtcdkadidkkbhpaaDoorS20
/- The walks of deponentbook's Same, Roomy, Intact at bytes. No condition. -/
namespace Go.Proofs.YtcdkadidkkbhpaaDoor
open Go.RowKit
attribute [local go_sem] n8_lo n8_hi
theorem BSl.cellAt {w : World} {A : Option Addr} {n cap : Nat} {bs : List UInt8} (h : BSl w w.heap.size (.slice A n cap) bs) (k : Nat) (hk : k < n) :
    ∃ b off, A = some ⟨b, off, none⟩ ∧ b < w.heap.size ∧ ∀ j, j < n → w.cell? ⟨b, off + j, none⟩ = some (.int .u8 (n8 (bs.getD j 0))) := by
  obtain ⟨A', cap', e1, hc1, hc2, hr⟩ := h
  injection e1 with e1 e2 e3
  subst e1; subst e3; subst e2
  obtain ⟨b, off, rfl, hb, hc⟩ := hr (by rw [List.length_map]; omega)
  refine ⟨b, off, rfl, hb, fun j hj => hc j _ ?_⟩
  rw [List.getElem?_map, List.getElem?_eq_getElem hj, List.getD_eq_getElem?_getD, List.getElem?_eq_getElem hj]; rfl
theorem take_same (xs ys : List UInt8) (k : Nat) (hx : k < xs.length) (hy : k < ys.length) (h : xs.take k = ys.take k) (he : xs.getD k 0 = ys.getD k 0) : xs.take (k + 1) = ys.take (k + 1) := by
  rw [List.take_succ_eq_append_getElem hx, List.take_succ_eq_append_getElem hy, h]
  simp [List.getD_eq_getElem?_getD, hx, hy] at he
  rw [he]
theorem take_apart (xs ys : List UInt8) (k : Nat) (he : xs.getD k 0 ≠ ys.getD k 0) : decide (xs = ys) = false := by
  rw [decide_eq_false_iff_not]; rintro rfl; exact he rfl
def roomF (bs : List UInt8) (m : UInt8) (k p : Nat) : UInt8 := if p < bs.length then bs.getD p 0 else if p < k then m else 0
theorem room_0 (bs : List UInt8) (m : UInt8) (n : Nat) (h : bs.length ≤ n) : arr n (fun p => if 0 ≤ p ∧ p < 0 + Nat.min bs.length n then bs.getD (p - 0) 0 else (fun _ => 0) p) = arr n (roomF bs m bs.length) := by
  apply arr_congr
  intro p hp
  unfold roomF
  have e : Nat.min bs.length n = bs.length := Nat.min_eq_left h
  rw [e]
  by_cases h1 : p < bs.length
  · rw [if_pos h1, if_pos (by omega)]; rfl
  · rw [if_neg h1, if_neg (by omega), if_neg h1]
theorem room_step (bs : List UInt8) (m : UInt8) (k : Nat) (hk : bs.length ≤ k) : (fun p => if p = k then m else roomF bs m k p) = roomF bs m (k + 1) := by
  funext p
  unfold roomF
  by_cases h : p = k
  · rw [if_pos h, if_neg (by omega), if_pos (by omega)]
  · rw [if_neg h]
    by_cases h1 : p < bs.length
    · rw [if_pos h1, if_pos h1]
    · rw [if_neg h1, if_neg h1]
      by_cases h2 : p < k
      · rw [if_pos h2, if_pos (by omega)]
      · rw [if_neg h2, if_neg (by omega)]
theorem room_end (bs : List UInt8) (m : UInt8) (n p : Nat) (hp : p < bs.length + n) : roomF bs m (bs.length + n) p = (bs ++ List.replicate n m).getD p 0 := by
  unfold roomF
  rw [List.getD_eq_getElem?_getD, List.getD_eq_getElem?_getD]
  by_cases h1 : p < bs.length
  · rw [if_pos h1, List.getElem?_append_left h1]
  · rw [if_neg h1, if_pos hp, List.getElem?_append_right (by omega), List.getElem?_replicate, if_pos (by omega)]; rfl
theorem zeros_arr (n : Nat) : (List.replicate n (Value.int .u8 0)).toArray = arr n (fun _ => 0) := by
  apply Array.ext
  · simp [arr]
  · intro i h1 h2
    simp [arr]; rfl
theorem app_drop (bs : List UInt8) (m : UInt8) (k : Nat) (h1 : bs.length ≤ k) (h2 : k < bs.length + 80) : (bs ++ List.replicate 80 m).getD k 0 = m := by
  rw [List.getD_eq_getElem?_getD, List.getElem?_append_right h1, List.getElem?_replicate, if_pos (by omega)]; rfl
end Go.Proofs.YtcdkadidkkbhpaaDoor

/- Writing beside the reference: Roomy with its row, Writer.Digest with an exact frame, the reference's Number and Bytes. No condition. -/
namespace Go.Proofs.YtcdkadidkkbhpaaDoor
open Go Go.RowKit
attribute [local irreducible] mixW
attribute [local go_sem] n8_lo n8_hi n64_lo n64_hi
set_option maxHeartbeats 1000000 in
set_option maxRecDepth 100000 in
theorem digest_two (g : Nat) (v : Value) (bs d : List UInt8) (hd : d.length = 32) (w : World) (B : Nat) (hW : Wr w B g v bs) (hB : B ≤ w.heap.size) (hl : bs.length ≤ 140737488355264) :
    Calls Tryd.prog 44 #[.pointer (some ⟨g, 0, none⟩), .agg (dat d)] w fun e w' => e = .returned (.tuple #[]) ∧ ∃ u, Wr w' B g u (bs ++ d) ∧ Two w w' g v u := by
  have hne := hW.ne
  obtain ⟨hg, hblk, hown⟩ := hW
  obtain ⟨i0, hi, hz0, hz1, hz2⟩ := info_parts (by kernel_rfl : (Tryd.prog.info? 5).map (fun i => (i.zero, i.size, i.bytes)) = some (some (.int .u8 0), 1, 1))
  have hlt := hblk.lt
  have hD := Blk.new w 38 (dat d)
  have hb1 := below_new1 w (Obj.cells (dat d) 38)
  go_enter Tryd.func44, Tryd.ntmps44
  go_wp2
  refine wp_at (fun W => Blk W w.heap.size 38 (dat d) ∧ Below w.heap.size w W) ⟨hD, hb1⟩ ?_
  clear hD hb1
  rintro W ⟨hD, hb1⟩
  have hblkD := (hblk.below hb1 hlt).drewN 1
  have hownD : (W.drewN 1).ownsRow B 5 1 v (bs.map v8).length (bs.map v8) := own_below hown (below_drewN hb1 1)
  have htwD := ((Two.refl w g v).below hb1).drewN 1
  have hDD := hD.drewN 1
  have hBD : B ≤ (W.drewN 1).heap.size := Nat.le_trans hB hb1.size
  have hrd := Reads.of_blk hDD hDD.lt 0
  rw [dat_eq d hd] at hrd
  have hlD : (d.map v8).length = 32 := by rw [List.length_map, hd]
  have HlD := Lib.hid hlD
  clear hlD
  refine wp_region_mixS 9 (.plain 0 <| .plain 1 <| .plain 2 <| .plain 3 <| .plain 4 <| .plain 5 <| .only 6 <| .plain 7 <| .plain 8 <| .done) (fun w' => w'.cell? ⟨g, 0, none⟩ = some v) (by kernel_rfl) (by kernel_rfl) (hblkD.cell 0) ?_
  clear hblk hown hb1 hD
  generalize W.drewN 1 = wd at hownD hblkD htwD hBD hDD hrd ⊢
  repeat (refine mix_plain rfl ?_; (first
    | (refine wpQuiet_nilCheck rfl (.tmp 5) rfl _ rfl ?_; simp only [Act.put, List.setIfInBounds_toArray, List.set_cons_zero, List.set_cons_succ])
    | (refine wpQuiet_load1 rfl _ (.tmp 7) rfl _ rfl _ Tryd.underlying23 rfl v (fun _ h => h) ?_; simp only [Act.put, List.setIfInBounds_toArray, List.set_cons_zero, List.set_cons_succ])
    | go_big_quiet_step ((intro _; rfl))
    | go_big_quiet_step (fail)); refine wpQuiet_nil ?_)
  refine mix_only_in rfl (fun K hK => ?_)
  refine wpList_appendR rfl (.tmp 8) (.tmp 9) _ rfl B 5 i0 _ 1 Tryd.underlying23 hi hz0 hz1 hz2 rfl v _ rfl hownD wd.heap.size (some ⟨w.heap.size, 0, none⟩) 32 32 (d.map v8) rfl (by simpa using hrd) HlD.out (oneCell_v8 d) (by unfold maxLen; rw [List.length_map]; omega) (by rw [List.length_map]; omega) hBD ?_
  intro v' w2 hown2 hg2 hat2
  simp only [Act.put, List.setIfInBounds_toArray, List.set_cons_zero, List.set_cons_succ]
  have hneg : some g ≠ v.ownBlock := fun e => hne e.symm
  have hblk2 := hblkD.grown hg2 hneg
  have HT2 := Lib.hid (htwD.app hg2 hat2)
  rw [← List.map_append] at hown2
  have hne2 : v'.ownBlock ≠ some g := own_ne hblk2 hown2 (by decide)
  refine hK _ _ (hblk2.cell 0) ?_
  clear hK K hrd hownD hblkD htwD hg2 hat2 hneg hDD
  repeat (refine mix_plain rfl ?_; (first
    | (refine wpQuiet_nilCheck rfl (.tmp 4) rfl _ rfl ?_; simp only [Act.put, List.setIfInBounds_toArray, List.set_cons_zero, List.set_cons_succ])
    | go_big_quiet_step ((intro _; rfl))
    | go_big_quiet_step (fail)); refine wpQuiet_nil ?_)
  refine mix_done ?_
  simp only [List.drop_succ_cons, List.drop_zero]
  have hv1 : v'.cells = #[v'] ∧ v'.oneCell' = true := by
    rcases hown2.2 with ⟨rfl, _⟩ | ⟨g', cap', cur, rfl, _⟩ <;> exact ⟨rfl, rfl⟩
  refine wpList_store1 rfl rfl _ (.tmp 12) (.tmp 10) rfl g 0 rfl v' rfl _ _ hblk2 (by kernel_rfl) (by simp) hv1.1 hv1.2 ?_
  intro w3 hblk3 hon3
  have hown3 := own_grown hown2 hon3 (fun g' hg' e => by injection e with e; subst e; exact hne2 hg')
  have HT3 := Lib.hid (HT2.out.store hon3)
  have e3 : (#[v] : Array Value).setIfInBounds 0 v' = #[v'] := by simp
  rw [e3] at hblk3
  clear hblk2 hown2 hon3 HT2 hv1 e3
  go_wp2
  exact bodyPost_end (results_none rfl _ _ _) rfl ⟨rfl, v', ⟨hg, hblk3, hown3⟩, HT3.out⟩
set_option maxHeartbeats 1000000 in
set_option maxRecDepth 100000 in
theorem rnum2_any (u : Value) (bs : List UInt8) (n : UInt64) (k : Int) (hk : -9223372036854775808 ≤ k ∧ k ≤ 9223372036854775807) (w : World) (hu : BSl w w.heap.size u bs) (hl : bs.length ≤ 140737488355264) :
    Calls Tryd.prog 46 #[u, .int .u64 (n64 n), .int .i64 k] w fun e w' => ∃ v, e = .returned v ∧ w'.ownsRow w.heap.size 5 1 v ((bs ++ numB n (clamp8 k)).map v8).length ((bs ++ numB n (clamp8 k)).map v8) ∧ Below w.heap.size w w' := by
  obtain ⟨A, c, rfl⟩ := hu.len
  have hoe := own_emptyB w w.heap.size (Nat.le_refl _)
  have hn1 := below_new1 w (Obj.cells #[] 5)
  have hrd := bsl_reads (hu.next hn1)
  have HA := Lib.hid (And.intro hoe (And.intro hn1 hrd))
  have s1 := clamp8_lo k
  have s8 := clamp8_hi k
  clear hu hoe hn1 hrd
  go_enter Tryd.func46, Tryd.ntmps46
  go_wp2_with (first
    | (at_builtin; refine wpList_appendS rfl (.tmp 9) (.tmp 10) rfl w.heap.size _ [] bs rfl HA.out.1 _ _ _ _ rfl rfl HA.out.2.2 (by simp; omega) HA.out.2.1.size w HA.out.2.1 ?_; intro u1 w1 hown1 hb1; rw [List.nil_append] at hown1; have HC := Lib.hid (And.intro hown1 hb1); clear hown1 hb1))
  refine (width2_any k hk w1).mono ?_
  rintro e _ ⟨rfl, rfl⟩
  obtain ⟨s, hs⟩ : ∃ s, clamp8 k = s := ⟨_, rfl⟩
  rw [hs] at s1 s8
  have Hs := Lib.hid hs
  rw [hs]
  clear hs
  have h0 := numTo_0 n s
  have hE := Lib.hid (numTo_end n s)
  have hS := Lib.hid (numTo_step n s)
  have hb0 := Lib.hid (byte_val n)
  go_wp2_with fail
  go_loopw [7, 8] (fun ov iv wr => ∃ j : Nat, j ≤ s ∧ iv = .int .i64 ((j : Int) - 1) ∧ wr.ownsRow w.heap.size 5 1 ov ((bs ++ numTo n s j).map v8).length ((bs ++ numTo n s j).map v8) ∧ Below w.heap.size w wr) (fun _ iv _ => ((intOf iv) + 1).toNat)
  case atStart => exact ⟨s, Nat.le_refl _, rfl, by rw [h0, List.append_nil]; exact HC.out.1, HC.out.2⟩
  case round =>
    clear h0 HC
    obtain ⟨j, hj, rfl, hown, hbel⟩ := hrel
    by_cases hj0 : j = 0
    · subst hj0
      have hd : decide ((0 : Int) ≤ ((0 : Nat) : Int) - 1) = false := by decide
      rw [hE.out] at hown
      obtain ⟨A2, c2, rfl⟩ := own_slice hown
      have HF := Lib.hid (And.intro hown hbel)
      clear hown hbel
      go_wp2_with fail
      go_ret
      exact ⟨_, rfl, by rw [Hs.out]; exact HF.out.1, HF.out.2⟩
    · obtain ⟨i, rfl⟩ : ∃ i, j = i + 1 := ⟨j - 1, by omega⟩
      have hi8 : i < 8 := by omega
      have hst := Lib.hid (hS.out i (by omega))
      have hbv := hb0.out i
      have hlt : (numTo n s (i + 1)).length ≤ 8 := by unfold numTo; rw [List.length_take, numB_length]; omega
      have hlen : ((bs ++ numTo n s (i + 1)).map v8).length + 1 ≤ 140737488355328 := by simp; omega
      have e8 : IntKind.i64.wrap (8 * (i : Int)) = ((8 * i : Nat) : Int) := by rw [IntWalk.i64_in _ (by omega)]; omega
      rw [show (((i + 1 : Nat) : Int) - 1) = (i : Int) by omega]
      have Hlen := Lib.hid hlen
      obtain ⟨P, hP⟩ : ∃ P, bs ++ numTo n s (i + 1) = P := ⟨_, rfl⟩
      rw [hP] at hown Hlen
      have hnext : bs ++ numTo n s i = P ++ [byteAt n i] := by rw [← hP, hst.out, List.append_assoc]
      obtain ⟨A2, c2, rfl⟩ := own_slice hown
      have HF := Lib.hid (And.intro hown (And.intro hbel (And.intro hbel.size hnext)))
      clear hown hbel hnext hP hlen
      go_wp2_with (first
        | (at_builtin; refine wpList_append1 rfl (.tmp 19) (.tmp 26) rfl w.heap.size _ _ rfl HF.out.1 (v8 (byteAt n i)) rfl rfl Hlen.out HF.out.2.2.1 w HF.out.2.1 ?_; intro u3 w3 hown3 hb3; have HG := Lib.hid (And.intro hown3 hb3); clear hown3 hb3)
        | (rw [hbv]))
      clear e8 hbv
      go_roundw
      case rel => exact ⟨i, by omega, rfl, by rw [HF.out.2.2.2, List.map_append]; exact HG.out.1, HG.out.2⟩
      case measure => simp [intOf]
set_option maxHeartbeats 1000000 in
set_option maxRecDepth 100000 in
theorem rtxt2_any (u : Value) (bs : List UInt8) (A : Option Addr) (c : Nat) (xs : List UInt8) (w : World) (hu : BSl w w.heap.size u bs) (hl : bs.length ≤ 140737488289728) (hx : BSl w w.heap.size (.slice A xs.length c) xs) :
    Calls Tryd.prog 65 #[u, .slice A xs.length c] w fun e w' => ∃ v, e = .returned v ∧ w'.ownsRow w.heap.size 5 1 v ((bs ++ txtB xs).map v8).length ((bs ++ txtB xs).map v8) ∧ Below w.heap.size w w' := by
  obtain ⟨Au, cu, rfl⟩ := hu.len
  obtain ⟨m, hm⟩ : ∃ m, xs.length % 65536 = m := ⟨_, rfl⟩
  have Ht : Hid (txtB xs = numB (UInt64.ofNat m) 2 ++ xs.take m) := Lib.hid (by rw [← hm]; rfl)
  have hmod : (xs.length : Int).tmod 65536 = (m : Int) := by
    rw [Int.tmod_eq_emod_of_nonneg (by omega)]; omega
  have hm1 : m ≤ 65535 := by omega
  have hm2 : m ≤ xs.length := by rw [← hm]; exact Nat.mod_le _ _
  have Hc : Hid ((m : Int) = n64 (UInt64.ofNat m)) := Lib.hid (by unfold n64; rw [UInt64.toNat_ofNat_of_lt' (by show _ < 18446744073709551616; omega)])
  have hxc : xs.length ≤ c := by obtain ⟨_, _, e, h, _⟩ := hx; injection e with _ _ e; subst e; exact h
  have hxl : c ≤ 9223372036854775807 := by obtain ⟨_, _, e, _, h, _⟩ := hx; injection e with _ _ e; subst e; exact h
  have HX := Lib.hid (And.intro hu (bsl_reads hx))
  obtain ⟨L, hL⟩ : ∃ L, xs.length = L := ⟨_, rfl⟩
  have HL := Lib.hid hL
  rw [hL] at hmod hm2 hxc ⊢
  clear hu hx hm hL
  go_enter Tryd.func65, Tryd.ntmps65
  go_upto_region 2 with fail
  refine wp_region_mixP (.plain 0 <| .plain 1 <| .plain 2 <| .plain 4 <| .plain 5 <| .plain 6 <| .only 3 <| .only 7 <| .plain 8 <| .done) (by kernel_rfl) (by kernel_rfl) (fun W1 hb1 => ?_)
  iterate 6 (refine mix_plain rfl ?_; (first
    | (refine wpQuiet_cutH rfl 23 (.tmp 13) (.tmp 14) rfl 5 Tryd.underlying23 (by kernel_rfl) A L c m rfl rfl (Nat.le_trans hm2 hxc) ?_; simp only [Act.put, List.setIfInBounds_toArray, List.set_cons_zero, List.set_cons_succ])
    | go_big_quiet_step (fail)); refine wpQuiet_nil ?_)
  try rw [show Value.int IntKind.u64 (m : Int) = .int .u64 (n64 (UInt64.ofNat m)) from by rw [← Hc.out]]
  have HB := Lib.hid hb1
  clear hb1
  refine mix_only_in rfl (fun K hK => ?_)
  go_wp2_with fail
  refine (rnum2_any _ bs (UInt64.ofNat m) 2 (by decide) W1 (HX.out.1.next HB.out) (by omega)).mono ?_
  rintro e W2 ⟨v, rfl, hv, hb2⟩
  rw [show clamp8 2 = 2 from rfl] at hv
  have h2 : (numB (UInt64.ofNat m) 2).length = 2 := numB_length _ _
  have hl1 : (bs ++ numB (UInt64.ofNat m) 2).length ≤ 140737488289730 := by rw [List.length_append]; omega
  obtain ⟨P, hP⟩ : ∃ P, bs ++ numB (UInt64.ofNat m) 2 = P := ⟨_, rfl⟩
  rw [hP] at hv hl1
  have Hq := Lib.hid hP
  obtain ⟨A2, c2, rfl⟩ := own_slice hv
  have hv2 : W2.ownsRow W1.heap.size 5 1 (.slice A2 P.length c2) (P.map v8).length (P.map v8) := by
    rw [List.length_map] at hv ⊢; exact hv
  have HV := Lib.hid (And.intro hv2 (And.intro hb2 hb2.size))
  rw [List.length_map]
  clear hv hv2 hP h2
  go_wp2_with fail
  refine hK _ _ (below_plus hb2) ?_
  clear hK K hb2
  refine mix_only_in rfl (fun K hK => ?_)
  obtain ⟨i0, hi, hz0, hz1, hz2⟩ := info_parts (by kernel_rfl : (Tryd.prog.info? 5).map (fun i => (i.zero, i.size, i.bytes)) = some (some (.int .u8 0), 1, 1))
  have hrd2 : Reads W2 W2.heap.size A ((xs.take m).map v8) := by
    rw [List.map_take]
    exact ((HX.out.2.below (HB.out.trans (HV.out.2.1.mono HB.out.size))).more (Nat.le_trans HB.out.size HV.out.2.2)).take m
  have hlm : ((xs.take m).map v8).length = m := by rw [List.length_map, List.length_take, HL.out]; omega
  have HL2 := Lib.hid (And.intro (show (P.map v8).length + m ≤ 140737488355265 by rw [List.length_map]; omega) (And.intro hrd2 hlm))
  clear hrd2 hlm
  refine wpList_appendR rfl (.tmp 12) (.tmp 15) _ rfl W1.heap.size 5 i0 _ 1 Tryd.underlying23 hi hz0 hz1 hz2 rfl (.slice A2 P.length c2) (P.map v8) rfl HV.out.1 W2.heap.size A m c ((xs.take m).map v8) rfl HL2.out.2.1 HL2.out.2.2 (oneCell_v8 _) (by have := HL2.out.1; unfold maxLen; omega) (by have := HL2.out.1; omega) HV.out.2.2 ?_
  intro v' w2 hown2 hg2 hat2
  simp only [Act.put, List.setIfInBounds_toArray, List.set_cons_zero, List.set_cons_succ]
  have hbW : Below W1.heap.size W1 w2 := below_own HV.out.2.1 HV.out.1 hg2 HV.out.2.2
  rw [← List.map_append] at hown2
  have hbs : P ++ xs.take m = bs ++ txtB xs := by rw [Ht.out, ← Hq.out, List.append_assoc]
  rw [hbs] at hown2
  have HF := Lib.hid (And.intro (own_baseR hown2 HB.out.size) (HB.out.trans (hbW.mono HB.out.size)))
  refine hK _ _ (below_plus hbW) ?_
  clear hK K hown2 hg2 hat2 hbW hbs
  iterate 1 (refine mix_plain rfl ?_; go_big_quiet_step (fail); refine wpQuiet_nil ?_)
  refine mix_done ?_
  go_wp2_with fail
  go_ret
  exact ⟨_, rfl, HF.out.1, HF.out.2⟩
end Go.Proofs.YtcdkadidkkbhpaaDoor

/- deponentref19.list. No condition. -/
namespace Go.Proofs.YtcdkadidkkbhpaaDoor
open Go Go.RowKit
theorem RwB.mono {w : World} {B C : Nat} {v : Value} {bs : List UInt8} (h : RwB w C v bs) (hB : B ≤ C) : RwB w B v bs := by
  refine ⟨h.1, ?_⟩
  rcases h.2 with h0 | ⟨g, cap, cur, hv, hbs, hrest⟩
  · exact .inl h0
  · exact .inr ⟨g, cap, cur, hv, Nat.le_trans hB hbs, hrest⟩
theorem BSl.mono {w : World} {B C : Nat} {v : Value} {bs : List UInt8} (h : BSl w B v bs) (hB : B ≤ C) : BSl w C v bs := by
  obtain ⟨A, c, e, h1, h2, hr⟩ := h
  exact ⟨A, c, e, h1, h2, fun hne => by obtain ⟨g, o, e2, hg, hh⟩ := hr hne; exact ⟨g, o, e2, Nat.lt_of_lt_of_le hg hB, hh⟩⟩
theorem i64u_natE (n : Nat) (h : n ≤ 1000000) : i64u (n : Int) = UInt64.ofNat n := by
  unfold i64u
  rw [show ((n : Int) % 18446744073709551616).toNat = n by omega]
set_option maxHeartbeats 1000000 in
set_option maxRecDepth 100000 in
theorem rlist_any (u lv : Value) (bs : List UInt8) (ls : List (List UInt8)) (w : World) (hu : BSl w w.heap.size u bs) (hl : SSl w w.heap.size lv ls) (hn : ls.length ≤ 1000000) (hbs : bs.length ≤ 140000000000000) :
    Calls Tryd.prog 50 #[u, lv] w fun e w' => ∃ v, e = .returned v ∧ RwB w' w.heap.size v (bs ++ encL ls) ∧ Below w.heap.size w w' := by
  obtain ⟨A, cap, vs, rfl, h2, h3, h4, h5, h6⟩ := hl
  have hl : SSl w w.heap.size (.slice A ls.length cap) ls := ⟨A, cap, vs, rfl, h2, h3, h4, h5, h6⟩
  clear h4 h5 h6 vs
  have m1 := rnum_any u bs (ls.length : Int) (by omega) 2 (by decide) w hu (by omega)
  rw [show i64u (ls.length : Int) = UInt64.ofNat ls.length from i64u_natE _ hn, show clamp8 2 = 2 by decide] at m1
  have HH := Lib.hid hl
  clear hu hl
  go_enter Tryd.func50, Tryd.ntmps50
  go_wp2_with fail
  refine m1.mono ?_
  clear m1
  rintro e w1 ⟨b1, rfl, hW1, hK1⟩
  obtain ⟨hd, hhd⟩ : ∃ hd, bs ++ numB (UInt64.ofNat ls.length) 2 = hd := ⟨_, rfl⟩
  rw [hhd] at hW1
  have H1 := Lib.hid (And.intro hW1 (And.intro hK1 (show hd.length ≤ 140000000000002 by rw [← hhd, List.length_append, numB_length]; omega)))
  have Hhd := Lib.hid hhd
  clear hW1 hK1 hhd
  go_wp2_with fail
  go_loopg [0, 5] (ls.length + 1) (fun gk bv iv wr => ∃ (k : Nat) (bq : Value), bq = bv ∧ ls.length + 1 ≤ k + gk ∧ k ≤ ls.length ∧ iv = .int .i64 (k : Int) ∧ RwB wr w.heap.size bq (hd ++ (ls.take k).flatMap txtB) ∧ Below w.heap.size w wr)
  case atStart => exact ⟨0, b1, rfl, by omega, by omega, rfl, by rw [List.take_zero, List.flatMap_nil, List.append_nil]; exact H1.out.1, H1.out.2.1⟩
  case round =>
    obtain ⟨k, bq, rfl, hk, hkn, rfl, hWk, hKk⟩ := hrel
    have HX := Lib.hid (And.intro hk (And.intro hWk hKk))
    clear hk hWk hKk
    by_cases hlt : k < ls.length
    · have hki : (k : Int) < (ls.length : Int) := by omega
      have hgk : 0 < gk := by have := HX.out.1; omega
      obtain ⟨b, off, x, rfl, hb, hcu, hx⟩ := (HH.out.below HX.out.2.2).cellAt k hlt
      have hx' : BSl wr wr.heap.size x (ls.getD k []) := hx.mono HX.out.2.2.size
      obtain ⟨Ax, cx, hxe⟩ : ∃ A c, x = .slice A (ls.getD k []).length c := by obtain ⟨A, c, e, _⟩ := hx; exact ⟨A, c, e⟩
      subst hxe
      have m2 := rtxt2_any bq (hd ++ (ls.take k).flatMap txtB) Ax cx (ls.getD k []) wr HX.out.2.1.bsl (by
        have := flatMap_le txtB 65537 txtB_len (ls.take k)
        rw [List.length_append]
        have h2 : (ls.take k).length ≤ 1000000 := by rw [List.length_take]; omega
        have h3 : (ls.take k).length * 65537 ≤ 1000000 * 65537 := Nat.mul_le_mul_right _ h2
        have := H1.out.2.2
        omega) hx'
      rw [List.append_assoc, ← flatMap_take txtB ls k [] hlt] at m2
      generalize ls.getD k [] = tx at m2 hx hx' hcu
      clear hx hx'
      go_wp2_with fail
      refine m2.mono ?_
      clear m2
      rintro e w2 ⟨b2, rfl, hW2, hK2⟩
      have HY := Lib.hid (And.intro (RwB.mono (B := w.heap.size) hW2 HX.out.2.2.size) (HX.out.2.2.trans (hK2.mono HX.out.2.2.size)))
      clear hW2 hK2 hcu
      go_wp2_with fail
      go_roundg (gk - 1)
      case measure => omega
      case rel => exact ⟨k + 1, b2, rfl, by have := HX.out.1; omega, by omega, by go_num, HY.out.1, HY.out.2⟩
    · obtain rfl : k = ls.length := by omega
      go_wp2_with fail
      go_ret
      refine ⟨bq, rfl, ?_, HX.out.2.2⟩
      have := HX.out.2.1
      rw [List.take_length, ← Hhd.out, List.append_assoc] at this
      exact this
end Go.Proofs.YtcdkadidkkbhpaaDoor

/- deponentref18.Head: plain parts. No condition. -/
namespace Go.Proofs.YtcdkadidkkbhpaaDoor
open Go Go.RowKit
/-- four bytes of a number are those of its lowest 32 bits -/
theorem numB_low (x : Int) : numB (i64u (x % 4294967296)) 4 = numB (i64u x) 4 := by
  unfold numB
  simp only [List.range_succ, List.range_zero, List.nil_append, List.map_cons, List.map_nil, List.map_append, byteAt]
  have ha : (i64u (x % 4294967296)).toNat = (x % 4294967296).toNat := by
    unfold i64u; rw [UInt64.toNat_ofNat_of_lt' (by show _ < 18446744073709551616; omega)]; omega
  have hb : (i64u x).toNat = (x % 18446744073709551616).toNat := by
    unfold i64u; rw [UInt64.toNat_ofNat_of_lt' (by show _ < 18446744073709551616; omega)]
  rw [ha, hb]
  have e : ∀ d : Nat, (d = 1 ∨ d = 256 ∨ d = 65536 ∨ d = 16777216) → UInt8.ofNat ((x % 4294967296).toNat / d) = UInt8.ofNat ((x % 18446744073709551616).toNat / d) := by
    intro d hd
    apply UInt8.toNat_inj.1
    rw [UInt8.toNat_ofNat', UInt8.toNat_ofNat']
    rcases hd with rfl | rfl | rfl | rfl <;> omega
  have e0 := e (2 ^ (8 * (4 - 1 - 0))) (by decide)
  have e1 := e (2 ^ (8 * (4 - 1 - 1))) (by decide)
  have e2 := e (2 ^ (8 * (4 - 1 - 2))) (by decide)
  have e3 := e (2 ^ (8 * (4 - 1 - 3))) (by decide)
  simp only [e0, e1, e2, e3]
end Go.Proofs.YtcdkadidkkbhpaaDoor

/- The walk of deponentref18.Head. No condition. -/
namespace Go.Proofs.YtcdkadidkkbhpaaDoor
open Go Go.RowKit
attribute [local irreducible] mixW
attribute [local go_sem] n8_lo n8_hi n64_lo n64_hi n32_lo n32_hi
def ClH (g : Nat) (cs : Array Value) (V : World) : Prop := V.rangeAt g 0 cs.toList
/-- the root and the tag in a head's cells -/
theorem sig_drops (h : HeadL) (tag : List UInt8) (hr : h.root.length = 32) (ht : tag.length = 32) : ((sigC h tag).toList.drop 4).take 32 = h.root.map v8 ∧ (sigC h tag).toList.drop 36 = tag.map v8 := by
  have e : (sigC h tag).toList = [.int .i64 h.tree, .int .i64 h.epoch, .int .u64 (n64 h.size), .int .u64 (n64 h.clock)] ++ (h.root.map v8 ++ tag.map v8) := by
    unfold sigC headC
    rw [dat_eq h.root hr, dat_eq tag ht]
    simp
  have h1 : (h.root.map v8).length = 32 := by rw [List.length_map, hr]
  rw [e]
  constructor
  · rw [List.drop_left' (by rfl), List.take_left' h1]
  · rw [← List.append_assoc, List.drop_left' (by rw [List.length_append, h1]; rfl)]
/-- what region 1 of Head keeps -/
structure HdR (w : World) (cs : Array Value) (A : Option Addr) (bs : List UInt8) (V : World) : Prop where
  blk : Blk V w.heap.size 42 cs
  rd : Reads V w.heap.size A (bs.map v8)
  bel : Below w.heap.size w V
theorem HdR.next {w : World} {cs : Array Value} {A : Option Addr} {bs : List UInt8} {V V' : World} (h : HdR w cs A bs V) (hb : Below (w.heap.size + 1) V V') : HdR w cs A bs V' :=
  ⟨h.blk.below hb (Nat.lt_succ_self _), h.rd.below (hb.mono (Nat.le_succ _)), h.bel.trans (hb.mono (Nat.le_succ _))⟩
theorem HdR.cl {w : World} {cs : Array Value} {A : Option Addr} {bs : List UInt8} {V : World} (h : HdR w cs A bs V) : ClH w.heap.size cs V := range_blk24 h.blk
theorem HdR.lo {w : World} {cs : Array Value} {A : Option Addr} {bs : List UInt8} {V : World} (h : HdR w cs A bs V) : w.heap.size + 1 ≤ V.heap.size := h.blk.lt
set_option maxHeartbeats 400000 in
set_option maxRecDepth 100000 in
theorem rhd_any (u : Value) (bs : List UInt8) (h : HeadL) (tag : List UInt8) (hok : h.ok) (ht : tag.length = 32) (w : World) (hu : BSl w w.heap.size u bs) (hl : bs.length ≤ 140000000000000) :
    Calls Tryd.prog 49 #[u, .agg (sigC h tag)] w fun e w' => ∃ v, e = .returned v ∧ RwB w' w.heap.size v (bs ++ encHd h tag) ∧ Below w.heap.size w w' := by
  obtain ⟨A, c, rfl, h1, h2, hr⟩ := hu
  obtain ⟨hrl, ⟨ht1, ht2⟩, he1, he2⟩ := hok
  obtain ⟨tb, v1, htb⟩ : ∃ tb : UInt8, h.tree % 256 = n8 tb ∧ Hid ([tb] = numB (i64u h.tree) 1) := ⟨UInt8.ofNat (h.tree % 256).toNat, n8_of h.tree, Lib.hid (byte_of h.tree)⟩
  have v1' : IntKind.u8.wrap h.tree = n8 tb := (IntKind.wrap_u8 h.tree).trans v1
  go_enter Tryd.func49, Tryd.ntmps49
  go_upto_region 1 with fail
  refine wp_at (fun W => HdR w (sigC h tag) A bs W) ⟨Blk.new w _ _, hr.below (below_new1 w _), below_new1 w _⟩ ?_
  rintro W1 H1
  clear hr
  have q0 : (sigC h tag).toList[0]? = some (.int .i64 h.tree) := by rw [Array.getElem?_toList]; unfold sigC; rw [Array.getElem?_append_left (by rw [headC_size]; decide)]; exact headC_0 h
  have q1 : (sigC h tag).toList[1]? = some (.int .i64 h.epoch) := by rw [Array.getElem?_toList]; unfold sigC; rw [Array.getElem?_append_left (by rw [headC_size]; decide)]; exact headC_1 h
  have hEp := Lib.hid (show h.epoch % 4294967296 = n64 (i64u (h.epoch % 4294967296)) by rw [← i64u_val]; omega)
  go_cut [0] (fun u wx => HdR w (sigC h tag) A bs wx ∧ RwB wx (w.heap.size + 1) u (bs ++ numB (i64u h.tree) 1 ++ numB (i64u h.epoch) 4))
  case first =>
   refine wp_region_mix (.plain 1 <| .plain 3 <| .plain 4 <| .plain 5 <| .plain 6 <| .plain 9 <| .plain 10 <| .plain 11 <| .plain 12 <| .plain 13 <| .two 0 7 (.two 2 7 (.only 7 <| .only 8 <| .only 14 <| .plain 15 <| .done) <| (.only 2 <| .only 8 <| .only 14 <| .plain 15 <| .done)) (.only 0 <| .only 2 <| .only 8 <| .only 14 <| .plain 15 <| .done)) (ClH w.heap.size (sigC h tag)) (by kernel_rfl) (by kernel_rfl) (range_blk24 (H1.blk.drewN 1)) ?_
   refine mix_atC (fun W8 => HdR w (sigC h tag) A bs W8) (H1.next (below_drewN (Below.refl _ _) 1)) ?_
   clear H1 W1
   rintro W2 H2
   iterate 10 (refine mix_plain rfl ?_; (first
       | (refine wpQuiet_load1 rfl _ (.tmp 9) rfl _ rfl _ Tryd.underlying3 rfl _ (fun V hV => hV 0 _ q0) ?_; simp only [Act.put, List.setIfInBounds_toArray, List.set_cons_zero, List.set_cons_succ])
       | (refine wpQuiet_load1 rfl _ (.tmp 15) rfl _ rfl _ Tryd.underlying3 rfl _ (fun V hV => hV 1 _ q1) ?_; simp only [Act.put, List.setIfInBounds_toArray, List.set_cons_zero, List.set_cons_succ])
       | go_big_quiet_step ((intro _; rfl))
       | go_big_quiet_step (fail)); refine wpQuiet_nil ?_)
   refine mix_two_in rfl rfl (fun K hK => ?_) (fun K hK => ?_)
   · go_wp2_with fail
     have hb3 := (below_new1 W2 (Obj.cells #[] 5)).mono H2.lo
     refine hK _ _ (H2.next hb3).cl ?_
     clear hK K
     have hE := own_emptyB W2 (w.heap.size + 1) H2.lo
     generalize W2.heap.size = gE at hE ⊢
     refine mix_atC (fun V => HdR w (sigC h tag) A bs V ∧ RwB V (w.heap.size + 1) (.slice (some ⟨gE, 0, none⟩) 0 0) []) ⟨H2.next hb3, hE⟩ ?_
     clear hb3 hE H2 W2
     rintro V2 ⟨H2, hE⟩
     refine mix_two_in rfl rfl (fun K hK => ?_) (fun K hK => ?_)
     · go_wp2_with (first
         | (at_builtin; refine wpList_appendS rfl (.tmp 5) (.tmp 6) rfl (w.heap.size + 1) _ [] bs rfl hE _ _ _ _ rfl rfl H2.rd (by simp; omega) H2.lo V2 (Below.refl _ _ |>.mono H2.lo) ?_; intro u1 V3 hown1 hb3))
       refine hK _ _ (H2.next hb3).cl ?_
       clear hK K
       rw [List.nil_append] at hown1
       refine mix_atC (fun V => HdR w (sigC h tag) A bs V ∧ RwB V (w.heap.size + 1) u1 bs) ⟨H2.next hb3, hown1⟩ ?_
       clear hb3 hown1 hE H2 V2
       rintro V2 ⟨H2, hE⟩
       refine mix_only_in rfl (fun K hK => ?_)
       go_wp2_with fail
       have hb3 := (below_new1 V2 (Obj.cells #[.int .u8 (n8 tb)] 5))
       have hL := Blk.new V2 5 #[.int .u8 (n8 tb)]
       refine hK _ _ (H2.next (hb3.mono H2.lo)).cl ?_
       clear hK K
       have hE3 := own_below hE hb3
       generalize V2.heap.size = gL at hL ⊢
       refine mix_atC (fun V => HdR w (sigC h tag) A bs V ∧ RwB V (w.heap.size + 1) u1 bs ∧ Reads V V.heap.size (some ⟨gL, 0, none⟩) ([tb].map v8)) ⟨H2.next (hb3.mono H2.lo), hE3, show Reads _ _ _ ([tb].map v8) from Reads.of_blk hL hL.lt 0⟩ ?_
       clear hb3 hE3 hL hE H2 V2
       rintro V2 ⟨H2, hE, hL⟩
       refine mix_only_in rfl (fun K hK => ?_)
       go_wp2_with (first
         | (at_builtin; refine wpList_appendS rfl (.tmp 7) (.tmp 12) rfl (w.heap.size + 1) _ bs [tb] rfl hE _ _ _ _ rfl rfl hL (by simp; omega) H2.lo V2 (Below.refl _ _ |>.mono H2.lo) ?_; intro u2 V3 hown2 hb3))
       refine hK _ _ (H2.next hb3).cl ?_
       clear hK K
       refine mix_atC (fun V => HdR w (sigC h tag) A bs V ∧ RwB V (w.heap.size + 1) u2 (bs ++ [tb])) ⟨H2.next hb3, hown2⟩ ?_
       clear hb3 hown2 hE hL H2 V2
       rintro V2 ⟨H2, hE⟩
       refine mix_only_in rfl (fun K hK => ?_)
       go_wp2_with fail
       rw [hEp.out]
       refine (rnumber_any u2 _ (i64u (h.epoch % 4294967296)) 4 (by decide) V2 hE.bsl (by simp; omega)).mono ?_
       rintro e V3 ⟨u3, rfl, hown3, hb3⟩
       go_wp2_with fail
       refine hK _ _ (H2.next (hb3.mono H2.lo)).cl ?_
       clear hK K
       have hE3 := RwB.mono (B := w.heap.size + 1) hown3 H2.lo
       rw [show clamp8 4 = 4 from rfl, numB_low, htb.out] at hE3
       refine mix_atC (fun V => HdR w (sigC h tag) A bs V ∧ RwB V (w.heap.size + 1) u3 (bs ++ numB (i64u h.tree) 1 ++ numB (i64u h.epoch) 4)) ⟨H2.next (hb3.mono H2.lo), hE3⟩ ?_
       clear hb3 hown3 hE hE3 H2 V2
       rintro V2 ⟨H2, hE⟩
       refine mix_plain rfl ?_
       go_big_quiet_step ((intro _; rfl))
       refine wpQuiet_nil ?_
       refine mix_done ?_
       go_wp2_with fail
       go_meet
       exact ⟨H2, hE⟩
     · skip
       go_wp2_with fail
       have hb3 := (below_new1 V2 (Obj.cells #[.int .u8 (n8 tb)] 5))
       have hL := Blk.new V2 5 #[.int .u8 (n8 tb)]
       have hO := own_of_blk (cs := [#[.int .u8 (n8 tb)]]) (sz := 1) hL H2.lo (by simp) (by simp)
       have hap := Lib.hid (show Apart (.slice (some ⟨gE, 0, none⟩) 0 0) (.slice (some ⟨V2.heap.size, 0, none⟩) 1 1) from fun g h1 h2 => by have hlt := own_lt hE g h1; injection h2 with h2; have h3 : V2.heap.size = g := h2; omega)
       refine hK _ _ (H2.next (hb3.mono H2.lo)).cl ?_
       clear hK K
       have hE3 := own_below hE hb3
       generalize V2.heap.size = gL at hL hO hap ⊢
       refine mix_atC (fun V => HdR w (sigC h tag) A bs V ∧ RwB V (w.heap.size + 1) (.slice (some ⟨gE, 0, none⟩) 0 0) [] ∧ RwB V (w.heap.size + 1) (.slice (some ⟨gL, 0, none⟩) 1 1) [tb]) ⟨H2.next (hb3.mono H2.lo), hE3, hO⟩ ?_
       clear hb3 hE3 hL hO hE H2 V2
       rintro V2 ⟨H2, hE, hO⟩
       refine mix_only_in rfl (fun K hK => ?_)
       go_wp2_with (first
         | (at_builtin; refine wpList_appendSD rfl (.tmp 5) (.tmp 6) rfl (w.heap.size + 1) _ [] bs rfl hE _ _ _ _ rfl rfl H2.rd (by simp; omega) H2.lo V2 (Below.refl _ _ |>.mono H2.lo) ?_; intro u1 V3 hown1 hb3 hoth))
       refine hK _ _ (H2.next hb3).cl ?_
       clear hK K
       rw [List.nil_append] at hown1
       have hO3 := BSl.of_own (hoth _ _ _ hO hap.out).1
       obtain ⟨_, _, hOe, _, _, hO3⟩ := hO3
       injection hOe with hOe hx1 hx2
       subst hOe
       clear hx1 hx2
       refine mix_atC (fun V => HdR w (sigC h tag) A bs V ∧ RwB V (w.heap.size + 1) u1 bs ∧ Reads V V.heap.size (some ⟨gL, 0, none⟩) ([tb].map v8)) ⟨H2.next hb3, hown1, hO3⟩ ?_
       clear hb3 hown1 hE hO hO3 hoth H2 V2
       rintro V2 ⟨H2, hE, hL⟩
       refine mix_only_in rfl (fun K hK => ?_)
       go_wp2_with (first
         | (at_builtin; refine wpList_appendS rfl (.tmp 7) (.tmp 12) rfl (w.heap.size + 1) _ bs [tb] rfl hE _ _ _ _ rfl rfl hL (by simp; omega) H2.lo V2 (Below.refl _ _ |>.mono H2.lo) ?_; intro u2 V3 hown2 hb3))
       refine hK _ _ (H2.next hb3).cl ?_
       clear hK K
       refine mix_atC (fun V => HdR w (sigC h tag) A bs V ∧ RwB V (w.heap.size + 1) u2 (bs ++ [tb])) ⟨H2.next hb3, hown2⟩ ?_
       clear hb3 hown2 hE hL H2 V2
       rintro V2 ⟨H2, hE⟩
       refine mix_only_in rfl (fun K hK => ?_)
       go_wp2_with fail
       rw [hEp.out]
       refine (rnumber_any u2 _ (i64u (h.epoch % 4294967296)) 4 (by decide) V2 hE.bsl (by simp; omega)).mono ?_
       rintro e V3 ⟨u3, rfl, hown3, hb3⟩
       go_wp2_with fail
       refine hK _ _ (H2.next (hb3.mono H2.lo)).cl ?_
       clear hK K
       have hE3 := RwB.mono (B := w.heap.size + 1) hown3 H2.lo
       rw [show clamp8 4 = 4 from rfl, numB_low, htb.out] at hE3
       refine mix_atC (fun V => HdR w (sigC h tag) A bs V ∧ RwB V (w.heap.size + 1) u3 (bs ++ numB (i64u h.tree) 1 ++ numB (i64u h.epoch) 4)) ⟨H2.next (hb3.mono H2.lo), hE3⟩ ?_
       clear hb3 hown3 hE hE3 H2 V2
       rintro V2 ⟨H2, hE⟩
       refine mix_plain rfl ?_
       go_big_quiet_step ((intro _; rfl))
       refine wpQuiet_nil ?_
       refine mix_done ?_
       go_wp2_with fail
       go_meet
       exact ⟨H2, hE⟩
   · skip
     go_wp2_with fail
     have hb3 := (below_new1 W2 (Obj.cells #[.int .u8 (n8 tb)] 5))
     have hL := Blk.new W2 5 #[.int .u8 (n8 tb)]
     have hgl := H2.lo
     refine hK _ _ (H2.next (hb3.mono H2.lo)).cl ?_
     clear hK K
     generalize W2.heap.size = gL at hL hgl ⊢
     refine mix_atC (fun V => HdR w (sigC h tag) A bs V ∧ Blk V gL 5 #[.int .u8 (n8 tb)]) ⟨H2.next (hb3.mono H2.lo), hL⟩ ?_
     clear hb3 hL H2 W2
     rintro V2 ⟨H2, hL⟩
     refine mix_only_in rfl (fun K hK => ?_)
     go_wp2_with fail
     have hb3 := (below_new1 V2 (Obj.cells #[] 5))
     refine hK _ _ (H2.next (hb3.mono H2.lo)).cl ?_
     clear hK K
     have hE := own_emptyB V2 (gL + 1) hL.lt
     generalize V2.heap.size = gE at hE ⊢
     refine mix_atC (fun V => HdR w (sigC h tag) A bs V ∧ RwB V (gL + 1) (.slice (some ⟨gE, 0, none⟩) 0 0) [] ∧ Blk V gL 5 #[.int .u8 (n8 tb)]) ⟨H2.next (hb3.mono H2.lo), hE, hL.below hb3 hL.lt⟩ ?_
     clear hb3 hE hL H2 V2
     rintro V2 ⟨H2, hE, hL⟩
     refine mix_only_in rfl (fun K hK => ?_)
     have hlg : gL + 1 ≤ V2.heap.size := hL.lt
     go_wp2_with (first
       | (at_builtin; refine wpList_appendS rfl (.tmp 5) (.tmp 6) rfl (gL + 1) _ [] bs rfl hE _ _ _ _ rfl rfl H2.rd (by simp; omega) hlg V2 (Below.refl _ _ |>.mono hlg) ?_; intro u1 V3 hown1 hb3))
     have hbl := hb3.mono (Nat.le_succ_of_le hgl)
     refine hK _ _ (H2.next hbl).cl ?_
     clear hK K
     rw [List.nil_append] at hown1
     have hL3 := hL.below hb3 (Nat.lt_succ_self _)
     refine mix_atC (fun V => HdR w (sigC h tag) A bs V ∧ RwB V (w.heap.size + 1) u1 bs ∧ Reads V V.heap.size (some ⟨gL, 0, none⟩) ([tb].map v8)) ⟨H2.next hbl, RwB.mono hown1 (Nat.le_succ_of_le hgl), show Reads _ _ _ ([tb].map v8) from Reads.of_blk hL3 hL3.lt 0⟩ ?_
     clear hb3 hbl hown1 hE hL hL3 hlg H2 V2
     rintro V2 ⟨H2, hE, hL⟩
     refine mix_only_in rfl (fun K hK => ?_)
     go_wp2_with (first
       | (at_builtin; refine wpList_appendS rfl (.tmp 7) (.tmp 12) rfl (w.heap.size + 1) _ bs [tb] rfl hE _ _ _ _ rfl rfl hL (by simp; omega) H2.lo V2 (Below.refl _ _ |>.mono H2.lo) ?_; intro u2 V3 hown2 hb3))
     refine hK _ _ (H2.next hb3).cl ?_
     clear hK K
     refine mix_atC (fun V => HdR w (sigC h tag) A bs V ∧ RwB V (w.heap.size + 1) u2 (bs ++ [tb])) ⟨H2.next hb3, hown2⟩ ?_
     clear hb3 hown2 hE hL H2 V2
     rintro V2 ⟨H2, hE⟩
     refine mix_only_in rfl (fun K hK => ?_)
     go_wp2_with fail
     rw [hEp.out]
     refine (rnumber_any u2 _ (i64u (h.epoch % 4294967296)) 4 (by decide) V2 hE.bsl (by simp; omega)).mono ?_
     rintro e V3 ⟨u3, rfl, hown3, hb3⟩
     go_wp2_with fail
     refine hK _ _ (H2.next (hb3.mono H2.lo)).cl ?_
     clear hK K
     have hE3 := RwB.mono (B := w.heap.size + 1) hown3 H2.lo
     rw [show clamp8 4 = 4 from rfl, numB_low, htb.out] at hE3
     refine mix_atC (fun V => HdR w (sigC h tag) A bs V ∧ RwB V (w.heap.size + 1) u3 (bs ++ numB (i64u h.tree) 1 ++ numB (i64u h.epoch) 4)) ⟨H2.next (hb3.mono H2.lo), hE3⟩ ?_
     clear hb3 hown3 hE hE3 H2 V2
     rintro V2 ⟨H2, hE⟩
     refine mix_plain rfl ?_
     go_big_quiet_step ((intro _; rfl))
     refine wpQuiet_nil ?_
     refine mix_done ?_
     go_wp2_with fail
     go_meet
     exact ⟨H2, hE⟩
  case rest =>
    obtain ⟨H2, hE⟩ := hcut
    obtain ⟨P1, hP1⟩ : ∃ P1, bs ++ numB (i64u h.tree) 1 ++ numB (i64u h.epoch) 4 = P1 := ⟨_, rfl⟩
    rw [hP1] at hE
    have hl1 : P1.length ≤ 140000000000005 := by rw [← hP1, List.length_append, List.length_append, numB_length, numB_length]; omega
    have HP1 := Lib.hid hP1
    have Hrl := Lib.hid (And.intro hrl ht)
    have q2 : (sigC h tag).toList[2]? = some (.int .u64 (n64 h.size)) := by rw [Array.getElem?_toList]; unfold sigC; rw [Array.getElem?_append_left (by rw [headC_size]; decide)]; exact headC_2 h
    have q3 : (sigC h tag).toList[3]? = some (.int .u64 (n64 h.clock)) := by rw [Array.getElem?_toList]; unfold sigC; rw [Array.getElem?_append_left (by rw [headC_size]; decide)]; exact headC_3 h
    have Hd := Lib.hid (sig_drops h tag hrl ht)
    clear hP1 hrl ht hEp htb v1 v1' q0 q1
    go_upto_region 2 with fail
    refine wp_region_mix (.plain 0 <| .plain 1 <| .plain 2 <| .plain 3 <| .plain 5 <| .plain 6 <| .plain 7 <| .only 4 <| .only 8 <| .plain 9 <| .done) (ClH w.heap.size (sigC h tag)) (by kernel_rfl) (by kernel_rfl) (range_blk24 (H2.blk.drewN 1)) ?_
    refine mix_atC (fun W8 => HdR w (sigC h tag) A bs W8 ∧ RwB W8 (w.heap.size + 1) u0 P1) ⟨H2.next (below_drewN (Below.refl _ _) 1), hE⟩ ?_
    clear H2 hE
    rintro V2 ⟨H2, hE⟩
    iterate 7 (refine mix_plain rfl ?_; (first
       | (refine wpQuiet_load1 rfl _ (.tmp 22) rfl _ rfl _ Tryd.underlying27 rfl _ (fun V hV => hV 2 _ q2) ?_; simp only [Act.put, List.setIfInBounds_toArray, List.set_cons_zero, List.set_cons_succ])
       | (refine wpQuiet_load1 rfl _ (.tmp 26) rfl _ rfl _ Tryd.underlying27 rfl _ (fun V hV => hV 3 _ q3) ?_; simp only [Act.put, List.setIfInBounds_toArray, List.set_cons_zero, List.set_cons_succ])
       | go_big_quiet_step ((intro _; rfl))
       | go_big_quiet_step (fail)); refine wpQuiet_nil ?_)
    refine mix_only_in rfl (fun K hK => ?_)
    go_wp2_with fail
    refine (rnumber_any u0 _ h.size 8 (by decide) V2 hE.bsl (by omega)).mono ?_
    rintro e V3 ⟨u3, rfl, hown3, hb3⟩
    go_wp2_with fail
    refine hK _ _ (H2.next (hb3.mono H2.lo)).cl ?_
    clear hK K
    have hE3 := RwB.mono (B := w.heap.size + 1) hown3 H2.lo
    rw [show clamp8 8 = 8 from rfl] at hE3
    refine mix_atC (fun V => HdR w (sigC h tag) A bs V ∧ RwB V (w.heap.size + 1) u3 (P1 ++ numB h.size 8)) ⟨H2.next (hb3.mono H2.lo), hE3⟩ ?_
    clear hb3 hown3 hE hE3 H2 V2
    rintro V2 ⟨H2, hE⟩
    refine mix_only_in rfl (fun K hK => ?_)
    go_wp2_with fail
    refine (rnumber_any u3 _ h.clock 8 (by decide) V2 hE.bsl (by rw [List.length_append, numB_length]; omega)).mono ?_
    rintro e V3 ⟨u4, rfl, hown3, hb3⟩
    go_wp2_with fail
    refine hK _ _ (H2.next (hb3.mono H2.lo)).cl ?_
    clear hK K
    have hE3 := RwB.mono (B := w.heap.size + 1) hown3 H2.lo
    rw [show clamp8 8 = 8 from rfl] at hE3
    refine mix_atC (fun V => HdR w (sigC h tag) A bs V ∧ RwB V (w.heap.size + 1) u4 (P1 ++ numB h.size 8 ++ numB h.clock 8)) ⟨H2.next (hb3.mono H2.lo), hE3⟩ ?_
    clear hb3 hown3 hE hE3 H2 V2
    rintro V2 ⟨H2, hE⟩
    obtain ⟨P2, hP2⟩ : ∃ P2, P1 ++ numB h.size 8 ++ numB h.clock 8 = P2 := ⟨_, rfl⟩
    rw [hP2] at hE
    have hl2 : P2.length ≤ 140000000000021 := by rw [← hP2, List.length_append, List.length_append, numB_length, numB_length]; omega
    have HP2 := Lib.hid hP2
    clear hP2 hl1
    refine mix_plain rfl ?_
    go_big_quiet_step ((intro _; rfl))
    refine wpQuiet_nil ?_
    refine mix_done ?_
    have hR1 : Reads V2 V2.heap.size (some ⟨w.heap.size, 4, none⟩) (h.root.map v8) := by rw [← Hd.out.1]; exact (Reads.of_blk H2.blk H2.blk.lt 4).take 32
    have hroot : P2.length + h.root.length ≤ 140737488355328 := by rw [Hrl.out.1]; omega
    go_wp2_with (first
      | (at_builtin; refine wpList_appendS rfl (.tmp 29) (.tmp 32) rfl (w.heap.size + 1) _ P2 h.root rfl hE _ _ _ _ rfl Hrl.out.1 hR1 hroot H2.lo V2 (Below.refl _ _) ?_; intro u5 V3 hown3 hb3; have H3 := H2.next hb3; have hR2 : Reads V3 V3.heap.size (some ⟨w.heap.size, 36, none⟩) (tag.map v8) := (by rw [← Hd.out.2]; exact Reads.of_blk H3.blk H3.blk.lt 36); have htag : (P2 ++ h.root).length + tag.length ≤ 140737488355328 := (by rw [List.length_append, Hrl.out.1, Hrl.out.2]; omega); clear hb3 hE H2 hR1)
      | (at_builtin; refine wpList_appendS rfl (.tmp 34) (.tmp 36) rfl (w.heap.size + 1) _ (P2 ++ h.root) tag rfl hown3 _ _ _ _ rfl Hrl.out.2 hR2 htag H3.lo V3 (Below.refl _ _) ?_; intro u6 V4 hown4 hb4; have H4 := H3.next hb4; clear hb4 hR2))
    go_ret
    refine ⟨u6, rfl, ?_, H4.bel⟩
    have e1 : bs ++ encHd h tag = P2 ++ h.root ++ tag := by
      rw [← HP2.out, ← HP1.out]
      simp only [encHd, List.append_assoc]
    rw [e1]
    exact RwB.mono hown4 (Nat.le_succ _)
end Go.Proofs.YtcdkadidkkbhpaaDoor
