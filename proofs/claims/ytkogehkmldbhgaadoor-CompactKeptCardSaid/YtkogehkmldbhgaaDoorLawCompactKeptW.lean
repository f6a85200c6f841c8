/- The walk of the law CompactKept. Condition: the tables. -/
import Derived.Test.YtkogehkmldbhgaaDoorP25
import Derived.Test.YtkogehkmldbhgaaDoorP21
import Derived.Test.YtkogehkmldbhgaaDoorP23
import Derived.Test.YtkogehkmldbhgaaDoorP13
import Derived.Test.YtkogehkmldbhgaaDoorP24
import Derived.Test.YtkogehkmldbhgaaDoorP12
import Derived.Test.YtkogehkmldbhgaaDoorP28
namespace Go.Proofs.YtkogehkmldbhgaaDoor
open Go Go.RowKit
attribute [local irreducible] mixW
attribute [local go_sem] n8_lo n8_hi n64_lo n64_hi n32_lo n32_hi
set_option maxHeartbeats 4000000 in
set_option maxRecDepth 100000 in
theorem compactKept_walk (w : World) (hG : Glob w) (hT : Tz w) (x0 : Int) (_hx0 : -9223372036854775808 ≤ x0 ∧ x0 ≤ 9223372036854775807) (n0 : Int) (hn0 : -9223372036854775808 ≤ n0 ∧ n0 ≤ 9223372036854775807) :
    Calls Tryd.prog 9 #[.int .i64 x0, .int .i64 n0] w fun r w' => r = .returned (.bool true) ∧ Below w.heap.size w w' := by
  go_enter Tryd.func9, Tryd.ntmps9
  go_wp2_with fail
  refine (within_any n0 0 30 w (by decide) (by decide) (by decide) hn0.1 hn0.2).mono ?_
  rintro r _ ⟨rfl, rfl⟩
  have bn := withinI_bounds n0 0 30 (by decide)
  obtain ⟨N0, hN0⟩ : ∃ N : Nat, withinI n0 0 30 = (N : Int) := ⟨(withinI n0 0 30).toNat, by omega⟩
  rw [hN0] at bn ⊢
  obtain ⟨N, hN⟩ : ∃ N : Nat, (N0 : Int) + 1 = (N : Int) := ⟨N0 + 1, by omega⟩
  have hN30 : N ≤ 31 := by omega
  have hNw : wrap64 ((N0 : Int) + 1) = (N : Int) := by unfold wrap64; omega
  clear hN0
  go_wp2_with fail
  try rw [hN]
  refine (list10_any (N : Int) (by omega) (by omega) w).mono ?_
  rintro r w1 ⟨u, rfl, hL, hbel⟩
  rw [Int.toNat_natCast] at hL
  have hLl := listE_length N
  have hLm : ∀ c ∈ listE N, c.length ≤ 2 := fun c hc => by rw [listE_mem hc]; exact Nat.le_refl _
  generalize listE N = L at hL hLl hLm
  have Hm := Lib.hid hLm
  have Hl := Lib.hid hLl
  clear hLm hLl hNw hN bn
  obtain ⟨A0, cap0, _, rfl, _⟩ := id hL
  have hB0 := BookAtD.new w1 w1.heap.size
  have hbn := below_new1 w1 (Obj.cells #[.slice none 0 0, .slice none 0 0, .int .i64 0, .bool false] 66)
  have HA := Lib.hid (And.intro hL (And.intro hbel (And.intro hB0 hbn)))
  clear hL hbel hB0 hbn
  have hwN : IntKind.u64.wrap (L.length : Int) = (L.length : Int) := IntWalk.u64_in _ (by have := Hl.out; omega)
  obtain ⟨R, hR⟩ : ∃ R, rangeM (cutW x0) L 0 L.length = R := ⟨_, rfl⟩
  have HR : Hid (rangeM (cutW x0) L 0 L.length = R ∧ GoodD R) := Lib.hid ⟨hR, by rw [← hR]; exact ⟨rangeM_mem _ _ _ _, by have := rangeM_64 (cutW x0) L (a := 0) (e := L.length) (by have := Hl.out; omega); omega⟩⟩
  clear hR
  have hz32 : zeroD.length = 32 := zeroD_len
  obtain ⟨P, hP⟩ : ∃ P, addV (cutW x0) 0 L.length R zeroD = P := ⟨_, rfl⟩
  have HP : Hid (addV (cutW x0) 0 L.length R zeroD = P ∧ GoodD P.hs) := Lib.hid ⟨hP, by
    have hl : R.length ≤ 64 := by rw [← HR.out.1]; exact rangeM_64 _ _ (by have := Hl.out; omega)
    have := addV_ok (cutW x0) 0 L.length R zeroD HR.out.2.1 zeroD_len (by omega)
    rw [hP] at this
    exact ⟨this.1, by omega⟩⟩
  clear hP
  obtain ⟨Q, hQ⟩ : ∃ Q, mergeV (cutW x0) 0 L.length R L.length L.length [] = Q := ⟨_, rfl⟩
  have HQ : Hid (mergeV (cutW x0) 0 L.length R L.length L.length [] = Q ∧ GoodD Q.hs) := Lib.hid ⟨hQ, by
    have hl : R.length ≤ 64 := by rw [← HR.out.1]; exact rangeM_64 _ _ (by have := Hl.out; omega)
    have := mergeV_ok (cutW x0) 0 L.length R L.length L.length [] (by rw [List.append_nil]; exact HR.out.2.1) (by omega) (by simp)
    rw [hQ] at this
    exact ⟨this.1, by omega⟩⟩
  clear hQ hz32
  go_wp2_with fail
  go_loopw [7, 8, 9, 10, 11, 12, 13] (fun iv _ _ _ _ _ _ wr => ∃ i : Nat, i ≤ 2 ∧ iv = .int .i64 i ∧ BookAtD wr w1.heap.size wr.heap.size (3 * i) w1.heap.size ∧ Below w1.heap.size w1 wr) (fun iv _ _ _ _ _ _ _ => 2 - (intOf iv).toNat)
  case atStart => exact ⟨0, by decide, rfl, HA.out.2.2.1.more HA.out.2.2.2.size, HA.out.2.2.2⟩
  case round =>
    obtain ⟨i, hi, rfl, hbk, hb⟩ := hrel
    by_cases hlt : i < 2
    case neg =>
      have hge : (2 : Int) ≤ (i : Int) := by omega
      have H := Lib.hid (And.intro hbk hb)
      clear hlt hbk hb
      go_wp2_with fail
      refine (apartD_any wr w1.heap.size _ _ w1.heap.size H.out.2.size (by omega) H.out.1).mono ?_
      rintro r W ⟨rfl, hbx⟩
      have hbw := HA.out.2.1.trans ((H.out.2.trans hbx).mono HA.out.2.1.size)
      clear hbx
      go_wp2_with fail
      refine (known10_any W (hG.next hbw) (hT.next hbw)).mono ?_
      rintro r W2 ⟨rfl, hbx⟩
      have hfin := hbw.trans (hbx.mono hbw.size)
      clear hbx hbw
      go_wp2_with fail
      go_ret
      exact ⟨rfl, hfin⟩
    have hi0 : (i : Int) < (2 : Int) := by omega
    obtain ⟨C0, hC0⟩ : ∃ C, wr.heap.size = C := ⟨_, rfl⟩
    have HS : Hid (Below w1.heap.size w1 wr ∧ w1.heap.size ≤ C0 ∧ wr.heap.size = C0) := Lib.hid ⟨hb, by rw [← hC0]; exact hb.size, hC0⟩
    rw [hC0] at hbk
    have H := Lib.hid (And.intro hbk (Below.refl C0 wr))
    clear hbk hb hlt hC0
    go_upto_region 6 with fail
    go_cut [8, 9] (fun s t wx => ∃ (g8 : Nat) (A1 : Option Addr) (c1 : Nat), s = .pointer (some ⟨g8, 0, none⟩) ∧ t = .int .i64 0 ∧ BookAtD wx w1.heap.size C0 (3 * i) w1.heap.size ∧ Below C0 wr wx ∧ Blk wx g8 31 (rgC 0 L.length (.slice A1 R.length c1)) ∧ wx.ownsRow C0 43 32 (.slice A1 (R).length c1) (R).length (dcells (R)))
    case first =>
      go_wp2_with fail
      refine (of_ok x0 A0 cap0 L 0 L.length wr ((HA.out.1.below (HS.out.1.trans (H.out.2.mono HS.out.2.1))).more (Nat.le_trans HS.out.2.1 (Nat.le_of_eq HS.out.2.2.symm))) (by have := Hl.out; omega) (fun c hc => by have := Hm.out c hc; omega) (Nat.zero_le _) (Nat.le_refl _) (hG.next (HA.out.2.1.trans ((HS.out.1.trans (H.out.2.mono HS.out.2.1)).mono HA.out.2.1.size))) (hT.next (HA.out.2.1.trans ((HS.out.1.trans (H.out.2.mono HS.out.2.1)).mono HA.out.2.1.size)))).mono ?_
      rintro r W1 ⟨v, rfl, hown, hbx⟩
      rw [HR.out.1] at hown
      obtain ⟨A1, c1, rfl⟩ := own_slice hown
      have Hn := Lib.hid (And.intro hbx hown)
      clear hbx hown
      simp only [rgC, nU]
      go_wp2_with fail
      go_meet
      have hn1 := below_new1 W1 (Obj.cells #[.int .u64 ((0 : Nat) : Int), .int .u64 (L.length : Int), .slice A1 R.length c1] 31)
      have hb := Hn.out.1.trans (hn1.mono Hn.out.1.size)
      exact ⟨W1.heap.size, A1, c1, rfl, rfl, And.intro (H.out.1.below hb) (And.intro (H.out.2.trans (hb.mono (Nat.le_trans (Nat.le_of_eq HS.out.2.2.symm) H.out.2.size))) (And.intro (Blk.new W1 _ _) (own_base (own_below Hn.out.2 hn1) (Nat.le_of_eq HS.out.2.2.symm))))⟩
    case rest =>
    obtain ⟨g8, A1, c1, rfl, rfl, hst⟩ := hcut
    clear H
    have H : Hid (BookAtD wc w1.heap.size C0 (3 * i) w1.heap.size ∧ Below C0 wr wc ∧ Blk wc g8 31 (rgC 0 L.length (.slice A1 R.length c1)) ∧ wc.ownsRow C0 43 32 (.slice A1 (R).length c1) (R).length (dcells (R))) := Lib.hid hst
    clear hst
    obtain ⟨C1, hC1⟩ : ∃ C, wc.heap.size = C := ⟨_, rfl⟩
    have HC1 : Hid (wc.heap.size = C1 ∧ C0 ≤ C1 ∧ ∀ g, (Value.slice A1 R.length c1).ownBlock = some g → g < C1) := Lib.hid ⟨hC1, by rw [← hC1]; exact Nat.le_trans (Nat.le_of_eq HS.out.2.2.symm) H.out.2.1.size, by rw [← hC1]; exact own_lt H.out.2.2.2⟩
    clear hC1
    go_upto_region 7 with fail
    go_cut [10, 11] (fun s t wx => ∃ (g10 : Nat) (A2 : Option Addr) (c2 : Nat), s = .pointer (some ⟨g10, 0, none⟩) ∧ t = .int .i64 (P.err : Int) ∧ BookAtD wx w1.heap.size C0 (3 * i) w1.heap.size ∧ Below C0 wr wx ∧ Blk wx g8 31 (rgC 0 L.length (.slice A1 R.length c1)) ∧ wx.ownsRow C0 43 32 (.slice A1 (R).length c1) (R).length (dcells (R)) ∧ Blk wx g10 31 (rgC P.b P.e (.slice A2 P.hs.length c2)) ∧ wx.ownsRow C1 43 32 (.slice A2 (P.hs).length c2) (P.hs).length (dcells (P.hs)) ∧ C1 ≤ wx.heap.size)
    case first =>
      go_wp2_with (first
        | (refine wpList_load_row rfl _ (.tmp 8) rfl g8 rfl _ _ _ _ H.out.2.2.1 Tryd.underlying31 rfl (by kernel_rfl) ?_)
        | (refine wpList_buildZ rfl rfl ?_))
      have hc := add_any x0 0 L.length (by decide) (by have := Hl.out; omega) A1 c1 R HR.out.2.1 zeroD zeroD_len wc (DX.of_own H.out.2.2.2) (hG.next (HA.out.2.1.trans ((HS.out.1.trans (H.out.2.1.mono HS.out.2.1)).mono HA.out.2.1.size))) (hT.next (HA.out.2.1.trans ((HS.out.1.trans (H.out.2.1.mono HS.out.2.1)).mono HA.out.2.1.size)))
      rw [HP.out.1] at hc
      refine hc.mono ?_
      rintro r W1 ⟨v, rfl, hown, hbx⟩
      obtain ⟨A2, c2, rfl⟩ := own_slice hown
      have Hn := Lib.hid (And.intro hbx hown)
      clear hc hbx hown
      simp only [rgC, nU]
      go_wp2_with fail
      go_meet
      have hn1 := below_new1 W1 (Obj.cells #[.int .u64 (P.b : Int), .int .u64 (P.e : Int), .slice A2 P.hs.length c2] 31)
      have hb := Hn.out.1.trans (hn1.mono Hn.out.1.size)
      exact ⟨W1.heap.size, A2, c2, rfl, rfl, And.intro (H.out.1.below hb) (And.intro (H.out.2.1.trans (hb.mono (Nat.le_trans (Nat.le_of_eq HS.out.2.2.symm) H.out.2.1.size))) (And.intro (H.out.2.2.1.below hb H.out.2.2.1.lt) (And.intro (own_below H.out.2.2.2 hb) (And.intro (Blk.new W1 _ _) (And.intro (own_base (own_below Hn.out.2 hn1) (Nat.le_of_eq HC1.out.1.symm)) (Nat.le_trans (Nat.le_of_eq HC1.out.1.symm) hb.size))))))⟩
    case rest =>
    obtain ⟨g10, A2, c2, rfl, rfl, hst⟩ := hcut
    clear H
    have H : Hid (BookAtD wc w1.heap.size C0 (3 * i) w1.heap.size ∧ Below C0 wr wc ∧ Blk wc g8 31 (rgC 0 L.length (.slice A1 R.length c1)) ∧ wc.ownsRow C0 43 32 (.slice A1 (R).length c1) (R).length (dcells (R)) ∧ Blk wc g10 31 (rgC P.b P.e (.slice A2 P.hs.length c2)) ∧ wc.ownsRow C1 43 32 (.slice A2 (P.hs).length c2) (P.hs).length (dcells (P.hs)) ∧ C1 ≤ wc.heap.size) := Lib.hid hst
    clear hst
    obtain ⟨C2, hC2⟩ : ∃ C, wc.heap.size = C := ⟨_, rfl⟩
    have HC2 : Hid (wc.heap.size = C2 ∧ C1 ≤ C2 ∧ ∀ g, (Value.slice A2 P.hs.length c2).ownBlock = some g → g < C2) := Lib.hid ⟨hC2, by rw [← hC2]; exact H.out.2.2.2.2.2.2, by rw [← hC2]; exact own_lt H.out.2.2.2.2.2.1⟩
    clear hC2
    go_upto_region 8 with fail
    go_cut [12, 13] (fun s t wx => ∃ (g12 : Nat) (A3 : Option Addr) (c3 : Nat), s = .pointer (some ⟨g12, 0, none⟩) ∧ t = .int .i64 (Q.err : Int) ∧ BookAtD wx w1.heap.size C0 (3 * i) w1.heap.size ∧ Below C0 wr wx ∧ Blk wx g8 31 (rgC 0 L.length (.slice A1 R.length c1)) ∧ wx.ownsRow C0 43 32 (.slice A1 (R).length c1) (R).length (dcells (R)) ∧ Blk wx g10 31 (rgC P.b P.e (.slice A2 P.hs.length c2)) ∧ wx.ownsRow C1 43 32 (.slice A2 (P.hs).length c2) (P.hs).length (dcells (P.hs)) ∧ C1 ≤ wx.heap.size ∧ Blk wx g12 31 (rgC Q.b Q.e (.slice A3 Q.hs.length c3)) ∧ wx.ownsRow C2 43 32 (.slice A3 (Q.hs).length c3) (Q.hs).length (dcells (Q.hs)) ∧ C2 ≤ wx.heap.size)
    case first =>
      refine wp_region_mixP (.plain 0 <| .plain 1 <| .plain 2 <| .plain 3 <| .two 4 9 (.two 5 9 (.plain 6 <| .plain 7 <| .plain 8 <| .only 9 <| .only 10 <| .plain 11 <| .done) (.only 5 <| .plain 6 <| .plain 7 <| .plain 8 <| .only 10 <| .plain 11 <| .done)) (.only 4 <| .only 5 <| .plain 6 <| .plain 7 <| .plain 8 <| .only 10 <| .plain 11 <| .done)) (by kernel_rfl) (by kernel_rfl) (fun W1 hb1 => ?_)
      have hA := H.out.2.2.1.below hb1 H.out.2.2.1.lt
      have d1 : ∀ x, (plus W1 x).cell? ⟨g8, 1, none⟩ = some (.int .u64 (L.length : Int)) := fun x => (hA.plus x).cell 1
      iterate 4 (refine mix_plain rfl ?_; (first
        | (refine wpQuiet_load rfl _ (.tmp 8) rfl g8 rfl _ _ _ _ (fun _ ⟨e, he⟩ => by rw [he]; exact hA.plus e) Tryd.underlying31 rfl (by kernel_rfl) ?_; simp only [Act.put, List.setIfInBounds_toArray, List.set_cons_zero, List.set_cons_succ])
        | go_big_quiet_step (fail)); refine wpQuiet_nil ?_)
      clear hA d1
      have hbw := Below.refl W1.heap.size W1
      have hC2W : C2 ≤ W1.heap.size := Nat.le_trans (Nat.le_of_eq HC2.out.1.symm) hb1.size
      refine mix_two_in rfl rfl (fun K hK => ?_) (fun K hK => ?_)
      · go_wp2_with fail
        refine (empty_any L.length W1).mono ?_
        rintro r W2 ⟨rfl, hbx⟩
        go_wp2_with fail
        refine hK _ _ (below_plus (hbw.trans (hbx.mono hbw.size))) ?_
        clear hK K
        replace hbw := hbw.trans (hbx.mono hbw.size)
        clear hbx
        refine mix_two_in rfl rfl (fun K hK => ?_) (fun K hK => ?_)
        · go_wp2_with fail
          have hc := merge_any x0 0 L.length L.length L.length (by decide) (by have := Hl.out; omega) (by have := Hl.out; omega) (by have := Hl.out; omega) A1 c1 none 0 R [] (by rw [List.append_nil]; exact HR.out.2.1) W2 (DX.of_own (own_below H.out.2.2.2.1 (hb1.trans (hbw.mono hb1.size)))) (DX.nil_ _) (hG.next (HA.out.2.1.trans ((HS.out.1.trans ((H.out.2.1.trans ((hb1.trans (hbw.mono hb1.size)).mono (Nat.le_trans (Nat.le_of_eq HS.out.2.2.symm) H.out.2.1.size))).mono HS.out.2.1)).mono HA.out.2.1.size))) (hT.next (HA.out.2.1.trans ((HS.out.1.trans ((H.out.2.1.trans ((hb1.trans (hbw.mono hb1.size)).mono (Nat.le_trans (Nat.le_of_eq HS.out.2.2.symm) H.out.2.1.size))).mono HS.out.2.1)).mono HA.out.2.1.size)))
          rw [HQ.out.1] at hc
          refine hc.mono ?_
          rintro r W3 ⟨v, rfl, hown, hbx⟩
          clear hc
          obtain ⟨A3, c3, rfl⟩ := own_slice hown
          have hownV := hown
          replace hown := own_base hown (Nat.le_trans hC2W hbw.size)
          go_wp2_with fail
          refine hK _ _ (below_plus (hbw.trans (hbx.mono hbw.size))) ?_
          clear hK K
          replace hbw := hbw.trans (hbx.mono hbw.size)
          clear hbx
          iterate 3 (refine mix_plain rfl ?_; go_big_quiet_step (fail); refine wpQuiet_nil ?_)
          refine mix_only_in rfl (fun K hK => ?_)
          go_wp2_with fail
          have hne : ∀ q, (Value.slice A3 Q.hs.length c3).ownBlock = some q → (some W3.heap.size : Option Nat) ≠ some q := fun q hq e => by have := own_lt hown q hq; injection e; omega
          have hbw3 := hbw.trans ((below_new1 W3 (Obj.cells (rgC 0 0 (.slice none 0 0)) 31)).mono hbw.size)
          refine hK _ _ (below_plus hbw3) ?_
          clear hK K
          refine mix_atC (fun W => Blk W W3.heap.size 31 (rgC 0 0 (.slice none 0 0)) ∧ W1.heap.size ≤ W3.heap.size ∧ Below W1.heap.size W1 W ∧ W.ownsRow C2 43 32 (.slice A3 Q.hs.length c3) Q.hs.length (dcells Q.hs)) ⟨Blk.new W3 _ _, hbw.size, hbw3, own_below hown (below_new1 W3 _)⟩ ?_
          clear hbw hbw3 hown
          obtain ⟨gD, hgD⟩ : ∃ g, W3.heap.size = g := ⟨_, rfl⟩
          rw [hgD] at hne ⊢
          rintro W4 ⟨hD, hGD, hbw, hown⟩
          clear hgD
          refine mix_only_in rfl (fun K hK => ?_)
          refine wpList_storeAll rfl rfl _ (.tmp 12) (.tmp 45) rfl gD rfl (rgC Q.b Q.e (.slice A3 Q.hs.length c3)) rfl 31 _ hD (by kernel_rfl) rfl (rgC_one _ _ _ _ _) ?_
          intro W99 h09 hg9
          have hb9 := below_only hbw hg9 hGD hbw.size
          have hXX := own_grown hown hg9 hne
          refine hK _ _ (below_plus hb9) ?_
          clear hK K
          iterate 1 (refine mix_plain rfl ?_; go_big_quiet_step (fail); refine wpQuiet_nil ?_)
          refine mix_done ?_
          go_wp2_with fail
          go_meet
          have hb := hb1.trans (hb9.mono hb1.size)
          exact ⟨gD, A3, c3, rfl, rfl, And.intro (H.out.1.below hb) (And.intro (H.out.2.1.trans (hb.mono (Nat.le_trans (Nat.le_of_eq HS.out.2.2.symm) H.out.2.1.size))) (And.intro (H.out.2.2.1.below hb H.out.2.2.1.lt) (And.intro (own_below H.out.2.2.2.1 hb) (And.intro (H.out.2.2.2.2.1.below hb H.out.2.2.2.2.1.lt) (And.intro (own_below H.out.2.2.2.2.2.1 hb) (And.intro (Nat.le_trans H.out.2.2.2.2.2.2 hb.size) (And.intro (h09) (And.intro (hXX) (Nat.le_trans hC2W hb9.size)))))))))⟩
        · go_wp2_with fail
          have hbw3 := hbw.trans ((below_new1 W2 (Obj.cells (rgC 0 0 (.slice none 0 0)) 31)).mono hbw.size)
          refine hK _ _ (below_plus hbw3) ?_
          clear hK K
          refine mix_atC (fun W => Blk W W2.heap.size 31 (rgC 0 0 (.slice none 0 0)) ∧ W1.heap.size ≤ W2.heap.size ∧ Below W1.heap.size W1 W) ⟨Blk.new W2 _ _, hbw.size, hbw3⟩ ?_
          clear hbw hbw3
          obtain ⟨gD, hgD⟩ : ∃ g, W2.heap.size = g := ⟨_, rfl⟩
          rw [hgD]
          rintro W5 ⟨hD, hGD, hbw⟩
          clear hgD
          refine mix_only_in rfl (fun K hK => ?_)
          go_wp2_with fail
          have hc := merge_any x0 0 L.length L.length L.length (by decide) (by have := Hl.out; omega) (by have := Hl.out; omega) (by have := Hl.out; omega) A1 c1 none 0 R [] (by rw [List.append_nil]; exact HR.out.2.1) W5 (DX.of_own (own_below H.out.2.2.2.1 (hb1.trans (hbw.mono hb1.size)))) (DX.nil_ _) (hG.next (HA.out.2.1.trans ((HS.out.1.trans ((H.out.2.1.trans ((hb1.trans (hbw.mono hb1.size)).mono (Nat.le_trans (Nat.le_of_eq HS.out.2.2.symm) H.out.2.1.size))).mono HS.out.2.1)).mono HA.out.2.1.size))) (hT.next (HA.out.2.1.trans ((HS.out.1.trans ((H.out.2.1.trans ((hb1.trans (hbw.mono hb1.size)).mono (Nat.le_trans (Nat.le_of_eq HS.out.2.2.symm) H.out.2.1.size))).mono HS.out.2.1)).mono HA.out.2.1.size)))
          rw [HQ.out.1] at hc
          refine hc.mono ?_
          rintro r W6 ⟨v, rfl, hown, hbx⟩
          clear hc
          obtain ⟨A3, c3, rfl⟩ := own_slice hown
          have hownV := hown
          replace hown := own_base hown (Nat.le_trans hC2W hbw.size)
          have hne : ∀ q, (Value.slice A3 Q.hs.length c3).ownBlock = some q → (some gD : Option Nat) ≠ some q := fun q hq e => by have := own_ge hownV q hq; have := hD.lt; injection e; omega
          go_wp2_with fail
          refine hK _ _ (below_plus (hbw.trans (hbx.mono hbw.size))) ?_
          clear hK K
          replace hbw := hbw.trans (hbx.mono hbw.size)
          replace hD := hD.below hbx hD.lt
          clear hbx
          iterate 3 (refine mix_plain rfl ?_; go_big_quiet_step (fail); refine wpQuiet_nil ?_)
          refine mix_only_in rfl (fun K hK => ?_)
          refine wpList_storeAll rfl rfl _ (.tmp 12) (.tmp 45) rfl gD rfl (rgC Q.b Q.e (.slice A3 Q.hs.length c3)) rfl 31 _ hD (by kernel_rfl) rfl (rgC_one _ _ _ _ _) ?_
          intro W99 h09 hg9
          have hb9 := below_only hbw hg9 hGD hbw.size
          have hXX := own_grown hown hg9 hne
          refine hK _ _ (below_plus hb9) ?_
          clear hK K
          iterate 1 (refine mix_plain rfl ?_; go_big_quiet_step (fail); refine wpQuiet_nil ?_)
          refine mix_done ?_
          go_wp2_with fail
          go_meet
          have hb := hb1.trans (hb9.mono hb1.size)
          exact ⟨gD, A3, c3, rfl, rfl, And.intro (H.out.1.below hb) (And.intro (H.out.2.1.trans (hb.mono (Nat.le_trans (Nat.le_of_eq HS.out.2.2.symm) H.out.2.1.size))) (And.intro (H.out.2.2.1.below hb H.out.2.2.1.lt) (And.intro (own_below H.out.2.2.2.1 hb) (And.intro (H.out.2.2.2.2.1.below hb H.out.2.2.2.2.1.lt) (And.intro (own_below H.out.2.2.2.2.2.1 hb) (And.intro (Nat.le_trans H.out.2.2.2.2.2.2 hb.size) (And.intro (h09) (And.intro (hXX) (Nat.le_trans hC2W hb9.size)))))))))⟩
      · go_wp2_with fail
        have hbw3 := hbw.trans ((below_new1 W1 (Obj.cells (rgC 0 0 (.slice none 0 0)) 31)).mono hbw.size)
        refine hK _ _ (below_plus hbw3) ?_
        clear hK K
        refine mix_atC (fun W => Blk W W1.heap.size 31 (rgC 0 0 (.slice none 0 0)) ∧ W1.heap.size ≤ W1.heap.size ∧ Below W1.heap.size W1 W) ⟨Blk.new W1 _ _, hbw.size, hbw3⟩ ?_
        clear hbw hbw3
        obtain ⟨gD, hgD⟩ : ∃ g, W1.heap.size = g := ⟨_, rfl⟩
        rw [hgD]
        rintro W7 ⟨hD, hGD, hbw⟩
        rw [← hgD] at hbw
        replace hGD : W1.heap.size ≤ gD := Nat.le_of_eq hgD
        clear hgD
        refine mix_only_in rfl (fun K hK => ?_)
        go_wp2_with fail
        refine (empty_any L.length W7).mono ?_
        rintro r W8 ⟨rfl, hbx⟩
        go_wp2_with fail
        refine hK _ _ (below_plus (hbw.trans (hbx.mono hbw.size))) ?_
        clear hK K
        replace hbw := hbw.trans (hbx.mono hbw.size)
        replace hD := hD.below hbx hD.lt
        clear hbx
        refine mix_only_in rfl (fun K hK => ?_)
        go_wp2_with fail
        have hc := merge_any x0 0 L.length L.length L.length (by decide) (by have := Hl.out; omega) (by have := Hl.out; omega) (by have := Hl.out; omega) A1 c1 none 0 R [] (by rw [List.append_nil]; exact HR.out.2.1) W8 (DX.of_own (own_below H.out.2.2.2.1 (hb1.trans (hbw.mono hb1.size)))) (DX.nil_ _) (hG.next (HA.out.2.1.trans ((HS.out.1.trans ((H.out.2.1.trans ((hb1.trans (hbw.mono hb1.size)).mono (Nat.le_trans (Nat.le_of_eq HS.out.2.2.symm) H.out.2.1.size))).mono HS.out.2.1)).mono HA.out.2.1.size))) (hT.next (HA.out.2.1.trans ((HS.out.1.trans ((H.out.2.1.trans ((hb1.trans (hbw.mono hb1.size)).mono (Nat.le_trans (Nat.le_of_eq HS.out.2.2.symm) H.out.2.1.size))).mono HS.out.2.1)).mono HA.out.2.1.size)))
        rw [HQ.out.1] at hc
        refine hc.mono ?_
        rintro r W9 ⟨v, rfl, hown, hbx⟩
        clear hc
        obtain ⟨A3, c3, rfl⟩ := own_slice hown
        have hownV := hown
        replace hown := own_base hown (Nat.le_trans hC2W hbw.size)
        have hne : ∀ q, (Value.slice A3 Q.hs.length c3).ownBlock = some q → (some gD : Option Nat) ≠ some q := fun q hq e => by have := own_ge hownV q hq; have := hD.lt; injection e; omega
        go_wp2_with fail
        refine hK _ _ (below_plus (hbw.trans (hbx.mono hbw.size))) ?_
        clear hK K
        replace hbw := hbw.trans (hbx.mono hbw.size)
        replace hD := hD.below hbx hD.lt
        clear hbx
        iterate 3 (refine mix_plain rfl ?_; go_big_quiet_step (fail); refine wpQuiet_nil ?_)
        refine mix_only_in rfl (fun K hK => ?_)
        refine wpList_storeAll rfl rfl _ (.tmp 12) (.tmp 45) rfl gD rfl (rgC Q.b Q.e (.slice A3 Q.hs.length c3)) rfl 31 _ hD (by kernel_rfl) rfl (rgC_one _ _ _ _ _) ?_
        intro W99 h09 hg9
        have hb9 := below_only hbw hg9 hGD hbw.size
        have hXX := own_grown hown hg9 hne
        refine hK _ _ (below_plus hb9) ?_
        clear hK K
        iterate 1 (refine mix_plain rfl ?_; go_big_quiet_step (fail); refine wpQuiet_nil ?_)
        refine mix_done ?_
        go_wp2_with fail
        go_meet
        have hb := hb1.trans (hb9.mono hb1.size)
        exact ⟨gD, A3, c3, rfl, rfl, And.intro (H.out.1.below hb) (And.intro (H.out.2.1.trans (hb.mono (Nat.le_trans (Nat.le_of_eq HS.out.2.2.symm) H.out.2.1.size))) (And.intro (H.out.2.2.1.below hb H.out.2.2.1.lt) (And.intro (own_below H.out.2.2.2.1 hb) (And.intro (H.out.2.2.2.2.1.below hb H.out.2.2.2.2.1.lt) (And.intro (own_below H.out.2.2.2.2.2.1 hb) (And.intro (Nat.le_trans H.out.2.2.2.2.2.2 hb.size) (And.intro (h09) (And.intro (hXX) (Nat.le_trans hC2W hb9.size)))))))))⟩
    case rest =>
    obtain ⟨g12, A3, c3, rfl, rfl, hst⟩ := hcut
    clear H
    have H : Hid (BookAtD wc w1.heap.size C0 (3 * i) w1.heap.size ∧ Below C0 wr wc ∧ Blk wc g8 31 (rgC 0 L.length (.slice A1 R.length c1)) ∧ wc.ownsRow C0 43 32 (.slice A1 (R).length c1) (R).length (dcells (R)) ∧ Blk wc g10 31 (rgC P.b P.e (.slice A2 P.hs.length c2)) ∧ wc.ownsRow C1 43 32 (.slice A2 (P.hs).length c2) (P.hs).length (dcells (P.hs)) ∧ C1 ≤ wc.heap.size ∧ Blk wc g12 31 (rgC Q.b Q.e (.slice A3 Q.hs.length c3)) ∧ wc.ownsRow C2 43 32 (.slice A3 (Q.hs).length c3) (Q.hs).length (dcells (Q.hs)) ∧ C2 ≤ wc.heap.size) := Lib.hid hst
    clear hst
    obtain ⟨C3, hC3⟩ : ∃ C, wc.heap.size = C := ⟨_, rfl⟩
    have hC23 : C2 ≤ C3 := by rw [← hC3]; exact H.out.2.2.2.2.2.2.2.2.2
    have HC3 : Hid (wc.heap.size = C3 ∧ C2 ≤ C3 ∧ ∀ g, (Value.slice A3 Q.hs.length c3).ownBlock = some g → g < C3) := Lib.hid ⟨hC3, hC23, by rw [← hC3]; exact own_lt H.out.2.2.2.2.2.2.2.2.1⟩
    clear hC3 hC23
    have z0 : w1.heap.size ≤ wc.heap.size := Nat.le_trans HS.out.2.1 (Nat.le_trans (Nat.le_of_eq HS.out.2.2.symm) H.out.2.1.size)
    have e8 : wc.cell? ⟨g8, 2, none⟩ = some (.slice A1 R.length c1) := H.out.2.2.1.cell 2
    go_wp2_with fail
    refine (keepD_any wc w1.heap.size C0 C1 (3 * i) w1.heap.size z0 (by omega) (.slice A1 R.length c1) R H.out.1 H.out.2.2.2.1 HR.out.2 HS.out.2.1 HC1.out.2.1 HC1.out.2.2).mono ?_
    rintro r V1 ⟨rfl, hk1, hbb1, hty1⟩
    have HV1 := Lib.hid (And.intro hk1 (And.intro hbb1 (And.intro (hty1.blk H.out.2.2.2.2.1 (by decide) (by decide)) (And.intro (hty1.own H.out.2.2.2.2.2.1 ty_ne1D ty_ne2D) (And.intro (hty1.blk H.out.2.2.2.2.2.2.2.1 (by decide) (by decide)) (hty1.own H.out.2.2.2.2.2.2.2.2.1 ty_ne1D ty_ne2D))))))
    have z1 := Nat.le_trans z0 hty1.size
    clear e8 hk1 hbb1 hty1
    have e10 : V1.cell? ⟨g10, 2, none⟩ = some (.slice A2 P.hs.length c2) := HV1.out.2.2.1.cell 2
    go_wp2_with fail
    refine (keepD_any V1 w1.heap.size C1 C2 (3 * i + 1) w1.heap.size z1 (by omega) (.slice A2 P.hs.length c2) P.hs HV1.out.1 HV1.out.2.2.2.1 HP.out.2 (Nat.le_trans HS.out.2.1 HC1.out.2.1) HC2.out.2.1 HC2.out.2.2).mono ?_
    rintro r V2 ⟨rfl, hk2, hbb2, hty2⟩
    have HV2 := Lib.hid (And.intro hk2 (And.intro (HV1.out.2.1.trans hbb2) (And.intro (hty2.blk HV1.out.2.2.2.2.1 (by decide) (by decide)) (hty2.own HV1.out.2.2.2.2.2 ty_ne1D ty_ne2D))))
    have z2 := Nat.le_trans z1 hty2.size
    have z3 : C3 ≤ V2.heap.size := Nat.le_trans (Nat.le_of_eq HC3.out.1.symm) (Nat.le_trans HV1.out.2.1.size hty2.size)
    clear e10 hk2 hbb2 hty2 HV1
    have e12 : V2.cell? ⟨g12, 2, none⟩ = some (.slice A3 Q.hs.length c3) := HV2.out.2.2.1.cell 2
    go_wp2_with fail
    refine (keepD_any V2 w1.heap.size C2 C3 (3 * i + 1 + 1) w1.heap.size z2 (by omega) (.slice A3 Q.hs.length c3) Q.hs HV2.out.1 HV2.out.2.2.2 HQ.out.2 (Nat.le_trans HS.out.2.1 (Nat.le_trans HC1.out.2.1 HC2.out.2.1)) HC3.out.2.1 HC3.out.2.2).mono ?_
    rintro r V3 ⟨rfl, hk3, hbb3, hty3⟩
    have HV3 := Lib.hid (And.intro (hk3.more (Nat.le_trans z3 hty3.size)) (HS.out.1.trans ((H.out.2.1.mono HS.out.2.1).trans (HV2.out.2.1.trans hbb3))))
    clear e12 hk3 hbb3 hty3 HV2 H
    go_wp2_with fail
    go_roundw
    case rel => exact ⟨i + 1, by omega, by go_num, (by rw [show 3 * (i + 1) = 3 * i + 1 + 1 + 1 by omega]; exact HV3.out.1), HV3.out.2⟩
    case measure => simp [intOf]; omega
end Go.Proofs.YtkogehkmldbhgaaDoor
