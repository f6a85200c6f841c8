/- The walk of the law MerkleKept. Condition: the tables. -/
import Derived.Test.YteonmcconpfkjaaDoorP14
import Derived.Test.YteonmcconpfkjaaDoorP15
import Derived.Test.YteonmcconpfkjaaDoorP4
import Derived.Test.YteonmcconpfkjaaDoorP19
namespace Go.Proofs.YteonmcconpfkjaaDoor
open Go Go.RowKit
attribute [local irreducible] mixW
attribute [local go_sem] n8_lo n8_hi n64_lo n64_hi n32_lo n32_hi
set_option maxHeartbeats 2000000 in
set_option maxRecDepth 100000 in
theorem merkleKept_walk (w : World) (hG : Glob w) (x0 : Int) (_hx0 : -9223372036854775808 ≤ x0 ∧ x0 ≤ 9223372036854775807) (n0 : Int) (hn0 : -9223372036854775808 ≤ n0 ∧ n0 ≤ 9223372036854775807) :
    Calls Tryd.prog 5 #[.int .i64 x0, .int .i64 n0] w fun r w' => r = .returned (.bool true) ∧ Below w.heap.size w w' := by
  go_enter Tryd.func5, Tryd.ntmps5
  go_wp2_with fail
  refine (within_any n0 0 30 w (by decide) (by decide) (by decide) hn0.1 hn0.2).mono ?_
  rintro r _ ⟨rfl, rfl⟩
  have bn := withinI_bounds n0 0 30 (by decide)
  obtain ⟨N0, hN0⟩ : ∃ N : Nat, withinI n0 0 30 = (N : Int) := ⟨(withinI n0 0 30).toNat, by omega⟩
  rw [hN0] at bn ⊢
  obtain ⟨N, hN⟩ : ∃ N : Nat, (N0 : Int) + 2 = (N : Int) := ⟨N0 + 2, by omega⟩
  have hN30 : N ≤ 32 := by omega
  have hN2 : 2 ≤ N := by omega
  have hNw : wrap64 ((N0 : Int) + 2) = (N : Int) := by unfold wrap64; omega
  clear hN0
  go_wp2_with fail
  try rw [hN]
  refine (list_any (N : Int) 1 (by omega) (by omega) w).mono ?_
  rintro r w1 ⟨u, rfl, hL, hbel⟩
  rw [Int.toNat_natCast] at hL
  have hLl := listL_length N 1
  have hLm : ∀ c ∈ listL N 1, c.length ≤ 3 := fun c hc => by rw [listL_mem hc]; exact Nat.le_refl _
  generalize listL N 1 = L at hL hLl hLm
  have Hm := Lib.hid hLm
  have Hl := Lib.hid hLl
  clear hLm hLl hNw hN bn
  obtain ⟨A0, cap0, _, rfl, _⟩ := id hL
  have hB0 := BookAtD.new w1 w1.heap.size
  have hbn := below_new1 w1 (Obj.cells #[.slice none 0 0, .slice none 0 0, .int .i64 0, .bool false] 68)
  have HA := Lib.hid (And.intro hL (And.intro hbel (And.intro hB0 hbn)))
  clear hL hbel hB0 hbn
  obtain ⟨P, hP⟩ : ∃ P, pathM (cutW x0) L 1 = P := ⟨_, rfl⟩
  have HP : Hid (pathM (cutW x0) L 1 = P ∧ GoodD P) := Lib.hid ⟨hP, by rw [← hP]; exact ⟨pathM_mem _ _ _ _ (Nat.le_refl _), by have := pathM_depth (cutW x0) 6 L 1 (by have := Hl.out; show L.length ≤ 64; omega); omega⟩⟩
  clear hP
  obtain ⟨Q, hQ⟩ : ∃ Q, subM (cutW x0) L 1 true = Q := ⟨_, rfl⟩
  have HQ : Hid (subM (cutW x0) L 1 true = Q ∧ GoodD Q) := Lib.hid ⟨hQ, by rw [← hQ]; exact ⟨subM_mem _ _ _ _ _ (Nat.le_refl _), by have := subM_depth (cutW x0) 6 L 1 true (Nat.le_refl _) (by have := Hl.out; omega) (by have := Hl.out; show L.length ≤ 64; omega); omega⟩⟩
  clear hQ
  go_wp2_with fail
  go_loopw [7, 8, 9, 10, 11] (fun iv _ _ _ _ wr => ∃ i : Nat, i ≤ 2 ∧ iv = .int .i64 i ∧ BookAtD wr w1.heap.size wr.heap.size (2 * i) w1.heap.size ∧ Below w1.heap.size w1 wr) (fun iv _ _ _ _ _ => 2 - (intOf iv).toNat)
  case atStart => exact ⟨0, by decide, rfl, HA.out.2.2.1.more HA.out.2.2.2.size, HA.out.2.2.2⟩
  case round =>
    obtain ⟨i, hi, rfl, hbk, hb⟩ := hrel
    by_cases hlt : i < 2
    case neg =>
      have hge : (2 : Int) ≤ (i : Int) := by omega
      have H := Lib.hid (And.intro hbk hb)
      clear hlt hbk hb
      go_wp2_with fail
      refine (apartD_any wr w1.heap.size _ _ w1.heap.size H.out.2.size (by omega) H.out.1).mono ?_
      rintro r W ⟨rfl, hbx⟩
      have hbw := HA.out.2.1.trans ((H.out.2.trans hbx).mono HA.out.2.1.size)
      clear hbx
      go_wp2_with fail
      refine (known8_any W (hG.next hbw)).mono ?_
      rintro r W2 ⟨rfl, hbx⟩
      have hfin := hbw.trans (hbx.mono hbw.size)
      clear hbx hbw
      go_wp2_with fail
      go_ret
      exact ⟨rfl, hfin⟩
    have hi0 : (i : Int) < (2 : Int) := by omega
    have H := Lib.hid (And.intro hbk hb)
    have hz := hb.size
    clear hbk hb hlt
    go_wp2_with fail
    refine (prove_any x0 _ L 1 wr ((HA.out.1.below H.out.2).more hz) (by have := Hl.out; omega) (fun c hc => by have := Hm.out c hc; omega) (by have := Hl.out; omega) (hG.next (HA.out.2.1.trans (H.out.2.mono HA.out.2.1.size)))).mono ?_
    rintro r V1 ⟨v, rfl, hown, hbx⟩
    rw [HP.out.1] at hown
    obtain ⟨A1, c1, rfl⟩ := own_slice hown
    have H1 := Lib.hid (And.intro (H.out.1.below hbx) (And.intro (H.out.2.trans (hbx.mono hz)) (And.intro hown (And.intro (own_lt hown) hbx.size))))
    have hz1 := Nat.le_trans hz hbx.size
    clear H hown hbx
    go_wp2_with fail
    refine (compare_any x0 _ L 1 V1 ((HA.out.1.below H1.out.2.1).more hz1) (by have := Hl.out; omega) (fun c hc => by have := Hm.out c hc; omega) (Nat.le_refl _) (by have := Hl.out; omega) (hG.next (HA.out.2.1.trans (H1.out.2.1.mono HA.out.2.1.size)))).mono ?_
    rintro r V2 ⟨v, rfl, hown, hbx⟩
    rw [HQ.out.1] at hown
    obtain ⟨A2, c2, rfl⟩ := own_slice hown
    have H2 := Lib.hid (And.intro (H1.out.1.below hbx) (And.intro (H1.out.2.1.trans (hbx.mono hz1)) (And.intro (own_below H1.out.2.2.1 hbx) (And.intro hown (And.intro (own_lt hown) hbx.size)))))
    have hz2 := Nat.le_trans hz1 hbx.size
    have hlt1 := H1.out.2.2.2.1
    have hc01 := H1.out.2.2.2.2
    have HK := Lib.hid (And.intro hlt1 hc01)
    clear hown hbx hlt1 hc01 H1
    go_wp2_with fail
    refine (keepD_any V2 w1.heap.size wr.heap.size V1.heap.size (2 * i) w1.heap.size hz2 (by omega) (.slice A1 P.length c1) P H2.out.1 H2.out.2.2.1 HP.out.2 hz HK.out.2 HK.out.1).mono ?_
    rintro r V3 ⟨rfl, hk3, hb3, ht3⟩
    have H3 := Lib.hid (And.intro hk3 (And.intro (H2.out.2.1.trans hb3) (ht3.own H2.out.2.2.2.1 ty_ne1D ty_ne2D)))
    have hz3 := Nat.le_trans hz2 ht3.size
    have hs3 := ht3.size
    clear hk3 hb3 ht3
    go_wp2_with fail
    refine (keepD_any V3 w1.heap.size V1.heap.size V2.heap.size (2 * i + 1) w1.heap.size hz3 (by omega) (.slice A2 Q.length c2) Q H3.out.1 H3.out.2.2 HQ.out.2 hz1 H2.out.2.2.2.2.2 H2.out.2.2.2.2.1).mono ?_
    rintro r V4 ⟨rfl, hk4, hb4, ht4⟩
    have H4 := Lib.hid (And.intro (hk4.more (Nat.le_trans hs3 ht4.size)) (H3.out.2.1.trans hb4))
    clear hk4 hb4 ht4 H2 H3 HK
    go_wp2_with fail
    go_roundw
    case rel => exact ⟨i + 1, by omega, by go_num, (by rw [show 2 * (i + 1) = 2 * i + 1 + 1 by omega]; exact H4.out.1), H4.out.2⟩
    case measure => simp [intOf]; omega
end Go.Proofs.YteonmcconpfkjaaDoor
