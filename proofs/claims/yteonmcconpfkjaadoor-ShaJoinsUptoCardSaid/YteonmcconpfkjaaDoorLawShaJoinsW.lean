/- The walk of the law ShaJoins. Condition: the tables; the three texts together are no longer than 4000000 bytes. -/
import Derived.Test.YteonmcconpfkjaaDoorP4
import Derived.Test.YteonmcconpfkjaaDoorP5
import Derived.Test.YteonmcconpfkjaaDoorP12
namespace Go.Proofs.YteonmcconpfkjaaDoor
open Go Go.RowKit
attribute [local go_sem] n8_lo n8_hi
set_option maxHeartbeats 2000000 in
set_option maxRecDepth 100000 in
theorem shaJoins_walk (w : World) (hG : Glob w) (A0 : Option Addr) (cap0 : Nat) (a : List UInt8) (ha : BSl w w.heap.size (.slice A0 a.length cap0) a) (A1 : Option Addr) (cap1 : Nat) (b : List UInt8) (hb : BSl w w.heap.size (.slice A1 b.length cap1) b) (A2 : Option Addr) (cap2 : Nat) (c : List UInt8) (hc : BSl w w.heap.size (.slice A2 c.length cap2) c)
    (hl : a.length + b.length + c.length ≤ 4000000) :
    Calls Tryd.prog 3 #[.slice A0 a.length cap0, .slice A1 b.length cap1, .slice A2 c.length cap2] w fun r w' => r = .returned (.bool true) ∧ Below w.heap.size w w' := by
  have hB0 := BookAtB.new w w.heap.size
  have hbn := below_new1 w (Obj.cells #[.slice none 0 0, .slice none 0 0, .int .i64 0, .bool false] 25)
  have HA := Lib.hid (And.intro ha (And.intro hb (And.intro hc (And.intro hB0 hbn))))
  clear ha hb hc hB0 hbn
  have HL := Lib.hid hl
  clear hl
  obtain ⟨X, hX⟩ : ∃ X, a ++ b ++ c = X := ⟨_, rfl⟩
  have HX : Hid ([a, b, [], c].flatten = X ∧ a ++ b ++ c = X ∧ X.length ≤ 4000000) := Lib.hid ⟨by rw [← hX]; simp, hX, by rw [← hX]; have := HL.out; simp; omega⟩
  have Hf : Hid ([a].flatten = a) := Lib.hid (by simp)
  clear hX
  go_enter Tryd.func3, Tryd.ntmps3
  go_wp2_with fail
  go_loopw [8, 9] (fun iv _ wr => ∃ i : Nat, i ≤ 2 ∧ iv = .int .i64 i ∧ BookAtB wr w.heap.size wr.heap.size (2 * i) w.heap.size ∧ Below w.heap.size w wr) (fun iv _ _ => 2 - (intOf iv).toNat)
  case atStart => exact ⟨0, by decide, rfl, HA.out.2.2.2.1.more HA.out.2.2.2.2.size, HA.out.2.2.2.2⟩
  case round =>
    obtain ⟨i, hi, rfl, hbk, hb⟩ := hrel
    by_cases hlt : i < 2
    case neg =>
      have hge : (2 : Int) ≤ (i : Int) := by omega
      have H := Lib.hid (And.intro hbk hb)
      clear hlt hbk hb
      go_wp2_with fail
      refine (apartB_any wr w.heap.size _ _ w.heap.size H.out.2.size (by omega) H.out.1).mono ?_
      rintro r W ⟨rfl, hbx⟩
      have hbw := H.out.2.trans hbx
      clear hbx
      go_wp2_with fail
      refine (known_any W (hG.next hbw)).mono ?_
      rintro r W2 ⟨rfl, hbx⟩
      have hfin := hbw.trans (hbx.mono hbw.size)
      clear hbx hbw
      go_wp2_with fail
      go_ret
      exact ⟨rfl, hfin⟩
    have hi0 : (i : Int) < (2 : Int) := by omega
    have hn1 := below_new1 wr (Obj.cells #[.slice A0 a.length cap0, .slice A1 b.length cap1, .slice none 0 0, .slice A2 c.length cap2] 22)
    have hblk := Blk.new wr 22 #[.slice A0 a.length cap0, .slice A1 b.length cap1, .slice none 0 0, .slice A2 c.length cap2]
    have hbw := hb.trans (hn1.mono hb.size)
    have h4 : SSl (wr.alloc (Obj.cells #[.slice A0 a.length cap0, .slice A1 b.length cap1, .slice none 0 0, .slice A2 c.length cap2] 22)) (wr.alloc (Obj.cells #[.slice A0 a.length cap0, .slice A1 b.length cap1, .slice none 0 0, .slice A2 c.length cap2] 22)).heap.size (.slice (some ⟨wr.heap.size, 0, none⟩) 4 4) [a, b, [], c] :=
      SSl.four hblk _ hblk.lt (HA.out.1.next hbw) (HA.out.2.1.next hbw) BSl.nil_ (HA.out.2.2.1.next hbw)
    have H := Lib.hid (And.intro h4 (And.intro (hbk.below hn1) (And.intro hbw (hbk.below hn1))))
    have hs1 := hn1.size
    clear hn1 hblk hbw h4 hbk hb hlt
    go_wp2_with fail
    refine calls_at (fun V => SSl V V.heap.size (.slice (some ⟨wr.heap.size, 0, none⟩) 4 4) [a, b, [], c] ∧ BookAtB V w.heap.size wr.heap.size (2 * i) w.heap.size ∧ Below w.heap.size w V ∧ wr.heap.size ≤ V.heap.size) ⟨H.out.1, H.out.2.1, H.out.2.2.1, hs1⟩ ?_
    clear H hs1
    rintro V0 H0
    have H := Lib.hid H0
    clear H0
    refine (join_any _ _ V0 H.out.1 (by rw [HX.out.1]; have := HX.out.2.2; omega)).mono ?_
    rintro r V1 ⟨u, rfl, hown, hbx⟩
    rw [HX.out.1] at hown
    obtain ⟨Au, cu, rfl⟩ := own_slice hown
    obtain ⟨C1, hC1⟩ : ∃ C, V1.heap.size = C := ⟨_, rfl⟩
    have H1 : Hid (BookAtB V1 w.heap.size V0.heap.size (2 * i) w.heap.size ∧ Below w.heap.size w V1 ∧ V1.ownsRow V0.heap.size 5 1 (.slice Au X.length cu) X.length (X.map v8) ∧ w.heap.size ≤ V0.heap.size ∧ V0.heap.size ≤ C1 ∧ V1.heap.size = C1 ∧ ∀ g, (Value.slice Au X.length cu).ownBlock = some g → g < C1) :=
      Lib.hid ⟨(H.out.2.1.more H.out.2.2.2).below hbx, H.out.2.2.1.trans (hbx.mono H.out.2.2.1.size), hown, H.out.2.2.1.size, by rw [← hC1]; exact hbx.size, hC1, by rw [← hC1]; exact own_lt hown⟩
    clear H hown hbx hC1
    have hla := HL.out
    go_wp2_with (first
      | (refine wpList_strA rfl (.tmp 19) rfl _ X _ rfl (BSl.of_own H1.out.2.2.1) ?_)
      | (refine wpList_strA rfl (.tmp 21) rfl _ a _ rfl (HA.out.1.next H1.out.2.1) ?_)
      | (refine wpList_strA rfl (.tmp 23) rfl _ b _ rfl (HA.out.2.1.next H1.out.2.1) ?_)
      | (refine wpList_strA rfl (.tmp 26) rfl _ c _ rfl (HA.out.2.2.1.next H1.out.2.1) ?_)
      | (refine wpList_addStr rfl (.tmp 22) (.tmp 24) _ rfl a b rfl rfl (by omega) ?_)
      | (refine wpList_addStr rfl (.tmp 25) (.tmp 27) _ rfl (a ++ b) c rfl rfl (by rw [List.length_append]; omega) ?_)
      | (refine wpList_neStr rfl (.tmp 20) (.tmp 28) _ rfl X (a ++ b ++ c) rfl rfl true (decide_eq_true HX.out.2.1.symm) ?_; simp only [Bool.not_true]))
    refine (keepB_any V1 w.heap.size V0.heap.size C1 (2 * i) w.heap.size H1.out.2.1.size (by omega) (.slice Au X.length cu) X H1.out.1 H1.out.2.2.1 (by have := HX.out.2.2; unfold GoodB; omega) H1.out.2.2.2.1 H1.out.2.2.2.2.1 H1.out.2.2.2.2.2.2).mono ?_
    rintro r V2 ⟨rfl, hk2, hb2, ht2⟩
    have hbw2 := H1.out.2.1.trans hb2
    have hC2 : C1 ≤ V2.heap.size := Nat.le_trans (Nat.le_of_eq H1.out.2.2.2.2.2.1.symm) ht2.size
    have hn1 := below_new1 V2 (Obj.cells #[.slice A0 a.length cap0] 22)
    have hblk := Blk.new V2 22 #[.slice A0 a.length cap0]
    have hbw3 := hbw2.trans (hn1.mono hbw2.size)
    have h1 : SSl (V2.alloc (Obj.cells #[.slice A0 a.length cap0] 22)) (V2.alloc (Obj.cells #[.slice A0 a.length cap0] 22)).heap.size (.slice (some ⟨V2.heap.size, 0, none⟩) 1 1) [a] :=
      SSl.one hblk _ hblk.lt (HA.out.1.next hbw3)
    have H2 := Lib.hid (And.intro h1 (And.intro ((hk2.more hC2).below hn1) (And.intro hbw3 hn1.size)))
    clear hk2 hb2 ht2 hbw2 hC2 hn1 hblk hbw3 h1 H1
    go_wp2_with fail
    refine calls_at (fun V => SSl V V.heap.size (.slice (some ⟨V2.heap.size, 0, none⟩) 1 1) [a] ∧ BookAtB V w.heap.size V2.heap.size (2 * i + 1) w.heap.size ∧ Below w.heap.size w V ∧ V2.heap.size ≤ V.heap.size) H2.out ?_
    clear H2
    rintro V3 H0
    have H := Lib.hid H0
    clear H0
    refine (join_any _ _ V3 H.out.1 (by rw [Hf.out]; omega)).mono ?_
    rintro r V4 ⟨u, rfl, hown, hbx⟩
    rw [Hf.out] at hown
    obtain ⟨Ay, cy, rfl⟩ := own_slice hown
    obtain ⟨C4, hC4⟩ : ∃ C, V4.heap.size = C := ⟨_, rfl⟩
    have H4 : Hid (BookAtB V4 w.heap.size V3.heap.size (2 * i + 1) w.heap.size ∧ Below w.heap.size w V4 ∧ V4.ownsRow V3.heap.size 5 1 (.slice Ay a.length cy) a.length (a.map v8) ∧ w.heap.size ≤ V3.heap.size ∧ V3.heap.size ≤ C4 ∧ V4.heap.size = C4 ∧ ∀ g, (Value.slice Ay a.length cy).ownBlock = some g → g < C4) :=
      Lib.hid ⟨(H.out.2.1.more H.out.2.2.2).below hbx, H.out.2.2.1.trans (hbx.mono H.out.2.2.1.size), hown, H.out.2.2.1.size, by rw [← hC4]; exact hbx.size, hC4, by rw [← hC4]; exact own_lt hown⟩
    clear H hown hbx hC4
    go_wp2_with fail
    refine (keepB_any V4 w.heap.size V3.heap.size C4 (2 * i + 1) w.heap.size H4.out.2.1.size (by omega) (.slice Ay a.length cy) a H4.out.1 H4.out.2.2.1 (by unfold GoodB; omega) H4.out.2.2.2.1 H4.out.2.2.2.2.1 H4.out.2.2.2.2.2.2).mono ?_
    rintro r V5 ⟨rfl, hk5, hb5, ht5⟩
    have H5 := Lib.hid (And.intro (hk5.more (Nat.le_trans (Nat.le_of_eq H4.out.2.2.2.2.2.1.symm) ht5.size)) (H4.out.2.1.trans hb5))
    clear hk5 hb5 ht5 H4 hla
    go_wp2_with fail
    go_roundw
    case rel => exact ⟨i + 1, by omega, by go_num, (by rw [show 2 * (i + 1) = 2 * i + 1 + 1 by omega]; exact H5.out.1), H5.out.2⟩
    case measure => simp [intOf]; omega
end Go.Proofs.YteonmcconpfkjaaDoor
