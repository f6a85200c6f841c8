/- Texts that stand behind one another: Sam, VerB, VerC, VerQ, VerS. No condition. -/
import Derived.Test.YtcdkadidkkbhpaaDoorS29
import Derived.Test.YtcdkadidkkbhpaaDoorS26
import Derived.Test.YtcdkadidkkbhpaaDoorS25
/- The walk of state.Same. No condition. -/
namespace Go.Proofs.YtcdkadidkkbhpaaDoor
open Go Go.RowKit
attribute [local irreducible] mixW
attribute [local go_sem] n8_lo n8_hi n64_lo n64_hi n32_lo n32_hi
def eqSta (a b : StaL) : Bool := (n64 a.clock == n64 b.clock) && ((n32 a.draw == n32 b.draw) && ((a.lane == b.lane) && (sameL eqTen a.tenants b.tenants && (sameL eqGra a.grants b.grants && sameL eqTre a.trees b.trees))))
theorem eqSta_iff (a b : StaL) : eqSta a b = true ↔ a = b := by
  constructor
  · intro e
    simp only [eqSta, Bool.and_eq_true, beq_iff_eq, sameL_iff eqTen eqTen_iff, sameL_iff eqGra eqGra_iff, sameL_iff eqTre eqTre_iff] at e
    obtain ⟨a1, a2, a3, a4, a5, a6⟩ := a
    obtain ⟨b1, b2, b3, b4, b5, b6⟩ := b
    simp only at e
    obtain ⟨e1, e2, rfl, rfl, rfl, rfl⟩ := e
    rw [n64_inj e1, n32_inj e2]
  · rintro rfl
    simp only [eqSta, beq_self_eq_true, Bool.true_and, (sameL_iff eqTen eqTen_iff _ _).2 rfl, (sameL_iff eqGra eqGra_iff _ _).2 rfl, (sameL_iff eqTre eqTre_iff _ _).2 rfl]
set_option maxHeartbeats 3000000 in
set_option maxRecDepth 100000 in
theorem same_sta (u v : Value) (a b : StaL) (w : World) (hu : Sta w w.heap.size u a) (hv : Sta w w.heap.size v b) (ha : a.ok) (hb : b.ok) :
    Calls Tryd.prog 10 #[u, v] w fun e w' => e = .returned (.bool (eqSta a b)) ∧ Below w.heap.size w w' := by
  obtain ⟨t1, r1, g1, rfl, hT1, hR1, hG1⟩ := hu
  obtain ⟨t2, r2, g2, rfl, hT2, hR2, hG2⟩ := hv
  obtain ⟨-, na1, na2, na3, oa, -⟩ := ha
  obtain ⟨-, nb1, nb2, nb3, ob, -⟩ := hb
  have HS := Lib.hid (And.intro hT1 (And.intro hR1 (And.intro hG1 (And.intro hT2 (And.intro hR2 (And.intro hG2 (And.intro oa ob)))))))
  obtain ⟨r, hr⟩ : ∃ r, eqSta a b = r := ⟨_, rfl⟩
  rw [hr]
  have Hr := Lib.hid hr
  obtain ⟨A1, c1, e1⟩ := hT1.shape
  obtain ⟨A2, c2, e2⟩ := hT2.shape
  obtain ⟨A3, c3, e3⟩ := hR1.shape
  obtain ⟨A4, c4, e4⟩ := hR2.shape
  obtain ⟨A5, c5, e5⟩ := hG1.shape
  obtain ⟨A6, c6, e6⟩ := hG2.shape
  have HO := Lib.hid (show (∀ v ∈ (staC a t1 r1 g1).toList, v.oneCell' = true) ∧ ∀ v ∈ (staC b t2 r2 g2).toList, v.oneCell' = true from ⟨staC_one _ _ _ _ (by rw [e1]; rfl) (by rw [e3]; rfl) (by rw [e5]; rfl), staC_one _ _ _ _ (by rw [e2]; rfl) (by rw [e4]; rfl) (by rw [e6]; rfl)⟩)
  clear hT1 hR1 hG1 hT2 hR2 hG2 oa ob hr e1 e2 e3 e4 e5 e6
  go_enter Tryd.func10, Tryd.ntmps10
  go_upto_region 1 with fail
  refine wp_at (fun W => Blk W w.heap.size 32 (staC a t1 r1 g1) ∧ Blk W (w.heap.size + 1) 32 (staC b t2 r2 g2) ∧ Below w.heap.size w W) ⟨(Blk.new w _ _).alloc _, Blk.new2 _ _ _ _, below_new2 _ _ _⟩ ?_
  rintro W1 ⟨hA, hB, hb1⟩
  have hD := Blk.new W1 87 #[.nilFunc]
  have hn := below_new1 W1 (Obj.cells #[.nilFunc] 87)
  go_upto_region 3 with (first
    | (refine wpList_store1 rfl rfl _ (.tmp 5) (.func 30) rfl W1.heap.size 0 rfl (.func (Fn.func 30) #[] #[]) rfl _ _ hD (by kernel_rfl) (by decide) rfl rfl ?_; intro W2 hF2 hg2))
  replace hF2 : Blk W2 W1.heap.size 87 #[.func (Fn.func 30) #[] #[]] := hF2
  have hb2 := below_only hn hg2 (Nat.le_refl _) hn.size
  have hA2 := hA.below hb2 hA.lt
  have hB2 := hB.below hb2 hB.lt
  have hbw := hb1.trans (hb2.mono hb1.size)
  have HA := Lib.hid (And.intro hF2 hbw)
  clear hA hB hb1 hD hn hF2 hg2 hb2 hbw
  obtain ⟨fb, hfb⟩ : ∃ fb, W1.heap.size = fb := ⟨_, rfl⟩
  rw [hfb] at HA ⊢
  clear hfb
  have x0 : W2.cell? ⟨w.heap.size, 0, none⟩ = some (.int .u64 (n64 a.clock)) := hA2.cell 0
  have x1 : W2.cell? ⟨w.heap.size, 1, none⟩ = some (.int .u32 (n32 a.draw)) := hA2.cell 1
  have x2 : W2.cell? ⟨w.heap.size, 2, none⟩ = some (.int .i64 a.lane) := hA2.cell 2
  have x3 : W2.cell? ⟨w.heap.size, 3, none⟩ = some t1 := hA2.cell 3
  have y0 : W2.cell? ⟨w.heap.size + 1, 0, none⟩ = some (.int .u64 (n64 b.clock)) := hB2.cell 0
  have y1 : W2.cell? ⟨w.heap.size + 1, 1, none⟩ = some (.int .u32 (n32 b.draw)) := hB2.cell 1
  have y2 : W2.cell? ⟨w.heap.size + 1, 2, none⟩ = some (.int .i64 b.lane) := hB2.cell 2
  have y3 : W2.cell? ⟨w.heap.size + 1, 3, none⟩ = some t2 := hB2.cell 3
  have HB := Lib.hid (And.intro hA2 (And.intro hB2 HA.out))
  clear hA2 hB2 HA
  cases h0 : (n64 a.clock == n64 b.clock)
  case false =>
    have HE := Lib.hid (show eqSta a b = false from by unfold eqSta; simp only [h0, Bool.true_and, Bool.false_and])
    go_wp2_with fail
    go_ret
    rw [← Hr.out, HE.out]
    exact ⟨rfl, HB.out.2.2.2⟩
  rw [← (show n64 a.clock = n64 b.clock from eq_of_beq h0)] at y0
  cases h1 : (n32 a.draw == n32 b.draw)
  case false =>
    have HE := Lib.hid (show eqSta a b = false from by unfold eqSta; simp only [h0, h1, Bool.true_and, Bool.false_and])
    go_wp2_with fail
    go_ret
    rw [← Hr.out, HE.out]
    exact ⟨rfl, HB.out.2.2.2⟩
  rw [← (show n32 a.draw = n32 b.draw from eq_of_beq h1)] at y1
  cases h2 : (a.lane == b.lane)
  case false =>
    have HE := Lib.hid (show eqSta a b = false from by unfold eqSta; simp only [h0, h1, h2, Bool.true_and, Bool.false_and])
    go_wp2_with fail
    go_ret
    rw [← Hr.out, HE.out]
    exact ⟨rfl, HB.out.2.2.2⟩
  rw [← (show a.lane = b.lane from eq_of_beq h2)] at y2
  have HH := Lib.hid (And.intro h0 (And.intro h1 h2))
  clear h0 h1 h2
  have m1 := eqTens_any t1 t2 a.tenants b.tenants W2 (HS.out.1.next HB.out.2.2.2) (HS.out.2.2.2.1.next HB.out.2.2.2) (by omega) (by omega)
  cases h3 : sameL eqTen a.tenants b.tenants
  case false =>
    have HE := Lib.hid (show eqSta a b = false from by unfold eqSta; simp only [HH.out.1, HH.out.2.1, HH.out.2.2, h3, Bool.true_and, Bool.false_and])
    rw [h3] at m1
    clear h3
    go_wp2_with (first
    | (go_at_call 35; refine m1.mono ?_; clear m1; rintro e W3 ⟨rfl, hb3⟩; have HBf := Lib.hid (HB.out.2.2.2.trans (hb3.mono HB.out.2.2.2.size)); clear hb3; refine Hid.out ?_))
    refine Lib.hid ?_
    go_wp2_with fail
    go_ret
    rw [← Hr.out, HE.out]
    exact ⟨rfl, HBf.out⟩
  rw [h3] at m1
  cases h4 : sameL eqGra a.grants b.grants
  case false =>
    have HE := Lib.hid (show eqSta a b = false from by unfold eqSta; simp only [HH.out.1, HH.out.2.1, HH.out.2.2, h3, h4, Bool.true_and, Bool.false_and])
    have H4 := Lib.hid h4
    clear h3 h4
    go_wp2_with (first
    | (go_at_call 35; refine m1.mono ?_; clear m1; rintro e W3 ⟨rfl, hb3⟩; have hA3 := HB.out.1.below hb3 HB.out.1.lt; have hB3 := HB.out.2.1.below hb3 HB.out.2.1.lt; have hF3 := HB.out.2.2.1.below hb3 HB.out.2.2.1.lt; have x5 : W3.cell? ⟨w.heap.size, 5, none⟩ = some g1 := hA3.cell 5; have y5 : W3.cell? ⟨w.heap.size + 1, 5, none⟩ = some g2 := hB3.cell 5; have HC := Lib.hid (And.intro hA3 (And.intro hB3 (And.intro hF3 (HB.out.2.2.2.trans (hb3.mono HB.out.2.2.2.size))))); have m2 := eqGras_any g1 g2 a.grants b.grants W3 (HS.out.2.2.1.next HC.out.2.2.2) (HS.out.2.2.2.2.2.1.next HC.out.2.2.2) (by omega) (by omega); rw [H4.out] at m2; clear hb3 hA3 hB3 hF3)
    | (go_at_call 36; refine m2.mono ?_; clear m2; rintro e W4 ⟨rfl, hb4⟩; have HBf := Lib.hid (HC.out.2.2.2.trans (hb4.mono HC.out.2.2.2.size)); clear hb4; refine Hid.out ?_))
    refine Lib.hid ?_
    go_wp2_with fail
    go_ret
    rw [← Hr.out, HE.out]
    exact ⟨rfl, HBf.out⟩
  have H4 := Lib.hid h4
  cases h5 : sameL eqTre a.trees b.trees
  case false =>
    have HE := Lib.hid (show eqSta a b = false from by unfold eqSta; simp only [HH.out.1, HH.out.2.1, HH.out.2.2, h3, h4, h5, Bool.true_and, Bool.false_and])
    have H5 := Lib.hid h5
    clear h3 h4 h5
    go_wp2_with (first
    | (go_at_call 35; refine m1.mono ?_; clear m1; rintro e W3 ⟨rfl, hb3⟩; have hA3 := HB.out.1.below hb3 HB.out.1.lt; have hB3 := HB.out.2.1.below hb3 HB.out.2.1.lt; have hF3 := HB.out.2.2.1.below hb3 HB.out.2.2.1.lt; have x5 : W3.cell? ⟨w.heap.size, 5, none⟩ = some g1 := hA3.cell 5; have y5 : W3.cell? ⟨w.heap.size + 1, 5, none⟩ = some g2 := hB3.cell 5; have HC := Lib.hid (And.intro hA3 (And.intro hB3 (And.intro hF3 (HB.out.2.2.2.trans (hb3.mono HB.out.2.2.2.size))))); have m2 := eqGras_any g1 g2 a.grants b.grants W3 (HS.out.2.2.1.next HC.out.2.2.2) (HS.out.2.2.2.2.2.1.next HC.out.2.2.2) (by omega) (by omega); rw [H4.out] at m2; clear hb3 hA3 hB3 hF3)
    | (go_at_call 36; refine m2.mono ?_; clear m2; rintro e W4 ⟨rfl, hb4⟩; have hA4 := HC.out.1.below hb4 HC.out.1.lt; have hB4 := HC.out.2.1.below hb4 HC.out.2.1.lt; have hF4 := HC.out.2.2.1.below hb4 HC.out.2.2.1.lt; have x4 : W4.cell? ⟨w.heap.size, 4, none⟩ = some r1 := hA4.cell 4; have y4 : W4.cell? ⟨w.heap.size + 1, 4, none⟩ = some r2 := hB4.cell 4; have HD := Lib.hid (And.intro hF4 (HC.out.2.2.2.trans (hb4.mono HC.out.2.2.2.size))); have m3 := eqTrees_any r1 r2 a.trees b.trees fb W4 ((HS.out.2.1.below HD.out.2).more HD.out.2.size) ((HS.out.2.2.2.2.1.below HD.out.2).more HD.out.2.size) (by omega) (by omega) HS.out.2.2.2.2.2.2.1 HS.out.2.2.2.2.2.2.2 HD.out.1; rw [H5.out] at m3; clear hb4 hA4 hB4 hF4)
    | (go_at_call 37; refine m3.mono ?_; clear m3; rintro e W5 ⟨rfl, hb5⟩; have HBf := Lib.hid (HD.out.2.trans (hb5.mono HD.out.2.size)); clear hb5))
    go_ret
    rw [← Hr.out, HE.out]
    exact ⟨rfl, HBf.out⟩
  case true =>
    have HE := Lib.hid (show eqSta a b = true from by unfold eqSta; simp only [HH.out.1, HH.out.2.1, HH.out.2.2, h3, h4, h5, Bool.true_and, Bool.false_and])
    have H5 := Lib.hid h5
    clear h3 h4 h5
    go_wp2_with (first
    | (go_at_call 35; refine m1.mono ?_; clear m1; rintro e W3 ⟨rfl, hb3⟩; have hA3 := HB.out.1.below hb3 HB.out.1.lt; have hB3 := HB.out.2.1.below hb3 HB.out.2.1.lt; have hF3 := HB.out.2.2.1.below hb3 HB.out.2.2.1.lt; have x5 : W3.cell? ⟨w.heap.size, 5, none⟩ = some g1 := hA3.cell 5; have y5 : W3.cell? ⟨w.heap.size + 1, 5, none⟩ = some g2 := hB3.cell 5; have HC := Lib.hid (And.intro hA3 (And.intro hB3 (And.intro hF3 (HB.out.2.2.2.trans (hb3.mono HB.out.2.2.2.size))))); have m2 := eqGras_any g1 g2 a.grants b.grants W3 (HS.out.2.2.1.next HC.out.2.2.2) (HS.out.2.2.2.2.2.1.next HC.out.2.2.2) (by omega) (by omega); rw [H4.out] at m2; clear hb3 hA3 hB3 hF3)
    | (go_at_call 36; refine m2.mono ?_; clear m2; rintro e W4 ⟨rfl, hb4⟩; have hA4 := HC.out.1.below hb4 HC.out.1.lt; have hB4 := HC.out.2.1.below hb4 HC.out.2.1.lt; have hF4 := HC.out.2.2.1.below hb4 HC.out.2.2.1.lt; have x4 : W4.cell? ⟨w.heap.size, 4, none⟩ = some r1 := hA4.cell 4; have y4 : W4.cell? ⟨w.heap.size + 1, 4, none⟩ = some r2 := hB4.cell 4; have HD := Lib.hid (And.intro hF4 (HC.out.2.2.2.trans (hb4.mono HC.out.2.2.2.size))); have m3 := eqTrees_any r1 r2 a.trees b.trees fb W4 ((HS.out.2.1.below HD.out.2).more HD.out.2.size) ((HS.out.2.2.2.2.1.below HD.out.2).more HD.out.2.size) (by omega) (by omega) HS.out.2.2.2.2.2.2.1 HS.out.2.2.2.2.2.2.2 HD.out.1; rw [H5.out] at m3; clear hb4 hA4 hB4 hF4)
    | (go_at_call 37; refine m3.mono ?_; clear m3; rintro e W5 ⟨rfl, hb5⟩; have HBf := Lib.hid (HD.out.2.trans (hb5.mono HD.out.2.size)); clear hb5))
    go_ret
    rw [← Hr.out, HE.out]
    exact ⟨rfl, HBf.out⟩
end Go.Proofs.YtcdkadidkkbhpaaDoor

/- The walks of verify's leaf and node. No condition. -/
namespace Go.Proofs.YtcdkadidkkbhpaaDoor
open Go Go.RowKit
attribute [local irreducible] mixW
attribute [local go_sem] n8_lo n8_hi n64_lo n64_hi n32_lo n32_hi
end Go.Proofs.YtcdkadidkkbhpaaDoor

/- Lists of verify's steps: their cells, append of one onto a row of the call's own. No condition. -/
namespace Go.Proofs.YtcdkadidkkbhpaaDoor
open Go Go.RowKit
/-- the cells of some steps: each a text's slice, and the hash of the text -/
def scells (n : Nat) (l : List (Value × List UInt8)) : List Value := (l.map fun p => (stepC p.1 (sumM n p.2)).toList).flatten
theorem scells_snoc (n : Nat) (l : List (Value × List UInt8)) (p : Value × List UInt8) : scells n (l ++ [p]) = scells n l ++ (stepC p.1 (sumM n p.2)).toList := by simp [scells]
theorem scells_at (n : Nat) (l : List (Value × List UInt8)) (k : Nat) (hk : k < l.length) (j : Nat) (hj : j < 33) : (scells n l)[k * 33 + j]? = (stepC l[k].1 (sumM n l[k].2))[j]? := by
  induction l generalizing k with
  | nil => simp at hk
  | cons d l ih =>
    have hd : (stepC d.1 (sumM n d.2)).toList.length = 33 := by rw [Array.length_toList, stepC_size]
    have e : scells n (d :: l) = (stepC d.1 (sumM n d.2)).toList ++ scells n l := by simp [scells]
    rw [e]
    cases k with
    | zero => rw [List.getElem?_append_left (by omega)]; simp
    | succ k =>
      rw [List.getElem?_append_right (by omega), hd, show (k + 1) * 33 + j - 33 = k * 33 + j by omega, ih k (by simpa using hk)]; simp
theorem own_grownT {w w' : World} {base s s' n m : Nat} {e e' : TypeId} {v u : Value} {xs ys : List Value} (h : w.ownsRow base e s v n xs) (hu : w.ownsRow base e' s' u m ys) (ht : e ≠ e') (hg : w.grownBy w' v.ownBlock) : w'.ownsRow base e' s' u m ys := by
  rcases h.2 with ⟨rfl, _⟩ | ⟨b, cap, cur, rfl, _, hb, _⟩
  · exact own_grown hu hg (fun g hg e => by cases e)
  · exact own_grown hu hg (own_diff hu (show Blk w b e cur from hb) ht)
end Go.Proofs.YtcdkadidkkbhpaaDoor

/- Whatever merkle proves is taken: the path of a place leads to the root. Plain. No condition. -/
namespace Go.Proofs.YtcdkadidkkbhpaaDoor
theorem halfN_of (N m : Nat) (h1 : 2 ^ m < N) (h2 : N ≤ 2 ^ (m + 1)) : halfN N = 2 ^ m := by
  unfold halfN
  have h3 : (N - 1).log2 = m := (Nat.log2_eq_iff (by have := Nat.one_le_two_pow (n := m); omega)).2 ⟨by omega, by omega⟩
  rw [h3]
theorem cutL_sum (n : Nat) (b : List UInt8) : cutL (sumM n b) n = sumM n b := by
  unfold sumM
  rw [cutL_cutL _ _ _ (sha_length b)]
  congr 1
  omega
theorem way_path (n : Nat) : ∀ (m : Nat) (l : List (List UInt8)) (a i sn : Nat) (T : List (List UInt8)), i < l.length → l.length ≤ 2 ^ m →
    (sn = a * 2 ^ m + (l.length - 1) ∨ (l.length = 2 ^ m ∧ (a + 1) * 2 ^ m ≤ sn)) → lastH n T = leafM n (l.getD i []) →
    ∃ X, lastH n (T ++ X) = rootM n l ∧ ∀ rest, wayS n (pathM n l i ++ rest) (a * 2 ^ m + i) sn T = wayS n rest a (sn / 2 ^ m) (T ++ X) := by
  intro m
  induction m with
  | zero =>
    intro l a i sn T hi hl hs hT
    simp only [Nat.pow_zero] at *
    obtain rfl : i = 0 := by omega
    refine ⟨[], ?_, fun rest => ?_⟩
    · rw [List.append_nil, hT, rootM_single n l (by omega)]
    · rw [pathM_one n l 0 (by omega), List.append_nil, Nat.mul_one, Nat.add_zero, Nat.div_one]; rfl
  | succ m ih =>
    intro l a i sn T hi hl hs hT
    have hp : 2 ^ (m + 1) = 2 * 2 ^ m := by rw [Nat.pow_succ]; omega
    have h1 : 1 ≤ 2 ^ m := Nat.one_le_two_pow
    have hd : sn / 2 ^ (m + 1) = sn / 2 ^ m / 2 := by rw [Nat.pow_succ, Nat.div_div_eq_div_mul]
    have ea : a * 2 ^ (m + 1) = (2 * a) * 2 ^ m := by rw [hp, ← Nat.mul_assoc, Nat.mul_comm a 2]
    have ea1 : (a + 1) * 2 ^ (m + 1) = (2 * a) * 2 ^ m + 2 * 2 ^ m := by rw [Nat.add_mul, ea, Nat.one_mul, hp]
    have eb : (2 * a + 1) * 2 ^ m = (2 * a) * 2 ^ m + 2 ^ m := by rw [Nat.add_mul, Nat.one_mul]
    have ec : (2 * a + 1 + 1) * 2 ^ m = (2 * a) * 2 ^ m + 2 ^ m + 2 ^ m := by rw [Nat.add_mul, eb, Nat.one_mul]
    rw [ea1, ea] at hs
    rw [ea, hd]
    by_cases hN : l.length ≤ 2 ^ m
    · have hs1 : sn = (2 * a) * 2 ^ m + (l.length - 1) := by rcases hs with h | h <;> omega
      obtain ⟨X, hX, hw⟩ := ih l (2 * a) i sn T hi hN (.inl hs1) hT
      refine ⟨X, hX, fun rest => ?_⟩
      have hq : sn / 2 ^ m = 2 * a := by
        rw [hs1, Nat.mul_comm, Nat.mul_add_div (by omega), Nat.div_eq_of_lt (by omega), Nat.add_zero]
      rw [hw rest, hq]
      by_cases h0 : a = 0
      · subst h0; rfl
      · rw [wayS_skip n (2 * a) rest _ (by omega) (by omega)]
        rw [show 2 * a / 2 = a by omega]
    · have hh := halfN_of l.length m (by omega) hl
      have hge : 2 * a + 1 ≤ sn / 2 ^ m := by
        rw [Nat.le_div_iff_mul_le (by omega), eb]
        rcases hs with h | h <;> omega
      have hr := rootM_node n l (by omega)
      rw [pathM_node n l i (by omega)]
      rw [hh] at hr ⊢
      by_cases hlt : i < 2 ^ m
      · rw [if_pos hlt]
        have hg : (l.take (2 ^ m)).getD i [] = l.getD i [] := by
          rw [List.getD_eq_getElem?_getD, List.getElem?_take_of_lt hlt, ← List.getD_eq_getElem?_getD]
        obtain ⟨X, hX, hw⟩ := ih (l.take (2 ^ m)) (2 * a) i sn T (by rw [List.length_take]; omega) (by rw [List.length_take]; omega) (.inr ⟨by rw [List.length_take]; omega, by rw [eb]; rcases hs with h | h <;> omega⟩) (by rw [hg]; exact hT)
        refine ⟨X ++ [nodeT n (lastH n (T ++ X)) (rootM n (l.drop (2 ^ m)))], ?_, fun rest => ?_⟩
        · rw [← List.append_assoc, lastH_snoc, ← nodeM_sum, hX, hr]
        · rw [List.append_assoc, hw, List.singleton_append, wayS_right n _ _ _ _ _ (by omega) (by omega) (by omega), List.append_assoc]
          rw [show 2 * a / 2 = a by omega]
      · rw [if_neg hlt]
        have hg : (l.drop (2 ^ m)).getD (i - 2 ^ m) [] = l.getD i [] := by
          rw [List.getD_eq_getElem?_getD, List.getElem?_drop, show 2 ^ m + (i - 2 ^ m) = i by omega, ← List.getD_eq_getElem?_getD]
        obtain ⟨X, hX, hw⟩ := ih (l.drop (2 ^ m)) (2 * a + 1) (i - 2 ^ m) sn T (by rw [List.length_drop]; omega) (by rw [List.length_drop]; omega) (by
          rw [List.length_drop, eb, ec]
          rcases hs with h | h
          · left; omega
          · right; omega) (by rw [hg]; exact hT)
        refine ⟨X ++ [nodeT n (rootM n (l.take (2 ^ m))) (lastH n (T ++ X))], ?_, fun rest => ?_⟩
        · rw [← List.append_assoc, lastH_snoc, ← nodeM_sum, hX, hr]
        · rw [List.append_assoc, show (2 * a) * 2 ^ m + i = (2 * a + 1) * 2 ^ m + (i - 2 ^ m) by rw [eb]; omega, hw, List.singleton_append, wayS_odd n _ _ _ _ _ (by omega) (by omega), List.append_assoc]
          rw [show (2 * a + 1) / 2 = a by omega]
/-- what is proved is taken -/
theorem leafS_path (n : Nat) (l : List (List UInt8)) (i : Nat) (hi : i < l.length) : leafS n (l.getD i []) i l.length (pathM n l i) (rootM n l) = true := by
  obtain ⟨m, hm⟩ : ∃ m, l.length ≤ 2 ^ m := ⟨l.length, Nat.le_of_lt Nat.lt_two_pow_self⟩
  obtain ⟨X, hX, hw⟩ := way_path n m l 0 i (l.length - 1) [0 :: l.getD i []] hi hm (.inl (by omega)) rfl
  have h := hw []
  rw [List.append_nil, Nat.zero_mul, Nat.zero_add, Nat.div_eq_of_lt (by omega), wayS_nil, if_pos rfl] at h
  unfold leafS
  rw [if_neg (by omega), h]
  refine decide_eq_true ?_
  rw [hX]
  obtain ⟨b, hb⟩ : ∃ b, rootM n l = sumM n b := by
    by_cases h2 : 2 ≤ l.length
    · rw [rootM_node n l h2]; exact ⟨_, rfl⟩
    · rw [rootM_single n l (by omega)]; exact ⟨_, rfl⟩
  rw [hb, cutL_sum]
end Go.Proofs.YtcdkadidkkbhpaaDoor

/- Proofs of a leaf, plain: how many hashes a path has; what two ways of one place tell. No condition. -/
namespace Go.Proofs.YtcdkadidkkbhpaaDoor
theorem stepsF_le : ∀ (f k fn sn : Nat), sn < 2 ^ k → stepsF f fn sn ≤ k := by
  intro f
  induction f with
  | zero => intro k fn sn h; exact Nat.zero_le _
  | succ f ih =>
    intro k fn sn h
    rw [stepsF]
    by_cases h0 : sn = 0
    · rw [if_pos h0]; exact Nat.zero_le _
    · rw [if_neg h0]
      cases k with
      | zero => simp at h; omega
      | succ k =>
        rw [Nat.pow_succ] at h
        split
        · have := ih k (fn / 2) (sn / 2) (by omega); omega
        · have hs := strip_snd fn sn
          have := ih k ((strip fn sn).1 / 2) ((strip fn sn).2 / 2) (by omega); omega
theorem wayS_some (n : Nat) : ∀ (f : Nat) (ps : List (List UInt8)) (fn sn : Nat) (T : List (List UInt8)), sn ≤ f → ps.length = stepsF f fn sn → ∃ X, wayS n ps fn sn T = some X := by
  intro f
  induction f with
  | zero =>
    intro ps fn sn T h hp
    obtain rfl : sn = 0 := by omega
    rw [stepsF, List.length_eq_zero_iff] at hp
    rw [wayS_end, if_pos hp]; exact ⟨_, rfl⟩
  | succ f ih =>
    intro ps fn sn T h hp
    rw [stepsF] at hp
    by_cases h0 : sn = 0
    · subst h0
      rw [if_pos rfl, List.length_eq_zero_iff] at hp
      rw [wayS_end, if_pos hp]; exact ⟨_, rfl⟩
    · rw [if_neg h0] at hp
      cases ps with
      | nil => split at hp <;> simp at hp <;> omega
      | cons p ps =>
        rw [List.length_cons] at hp
        by_cases hc : fn % 2 = 0 ∧ fn ≠ sn
        · rw [if_pos hc] at hp
          rw [wayS_right n fn sn p ps T h0 hc.1 hc.2]
          exact ih _ _ _ _ (by omega) (by omega)
        · rw [if_neg hc] at hp
          rw [wayS_left n fn sn p ps T h0 hc]
          have hs := strip_snd fn sn
          exact ih _ _ _ _ (by omega) (by omega)
theorem wayS_isSome (n : Nat) (ps : List (List UInt8)) (fn sn : Nat) (T : List (List UInt8)) : (wayS n ps fn sn T).isSome = decide (ps.length = stepsF sn fn sn) := by
  by_cases h : ps.length = stepsF sn fn sn
  · obtain ⟨X, hX⟩ := wayS_some n sn ps fn sn T (Nat.le_refl _) h
    rw [hX, decide_eq_true h]; rfl
  · rw [decide_eq_false h]
    cases hw : wayS n ps fn sn T with
    | none => rfl
    | some X => exact absurd (wayS_len n sn ps fn sn T X (Nat.le_refl _) hw).2 h
/-- what comes behind depends on the last hash alone -/
theorem wayS_swap (n : Nat) : ∀ (ps : List (List UInt8)) (fn sn : Nat) (T T' X : List (List UInt8)), lastH n T = lastH n T' → wayS n ps fn sn T = some X → ∃ Z, X = T ++ Z ∧ wayS n ps fn sn T' = some (T' ++ Z) := by
  intro ps
  induction ps with
  | nil =>
    intro fn sn T T' X h hx
    rw [wayS_nil] at hx ⊢
    split at hx
    · rename_i h0
      injection hx with hx
      exact ⟨[], by rw [← hx, List.append_nil], by rw [if_pos h0, List.append_nil]⟩
    · cases hx
  | cons p ps ih =>
    intro fn sn T T' X h hx
    by_cases h0 : sn = 0
    · rw [wayS, if_pos h0] at hx; cases hx
    · by_cases hc : fn % 2 = 0 ∧ fn ≠ sn
      · rw [wayS_right n fn sn p ps _ h0 hc.1 hc.2] at hx ⊢
        rw [h] at hx
        obtain ⟨Z, h1, h2⟩ := ih _ _ _ (T' ++ [nodeT n (lastH n T') p]) _ (by rw [lastH_snoc, lastH_snoc]) hx
        exact ⟨nodeT n (lastH n T') p :: Z, by rw [h1]; simp, by rw [h2]; simp⟩
      · rw [wayS_left n fn sn p ps _ h0 hc] at hx ⊢
        rw [h] at hx
        obtain ⟨Z, h1, h2⟩ := ih _ _ _ (T' ++ [nodeT n p (lastH n T')]) _ (by rw [lastH_snoc, lastH_snoc]) hx
        exact ⟨nodeT n p (lastH n T') :: Z, by rw [h1]; simp, by rw [h2]; simp⟩
theorem wayS_head (n : Nat) (ps : List (List UInt8)) (fn sn : Nat) (t : List UInt8) (X : List (List UInt8)) (h : wayS n ps fn sn [t] = some X) : ∃ Z, X = t :: Z := by
  obtain ⟨Z, h1, _⟩ := wayS_swap n ps fn sn [t] [t] X rfl h
  exact ⟨Z, h1⟩
theorem wayS_ne (n : Nat) (ps : List (List UInt8)) (fn sn : Nat) (t : List UInt8) (X : List (List UInt8)) (h : wayS n ps fn sn [t] = some X) : 1 ≤ X.length := by
  obtain ⟨Z, rfl⟩ := wayS_head n ps fn sn t X h
  simp
/-- two unlike texts of one hash, the first ones of two ways -/
def collF (n : Nat) : List (List UInt8) → List (List UInt8) → Option (List UInt8 × List UInt8)
  | x :: X, y :: Y => if sumM n x = sumM n y ∧ x ≠ y then some (x, y) else collF n X Y
  | _, _ => none
theorem collF_drop (n : Nat) (X Y : List (List UInt8)) (i : Nat) (h1 : i < X.length) (h2 : i < Y.length) :
    collF n (X.drop i) (Y.drop i) = if sumM n (X.getD i []) = sumM n (Y.getD i []) ∧ X.getD i [] ≠ Y.getD i [] then some (X.getD i [], Y.getD i []) else collF n (X.drop (i + 1)) (Y.drop (i + 1)) := by
  rw [List.drop_eq_getElem_cons h1, List.drop_eq_getElem_cons h2, collF]
  have e1 : X.getD i [] = X[i] := by rw [List.getD_eq_getElem?_getD, List.getElem?_eq_getElem h1]; rfl
  have e2 : Y.getD i [] = Y[i] := by rw [List.getD_eq_getElem?_getD, List.getElem?_eq_getElem h2]; rfl
  rw [e1, e2]
theorem collF_end (n : Nat) (X Y : List (List UInt8)) (i : Nat) (h : X.length ≤ i ∨ Y.length ≤ i) : collF n (X.drop i) (Y.drop i) = none := by
  rcases h with h | h
  · rw [List.drop_of_length_le h]; rfl
  · rw [List.drop_of_length_le h]
    cases X.drop i <;> rfl
theorem collF_sound (n : Nat) : ∀ (X Y : List (List UInt8)) (x y : List UInt8), collF n X Y = some (x, y) → sumM n x = sumM n y ∧ x ≠ y := by
  intro X
  induction X with
  | nil => intro Y x y h; cases h
  | cons a X ih =>
    intro Y x y h
    cases Y with
    | nil => cases h
    | cons b Y =>
      rw [collF] at h
      split at h
      · rename_i hc
        injection h with h
        injection h with h1 h2
        subst h1; subst h2; exact hc
      · exact ih Y x y h
/-- what Collide tells -/
def collS (n : Nat) (a b : List UInt8) (i s : Nat) (p q : List (List UInt8)) : Option (List UInt8 × List UInt8) :=
  if a = b then none else if s ≤ i then none else
  match wayS n p i (s - 1) [0 :: a], wayS n q i (s - 1) [0 :: b] with
  | some X, some Y => if lastH n X = lastH n Y then collF n X Y else none
  | _, _ => none
theorem collS_sound (n : Nat) (a b : List UInt8) (i s : Nat) (p q : List (List UInt8)) (x y : List UInt8) (h : collS n a b i s p q = some (x, y)) : sumM n x = sumM n y ∧ x ≠ y := by
  unfold collS at h
  split at h
  · cases h
  · split at h
    · cases h
    · split at h
      · split at h
        · exact collF_sound n _ _ x y h
        · cases h
      · cases h
theorem leafS_swap (n : Nat) (a b : List UInt8) (i s : Nat) (p : List (List UInt8)) (root : List UInt8) (h : leafM n a = leafM n b) (ht : leafS n a i s p root = true) : leafS n b i s p root = true := by
  unfold leafS at ht ⊢
  split at ht
  · cases ht
  · rename_i h0
    rw [if_neg h0]
    cases hw : wayS n p i (s - 1) [0 :: a] with
    | none => rw [hw] at ht; cases ht
    | some X =>
      rw [hw] at ht
      obtain ⟨Z, h1, h2⟩ := wayS_swap n p i (s - 1) [0 :: a] [0 :: b] X h hw
      rw [h2]
      simp only at ht ⊢
      rw [← of_decide_eq_true ht, h1]
      refine decide_eq_true ?_
      unfold lastH
      cases Z with
      | nil => exact h.symm
      | cons z Z => simp [List.getLastD_cons]
/-- two unlike leaves of one hash are told -/
theorem collS_swap (n : Nat) (a b : List UInt8) (i s : Nat) (p : List (List UInt8)) (root : List UInt8) (h : leafM n a = leafM n b) (hne : a ≠ b) (ht : leafS n a i s p root = true) : collS n a b i s p p = some (0 :: a, 0 :: b) := by
  unfold leafS at ht
  unfold collS
  rw [if_neg hne]
  split at ht
  · cases ht
  · rename_i h0
    rw [if_neg h0]
    cases hw : wayS n p i (s - 1) [0 :: a] with
    | none => rw [hw] at ht; cases ht
    | some X =>
      obtain ⟨Z, h1, h2⟩ := wayS_swap n p i (s - 1) [0 :: a] [0 :: b] X h hw
      rw [h2]
      subst h1
      have hl : lastH n ([0 :: a] ++ Z) = lastH n ([0 :: b] ++ Z) := by
        unfold lastH
        cases Z with
        | nil => exact h
        | cons z Z => simp [List.getLastD_cons]
      simp only [if_pos hl]
      rw [List.singleton_append, List.singleton_append, collF, if_pos ⟨h, by simpa using hne⟩]
end Go.Proofs.YtcdkadidkkbhpaaDoor
