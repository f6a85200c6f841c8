/- The walk of AuditForks. Conditions: the words of SHA-256; the table of strconv. -/
import Derived.Test.YtcgbokgedfekkaaDoorU22
import Derived.Test.YtcgbokgedfekkaaDoorU23
import Derived.Test.YtcgbokgedfekkaaDoorU21
import Derived.Test.YtcgbokgedfekkaaDoorU25
import Derived.Test.YtcgbokgedfekkaaDoorU28
import Derived.Test.YtcgbokgedfekkaaDoorU31
import Derived.Test.YtcgbokgedfekkaaDoorU32
import Derived.Test.YtcgbokgedfekkaaDoorU9
namespace Go.Proofs.YtcgbokgedfekkaaDoor
open Go Go.RowKit
attribute [local irreducible] mixW
attribute [local go_sem] n8_lo n8_hi n64_lo n64_hi n32_lo n32_hi
theorem list24_take (n m : Nat) (c : UInt8) : (list24 (n + m) c).take n = list24 n c := by
  unfold list24
  rw [← List.map_take, List.take_range]
  congr 2
  omega
theorem built_HF (u : UInt64) (R : List UInt8) : Tryd.prog.built 64 [(2, .int .u64 (n64 u)), (4, .agg (dat R))] = some (headC ⟨0, 0, u, 0, R⟩) := by kernel_rfl
theorem wpList_buildX {P : Program} {w : World} {ops : Array Oper} {rest : List Oper} {o : Oper} {a : Act} {Q : Exit → Act → World → Prop} (t : TypeId) (i j : Nat) (x y : Operand) (ho : o.op = .build t #[(i, x), (j, y)]) (vx vy : Value) (hx : a.eval x = vx) (hy : a.eval y = vy) (cells : Array Value) (hb : P.built t [(i, vx), (j, vy)] = some cells)
    (hw : Region.wanted o (yielded ops a.tmps) = true) (hk : wpList P ops Q rest (a.put o.dst (.agg cells)) w) : wpList P ops Q (o :: rest) a w :=
  wpList_unguard hw (wpList_plain rfl fun K hK => by
    have hb' : P.built t ((#[(i, x), (j, y)] : Array (Nat × Operand)).map fun (i, x) => (i, a.eval x)).toList = some cells := by simpa [hx, hy] using hb
    unfold Oper.wp execOp
    simp only [ho, Sem.run_bind, run_build w t _ cells hb', Result.andThen_ok, Sem.run_pure]
    exact hK _ _ hk)
def other24 : List UInt8 := [111, 116, 104, 101, 114]
theorem kwF : cutW 32 = 32 := by decide
theorem n64F (n : Nat) (h : n < 1000) : n64 (UInt64.ofNat n) = (n : Int) := by
  unfold n64; rw [UInt64.toNat_ofNat_of_lt' (by show n < 18446744073709551616; omega)]
theorem Hsr.keepB {w w' : World} {B : Nat} {v : Value} {n : Nat} (h : Hsr w B v n) (hb : Below B w w') (hB : B ≤ w'.heap.size) : Hsr w' w'.heap.size v n := by
  obtain ⟨g, t, rfl, hg, hX, ⟨g2, rfl, hg2, hT⟩, h1, h2⟩ := h
  exact ⟨g, _, rfl, Nat.lt_of_lt_of_le hg hB, hX.below hb hg, ⟨g2, rfl, Nat.lt_of_lt_of_le hg2 hB, hT.below hb hg2⟩, h1, h2⟩
theorem Hsr.atB {w w' : World} {B : Nat} {v : Value} {n : Nat} (h : Hsr w B v n) (hb : Below B w w') : Hsr w' B v n := by
  obtain ⟨g, t, rfl, hg, hX, ⟨g2, rfl, hg2, hT⟩, h1, h2⟩ := h
  exact ⟨g, _, rfl, hg, hX.below hb hg, ⟨g2, rfl, hg2, hT.below hb hg2⟩, h1, h2⟩
theorem Hsr.more {w : World} {B B' : Nat} {v : Value} {n : Nat} (h : Hsr w B v n) (hB : B ≤ B') : Hsr w B' v n := by
  obtain ⟨g, t, rfl, hg, hX, ⟨g2, rfl, hg2, hT⟩, h1, h2⟩ := h
  exact ⟨g, _, rfl, by omega, hX, ⟨g2, rfl, by omega, hT⟩, h1, h2⟩
theorem wpList_eqDG {w : World} {ops : Array Oper} {rest : List Oper} {o : Oper} {a : Act} {Q : Exit → Act → World → Prop} (x y : Operand) (yt : TypeId) (ho : o.op = .binOp .eql 35 x y yt) (X Y : List UInt8) (hx : a.eval x = .agg (dat X)) (hy : a.eval y = .agg (dat Y)) (hX : X.length = 32) (hY : Y.length = 32) (b : Bool) (hb : decide (X = Y) = b) (hw : Region.wanted o (yielded ops a.tmps) = true)
    (h : wpList Tryd.prog ops Q rest (a.put o.dst (.bool b)) w) : wpList Tryd.prog ops Q (o :: rest) a w :=
  wpList_unguard hw (wpList_eqD (o := { o with guard := none }) rfl x y yt ho X Y hx hy hX hY b hb h)
/-- the head of a list -/
def hdF (n : Nat) (R : List UInt8) : HeadL := ⟨0, 0, UInt64.ofNat n, 0, R⟩
theorem hdF_ok (n : Nat) (R : List UInt8) (h : R.length = 32) : (hdF n R).ok := ⟨h, ⟨show (-9223372036854775808 : Int) ≤ 0 by decide, show (0 : Int) ≤ 9223372036854775807 by decide⟩, ⟨show (-9223372036854775808 : Int) ≤ 0 by decide, show (0 : Int) ≤ 9223372036854775807 by decide⟩⟩
theorem tagF_ex (n : Nat) (R : List UInt8) : ∃ t : List UInt8, tag24 (hdF n R) 5 = t ∧ t.length = 32 ∧ tagL (keyL' seed24 0 0 5) (hdF n R) = t :=
  ⟨tag24 (hdF n R) 5, rfl, tagL_length _ _, by simp only [tag24, hdF]⟩
theorem signedF (n : Nat) (R t : List UInt8) (hR : R.length = 32) (ht : tag24 (hdF n R) 5 = t) (w : World) :
    Calls Tryd.prog 46 #[.agg (headC (hdF n R)), .int .u32 5] w fun e w' => e = .returned (.agg (sigC (hdF n R) t)) ∧ Below w.heap.size w w' := by
  have h := signed24_any (hdF n R) (hdF_ok n R hR) 5 w
  rw [ht] at h
  exact h
set_option maxHeartbeats 4000000 in
set_option maxRecDepth 100000 in
theorem auditForks_walk (w : World) (hg : Glob w ∧ Pz w) (x0 : Int) (hx0 : -9223372036854775808 ≤ x0 ∧ x0 ≤ 9223372036854775807) (x1 : Int) (hx1 : -9223372036854775808 ≤ x1 ∧ x1 ≤ 9223372036854775807) (x2 : Int) (hx2 : -9223372036854775808 ≤ x2 ∧ x2 ≤ 9223372036854775807) :
    Calls Tryd.prog 7 #[.int .i64 x0, .int .i64 x1, .int .i64 x2] w fun e w' => e = .returned (.bool true) ∧ Below w.heap.size w w' := by
  have HG := Lib.hid hg
  clear hg
  have m0 := within_any x0 0 20 w (by decide) (by decide) (by decide) hx0.1 hx0.2
  have b0 := withinI_bounds x0 0 20 (by decide)
  obtain ⟨n0, hn0⟩ : ∃ n : Nat, withinI x0 0 20 = (n : Int) := ⟨(withinI x0 0 20).toNat, by omega⟩
  rw [hn0] at m0 b0
  clear hn0 hx0
  have Hx := Lib.hid (And.intro hx1 hx2)
  clear hx1 hx2
  go_enter Tryd.func7, Tryd.ntmps7
  go_upto_region 2 with (first
    | (go_at_call 9; refine m0.mono ?_; rintro e _ ⟨rfl, rfl⟩))
  clear m0
  obtain ⟨N, hN⟩ : ∃ N : Nat, N = n0 + 1 := ⟨_, rfl⟩
  have eN : (n0 : Int) + 1 = (N : Int) := by omega
  rw [eN]
  have hNlo : 1 ≤ N := by omega
  have hNhi : N ≤ 21 := by omega
  clear eN hN b0
  have m1 := within_any x1 0 10 w (by decide) (by decide) (by decide) Hx.out.1.1 Hx.out.1.2
  have b1 := withinI_bounds x1 0 10 (by decide)
  obtain ⟨M, hM⟩ : ∃ n : Nat, withinI x1 0 10 = (n : Int) := ⟨(withinI x1 0 10).toNat, by omega⟩
  rw [hM] at m1 b1
  clear hM
  have hMhi : M ≤ 10 := by omega
  clear b1
  go_upto_region 3 with (first
    | (go_at_call 9; refine m1.mono ?_; rintro e _ ⟨rfl, rfl⟩))
  clear m1
  have m2 := within_any x2 0 ((N : Int) - 1) w (by decide) (by omega) (by omega) Hx.out.2.1 Hx.out.2.2
  have b2 := withinI_bounds x2 0 ((N : Int) - 1) (by omega)
  obtain ⟨a, ha⟩ : ∃ n : Nat, withinI x2 0 ((N : Int) - 1) = (n : Int) := ⟨(withinI x2 0 ((N : Int) - 1)).toNat, by omega⟩
  rw [ha] at m2 b2
  clear ha
  have haN : a < N := by omega
  clear b2
  go_upto_region 4 with (first
    | (go_at_call 9; refine m2.mono ?_; rintro e _ ⟨rfl, rfl⟩))
  clear m2 Hx
  obtain ⟨T, hT⟩ : ∃ T : Nat, T = N + M := ⟨_, rfl⟩
  have HT := Lib.hid hT
  have eT : (N : Int) + (M : Int) = (T : Int) := by omega
  have haT : (a : Int) < (T : Int) := by omega
  have hTlo : (1 : Int) ≤ (T : Int) := by omega
  have hThi : (T : Int) ≤ 31 := by omega
  clear hT
  have mA := list24_any N 1 (by omega) w
  go_upto_region 5 with (first
    | (go_at_call 40; refine mA.mono ?_; rintro e w1 ⟨va, vsa, rfl, hOa, hb1⟩))
  clear mA
  have mB := list24_any T 1 (by omega) w1
  go_upto_region 6 with (first
    | (go_at_call 40; refine mB.mono ?_; rintro e w2 ⟨vb, vsb, rfl, hOb, hb2⟩))
  clear mB
  have hsa := hOa.ssl
  obtain ⟨gb, capb, curb, hve, hgb, hcb, hBb, hab, hset⟩ := hOb.setAt a (by rw [list24_length]; omega)
  rw [list24_length] at hve hcb
  subst hve
  have H2 := Lib.hid (And.intro hsa (And.intro hb1 (And.intro hset (And.intro hb2 hgb))))
  have hTc : (T : Int) ≤ (capb : Int) := by omega
  clear hOa hOb hsa hset hb1 hb2 hgb hcb
  go_upto_region 7 with (first
    | (refine wpList_convLit rfl (.tmp 35) rfl w2 5 other24 rfl (by decide) rfl rfl ?_; intro W3 hL3 hb3; have hB3 := hBb.below hb3 hBb.lt)
    | (refine wpList_store1 rfl rfl _ (.tmp 37) (.tmp 36) rfl gb a rfl (.slice (some ⟨w2.heap.size, 0, none⟩) 5 5) rfl _ _ hB3 (by kernel_rfl) hab rfl rfl ?_; intro W4 hB4 hg4))
  have hL4 : BSl W4 W4.heap.size (.slice (some ⟨w2.heap.size, 0, none⟩) 5 5) other24 := by
    obtain ⟨A', c', e', q1, q2, q3⟩ := hL3
    injection e' with e1 e2 e3
    subst e1; subst e3
    exact BSl.more ⟨_, _, rfl, q1, q2, q3.grown' hg4 (Nat.le_refl _) (fun b off e => by injection e with e; injection e with e _ _; have := hBb.lt; omega)⟩ hg4.size
  have hsb := H2.out.2.2.1 W4 _ other24 hB4 (Only.trans (Only.of_below hb3 (some gb)) hg4) hL4
  have hb14 := below_only (H2.out.2.2.2.1.trans (hb3.mono H2.out.2.2.2.1.size)) hg4 H2.out.2.2.2.2 (Nat.le_trans H2.out.2.2.2.1.size hb3.size)
  have hsa := H2.out.1.next hb14
  have hbw := H2.out.2.1.trans (hb14.mono H2.out.2.1.size)
  have hLBl : ((list24 T 1).set a other24).length = T := by rw [List.length_set, list24_length]
  have hLBm : ∀ c ∈ (list24 T 1).set a other24, c.length ≤ 5 := fun c hc => by
    rcases List.mem_or_eq_of_mem_set hc with hc | hc
    · rw [list24_mem hc]; decide
    · rw [hc]; decide
  generalize (list24 T 1).set a other24 = LB at hsb hLBl hLBm
  have HLB := Lib.hid (And.intro hLBl hLBm)
  have H4 := Lib.hid (And.intro hsa (And.intro hsb hbw))
  clear hL3 hL4 hB3 hB4 hg4 hb3 hsb hb14 hsa hbw hLBl hLBm H2 hBb hab
  go_upto_region 8 with (first
    | (go_at_call 42; refine (new_any W4).mono ?_; rintro e W5 ⟨t5, rfl, hT5, hb5⟩)
    | (go_at_call 41; refine (new8_any t5 32 W5 hT5).mono ?_; rintro e W6 ⟨h, rfl, hH, hb6⟩))
  rw [kwF] at hH
  have hb46 := hb5.trans (hb6.mono hb5.size)
  have H6 := Lib.hid (And.intro (H4.out.1.next hb46) (And.intro (H4.out.2.1.next hb46) (And.intro hH (H4.out.2.2.trans (hb46.mono H4.out.2.2.size)))))
  clear hT5 hb5 hb6 hb46 hH H4
  have hm1 := seed24_any W6
  go_wp2_with (first
    | (go_at_call 44; refine hm1.mono ?_; rintro e w1 ⟨u, rfl, hu, hb1⟩))
  have hE := Blk.new w1 51 #[.int .u32 5]
  have hn1 := below_new1 w1 (Obj.cells #[.int .u32 5] 51)
  have hD := Blk.new (w1.alloc (Obj.cells #[.int .u32 5] 51)) 70 #[.slice (some ⟨w1.heap.size, 0, none⟩) 1 1]
  have hn2 := below_new1 (w1.alloc (Obj.cells #[.int .u32 5] 51)) (Obj.cells #[.slice (some ⟨w1.heap.size, 0, none⟩) 1 1] 70)
  have esz : (w1.alloc (Obj.cells #[.int .u32 5] 51)).heap.size = w1.heap.size + 1 := by simp
  rw [esz] at hD
  refine calls_at (fun W => BSl W W.heap.size u seed24 ∧ Blk W (w1.heap.size + 1) 70 #[.slice (some ⟨w1.heap.size, 0, none⟩) 1 1] ∧ Blk W w1.heap.size 51 #[.int .u32 5] ∧ Below W6.heap.size W6 W) ⟨hu.next (hn1.trans (hn2.mono hn1.size)), hD, hE.below hn2 hE.lt, hb1.trans ((hn1.trans (hn2.mono hn1.size)).mono hb1.size)⟩ ?_
  clear hE hn1 hD hn2 esz hu hm1 hb1
  rintro W7 ⟨hu2, hD2, hE2, hb2⟩
  have H7 := Lib.hid (And.intro (H6.out.1.next hb2) (And.intro (H6.out.2.1.next hb2) (And.intro (H6.out.2.2.1.nxt hb2) (H6.out.2.2.2.trans (hb2.mono H6.out.2.2.2.size)))))
  clear H6 hb2
  refine (audNew_any u (w1.heap.size + 1) w1.heap.size W7 hu2 hD2 hE2).mono ?_
  rintro e W8 ⟨g, m, rfl, hW8, hb8⟩
  obtain ⟨B, hB⟩ : ∃ B, B = W7.heap.size := ⟨_, rfl⟩
  rw [← hB] at hW8 hb8
  have HB := Lib.hid (show w.heap.size ≤ B by rw [hB]; exact H7.out.2.2.2.size)
  have H8 := Lib.hid (show SSl W8 B va (list24 N 1) ∧ SSl W8 B (.slice (some ⟨gb, 0, none⟩) T capb) LB ∧ Hsr W8 B h 32 ∧ Below w.heap.size w W8 ∧ B ≤ W8.heap.size ∧ Wch W8 B g m none from
    ⟨by rw [hB]; exact H7.out.1.below (by rw [← hB]; exact hb8), by rw [hB]; exact H7.out.2.1.below (by rw [← hB]; exact hb8), by rw [hB]; exact H7.out.2.2.1.atB (by rw [← hB]; exact hb8), H7.out.2.2.2.trans (hb8.mono (by rw [hB]; exact H7.out.2.2.2.size)), by have := hb8.size; omega, hW8⟩)
  clear H7 hW8 hb8 hB hu2 hD2 hE2
  obtain ⟨RA, hRA⟩ : ∃ RA, rootM 32 (list24 N 1) = RA := ⟨_, rfl⟩
  have HRA := Lib.hid (And.intro hRA (show RA.length = 32 by rw [← hRA]; exact rootM_length _ _))
  have hmr : ∀ W, SSl W W.heap.size va (list24 N 1) → Hsr W W.heap.size h 32 → Calls Tryd.prog 20 #[h, va] W fun e w' => e = .returned (.agg (dat RA)) ∧ Below W.heap.size W w' := fun W q1 q2 => by
    have := r8root_any h 32 N (list24 N 1) (Nat.le_of_eq (list24_length N 1)) (by rw [list24_length]; omega) (fun b hb => by rw [list24_mem hb]; decide) va W q1 q2
    rw [hRA] at this
    exact this
  have HMA := Lib.hid hmr
  clear hRA hmr
  have eN64 : (N : Int) % 18446744073709551616 = (N : Int) := by omega
  have eT64 : (T : Int) % 18446744073709551616 = (T : Int) := by omega
  have hN64 := n64F N (by omega)
  have hT64 := n64F T (by omega)
  have HN := Lib.hid (And.intro hN64 hT64)
  have kH : Tryd.prog.built 64 [(2, .int .u64 (N : Int)), (4, .agg (dat RA))] = some (headC (hdF N RA)) := by have := built_HF (UInt64.ofNat N) RA; rw [hN64] at this; exact this
  have HKA := Lib.hid kH
  clear kH
  clear hN64 hT64
  obtain ⟨tA, hta, htb, htc⟩ := tagF_ex N RA
  have HTA := Lib.hid (And.intro hta (And.intro htb htc))
  clear hta htb htc
  have mr9 := HMA.out W8 (H8.out.1.more H8.out.2.2.2.2.1) (H8.out.2.2.1.more H8.out.2.2.2.2.1)
  go_upto_region 11 with (first
    | (go_at_call 20; refine mr9.mono ?_; clear mr9; rintro e W9 ⟨rfl, hb9⟩; have m9 := signedF N RA tA HRA.out.2 HTA.out.1 W9)
    | (refine wpList_buildX 64 2 4 (.tmp 49) (.tmp 52) rfl (.int .u64 (N : Int)) (.agg (dat RA)) rfl rfl (headC (hdF N RA)) HKA.out rfl ?_)
    | (go_at_call 46; refine m9.mono ?_; clear m9; rintro e W10 ⟨rfl, hb10⟩; have hbx := hb9.trans (hb10.mono hb9.size); have m10 := see_first (hdF N RA) (hdF_ok N RA HRA.out.2) rfl rfl tA HTA.out.2.1 HTA.out.2.2 (.slice none 0 0) B g m W10 (HG.out.1.next (H8.out.2.2.2.1.trans (hbx.mono H8.out.2.2.2.1.size))) (Nat.le_trans H8.out.2.2.2.2.1 hbx.size) (H8.out.2.2.2.2.2.below hbx))
    | (go_at_call 45; refine m10.mono ?_; clear m10; rintro e W11 ⟨rfl, hW11, hb11⟩))
  have hB8 := H8.out.2.2.2.2.1
  have H11 := Lib.hid (show SSl W11 B va (list24 N 1) ∧ SSl W11 B (.slice (some ⟨gb, 0, none⟩) T capb) LB ∧ Hsr W11 B h 32 ∧ Below w.heap.size w W11 ∧ B ≤ W11.heap.size ∧ Wch W11 B g m (some (hdF N RA, tA)) from by
    have hb811 : Below B W8 W11 := (hbx.mono hB8).trans hb11
    exact ⟨H8.out.1.below hb811, H8.out.2.1.below hb811, H8.out.2.2.1.atB hb811, H8.out.2.2.2.1.trans (hb811.mono HB.out), Nat.le_trans hB8 hb811.size, hW11⟩)
  clear hb9 hb10 hbx hb11 hW11 hB8 H8
  obtain ⟨P, hP⟩ : ∃ P, subM 32 LB N true = P := ⟨_, rfl⟩
  have mc := r8compare_any h (.slice (some ⟨gb, 0, none⟩) T capb) 32 LB N W11 (H11.out.2.1.more H11.out.2.2.2.2.1) (by rw [HLB.out.1]; omega) (fun b hb => by have := HLB.out.2 b hb; omega) hNlo (by rw [HLB.out.1]; have := HT.out; omega) (H11.out.2.2.1.more H11.out.2.2.2.2.1)
  rw [hP] at mc
  have HPp := Lib.hid (show (∀ d ∈ P, d.length = 32) ∧ P.length ≤ 1000 from ⟨by rw [← hP]; exact subM_mem 32 _ LB N true (Nat.le_refl _), by rw [← hP]; have := subM_depth 32 6 LB N true hNlo (by rw [HLB.out.1]; have := HT.out; omega) (by rw [HLB.out.1]; omega); omega⟩)
  clear hP
  go_upto_region 12 with (first
    | (go_at_call 19; refine mc.mono ?_; rintro e W12 ⟨pv, rfl, hown12, hb12⟩))
  have H12 := Lib.hid (show SSl W12 B va (list24 N 1) ∧ SSl W12 B (.slice (some ⟨gb, 0, none⟩) T capb) LB ∧ Hsr W12 B h 32 ∧ Below w.heap.size w W12 ∧ B ≤ W12.heap.size ∧ Wch W12 B g m (some (hdF N RA, tA)) ∧ DX W12 pv P from by
    have hB' := hb12.mono H11.out.2.2.2.2.1
    exact ⟨H11.out.1.below hB', H11.out.2.1.below hB', H11.out.2.2.1.atB hB', H11.out.2.2.2.1.trans (hB'.mono HB.out), Nat.le_trans H11.out.2.2.2.2.1 hB'.size, H11.out.2.2.2.2.2.below hb12, DX.of_own hown12⟩)
  clear hown12 hb12 mc H11
  obtain ⟨RB, hRB⟩ : ∃ RB, rootM 32 LB = RB := ⟨_, rfl⟩
  have HRB := Lib.hid (show RB.length = 32 by rw [← hRB]; exact rootM_length _ _)
  have hmr : ∀ W, SSl W W.heap.size (.slice (some ⟨gb, 0, none⟩) T capb) LB → Hsr W W.heap.size h 32 → Calls Tryd.prog 20 #[h, .slice (some ⟨gb, 0, none⟩) T capb] W fun e w' => e = .returned (.agg (dat RB)) ∧ Below W.heap.size W w' := fun W q1 q2 => by
    have := r8root_any h 32 T LB (Nat.le_of_eq HLB.out.1) (by rw [HLB.out.1]; omega) (fun b hb => by have := HLB.out.2 b hb; omega) _ W q1 q2
    rw [hRB] at this
    exact this
  have HMB := Lib.hid hmr
  clear hRB hmr HLB
  have kB : Tryd.prog.built 64 [(2, .int .u64 (T : Int)), (4, .agg (dat RB))] = some (headC (hdF T RB)) := by have := built_HF (UInt64.ofNat T) RB; rw [HN.out.2] at this; exact this
  have HKB := Lib.hid kB
  clear kB
  by_cases hM0 : M = 0
  · have e1 : ((M : Int) == 0) = true := by rw [beq_iff_eq]; omega
    have e2 : ¬ 0 < M := by omega
    have hTN : T = N := by have := HT.out; omega
    clear hM0
    obtain ⟨q, hq⟩ : ∃ q, decide (RB = RA) = q := ⟨_, rfl⟩
    have Hq := Lib.hid (And.intro hq hTN)
    clear hq hTN
    have r1 := HMB.out W12 (H12.out.2.1.more H12.out.2.2.2.2.1) (H12.out.2.2.1.more H12.out.2.2.2.2.1)
    cases q with
    | true =>
      have kE : ∀ W : World, (Op.equalIn 10000 35 (.agg (dat RB)) (.agg (dat RA))).run Tryd.prog W = .ok true W := fun W => by have := eqi_datD 9998 RB RA HRB.out HRA.out.2 W; rw [Hq.out.1] at this; exact this
      go_upto_region 13 with (first
        | (go_at_call 20; refine r1.mono ?_; clear r1; rintro e W13 ⟨rfl, hb13⟩; have r2 := HMA.out W13 ((H12.out.1.more H12.out.2.2.2.2.1).next hb13) ((H12.out.2.2.1.more H12.out.2.2.2.2.1).nxt hb13))
        | (go_at_call 20; refine r2.mono ?_; clear r2; rintro e W14 ⟨rfl, hb14⟩; have hb1214 := hb13.trans (hb14.mono hb13.size)))
      have H14 := Lib.hid (show SSl W14 B va (list24 N 1) ∧ SSl W14 B (.slice (some ⟨gb, 0, none⟩) T capb) LB ∧ Hsr W14 B h 32 ∧ Below w.heap.size w W14 ∧ B ≤ W14.heap.size ∧ Wch W14 B g m (some (hdF N RA, tA)) ∧ DX W14 pv P from by
        have hB' := hb1214.mono H12.out.2.2.2.2.1
        exact ⟨H12.out.1.below hB', H12.out.2.1.below hB', H12.out.2.2.1.atB hB', H12.out.2.2.2.1.trans (hB'.mono HB.out), Nat.le_trans H12.out.2.2.2.2.1 hB'.size, H12.out.2.2.2.2.2.1.below hb1214, H12.out.2.2.2.2.2.2.next hb1214⟩)
      clear hb13 hb14 hb1214 H12
      clear HMA
      clear HMB
      have mk := known24_any W14 (HG.out.1.next H14.out.2.2.2.1) (HG.out.2.below H14.out.2.2.2.1)
      go_wp2_with (first
        | (go_at_call 47; refine mk.mono ?_; rintro e W15 ⟨rfl, hb15⟩))
      go_ret
      exact ⟨rfl, H14.out.2.2.2.1.trans (hb15.mono H14.out.2.2.2.1.size)⟩
    | false =>
      have kE : ∀ W : World, (Op.equalIn 10000 35 (.agg (dat RB)) (.agg (dat RA))).run Tryd.prog W = .ok false W := fun W => by have := eqi_datD 9998 RB RA HRB.out HRA.out.2 W; rw [Hq.out.1] at this; exact this
      go_upto_region 14 with (first
        | (go_at_call 20; refine r1.mono ?_; clear r1; rintro e W13 ⟨rfl, hb13⟩; have r2 := HMA.out W13 ((H12.out.1.more H12.out.2.2.2.2.1).next hb13) ((H12.out.2.2.1.more H12.out.2.2.2.2.1).nxt hb13))
        | (go_at_call 20; refine r2.mono ?_; clear r2; rintro e W14 ⟨rfl, hb14⟩; have hb1214 := hb13.trans (hb14.mono hb13.size)))
      have H14 := Lib.hid (show SSl W14 B va (list24 N 1) ∧ SSl W14 B (.slice (some ⟨gb, 0, none⟩) T capb) LB ∧ Hsr W14 B h 32 ∧ Below w.heap.size w W14 ∧ B ≤ W14.heap.size ∧ Wch W14 B g m (some (hdF N RA, tA)) ∧ DX W14 pv P from by
        have hB' := hb1214.mono H12.out.2.2.2.2.1
        exact ⟨H12.out.1.below hB', H12.out.2.1.below hB', H12.out.2.2.1.atB hB', H12.out.2.2.2.1.trans (hB'.mono HB.out), Nat.le_trans H12.out.2.2.2.2.1 hB'.size, H12.out.2.2.2.2.2.1.below hb1214, H12.out.2.2.2.2.2.2.next hb1214⟩)
      clear hb13 hb14 hb1214 H12
      clear HMA
      obtain ⟨tB, hta, htb, htc⟩ := tagF_ex T RB
      have HTB := Lib.hid (And.intro hta (And.intro htb htc))
      clear hta htb htc
      have r3 := HMB.out W14 (H14.out.2.1.more H14.out.2.2.2.2.1) (H14.out.2.2.1.more H14.out.2.2.2.2.1)
      clear HMB
      go_upto_region 15 with (first
        | (go_at_call 20; refine r3.mono ?_; clear r3; rintro e W15 ⟨rfl, hb15⟩; have r4 := signedF T RB tB HRB.out HTB.out.1 W15)
        | (refine wpList_buildX 64 2 4 (.tmp 103) (.tmp 106) rfl (.int .u64 (T : Int)) (.agg (dat RB)) rfl rfl (headC (hdF T RB)) HKB.out rfl ?_)
        | (go_at_call 46; refine r4.mono ?_; clear r4; rintro e W16 ⟨rfl, hb16⟩; have hbx := hb15.trans (hb16.mono hb15.size); have r5 := see_refuse (hdF T RB) (hdF_ok T RB HRB.out) rfl rfl tB HTB.out.2.1 HTB.out.2.2 (hdF N RA, tA) pv B g m W16 (HG.out.1.next (H14.out.2.2.2.1.trans (hbx.mono H14.out.2.2.2.1.size))) (Nat.le_trans H14.out.2.2.2.2.1 hbx.size) (H14.out.2.2.2.2.2.1.below hbx) 24 (by decide) (fun W _ _ => follows_same g (hdF N RA) (hdF T RB) (by show UInt64.ofNat N = UInt64.ofNat T; rw [Hq.out.2]) HRA.out.2 HRB.out (fun e => absurd e.symm (of_decide_eq_false Hq.out.1)) pv W))
        | (go_at_call 45; refine r5.mono ?_; clear r5; rintro e W17 ⟨r, rfl, hr17, hW17, hb17⟩))
      have H17 := Lib.hid (show Hsr W17 B h 32 ∧ Below w.heap.size w W17 ∧ B ≤ W17.heap.size ∧ Wch W17 B g m (some (hdF N RA, tA)) ∧ Blk W17 r 183 #[.int .i64 ((0 : Nat) : Int), .int .i64 ((24 : Nat) : Int)] from by
        have hb1417 := hbx.trans (hb17.mono hbx.size)
        have hB' := hb1417.mono H14.out.2.2.2.2.1
        exact ⟨H14.out.2.2.1.atB hB', H14.out.2.2.2.1.trans (hB'.mono HB.out), Nat.le_trans H14.out.2.2.2.2.1 hB'.size, hW17, hr17⟩)
      clear hb15 hb16 hbx hr17 hW17 hb17 H14 HKB HTB
      have r6 := audRefused_any r 0 24 (by decide) (by decide) (by decide) W17 (HG.out.2.below H17.out.2.1) H17.out.2.2.2.2
      go_upto_region 20 with (first
        | (go_at_call 48; refine r6.mono ?_; clear r6; rintro e W18 ⟨rfl, hb18⟩; have r7 := size24_any (hdF N RA) tA B g m W18 (H17.out.2.2.2.1.below hb18); rw [show n64 (hdF N RA).size = (N : Int) from HN.out.1] at r7)
        | (go_at_call 49; refine r7.mono ?_; clear r7; rintro e _ ⟨rfl, rfl⟩))
      have mC := list24_any T 1 (by omega) W18
      go_upto_region 21 with (first
        | (go_at_call 40; refine mC.mono ?_; clear mC; rintro e W20 ⟨vc, vsc, rfl, hOc, hb20⟩))
      have hb1720 := hb18.trans (hb20.mono hb18.size)
      have H20 := Lib.hid (show SSl W20 W20.heap.size vc (list24 T 1) ∧ Hsr W20 W20.heap.size h 32 ∧ Below w.heap.size w W20 ∧ B ≤ W20.heap.size ∧ Wch W20 B g m (some (hdF N RA, tA)) from by
        have hB' := hb1720.mono H17.out.2.2.1
        exact ⟨hOc.ssl, (H17.out.1.atB hB').more (Nat.le_trans H17.out.2.2.1 hB'.size), H17.out.2.1.trans (hB'.mono HB.out), Nat.le_trans H17.out.2.2.1 hB'.size, H17.out.2.2.2.1.below hb1720⟩)
      clear hb18 hOc hb20 hb1720 H17
      obtain ⟨Q, hQ⟩ : ∃ Q, subM 32 (list24 T 1) N true = Q := ⟨_, rfl⟩
      have mc := r8compare_any h vc 32 (list24 T 1) N W20 H20.out.1 (by rw [list24_length]; omega) (fun b hb => by rw [list24_mem hb]; decide) hNlo (by rw [list24_length]; have := HT.out; omega) H20.out.2.1
      rw [hQ] at mc
      obtain ⟨RC, hRC⟩ : ∃ RC, rootM 32 (list24 T 1) = RC := ⟨_, rfl⟩
      have HRC := Lib.hid (show RC.length = 32 by rw [← hRC]; exact rootM_length _ _)
      have HQp := Lib.hid (show (∀ d ∈ Q, d.length = 32) ∧ Q.length ≤ 1000 ∧ RA = RC from ⟨by rw [← hQ]; exact subM_mem 32 _ (list24 T 1) N true (Nat.le_refl _), by rw [← hQ]; have := subM_depth 32 6 (list24 T 1) N true hNlo (by rw [list24_length]; have := HT.out; omega) (by rw [list24_length]; omega); omega, by rw [← HRA.out.1, ← hRC, Hq.out.2]⟩)
      have hmr : ∀ W, SSl W W.heap.size vc (list24 T 1) → Hsr W W.heap.size h 32 → Calls Tryd.prog 20 #[h, vc] W fun e w' => e = .returned (.agg (dat RC)) ∧ Below W.heap.size W w' := fun W q1 q2 => by
        have := r8root_any h 32 T (list24 T 1) (Nat.le_of_eq (list24_length T 1)) (by rw [list24_length]; omega) (fun b hb => by rw [list24_mem hb]; decide) vc W q1 q2
        rw [hRC] at this
        exact this
      have HMC := Lib.hid hmr
      clear hQ hRC hmr
      have kC : Tryd.prog.built 64 [(2, .int .u64 (T : Int)), (4, .agg (dat RC))] = some (headC (hdF T RC)) := by have := built_HF (UInt64.ofNat T) RC; rw [HN.out.2] at this; exact this
      have HKC := Lib.hid kC
      clear kC
      obtain ⟨tC, hta, htb, htc⟩ := tagF_ex T RC
      have HTC := Lib.hid (And.intro hta (And.intro htb htc))
      clear hta htb htc
      go_upto_region 22 with (first
        | (go_at_call 19; refine mc.mono ?_; clear mc; rintro e W21 ⟨pq, rfl, hown21, hb21⟩))
      have H21 := Lib.hid (show Below w.heap.size w W21 ∧ B ≤ W21.heap.size ∧ Wch W21 B g m (some (hdF N RA, tA)) ∧ DX W21 pq Q from by
        have hB' := hb21.mono H20.out.2.2.2.1
        exact ⟨H20.out.2.2.1.trans (hB'.mono HB.out), Nat.le_trans H20.out.2.2.2.1 hB'.size, H20.out.2.2.2.2.below hb21, DX.of_own hown21⟩)
      have s1 := HMC.out W21 (H20.out.1.next hb21) (H20.out.2.1.nxt hb21)
      clear HMC H20 hb21 hown21
      go_wp2_with (first
        | (go_at_call 20; refine s1.mono ?_; clear s1; rintro e W22 ⟨rfl, hb22⟩; have s2 := signedF T RC tC HRC.out HTC.out.1 W22)
        | (refine wpList_buildX 64 2 4 (.tmp 140) (.tmp 143) rfl (.int .u64 (T : Int)) (.agg (dat RC)) rfl rfl (headC (hdF T RC)) HKC.out rfl ?_)
        | (go_at_call 46; refine s2.mono ?_; clear s2; rintro e W23 ⟨rfl, hb23⟩; have hbx := hb22.trans (hb23.mono hb22.size); have s3 := see_take (hdF T RC) (hdF_ok T RC HRC.out) rfl rfl tC HTC.out.2.1 HTC.out.2.2 (hdF N RA, tA) pq B g m W23 (HG.out.1.next (H21.out.1.trans (hbx.mono H21.out.1.size))) (Nat.le_trans H21.out.2.1 hbx.size) (H21.out.2.2.1.below hbx) (fun W _ _ => follows_eq g (hdF N RA) (hdF T RC) (by show UInt64.ofNat N = UInt64.ofNat T; rw [Hq.out.2]) HRA.out.2 HRC.out HQp.out.2.2 pq W))
        | (go_at_call 45; refine s3.mono ?_; clear s3; rintro e W24 ⟨rfl, hW24, hb24⟩; have hbw := (H21.out.1.trans (hbx.mono H21.out.1.size)).trans (hb24.mono HB.out); have s4 := size24_any (hdF T RC) tC B g m W24 hW24; rw [show n64 (hdF T RC).size = (T : Int) from HN.out.2] at s4; clear hW24)
        | (go_at_call 49; refine s4.mono ?_; clear s4; rintro e _ ⟨rfl, rfl⟩; have s5 := known24_any W24 (HG.out.1.next hbw) (HG.out.2.below hbw))
        | (go_at_call 47; refine s5.mono ?_; clear s5; rintro e W25 ⟨rfl, hb25⟩))
      go_ret
      exact ⟨rfl, hbw.trans (hb25.mono hbw.size)⟩
  · have e1 : ((M : Int) == 0) = false := by rw [beq_eq_false_iff_ne]; omega
    have e2 : 0 < M := by omega
    obtain ⟨q, hq⟩ : ∃ q, prefS 32 N T RA RB P = q := ⟨_, rfl⟩
    have Hq := Lib.hid (And.intro hq hM0)
    clear hq hM0
    have r1 := HMA.out W12 (H12.out.1.more H12.out.2.2.2.2.1) (H12.out.2.2.1.more H12.out.2.2.2.2.1)
    cases q with
    | true =>
      go_upto_region 13 with (first
        | (go_at_call 20; refine r1.mono ?_; clear r1; rintro e W13 ⟨rfl, hb13⟩; have r2 := HMB.out W13 ((H12.out.2.1.more H12.out.2.2.2.2.1).next hb13) ((H12.out.2.2.1.more H12.out.2.2.2.2.1).nxt hb13))
        | (go_at_call 20; refine r2.mono ?_; clear r2; rintro e Wx ⟨rfl, hbx⟩; have hb12x := hb13.trans (hbx.mono hb13.size); have r3 := rprefix_any h 32 N T (by omega) (by omega) RA RB HRA.out.2 HRB.out pv P HPp.out.1 (by have := HPp.out.2; omega) Wx ((H12.out.2.2.1.more H12.out.2.2.2.2.1).nxt hb12x) (H12.out.2.2.2.2.2.2.next hb12x); rw [Hq.out.1] at r3)
        | (go_at_call 24; refine r3.mono ?_; clear r3; rintro e W14 ⟨rfl, hb14⟩; have hb1214 := hb12x.trans (hb14.mono hb12x.size)))
      clear hbx hb12x
      have H14 := Lib.hid (show SSl W14 B va (list24 N 1) ∧ SSl W14 B (.slice (some ⟨gb, 0, none⟩) T capb) LB ∧ Hsr W14 B h 32 ∧ Below w.heap.size w W14 ∧ B ≤ W14.heap.size ∧ Wch W14 B g m (some (hdF N RA, tA)) ∧ DX W14 pv P from by
        have hB' := hb1214.mono H12.out.2.2.2.2.1
        exact ⟨H12.out.1.below hB', H12.out.2.1.below hB', H12.out.2.2.1.atB hB', H12.out.2.2.2.1.trans (hB'.mono HB.out), Nat.le_trans H12.out.2.2.2.2.1 hB'.size, H12.out.2.2.2.2.2.1.below hb1214, H12.out.2.2.2.2.2.2.next hb1214⟩)
      clear hb13 hb14 hb1214 H12
      clear HMA
      clear HMB
      have mk := known24_any W14 (HG.out.1.next H14.out.2.2.2.1) (HG.out.2.below H14.out.2.2.2.1)
      go_wp2_with (first
        | (go_at_call 47; refine mk.mono ?_; rintro e W15 ⟨rfl, hb15⟩))
      go_ret
      exact ⟨rfl, H14.out.2.2.2.1.trans (hb15.mono H14.out.2.2.2.1.size)⟩
    | false =>
      go_upto_region 14 with (first
        | (go_at_call 20; refine r1.mono ?_; clear r1; rintro e W13 ⟨rfl, hb13⟩; have r2 := HMB.out W13 ((H12.out.2.1.more H12.out.2.2.2.2.1).next hb13) ((H12.out.2.2.1.more H12.out.2.2.2.2.1).nxt hb13))
        | (go_at_call 20; refine r2.mono ?_; clear r2; rintro e Wx ⟨rfl, hbx⟩; have hb12x := hb13.trans (hbx.mono hb13.size); have r3 := rprefix_any h 32 N T (by omega) (by omega) RA RB HRA.out.2 HRB.out pv P HPp.out.1 (by have := HPp.out.2; omega) Wx ((H12.out.2.2.1.more H12.out.2.2.2.2.1).nxt hb12x) (H12.out.2.2.2.2.2.2.next hb12x); rw [Hq.out.1] at r3)
        | (go_at_call 24; refine r3.mono ?_; clear r3; rintro e W14 ⟨rfl, hb14⟩; have hb1214 := hb12x.trans (hb14.mono hb12x.size)))
      clear hbx hb12x
      have H14 := Lib.hid (show SSl W14 B va (list24 N 1) ∧ SSl W14 B (.slice (some ⟨gb, 0, none⟩) T capb) LB ∧ Hsr W14 B h 32 ∧ Below w.heap.size w W14 ∧ B ≤ W14.heap.size ∧ Wch W14 B g m (some (hdF N RA, tA)) ∧ DX W14 pv P from by
        have hB' := hb1214.mono H12.out.2.2.2.2.1
        exact ⟨H12.out.1.below hB', H12.out.2.1.below hB', H12.out.2.2.1.atB hB', H12.out.2.2.2.1.trans (hB'.mono HB.out), Nat.le_trans H12.out.2.2.2.2.1 hB'.size, H12.out.2.2.2.2.2.1.below hb1214, H12.out.2.2.2.2.2.2.next hb1214⟩)
      clear hb13 hb14 hb1214 H12
      clear HMA
      obtain ⟨tB, hta, htb, htc⟩ := tagF_ex T RB
      have HTB := Lib.hid (And.intro hta (And.intro htb htc))
      clear hta htb htc
      have r3 := HMB.out W14 (H14.out.2.1.more H14.out.2.2.2.2.1) (H14.out.2.2.1.more H14.out.2.2.2.2.1)
      clear HMB
      go_upto_region 15 with (first
        | (go_at_call 20; refine r3.mono ?_; clear r3; rintro e W15 ⟨rfl, hb15⟩; have r4 := signedF T RB tB HRB.out HTB.out.1 W15)
        | (refine wpList_buildX 64 2 4 (.tmp 103) (.tmp 106) rfl (.int .u64 (T : Int)) (.agg (dat RB)) rfl rfl (headC (hdF T RB)) HKB.out rfl ?_)
        | (go_at_call 46; refine r4.mono ?_; clear r4; rintro e W16 ⟨rfl, hb16⟩; have hbx := hb15.trans (hb16.mono hb15.size); have r5 := see_refuse (hdF T RB) (hdF_ok T RB HRB.out) rfl rfl tB HTB.out.2.1 HTB.out.2.2 (hdF N RA, tA) pv B g m W16 (HG.out.1.next (H14.out.2.2.2.1.trans (hbx.mono H14.out.2.2.2.1.size))) (Nat.le_trans H14.out.2.2.2.2.1 hbx.size) (H14.out.2.2.2.2.2.1.below hbx) 12 (by decide) (fun W hb hw => by have := follows_more B g m (some (hdF N RA, tA)) (hdF N RA) (hdF T RB) (by show n64 (UInt64.ofNat N) ≠ 0; rw [HN.out.1]; omega) (by show n64 (UInt64.ofNat N) < n64 (UInt64.ofNat T); rw [HN.out.1, HN.out.2]; have := HT.out; have := Hq.out.2; omega) false pv W hw (fun V hv => by have := vprefix_any 32 N T (by omega) (by omega) RA RB HRA.out.2 HRB.out pv P HPp.out.1 (by have := HPp.out.2; omega) V (H14.out.2.2.2.2.2.2.next (hbx.trans ((hb.trans (hv.mono hb.size)).mono hbx.size))) (HG.out.1.next (H14.out.2.2.2.1.trans ((hbx.trans ((hb.trans (hv.mono hb.size)).mono hbx.size)).mono H14.out.2.2.2.1.size))); rw [kwF, Hq.out.1] at this; show Calls _ _ #[.int .i64 32, .int .u64 (n64 (UInt64.ofNat N)), .int .u64 (n64 (UInt64.ofNat T)), _, _, _] _ _; rw [HN.out.1, HN.out.2]; exact this); exact this))
        | (go_at_call 45; refine r5.mono ?_; clear r5; rintro e W17 ⟨r, rfl, hr17, hW17, hb17⟩))
      have H17 := Lib.hid (show Hsr W17 B h 32 ∧ Below w.heap.size w W17 ∧ B ≤ W17.heap.size ∧ Wch W17 B g m (some (hdF N RA, tA)) ∧ Blk W17 r 183 #[.int .i64 ((0 : Nat) : Int), .int .i64 ((12 : Nat) : Int)] from by
        have hb1417 := hbx.trans (hb17.mono hbx.size)
        have hB' := hb1417.mono H14.out.2.2.2.2.1
        exact ⟨H14.out.2.2.1.atB hB', H14.out.2.2.2.1.trans (hB'.mono HB.out), Nat.le_trans H14.out.2.2.2.2.1 hB'.size, hW17, hr17⟩)
      clear hb15 hb16 hbx hr17 hW17 hb17 H14 HKB HTB
      have r6 := audRefused_any r 0 12 (by decide) (by decide) (by decide) W17 (HG.out.2.below H17.out.2.1) H17.out.2.2.2.2
      go_upto_region 20 with (first
        | (go_at_call 48; refine r6.mono ?_; clear r6; rintro e W18 ⟨rfl, hb18⟩; have r7 := size24_any (hdF N RA) tA B g m W18 (H17.out.2.2.2.1.below hb18); rw [show n64 (hdF N RA).size = (N : Int) from HN.out.1] at r7)
        | (go_at_call 49; refine r7.mono ?_; clear r7; rintro e _ ⟨rfl, rfl⟩))
      have mC := list24_any T 1 (by omega) W18
      go_upto_region 21 with (first
        | (go_at_call 40; refine mC.mono ?_; clear mC; rintro e W20 ⟨vc, vsc, rfl, hOc, hb20⟩))
      have hb1720 := hb18.trans (hb20.mono hb18.size)
      have H20 := Lib.hid (show SSl W20 W20.heap.size vc (list24 T 1) ∧ Hsr W20 W20.heap.size h 32 ∧ Below w.heap.size w W20 ∧ B ≤ W20.heap.size ∧ Wch W20 B g m (some (hdF N RA, tA)) from by
        have hB' := hb1720.mono H17.out.2.2.1
        exact ⟨hOc.ssl, (H17.out.1.atB hB').more (Nat.le_trans H17.out.2.2.1 hB'.size), H17.out.2.1.trans (hB'.mono HB.out), Nat.le_trans H17.out.2.2.1 hB'.size, H17.out.2.2.2.1.below hb1720⟩)
      clear hb18 hOc hb20 hb1720 H17
      obtain ⟨Q, hQ⟩ : ∃ Q, subM 32 (list24 T 1) N true = Q := ⟨_, rfl⟩
      have mc := r8compare_any h vc 32 (list24 T 1) N W20 H20.out.1 (by rw [list24_length]; omega) (fun b hb => by rw [list24_mem hb]; decide) hNlo (by rw [list24_length]; have := HT.out; omega) H20.out.2.1
      rw [hQ] at mc
      obtain ⟨RC, hRC⟩ : ∃ RC, rootM 32 (list24 T 1) = RC := ⟨_, rfl⟩
      have HRC := Lib.hid (show RC.length = 32 by rw [← hRC]; exact rootM_length _ _)
      have HQp := Lib.hid (show (∀ d ∈ Q, d.length = 32) ∧ Q.length ≤ 1000 ∧ prefS 32 N T RA RC Q = true from ⟨by rw [← hQ]; exact subM_mem 32 _ (list24 T 1) N true (Nat.le_refl _), by rw [← hQ]; have := subM_depth 32 6 (list24 T 1) N true hNlo (by rw [list24_length]; have := HT.out; omega) (by rw [list24_length]; omega); omega, by have := prefS_path 32 (list24 T 1) N hNlo (by rw [list24_length]; have := HT.out; omega); rw [list24_length, hRC, hQ] at this; rw [show (list24 T 1).take N = list24 N 1 by rw [HT.out]; exact list24_take N M 1, HRA.out.1] at this; exact this⟩)
      have hmr : ∀ W, SSl W W.heap.size vc (list24 T 1) → Hsr W W.heap.size h 32 → Calls Tryd.prog 20 #[h, vc] W fun e w' => e = .returned (.agg (dat RC)) ∧ Below W.heap.size W w' := fun W q1 q2 => by
        have := r8root_any h 32 T (list24 T 1) (Nat.le_of_eq (list24_length T 1)) (by rw [list24_length]; omega) (fun b hb => by rw [list24_mem hb]; decide) vc W q1 q2
        rw [hRC] at this
        exact this
      have HMC := Lib.hid hmr
      clear hQ hRC hmr
      have kC : Tryd.prog.built 64 [(2, .int .u64 (T : Int)), (4, .agg (dat RC))] = some (headC (hdF T RC)) := by have := built_HF (UInt64.ofNat T) RC; rw [HN.out.2] at this; exact this
      have HKC := Lib.hid kC
      clear kC
      obtain ⟨tC, hta, htb, htc⟩ := tagF_ex T RC
      have HTC := Lib.hid (And.intro hta (And.intro htb htc))
      clear hta htb htc
      go_upto_region 22 with (first
        | (go_at_call 19; refine mc.mono ?_; clear mc; rintro e W21 ⟨pq, rfl, hown21, hb21⟩))
      have H21 := Lib.hid (show Below w.heap.size w W21 ∧ B ≤ W21.heap.size ∧ Wch W21 B g m (some (hdF N RA, tA)) ∧ DX W21 pq Q from by
        have hB' := hb21.mono H20.out.2.2.2.1
        exact ⟨H20.out.2.2.1.trans (hB'.mono HB.out), Nat.le_trans H20.out.2.2.2.1 hB'.size, H20.out.2.2.2.2.below hb21, DX.of_own hown21⟩)
      have s1 := HMC.out W21 (H20.out.1.next hb21) (H20.out.2.1.nxt hb21)
      clear HMC H20 hb21 hown21
      go_wp2_with (first
        | (go_at_call 20; refine s1.mono ?_; clear s1; rintro e W22 ⟨rfl, hb22⟩; have s2 := signedF T RC tC HRC.out HTC.out.1 W22)
        | (refine wpList_buildX 64 2 4 (.tmp 140) (.tmp 143) rfl (.int .u64 (T : Int)) (.agg (dat RC)) rfl rfl (headC (hdF T RC)) HKC.out rfl ?_)
        | (go_at_call 46; refine s2.mono ?_; clear s2; rintro e W23 ⟨rfl, hb23⟩; have hbx := hb22.trans (hb23.mono hb22.size); have s3 := see_take (hdF T RC) (hdF_ok T RC HRC.out) rfl rfl tC HTC.out.2.1 HTC.out.2.2 (hdF N RA, tA) pq B g m W23 (HG.out.1.next (H21.out.1.trans (hbx.mono H21.out.1.size))) (Nat.le_trans H21.out.2.1 hbx.size) (H21.out.2.2.1.below hbx) (fun W hb hw => by have := follows_more B g m (some (hdF N RA, tA)) (hdF N RA) (hdF T RC) (by show n64 (UInt64.ofNat N) ≠ 0; rw [HN.out.1]; omega) (by show n64 (UInt64.ofNat N) < n64 (UInt64.ofNat T); rw [HN.out.1, HN.out.2]; have := HT.out; have := Hq.out.2; omega) true pq W hw (fun V hv => by have := vprefix_any 32 N T (by omega) (by omega) RA RC HRA.out.2 HRC.out pq Q HQp.out.1 (by have := HQp.out.2; omega) V (H21.out.2.2.2.next (hbx.trans ((hb.trans (hv.mono hb.size)).mono hbx.size))) (HG.out.1.next (H21.out.1.trans ((hbx.trans ((hb.trans (hv.mono hb.size)).mono hbx.size)).mono H21.out.1.size))); rw [kwF, HQp.out.2.2] at this; show Calls _ _ #[.int .i64 32, .int .u64 (n64 (UInt64.ofNat N)), .int .u64 (n64 (UInt64.ofNat T)), _, _, _] _ _; rw [HN.out.1, HN.out.2]; exact this); exact this))
        | (go_at_call 45; refine s3.mono ?_; clear s3; rintro e W24 ⟨rfl, hW24, hb24⟩; have hbw := (H21.out.1.trans (hbx.mono H21.out.1.size)).trans (hb24.mono HB.out); have s4 := size24_any (hdF T RC) tC B g m W24 hW24; rw [show n64 (hdF T RC).size = (T : Int) from HN.out.2] at s4; clear hW24)
        | (go_at_call 49; refine s4.mono ?_; clear s4; rintro e _ ⟨rfl, rfl⟩; have s5 := known24_any W24 (HG.out.1.next hbw) (HG.out.2.below hbw))
        | (go_at_call 47; refine s5.mono ?_; clear s5; rintro e W25 ⟨rfl, hb25⟩))
      go_ret
      exact ⟨rfl, hbw.trans (hb25.mono hbw.size)⟩
end Go.Proofs.YtcgbokgedfekkaaDoor
