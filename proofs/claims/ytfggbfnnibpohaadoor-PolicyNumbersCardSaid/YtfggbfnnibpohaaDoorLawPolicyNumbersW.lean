/- The walk of PolicyNumbers. Conditions: the table of strconv; errors.errorType. -/
import Derived.Test.YtfggbfnnibpohaaDoorQ10
namespace Go.Proofs.YtfggbfnnibpohaaDoor
open Go Go.RowKit
theorem opsP_past2 (role : Int) : opsP role 14 = opsP role 12 := opsP_past role 2
/-- a round of the inner loop: what is counted after an operation that a role may do -/
theorem ops_round (role op : Int) (j : Nat) (hj : op = (j : Int) - 1) (h : mayP role op = true) : (opsP role (j - 2)).length < (opsP role 12).length ∧ (opsP role 12)[(opsP role (j - 2)).length]? = some op ∧ (opsP role (j + 1 - 2)).length = (opsP role (j - 2)).length + 1 := by
  have hop : 1 ≤ op ∧ op ≤ 12 := Classical.byContradiction fun hn => by rw [mayP_op role hn] at h; cases h
  obtain ⟨n, rfl⟩ : ∃ n, j = n + 2 := ⟨j - 2, by omega⟩
  have e : op = (n : Int) + 1 := by omega
  subst e
  rw [show n + 2 - 2 = n by omega, show n + 2 + 1 - 2 = n + 1 by omega]
  have ha := opsP_at role n (by omega) h
  refine ⟨(List.getElem?_eq_some_iff.1 ha).1, ha, ?_⟩
  rw [opsP_succ, if_pos h, List.length_append]
  rfl
theorem ops_skip (role op : Int) (j : Nat) (hj : op = (j : Int) - 1) (h : mayP role op = false) : (opsP role (j + 1 - 2)).length = (opsP role (j - 2)).length := by
  rcases Nat.lt_or_ge j 2 with h2 | h2
  · rw [show j + 1 - 2 = 0 by omega, show j - 2 = 0 by omega]
  · obtain ⟨n, rfl⟩ : ∃ n, j = n + 2 := ⟨j - 2, by omega⟩
    have e : op = (n : Int) + 1 := by omega
    subst e
    rw [show n + 2 - 2 = n by omega, show n + 2 + 1 - 2 = n + 1 by omega, opsP_succ, h]
    simp
theorem ops1 : opsP 1 12 = [2, 3, 4, 5] := by decide
theorem ops9 : opsP 9 12 = [] := by decide
theorem dec4 : decP 4 1 1 2 = true := by decide
theorem lit_ints (w : World) : ISl (w.alloc (Obj.cells #[.int .i64 2, .int .i64 3, .int .i64 4, .int .i64 5] 3)) (w.alloc (Obj.cells #[.int .i64 2, .int .i64 3, .int .i64 4, .int .i64 5] 3)).heap.size (.slice (some ⟨w.heap.size, 0, none⟩) 4 4) [2, 3, 4, 5] := by
  have h : Reads (w.alloc (Obj.cells #[nI 2, nI 3, nI 4, nI 5] 3)) (w.heap.size + 1) (some ⟨w.heap.size, 0, none⟩) [nI 2, nI 3, nI 4, nI 5] := Reads.of_blk (Blk.new w 3 #[nI 2, nI 3, nI 4, nI 5]) (by omega) 0
  exact ⟨_, 4, rfl, Nat.le_refl _, by decide, h.more (by simp)⟩
set_option maxRecDepth 100000 in
set_option maxHeartbeats 1000000 in
theorem policyNumbers_walk (w : World) (hg : Pz w ∧ Ety w) :
    Calls Tryd.prog 6 #[] w fun e w' => e = .returned (.bool true) ∧ Below w.heap.size w w' := by
  have H0 := Lib.hid hg
  clear hg
  go_enter Tryd.func6, Tryd.ntmps6
  go_wp2_with fail
  go_loopg [1] 9 (fun gk rv wr => ∃ (k : Nat) (role : Int), 9 ≤ k + gk ∧ k ≤ 8 ∧ role = (k : Int) - 1 ∧ rv = .int .i64 role ∧ Below w.heap.size w wr)
  case atStart => exact ⟨0, -1, by omega, by omega, by omega, rfl, Below.refl _ _⟩
  case round =>
    obtain ⟨k, role, hk, hk8, hr, rfl, hb⟩ := hrel
    by_cases h7 : role < 7
    · have mo := ops_any role wr
      have HF := Lib.hid (And.intro hb (And.intro hk hr))
      have hlo : -1 ≤ role := by omega
      clear hb hk hr
      go_wp2_with (first
        | (refine mo.mono ?_; rintro e W2 ⟨v2, rfl, hown2, hb2⟩; obtain ⟨A2, c2, rfl, hrd2⟩ := hown2.slice; have hl2 := opsP_len role 12))
      have hb2' := HF.out.1.trans (hb2.mono HF.out.1.size)
      have hR := ops_round role
      have hS := ops_skip role
      have hE := congrArg List.length (opsP_past2 role)
      obtain ⟨L, hL⟩ : ∃ L, opsP role 12 = L := ⟨_, rfl⟩
      rw [hL] at hR hE hl2 hrd2 ⊢
      have H2 := Lib.hid (And.intro hb2' (And.intro hR (And.intro hS (And.intro hE (And.intro hl2 hrd2)))))
      have hL12 : (L.length : Int) ≤ 12 := by omega
      clear hown2 hb2 hb2' hR hS hE hl2 hrd2 hL mo
      obtain ⟨G, hG⟩ : ∃ G, G = gk - 1 := ⟨_, rfl⟩
      have HG := Lib.hid hG
      have Hg := Lib.hid HF.out.2.1
      clear hG
      go_loopg [3, 4] 17 (fun g2 kv ov wx => wx = W2 ∧ ∃ (j : Nat) (op : Int), 17 ≤ j + g2 ∧ j ≤ 16 ∧ op = (j : Int) - 1 ∧ ov = .int .i64 op ∧ kv = .int .i64 ((opsP role (j - 2)).length : Nat))
      case atStart => exact ⟨rfl, 0, -1, by omega, by omega, by omega, rfl, rfl⟩
      case round =>
        obtain ⟨rfl, j, op, hj, hj16, hop, rfl, rfl⟩ := hrel
        have hR := H2.out.2.1 op j hop
        have hS := H2.out.2.2.1 op j hop
        have hol : -1 ≤ op := by omega
        have Hj := Lib.hid (And.intro hop (And.intro hj hj16))
        have hg2 : 0 < gk := by omega
        by_cases h15 : op < 15
        · clear hop hj hj16
          have ma := may_any role op wr
          have mr := rmay_any role op wr
          obtain ⟨b, hbv⟩ : ∃ b, mayP role op = b := ⟨_, rfl⟩
          rw [hbv] at ma mr hR hS
          clear hbv
          cases b with
          | false =>
            have e1 := hS rfl
            obtain ⟨n, hn⟩ : ∃ n, (opsP role (j - 2)).length = n := ⟨_, rfl⟩
            rw [hn] at e1 ⊢
            clear hR hS hn
            have HE := Lib.hid e1
            clear e1
            go_wp2_with (first
              | (refine ma.mono ?_; rintro e _ ⟨rfl, rfl⟩)
              | (refine mr.mono ?_; rintro e _ ⟨rfl, rfl⟩))
            go_roundg (gk - 1)
            case measure => omega
            case rel => exact ⟨rfl, j + 1, op + 1, by have := Hj.out; omega, by have := Hj.out; omega, by have := Hj.out; omega, rfl, by rw [HE.out]⟩
          | true =>
            obtain ⟨e1, e2, e3⟩ := hR rfl
            obtain ⟨n, hn⟩ : ∃ n, (opsP role (j - 2)).length = n := ⟨_, rfl⟩
            rw [hn] at e1 e2 e3 ⊢
            clear hR hS hn
            have HE := Lib.hid e3
            clear e3
            obtain ⟨b, off, rfl, _, hc⟩ := H2.out.2.2.2.2.2 (by rw [List.length_map]; omega)
            have hcj : wr.cell? ⟨b, off + n, none⟩ = some (.int .i64 op) := hc n (nI op) (by rw [List.getElem?_map, e2]; rfl)
            have hnl : (n : Int) < (L.length : Int) := by omega
            clear hc e1 e2
            go_wp2_with (first
              | (refine ma.mono ?_; rintro e _ ⟨rfl, rfl⟩)
              | (refine mr.mono ?_; rintro e _ ⟨rfl, rfl⟩))
            go_roundg (gk - 1)
            case measure => omega
            case rel => exact ⟨rfl, j + 1, op + 1, by have := Hj.out; omega, by have := Hj.out; omega, by have := Hj.out; omega, rfl, by rw [HE.out]; go_num⟩
        · obtain rfl : j = 16 := by omega
          have hEl := H2.out.2.2.2.1
          rw [show 16 - 2 = 14 from rfl, hEl]
          clear hop hj hj16 hR hS hEl
          go_wp2_with fail
          go_roundg G
          case measure => have := HG.out; have := Hg.out; omega
          case rel => exact ⟨k + 1, role + 1, by have := HG.out; have := Hg.out; omega, by have := HF.out.2.2; omega, by have := HF.out.2.2; omega, rfl, H2.out.1⟩
    · have HB := Lib.hid hb
      clear hb hr hk hk8
      have m1 := decide_any 4 1 1 2 wr
      rw [dec4] at m1
      go_wp2_with (first
        | (refine m1.mono ?_; rintro e W3 ⟨v3, rfl, hv3, hb3⟩; have hv3 : v3 = .nilIface := hv3; subst hv3)
        | (refine (ops_any 1 W3).mono ?_; rintro e W4 ⟨v4, rfl, hown4, hb4⟩; rw [ops1] at hown4; obtain ⟨A4, c4, rfl, hrd4⟩ := hown4.slice; have hn4 := below_new1 W4 (Obj.cells #[.int .i64 2, .int .i64 3, .int .i64 4, .int .i64 5] 3)))
      have hl1 : ISl (W4.alloc (Obj.cells #[.int .i64 2, .int .i64 3, .int .i64 4, .int .i64 5] 3)) (W4.alloc (Obj.cells #[.int .i64 2, .int .i64 3, .int .i64 4, .int .i64 5] 3)).heap.size (.slice A4 4 c4) [2, 3, 4, 5] := (ISl.of_own hown4).next hn4
      have hl2 : ISl (W4.alloc (Obj.cells #[.int .i64 2, .int .i64 3, .int .i64 4, .int .i64 5] 3)) (W4.alloc (Obj.cells #[.int .i64 2, .int .i64 3, .int .i64 4, .int .i64 5] 3)).heap.size (.slice (some ⟨W4.heap.size, 0, none⟩) 4 4) [2, 3, 4, 5] := lit_ints W4
      refine calls_at (fun W => ISl W W.heap.size (.slice A4 4 c4) [2, 3, 4, 5] ∧ ISl W W.heap.size (.slice (some ⟨W4.heap.size, 0, none⟩) 4 4) [2, 3, 4, 5] ∧ Below W4.heap.size W4 W) ⟨hl1, hl2, hn4⟩ ?_
      clear hl1 hl2 hn4
      rintro Wx ⟨hl1, hl2, hn4⟩
      refine (sameI_any _ _ [2, 3, 4, 5] [2, 3, 4, 5] Wx hl1 hl2).mono ?_
      rintro e W5 ⟨rfl, hb5⟩
      rw [decide_eq_true rfl]
      have hB := HB.out.trans ((hb3.trans ((hb4.trans ((hn4.trans (hb5.mono hn4.size)).mono hb4.size)).mono hb3.size)).mono HB.out.size)
      clear hl1 hl2 hn4 hb5 hb4 hb3 hown4 hrd4
      go_wp2_with (first
        | (refine (ops_any 9 W5).mono ?_; rintro e W6 ⟨v6, rfl, hown6, hb6⟩; rw [ops9] at hown6; obtain ⟨A6, c6, rfl, hrd6⟩ := hown6.slice; have hB6 := hB.trans (hb6.mono hB.size))
        | (refine (known13_any W6 (H0.out.1.below hB6) (H0.out.2.below hB6)).mono ?_; rintro e W7 ⟨rfl, hb7⟩))
      go_ret
      exact ⟨rfl, hB6.trans (hb7.mono hB6.size)⟩
end Go.Proofs.YtfggbfnnibpohaaDoor
