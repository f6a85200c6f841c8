/- The walk of PolicyAll. Conditions: the table of strconv; errors.errorType. -/
import Derived.Test.YtlmboaenmdcpbaaDoorQ9
import Derived.Test.YtlmboaenmdcpbaaDoorQ11
import Derived.Test.YtlmboaenmdcpbaaDoorQ10
namespace Go.Proofs.YtlmboaenmdcpbaaDoor
open Go Go.RowKit
theorem ops_any_mem (role op : Int) (h : 1 ≤ op ∧ op ≤ 12) : (opsP role 12).any (fun x => x == op) = mayP role op := by
  obtain ⟨h1, h2⟩ := h
  have hc : op = 1 ∨ op = 2 ∨ op = 3 ∨ op = 4 ∨ op = 5 ∨ op = 6 ∨ op = 7 ∨ op = 8 ∨ op = 9 ∨ op = 10 ∨ op = 11 ∨ op = 12 := by omega
  rw [Bool.eq_iff_iff, List.any_eq_true]
  constructor
  · rintro ⟨x, hx, he⟩
    rw [beq_iff_eq] at he
    subst he
    unfold opsP at hx
    exact (List.mem_filter.1 hx).2
  · intro hm
    refine ⟨op, ?_, by simp⟩
    unfold opsP
    refine List.mem_filter.2 ⟨List.mem_map.2 ⟨(op - 1).toNat, List.mem_range.2 (by omega), by omega⟩, hm⟩
theorem ops4_len : (opsP 4 12).length = 12 := by decide
theorem mayP_owner (op : Int) (h : 1 ≤ op ∧ op ≤ 12) : mayP 4 op = true := by
  obtain ⟨h1, h2⟩ := h
  unfold mayP leastP
  rw [decide_eq_true_iff]
  split
  · omega
  · split
    · omega
    · split
      · omega
      · split <;> omega
set_option maxRecDepth 100000 in
set_option maxHeartbeats 8000000 in
theorem policyAll_walk (w : World) (hg : Pz w ∧ Ety w) (op0 : Int) (ho : -9223372036854775808 ≤ op0 ∧ op0 ≤ 9223372036854775807) :
    Calls Tryd.prog 7 #[.int .i64 op0] w fun e w' => e = .returned (.bool true) ∧ Below w.heap.size w w' := by
  have mw := within_any op0 0 11 w (by omega) (by omega) (by omega) ho.1 ho.2
  have hwb := withinI_bounds op0 0 11 (by omega)
  obtain ⟨r, hre⟩ : ∃ r, withinI op0 0 11 = r := ⟨_, rfl⟩
  rw [hre] at mw hwb
  clear hre ho
  have hop : 1 ≤ 1 + r ∧ 1 + r ≤ 12 := by omega
  have m1 := may_any 4 (1 + r) w
  rw [mayP_owner (1 + r) hop] at m1
  have m2 := ops_any 4 w
  have H0 := Lib.hid (And.intro hg hop)
  clear hg
  go_enter Tryd.func7, Tryd.ntmps7
  go_wp2_with (first
    | (refine mw.mono ?_; rintro e _ ⟨rfl, rfl⟩)
    | (refine m1.mono ?_; rintro e _ ⟨rfl, rfl⟩)
    | (refine m2.mono ?_; rintro e W1 ⟨v1, rfl, hown1, hb1⟩; obtain ⟨A1, c1, rfl, hrd1⟩ := hown1.slice; rw [ops4_len]))
  have H1 := Lib.hid hb1
  clear hown1 hrd1 hb1 mw m1 m2
  go_loopg [3, 4] 5 (fun gk nv rv wr => ∃ (k : Nat) (m : Nat), 5 ≤ k + gk ∧ k ≤ 4 ∧ m ≤ k ∧ (k = 4 → 0 < m) ∧ rv = .int .i64 ((k : Int) + 1) ∧ nv = .int .i64 (m : Int) ∧ Below w.heap.size w wr)
  case atStart => exact ⟨0, 0, by omega, by omega, by omega, by omega, rfl, rfl, H1.out⟩
  case round =>
    obtain ⟨k, m, hk, hk4, hm, hm4, rfl, rfl, hb⟩ := hrel
    by_cases h4 : k < 4
    · have mo := ops_any ((k : Int) + 1) wr
      have HF := Lib.hid (And.intro hb (And.intro hk hm4))
      clear hb hk hm4
      have hle : decide ((k : Int) + 1 ≤ 4) = true := decide_eq_true (by omega)
      go_wp2_with (first
        | (refine mo.mono ?_; rintro e W2 ⟨v2, rfl, hown2, hb2⟩; obtain ⟨A2, c2, rfl, hrd2⟩ := hown2.slice; have hl2 := opsP_len ((k : Int) + 1) 12))
      have hmem := ops_any_mem ((k : Int) + 1) (1 + r) hop
      have hlen : (opsP ((k : Int) + 1) 12).length ≤ 12 := hl2
      obtain ⟨L, hL⟩ : ∃ L, opsP ((k : Int) + 1) 12 = L := ⟨_, rfl⟩
      rw [hL] at hmem hlen hrd2 ⊢
      clear hown2 hl2 hL mo
      have H2 := Lib.hid (And.intro hb2 (And.intro hmem hlen))
      clear hb2 hmem hlen
      obtain ⟨G, hG⟩ : ∃ G, G = gk - 1 := ⟨_, rfl⟩
      have HG := Lib.hid (And.intro hG HF.out.2.1)
      clear hG
      go_loopg [5, 26] 13 (fun g2 bv jv wx => wx = W2 ∧ ∃ j : Nat, 13 ≤ j + g2 ∧ j ≤ L.length ∧ jv = .int .i64 (j : Int) ∧ bv = .bool ((L.take j).any (fun x => x == 1 + r)))
      case atStart => exact ⟨rfl, 0, by omega, by omega, rfl, rfl⟩
      case round =>
        obtain ⟨rfl, j, hj, hjl, rfl, rfl⟩ := hrel
        by_cases hlt : j < L.length
        · obtain ⟨b, off, rfl, _, hc⟩ := hrd2 (by rw [List.length_map]; omega)
          have hj12 : j ≤ 12 := by have := H2.out.2.2; omega
          have hcj : wr.cell? ⟨b, off + j, none⟩ = some (.int .i64 L[j]) := hc j (nI L[j]) (by rw [List.getElem?_map, List.getElem?_eq_getElem hlt]; rfl)
          have hdl : decide ((j : Int) < (L.length : Int)) = true := decide_eq_true (by omega)
          have hsucc : (L.take (j + 1)).any (fun x => x == 1 + r) = ((L.take j).any (fun x => x == 1 + r) || (L[j] == 1 + r)) := by
            rw [List.take_succ_eq_append_getElem hlt, List.any_append]
            simp
          have HR := Lib.hid (show (wr = wr ∧ ∃ j' : Nat, 13 ≤ j' + (gk - 1) ∧ j' ≤ L.length ∧ Value.int .i64 ((j : Int) + 1) = .int .i64 (j' : Int) ∧ Value.bool ((L.take j).any (fun x => x == 1 + r) || (L[j] == 1 + r)) = .bool ((L.take j').any (fun x => x == 1 + r))) from
            ⟨rfl, j + 1, by omega, by omega, by congr 1, by rw [hsucc]⟩)
          have hg2 : 0 < gk := by have := H2.out.2.2; omega
          clear hsucc
          obtain ⟨x, hx⟩ : ∃ x, L[j] = x := ⟨_, rfl⟩
          rw [hx] at HR hcj
          clear hx hc
          obtain ⟨y, hy⟩ : ∃ y, (L.take j).any (fun x => x == 1 + r) = y := ⟨_, rfl⟩
          rw [hy] at HR ⊢
          cases y with
          | true =>
            go_wp2_with fail
            go_roundg (gk - 1)
            case measure => omega
            case rel => exact ⟨rfl, HR.out.2⟩
          | false =>
            go_wp2_with fail
            go_roundg (gk - 1)
            case measure => omega
            case rel => exact ⟨rfl, HR.out.2⟩
        · obtain rfl : j = L.length := by omega
          have hdl : decide ((L.length : Int) < (L.length : Int)) = false := decide_eq_false (by omega)
          obtain ⟨z, hz⟩ : ∃ z, mayP ((k : Int) + 1) (1 + r) = z := ⟨_, rfl⟩
          have hz3 : k = 3 → z = true := fun e => by subst e; rw [← hz]; exact mayP_owner (1 + r) hop
          have ma := may_any ((k : Int) + 1) (1 + r) wr
          rw [hz] at ma
          rw [List.take_length, H2.out.2.1, hz]
          clear hz
          have hB := HF.out.1.trans (H2.out.1.mono HF.out.1.size)
          cases z with
          | true =>
            go_wp2_with (first
              | (refine ma.mono ?_; rintro e _ ⟨rfl, rfl⟩))
            go_roundg G
            case measure => have := HG.out; omega
            case rel => exact ⟨k + 1, m + 1, by have := HG.out; omega, by omega, by omega, by omega, by congr 1, by congr 1, hB⟩
          | false =>
            go_wp2_with (first
              | (refine ma.mono ?_; rintro e _ ⟨rfl, rfl⟩))
            go_roundg G
            case measure => have := HG.out; omega
            case rel =>
              have hk3 : k ≠ 3 := fun e => by have := hz3 e; simp at this
              exact ⟨k + 1, m, by have := HG.out; omega, by omega, by omega, by omega, by congr 1, rfl, hB⟩
    · obtain rfl : k = 4 := by omega
      have hm0 : decide ((m : Int) > 0) = true := decide_eq_true (by have := hm4 rfl; omega)
      have hk := known13_any wr (H0.out.1.1.below hb) (H0.out.1.2.below hb)
      have HB := Lib.hid hb
      clear hb
      go_wp2_with (first
        | (refine hk.mono ?_; rintro e W9 ⟨rfl, hb9⟩))
      go_ret
      exact ⟨rfl, HB.out.trans (hb9.mono HB.out.size)⟩
end Go.Proofs.YtlmboaenmdcpbaaDoor
