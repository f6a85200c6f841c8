/- Lists of law2's Asks that came in. No condition. -/
import Derived.Test.YteonmcconpfkjaaDoorFrame
import Derived.Test.YteonmcconpfkjaaDoorQ23
import Derived.Deep.Strs
namespace Go.Proofs.YteonmcconpfkjaaDoor
open Go Go.ChangeShapes Go.WideShapes Go.ChangeAt Go.RowKit
section
variable {H : Type} {enc : TypeId × Value → H} {w : World}
theorem weights_mem {P : Program} {e : TypeId} {d : DataW H} : ∀ {l : List (DataW H)}, (DataW.weightsAll P e l).all (· ≤ reachBytes) = true → d ∈ l → (d.weights P e).all (· ≤ reachBytes) = true
  | [], _, h => by cases h
  | x :: r, hw, h => by
    unfold DataW.weightsAll at hw
    rw [List.all_append, Bool.and_eq_true] at hw
    rcases List.mem_cons.1 h with rfl | h
    · exact hw.1
    · exact weights_mem hw.2 h
theorem addr_plus (b off j : Nat) : (⟨b, off, none⟩ : Addr).add j = ⟨b, off + j, none⟩ := by
  unfold Addr.add; split
  · rename_i e; subst e; rfl
  · rfl
theorem cellsA : Tryd.prog.cellsOf 136 = 4 := by kernel_rfl
theorem cellsI : Tryd.prog.cellsOf 3 = 1 := by kernel_rfl
theorem cellsU : Tryd.prog.cellsOf 41 = 1 := by kernel_rfl
theorem cellsSl : Tryd.prog.cellsOf 22 = 1 := by kernel_rfl
set_option maxRecDepth 100000 in
/-- a list of Asks that came in -/
theorem open_asks {A : Option Addr} {len cap : Nat} {d : DataW H} {p : List MemPlace} (h : DataW.Trod enc Tryd.prog w 0 (fun _ => true) true 134 (.slice A len cap) d p)
    (hw : (d.weights Tryd.prog 134).all (· ≤ reachBytes) = true) :
    ∃ l : List AskV, l.length = len ∧ l.length ≤ 9223372036854775807 ∧ AsksAt w A l := by
  obtain ⟨fuel, hf⟩ := h
  rcases Deep.open_slice Tryd.underlying134 hf with ⟨hcs, _⟩ | ⟨a, l, c, m, n, D, Pl, hcs, _, hl, hm, hmm, hx, hel⟩
  · simp [Value.cells] at hcs
    obtain ⟨rfl, rfl, rfl⟩ := hcs
    exact ⟨[], rfl, by decide, fun h => by simp at h⟩
  · simp [Value.cells] at hcs
    obtain ⟨rfl, rfl, rfl⟩ := hcs
    simp only [if_true] at hmm
    simp only [Prod.mk.injEq] at hx
    obtain ⟨rfl, _⟩ := hx
    unfold DataW.weights at hw
    rw [Tryd.underlying134] at hw
    simp only [List.all_cons, List.all_append, Bool.and_eq_true] at hw
    have hwe := hw.2.1
    have each : ∀ i, i < len → ∃ q : AskV, AskCells w (fun j => w.cell? (a.add (4 * i + j))) q := by
      intro i hi
      obtain ⟨cs', h1, h2⟩ := hel i (by rw [hmm]; omega)
      have hwi : ((D i).weights Tryd.prog 136).all (· ≤ reachBytes) = true := weights_mem hwe (List.mem_map.2 ⟨i, List.mem_range.2 hi, rfl⟩)
      rw [cellsA] at h1
      obtain ⟨_, hlen, hcell⟩ := World.cells?_some h1
      obtain ⟨xs, k, _, hxy, _, hxl, hfd⟩ := DataW.trod_struct Tryd.underlying136 h2
      have hadd : ∀ j, (a.add (i * 4)).add j = a.add (4 * i + j) := fun j => by rw [Deep.add_add, Nat.mul_comm]
      match xs, hxl, cs', hlen with
      | [y0, y1, y2, y3], _, [v0, v1, v2, v3], _ =>
        have g0 := hfd 0 _ rfl
        have g1 := hfd 1 _ rfl
        have g2 := hfd 2 _ rfl
        have g3 := hfd 3 _ rfl
        simp [cellsI, cellsU, cellsSl] at g0 g1 g2 g3
        obtain ⟨n0, e0, _, wf0⟩ := DataW.trod_int Tryd.underlying3 g0
        obtain ⟨n1, e1, _, wf1⟩ := DataW.trod_int Tryd.underlying41 g1
        obtain ⟨n2, e2, _, wf2⟩ := DataW.trod_int Tryd.underlying3 g2
        have e0 : v0 = .int .i64 n0 := by simpa using e0
        have e1 : v1 = .int .u64 n1 := by simpa using e1
        have e2 : v2 = .int .i64 n2 := by simpa using e2
        have c0 := hcell 0 (by decide)
        have c1 := hcell 1 (by decide)
        have c2 := hcell 2 (by decide)
        have c3 := hcell 3 (by decide)
        rw [hadd] at c0 c1 c2 c3
        have hw3 : (y3.1.weights Tryd.prog 22).all (· ≤ reachBytes) = true := by
          have hD : D i = .agg ([y0, y1, y2, y3].map (·.1)) := (Prod.mk.inj hxy).1
          rw [hD] at hwi
          unfold DataW.weights at hwi
          rw [Tryd.underlying136] at hwi
          exact (weights_at0 (weights_at0 (weights_at0 (weights_at0 hwi).2).2).2).1
        have hv3 : ∃ A3 l3 k3, v3 = .slice A3 l3 k3 := by
          rcases open_ints Tryd.underlying22 Tryd.underlying5 (by kernel_rfl) g3 with ⟨hc, _⟩ | ⟨x3, l3, k3, _, hc, _⟩
          · exact ⟨none, 0, 0, by simpa using hc⟩
          · exact ⟨some x3, l3, k3, by simpa using hc⟩
        obtain ⟨A3, l3, k3, rfl⟩ := hv3
        obtain ⟨bs, hbl, hb, hk3⟩ := open_bytes (w := w) (enc := enc) (A := A3) (len := l3) (cap := k3) (d := y3.1) (p := y3.2) ⟨k, by simpa [Value.cells] using g3⟩ hw3
        obtain ⟨u, hu⟩ := u64_of wf1
        refine ⟨⟨n0, u, n2, A3, k3, bs⟩, ?_, ?_, ?_, ?_, hb, ?_, bounds_i64 wf0, bounds_i64 wf2⟩
        · show w.cell? (a.add (4 * i + 0)) = _
          rw [c0, e0]; rfl
        · show w.cell? (a.add (4 * i + 1)) = _
          rw [c1, e1, hu]; rfl
        · show w.cell? (a.add (4 * i + 2)) = _
          rw [c2, e2]; rfl
        · show w.cell? (a.add (4 * i + 3)) = _
          rw [c3, hbl]; rfl
        · obtain ⟨_, _, e, h, _⟩ := hb
          injection e with _ _ e
          show bs.length ≤ 140737488351232
          omega
    obtain ⟨q, hq⟩ := Deep.choose_lt (α := AskV) each
    refine ⟨(List.range len).map q, by simp, by unfold maxLen at hm; simp; omega, fun hpos => ?_⟩
    have hlp : 0 < len := by simpa using hpos
    have h0 : w.cell? (a.add (4 * 0 + 0)) = _ := (hq 0 hlp).1
    have hx0 : a.add (4 * 0 + 0) = a := by simp [Addr.add]
    rw [hx0] at h0
    have hspot : a.spot = none := World.cell?_spot h0
    obtain ⟨b, off, spot⟩ := a
    simp only at hspot
    subst hspot
    refine ⟨b, off, rfl, block_lt_of_cell (a := ⟨b, off, none⟩) h0, fun i x hi => ?_⟩
    have hil : i < len := by have := (List.getElem?_eq_some_iff.1 hi).1; simpa using this
    rw [List.getElem?_map, List.getElem?_range hil] at hi
    injection hi with hi
    subst hi
    have := hq i hil
    refine AskCells.congr this fun j => ?_
    rw [addr_plus, Nat.add_assoc]
end
end Go.Proofs.YteonmcconpfkjaaDoor
