/- Lists of law11's Asks that came in. No condition. -/
import Derived.Test.YtfggbfnnibpohaaDoorFrameK
import Derived.Test.YtfggbfnnibpohaaDoorR19
import Derived.OpenShut
import Derived.Deep.Slices
namespace Go.Proofs.YtfggbfnnibpohaaDoor
open Go Go.ChangeShapes Go.WideShapes Go.ChangeAt Go.RowKit
section
variable {H : Type} {enc : TypeId × Value → H} {w : World}
theorem addr_plusK (b off j : Nat) : (⟨b, off, none⟩ : Addr).add j = ⟨b, off + j, none⟩ := by
  unfold Addr.add; split
  · rename_i e; subst e; rfl
  · rfl
theorem cellsAK : Tryd.prog.cellsOf 39 = 40 := by kernel_rfl
theorem cellsIK : Tryd.prog.cellsOf 3 = 1 := by kernel_rfl
theorem cellsWK : Tryd.prog.cellsOf 32 = 1 := by kernel_rfl
theorem cellsHK : Tryd.prog.cellsOf 37 = 36 := by kernel_rfl
theorem cellsQK : Tryd.prog.cellsOf 33 = 1 := by kernel_rfl
theorem cellsDK : Tryd.prog.cellsOf 35 = 32 := by kernel_rfl
theorem cellsBK : Tryd.prog.cellsOf 5 = 1 := by kernel_rfl
theorem ints_ofK {P : Program} {base : Nat} {fuel : Nat} {held : Bool} {spare : Nat → Bool} {e : TypeId} (he : P.underlying e = some (.int .u8)) (hc : P.cellsOf e = 1) {cs : List Value} (n : Nat) (hl : cs.length = n)
    (h : ∀ i, i < n → ∃ x, DataW.trod enc P w base spare held fuel e ((cs.drop (i * P.cellsOf e)).take (P.cellsOf e)) = some x) (hn : n = 32) : ∃ d : List UInt8, d.length = 32 ∧ cs = (dat d).toList := by
  subst hn
  rw [hc] at h
  have hcell : ∀ i, i < 32 → ∃ b : UInt8, cs[i]? = some (v8 b) := by
    intro i hi
    obtain ⟨x, hx⟩ := h i hi
    obtain ⟨m, h1, _, h3⟩ := DataW.trod_int he hx
    obtain ⟨u, rfl⟩ := u8_of h3
    refine ⟨u, ?_⟩
    rw [Nat.mul_one] at h1
    have := congrArg (fun l => l[0]?) h1
    simp only [List.getElem?_take, List.getElem?_drop] at this
    simpa [v8] using this
  refine ⟨(List.range 32).map fun i => match cs[i]? with | some (Value.int _ m) => UInt8.ofNat m.toNat | _ => 0, by simp, ?_⟩
  apply List.ext_getElem?
  intro i
  by_cases hi : i < 32
  · obtain ⟨b, hb⟩ := hcell i hi
    rw [hb]
    unfold dat
    rw [Array.getElem?_toList, arr_at _ _ _ hi, List.getD_eq_getElem?_getD, List.getElem?_map, List.getElem?_range hi]
    simp only [Option.map_some, Option.getD_some, hb, v8]
    congr 2
    unfold n8
    rw [Int.toNat_natCast, UInt8.ofNat_toNat]
  · rw [List.getElem?_eq_none (by omega), List.getElem?_eq_none (by rw [Array.length_toList, dat_size]; omega)]
theorem one_at {cs : List Value} {v : Value} (j : Nat) (h : (cs.drop j).take 1 = [v]) : cs[j]? = some v := by
  have := congrArg (fun l => l[0]?) h
  simpa using this
set_option maxHeartbeats 1000000 in
set_option maxRecDepth 100000 in
/-- a head, read in the middle of a row -/
theorem head_of_trod {k : Nat} {cs : List Value} {y : DataW H × List MemPlace} (h : DataW.trod enc Tryd.prog w 0 (fun _ => true) true k 37 cs = some y) : ∃ hd : HeadL, cs = (headC hd).toList ∧ hd.ok := by
  obtain ⟨xs, k1, _, _, hl, hxl, hf⟩ := DataW.trod_struct Tryd.underlying37 h
  rw [cellsHK] at hl
  have g0 := hf 0 _ rfl
  have g1 := hf 1 _ rfl
  have g2 := hf 2 _ rfl
  have g3 := hf 3 _ rfl
  have g4 := hf 4 _ rfl
  match xs, hxl with
  | [y0, y1, y2, y3, y4], _ =>
    simp [cellsIK, cellsQK, cellsDK] at g0 g1 g2 g3 g4
    obtain ⟨n0, e0, _, wf0⟩ := DataW.trod_int Tryd.underlying3 g0
    obtain ⟨n1, e1, _, wf1⟩ := DataW.trod_int Tryd.underlying3 g1
    obtain ⟨n2, e2, _, wf2⟩ := DataW.trod_int Tryd.underlying33 g2
    obtain ⟨n3, e3, _, wf3⟩ := DataW.trod_int Tryd.underlying33 g3
    obtain ⟨xs4, k4, _, _, hl4, hxl4, hf4⟩ := DataW.trod_array Tryd.underlying35 g4
    rw [cellsDK] at hl4
    obtain ⟨d, hd, e4⟩ := ints_ofK (enc := enc) (w := w) Tryd.underlying5 cellsBK 32 hl4 (fun i hi => by
      rw [hf4 i hi]
      exact ⟨xs4[i]'(by omega), List.getElem?_eq_getElem (by omega)⟩) rfl
    obtain ⟨u2, rfl⟩ := u64_of wf2
    obtain ⟨u3, rfl⟩ := u64_of wf3
    have c0 : cs[0]? = some (.int .i64 n0) := one_at 0 (by simpa using e0)
    have c1 : cs[1]? = some (.int .i64 n1) := one_at 1 (by simpa using e1)
    have c2 : cs[2]? = some (.int .u64 (n64 u2)) := one_at 2 (by simpa using e2)
    have c3 : cs[3]? = some (.int .u64 (n64 u3)) := one_at 3 (by simpa using e3)
    refine ⟨⟨n0, n1, u2, u3, d⟩, ?_, ⟨hd, bounds_i64 wf0, bounds_i64 wf1⟩⟩
    have hdr : cs.drop 4 = (dat d).toList := by
      rw [← e4, List.take_of_length_le (by rw [List.length_drop, hl]; decide)]
    have hcase : ∀ i : Nat, i = 0 ∨ i = 1 ∨ i = 2 ∨ i = 3 ∨ ∃ j, i = 4 + j := fun i => by
      rcases Nat.lt_or_ge i 4 with h | h
      · omega
      · exact .inr (.inr (.inr (.inr ⟨i - 4, by omega⟩)))
    apply List.ext_getElem?
    intro i
    rw [Array.getElem?_toList (xs := headC ⟨n0, n1, u2, u3, d⟩)]
    rcases hcase i with rfl | rfl | rfl | rfl | ⟨j, rfl⟩
    · rw [c0, headC_0]
    · rw [c1, headC_1]
    · rw [c2, headC_2]
    · rw [c3, headC_3]
    · rw [headC_root]
      have := congrArg (fun l => l[j]?) hdr
      simp only [List.getElem?_drop, Array.getElem?_toList] at this
      exact this
set_option maxHeartbeats 1000000 in
set_option maxRecDepth 100000 in
/-- a list of Asks that came in -/
theorem open_asksK {A : Option Addr} {len cap : Nat} {d : DataW H} {p : List MemPlace} (h : DataW.Trod enc Tryd.prog w 0 (fun _ => true) true 23 (.slice A len cap) d p) :
    ∃ l : List AskK, l.length = len ∧ l.length ≤ 9223372036854775807 ∧ AsksK w A l := by
  obtain ⟨fuel, hf⟩ := h
  rcases Deep.open_slice Tryd.underlying23 hf with ⟨hcs, _⟩ | ⟨a, l, c, m, n, D, Pl, hcs, _, hl, hm, hmm, hx, hel⟩
  · simp [Value.cells] at hcs
    obtain ⟨rfl, rfl, rfl⟩ := hcs
    exact ⟨[], rfl, by decide, fun h => by simp at h⟩
  · simp [Value.cells] at hcs
    obtain ⟨rfl, rfl, rfl⟩ := hcs
    simp only [if_true] at hmm
    have each : ∀ i, i < len → ∃ q : AskK, (∀ j v, (askC q).toList[j]? = some v → w.cell? (a.add (i * 40 + j)) = some v) ∧ q.ok := by
      intro i hi
      obtain ⟨cs', h1, h2⟩ := hel i (by rw [hmm]; omega)
      rw [cellsAK] at h1
      obtain ⟨_, hlen, hcell⟩ := World.cells?_some h1
      obtain ⟨xs, k, _, hxy, _, hxl, hfd⟩ := DataW.trod_struct Tryd.underlying39 h2
      have g0 := hfd 0 _ rfl
      have g1 := hfd 1 _ rfl
      have g2 := hfd 2 _ rfl
      have g3 := hfd 3 _ rfl
      have g4 := hfd 4 _ rfl
      match xs, hxl with
      | [y0, y1, y2, y3, y4], _ =>
        simp [cellsIK, cellsWK, cellsHK] at g0 g1 g2 g3 g4
        obtain ⟨n0, e0, _, wf0⟩ := DataW.trod_int Tryd.underlying3 g0
        obtain ⟨n1, e1, _, wf1⟩ := DataW.trod_int Tryd.underlying3 g1
        obtain ⟨n2, e2, _, wf2⟩ := DataW.trod_int Tryd.underlying3 g2
        obtain ⟨n3, e3, _, wf3⟩ := DataW.trod_int Tryd.underlying32 g3
        obtain ⟨hd, e4, hok⟩ := head_of_trod g4
        obtain ⟨u3, rfl⟩ := u32_of wf3
        have c0 : cs'[0]? = some (.int .i64 n0) := one_at 0 (by simpa using e0)
        have c1 : cs'[1]? = some (.int .i64 n1) := one_at 1 (by simpa using e1)
        have c2 : cs'[2]? = some (.int .i64 n2) := one_at 2 (by simpa using e2)
        have c3 : cs'[3]? = some (.int .u32 (n32 u3)) := one_at 3 (by simpa using e3)
        have hdr : cs'.drop 4 = (headC hd).toList := by
          rw [← e4, List.take_of_length_le (by rw [List.length_drop, hlen]; decide)]
        refine ⟨⟨n0, n1, n2, u3, hd⟩, fun j v hj => ?_, ⟨bounds_i64 wf0, bounds_i64 wf1, bounds_i64 wf2, hok⟩⟩
        have hj40 : j < 40 := by
          have := (List.getElem?_eq_some_iff.1 hj).1
          rw [Array.length_toList, askC_size] at this; exact this
        have hcj := hcell j hj40
        rw [Deep.add_add] at hcj
        rw [hcj, ← hj]
        have hcase : j = 0 ∨ j = 1 ∨ j = 2 ∨ j = 3 ∨ ∃ i, j = 4 + i := by
          rcases Nat.lt_or_ge j 4 with h | h
          · omega
          · exact .inr (.inr (.inr (.inr ⟨j - 4, by omega⟩)))
        rw [Array.getElem?_toList (xs := askC ⟨n0, n1, n2, u3, hd⟩)]
        rcases hcase with rfl | rfl | rfl | rfl | ⟨i2, rfl⟩
        · rw [c0, askC_0]
        · rw [c1, askC_1]
        · rw [c2, askC_2]
        · rw [c3, askC_3]
        · rw [askC_head]
          have := congrArg (fun l => l[i2]?) hdr
          simp only [List.getElem?_drop, Array.getElem?_toList] at this
          exact this
    obtain ⟨q, hq⟩ := Deep.choose_lt (α := AskK) each
    refine ⟨(List.range len).map q, by simp, by unfold maxLen at hm; simp; omega, fun hpos => ?_⟩
    have hlp : 0 < len := by simpa using hpos
    have h0 : w.cell? (a.add (0 * 40 + 0)) = _ := (hq 0 hlp).1 0 _ (by rw [Array.getElem?_toList, askC_0])
    have hx0 : a.add (0 * 40 + 0) = a := by simp [Addr.add]
    rw [hx0] at h0
    have hspot : a.spot = none := World.cell?_spot h0
    obtain ⟨b, off, spot⟩ := a
    simp only at hspot
    subst hspot
    refine ⟨b, off, rfl, block_lt_of_cell (a := ⟨b, off, none⟩) h0, fun i x hi => ?_⟩
    have hil : i < len := by have := (List.getElem?_eq_some_iff.1 hi).1; simpa using this
    rw [List.getElem?_map, List.getElem?_range hil] at hi
    injection hi with hi
    subst hi
    refine ⟨fun j v hj => ?_, (hq i hil).2⟩
    have := (hq i hil).1 j v hj
    rw [addr_plusK, ← Nat.add_assoc] at this
    exact this
end
end Go.Proofs.YtfggbfnnibpohaaDoor
