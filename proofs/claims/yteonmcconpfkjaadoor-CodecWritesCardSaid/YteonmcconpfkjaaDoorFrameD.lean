/- Digests and lists of digests that came in. No condition. -/
import Derived.Test.YteonmcconpfkjaaDoorFrameR
import Derived.Test.YteonmcconpfkjaaDoorQ22
import Derived.OpenShut
import Derived.Deep.Slices
namespace Go.Proofs.YteonmcconpfkjaaDoor
open Go Go.ChangeShapes Go.WideShapes Go.ChangeAt Go.RowKit
section
variable {w : World} {base : Nat}
def digTs : List TypeId := List.replicate 32 5
theorem digTs_eq : Tryd.prog.cellTypes Tryd.prog.depth 43 = some digTs := by kernel_rfl
theorem cells32 : Tryd.prog.cellsOf 43 = 32 := by kernel_rfl
theorem ok_array {P : Program} {t e : TypeId} {v : Value} {n m : Nat} (ht : P.underlying t = some (.array m e)) (hn : P.cellsOf t = n) (h : Value.okWide P w .any base t v) : ∃ cs, v = .agg cs ∧ cs.size = n ∧ Row.okWide P w .any base t cs := by
  simp only [Value.okWide, ht] at h
  rw [hn] at h
  exact h
theorem open_dig {P : Program} {e : TypeId} {v : Value} (hu : P.underlying 43 = some (.array 32 e)) (hn : P.cellsOf 43 = 32) (hts : P.cellTypes P.depth 43 = some digTs) (ub : P.underlying 5 = some (.int .u8))
    (hval : Value.okWide P w .any base 43 v) : ∃ d : List UInt8, v = .agg (dat d) ∧ d.length = 32 := by
  obtain ⟨cs, rfl, hs, hr⟩ := ok_array hu hn hval
  have hl : cs.size = digTs.length := by rw [hs]; unfold digTs; simp
  have cb := fun j (hj : j < 32) => row_int hts hl hr (0 + j) (by unfold digTs; rw [List.getElem?_replicate, if_pos (by omega)]) ub
  refine ⟨bytesAt cs 0, ?_, bytesAt_length _ _⟩
  refine congrArg Value.agg ?_
  apply Array.ext_getElem?
  intro i
  clear hl
  by_cases hi : i < 32
  · have h2 := dat_bytesAt hi (cb i hi)
    rw [Nat.zero_add] at h2
    exact h2.symm
  · rw [Array.getElem?_eq_none (by omega), Array.getElem?_eq_none (by rw [dat_size]; omega)]
variable {H : Type} {enc : TypeId × Value → H}
theorem ints_of {P : Program} {fuel : Nat} {held : Bool} {spare : Nat → Bool} {e : TypeId} (he : P.underlying e = some (.int .u8)) (hc : P.cellsOf e = 1) {cs : List Value} (n : Nat) (hl : cs.length = n)
    (h : ∀ i, i < n → ∃ x, DataW.trod enc P w base spare held fuel e ((cs.drop (i * P.cellsOf e)).take (P.cellsOf e)) = some x) (hn : n = 32) : ∃ d : List UInt8, d.length = 32 ∧ cs = (dat d).toList := by
  subst hn
  rw [hc] at h
  have hcell : ∀ i, i < 32 → ∃ b : UInt8, cs[i]? = some (v8 b) := by
    intro i hi
    obtain ⟨x, hx⟩ := h i hi
    obtain ⟨m, h1, _, h3⟩ := DataW.trod_int he hx
    obtain ⟨u, rfl⟩ := u8_of h3
    refine ⟨u, ?_⟩
    rw [Nat.mul_one] at h1
    have := congrArg (fun l => l[0]?) h1
    simp only [List.getElem?_take, List.getElem?_drop] at this
    simpa [v8] using this
  refine ⟨(List.range 32).map fun i => match cs[i]? with | some (Value.int _ m) => UInt8.ofNat m.toNat | _ => 0, by simp, ?_⟩
  apply List.ext_getElem?
  intro i
  by_cases hi : i < 32
  · obtain ⟨b, hb⟩ := hcell i hi
    rw [hb]
    unfold dat
    rw [Array.getElem?_toList, arr_at _ _ _ hi, List.getD_eq_getElem?_getD, List.getElem?_map, List.getElem?_range hi]
    simp only [Option.map_some, Option.getD_some, hb, v8]
    congr 2
    unfold n8
    rw [Int.toNat_natCast, UInt8.ofNat_toNat]
  · rw [List.getElem?_eq_none (by omega), List.getElem?_eq_none (by rw [Array.length_toList, dat_size]; omega)]
set_option maxRecDepth 100000 in
/-- a slice of digests that came in -/
theorem open_digs {A : Option Addr} {len cap : Nat} {d : DataW H} {p : List MemPlace} (h : DataW.Trod enc Tryd.prog w 0 (fun _ => true) true 69 (.slice A len cap) d p)
    (hw : (d.weights Tryd.prog 69).all (· ≤ reachBytes) = true) :
    ∃ ds : List (List UInt8), ds.length = len ∧ (∀ d ∈ ds, d.length = 32) ∧ DX w (.slice A len cap) ds ∧ cap * 32 ≤ 140737488351232 := by
  obtain ⟨fuel, hf⟩ := h
  rcases Deep.open_slice Tryd.underlying69 hf with ⟨hcs, _⟩ | ⟨a, l, c, m, n, D, Pl, hcs, _, hl, hm, hmm, hd, hx⟩
  · simp [Value.cells] at hcs
    obtain ⟨rfl, rfl, rfl⟩ := hcs
    exact ⟨[], rfl, (fun d hd => by cases hd), DX.nil_ w, by decide⟩
  · simp [Value.cells] at hcs
    obtain ⟨rfl, rfl, rfl⟩ := hcs
    simp only [if_true] at hmm
    subst hmm
    have hcap : m * 32 ≤ 140737488351232 := by
      unfold DataW.weights at hw
      rw [Tryd.underlying69] at hw
      simp only [Prod.mk.injEq] at hd
      rw [hd.1] at hw
      simp only [List.all_cons, Bool.and_eq_true] at hw
      have h1 := of_decide_eq_true hw.1
      rw [show Tryd.prog.bytesOf 43 = 32 by kernel_rfl] at h1
      simp only [List.length_map, List.length_range, reachBytes] at h1
      omega
    have each : ∀ i, i < m → ∃ d : List UInt8, d.length = 32 ∧ ∀ j, j < 32 → w.cell? (a.add (i * 32 + j)) = (dat d).toList[j]? := by
      intro i hi
      obtain ⟨cs', h1, h2⟩ := hx i hi
      rw [cells32] at h1
      obtain ⟨_, hlen, hcell⟩ := World.cells?_some h1
      obtain ⟨xs, k, _, _, _, hxl, hxi⟩ := DataW.trod_array Tryd.underlying43 h2
      obtain ⟨d, hd1, hd2⟩ := ints_of Tryd.underlying5 (by kernel_rfl) 32 hlen (fun i hi => ⟨_, (hxi i hi).trans (List.getElem?_eq_getElem (by omega))⟩) rfl
      refine ⟨d, hd1, fun j hj => ?_⟩
      rw [← hd2, ← hcell j hj, Deep.add_add]
    obtain ⟨f, hF⟩ := Deep.choose_lt each
    have hlen : ((List.range len).map f).length = len := by simp
    refine ⟨(List.range len).map f, hlen, fun d hd => ?_, ⟨some a, m, by rw [hlen], by rw [hlen]; exact hl, by unfold maxLen at hm; omega, fun k hk => ?_⟩, hcap⟩
    · obtain ⟨i, hi, rfl⟩ := List.mem_map.1 hd
      have := List.mem_range.1 hi
      exact (hF i (by omega)).1
    · rw [hlen] at hk
      have h0 := (hF k (by omega)).2 0 (by decide)
      rw [Array.getElem?_toList, Array.getElem?_eq_getElem (by rw [dat_size]; decide)] at h0
      have h00 := (hF 0 (by omega)).2 0 (by decide)
      rw [Array.getElem?_toList, Array.getElem?_eq_getElem (by rw [dat_size]; decide)] at h00
      have hs2 : a.spot = none := by
        have hspot : (a.add (0 * 32 + 0)).spot = none := World.cell?_spot h00
        simpa [Addr.add] using hspot
      have hadd : ∀ j, a.add j = ⟨a.block, a.off + j, none⟩ := by
        intro j
        obtain ⟨b, off, spot⟩ := a
        simp only at hs2
        subst hs2
        unfold Addr.add; split
        · rename_i e; subst e; rfl
        · rfl
      refine ⟨a.block, a.off, ?_, ?_, fun j v hj => ?_⟩
      · obtain ⟨b, off, spot⟩ := a
        simp only at hs2
        subst hs2; rfl
      · rw [hadd] at h0; exact block_lt_of_cell (a := ⟨a.block, _, none⟩) h0
      · have hj32 : j < 32 := by
          have := (List.getElem?_eq_some_iff.1 hj).1
          rw [Array.length_toList, dat_size] at this; exact this
        have h1 := (hF k (by omega)).2 j hj32
        rw [hadd] at h1
        rw [Nat.add_assoc, h1, ← hj, List.getD_eq_getElem?_getD, List.getElem?_map, List.getElem?_range hk]; rfl
end
end Go.Proofs.YteonmcconpfkjaaDoor
