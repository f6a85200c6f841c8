/- The walk of AuditJoins. Conditions: the words of SHA-256; the table of strconv. -/
import Derived.Test.YtfggbfnnibpohaaDoorU20
import Derived.Test.YtfggbfnnibpohaaDoorU21
import Derived.Test.YtfggbfnnibpohaaDoorU9
namespace Go.Proofs.YtfggbfnnibpohaaDoor
open Go Go.RowKit
attribute [local irreducible] mixW
/-- thirty marks -/
def arrB (f : Nat → Bool) : Array Value := ((List.range 30).map fun k => Value.bool (f k)).toArray
theorem arrB_size (f : Nat → Bool) : (arrB f).size = 30 := by simp [arrB]
theorem arrB_at (f : Nat → Bool) (k : Nat) (hk : k < 30) : (arrB f)[k]? = some (.bool (f k)) := by simp [arrB, hk]
theorem arrB_set (f : Nat → Bool) (k : Nat) : (arrB f).setIfInBounds k (.bool true) = arrB (fun j => f j || k == j) := by
  apply Array.ext
  · simp [arrB]
  · intro i h1 h2
    have h3 : i < 30 := by simpa [arrB] using h2
    rw [Array.getElem_setIfInBounds (by simpa [arrB] using h3)]
    by_cases e : k = i
    · subst e; simp [arrB]
    · rw [if_neg e]; simp [arrB, e]
theorem arrB_new : (List.replicate 30 (Value.bool false)).toArray = arrB (fun _ => false) := by kernel_rfl
theorem some24_none (xs : List (Option Nat)) : some24 (xs ++ [none]) = some24 xs := by simp [some24, List.filterMap_append]
theorem some24_some (xs : List (Option Nat)) (k : Nat) : some24 (xs ++ [some k]) = some24 xs ++ [k] := by simp [some24, List.filterMap_append]
theorem some24_len (xs : List (Option Nat)) : (some24 xs).length ≤ xs.length := List.length_filterMap_le _ _
set_option maxRecDepth 100000 in
theorem audJoin_any (A : Option Addr) (c : Nat) (xs : List (Option Nat)) (hx : xs.length ≤ 1000) (w : World) (hr : Reads w w.heap.size A (xs.map optV)) :
    Calls Tryd.prog 58 #[.slice A xs.length c] w fun e w' => ((some24 xs = [] ∧ e = .returned .nilIface) ∨ ∃ j A' c', 0 < (some24 xs).length ∧ e = .returned (.iface 226 (.pointer (some ⟨j, 0, none⟩))) ∧ Blk w' j 228 #[.slice A' (some24 xs).length c'] ∧ Reads w' w'.heap.size A' ((some24 xs).map errV)) ∧ Below w.heap.size w w' := by
  have hm := errJoin_any A c xs hx w hr
  clear hr
  go_enter Tryd.func58, Tryd.ntmps58
  go_wp2_with fail
  refine hm.mono ?_
  rintro e w' ⟨h | ⟨j, A', c', h1, rfl, h3, h4⟩, hb⟩
  · obtain ⟨h1, rfl⟩ := h
    have H := Lib.hid h1
    clear h1
    go_wp2_with fail
    go_ret
    exact ⟨.inl ⟨H.out, rfl⟩, hb⟩
  · have H := Lib.hid (And.intro h1 (And.intro h3 h4))
    clear h1 h3 h4
    go_wp2_with fail
    go_ret
    exact ⟨.inr ⟨j, A', c', H.out.1, rfl, H.out.2.1, H.out.2.2⟩, hb⟩
set_option maxHeartbeats 4000000 in
set_option maxRecDepth 100000 in
theorem auditJoins_walk (w : World) (hg : Glob w ∧ Pz w) (A0 : Option Addr) (cap : Nat) (zs : List Int) (hl : zs.length ≤ 9223372036854775807) (hr : Reads w w.heap.size A0 (zs.map (Value.int .i64))) (hbd : ∀ z ∈ zs, -9223372036854775808 ≤ z ∧ z ≤ 9223372036854775807) :
    Calls Tryd.prog 9 #[.slice A0 zs.length cap] w fun e w' => e = .returned (.bool true) ∧ Below w.heap.size w w' := by
  obtain ⟨i0, hi0, hz0, hz1, hz2⟩ := info_parts (by kernel_rfl : (Tryd.prog.info? 93).map (fun i => (i.zero, i.size, i.bytes)) = some (some .nilIface, 1, 16))
  obtain ⟨i2, hi2, hy0, hy1, hy2⟩ := info_parts (by kernel_rfl : (Tryd.prog.info? 4).map (fun i => (i.zero, i.size, i.bytes)) = some (some (.bool false), 1, 1))
  have HR := Lib.hid (And.intro hr (And.intro hbd hg))
  clear hr hbd hg
  go_enter Tryd.func9, Tryd.ntmps9
  go_wp2_with (first
    | (refine wpList_makeB rfl _ _ _ rfl 4 i2 _ Tryd.underlying120 hi2 hy0 hy1 rfl _ _ 30 rfl rfl (by rw [hy2]; decide) (by decide) ?_; rw [arrB_new]))
  have hM := Blk.new w 4 (arrB (fun _ => false))
  have hb1 := below_new1 w (Obj.cells (arrB (fun _ => false)) 4)
  have H1 := Lib.hid (And.intro hM hb1)
  clear hM hb1
  go_loopg [3, 5, 6] 13 (fun gk ev sv iv wr => ∃ (i : Nat) (xs : List (Option Nat)), 13 ≤ i + gk ∧ i ≤ 12 ∧ i ≤ zs.length ∧ iv = .int .i64 (i : Int) ∧ xs.length = i ∧ (∀ k, k ∈ some24 xs → 1 ≤ k ∧ k ≤ 28) ∧ wr.ownsRow w.heap.size 93 1 ev xs.length (xs.map optV) ∧ Blk wr w.heap.size 4 (arrB fun j => (some24 xs).any (· == j)) ∧ sv = .bool (!(some24 xs).isEmpty) ∧ Below w.heap.size w wr)
  case atStart => exact ⟨0, [], by omega, by omega, by omega, rfl, rfl, (fun k hk => by cases hk), World.ownsRow_nil _ _ _ _, H1.out.1, rfl, H1.out.2⟩
  case round =>
    clear H1
    obtain ⟨i, xs, hi, hi12, hin, rfl, hxl, hks, hO, hM, rfl, hB⟩ := hrel
    obtain ⟨Ae, ce, rfl⟩ := own_slice hO
    have HH := Lib.hid (And.intro hi (And.intro hxl (And.intro hks (And.intro hO (And.intro hM hB)))))
    clear hi hxl hks hO hM hB
    have hcond : (i < zs.length ∧ i < 12) ∨ ((zs.length : Int) ≤ (i : Int) ∨ ((i : Int) < (zs.length : Int) ∧ (12 : Int) ≤ (i : Int))) := by omega
    rcases hcond with ⟨h1, h2⟩ | hex
    · obtain ⟨b, off, rfl, _, hc⟩ := (HR.out.1.below HH.out.2.2.2.2.2) (by rw [List.length_map]; omega)
      have hci : wr.cell? ⟨b, off + i, none⟩ = some (.int .i64 zs[i]) := hc i (.int .i64 zs[i]) (by rw [List.getElem?_map, List.getElem?_eq_getElem h1]; rfl)
      obtain ⟨hz1', hz2'⟩ := HR.out.2.1 zs[i] (List.getElem_mem h1)
      have hw0 := withinI_bounds zs[i] 0 28 (by decide)
      have hm := within_any zs[i] 0 28 wr (by decide) (by decide) (by decide) hz1' hz2'
      obtain ⟨k, hk⟩ : ∃ k : Nat, withinI zs[i] 0 28 = (k : Int) := ⟨(withinI zs[i] 0 28).toNat, by omega⟩
      rw [hk] at hm hw0
      generalize zs[i] = z at hci hm
      have h1' : (i : Int) < (zs.length : Int) := by omega
      have h2' : (i : Int) < 12 := by omega
      have hgk : 0 < gk := by have := HH.out.1; omega
      have hk28 : k ≤ 28 := by omega
      clear hc hk hw0 hz1' hz2'
      by_cases hk0 : k = 0
      · subst hk0
        have hn5 := below_new1 wr (Obj.cells #[.nilIface] 93)
        have hO5 := own_below HH.out.2.2.2.1 hn5
        have hB5 := HH.out.2.2.2.2.2.trans (hn5.mono HH.out.2.2.2.2.2.size)
        have hrd : Reads (wr.alloc (Obj.cells #[.nilIface] 93)) (wr.heap.size + 1) (some ⟨wr.heap.size, 0, none⟩) [.nilIface] := Reads.of_blk (Blk.new wr 93 #[.nilIface]) (by omega) 0
        have hM5 := HH.out.2.2.2.2.1.below hn5 HH.out.2.2.2.2.1.lt
        have hO5' : (wr.alloc (Obj.cells #[.nilIface] 93)).ownsRow w.heap.size 93 1 (.slice Ae xs.length ce) (xs.map optV).length (xs.map optV) := by rw [List.length_map]; exact hO5
        have Hxl := Lib.hid (show xs.length ≤ 12 by have := HH.out.2.1; omega)
        clear hn5 hO5
        go_wp2_with (first
          | (go_at_call 18; refine hm.mono ?_; rintro e _ ⟨rfl, rfl⟩)
          | (at_builtin; refine wpList_appendR rfl (.tmp 28) (.tmp 29) 119 rfl w.heap.size 93 i0 _ 16 Tryd.underlying119 hi0 hz0 hz1 hz2 rfl (.slice Ae xs.length ce) (xs.map optV) rfl hO5' _ _ 1 1 [.nilIface] rfl hrd rfl (fun u hu => by rw [List.mem_singleton] at hu; subst hu; rfl) (by have := Hxl.out; rw [List.length_map]; unfold maxLen; omega) (by have := Hxl.out; rw [List.length_map]; omega) hB5.size ?_; intro v6 W6 hO6 hg6 _))
        have hM6 := hM5.grown hg6 (fun e => own_ne hM5 hO5' (by decide) e.symm)
        have hB6 := below_own hB5 hO5' hg6 hB5.size
        have e1 : xs.map optV ++ [.nilIface] = (xs ++ [none]).map optV := by rw [List.map_append]; rfl
        rw [e1, List.length_map] at hO6
        have H6 := Lib.hid (And.intro hO6 (And.intro hM6 hB6))
        clear hO6 hM6 hB6 hO5' hM5 hB5 hrd hg6 e1
        go_roundg (gk - 1)
        case measure => omega
        case rel =>
          refine ⟨i + 1, xs ++ [none], by have := HH.out.1; omega, by omega, by omega, by go_num, by rw [List.length_append]; show xs.length + 1 = i + 1; have := HH.out.2.1; omega, ?_, H6.out.1, ?_, ?_, H6.out.2.2⟩
          · rw [some24_none]; exact HH.out.2.2.1
          · rw [some24_none]; exact H6.out.2.1
          · rw [some24_none]
      · have hkk : ((k : Int) == 0) = false := by rw [beq_eq_false_iff_ne]; omega
        have hk30 : (k : Int) < 30 := by omega
        have hM4 := HH.out.2.2.2.2.1
        have hO4 := HH.out.2.2.2.1
        have Hxl := Lib.hid (show xs.length ≤ 12 by have := HH.out.2.1; omega)
        have HB4 := Lib.hid HH.out.2.2.2.2.2
        go_upto_region 12 with (first
          | (go_at_call 18; refine hm.mono ?_; rintro e _ ⟨rfl, rfl⟩)
          | (refine wpList_store1 rfl rfl _ (.tmp 33) (.const (.bool true)) rfl w.heap.size k rfl (.bool true) rfl 4 _ hM4 (by kernel_rfl) (by rw [arrB_size]; omega) rfl rfl ?_; intro W4 hM5 hg5))
        rw [arrB_set] at hM5
        have hO5 := own_typed hO4 hg5 hM4 (by decide)
        have hB5 := below_only HB4.out hg5 (Nat.le_refl _) HB4.out.size
        have hn6 := below_new1 W4 (Obj.cells #[.iface 40 (.int .i64 (k : Int))] 93)
        have hO6 : (W4.alloc (Obj.cells #[.iface 40 (.int .i64 (k : Int))] 93)).ownsRow w.heap.size 93 1 (.slice Ae xs.length ce) (xs.map optV).length (xs.map optV) := by rw [List.length_map]; exact own_below hO5 hn6
        have hM6 := hM5.below hn6 hM5.lt
        have hB6 := hB5.trans (hn6.mono hB5.size)
        have hrd : Reads (W4.alloc (Obj.cells #[.iface 40 (.int .i64 (k : Int))] 93)) (W4.heap.size + 1) (some ⟨W4.heap.size, 0, none⟩) [errV k] := Reads.of_blk (Blk.new W4 93 #[errV k]) (by omega) 0
        clear hO5 hM5 hB5 hn6 hg5 hM4 hO4 HB4 hm hci
        go_wp2_with (first
          | (at_builtin; refine wpList_appendR rfl (.tmp 34) (.tmp 37) 119 rfl w.heap.size 93 i0 _ 16 Tryd.underlying119 hi0 hz0 hz1 hz2 rfl (.slice Ae xs.length ce) (xs.map optV) rfl hO6 _ _ 1 1 [errV k] rfl hrd rfl (fun u hu => by rw [List.mem_singleton] at hu; subst hu; rfl) (by have := Hxl.out; rw [List.length_map]; unfold maxLen; omega) (by have := Hxl.out; rw [List.length_map]; omega) hB6.size ?_; intro v7 W7 hO7 hg7 _))
        have hM7 := hM6.grown hg7 (fun e => own_ne hM6 hO6 (by decide) e.symm)
        have hB7 := below_own hB6 hO6 hg7 hB6.size
        have e1 : xs.map optV ++ [errV k] = (xs ++ [some k]).map optV := by rw [List.map_append]; rfl
        rw [e1, List.length_map] at hO7
        have H7 := Lib.hid (And.intro hO7 (And.intro hM7 hB7))
        clear hO7 hM7 hB7 hO6 hM6 hB6 hrd hg7 e1
        go_roundg (gk - 1)
        case measure => omega
        case rel =>
          refine ⟨i + 1, xs ++ [some k], by have := HH.out.1; omega, by omega, by omega, by go_num, by rw [List.length_append]; show xs.length + 1 = i + 1; have := HH.out.2.1; omega, ?_, H7.out.1, ?_, ?_, H7.out.2.2⟩
          · rw [some24_some]
            intro q hq
            rcases List.mem_append.1 hq with hq | hq
            · exact HH.out.2.2.1 q hq
            · rw [List.mem_singleton.1 hq]; omega
          · have e2 : (fun j => (some24 (xs ++ [some k])).any (· == j)) = fun j => (some24 xs).any (· == j) || k == j := by
              funext j
              rw [some24_some, List.any_append]
              simp
            rw [e2]
            exact H7.out.2.1
          · rw [some24_some]; simp
    · have hO := HH.out.2.2.2.1
      have hrd : Reads wr wr.heap.size Ae (xs.map optV) := by
        have h : wr.ownsRow w.heap.size 93 1 (.slice Ae xs.length ce) xs.length (xs.map optV) := hO
        exact Reads.of_own h
      have hjm := audJoin_any Ae ce xs (by have := HH.out.2.1; omega) wr hrd
      clear hO hrd
      rcases hex with hex | ⟨hex1, hex2⟩
      all_goals
        go_wp2_with fail
        refine hjm.mono ?_
        rintro e W8 ⟨hres, hb8⟩
        have H8 := Lib.hid (And.intro (HH.out.2.2.2.2.1.below hb8 HH.out.2.2.2.2.1.lt) (HH.out.2.2.2.2.2.trans (hb8.mono HH.out.2.2.2.2.2.size)))
        clear hb8
        rcases hres with ⟨hnil, rfl⟩ | ⟨j, A', c', hpos, rfl, hJ, hrj⟩
        · have hem : (some24 xs).isEmpty = true := by rw [hnil]; rfl
          rw [hem]
          have hk := known24_any W8 (HR.out.2.2.1.next H8.out.2) (HR.out.2.2.2.below H8.out.2)
          clear hnil hem
          go_wp2_with fail
          refine wp_loop_rounds 1 ?_
          rw [rounds_succ]
          go_wp2_with (first
            | (refine hk.mono ?_; rintro e W9 ⟨rfl, hb9⟩))
          go_ret
          exact ⟨rfl, H8.out.2.trans (hb9.mono H8.out.2.size)⟩
        · have hem : (some24 xs).isEmpty = false := by
            cases h : some24 xs with
            | nil => rw [h] at hpos; exact absurd hpos (by decide)
            | cons _ _ => rfl
          rw [hem]
          have HJ := Lib.hid (And.intro hJ hrj)
          have Hxl := Lib.hid (show (some24 xs).length ≤ 1000 by have := some24_len xs; have := HH.out.2.1; omega)
          clear hpos hem hJ hrj hjm
          go_wp2_with fail
          go_loopg [9] 30 (fun gk kv wr => Below W8.heap.size W8 wr ∧ ∃ k : Nat, 31 ≤ k + gk ∧ 1 ≤ k ∧ k ≤ 30 ∧ kv = .int .i64 (k : Int))
          case atStart => exact ⟨Below.refl _ _, 1, by omega, by omega, by omega, rfl⟩
          case round =>
            obtain ⟨hbr, k, hk1, hk2, hk3, rfl⟩ := hrel
            have Hk := Lib.hid (And.intro hk1 hbr)
            clear hk1 hbr
            by_cases hk30 : k < 30
            · have hki : (k : Int) < 30 := by omega
              have hgk : 0 < gk := by have := Hk.out.1; omega
              go_upto_region 19 with fail
              refine wp_region_mixP (.plain 0 <| .plain 1 <| .plain 2 <| .plain 4 <| .plain 5 <| .plain 6 <| .plain 7 <| .only 3 <| .plain 8 <| .done) (by kernel_rfl) (by kernel_rfl) (fun W9 hb9 => ?_)
              have hb89 := Hk.out.2.trans (hb9.mono Hk.out.2.size)
              have hM9 := H8.out.1.below hb89 H8.out.1.lt
              have d0 : ∀ z, (plus W9 z).cell? ⟨w.heap.size, k, none⟩ = some (.bool ((some24 xs).any (· == k))) := fun z => by rw [(hM9.plus z).cell, arrB_at _ _ hk30]
              have HB := Lib.hid hb89
              have hmJ := isJoin_any j A' c' (some24 xs) Hxl.out k W9 (HJ.out.1.below hb89 HJ.out.1.lt) ((HJ.out.2.below hb89).more hb89.size)
              generalize (some24 xs).any (· == k) = q at d0 hmJ
              clear hb9 hb89 hM9
              iterate 7 (refine mix_plain rfl ?_; go_big_quiet_step (fail); refine wpQuiet_nil ?_)
              clear d0
              refine mix_only_in rfl (fun K hK => ?_)
              go_wp2_with fail
              refine hmJ.mono ?_
              rintro e _ ⟨rfl, rfl⟩
              go_wp2_with fail
              refine hK _ _ (below_plus (Below.refl _ _)) ?_
              clear hK K
              have hqq : (q != q) = false := by cases q <;> rfl
              iterate 1 (refine mix_plain rfl ?_; go_big_quiet_step (fail); refine wpQuiet_nil ?_)
              refine mix_done ?_
              clear hqq
              go_wp2_with fail
              go_roundg (gk - 1)
              case measure => omega
              case rel => exact ⟨HB.out, k + 1, by have := Hk.out.1; omega, by omega, by omega, by go_num⟩
            · obtain rfl : k = 30 := by omega
              have hB9 := H8.out.2.trans (Hk.out.2.mono H8.out.2.size)
              have hk := known24_any wr (HR.out.2.2.1.next hB9) (HR.out.2.2.2.below hB9)
              have HB9 := Lib.hid hB9
              clear hB9 hk30
              go_wp2_with (first
                | (refine hk.mono ?_; rintro e W9 ⟨rfl, hb9⟩))
              go_ret
              exact ⟨rfl, HB9.out.trans (hb9.mono HB9.out.size)⟩
end Go.Proofs.YtfggbfnnibpohaaDoor
