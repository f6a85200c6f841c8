/- The walk of the law MerkleTurned. No condition. -/
import Derived.Test.YtbhmmoecoijojaaDoorMerkK
import Derived.Test.YtbhmmoecoijojaaDoorMerkQ
import Derived.Test.YtbhmmoecoijojaaDoorRefN
import Derived.Test.YtbhmmoecoijojaaDoorWithin
import Derived.Test.YtbhmmoecoijojaaDoorStrEq
namespace Go.Proofs.YtbhmmoecoijojaaDoor
open Go Go.RowKit
attribute [local irreducible] mixW
attribute [local go_sem] n8_lo n8_hi n64_lo n64_hi n32_lo n32_hi
theorem fewL_idem (ls : List (List UInt8)) (n m : Nat) : fewL (fewL ls n m) n m = fewL ls n m := by
  unfold fewL
  rw [← List.map_take, List.take_take, Nat.min_self, List.map_map]
  apply List.map_congr_left
  intro b _
  simp [List.take_take]
theorem SSl.snoc {w : World} {base : Nat} {e : TypeId} {v' x : Value} {vs : List Value} {ls : List (List UInt8)} {b : List UInt8} (hown : w.ownsRow base e 1 v' (vs ++ [x]).length (vs ++ [x])) (hl : vs.length = ls.length) (hel : ∀ i, i < ls.length → BSl w w.heap.size (vs.getD i undef) (ls.getD i [])) (hx : BSl w w.heap.size x b) : SSl w w.heap.size v' (ls ++ [b]) := by
  refine SSl.of_own hown (by rw [List.length_append, List.length_append, hl]; rfl) (fun i hi => ?_)
  by_cases hik : i < ls.length
  · rw [List.getD_eq_getElem?_getD, List.getD_eq_getElem?_getD, List.getElem?_append_left (by omega), List.getElem?_append_left hik, ← List.getD_eq_getElem?_getD, ← List.getD_eq_getElem?_getD]
    exact hel i hik
  · have hi2 : i = ls.length := by rw [List.length_append, List.length_singleton] at hi; omega
    subst hi2
    rw [List.getD_eq_getElem?_getD, List.getD_eq_getElem?_getD, List.getElem?_append_right (by omega), List.getElem?_append_right (Nat.le_refl _), hl, Nat.sub_self]
    exact hx
theorem own_slice {w : World} {base s n : Nat} {e : TypeId} {v : Value} {xs : List Value} (h : w.ownsRow base e s v n xs) : ∃ A c, v = .slice A n c := by
  rcases h.2 with ⟨rfl, h0⟩ | ⟨g, cap, cur, e, _⟩
  · exact ⟨none, 0, by rw [h0]⟩
  · exact ⟨_, cap, e⟩
set_option maxHeartbeats 2000000 in
set_option maxRecDepth 100000 in
theorem merkleTurned_walk (w : World) (hG : Glob w) (v : Value) (ls : List (List UInt8)) (hv : SSl w w.heap.size v ls) (at_ : Int) (hat : -9223372036854775808 ≤ at_ ∧ at_ ≤ 9223372036854775807)
    (A : Option Addr) (cap : Nat) (b : List UInt8) (hb : BSl w w.heap.size (.slice A b.length cap) b) (hc : cap ≤ 140737488351232) :
    Calls Tryd.prog 4 #[v, .int .i64 at_, .slice A b.length cap] w fun e w' => e = .returned (.bool true) ∧ Below w.heap.size w w' := by
  obtain ⟨i0, hi, hz0, hz1, hz2⟩ := info_parts (by kernel_rfl : (Tryd.prog.info? 32).map (fun i => (i.zero, i.size, i.bytes)) = some (some (.slice none 0 0), 1, 24))
  have hbl : b.length ≤ 140737488351232 := by
    obtain ⟨A', c', e1, h1, -⟩ := hb; injection e1 with _ _ e2; omega
  have Hb0 := Lib.hid hb
  have Hbl := Lib.hid hbl
  clear hb hbl hc
  go_enter Tryd.func4, Tryd.ntmps4
  obtain ⟨A0, cap0, vs0, rfl, h2, h3, h4, h5, h6⟩ := hv
  have hv : SSl w w.heap.size (.slice A0 ls.length cap0) ls := ⟨A0, cap0, vs0, rfl, h2, h3, h4, h5, h6⟩
  clear h2 h3 h4 h5 h6 vs0
  go_wp2_with fail
  refine (few_any _ ls 30 40 (by decide) (by decide) w hv).mono ?_
  rintro e w1 ⟨u1, rfl, ⟨vs1, hO⟩, hbel⟩
  have hL30 : (fewL ls 30 40).length ≤ 30 := by rw [fewL_length]; omega
  have hL40 : ∀ c ∈ fewL ls 30 40, c.length ≤ 40 := fun c hc => fewL_mem hc
  have hidem := fewL_idem ls 30 40
  generalize fewL ls 30 40 = L at hO hL30 hL40 hidem
  have HL := Lib.hid (And.intro hL30 (And.intro hL40 hidem))
  clear hL30 hL40 hidem hv
  obtain ⟨A1, cap1, vsx, rfl, h12, h13, h14, h15, h16⟩ := hO.ssl
  clear h14 h15 h16 vsx
  go_wp2_with fail
  refine (mroot_any 32 _ L w1 hO.ssl (by have := HL.out.1; omega) (fun c hc => by have := HL.out.2.1 c hc; omega) (hG.next hbel)).mono ?_
  rintro e w2 ⟨rfl, hb1⟩
  rw [kw32]
  replace hO := hO.below hb1
  replace hbel := hbel.trans (hb1.mono hbel.size)
  clear hb1
  obtain ⟨R, hR⟩ : ∃ R, rootM 32 L = R := ⟨_, rfl⟩
  have HR : Hid (rootM 32 L = R ∧ R.length = 32) := Lib.hid ⟨hR, by rw [← hR]; exact rootM_length _ _⟩
  rw [hR]
  clear hR
  have hD := Blk.new w2 27 (arr 32 fun _ => 0)
  have hbn := below_new1 w2 (Obj.cells (arr 32 fun _ => 0) 27)
  go_upto_region 3 with (first
    | (refine wpList_storeDat rfl rfl 27 (.tmp 7) (.tmp 17) rfl w2.heap.size rfl _ _ rfl _ hD (by kernel_rfl) ?_; intro w3 hA hon2))
  have hb1 := below_only hbn hon2 (Nat.le_refl _) hbn.size
  replace hO := hO.below hb1
  replace hbel := hbel.trans (hb1.mono hbel.size)
  clear hb1 hbn hon2 hD
  generalize w2.heap.size = gR at hA ⊢
  go_wp2_with fail
  refine (hasher_any 32 w3).mono ?_
  rintro e w4 ⟨h, rfl, hH, hb1⟩
  rw [kw32] at hH
  replace hO := hO.below hb1
  replace hA := hA.below hb1 hA.lt
  replace hbel := hbel.trans (hb1.mono hbel.size)
  clear hb1
  have hn1 := below_new1 w4 (Obj.cells #[] 32)
  have hoe := own_empty w4 w4.heap.size 32 (Nat.le_refl _)
  have hrd1 : Reads w4 w4.heap.size A1 vs1 := by
    obtain ⟨A', c', e', _, _, hrd⟩ := Reads.own hO.row
    injection e' with e'
    rw [e']; exact hrd
  have hone := hO.ones
  have hvl : vs1.length = L.length := hO.len
  have HO := Lib.hid (And.intro hO (And.intro hA (And.intro hH hbel)))
  clear hO hA hH hbel
  go_upto_region 5 with (first
    | (at_builtin; refine wpList_appendR rfl (.tmp 19) (.tmp 20) _ rfl w4.heap.size 32 i0 _ 24 Tryd.underlying24 hi hz0 hz1 hz2 rfl _ [] rfl hoe _ A1 _ _ vs1 rfl (hrd1.below hn1) hvl hone (by have := HL.out.1; unfold maxLen; simp; omega) (by have := HL.out.1; simp; omega) hn1.size ?_; intro u5 w5 hown5 hg5 hat5; simp only [List.nil_append] at hown5; have hb5 := below_own hn1 hoe hg5 hn1.size; have hS6 := Blk.new w5 32 #[.slice A b.length cap]; have hb6n := below_new1 w5 (Obj.cells #[.slice A b.length cap] 32); have hb6 := hb5.trans (hb6n.mono hb5.size); have hown6 := own_below hown5 hb6n; obtain ⟨A5, c5, hu5, _, _, _⟩ := Reads.own hown5; rw [hvl] at hu5; subst hu5; clear hrd1 hoe hn1 hg5 hat5 hown5 hb5 hb6n hone)
    | (at_builtin; refine wpList_appendR rfl (.tmp 21) (.tmp 23) _ rfl w4.heap.size 32 i0 _ 24 Tryd.underlying24 hi hz0 hz1 hz2 rfl _ vs1 rfl hown6 _ (some ⟨w5.heap.size, 0, none⟩) 1 1 [.slice A b.length cap] rfl (Reads.of_blk hS6 hS6.lt 0) rfl (fun u hu => by rw [List.mem_singleton] at hu; subst hu; rfl) (by have := HL.out.1; unfold maxLen; omega) (by have := HL.out.1; omega) hb6.size ?_; intro u7 w7 hown7 hg7 hat7))
  have hb7 := below_own hb6 hown6 hg7 hb6.size
  have hbel := HO.out.2.2.2.trans (hb7.mono HO.out.2.2.2.size)
  have hM : SSl w7 w7.heap.size u7 (L ++ [b]) := SSl.snoc (vs := vs1) hown7 hvl (fun i hi => (BSl.of_own (HO.out.1.el i hi)).next hb7) (Hb0.out.next hbel)
  have hO := HO.out.1.below hb7
  have hA := HO.out.2.1.below hb7 HO.out.2.1.lt
  have hH := HO.out.2.2.1.nxt hb7
  clear HO hb7 hb6 hown6 hg7 hat7 hown7 hS6 hvl
  have hMl : (L ++ [b]).length ≤ 31 := by have := HL.out.1; rw [List.length_append]; simp; omega
  have hMm : ∀ c ∈ L ++ [b], c.length ≤ 140737488351232 := fun c hc => by
    rcases List.mem_append.1 hc with hc | hc
    · have := HL.out.2.1 c hc; omega
    · rw [List.mem_singleton.1 hc]; exact Hbl.out
  generalize L ++ [b] = M at hM hMl hMm
  have HM := Lib.hid (And.intro hMl hMm)
  clear hMl hMm
  obtain ⟨RM, hRM⟩ : ∃ RM, rootM 32 M = RM := ⟨_, rfl⟩
  have HRM : Hid (rootM 32 M = RM ∧ RM.length = 32) := Lib.hid ⟨hRM, by rw [← hRM]; exact rootM_length _ _⟩
  clear hRM
  obtain ⟨q1, hq1⟩ : ∃ q1, decide (RM = R) = q1 := ⟨_, rfl⟩
  have Hq1 := Lib.hid hq1
  have hqq : (q1 != q1) = false := by cases q1 <;> rfl
  clear hq1
  refine wp_region_mixP (.plain 0 <| .plain 2 <| .plain 4 <| .plain 5 <| .plain 7 <| .plain 8 <| .only 1 <| .plain 3 <| .only 6 <| .only 9 <| .plain 10 <| .plain 11 <| .done) (by kernel_rfl) (by kernel_rfl) (fun W0 hb1 => ?_)
  replace hO := hO.below hb1
  replace hA := hA.below hb1 hA.lt
  replace hH := hH.nxt hb1
  replace hM := hM.next hb1
  replace hbel := hbel.trans (hb1.mono hbel.size)
  clear hb1
  iterate 6 (refine mix_plain rfl ?_; (first
    | (refine wpQuiet_load rfl 27 (.tmp 7) rfl gR rfl _ _ _ _ (fun _ ⟨e, he⟩ => by rw [he]; exact hA.plus e) Tryd.underlying27 rfl (by rw [dat_size]; kernel_rfl) ?_; simp only [Act.put, List.setIfInBounds_toArray, List.set_cons_zero, List.set_cons_succ])
    | go_big_quiet_step (fail)); refine wpQuiet_nil ?_)
  refine mix_only rfl (fun K hK => ?_)
  go_wp2_with fail
  refine (mroot_any 32 _ M W0 hM (by have := HM.out.1; omega) (fun c hc => by have := HM.out.2 c hc; omega) (hG.next hbel)).mono ?_
  rintro e W1 ⟨rfl, hb1⟩
  rw [kw32, HRM.out.1]
  go_wp2_with fail
  refine hK _ _ hb1 ?_
  clear hK K
  replace hO := hO.below hb1
  replace hA := hA.below hb1 hA.lt
  replace hH := hH.nxt hb1
  replace hM := hM.next hb1
  replace hbel := hbel.trans (hb1.mono hbel.size)
  clear hb1
  iterate 1 (refine mix_plain rfl ?_; (first
    | (refine wpQuiet_eqD rfl (.tmp 26) (.tmp 27) _ rfl RM R rfl rfl HRM.out.2 HR.out.2 q1 Hq1.out ?_; simp only [Act.put, List.setIfInBounds_toArray, List.set_cons_zero, List.set_cons_succ])
    | go_big_quiet_step (fail)); refine wpQuiet_nil ?_)
  refine mix_only rfl (fun K hK => ?_)
  go_wp2_with fail
  refine (r8root_any _ 32 M.length M (Nat.le_refl _) (by have := HM.out.1; omega) HM.out.2 _ W1 hM hH).mono ?_
  rintro e W2 ⟨rfl, hb1⟩
  rw [HRM.out.1]
  go_wp2_with fail
  refine hK _ _ hb1 ?_
  clear hK K
  replace hO := hO.below hb1
  replace hA := hA.below hb1 hA.lt
  replace hH := hH.nxt hb1
  replace hM := hM.next hb1
  replace hbel := hbel.trans (hb1.mono hbel.size)
  clear hb1
  refine mix_only rfl (fun K hK => ?_)
  go_wp2_with fail
  refine (r8root_any _ 32 L.length L (Nat.le_refl _) (by have := HL.out.1; omega) (fun c hc => by have := HL.out.2.1 c hc; omega) _ W2 hO.ssl hH).mono ?_
  rintro e W3 ⟨rfl, hb1⟩
  rw [HR.out.1]
  go_wp2_with fail
  refine hK _ _ hb1 ?_
  clear hK K
  replace hO := hO.below hb1
  replace hA := hA.below hb1 hA.lt
  replace hH := hH.nxt hb1
  replace hM := hM.next hb1
  replace hbel := hbel.trans (hb1.mono hbel.size)
  clear hb1
  iterate 2 (refine mix_plain rfl ?_; (first
    | (refine wpQuiet_eqD rfl (.tmp 31) (.tmp 34) _ rfl RM R rfl rfl HRM.out.2 HR.out.2 q1 Hq1.out ?_; simp only [Act.put, List.setIfInBounds_toArray, List.set_cons_zero, List.set_cons_succ])
    | go_big_quiet_step (fail)); refine wpQuiet_nil ?_)
  refine mix_done ?_
  by_cases hL0 : L.length = 0
  case pos =>
    clear hqq
    go_wp2_with fail
    refine (known8_any W3 (hG.next hbel)).mono ?_
    rintro e w14 ⟨rfl, hb1⟩
    replace hbel := hbel.trans (hb1.mono hbel.size)
    clear hb1
    go_wp2_with fail
    go_ret
    exact ⟨rfl, hbel⟩
  have e0 : ((L.length : Int) == 0) = false := by rw [beq_eq_false_iff_ne]; omega
  clear hqq hM
  go_wp2_with fail
  refine (within_any at_ 0 ((L.length : Int) - 1) W3 (by decide) (by omega) (by have := HL.out.1; omega) hat.1 hat.2).mono ?_
  rintro e _ ⟨rfl, rfl⟩
  have hwb := withinI_bounds at_ 0 ((L.length : Int) - 1) (by omega)
  obtain ⟨a, haa⟩ : ∃ a : Nat, withinI at_ 0 ((L.length : Int) - 1) = (a : Int) := ⟨(withinI at_ 0 ((L.length : Int) - 1)).toNat, by omega⟩
  rw [haa] at hwb ⊢
  have haL : a < L.length := by omega
  clear haa hwb e0
  go_wp2_with fail
  refine (few_any _ L 30 40 (by decide) (by decide) W3 hO.ssl).mono ?_
  rintro e W4 ⟨u10, rfl, ⟨vs10, hO10⟩, hb1⟩
  rw [HL.out.2.2] at hO10
  have H3 := Lib.hid (And.intro hO (And.intro hA (And.intro hH hbel)))
  clear hO hA hH hbel
  obtain ⟨g10, cap10, cur10, rfl, hg10, hc10, hB10, ha10, hset⟩ := hO10.setAt a haL
  have Hset := Lib.hid hset
  have haL' : (a : Int) < (L.length : Int) := by omega
  clear hset hO10
  go_upto_region 12 with (first
    | (refine wpList_store1 rfl rfl _ (.tmp 51) (.tmp 50) rfl g10 a rfl (.slice A b.length cap) rfl _ _ hB10 (by kernel_rfl) ha10 rfl rfl ?_; intro W5 hB11 hon11))
  have hb35 := below_only hb1 hon11 hg10 hb1.size
  have hO := H3.out.1.below hb35
  have hA := H3.out.2.1.below hb35 H3.out.2.1.lt
  have hH := H3.out.2.2.1.nxt hb35
  have hbel := H3.out.2.2.2.trans (hb35.mono H3.out.2.2.2.size)
  have hM := Hset.out W5 (.slice A b.length cap) b hB11 hon11 (Hb0.out.next hbel)
  clear hb35 hB11 hon11 hB10 hb1 H3 Hset
  have hM2 : ∀ c ∈ L.set a b, c.length ≤ 140737488351232 := fun c hc => by
    rcases List.mem_or_eq_of_mem_set hc with hc | hc
    · have := HL.out.2.1 c hc; omega
    · rw [hc]; exact Hbl.out
  have hM3 : (L.set a b).length ≤ 30 := by rw [List.length_set]; exact HL.out.1
  have hM4 : b = L.getD a [] → L.set a b = L := fun e => by
    rw [e]
    apply List.ext_getElem?
    intro i
    rw [List.getElem?_set]
    by_cases hia : a = i
    · subst hia; rw [if_pos rfl, if_pos haL, List.getD_eq_getElem?_getD, List.getElem?_eq_getElem haL]; rfl
    · rw [if_neg hia]
  generalize L.set a b = M at hM hM2 hM3 hM4
  have HM := Lib.hid (And.intro hM3 (And.intro hM2 hM4))
  clear hM2 hM3 hM4
  obtain ⟨RN, hRN⟩ : ∃ RN, rootM 32 M = RN := ⟨_, rfl⟩
  have HRN : Hid (rootM 32 M = RN ∧ RN.length = 32) := Lib.hid ⟨hRN, by rw [← hRN]; exact rootM_length _ _⟩
  clear hRN
  obtain ⟨q2, hq2⟩ : ∃ q2, decide (RN = R) = q2 := ⟨_, rfl⟩
  have Hq2 := Lib.hid hq2
  have hqq : (q2 != q2) = false := by cases q2 <;> rfl
  clear hq2
  obtain ⟨ba, off, ua, hAe, hba, hcu, hua⟩ := hO.ssl.cellAt a haL
  subst hAe
  obtain ⟨Aa, ca, rfl, hua1, hua2, hua3⟩ := hua
  have hua : BSl W5 W5.heap.size (.slice Aa (L.getD a []).length ca) (L.getD a []) := ⟨Aa, ca, rfl, hua1, hua2, hua3⟩
  clear hua1 hua2 hua3
  obtain ⟨la, hla⟩ : ∃ la, L.getD a [] = la := ⟨_, rfl⟩
  rw [hla] at hcu hua
  have Hla := Lib.hid hla
  clear hla
  obtain ⟨nla, hnla⟩ : ∃ nla, la.length = nla := ⟨_, rfl⟩
  rw [hnla] at hcu hua
  clear hnla
  have Hua := Lib.hid hua
  clear hua
  obtain ⟨q3, hq3⟩ : ∃ q3, decide (b = la) = q3 := ⟨_, rfl⟩
  have Hq3 := Lib.hid hq3
  clear hq3
  have Hcu := Lib.hid (And.intro hcu hba)
  clear hcu hba
  refine wp_region_mixP (.plain 0 <| .plain 2 <| .plain 4 <| .plain 5 <| .plain 7 <| .plain 8 <| .only 1 <| .plain 3 <| .only 6 <| .only 9 <| .plain 10 <| .plain 11 <| .plain 12 <| .plain 13 <| .plain 14 <| .plain 15 <| .plain 16 <| .plain 17 <| .plain 18 <| .plain 19 <| .plain 20 <| .plain 21 <| .plain 22 <| .plain 24 <| .only 23 <| .plain 25 <| .plain 26 <| .plain 27 <| .done) (by kernel_rfl) (by kernel_rfl) (fun X0 hb1 => ?_)
  have hb5X := Below.refl W5.heap.size W5
  replace hO := hO.below hb1
  replace hA := hA.below hb1 hA.lt
  replace hH := hH.nxt hb1
  replace hM := hM.next hb1
  replace hb5X := hb5X.trans (hb1.mono hb5X.size)
  replace hbel := hbel.trans (hb1.mono hbel.size)
  clear hb1
  iterate 6 (refine mix_plain rfl ?_; (first
    | (refine wpQuiet_load rfl 27 (.tmp 7) rfl gR rfl _ _ _ _ (fun _ ⟨e, he⟩ => by rw [he]; exact hA.plus e) Tryd.underlying27 rfl (by rw [dat_size]; kernel_rfl) ?_; simp only [Act.put, List.setIfInBounds_toArray, List.set_cons_zero, List.set_cons_succ])
    | go_big_quiet_step (fail)); refine wpQuiet_nil ?_)
  refine mix_only rfl (fun K hK => ?_)
  go_wp2_with fail
  refine (mroot_any 32 _ M X0 hM (by have := HM.out.1; omega) (fun c hc => by have := HM.out.2.1 c hc; omega) (hG.next hbel)).mono ?_
  rintro e X1 ⟨rfl, hb1⟩
  rw [kw32, HRN.out.1]
  go_wp2_with fail
  refine hK _ _ hb1 ?_
  clear hK K
  replace hO := hO.below hb1
  replace hA := hA.below hb1 hA.lt
  replace hH := hH.nxt hb1
  replace hM := hM.next hb1
  replace hb5X := hb5X.trans (hb1.mono hb5X.size)
  replace hbel := hbel.trans (hb1.mono hbel.size)
  clear hb1
  iterate 1 (refine mix_plain rfl ?_; (first
    | (refine wpQuiet_eqD rfl (.tmp 53) (.tmp 54) _ rfl RN R rfl rfl HRN.out.2 HR.out.2 q2 Hq2.out ?_; simp only [Act.put, List.setIfInBounds_toArray, List.set_cons_zero, List.set_cons_succ])
    | go_big_quiet_step (fail)); refine wpQuiet_nil ?_)
  refine mix_only rfl (fun K hK => ?_)
  go_wp2_with fail
  refine (r8root_any _ 32 M.length M (Nat.le_refl _) (by have := HM.out.1; omega) HM.out.2.1 _ X1 hM hH).mono ?_
  rintro e X2 ⟨rfl, hb1⟩
  rw [HRN.out.1]
  go_wp2_with fail
  refine hK _ _ hb1 ?_
  clear hK K
  replace hO := hO.below hb1
  replace hA := hA.below hb1 hA.lt
  replace hH := hH.nxt hb1
  replace hM := hM.next hb1
  replace hb5X := hb5X.trans (hb1.mono hb5X.size)
  replace hbel := hbel.trans (hb1.mono hbel.size)
  clear hb1
  refine mix_only rfl (fun K hK => ?_)
  go_wp2_with fail
  refine (r8root_any _ 32 L.length L (Nat.le_refl _) (by have := HL.out.1; omega) (fun c hc => by have := HL.out.2.1 c hc; omega) _ X2 hO.ssl hH).mono ?_
  rintro e X3 ⟨rfl, hb1⟩
  rw [HR.out.1]
  go_wp2_with fail
  refine hK _ _ hb1 ?_
  clear hK K
  replace hO := hO.below hb1
  replace hA := hA.below hb1 hA.lt
  replace hH := hH.nxt hb1
  replace hM := hM.next hb1
  replace hb5X := hb5X.trans (hb1.mono hb5X.size)
  replace hbel := hbel.trans (hb1.mono hbel.size)
  clear hb1
  have hub : BSl X3 X3.heap.size (.slice A b.length cap) b := Hb0.out.next hbel
  have hul : BSl X3 X3.heap.size (.slice Aa nla ca) la := Hua.out.next hb5X
  have cu : X3.cell? ⟨ba, off + a, none⟩ = some (.slice Aa nla ca) := (hb5X.cell (p := ⟨ba, off + a, none⟩) Hcu.out.2).trans Hcu.out.1
  have hbaX : ba < X3.heap.size := Nat.lt_of_lt_of_le Hcu.out.2 hb5X.size
  iterate 12 (refine mix_plain rfl ?_; (first
    | (refine wpQuiet_eqD rfl (.tmp 58) (.tmp 61) _ rfl RN R rfl rfl HRN.out.2 HR.out.2 q2 Hq2.out ?_; simp only [Act.put, List.setIfInBounds_toArray, List.set_cons_zero, List.set_cons_succ])
    | (refine wpQuiet_str rfl (.tmp 65) rfl _ b _ rfl (fun _ ⟨e, he⟩ => by rw [he]; exact hub.below (plus_below _ e)) ?_; simp only [Act.put, List.setIfInBounds_toArray, List.set_cons_zero, List.set_cons_succ])
    | (refine wpQuiet_load1 rfl _ (.tmp 69) rfl _ rfl _ Tryd.underlying32 rfl _ (fun _ ⟨e, he⟩ => by rw [he, plus_cell _ _ _ hbaX]; exact cu) ?_; simp only [Act.put, List.setIfInBounds_toArray, List.set_cons_zero, List.set_cons_succ])
    | (refine wpQuiet_str rfl (.tmp 70) rfl _ la _ rfl (fun _ ⟨e, he⟩ => by rw [he]; exact hul.below (plus_below _ e)) ?_; simp only [Act.put, List.setIfInBounds_toArray, List.set_cons_zero, List.set_cons_succ])
    | (refine wpQuiet_eqStr rfl (.tmp 66) (.tmp 71) _ rfl b la rfl rfl q3 Hq3.out ?_; simp only [Act.put, List.setIfInBounds_toArray, List.set_cons_zero, List.set_cons_succ])
    | go_big_quiet_step (fail)); refine wpQuiet_nil ?_)
  clear cu hqq
  cases q3 with
  | true =>
    have hbe : b = la := of_decide_eq_true Hq3.out
    have hRR : Hid (RN = R) := Lib.hid (by
      have h1 := HM.out.2.2 (by rw [Hla.out]; exact hbe)
      rw [← HRN.out.1, h1]; exact HR.out.1)
    clear hbe
    iterate 2 (refine mix_plain rfl ?_; (first
      | (refine wpQuiet_load rfl 27 (.tmp 7) rfl gR rfl _ _ _ _ (fun _ ⟨e, he⟩ => by rw [he]; exact hA.plus e) Tryd.underlying27 rfl (by rw [dat_size]; kernel_rfl) ?_; simp only [Act.put, List.setIfInBounds_toArray, List.set_cons_zero, List.set_cons_succ])
      | go_big_quiet_step (fail)); refine wpQuiet_nil ?_)
    refine mix_only rfl (fun K hK => ?_)
    go_wp2_with fail
    refine (mroot_any 32 _ M X3 hM (by have := HM.out.1; omega) (fun c hc => by have := HM.out.2.1 c hc; omega) (hG.next hbel)).mono ?_
    rintro e X4 ⟨rfl, hb1⟩
    rw [kw32, HRN.out.1]
    go_wp2_with fail
    refine hK _ _ hb1 ?_
    clear hK K
    replace hO := hO.below hb1
    replace hA := hA.below hb1 hA.lt
    replace hH := hH.nxt hb1
    replace hM := hM.next hb1
    replace hb5X := hb5X.trans (hb1.mono hb5X.size)
    replace hbel := hbel.trans (hb1.mono hbel.size)
    clear hb1
    iterate 3 (refine mix_plain rfl ?_; (first
      | (refine wpQuiet_neD rfl (.tmp 75) (.tmp 76) _ rfl RN R rfl rfl HRN.out.2 HR.out.2 true (decide_eq_true hRR.out) ?_; simp only [Act.put, List.setIfInBounds_toArray, List.set_cons_zero, List.set_cons_succ])
      | go_big_quiet_step (fail)); refine wpQuiet_nil ?_)
    refine mix_done ?_
    go_wp2_with fail
    refine (prove_any 32 _ L a X4 hO.ssl (by have := HL.out.1; omega) (fun c hc => by have := HL.out.2.1 c hc; omega) haL (hG.next hbel)).mono ?_
    rintro e Y ⟨u, rfl, hown, hb1⟩
    rw [kw32] at hown
    replace hbel := hbel.trans (hb1.mono hbel.size)
    obtain ⟨Ap, cp, rfl⟩ := own_slice hown
    have hdep := pathM_depth 32
    have Hdep : Hid (∀ d : Nat, L.length ≤ 2 ^ d → (pathM 32 L a).length ≤ d) := Lib.hid (fun d hd => hdep d L a hd)
    clear hb1 hown hdep hO hA hH hM hb5X
    generalize (pathM 32 L a).length = P at Hdep ⊢
    go_wp2_with fail
    go_loopw [13] (fun iv wr => ∃ d : Nat, d ≤ 5 ∧ iv = .int .i64 d ∧ Below w.heap.size w wr) (fun iv _ => 5 - (intOf iv).toNat)
    case atStart => exact ⟨0, by omega, rfl, hbel⟩
    case round =>
      clear hbel
      obtain ⟨d, hd5, rfl, hbel⟩ := hrel
      have e2 : ((2 : Int) ^ d) = ((2 ^ d : Nat) : Int) := by simp
      have h32 : 2 ^ d ≤ 2 ^ 5 := Nat.pow_le_pow_right (by decide) hd5
      obtain ⟨N, hN⟩ : ∃ N, 2 ^ d = N := ⟨_, rfl⟩
      have HN := Lib.hid hN
      rw [hN] at e2 h32
      have hsh : wrap64 ((2 : Int) ^ d) = (N : Int) := by
        rw [e2]; unfold wrap64; omega
      clear hN e2 h32
      by_cases hlt : N < L.length
      · have hd4 : d ≤ 4 := by
          rcases Nat.lt_or_ge 4 d with h4 | h4
          · obtain rfl : d = 5 := by omega
            have := HN.out; have := HL.out.1; omega
          · exact h4
        have hlt' : (N : Int) < (L.length : Int) := by omega
        go_wp2_with fail
        go_roundw
        case rel => exact ⟨d + 1, by omega, by go_num, hbel⟩
        case measure => simp [intOf]; omega
      · have hlt' : ¬ ((N : Int) < (L.length : Int)) := by omega
        have hP : (P : Int) ≤ (d : Int) := by have := Hdep.out d (by rw [HN.out]; omega); omega
        go_wp2_with fail
        refine (known8_any wr (hG.next hbel)).mono ?_
        rintro e w14 ⟨rfl, hb1⟩
        replace hbel := hbel.trans (hb1.mono hbel.size)
        clear hb1
        go_wp2_with fail
        go_ret
        exact ⟨rfl, hbel⟩
  | false =>
    iterate 2 (refine mix_skip rfl rfl ?_; simp only [Act.put, List.setIfInBounds_toArray, List.set_cons_zero, List.set_cons_succ])
    refine mix_only rfl (fun K hK => ?_)
    go_wp2_with fail
    refine hK _ _ (Below.refl _ _) ?_
    clear hK K
    refine mix_skip rfl rfl ?_
    simp only [Act.put, List.setIfInBounds_toArray, List.set_cons_zero, List.set_cons_succ]
    iterate 2 (refine mix_plain rfl ?_; go_big_quiet_step (fail); refine wpQuiet_nil ?_)
    refine mix_done ?_
    go_wp2_with fail
    refine (prove_any 32 _ L a X3 hO.ssl (by have := HL.out.1; omega) (fun c hc => by have := HL.out.2.1 c hc; omega) haL (hG.next hbel)).mono ?_
    rintro e Y ⟨u, rfl, hown, hb1⟩
    rw [kw32] at hown
    replace hbel := hbel.trans (hb1.mono hbel.size)
    obtain ⟨Ap, cp, rfl⟩ := own_slice hown
    have hdep := pathM_depth 32
    have Hdep : Hid (∀ d : Nat, L.length ≤ 2 ^ d → (pathM 32 L a).length ≤ d) := Lib.hid (fun d hd => hdep d L a hd)
    clear hb1 hown hdep hO hA hH hM hb5X
    generalize (pathM 32 L a).length = P at Hdep ⊢
    go_wp2_with fail
    go_loopw [13] (fun iv wr => ∃ d : Nat, d ≤ 5 ∧ iv = .int .i64 d ∧ Below w.heap.size w wr) (fun iv _ => 5 - (intOf iv).toNat)
    case atStart => exact ⟨0, by omega, rfl, hbel⟩
    case round =>
      clear hbel
      obtain ⟨d, hd5, rfl, hbel⟩ := hrel
      have e2 : ((2 : Int) ^ d) = ((2 ^ d : Nat) : Int) := by simp
      have h32 : 2 ^ d ≤ 2 ^ 5 := Nat.pow_le_pow_right (by decide) hd5
      obtain ⟨N, hN⟩ : ∃ N, 2 ^ d = N := ⟨_, rfl⟩
      have HN := Lib.hid hN
      rw [hN] at e2 h32
      have hsh : wrap64 ((2 : Int) ^ d) = (N : Int) := by
        rw [e2]; unfold wrap64; omega
      clear hN e2 h32
      by_cases hlt : N < L.length
      · have hd4 : d ≤ 4 := by
          rcases Nat.lt_or_ge 4 d with h4 | h4
          · obtain rfl : d = 5 := by omega
            have := HN.out; have := HL.out.1; omega
          · exact h4
        have hlt' : (N : Int) < (L.length : Int) := by omega
        go_wp2_with fail
        go_roundw
        case rel => exact ⟨d + 1, by omega, by go_num, hbel⟩
        case measure => simp [intOf]; omega
      · have hlt' : ¬ ((N : Int) < (L.length : Int)) := by omega
        have hP : (P : Int) ≤ (d : Int) := by have := Hdep.out d (by rw [HN.out]; omega); omega
        go_wp2_with fail
        refine (known8_any wr (hG.next hbel)).mono ?_
        rintro e w14 ⟨rfl, hb1⟩
        replace hbel := hbel.trans (hb1.mono hbel.size)
        clear hb1
        go_wp2_with fail
        go_ret
        exact ⟨rfl, hbel⟩
end Go.Proofs.YtbhmmoecoijojaaDoor
