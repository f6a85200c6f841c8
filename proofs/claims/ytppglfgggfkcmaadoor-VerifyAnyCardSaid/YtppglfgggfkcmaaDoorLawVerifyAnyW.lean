/- The walk of the law VerifyAny. No condition. -/
import Derived.Test.YtppglfgggfkcmaaDoorP21
import Derived.Test.YtppglfgggfkcmaaDoorP18
import Derived.Test.YtppglfgggfkcmaaDoorP19
namespace Go.Proofs.YtppglfgggfkcmaaDoor
open Go Go.RowKit
attribute [local irreducible] mixW
attribute [local go_sem] n8_lo n8_hi n64_lo n64_hi n32_lo n32_hi
theorem wpList_neStrA {w : World} {ops : Array Oper} {rest : List Oper} {o : Oper} {a : Act} {Q : Exit → Act → World → Prop} (hgd : o.guard = none) (x y : Operand) (yt : TypeId) (ho : o.op = .binOp .neq 9 x y yt) (X Y : List UInt8) (hx : a.eval x = strV X) (hy : a.eval y = strV Y)
    (b : Bool) (hb : decide (X = Y) = b) (h : wpList Tryd.prog ops Q rest (a.put o.dst (.bool (!b))) w) : wpList Tryd.prog ops Q (o :: rest) a w :=
  wpList_plain hgd fun K hK => by
    have hg : (eqGuard .neq 9 x y (strV X) (strV Y)).run Tryd.prog w = .ok () w := by unfold strV; simp [eqGuard]
    unfold Oper.wp execOp
    simp only [ho, hx, hy, Sem.run_bind, hg, run_strNe, hb, Result.andThen_ok, Sem.run_pure]
    exact hK _ _ h
theorem collF_mem (n : Nat) : ∀ (X Y : List (List UInt8)) (x y : List UInt8), collF n X Y = some (x, y) → x ∈ X ∧ y ∈ Y := by
  intro X
  induction X with
  | nil => intro Y x y h; cases h
  | cons a X ih =>
    intro Y x y h
    cases Y with
    | nil => cases h
    | cons b Y =>
      rw [collF] at h
      split at h
      · injection h with h
        injection h with h1 h2
        subst h1; subst h2
        exact ⟨List.mem_cons_self .., List.mem_cons_self ..⟩
      · have := ih Y x y h
        exact ⟨List.mem_cons_of_mem _ this.1, List.mem_cons_of_mem _ this.2⟩
theorem collS_texts (n : Nat) (a b : List UInt8) (i s : Nat) (p q : List (List UInt8)) (x y : List UInt8) (hn : n ≤ 32) (hal : a.length ≤ 140737488351232) (hbl : b.length ≤ 140737488351232) (h : collS n a b i s p q = some (x, y)) : x.length ≤ 140737488351233 ∧ y.length ≤ 140737488351233 := by
  rw [collS_way] at h
  split at h
  · cases h
  · cases h1 : wayO n a i s p with
    | none => rw [h1] at h; cases h
    | some X =>
      cases h2 : wayO n b i s q with
      | none => rw [h1, h2] at h; cases h
      | some Y =>
        rw [h1, h2] at h
        have h : (if lastH n X = lastH n Y then collF n X Y else none) = some (x, y) := h
        split at h
        · have hm := collF_mem n X Y x y h
          exact ⟨wayO_texts n a i s p X hn hal h1 x hm.1, wayO_texts n b i s q Y hn hbl h2 y hm.2⟩
        · cases h
set_option maxHeartbeats 3000000 in
set_option maxRecDepth 100000 in
theorem verifyAny_walk (w : World) (hG : Glob w) (x0 : Int) (hx0 : -9223372036854775808 ≤ x0 ∧ x0 ≤ 9223372036854775807) (Aa : Option Addr) (capa : Nat) (a : List UInt8) (ha : BSl w w.heap.size (.slice Aa a.length capa) a) (hac : capa ≤ 140737488351232)
    (Ab : Option Addr) (capb : Nat) (b : List UInt8) (hb : BSl w w.heap.size (.slice Ab b.length capb) b) (hbc : capb ≤ 140737488351232) (ix sz : UInt64)
    (Ap : Option Addr) (capp : Nat) (ps : List (List UInt8)) (hpl : ∀ d ∈ ps, d.length = 32) (hp : DX w (.slice Ap ps.length capp) ps) (hpc : capp * 32 ≤ 140737488351232)
    (Aq : Option Addr) (capq : Nat) (qs : List (List UInt8)) (hql : ∀ d ∈ qs, d.length = 32) (hq : DX w (.slice Aq qs.length capq) qs) (hqc : capq * 32 ≤ 140737488351232) :
    Calls Tryd.prog 7 #[.int .i64 x0, .slice Aa a.length capa, .slice Ab b.length capb, .int .u64 (n64 ix), .int .u64 (n64 sz), .slice Ap ps.length capp, .slice Aq qs.length capq] w fun e w' => e = .returned (.bool true) ∧ Below w.heap.size w w' := by
  have hix := ix.toNat_lt
  have hsz := sz.toNat_lt
  have e1 : n64 ix = (ix.toNat : Int) := rfl
  have e2 : n64 sz = (sz.toNat : Int) := rfl
  rw [e1, e2]
  generalize ix.toNat = I at hix ⊢
  generalize sz.toNat = S at hsz ⊢
  clear e1 e2
  have hI64 : I ≤ 18446744073709551615 := by omega
  have hS64 : S ≤ 18446744073709551615 := by omega
  clear hix hsz
  have hal : a.length ≤ 140737488351232 := by obtain ⟨_, _, e, h, _⟩ := ha; injection e with _ _ e3; omega
  have hbl : b.length ≤ 140737488351232 := by obtain ⟨_, _, e, h, _⟩ := hb; injection e with _ _ e3; omega
  have hplc : ps.length ≤ capp := by obtain ⟨_, _, e, h, _⟩ := hp; injection e with _ _ e3; omega
  have hqlc : qs.length ≤ capq := by obtain ⟨_, _, e, h, _⟩ := hq; injection e with _ _ e3; omega
  have Hab := Lib.hid (And.intro ha (And.intro hb (And.intro hal hbl)))
  clear ha hb hal hbl
  go_enter Tryd.func7, Tryd.ntmps7
  go_upto_if 24 with fail
  go_cut [5] (fun s1 wx => s1 = .slice Ap (ps.take 66).length capp ∧ wx = w)
  case first =>
    by_cases h40 : 66 < ps.length
    · have e40 : (ps.take 66).length = 66 := by rw [List.length_take]; omega
      have He40 := Lib.hid e40
      clear e40
      go_wp2_with fail
      go_meet
      exact ⟨by rw [He40.out], rfl⟩
    · have e40 : (ps.take 66).length = ps.length := by rw [List.length_take]; omega
      have He40 := Lib.hid e40
      clear e40
      go_wp2_with fail
      go_meet
      exact ⟨by rw [He40.out], rfl⟩
  case rest =>
  obtain ⟨rfl, rfl⟩ := hcut
  have hp1 : DX wc (.slice Ap (ps.take 66).length capp) (ps.take 66) := by
    by_cases h40 : 66 ≤ ps.length
    · have := hp.take 66 h40
      rwa [show (ps.take 66).length = 66 by rw [List.length_take]; omega]
    · rw [List.take_of_length_le (by omega)]; exact hp
  have hp66 : (ps.take 66).length ≤ 66 := by rw [List.length_take]; omega
  have hpl1 : ∀ d ∈ ps.take 66, d.length = 32 := fun d hd => hpl d (List.mem_of_mem_take hd)
  generalize ps.take 66 = P at hp1 hp66 hpl1 ⊢
  clear hp hpl hplc hpc
  have HP := Lib.hid (And.intro hp1 hpl1)
  clear hp1 hpl1
  go_upto_if 29 with fail
  go_cut [6] (fun s1 wx => s1 = .slice Aq (qs.take 66).length capq ∧ wx = wc)
  case first =>
    by_cases h40 : 66 < qs.length
    · have e40 : (qs.take 66).length = 66 := by rw [List.length_take]; omega
      have He40 := Lib.hid e40
      clear e40
      go_wp2_with fail
      go_meet
      exact ⟨by rw [He40.out], rfl⟩
    · have e40 : (qs.take 66).length = qs.length := by rw [List.length_take]; omega
      have He40 := Lib.hid e40
      clear e40
      go_wp2_with fail
      go_meet
      exact ⟨by rw [He40.out], rfl⟩
  case rest =>
  obtain ⟨rfl, rfl⟩ := hcut
  have hq1 : DX wc (.slice Aq (qs.take 66).length capq) (qs.take 66) := by
    by_cases h40 : 66 ≤ qs.length
    · have := hq.take 66 h40
      rwa [show (qs.take 66).length = 66 by rw [List.length_take]; omega]
    · rw [List.take_of_length_le (by omega)]; exact hq
  have hq66 : (qs.take 66).length ≤ 66 := by rw [List.length_take]; omega
  have hql1 : ∀ d ∈ qs.take 66, d.length = 32 := fun d hd => hql d (List.mem_of_mem_take hd)
  generalize qs.take 66 = Q at hq1 hq66 hql1 ⊢
  clear hq hql hqlc hqc
  have HQ := Lib.hid (And.intro hq1 hql1)
  clear hq1 hql1
  go_wp2_with fail
  refine (hasher9_any x0 wc).mono ?_
  rintro e w2 ⟨h, rfl, hH, hbel⟩
  have HA2 := Lib.hid (And.intro (Hab.out.1.next hbel) (And.intro (Hab.out.2.1.next hbel) (And.intro (HP.out.1.next hbel) (HQ.out.1.next hbel))))
  have hn32 := cutW_hi x0
  go_wp2_with fail
  refine (vcoll_any x0 _ _ a b I S hI64 hS64 _ _ P Q HP.out.2 HQ.out.2 (by omega) (by omega) w2 HA2.out.1 HA2.out.2.1 Hab.out.2.2.1 Hab.out.2.2.2 HA2.out.2.2.1 HA2.out.2.2.2 (hG.next hbel)).mono ?_
  rintro e w3 ⟨⟨u, v, rfl, hu, hv⟩, hb1⟩
  have HA3 := Lib.hid (And.intro (HA2.out.1.next hb1) (And.intro (HA2.out.2.1.next hb1) (And.intro (HA2.out.2.2.1.next hb1) (HA2.out.2.2.2.next hb1))))
  replace hH := hH.nxt hb1
  replace hbel := hbel.trans (hb1.mono hbel.size)
  clear hb1 HA2
  obtain ⟨r, hr⟩ : ∃ r, collS (cutW x0) a b I S P Q = r := ⟨_, rfl⟩
  rw [hr] at hu hv ⊢
  have Hr := Lib.hid hr
  clear hr
  have HU := Lib.hid (And.intro hu hv)
  clear hu hv
  go_wp2_with fail
  refine (rcoll_any _ (cutW x0) _ _ a b I S hI64 hS64 _ _ P Q HP.out.2 HQ.out.2 (by omega) (by omega) w3 hH HA3.out.1 HA3.out.2.1 Hab.out.2.2.1 Hab.out.2.2.2 HA3.out.2.2.1 HA3.out.2.2.2).mono ?_
  rintro e w4 ⟨⟨u', v', rfl, hu', hv'⟩, hb1⟩
  rw [Hr.out] at hu' hv' ⊢
  have HV := Lib.hid (And.intro (HU.out.1.next hb1) (And.intro (HU.out.2.next hb1) (And.intro hu' hv')))
  replace hH := hH.nxt hb1
  replace hbel := hbel.trans (hb1.mono hbel.size)
  clear hb1 hu' hv' HU HA3 HP HQ
  obtain ⟨n, hn⟩ : ∃ n, cutW x0 = n := ⟨_, rfl⟩
  rw [hn] at hH hn32 Hr
  clear hn
  have H32 := Lib.hid hn32
  clear hn32
  obtain ⟨g, t, rfl, hg, hB, hT, hn1, hn2⟩ := hH
  clear hT
  cases r with
  | none =>
    have HV2 : Hid (BSl w4 w4.heap.size u [] ∧ BSl w4 w4.heap.size v [] ∧ BSl w4 w4.heap.size u' [] ∧ BSl w4 w4.heap.size v' []) := HV
    clear HV hB
    simp only [Option.isSome_none]
    go_upto_region 10 with (first
      | (refine wpList_unguard rfl ?_; refine wpList_str rfl (.tmp 62) rfl u [] _ rfl HV2.out.1 ?_)
      | (refine wpList_unguard rfl ?_; refine wpList_str rfl (.tmp 64) rfl u' [] _ rfl HV2.out.2.2.1 ?_)
      | (refine wpList_unguard rfl ?_; refine wpList_neStrA rfl (.tmp 63) (.tmp 65) _ rfl [] [] rfl rfl true (decide_eq_true rfl) ?_)
      | (refine wpList_unguard rfl ?_; refine wpList_str rfl (.tmp 69) rfl v [] _ rfl HV2.out.2.1 ?_)
      | (refine wpList_unguard rfl ?_; refine wpList_str rfl (.tmp 71) rfl v' [] _ rfl HV2.out.2.2.2 ?_)
      | (refine wpList_unguard rfl ?_; refine wpList_neStrA rfl (.tmp 70) (.tmp 72) _ rfl [] [] rfl rfl true (decide_eq_true rfl) ?_))
    refine wp_region_mixP (.plain 0 <| .plain 1 <| .plain 2 <| .plain 3 <| .plain 4 <| .plain 5 <| .plain 6 <| .plain 7 <| .plain 8 <| .plain 9 <| .plain 11 <| .plain 12 <| .plain 13 <| .plain 14 <| .plain 16 <| .plain 18 <| .plain 19 <| .plain 20 <| .plain 21 <| .only 10 <| .only 15 <| .only 17 <| .only 22 <| .plain 23 <| .plain 24 <| .plain 25 <| .plain 26 <| .only 27 <| .plain 28 <| .plain 29 <| .done) (by kernel_rfl) (by kernel_rfl) (fun W1 hb1 => ?_)
    replace hbel := hbel.trans (hb1.mono hbel.size)
    clear hb1 HV2
    iterate 3 (refine mix_plain rfl ?_; go_big_quiet_step (fail); refine wpQuiet_nil ?_)
    try simp only [Bool.not_false]
    iterate 16 (refine mix_skip rfl rfl ?_; simp only [Act.put, List.setIfInBounds_toArray, List.set_cons_zero, List.set_cons_succ])
    iterate 4 (refine mix_only rfl (fun K hK => ?_); go_wp2_with fail; refine hK _ _ (Below.refl _ _) ?_; clear hK K)
    iterate 2 (refine mix_skip rfl rfl ?_; simp only [Act.put, List.setIfInBounds_toArray, List.set_cons_zero, List.set_cons_succ])
    iterate 2 (refine mix_plain rfl ?_; go_big_quiet_step (fail); refine wpQuiet_nil ?_)
    refine mix_only rfl (fun K hK => ?_)
    refine wpList_unguard rfl ?_
    go_wp2_with fail
    refine (known9_any W1 (hG.next hbel)).mono ?_
    rintro e w9 ⟨rfl, hb1⟩
    go_wp2_with fail
    refine hK _ _ hb1 ?_
    clear hK K
    iterate 2 (refine mix_plain rfl ?_; go_big_quiet_step (fail); refine wpQuiet_nil ?_)
    refine mix_done ?_
    go_wp2_with fail
    go_ret
    exact ⟨rfl, hbel.trans (hb1.mono hbel.size)⟩
  | some xy =>
    obtain ⟨tx, ty⟩ := xy
    have HV2 : Hid (BSl w4 w4.heap.size u tx ∧ BSl w4 w4.heap.size v ty ∧ BSl w4 w4.heap.size u' tx ∧ BSl w4 w4.heap.size v' ty) := HV
    have hlen := collS_texts n a b I S P Q tx ty H32.out Hab.out.2.2.1 Hab.out.2.2.2 Hr.out
    have hsound := collS_sound n a b I S P Q tx ty Hr.out
    have HS := Lib.hid (And.intro hlen hsound)
    clear HV hlen hsound Hr
    simp only [Option.isSome_some]
    go_upto_region 10 with (first
      | (refine wpList_unguard rfl ?_; refine wpList_str rfl (.tmp 62) rfl u tx _ rfl HV2.out.1 ?_)
      | (refine wpList_unguard rfl ?_; refine wpList_str rfl (.tmp 64) rfl u' tx _ rfl HV2.out.2.2.1 ?_)
      | (refine wpList_unguard rfl ?_; refine wpList_neStrA rfl (.tmp 63) (.tmp 65) _ rfl tx tx rfl rfl true (decide_eq_true rfl) ?_)
      | (refine wpList_unguard rfl ?_; refine wpList_str rfl (.tmp 69) rfl v ty _ rfl HV2.out.2.1 ?_)
      | (refine wpList_unguard rfl ?_; refine wpList_str rfl (.tmp 71) rfl v' ty _ rfl HV2.out.2.2.2 ?_)
      | (refine wpList_unguard rfl ?_; refine wpList_neStrA rfl (.tmp 70) (.tmp 72) _ rfl ty ty rfl rfl true (decide_eq_true rfl) ?_))
    have HW := Lib.hid (And.intro HV2.out.1 HV2.out.2.1)
    clear HV2
    refine wp_region_mixP (.plain 0 <| .plain 1 <| .plain 2 <| .plain 3 <| .plain 4 <| .plain 5 <| .plain 6 <| .plain 7 <| .plain 8 <| .plain 9 <| .plain 11 <| .plain 12 <| .plain 13 <| .plain 14 <| .plain 16 <| .plain 18 <| .plain 19 <| .plain 20 <| .plain 21 <| .only 10 <| .only 15 <| .only 17 <| .only 22 <| .plain 23 <| .plain 24 <| .plain 25 <| .plain 26 <| .only 27 <| .plain 28 <| .plain 29 <| .done) (by kernel_rfl) (by kernel_rfl) (fun W1 hb1 => ?_)
    have c1' : W1.cell? ⟨g, 1, none⟩ = some (.int .i64 n) := by have := (hB.below hb1 hg).cell 1; simpa using this
    have hg1 : g < W1.heap.size := Nat.lt_of_lt_of_le hg hb1.size
    have HU := Lib.hid (And.intro (HW.out.1.next hb1) (HW.out.2.next hb1))
    replace hbel := hbel.trans (hb1.mono hbel.size)
    clear hb1 HW hB hg
    iterate 8 (refine mix_plain rfl ?_; (first
      | (refine wpQuiet_str rfl (.tmp 78) rfl u tx W1.heap.size rfl (fun _ ⟨e, he⟩ => by rw [he]; exact HU.out.1.below (plus_below W1 e)) ?_; simp only [Act.put, List.setIfInBounds_toArray, List.set_cons_zero, List.set_cons_succ])
      | (refine wpQuiet_str rfl (.tmp 80) rfl v ty W1.heap.size rfl (fun _ ⟨e, he⟩ => by rw [he]; exact HU.out.2.below (plus_below W1 e)) ?_; simp only [Act.put, List.setIfInBounds_toArray, List.set_cons_zero, List.set_cons_succ])
      | (refine wpQuiet_neStr rfl (.tmp 79) (.tmp 81) _ rfl tx ty rfl rfl false (decide_eq_false HS.out.2.2) ?_; simp only [Act.put, List.setIfInBounds_toArray, List.set_cons_zero, List.set_cons_succ])
      | go_big_quiet_step (fail)); refine wpQuiet_nil ?_)
    try simp only [Bool.not_false]
    iterate 11 (refine mix_plain rfl ?_; (first
      | (refine wpQuiet_nilCheck rfl (.tmp 86) rfl _ rfl ?_; simp only [Act.put, List.setIfInBounds_toArray, List.set_cons_zero, List.set_cons_succ])
      | (refine wpQuiet_nilCheck rfl (.tmp 93) rfl _ rfl ?_; simp only [Act.put, List.setIfInBounds_toArray, List.set_cons_zero, List.set_cons_succ])
      | (refine wpQuiet_load1 rfl _ (.tmp 88) rfl _ rfl _ Tryd.underlying3 rfl _ (fun _ ⟨e, he⟩ => by rw [he, plus_cell _ _ _ hg1]; exact c1') ?_; simp only [Act.put, List.setIfInBounds_toArray, List.set_cons_zero, List.set_cons_succ])
      | (refine wpQuiet_load1 rfl _ (.tmp 95) rfl _ rfl _ Tryd.underlying3 rfl _ (fun _ ⟨e, he⟩ => by rw [he, plus_cell _ _ _ hg1]; exact c1') ?_; simp only [Act.put, List.setIfInBounds_toArray, List.set_cons_zero, List.set_cons_succ])
      | go_big_quiet_step (fail)); refine wpQuiet_nil ?_)
    clear c1' hg1
    refine mix_only rfl (fun K hK => ?_)
    refine wpList_unguard rfl ?_
    go_wp2_with fail
    refine (sum_b u tx W1 HU.out.1 (by have := HS.out.1.1; omega) (hG.next hbel)).mono ?_
    rintro e W2 ⟨rfl, hbx⟩
    go_wp2_with fail
    refine hK _ _ hbx ?_
    clear hK K
    have HU2 := Lib.hid (HU.out.2.next hbx)
    replace hbel := hbel.trans (hbx.mono hbel.size)
    clear hbx
    refine mix_only rfl (fun K hK => ?_)
    refine wpList_unguard rfl ?_
    go_wp2_with fail
    refine (cut_any (sha tx) (sha_length tx) (n : Int) W2).mono ?_
    rintro e W3 ⟨rfl, hbx⟩
    go_wp2_with fail
    refine hK _ _ hbx ?_
    clear hK K
    have HU3 := Lib.hid (HU2.out.next hbx)
    replace hbel := hbel.trans (hbx.mono hbel.size)
    clear hbx
    refine mix_only rfl (fun K hK => ?_)
    refine wpList_unguard rfl ?_
    go_wp2_with fail
    refine (sum_b v ty W3 HU3.out (by have := HS.out.1.2; omega) (hG.next hbel)).mono ?_
    rintro e W4 ⟨rfl, hbx⟩
    go_wp2_with fail
    refine hK _ _ hbx ?_
    clear hK K
    replace hbel := hbel.trans (hbx.mono hbel.size)
    clear hbx
    refine mix_only rfl (fun K hK => ?_)
    refine wpList_unguard rfl ?_
    go_wp2_with fail
    refine (cut_any (sha ty) (sha_length ty) (n : Int) W4).mono ?_
    rintro e W5 ⟨rfl, hbx⟩
    go_wp2_with fail
    refine hK _ _ hbx ?_
    clear hK K
    replace hbel := hbel.trans (hbx.mono hbel.size)
    clear hbx
    have HE : Hid (decide (cutL (sha tx) (n : Int) = cutL (sha ty) (n : Int)) = true ∧ (cutL (sha tx) (n : Int)).length = 32 ∧ (cutL (sha ty) (n : Int)).length = 32) := Lib.hid ⟨decide_eq_true HS.out.2.1, cutL_length _ _ (sha_length _), cutL_length _ _ (sha_length _)⟩
    generalize cutL (sha tx) (n : Int) = d1 at HE ⊢
    generalize cutL (sha ty) (n : Int) = d2 at HE ⊢
    refine mix_plain rfl ?_
    refine wpQuiet_eqD rfl (.tmp 90) (.tmp 97) _ rfl d1 d2 rfl rfl HE.out.2.1 HE.out.2.2 true HE.out.1 ?_
    simp only [Act.put, List.setIfInBounds_toArray, List.set_cons_zero, List.set_cons_succ]
    refine wpQuiet_nil ?_
    iterate 3 (refine mix_plain rfl ?_; go_big_quiet_step (fail); refine wpQuiet_nil ?_)
    refine mix_only rfl (fun K hK => ?_)
    refine wpList_unguard rfl ?_
    go_wp2_with fail
    refine (known9_any _ (hG.next hbel)).mono ?_
    rintro e w9 ⟨rfl, hb1⟩
    go_wp2_with fail
    refine hK _ _ hb1 ?_
    clear hK K
    iterate 2 (refine mix_plain rfl ?_; go_big_quiet_step (fail); refine wpQuiet_nil ?_)
    refine mix_done ?_
    go_wp2_with fail
    go_ret
    exact ⟨rfl, hbel.trans (hb1.mono hbel.size)⟩
end Go.Proofs.YtppglfgggfkcmaaDoor
