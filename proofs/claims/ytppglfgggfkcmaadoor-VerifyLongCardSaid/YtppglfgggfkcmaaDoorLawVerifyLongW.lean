/- The walk of the law VerifyLong. No condition. -/
import Derived.Test.YtppglfgggfkcmaaDoorP18
import Derived.Test.YtppglfgggfkcmaaDoorP21
import Derived.Test.YtppglfgggfkcmaaDoorP23
import Derived.Test.YtppglfgggfkcmaaDoorP19
namespace Go.Proofs.YtppglfgggfkcmaaDoor
open Go Go.RowKit
attribute [local irreducible] mixW
attribute [local go_sem] n8_lo n8_hi n64_lo n64_hi n32_lo n32_hi
set_option maxRecDepth 100000 in
theorem way_out (x : Int) (v pv : Value) (i s : Nat) (hi64 : i ≤ 18446744073709551615) (hs64 : s ≤ 18446744073709551615) (hsi : s ≤ i) (w : World) :
    Calls Tryd.prog 39 #[.int .i64 x, v, .int .u64 i, .int .u64 s, pv] w fun e w' => e = .returned (.tuple #[.slice none 0 0, .bool false]) ∧ w = w' := by
  have hsi' : (s : Int) ≤ (i : Int) := by omega
  go_enter Tryd.func39, Tryd.ntmps39
  go_wp2_with fail
  go_step3
  go_wp2_with fail
  try rw [Exit.noGoto_ret]
  go_ret2
  exact ⟨rfl, rfl⟩
set_option maxRecDepth 100000 in
theorem vLeaf_out (x : Int) (v pv : Value) (i s : Nat) (hi64 : i ≤ 18446744073709551615) (hs64 : s ≤ 18446744073709551615) (hsi : s ≤ i) (root : List UInt8) (w : World) :
    Calls Tryd.prog 14 #[.int .i64 x, v, .int .u64 i, .int .u64 s, pv, .agg (dat root)] w fun e w' => e = .returned (.bool false) ∧ Below w.heap.size w w' := by
  have hb0 := below_new1 w (Obj.cells (dat root) 26)
  go_enter Tryd.func14, Tryd.ntmps14
  go_wp2_with fail
  refine calls_at (fun W => Below w.heap.size w W) hb0 ?_
  clear hb0
  rintro W hbel
  refine (way_out x v pv i s hi64 hs64 hsi W).mono ?_
  rintro e _ ⟨rfl, rfl⟩
  go_wp2_with fail
  refine wp_region_mixP (.plain 0 <| .plain 1 <| .plain 2 <| .plain 3 <| .plain 4 <| .plain 5 <| .plain 6 <| .plain 7 <| .plain 8 <| .plain 9 <| .plain 10 <| .only 11 <| .only 12 <| .plain 13 <| .plain 14 <| .plain 15 <| .done) (by kernel_rfl) (by kernel_rfl) (fun W2 hb2 => ?_)
  replace hbel := hbel.trans (hb2.mono hbel.size)
  clear hb2
  iterate 2 (refine mix_plain rfl ?_; go_big_quiet_step (fail); refine wpQuiet_nil ?_)
  iterate 9 (refine mix_skip rfl rfl ?_; simp only [Act.put, List.setIfInBounds_toArray, List.set_cons_zero, List.set_cons_succ])
  iterate 2 (refine mix_only rfl (fun K hK => ?_); go_wp2_with fail; refine hK _ _ (Below.refl _ _) ?_; clear hK K)
  refine mix_skip rfl rfl ?_
  simp only [Act.put, List.setIfInBounds_toArray, List.set_cons_zero, List.set_cons_succ]
  iterate 2 (refine mix_plain rfl ?_; go_big_quiet_step (fail); refine wpQuiet_nil ?_)
  refine mix_done ?_
  go_wp2
  go_ret
  exact ⟨rfl, hbel⟩
theorem wayO_no (n : Nat) (b : List UInt8) (i s : Nat) (ps : List (List UInt8)) (his : i < s) (h : ps.length ≠ stepsF (s - 1) i (s - 1)) : wayO n b i s ps = none := by
  unfold wayO
  rw [if_neg (by omega)]
  have := wayS_isSome n ps i (s - 1) [0 :: b]
  rw [decide_eq_false h] at this
  cases hw : wayS n ps i (s - 1) [0 :: b] with
  | none => rfl
  | some X => rw [hw] at this; cases this
theorem wayO_yes (n : Nat) (b : List UInt8) (i s : Nat) (ps : List (List UInt8)) (his : i < s) (h : ps.length = stepsF (s - 1) i (s - 1)) : ∃ X, wayO n b i s ps = some X := by
  unfold wayO
  rw [if_neg (by omega)]
  exact wayS_some n (s - 1) ps i (s - 1) _ (Nat.le_refl _) h
theorem leafS_no (n : Nat) (b : List UInt8) (i s : Nat) (ps : List (List UInt8)) (root : List UInt8) (his : i < s) (h : ps.length ≠ stepsF (s - 1) i (s - 1)) : leafS n b i s ps root = false := by
  rw [wayO_leaf, wayO_no n b i s ps his h]
theorem leafS_sha (n : Nat) (b : List UInt8) (i s : Nat) (ps X : List (List UInt8)) (k : Nat) (h : wayO n b i s ps = some X) (hk : k + 1 = X.length) : leafS n b i s ps (sha (X.getD k [])) = true := by
  rw [wayO_leaf, h]
  show decide (lastH n X = cutL (sha (X.getD k [])) n) = true
  rw [← lastH_at n X k hk]
  exact decide_eq_true rfl
theorem ownD_empty (V : World) : (V.alloc (.cells #[] 26)).ownsRow V.heap.size 26 32 (.slice (some ⟨V.heap.size, 0, none⟩) 0 0) ([] : List (List UInt8)).length (dcells []) :=
  ⟨rfl, .inr ⟨V.heap.size, 0, #[], rfl, Nat.le_refl _, heap_alloc_new V _, Nat.le_refl _, by decide, rfl, rfl⟩⟩
theorem kw32l : cutW 32 = 32 := by decide
set_option maxRecDepth 100000 in
theorem built_0 (w : World) : (Instr.build 26 #[]).run Tryd.prog w = .ok (.agg (dat zeroD)) w := by rw [dat_zeroD]; kernel_rfl
theorem wpList_build0 {w : World} {ops : Array Oper} {rest : List Oper} {o : Oper} {a : Act} {Q : Exit → Act → World → Prop} (hgd : o.guard = none) (ho : o.op = .build 26 #[])
    (h : wpList Tryd.prog ops Q rest (a.put o.dst (.agg (dat zeroD))) w) : wpList Tryd.prog ops Q (o :: rest) a w :=
  wpList_plain hgd fun K hK => by
    unfold Oper.wp execOp
    simp only [ho, List.map_toArray, List.map_nil, Sem.run_bind, built_0, Result.andThen_ok, Sem.run_pure]
    exact hK _ _ h
set_option maxHeartbeats 4000000 in
set_option maxRecDepth 100000 in
theorem verifyLong_walk (w : World) (hG : Glob w) (ix sz : UInt64) (Ab : Option Addr) (capb : Nat) (b : List UInt8) (hb : BSl w w.heap.size (.slice Ab b.length capb) b) (hbc : capb ≤ 140737488351232)
    (Ap : Option Addr) (capp : Nat) (P : List (List UInt8)) (hpl : ∀ d ∈ P, d.length = 32) (hp : DX w (.slice Ap P.length capp) P) (_hpc : capp * 32 ≤ 140737488351232) (more : Int) (hmore : -9223372036854775808 ≤ more ∧ more ≤ 9223372036854775807) :
    Calls Tryd.prog 5 #[.int .u64 (n64 ix), .int .u64 (n64 sz), .slice Ab b.length capb, .slice Ap P.length capp, .int .i64 more] w fun e w' => e = .returned (.bool true) ∧ Below w.heap.size w w' := by
  have hix := ix.toNat_lt
  have hsz := sz.toNat_lt
  rw [show n64 ix = (ix.toNat : Int) from rfl, show n64 sz = (sz.toNat : Int) from rfl]
  generalize ix.toNat = I0 at hix ⊢
  generalize sz.toNat = S at hsz ⊢
  have hI064 : I0 ≤ 18446744073709551615 := by omega
  have hS64 : S ≤ 18446744073709551615 := by omega
  clear hix hsz
  have hbl : b.length ≤ 140737488351232 := by obtain ⟨_, _, e, h, _⟩ := hb; injection e with _ _ e3; omega
  have hP63 : P.length ≤ 9223372036854775807 := by obtain ⟨_, _, e, h, h2, _⟩ := hp; omega
  have HB := Lib.hid (And.intro hb (And.intro hbl (And.intro hpl hp)))
  clear hb hbl hpl hp
  go_enter Tryd.func5, Tryd.ntmps5
  by_cases hS0 : S = 0
  · subst hS0
    go_wp2_with (first
      | (refine wpList_build0 rfl rfl ?_))
    refine (vLeaf_out 32 _ _ I0 0 hI064 (by omega) (Nat.zero_le _) zeroD w).mono ?_
    rintro e w1 ⟨rfl, hb1⟩
    go_wp2_with fail
    refine (known9_any w1 (hG.next hb1)).mono ?_
    rintro e w9 ⟨rfl, hb9⟩
    go_wp2_with fail
    try rw [Exit.noGoto_ret]
    go_ret
    exact ⟨rfl, hb1.trans (hb9.mono hb1.size)⟩
  have eS0 : ((S : Int) == 0) = false := by rw [beq_eq_false_iff_ne]; omega
  have hSp : (0 : Int) < (S : Int) := by omega
  obtain ⟨I, hI⟩ : ∃ i : Nat, (I0 : Int) % (S : Int) = (i : Int) := ⟨((I0 : Int) % (S : Int)).toNat, (Int.toNat_of_nonneg (Int.emod_nonneg _ (by omega))).symm⟩
  have hIS : I < S := by have := Int.emod_lt_of_pos (I0 : Int) hSp; omega
  have hI64 : I ≤ 18446744073709551615 := by omega
  obtain ⟨N0, hN0⟩ : ∃ N, stepsF (S - 1) I (S - 1) = N := ⟨_, rfl⟩
  have h264 : (2 : Nat) ^ 64 = 18446744073709551616 := by decide
  have hN64 : N0 ≤ 64 := by
    rw [← hN0]
    exact stepsF_le _ 64 _ _ (by omega)
  clear h264
  have HN := Lib.hid hN0
  clear hN0
  go_wp2_with fail
  rw [hI]
  refine (hasher9_any 32 w).mono ?_
  rintro e w1 ⟨h, rfl, hH, hbel⟩
  rw [kw32l] at hH
  have HB1 := Lib.hid (And.intro (HB.out.1.next hbel) (HB.out.2.2.2.next hbel))
  have HH := Lib.hid (And.intro hH hbel)
  clear hH hbel hI
  go_wp2_with fail
  go_loopg [12, 13] 67 (fun gk nv kv wr => ∃ (k : Nat) (nn : Int), k + gk = 67 ∧ kv = .int .i64 k ∧ nv = .int .i64 nn ∧ Aside (nn = if N0 < k then (N0 : Int) else -1) ∧ Below w1.heap.size w1 wr)
  case atStart => exact ⟨0, -1, rfl, rfl, rfl, by rw [if_neg (by omega)]; exact rfl, Below.refl _ _⟩
  case round =>
    obtain ⟨k, nn, hgk, rfl, rfl, hA, hbel⟩ := hrel
    have HA := Lib.hid hA.out
    clear hA
    by_cases hk : k < 67
    case neg =>
      have hnn : nn = (N0 : Int) := by rw [HA.out, if_pos (by omega)]
      subst hnn
      have hk' : ¬ (k : Int) ≤ 66 := by omega
      have h64 : (N0 : Int) ≤ 64 := by omega
      have h0 : (0 : Int) ≤ (N0 : Int) := by omega
      go_wp2_with fail
      refine (known9_any wr (hG.next (HH.out.2.trans (hbel.mono HH.out.2.size)))).mono ?_
      rintro e w9 ⟨rfl, hb9⟩
      go_wp2_with fail
      try rw [Exit.noGoto_ret]
      go_ret
      exact ⟨rfl, HH.out.2.trans ((hbel.trans (hb9.mono hbel.size)).mono HH.out.2.size)⟩
    have hk' : (k : Int) ≤ 66 := by omega
    obtain ⟨wo, hwo⟩ : ∃ wo, wo = wr := ⟨_, rfl⟩
    subst hwo
    have hE0 := Blk.new wo 26 (dcells (List.replicate k zeroD)).toArray
    have hbn := below_new1 wo (Obj.cells (dcells (List.replicate k zeroD)).toArray 26)
    go_wp2_with (first
      | (refine wpList_makeD rfl (.tmp 40) (.tmp 40) rfl .i64 .i64 k rfl rfl (by omega) ?_; refine wpl_at (fun V => Blk V wo.heap.size 26 (dcells (List.replicate k zeroD)).toArray ∧ Below wo.heap.size wo V) ⟨hE0, hbn⟩ ?_; clear hE0 hbn; rintro V ⟨hE, hbv⟩))
    obtain ⟨g, hg⟩ : ∃ g, g = wo.heap.size := ⟨_, rfl⟩
    rw [← hg] at hE ⊢
    have Hg := Lib.hid (Nat.le_of_eq hg.symm)
    clear hg
    go_loopw [15] (fun iv wr => ∃ (i : Nat) (es : List (List UInt8)), i ≤ k ∧ i ≤ P.length ∧ iv = .int .i64 i ∧ es.length = k ∧ (∀ d ∈ es, d.length = 32) ∧ Blk wr g 26 (dcells es).toArray ∧ Below wo.heap.size wo wr) (fun iv _ => k - (intOf iv).toNat)
    case atStart => exact ⟨0, List.replicate k zeroD, Nat.zero_le _, Nat.zero_le _, rfl, List.length_replicate .., (fun d hd => by rw [List.eq_of_mem_replicate hd]; exact zeroD_len), hE, hbv⟩
    clear hE hbv
    case round =>
      obtain ⟨i, es, hik, hiP, rfl, hel, hes, hE, hbv⟩ := hrel
      have HE := Lib.hid (And.intro hel hes)
      clear hel hes
      by_cases hc : i < k ∧ i < P.length
      case pos =>
        have hc1 : (i : Int) < (k : Int) := by omega
        have hc2 : (i : Int) < (P.length : Int) := by omega
        have hbw := hbel.trans (hbv.mono hbel.size)
        obtain ⟨A', c', e1, _, _, hh1⟩ := HB1.out.2.next hbw
        injection e1 with e1 _ e1c
        subst e1c
        obtain ⟨gp, op, e3, hgp, hrp⟩ := hh1 i hc.2
        rw [e3] at e1
        subst e1
        clear hh1 e3
        have hdl : (P.getD i []).length = 32 := HB.out.2.2.1 _ (by rw [List.getD_eq_getElem?_getD, List.getElem?_eq_getElem hc.2]; exact List.getElem_mem _)
        generalize P.getD i [] = d at hrp hdl
        have Hd := Lib.hid hdl
        clear hdl hbw
        go_wp2_with (first
          | (refine wpList_loadMid rfl 26 (.tmp 57) rfl gp (op + i * 32) rfl (dat d) _ hrp Tryd.underlying26 rfl (by rw [dat_size]; kernel_rfl) ?_)
          | (refine wpList_storeD rfl rfl (.tmp 59) (.tmp 58) rfl g i rfl d rfl es (by rw [HE.out.1]; exact hc.1) hE ?_; intro V3 hE3 hon3; have hb3 := below_only hbv hon3 Hg.out hbv.size))
        go_wp2_with fail
        go_roundw
        case rel => exact ⟨i + 1, es.set i d, by omega, by omega, by go_num, by rw [List.length_set]; exact HE.out.1, (fun d' hd' => (List.mem_or_eq_of_mem_set hd').elim (HE.out.2 d') (fun e => by rw [e]; exact Hd.out)), hE3, hb3⟩
        case measure => simp [intOf]; omega
      case neg =>
        have hdx : DX wr (.slice (some ⟨g, 0, none⟩) k k) es := by
          have := DX.of_blk hE (by rw [HE.out.1]; omega)
          rwa [HE.out.1] at this
        have hbw := hbel.trans (hbv.mono hbel.size)
        have HX := Lib.hid (And.intro hdx hbw)
        clear hdx hbw hE hbv
        have hpick : (¬ (i : Int) < (k : Int)) ∨ ((i : Int) < (k : Int) ∧ ¬ (i : Int) < (P.length : Int)) := by omega
        clear hc
        rcases hpick with hc1 | ⟨hc1, hc2⟩
        all_goals
          go_wp2_with fail
          refine (rway_any _ 32 _ b I S hI64 hS64 _ es HE.out.2 (by rw [HE.out.1]; omega) wr (HH.out.1.nxt HX.out.2) (HB1.out.1.next HX.out.2) HB.out.2.1 HX.out.1).mono ?_
          rintro e V1 ⟨⟨u, rfl, hX⟩, hb1⟩
          have HXb := Lib.hid (And.intro (HX.out.1.next hb1) (HX.out.2.trans (hb1.mono HX.out.2.size)))
          clear hb1
          by_cases hkN : k = N0
          case neg =>
            have hno := wayO_no 32 b I S es hIS (by rw [HE.out.1, HN.out]; exact hkN)
            rw [hno] at hX ⊢
            clear hX hno
            simp only [Option.isSome_none]
            go_wp2_with fail
            go_roundg (gk - 1)
            case measure => omega
            case rel =>
              refine ⟨k + 1, nn, by omega, by go_num, rfl, ?_, HXb.out.2⟩
              show nn = _
              rw [HA.out]
              by_cases h1 : N0 < k
              · rw [if_pos h1, if_pos (by omega)]
              · rw [if_neg h1, if_neg (by omega)]
          case pos =>
            obtain ⟨X, hXX⟩ := wayO_yes 32 b I S es hIS (by rw [HE.out.1, HN.out]; exact hkN)
            have hlen1 := wayO_len _ _ _ _ _ _ hXX
            have hXl := wayO_texts 32 b I S es X (by decide) HB.out.2.1 hXX
            have hX1 := hX X hXX
            have hsomes : (wayO 32 b I S es).isSome = true := by rw [hXX]; rfl
            rw [hsomes]
            have hnn : nn = -1 := by rw [HA.out, if_neg (by omega)]
            subst hnn
            have HkN := Lib.hid hkN
            clear hkN
            obtain ⟨A1, c1, vs1, rfl, x2, x3, x4, x5, x6⟩ := hX1
            have hX2 : SSl V1 V1.heap.size (.slice A1 X.length c1) X := ⟨A1, c1, vs1, rfl, x2, x3, x4, x5, x6⟩
            clear x2 x3 x4 x5 x6 vs1 hX hsomes
            obtain ⟨M, hM⟩ : ∃ M, X.length = M := ⟨_, rfl⟩
            rw [hM] at hX2 hlen1 ⊢
            obtain ⟨K1, hK⟩ : ∃ K, K + 1 = M := ⟨M - 1, by omega⟩
            have hK1 : (M : Int) - 1 = (K1 : Int) := by omega
            have hK2 : (K1 : Int) < (M : Int) := by omega
            have hM6 : M ≤ 1000001 := by have := HE.out.1; omega
            have hKX : K1 < X.length := by omega
            obtain ⟨xb, xo, xu, exA, hxb, hxc, hxu⟩ := hX2.cellAt K1 hKX
            subst exA
            have hlsha := leafS_sha 32 b I S es X K1 hXX (by omega)
            have hxlen : (X.getD K1 []).length ≤ 140737488351233 := hXl _ (by rw [List.getD_eq_getElem?_getD, List.getElem?_eq_getElem hKX]; exact List.getElem_mem _)
            clear hlen1 hM hK hKX hXl hX2 hXX
            generalize X.getD K1 [] = tX at hxu hlsha hxlen
            have HL := Lib.hid (And.intro hlsha (And.intro hxlen hxu))
            clear hlsha hxlen hxu
            obtain ⟨gh, th, hhe, hgh, hBh, hT, hn1, hn2⟩ := HH.out.1.nxt HXb.out.2
            subst hhe
            obtain ⟨gt, hte, hgt, hTb⟩ := hT
            subst hte
            have Htb : Hid (Tbl V1 V1.heap.size (.pointer (some ⟨gt, 0, none⟩))) := Lib.hid ⟨gt, rfl, hgt, hTb⟩
            have hc0 : V1.cell? ⟨gh, 0, none⟩ = some (.pointer (some ⟨gt, 0, none⟩)) := by have := hBh.cell 0; simpa using this
            clear hTb hBh hgt hn1 hn2
            go_upto_region 19 with fail
            go_cut [18] (fun p wx => ∃ G, p = .pointer (some ⟨G, 0, none⟩) ∧ Blk wx G 26 (dat (sha tX)) ∧ Below V1.heap.size V1 wx)
            case first =>
              refine wp_region_mixP (.plain 0 <| .plain 1 <| .plain 2 <| .plain 3 <| .plain 4 <| .plain 5 <| .plain 6 <| .plain 7 <| .plain 8 <| .plain 9 <| .two 10 11 (.only 11 <| .only 12 <| .done) (.only 10 <| .only 12 <| .done)) (by kernel_rfl) (by kernel_rfl) (fun W2 hb1 => ?_)
              have hd0 := (hb1.cell (p := ⟨gh, 0, none⟩) hgh).trans hc0
              have hd2 := (hb1.cell (p := ⟨xb, xo + K1, none⟩) hxb).trans hxc
              have hgG1 : gh < W2.heap.size := Nat.lt_of_lt_of_le hgh hb1.size
              have hgl1 : xb < W2.heap.size := Nat.lt_of_lt_of_le hxb hb1.size
              clear hc0 hxc
              iterate 10 (refine mix_plain rfl ?_; (first
                | (refine wpQuiet_nilCheck rfl (.tmp 74) rfl _ rfl ?_; simp only [Act.put, List.setIfInBounds_toArray, List.set_cons_zero, List.set_cons_succ])
                | (refine wpQuiet_load1 rfl _ (.tmp 76) rfl _ rfl _ Tryd.underlying47 rfl _ (fun _ ⟨e, he⟩ => by rw [he, plus_cell _ _ _ hgG1]; exact hd0) ?_; simp only [Act.put, List.setIfInBounds_toArray, List.set_cons_zero, List.set_cons_succ])
                | (refine wpQuiet_load1 rfl _ (.tmp 82) rfl _ rfl _ Tryd.underlying22 rfl _ (fun _ ⟨e, he⟩ => by rw [he, plus_cell _ _ _ hgl1]; exact hd2) ?_; simp only [Act.put, List.setIfInBounds_toArray, List.set_cons_zero, List.set_cons_succ])
                | go_big_quiet_step (fail)); refine wpQuiet_nil ?_)
              clear hd0 hd2 hgG1 hgl1
              have hbw := Below.refl W2.heap.size W2
              refine mix_two_in rfl rfl (fun K hK => ?_) (fun K hK => ?_)
              · go_wp2_with fail
                refine (rsum_any _ _ tX W2 (Htb.out.nxt (hb1.trans (hbw.mono hb1.size))) (HL.out.2.2.next (hb1.trans (hbw.mono hb1.size))) (by have := HL.out.2.1; omega)).mono ?_
                rintro e W3 ⟨rfl, hb2⟩
                go_wp2_with fail
                refine hK _ _ (below_plus (hbw.trans (hb2.mono hbw.size))) ?_
                clear hK K
                replace hbw := hbw.trans (hb2.mono hbw.size)
                clear hb2
                refine mix_only_in rfl (fun K hK => ?_)
                go_wp2_with fail
                have hbw3 := hbw.trans ((below_new1 W3 (Obj.cells (arr 32 fun _ => 0) 26)).mono hbw.size)
                refine hK _ _ (below_plus hbw3) ?_
                clear hK K
                refine mix_atC (fun W => Blk W W3.heap.size 26 (arr 32 fun _ => 0) ∧ W2.heap.size ≤ W3.heap.size ∧ Below W2.heap.size W2 W) ⟨Blk.new W3 26 (arr 32 fun _ => 0), hbw.size, hbw3⟩ ?_
                clear hbw hbw3
                obtain ⟨gD, hgD⟩ : ∃ g, W3.heap.size = g := ⟨_, rfl⟩
                rw [hgD]
                clear hgD
                rintro W3a ⟨hD, hGD, hbw⟩
                refine mix_only_in rfl (fun K hK => ?_)
                refine wpList_storeDat rfl rfl 26 (.tmp 18) (.tmp 84) rfl gD rfl (sha tX) _ rfl _ hD (by kernel_rfl) ?_
                intro W9 hD9 hon9
                have hbw9 := below_only hbw hon9 hGD hbw.size
                go_wp2_with fail
                refine hK _ _ (below_plus hbw9) ?_
                clear hK K
                refine mix_done ?_
                go_wp2_with fail
                go_meet
                exact ⟨gD, rfl, hD9, hb1.trans (hbw9.mono hb1.size)⟩
              · go_wp2_with fail
                have hbw3 := hbw.trans ((below_new1 W2 (Obj.cells (arr 32 fun _ => 0) 26)).mono hbw.size)
                refine hK _ _ (below_plus hbw3) ?_
                clear hK K
                refine mix_atC (fun W => Blk W W2.heap.size 26 (arr 32 fun _ => 0) ∧ W2.heap.size ≤ W2.heap.size ∧ Below W2.heap.size W2 W) ⟨Blk.new W2 26 (arr 32 fun _ => 0), hbw.size, hbw3⟩ ?_
                clear hbw hbw3
                obtain ⟨gD, hgD⟩ : ∃ g, W2.heap.size = g := ⟨_, rfl⟩
                rw [hgD]
                rintro W2a ⟨hD, hGD, hbw⟩
                rw [← hgD] at hbw
                replace hGD : W2.heap.size ≤ gD := Nat.le_of_eq hgD
                clear hgD
                refine mix_only_in rfl (fun K hK => ?_)
                go_wp2_with fail
                refine (rsum_any _ _ tX W2a (Htb.out.nxt (hb1.trans (hbw.mono hb1.size))) (HL.out.2.2.next (hb1.trans (hbw.mono hb1.size))) (by have := HL.out.2.1; omega)).mono ?_
                rintro e W3 ⟨rfl, hb2⟩
                go_wp2_with fail
                refine hK _ _ (below_plus (hbw.trans (hb2.mono hbw.size))) ?_
                clear hK K
                replace hD := hD.below hb2 hD.lt
                replace hbw := hbw.trans (hb2.mono hbw.size)
                clear hb2
                refine mix_only_in rfl (fun K hK => ?_)
                refine wpList_storeDat rfl rfl 26 (.tmp 18) (.tmp 84) rfl gD rfl (sha tX) _ rfl _ hD (by kernel_rfl) ?_
                intro W9 hD9 hon9
                have hbw9 := below_only hbw hon9 hGD hbw.size
                go_wp2_with fail
                refine hK _ _ (below_plus hbw9) ?_
                clear hK K
                refine mix_done ?_
                go_wp2_with fail
                go_meet
                exact ⟨gD, rfl, hD9, hb1.trans (hbw9.mono hb1.size)⟩
            case rest =>
              obtain ⟨G, rfl, hR, hb2⟩ := hcut
              have HY := Lib.hid (And.intro (HXb.out.1.next hb2) (And.intro (HXb.out.2.trans (hb2.mono HXb.out.2.size)) hR))
              clear hb2 hR hc0 hxc hxb hgh HXb
              have hshl := sha_length tX
              generalize sha tX = R at HY HL hshl
              have HRl := Lib.hid hshl
              clear hshl
              have hRR := HY.out.2.2
              go_wp2_with (first
                | (refine wpList_loadW (by rfl) 26 (.tmp 18) rfl G rfl _ _ _ hRR Tryd.underlying26 rfl (by kernel_rfl) ?_))
              refine (vLeaf_any 32 _ b I S hI64 hS64 _ es HE.out.2 (by rw [HE.out.1]; omega) R HRl.out wc (HB1.out.1.next HY.out.2.1) (by have := HB.out.2.1; omega) HY.out.1 (hG.next (HH.out.2.trans (HY.out.2.1.mono HH.out.2.size)))).mono ?_
              rintro e V3 ⟨rfl, hb3⟩
              rw [kw32l, HL.out.1]
              have HZ := Lib.hid (And.intro (HY.out.1.next hb3) (And.intro (HY.out.2.1.trans (hb3.mono HY.out.2.1.size)) (HY.out.2.2.below hb3 HY.out.2.2.lt)))
              clear hb3 HY hRR
              have hn1 := below_new1 V3 (Obj.cells #[] 26)
              have hoe := ownD_empty V3
              go_wp2_with (first
                | (at_builtin; refine wpList_appendDs rfl (.tmp 92) (.tmp 93) rfl V3.heap.size _ [] rfl hoe g 0 k es (by rw [HE.out.1]; rfl) (by rw [HE.out.1]; exact HZ.out.1.next hn1) (by rw [HE.out.1]; simp; omega) hn1.size ?_; intro v5 V5 hown5 hg5; rw [List.nil_append] at hown5; have hb5 := below_own hn1 hoe hg5 hn1.size; clear hn1 hoe hg5))
              refine (within_any more 0 3 V5 (by decide) (by decide) (by decide) hmore.1 hmore.2).mono ?_
              rintro e _ ⟨rfl, rfl⟩
              have hwb := withinI_bounds more 0 3 (by decide)
              obtain ⟨m, hm⟩ : ∃ m : Nat, 1 + withinI more 0 3 = (m : Int) := ⟨(1 + withinI more 0 3).toNat, by omega⟩
              have hm1 : 1 ≤ m := by omega
              have hm4 : m ≤ 4 := by omega
              go_wp2_with (first
                | (at_builtin; refine wpList_appendZD rfl (.tmp 94) (.tmp 97) rfl V3.heap.size _ es rfl hown5 m (by first | rfl | exact congrArg (Value.int .i64) hm) (by rw [HE.out.1]; omega) hb5.size ?_; intro v6 V6 hown6 hg6; have hb6 := below_own hb5 hown5 hg6 hb5.size; have hq := DX.of_own hown6; have HQ := Lib.hid (And.intro hq (And.intro (HZ.out.2.1.trans (hb6.mono HZ.out.2.1.size)) (HZ.out.2.2.below hb6 HZ.out.2.2.lt))); clear hown6 hg6 hb6 hq)
                | (refine wpList_loadW (by rfl) 26 (.tmp 18) rfl G rfl _ _ _ HQ.out.2.2 Tryd.underlying26 rfl (by kernel_rfl) ?_))
              refine (vLeaf_any 32 _ b I S hI64 hS64 _ (es ++ List.replicate m zeroD) (fun d hd => (List.mem_append.1 hd).elim (HE.out.2 d) (fun h => by rw [List.eq_of_mem_replicate h]; exact zeroD_len)) (by rw [List.length_append, List.length_replicate, HE.out.1]; omega) R HRl.out V6 (HB1.out.1.next HQ.out.2.1) (by have := HB.out.2.1; omega) HQ.out.1 (hG.next (HH.out.2.trans (HQ.out.2.1.mono HH.out.2.size)))).mono ?_
              rintro e V7 ⟨rfl, hb7⟩
              rw [leafS_no _ b I S _ R hIS (by rw [List.length_append, List.length_replicate, HE.out.1, HN.out]; have := HkN.out; omega)]
              go_wp2_with fail
              go_roundg (gk - 1)
              case measure => omega
              case rel =>
                refine ⟨k + 1, (k : Int), by omega, by go_num, rfl, ?_, HQ.out.2.1.trans (hb7.mono HQ.out.2.1.size)⟩
                have hkN := HkN.out
                show (k : Int) = _
                rw [if_pos (by omega)]; omega
end Go.Proofs.YtppglfgggfkcmaaDoor
