/- Texts that stand behind one another: VerT, List9, Hash9, VerI. No condition. -/
import Derived.Test.YtppglfgggfkcmaaDoorP18
import Derived.Test.YtppglfgggfkcmaaDoorP11
import Derived.Test.YtppglfgggfkcmaaDoorP7
import Derived.Test.YtppglfgggfkcmaaDoorP15
import Derived.Test.YtppglfgggfkcmaaDoorP13
/- merkle.Prove, Compare in every case, with slices of digests as verify takes them. No condition. -/
namespace Go.Proofs.YtppglfgggfkcmaaDoor
open Go Go.RowKit
theorem prove_totX (x : Int) (v : Value) (ls : List (List UInt8)) (i : Nat) (hi64 : i ≤ 18446744073709551615) (w : World) (hv : SSl w w.heap.size v ls) (h62 : ls.length ≤ 4611686018427387904) (hall : ∀ b ∈ ls, b.length ≤ 140737488355200) (hG : Glob w) :
    Calls Tryd.prog 33 #[.int .i64 x, v, .int .u64 i] w fun e w' => ∃ u, e = .returned (.tuple #[u, .int .i64 (pathE ls i)]) ∧ DX w' u (pathX (cutW x) ls i) ∧ Below w.heap.size w w' := by
  unfold pathX pathE
  by_cases hi : i < ls.length
  · simp only [hi, if_true]
    refine (prove_any x v ls i w hv h62 hall hi hG).mono ?_
    rintro e w' ⟨u, rfl, hown, hb⟩
    exact ⟨u, rfl, DX.of_own hown, hb⟩
  · simp only [hi, if_false]
    refine (prove_out x v ls i hi64 w hv h62 (by omega)).mono ?_
    rintro e w' ⟨rfl, hb⟩
    exact ⟨_, rfl, DX.nil_ w', hb⟩
theorem compare_totX (x : Int) (v : Value) (ls : List (List UInt8)) (i : Nat) (hi64 : i ≤ 18446744073709551615) (w : World) (hv : SSl w w.heap.size v ls) (h62 : ls.length ≤ 4611686018427387904) (hall : ∀ b ∈ ls, b.length ≤ 140737488355200) (hG : Glob w) :
    Calls Tryd.prog 35 #[.int .i64 x, v, .int .u64 i] w fun e w' => ∃ u, e = .returned (.tuple #[u, .int .i64 (subE ls i)]) ∧ DX w' u (subX (cutW x) ls i) ∧ Below w.heap.size w w' := by
  unfold subX subE
  by_cases hi : 1 ≤ i ∧ i ≤ ls.length
  · simp only [hi, if_true, and_self]
    refine (compare_any x v ls i w hv h62 hall hi.1 hi.2 hG).mono ?_
    rintro e w' ⟨u, rfl, hown, hb⟩
    exact ⟨u, rfl, DX.of_own hown, hb⟩
  · simp only [hi, if_false]
    refine (compare_out x v ls i hi64 w hv h62 (by omega)).mono ?_
    rintro e w' ⟨rfl, hb⟩
    exact ⟨_, rfl, DX.nil_ w', hb⟩
end Go.Proofs.YtppglfgggfkcmaaDoor

/- The walk of deponentlaw9's list. No condition. -/
namespace Go.Proofs.YtppglfgggfkcmaaDoor
open Go Go.RowKit
attribute [local go_sem] n8_lo n8_hi n64_lo n64_hi n32_lo n32_hi
set_option maxHeartbeats 400000 in
set_option maxRecDepth 100000 in
theorem list9_any (n : Int) (c : UInt8) (hn : n ≤ 1000000) (hn2 : -9223372036854775808 ≤ n) (w : World) :
    Calls Tryd.prog 21 #[.int .i64 n, .int .u8 (n8 c)] w fun e w' => ∃ v, e = .returned v ∧ SSl w' w'.heap.size v (listL n.toNat c) ∧ Below w.heap.size w w' := by
  obtain ⟨i0, hi, hz0, hz1, hz2⟩ := info_parts (by kernel_rfl : (Tryd.prog.info? 22).map (fun i => (i.zero, i.size, i.bytes)) = some (some (.slice none 0 0), 1, 24))
  go_enter Tryd.func21, Tryd.ntmps21
  go_wp2_with fail
  go_loopw [5, 6] (fun v iv wr => ∃ (k : Nat) (vs : List Value), k ≤ n.toNat ∧ iv = .int .i64 k ∧ vs.length = k ∧ wr.ownsRow w.heap.size 22 1 v vs.length vs ∧ (∀ i, i < k → Whole wr (vs.getD i undef) (elemL c i)) ∧ Below w.heap.size w wr) (fun _ iv _ => n.toNat - (intOf iv).toNat)
  case atStart => exact ⟨0, [], by omega, rfl, rfl, World.ownsRow_nil _ _ _ _, fun i hi => by omega, Below.refl _ _⟩
  case round =>
    obtain ⟨k, vs, hk, rfl, hvl, hown, hall, hbel⟩ := hrel
    by_cases hlt : (k : Int) < n
    · have b1 := byte_nat k
      have b2 := byte_nat (k / 256)
      have b3 : ((k / 256 : Nat) : Int) = (k : Int) / 256 := by omega
      rw [b3] at b2
      have hk1 : k ≤ 1000000 := by omega
      have hA := Blk.new w 5 #[]
      clear hA
      have hb1w := below_new1 wr (Obj.cells #[.int .u8 (n8 c), .int .u8 (n8 (UInt8.ofNat k)), .int .u8 (n8 (UInt8.ofNat (k / 256)))] 5)
      have hbw := hb1w.alloc hb1w.size (Obj.cells #[.slice (some ⟨wr.heap.size, 0, none⟩) 3 3] 22)
      have hE := (Blk.new wr 5 #[.int .u8 (n8 c), .int .u8 (n8 (UInt8.ofNat k)), .int .u8 (n8 (UInt8.ofNat (k / 256)))]).alloc (Obj.cells #[.slice (some ⟨wr.heap.size, 0, none⟩) 3 3] 22)
      have hS := Blk.new2 wr (Obj.cells #[.int .u8 (n8 c), .int .u8 (n8 (UInt8.ofNat k)), .int .u8 (n8 (UInt8.ofNat (k / 256)))] 5) 22 #[.slice (some ⟨wr.heap.size, 0, none⟩) 3 3]
      have hW : Whole ((wr.alloc (Obj.cells #[.int .u8 (n8 c), .int .u8 (n8 (UInt8.ofNat k)), .int .u8 (n8 (UInt8.ofNat (k / 256)))] 5)).alloc (Obj.cells #[.slice (some ⟨wr.heap.size, 0, none⟩) 3 3] 22)) (.slice (some ⟨wr.heap.size, 0, none⟩) 3 3) (elemL c k) := ⟨wr.heap.size, rfl, hE⟩
      have hown2 := own_below hown hbw
      have HWs := Lib.hid (And.intro hW (fun i (hi : i < k) => (hall i hi).below hbw))
      have hbase := Nat.le_trans hbel.size hbw.size
      clear hb1w hE hW hall hown
      go_wp2_with (first
        | (at_builtin; refine wpList_appendR rfl (.tmp 12) (.tmp 20) _ rfl w.heap.size 22 i0 _ 24 Tryd.underlying38 hi hz0 hz1 hz2 rfl _ vs rfl hown2 _ (some ⟨wr.heap.size + 1, 0, none⟩) 1 1 [.slice (some ⟨wr.heap.size, 0, none⟩) 3 3] rfl (Reads.of_blk hS hS.lt 0) rfl (fun u hu => by rw [List.mem_singleton] at hu; subst hu; rfl) (by unfold maxLen; omega) (by omega) hbase ?_; intro u1 w1 hown1 hg1 hat1))
      have hbel1 := below_own (hbel.trans (hbw.mono hbel.size)) hown2 hg1 hbase
      have hE1 := HWs.out.1.grown hown2 hg1
      have hall1 : ∀ i, i < k → Whole w1 (vs.getD i undef) (elemL c i) := fun i hi => (HWs.out.2 i hi).grown hown2 hg1
      have HF := Lib.hid (And.intro hbel1 (And.intro hE1 (And.intro hall1 hown1)))
      clear hbel1 hE1 hall1 hown1 HWs hown2 hg1 hat1 hS hbw hbase
      go_wp2_with fail
      go_roundw
      case rel =>
        refine ⟨k + 1, vs ++ [.slice (some ⟨wr.heap.size, 0, none⟩) 3 3], by omega, by go_num, by rw [List.length_append, hvl]; rfl, HF.out.2.2.2, fun i hi => ?_, HF.out.1⟩
        rw [List.getD_eq_getElem?_getD]
        by_cases hik : i < k
        · rw [List.getElem?_append_left (by omega), ← List.getD_eq_getElem?_getD]
          exact HF.out.2.2.1 i hik
        · obtain rfl : i = k := by omega
          rw [List.getElem?_append_right (by omega), show i - vs.length = 0 by omega]
          exact HF.out.2.1
      case measure => simp [intOf]; omega
    · have ek : k = n.toNat := by omega
      have HF := Lib.hid (And.intro hown hall)
      clear hown hall
      go_wp2_with fail
      go_ret
      refine ⟨_, rfl, ?_, hbel⟩
      rw [← ek]
      refine SSl.of_own HF.out.1 (by rw [hvl, listL_length]) (fun i hi => ?_)
      rw [listL_length] at hi
      rw [listL_at k c i hi]
      exact (HF.out.2 i hi).bsl (by show (3 : Nat) ≤ _; decide)
end Go.Proofs.YtppglfgggfkcmaaDoor

/- The walk of deponentlaw9's hasher. No condition. -/
namespace Go.Proofs.YtppglfgggfkcmaaDoor
open Go.RowKit
attribute [local go_sem] n8_lo n8_hi n64_lo n64_hi n32_lo n32_hi
set_option maxRecDepth 100000 in
theorem hasher9_any (x : Int) (w : World) :
    Calls Tryd.prog 12 #[.int .i64 x] w fun e w' => ∃ v, e = .returned v ∧ Hsr w' w'.heap.size v (cutW x) ∧ Below w.heap.size w w' := by
  go_enter Tryd.func12, Tryd.ntmps12
  go_wp2_with fail
  refine (new_any w).mono ?_
  rintro e w1 ⟨t, rfl, hT, hb⟩
  go_wp2_with fail
  refine (new8_any t x w1 hT).mono ?_
  rintro e w2 ⟨v, rfl, hv, hb2⟩
  go_wp2_with fail
  go_ret
  exact ⟨_, rfl, hv, hb.trans (hb2.mono hb.size)⟩
end Go.Proofs.YtppglfgggfkcmaaDoor

/- The walk of verify's Collide. No condition. -/
namespace Go.Proofs.YtppglfgggfkcmaaDoor
open Go Go.RowKit
attribute [local irreducible] mixW
attribute [local go_sem] n8_lo n8_hi n64_lo n64_hi n32_lo n32_hi
theorem Stp.all {w : World} {base n : Nat} {v : Value} {l : List (Value × List UInt8)} (h : Stp w base v n l) (h1 : 1 ≤ l.length) : ∃ g c, v = .slice (some ⟨g, 0, none⟩) (l.map Prod.snd).length c ∧ g < w.heap.size ∧
    ∀ k, k < (l.map Prod.snd).length → ∃ u, w.cell? ⟨g, k * 33, none⟩ = some u ∧ BSl w w.heap.size u ((l.map Prod.snd).getD k []) ∧ w.rangeAt g (k * 33 + 1) (dat (sumM n ((l.map Prod.snd).getD k []))).toList := by
  obtain ⟨g, c, e, hg, _, _, _⟩ := h.hash 0 h1
  refine ⟨g, c, by rw [e, List.length_map], hg, fun k hk => ?_⟩
  rw [List.length_map] at hk
  obtain ⟨g2, c2, e2, _, _, h3, h4⟩ := h.hash k hk
  rw [e] at e2
  injection e2 with e2 _ _
  injection e2 with e2
  injection e2 with e2 _
  subst e2
  have e3 : (l.map Prod.snd).getD k [] = l[k].2 := by rw [List.getD_eq_getElem?_getD, List.getElem?_map, List.getElem?_eq_getElem hk]; rfl
  rw [e3]
  exact ⟨_, h3, h.text k hk, h4⟩
theorem collS_way (n : Nat) (a b : List UInt8) (i s : Nat) (p q : List (List UInt8)) : collS n a b i s p q = if a = b then none else
    match wayO n a i s p, wayO n b i s q with
    | some X, some Y => if lastH n X = lastH n Y then collF n X Y else none
    | _, _ => none := by
  unfold collS wayO
  split
  · rfl
  · split <;> rfl
theorem wayO_alike (n : Nat) (a b : List UInt8) (i s : Nat) (p q X Y : List (List UInt8)) (h1 : wayO n a i s p = some X) (h2 : wayO n b i s q = some Y) : X.length = Y.length := by
  unfold wayO at h1 h2
  split at h1
  · cases h1
  · rename_i h0
    rw [if_neg h0] at h2
    rw [(wayS_len n (s - 1) p i (s - 1) _ X (Nat.le_refl _) h1).1, (wayS_len n (s - 1) q i (s - 1) _ Y (Nat.le_refl _) h2).1]; rfl
theorem lastH_at (n : Nat) (X : List (List UInt8)) (k : Nat) (hk : k + 1 = X.length) : sumM n (X.getD k []) = lastH n X := by
  unfold lastH
  rw [List.getLastD_eq_getLast?, List.getLast?_eq_getElem?, ← hk, Nat.add_sub_cancel, List.getD_eq_getElem?_getD]
/-- what Collide hands back -/
def CollP (o : Option (List UInt8 × List UInt8)) (w' : World) (e : Ending) : Prop :=
  ∃ u v, e = .returned (.tuple #[u, v, .bool o.isSome]) ∧ BSl w' w'.heap.size u (o.getD ([], [])).1 ∧ BSl w' w'.heap.size v (o.getD ([], [])).2
theorem CollP.no {o : Option (List UInt8 × List UInt8)} {w' : World} (h : o = none) : CollP o w' (.returned (.tuple #[.slice none 0 0, .slice none 0 0, .bool false])) :=
  ⟨_, _, by rw [h]; rfl, by rw [h]; exact BSl.nil_, by rw [h]; exact BSl.nil_⟩
set_option maxHeartbeats 3000000 in
set_option maxRecDepth 100000 in
theorem vcoll_any (x : Int) (av bv : Value) (a b : List UInt8) (i s : Nat) (hi64 : i ≤ 18446744073709551615) (hs64 : s ≤ 18446744073709551615) (pv qv : Value) (ps qs : List (List UInt8)) (hpall : ∀ d ∈ ps, d.length = 32) (hqall : ∀ d ∈ qs, d.length = 32) (hps : ps.length ≤ 1000000) (hqs : qs.length ≤ 1000000)
    (w : World) (ha : BSl w w.heap.size av a) (hb : BSl w w.heap.size bv b) (hal : a.length ≤ 140737488351232) (hbl : b.length ≤ 140737488351232) (hp : DX w pv ps) (hq : DX w qv qs) (hG : Glob w) :
    Calls Tryd.prog 28 #[.int .i64 x, av, bv, .int .u64 i, .int .u64 s, pv, qv] w fun e w' => CollP (collS (cutW x) a b i s ps qs) w' e ∧ Below w.heap.size w w' := by
  obtain ⟨r, hr⟩ : ∃ r, collS (cutW x) a b i s ps qs = r := ⟨_, rfl⟩
  rw [hr]
  rw [collS_way] at hr
  have HP := Lib.hid (And.intro hpall hqall)
  clear hpall hqall
  obtain ⟨e0, he0⟩ : ∃ e, decide (a = b) = e := ⟨_, rfl⟩
  go_enter Tryd.func28, Tryd.ntmps28
  have He0 := Lib.hid he0
  have Hr := Lib.hid hr
  clear he0 hr
  go_wp2_with fail
  refine (equal_any av bv a b w ha hb e0 He0.out).mono ?_
  rintro e _ ⟨rfl, rfl⟩
  cases e0 with
  | true =>
    have hn : r = none := by rw [← Hr.out]; exact if_pos (of_decide_eq_true He0.out)
    have Hn := Lib.hid hn
    clear hn
    go_wp2_with fail
    try rw [Exit.noGoto_ret]
    go_ret3
    exact ⟨CollP.no Hn.out, Below.refl _ _⟩
  | false =>
  have hab := of_decide_eq_false He0.out
  have hr2 := Hr.out
  rw [if_neg hab] at hr2
  clear Hr He0 hab
  go_wp2_with fail
  refine (way_any x av a i s hi64 hs64 pv ps HP.out.1 hps w ha (by omega) hp hG).mono ?_
  rintro e W1 ⟨⟨u1, rfl, hX⟩, hbel⟩
  obtain ⟨o1, ho1⟩ : ∃ o, wayO (cutW x) a i s ps = o := ⟨_, rfl⟩
  rw [ho1] at hX hr2 ⊢
  have Hb := Lib.hid (hb.next hbel)
  have Hq := Lib.hid (hq.next hbel)
  have Hr2 := Lib.hid hr2
  have H1 : Hid (∀ X, o1 = some X → ∃ g c, u1 = .slice (some ⟨g, 0, none⟩) X.length c ∧ g < W1.heap.size ∧ ∀ k, k < X.length → ∃ u, W1.cell? ⟨g, k * 33, none⟩ = some u ∧ BSl W1 W1.heap.size u (X.getD k []) ∧ W1.rangeAt g (k * 33 + 1) (dat (sumM (cutW x) (X.getD k []))).toList) := Lib.hid (fun X hx => by
    obtain ⟨l, h1, h2⟩ := hX X hx
    have h3 := wayO_len _ _ _ _ _ _ (ho1.trans hx)
    rw [← h2, List.length_map] at h3
    rw [← h2]
    exact h1.all h3.1)
  have Ho1 := Lib.hid ho1
  clear hX hr2 hb hq ho1
  go_wp2_with fail
  refine (way_any x bv b i s hi64 hs64 qv qs HP.out.2 hqs W1 Hb.out (by omega) Hq.out (hG.next hbel)).mono ?_
  rintro e W2 ⟨⟨u2, rfl, hX⟩, hb2⟩
  obtain ⟨o2, ho2⟩ : ∃ o, wayO (cutW x) b i s qs = o := ⟨_, rfl⟩
  rw [ho2] at hX ⊢
  have hr3 := Hr2.out
  rw [ho2] at hr3
  have H2 : Hid (∀ X, o2 = some X → ∃ g c, u2 = .slice (some ⟨g, 0, none⟩) X.length c ∧ g < W2.heap.size ∧ ∀ k, k < X.length → ∃ u, W2.cell? ⟨g, k * 33, none⟩ = some u ∧ BSl W2 W2.heap.size u (X.getD k []) ∧ W2.rangeAt g (k * 33 + 1) (dat (sumM (cutW x) (X.getD k []))).toList) := Lib.hid (fun X hx => by
    obtain ⟨l, h1, h2⟩ := hX X hx
    have h3 := wayO_len _ _ _ _ _ _ (ho2.trans hx)
    rw [← h2, List.length_map] at h3
    rw [← h2]
    exact h1.all h3.1)
  have Hb2 := Lib.hid hb2
  have Ho2 := Lib.hid ho2
  clear hX ho2 hb2 Hb Hq Hr2
  cases o1 with
  | none =>
    have hn : r = none := hr3.symm
    have Hn := Lib.hid hn
    have hbelW := hbel.trans (Hb2.out.mono hbel.size)
    clear hn hr3
    simp only [Option.isSome_none]
    go_wp2_with fail
    refine wp_region_mixP (.plain 0 <| .plain 1 <| .plain 2 <| .plain 3 <| .plain 4 <| .plain 5 <| .plain 6 <| .plain 7 <| .plain 8 <| .plain 9 <| .plain 10 <| .plain 11 <| .plain 12 <| .plain 13 <| .plain 14 <| .plain 15 <| .plain 16 <| .plain 17 <| .plain 18 <| .plain 19 <| .plain 20 <| .plain 21 <| .plain 22 <| .done) (by kernel_rfl) (by kernel_rfl) (fun W3 hb3 => ?_)
    iterate 3 (refine mix_plain rfl ?_; go_big_quiet_step (fail); refine wpQuiet_nil ?_)
    iterate 2 (refine mix_skip rfl rfl ?_; simp only [Act.put, List.setIfInBounds_toArray, List.set_cons_zero, List.set_cons_succ])
    iterate 2 (refine mix_plain rfl ?_; go_big_quiet_step (fail); refine wpQuiet_nil ?_)
    iterate 15 (refine mix_skip rfl rfl ?_; simp only [Act.put, List.setIfInBounds_toArray, List.set_cons_zero, List.set_cons_succ])
    iterate 1 (refine mix_plain rfl ?_; go_big_quiet_step (fail); refine wpQuiet_nil ?_)
    refine mix_done ?_
    go_wp2_with fail
    try rw [Exit.noGoto_ret]
    go_ret3
    exact ⟨CollP.no Hn.out, hbelW.trans (hb3.mono hbelW.size)⟩
  | some X =>
  cases o2 with
  | none =>
    have hn : r = none := hr3.symm
    have Hn := Lib.hid hn
    have hbelW := hbel.trans (Hb2.out.mono hbel.size)
    clear hn hr3
    simp only [Option.isSome_none, Option.isSome_some]
    go_wp2_with fail
    refine wp_region_mixP (.plain 0 <| .plain 1 <| .plain 2 <| .plain 3 <| .plain 4 <| .plain 5 <| .plain 6 <| .plain 7 <| .plain 8 <| .plain 9 <| .plain 10 <| .plain 11 <| .plain 12 <| .plain 13 <| .plain 14 <| .plain 15 <| .plain 16 <| .plain 17 <| .plain 18 <| .plain 19 <| .plain 20 <| .plain 21 <| .plain 22 <| .done) (by kernel_rfl) (by kernel_rfl) (fun W3 hb3 => ?_)
    iterate 7 (refine mix_plain rfl ?_; go_big_quiet_step (fail); refine wpQuiet_nil ?_)
    iterate 15 (refine mix_skip rfl rfl ?_; simp only [Act.put, List.setIfInBounds_toArray, List.set_cons_zero, List.set_cons_succ])
    iterate 1 (refine mix_plain rfl ?_; go_big_quiet_step (fail); refine wpQuiet_nil ?_)
    refine mix_done ?_
    go_wp2_with fail
    try rw [Exit.noGoto_ret]
    go_ret3
    exact ⟨CollP.no Hn.out, hbelW.trans (hb3.mono hbelW.size)⟩
  | some Y =>
  simp only [Option.isSome_some]
  have hlen := wayO_alike _ _ _ _ _ _ _ _ _ Ho1.out Ho2.out
  have hlen1 := wayO_len _ _ _ _ _ _ Ho1.out
  obtain ⟨g1, c1, rfl, hg1, hX1⟩ := H1.out X rfl
  obtain ⟨g2, c2, rfl, hg2, hY2⟩ := H2.out Y rfl
  have HY := Lib.hid hY2
  have HX : Hid (∀ k, k < X.length → ∃ u, W2.cell? ⟨g1, k * 33, none⟩ = some u ∧ BSl W2 W2.heap.size u (X.getD k []) ∧ W2.rangeAt g1 (k * 33 + 1) (dat (sumM (cutW x) (X.getD k []))).toList) := Lib.hid (fun k hk => by
    obtain ⟨u, h1, h2, h3⟩ := hX1 k hk
    exact ⟨u, (Hb2.out.cell (p := ⟨g1, k * 33, none⟩) hg1).trans h1, h2.next Hb2.out, range_next h3 hg1 Hb2.out⟩)
  have hg1' : g1 < W2.heap.size := Nat.lt_of_lt_of_le hg1 Hb2.out.size
  have hr4 : (if lastH (cutW x) X = lastH (cutW x) Y then collF (cutW x) X Y else none) = r := hr3
  replace hbel := hbel.trans (Hb2.out.mono hbel.size)
  clear hX1 hY2 hg1 H1 H2 Ho1 Ho2 Hb2 hr3
  rw [← hlen] at HY ⊢
  obtain ⟨N, hN⟩ : ∃ N, X.length = N := ⟨_, rfl⟩
  rw [hN] at HX HY hlen hlen1 ⊢
  obtain ⟨K, hK⟩ : ∃ K, K + 1 = N := ⟨N - 1, by omega⟩
  have hN6 : N ≤ 1000001 := by omega
  have HN := Lib.hid (And.intro hN (And.intro hlen.symm hN6))
  clear hN hlen hlen1 hN6
  obtain ⟨lu, hlu, -, hlr⟩ := HX.out K (by omega)
  obtain ⟨mu, hmu, -, hmr⟩ := HY.out K (by omega)
  rw [lastH_at _ X K (by have := HN.out.1; omega)] at hlr
  rw [lastH_at _ Y K (by have := HN.out.2.1; omega)] at hmr
  clear hlu hmu
  have HLl := Lib.hid (And.intro (lastH_length (cutW x) X) (lastH_length (cutW x) Y))
  have Hr4 := Lib.hid hr4
  clear hr4
  generalize hlx : lastH (cutW x) X = lX at hlr HLl Hr4
  generalize hly : lastH (cutW x) Y = lY at hmr HLl Hr4
  clear hlx hly
  obtain ⟨e1, he1⟩ : ∃ e, decide (lX = lY) = e := ⟨_, rfl⟩
  have He1 := Lib.hid he1
  clear he1
  have hK1 : (N : Int) - 1 = (K : Int) := by omega
  have hK2 : (K : Int) < (N : Int) := by omega
  have hK6 : K ≤ 1000001 := by have := HN.out.2.2; omega
  have hN6 : N ≤ 1000001 := HN.out.2.2
  clear hK
  go_wp2_with fail
  refine wp_region_mixP (.plain 0 <| .plain 1 <| .plain 2 <| .plain 3 <| .plain 4 <| .plain 5 <| .plain 6 <| .plain 7 <| .plain 8 <| .plain 9 <| .plain 10 <| .plain 11 <| .plain 12 <| .plain 13 <| .plain 14 <| .plain 15 <| .plain 16 <| .plain 17 <| .plain 18 <| .plain 19 <| .plain 20 <| .plain 21 <| .plain 22 <| .done) (by kernel_rfl) (by kernel_rfl) (fun W3 hb3 => ?_)
  have hlr3 := range_next hlr hg1' hb3
  have hmr3 := range_next hmr hg2 hb3
  have HX3 : Hid (∀ k, k < N → ∃ u, W3.cell? ⟨g1, k * 33, none⟩ = some u ∧ BSl W3 W3.heap.size u (X.getD k []) ∧ W3.rangeAt g1 (k * 33 + 1) (dat (sumM (cutW x) (X.getD k []))).toList) := Lib.hid (fun k hk => by
    obtain ⟨u, h1, h2, h3⟩ := HX.out k hk
    exact ⟨u, (hb3.cell (p := ⟨g1, k * 33, none⟩) hg1').trans h1, h2.next hb3, range_next h3 hg1' hb3⟩)
  have HY3 : Hid (∀ k, k < N → ∃ u, W3.cell? ⟨g2, k * 33, none⟩ = some u ∧ BSl W3 W3.heap.size u (Y.getD k []) ∧ W3.rangeAt g2 (k * 33 + 1) (dat (sumM (cutW x) (Y.getD k []))).toList) := Lib.hid (fun k hk => by
    obtain ⟨u, h1, h2, h3⟩ := HY.out k hk
    exact ⟨u, (hb3.cell (p := ⟨g2, k * 33, none⟩) hg2).trans h1, h2.next hb3, range_next h3 hg2 hb3⟩)
  have hg13 : g1 < W3.heap.size := Nat.lt_of_lt_of_le hg1' hb3.size
  have hg23 : g2 < W3.heap.size := Nat.lt_of_lt_of_le hg2 hb3.size
  replace hbel := hbel.trans (hb3.mono hbel.size)
  clear hb3 HX HY hg1' hg2 hlr hmr
  iterate 23 (refine mix_plain rfl ?_; (first
    | (refine wpQuiet_loadMid rfl 26 (.tmp 55) rfl g1 (K * 33 + 1) rfl (dat lX) _ (fun _ ⟨e, he⟩ => by rw [he]; exact range_plus hlr3 e) Tryd.underlying26 rfl (by rw [dat_size]; kernel_rfl) ?_; simp only [Act.put, List.setIfInBounds_toArray, List.set_cons_zero, List.set_cons_succ])
    | (refine wpQuiet_loadMid rfl 26 (.tmp 62) rfl g2 (K * 33 + 1) rfl (dat lY) _ (fun _ ⟨e, he⟩ => by rw [he]; exact range_plus hmr3 e) Tryd.underlying26 rfl (by rw [dat_size]; kernel_rfl) ?_; simp only [Act.put, List.setIfInBounds_toArray, List.set_cons_zero, List.set_cons_succ])
    | (refine wpQuiet_neD rfl (.tmp 56) (.tmp 63) _ rfl lX lY rfl rfl HLl.out.1 HLl.out.2 e1 He1.out ?_; simp only [Act.put, List.setIfInBounds_toArray, List.set_cons_zero, List.set_cons_succ])
    | go_big_quiet_step (fail)); refine wpQuiet_nil ?_)
  refine mix_done ?_
  clear hlr3 hmr3
  cases e1 with
  | false =>
    have hn : r = none := by rw [← Hr4.out]; exact if_neg (of_decide_eq_false He1.out)
    have Hn := Lib.hid hn
    clear hn
    go_wp2_with fail
    try rw [Exit.noGoto_ret]
    go_ret3
    exact ⟨CollP.no Hn.out, hbel⟩
  | true =>
  have hr5 := Hr4.out
  rw [if_pos (of_decide_eq_true He1.out)] at hr5
  have Hr5 := Lib.hid hr5
  clear hr5 Hr4 He1 HLl
  go_wp2_with fail
  go_loopg [71] N (fun g iv wr => ∃ k : Nat, k + g = N ∧ iv = .int .i64 k ∧ Aside (collF (cutW x) (X.drop k) (Y.drop k) = r) ∧ Below W3.heap.size W3 wr)
  case atStart => exact ⟨0, by omega, rfl, Hr5.out, Below.refl _ _⟩
  case round =>
    obtain ⟨k, hkl, rfl, hA, hb4⟩ := hrel
    by_cases hlt : k < N
    · have hlt' : (k : Int) < (N : Int) := by omega
      have hcd := collF_drop (cutW x) X Y k (by have := HN.out.1; omega) (by have := HN.out.2.1; omega)
      rw [hA.out] at hcd
      have Hcd := Lib.hid hcd
      obtain ⟨u, hu1, hu2, hu3⟩ := HX3.out k hlt
      obtain ⟨v, hv1, hv2, hv3⟩ := HY3.out k hlt
      replace hu1 : wr.cell? ⟨g1, k * 33, none⟩ = some u := (hb4.cell (p := ⟨g1, k * 33, none⟩) hg13).trans hu1
      replace hv1 : wr.cell? ⟨g2, k * 33, none⟩ = some v := (hb4.cell (p := ⟨g2, k * 33, none⟩) hg23).trans hv1
      replace hu2 := hu2.next hb4
      replace hv2 := hv2.next hb4
      replace hu3 := range_next hu3 hg13 hb4
      replace hv3 := range_next hv3 hg23 hb4
      have hg14 : g1 < wr.heap.size := Nat.lt_of_lt_of_le hg13 hb4.size
      have hg24 : g2 < wr.heap.size := Nat.lt_of_lt_of_le hg23 hb4.size
      have hl1 := sumM_length (cutW x) (X.getD k [])
      have hl2 := sumM_length (cutW x) (Y.getD k [])
      clear hcd hA
      generalize X.getD k [] = tX at hu2 hu3 hl1 Hcd
      generalize Y.getD k [] = tY at hv2 hv3 hl2 Hcd
      obtain ⟨dX, hdX⟩ : ∃ d, sumM (cutW x) tX = d := ⟨_, rfl⟩
      obtain ⟨dY, hdY⟩ : ∃ d, sumM (cutW x) tY = d := ⟨_, rfl⟩
      rw [hdX] at hu3 hl1 Hcd
      rw [hdY] at hv3 hl2 Hcd
      have HL := Lib.hid (And.intro hl1 hl2)
      clear hdX hdY hl1 hl2
      obtain ⟨e2, he2⟩ : ∃ e, decide (dX = dY) = e := ⟨_, rfl⟩
      obtain ⟨e3, he3⟩ : ∃ e, decide (tX = tY) = e := ⟨_, rfl⟩
      have HE := Lib.hid (And.intro he2 he3)
      clear he2 he3
      go_upto_region 10 with fail
      refine wp_region_mixP (.plain 0 <| .plain 1 <| .plain 2 <| .plain 3 <| .plain 4 <| .plain 5 <| .plain 6 <| .plain 7 <| .plain 8 <| .plain 9 <| .plain 10 <| .plain 11 <| .plain 12 <| .plain 13 <| .plain 14 <| .plain 15 <| .plain 16 <| .plain 17 <| .plain 18 <| .plain 19 <| .plain 20 <| .plain 21 <| .only 22 <| .plain 23 <| .plain 24 <| .done) (by kernel_rfl) (by kernel_rfl) (fun W5 hb5 => ?_)
      replace hu1 : W5.cell? ⟨g1, k * 33, none⟩ = some u := (hb5.cell (p := ⟨g1, k * 33, none⟩) hg14).trans hu1
      replace hv1 : W5.cell? ⟨g2, k * 33, none⟩ = some v := (hb5.cell (p := ⟨g2, k * 33, none⟩) hg24).trans hv1
      replace hu2 := hu2.next hb5
      replace hv2 := hv2.next hb5
      replace hu3 := range_next hu3 hg14 hb5
      replace hv3 := range_next hv3 hg24 hb5
      have hg15 : g1 < W5.heap.size := Nat.lt_of_lt_of_le hg14 hb5.size
      have hg25 : g2 < W5.heap.size := Nat.lt_of_lt_of_le hg24 hb5.size
      replace hb4 := hb4.trans (hb5.mono hb4.size)
      clear hb5 hg14 hg24
      iterate 12 (refine mix_plain rfl ?_; (first
        | (refine wpQuiet_loadMid rfl 26 (.tmp 77) rfl g1 (k * 33 + 1) rfl (dat dX) _ (fun _ ⟨e, he⟩ => by rw [he]; exact range_plus hu3 e) Tryd.underlying26 rfl (by rw [dat_size]; kernel_rfl) ?_; simp only [Act.put, List.setIfInBounds_toArray, List.set_cons_zero, List.set_cons_succ])
        | (refine wpQuiet_loadMid rfl 26 (.tmp 82) rfl g2 (k * 33 + 1) rfl (dat dY) _ (fun _ ⟨e, he⟩ => by rw [he]; exact range_plus hv3 e) Tryd.underlying26 rfl (by rw [dat_size]; kernel_rfl) ?_; simp only [Act.put, List.setIfInBounds_toArray, List.set_cons_zero, List.set_cons_succ])
        | (refine wpQuiet_eqD rfl (.tmp 78) (.tmp 83) _ rfl dX dY rfl rfl HL.out.1 HL.out.2 e2 HE.out.1 ?_; simp only [Act.put, List.setIfInBounds_toArray, List.set_cons_zero, List.set_cons_succ])
        | go_big_quiet_step (fail)); refine wpQuiet_nil ?_)
      clear hu3 hv3
      cases e2 with
      | false =>
        have hn : collF (cutW x) (X.drop (k + 1)) (Y.drop (k + 1)) = r := by rw [Hcd.out, if_neg (fun h => of_decide_eq_false HE.out.1 h.1)]
        have Hn := Lib.hid hn
        clear hn hu1 hv1 hu2 hv2
        iterate 10 (refine mix_skip rfl rfl ?_; simp only [Act.put, List.setIfInBounds_toArray, List.set_cons_zero, List.set_cons_succ])
        refine mix_only rfl (fun K hK => ?_)
        go_wp2_with fail
        refine hK _ _ (Below.refl _ _) ?_
        clear hK K
        refine mix_skip rfl rfl ?_
        simp only [Act.put, List.setIfInBounds_toArray, List.set_cons_zero, List.set_cons_succ]
        refine mix_plain rfl ?_
        go_big_quiet_step (fail)
        refine wpQuiet_nil ?_
        refine mix_done ?_
        go_wp2_with fail
        go_roundg (gk - 1)
        case rel => exact ⟨k + 1, by omega, by go_num, Hn.out, hb4⟩
        case measure => omega
      | true =>
        iterate 10 (refine mix_plain rfl ?_; (first
          | (refine wpQuiet_load1 rfl _ (.tmp 89) rfl _ rfl _ Tryd.underlying22 rfl _ (fun _ ⟨e, he⟩ => by rw [he, plus_cell _ _ _ hg15]; exact hu1) ?_; simp only [Act.put, List.setIfInBounds_toArray, List.set_cons_zero, List.set_cons_succ])
          | (refine wpQuiet_load1 rfl _ (.tmp 94) rfl _ rfl _ Tryd.underlying22 rfl _ (fun _ ⟨e, he⟩ => by rw [he, plus_cell _ _ _ hg25]; exact hv1) ?_; simp only [Act.put, List.setIfInBounds_toArray, List.set_cons_zero, List.set_cons_succ])
          | go_big_quiet_step (fail)); refine wpQuiet_nil ?_)
        refine mix_only rfl (fun K hK => ?_)
        refine wpList_unguard rfl ?_
        go_wp2_with fail
        refine (equal_any u v tX tY W5 hu2 hv2 e3 HE.out.2).mono ?_
        rintro e _ ⟨rfl, rfl⟩
        go_wp2_with fail
        refine hK _ _ (Below.refl _ _) ?_
        clear hK K
        cases e3 with
        | true =>
          have hn : collF (cutW x) (X.drop (k + 1)) (Y.drop (k + 1)) = r := by rw [Hcd.out, if_neg (fun h => h.2 (of_decide_eq_true HE.out.2))]
          have Hn := Lib.hid hn
          clear hn hu1 hv1 hu2 hv2
          iterate 2 (refine mix_plain rfl ?_; go_big_quiet_step (fail); refine wpQuiet_nil ?_)
          refine mix_done ?_
          go_wp2_with fail
          go_roundg (gk - 1)
          case rel => exact ⟨k + 1, by omega, by go_num, Hn.out, hb4⟩
          case measure => omega
        | false =>
          have hn : r = some (tX, tY) := by rw [Hcd.out, if_pos ⟨of_decide_eq_true HE.out.1, of_decide_eq_false HE.out.2⟩]
          have Hn := Lib.hid hn
          clear hn
          iterate 2 (refine mix_plain rfl ?_; go_big_quiet_step (fail); refine wpQuiet_nil ?_)
          refine mix_done ?_
          go_upto_region 11 with fail
          refine wp_region_mixP (.plain 0 <| .plain 1 <| .plain 2 <| .plain 3 <| .plain 4 <| .plain 5 <| .plain 6 <| .plain 7 <| .plain 8 <| .plain 9 <| .plain 10 <| .plain 11 <| .plain 12 <| .done) (by kernel_rfl) (by kernel_rfl) (fun W6 hb6 => ?_)
          have hu6 : W6.cell? ⟨g1, k * 33, none⟩ = some u := (hb6.cell (p := ⟨g1, k * 33, none⟩) hg15).trans hu1
          have hv6 : W6.cell? ⟨g2, k * 33, none⟩ = some v := (hb6.cell (p := ⟨g2, k * 33, none⟩) hg25).trans hv1
          have hg16 : g1 < W6.heap.size := Nat.lt_of_lt_of_le hg15 hb6.size
          have hg26 : g2 < W6.heap.size := Nat.lt_of_lt_of_le hg25 hb6.size
          have HF := Lib.hid (And.intro (hu2.next hb6) (And.intro (hv2.next hb6) (hbel.trans ((hb4.trans (hb6.mono hb4.size)).mono hbel.size))))
          clear hu1 hv1 hu2 hv2 hb6 hb4
          iterate 13 (refine mix_plain rfl ?_; (first
            | (refine wpQuiet_load1 rfl _ (.tmp 102) rfl _ rfl _ Tryd.underlying22 rfl _ (fun _ ⟨e, he⟩ => by rw [he, plus_cell _ _ _ hg16]; exact hu6) ?_; simp only [Act.put, List.setIfInBounds_toArray, List.set_cons_zero, List.set_cons_succ])
            | (refine wpQuiet_load1 rfl _ (.tmp 107) rfl _ rfl _ Tryd.underlying22 rfl _ (fun _ ⟨e, he⟩ => by rw [he, plus_cell _ _ _ hg26]; exact hv6) ?_; simp only [Act.put, List.setIfInBounds_toArray, List.set_cons_zero, List.set_cons_succ])
            | go_big_quiet_step (fail)); refine wpQuiet_nil ?_)
          refine mix_done ?_
          clear hu6 hv6
          go_wp2_with fail
          try rw [Exit.noGoto_ret]
          go_ret3
          exact ⟨⟨u, v, by rw [Hn.out]; rfl, by rw [Hn.out]; exact HF.out.1, by rw [Hn.out]; exact HF.out.2.1⟩, HF.out.2.2⟩
    · have hA2 := hA.out
      rw [collF_end _ _ _ _ (.inl (by have := HN.out.1; omega))] at hA2
      have Hn := Lib.hid hA2.symm
      obtain rfl : k = N := by omega
      clear hA2 hA
      have hlt' : ¬ (k : Int) < (k : Int) := by omega
      go_wp2_with fail
      try rw [Exit.noGoto_ret]
      go_ret3
      exact ⟨CollP.no Hn.out, hbel.trans (hb4.mono hbel.size)⟩
end Go.Proofs.YtppglfgggfkcmaaDoor
