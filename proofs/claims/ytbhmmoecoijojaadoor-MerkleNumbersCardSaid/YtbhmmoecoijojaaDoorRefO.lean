/- The walk of the reference deponentref8's part. No condition. -/
import Derived.Test.YtbhmmoecoijojaaDoorRefN
import Derived.Test.YtbhmmoecoijojaaDoorMerkQ
namespace Go.Proofs.YtbhmmoecoijojaaDoor
open Go Go.RowKit
attribute [local irreducible] mixW
attribute [local go_sem] n8_lo n8_hi n64_lo n64_hi n32_lo n32_hi
set_option maxHeartbeats 1000000 in
set_option maxRecDepth 100000 in
theorem r8part_any (h : Value) (n : Nat) : ∀ (N : Nat) (ls : List (List UInt8)) (i : Nat) (bb : Bool), ls.length ≤ N → 1 ≤ i → i ≤ ls.length → ls.length ≤ 4611686018427387904 → (∀ b ∈ ls, b.length ≤ 140737488351232) → ∀ (v : Value) (w : World), SSl w w.heap.size v ls → Hsr w w.heap.size h n →
    Calls Tryd.prog 76 #[h, .int .i64 i, v, .bool bb] w fun e w' => ∃ u, e = .returned u ∧ w'.ownsRow w.heap.size 27 32 u (subM n ls i bb).length (dcells (subM n ls i bb)) ∧ Below w.heap.size w w' := by
  intro N
  induction N with
  | zero => intro ls i bb h1 h2; omega
  | succ N ih =>
    intro ls i bb hN h1 hil h62 hall v w hv hh
    have IH := Lib.hid ih
    have Hall := Lib.hid hall
    clear ih hall
    have Hh := Lib.hid hh
    clear hh
    obtain ⟨A, cap, vs, rfl, h2, h3, h4, h5, h6⟩ := hv
    have hv : SSl w w.heap.size (.slice A ls.length cap) ls := ⟨A, cap, vs, rfl, h2, h3, h4, h5, h6⟩
    clear h4 h5 h6 vs
    go_enter Tryd.func76, Tryd.ntmps76
    by_cases hall' : i = ls.length
    · have Hp1 := Lib.hid (subM_all n ls i bb hall')
      subst hall'
      cases bb with
      | true =>
        go_wp2_with fail
        go_ret
        rw [Hp1.out]
        exact ⟨_, rfl, World.ownsRow_nil _ _ _ _, Below.refl _ _⟩
      | false =>
        go_wp2_with fail
        refine (r8root_any _ n ls.length ls (Nat.le_refl _) h62 (fun b hb => by have := Hall.out b hb; omega) _ w hv Hh.out).mono ?_
        rintro e W3 ⟨rfl, hb1⟩
        obtain ⟨d, hd⟩ : ∃ d, rootM n ls = d := ⟨_, rfl⟩
        have Hd := Lib.hid hd
        rw [hd]
        clear hd
        have hone := own_oneD W3 w.heap.size hb1.size d
        have hn1 := below_new1 W3 (Obj.cells (dat d) 27)
        have Hf := Lib.hid (And.intro hone (hb1.trans (hn1.mono hb1.size)))
        clear hone hn1 hb1
        go_wp2_with (first
          | (refine wpList_buildD rfl (.tmp 17) rfl d rfl ?_; refine wpl_at (fun V => V = W3.alloc (Obj.cells (dat d) 27)) rfl ?_; rintro V hV; have HV := Lib.hid hV; clear hV))
        go_ret
        rw [Hp1.out, if_neg (by decide), Hd.out, HV.out]
        exact ⟨_, rfl, Hf.out.1, Hf.out.2⟩
    have e1 : ((i : Int) == (ls.length : Int)) = false := by rw [beq_eq_false_iff_ne]; omega
    go_wp2_with fail
    have h2l : 2 ≤ ls.length := by omega
    refine (r8half_any ls.length h2l h62 w).mono ?_
    rintro e _ ⟨rfl, rfl⟩
    have Hp := Lib.hid (half_parts ls h2l)
    have Hn := Lib.hid (subM_node n ls i bb hall' h2l)
    clear e1 hall' h2l
    obtain ⟨k, hk⟩ : ∃ k, halfN ls.length = k := ⟨_, rfl⟩
    rw [hk] at Hp Hn ⊢
    clear hk
    have hkl : (k : Int) ≤ (ls.length : Int) := by have := Hp.out; omega
    have hk0 : (0 : Int) ≤ (k : Int) := by omega
    have hkc : (k : Int) ≤ (cap : Int) := by omega
    have hbel := Below.refl w.heap.size w
    by_cases hik : i ≤ k
    · have hik' : (i : Int) ≤ (k : Int) := by omega
      go_wp2_with fail
      refine wp_region_mixP (.plain 0 <| .plain 1 <| .plain 2 <| .plain 3 <| .plain 4 <| .plain 5 <| .plain 7 <| .plain 8 <| .plain 9 <| .plain 10 <| .only 6 <| .only 11 <| .only 12 <| .only 13 <| .plain 14 <| .done) (by kernel_rfl) (by kernel_rfl) (fun W1 hb1 => ?_)
      replace hbel := hbel.trans (hb1.mono hbel.size)
      clear hb1
      have hv1 := hv.next hbel
      have hT := hv1.take k (by omega)
      have hR := hv1.drop k (by omega)
      clear hv hv1
      iterate 10 (refine mix_plain rfl ?_; (first
        | (refine wpQuiet_cutL rfl _ (.tmp 33) (.tmp 34) rfl 32 Tryd.underlying24 (by kernel_rfl) A ls.length cap k rfl rfl (by omega) ?_; simp only [Act.put, List.setIfInBounds_toArray, List.set_cons_zero, List.set_cons_succ])
        | go_big_quiet_step (fail)); refine wpQuiet_nil ?_)
      obtain ⟨B0, hB0⟩ : ∃ B0, B0 = W1.heap.size := ⟨_, rfl⟩
      have HB0 := Lib.hid hB0
      have hb : Below B0 W1 W1 := by rw [hB0]; exact Below.refl _ _
      clear hB0
      refine mix_only_in rfl (fun K hK => ?_)
      go_wp2_with fail
      refine (IH.out (ls.take k) i bb (by have := Hp.out; omega) (by have := Hp.out; omega) (by have := Hp.out; omega) (by have := Hp.out; omega) (fun b hb => Hall.out b (List.mem_of_mem_take hb)) _ W1 hT (Hh.out.nxt hbel)).mono ?_
      rintro e W2 ⟨u2, rfl, hown, hb1⟩
      rw [← HB0.out] at hown hb1
      replace hb := hb1
      go_wp2_with fail
      refine hK _ _ (below_plusN HB0 hb) ?_
      clear hK K hb1
      have hR := hR.next (show Below W1.heap.size W1 W2 by rw [← HB0.out]; exact hb)
      refine mix_only_in rfl (fun K hK => ?_)
      go_wp2_with fail
      refine (r8root_any _ n (ls.drop k).length (ls.drop k) (Nat.le_refl _) (by have := Hp.out; omega) (fun b hb => by have := Hall.out b (List.mem_of_mem_drop hb); omega) _ W2 hR (Hh.out.nxt (hbel.trans ((show Below W1.heap.size W1 W2 by rw [← HB0.out]; exact hb).mono hbel.size)))).mono ?_
      rintro e W3 ⟨rfl, hb1⟩
      replace hown := own_below hown hb1
      replace hb := hb.trans (hb1.mono (below_sizeN HB0 hb))
      go_wp2_with fail
      refine hK _ _ (below_plusN HB0 hb) ?_
      clear hK K hb1 hR
      obtain ⟨d, hd⟩ : ∃ d, rootM n (ls.drop k) = d := ⟨_, rfl⟩
      have Hd := Lib.hid hd
      rw [hd]
      clear hd
      refine mix_only_in rfl (fun K hK => ?_)
      refine wpList_buildD rfl (.tmp 36) rfl d rfl ?_
      simp only [Act.put, List.setIfInBounds_toArray, List.set_cons_zero, List.set_cons_succ]
      have hX := Blk.new W3 27 (dat d)
      have hn1 := below_new1 W3 (Obj.cells (dat d) 27)
      replace hown := own_below hown hn1
      replace hb := hb.trans (hn1.mono (below_sizeN HB0 hb))
      refine hK _ _ (below_plusN HB0 hb) ?_
      clear hK K hn1
      refine mix_atC (fun V => Below B0 W1 V ∧ Blk V W3.heap.size 27 (dat d) ∧ V.ownsRow B0 27 32 u2 (subM n (ls.take k) i bb).length (dcells (subM n (ls.take k) i bb))) ⟨hb, hX, hown⟩ ?_
      clear hb hX hown
      rintro V ⟨hb, hX, hown⟩
      refine mix_only_in rfl (fun K hK => ?_)
      refine wpList_appendDig rfl (.tmp 31) (.tmp 37) rfl B0 u2 (subM n (ls.take k) i bb) rfl hown W3.heap.size d rfl hX (by have h62' := subM_depth n 62 (ls.take k) i bb (by have := Hp.out; omega) (by have := Hp.out; omega) (by have := Hp.out; omega); omega) (below_sizeN HB0 hb) ?_
      intro u5 W5 hown5 hg5
      simp only [Act.put, List.setIfInBounds_toArray, List.set_cons_zero, List.set_cons_succ]
      have hb5 := below_own hb hown hg5 (below_sizeN HB0 hb)
      refine hK _ _ (below_plusN HB0 hb5) ?_
      clear hK K hb hX hown hg5
      iterate 1 (refine mix_plain rfl ?_; go_big_quiet_step (fail); refine wpQuiet_nil ?_)
      refine mix_done ?_
      have hbf := hbel.trans ((show Below W1.heap.size W1 W5 by rw [← HB0.out]; exact hb5).mono hbel.size)
      have hownf := own_base hown5 (show w.heap.size ≤ B0 by rw [HB0.out]; exact hbel.size)
      have hpn := Hn.out
      rw [if_pos hik, Hd.out] at hpn
      rw [← hpn] at hownf
      have Hf := Lib.hid (And.intro hownf hbf)
      clear hownf hbf hpn hown5 hb5
      go_wp2_with fail
      go_ret
      exact ⟨_, rfl, Hf.out.1, Hf.out.2⟩
    · have hik' : ¬ ((i : Int) ≤ (k : Int)) := by omega
      have hsub : (i : Int) - (k : Int) = ((i - k : Nat) : Int) := by omega
      go_wp2_with fail
      refine wp_region_mixP (.plain 0 <| .plain 1 <| .plain 2 <| .plain 3 <| .plain 4 <| .plain 5 <| .plain 6 <| .plain 8 <| .plain 9 <| .plain 10 <| .plain 11 <| .only 7 <| .only 12 <| .only 13 <| .only 14 <| .plain 15 <| .done) (by kernel_rfl) (by kernel_rfl) (fun W1 hb1 => ?_)
      replace hbel := hbel.trans (hb1.mono hbel.size)
      clear hb1
      have hv1 := hv.next hbel
      have hT := hv1.take k (by omega)
      have hR := hv1.drop k (by omega)
      clear hv hv1
      iterate 11 (refine mix_plain rfl ?_; (first
        | (refine wpQuiet_cutL rfl _ (.tmp 43) (.tmp 44) rfl 32 Tryd.underlying24 (by kernel_rfl) A ls.length cap k rfl rfl (by omega) ?_; simp only [Act.put, List.setIfInBounds_toArray, List.set_cons_zero, List.set_cons_succ])
        | go_big_quiet_step (fail)); refine wpQuiet_nil ?_)
      obtain ⟨B0, hB0⟩ : ∃ B0, B0 = W1.heap.size := ⟨_, rfl⟩
      have HB0 := Lib.hid hB0
      have hb : Below B0 W1 W1 := by rw [hB0]; exact Below.refl _ _
      clear hB0
      refine mix_only_in rfl (fun K hK => ?_)
      go_wp2_with fail
      refine (IH.out (ls.drop k) (i - k) false (by have := Hp.out; omega) (by have := Hp.out; omega) (by have := Hp.out; omega) (by have := Hp.out; omega) (fun b hb => Hall.out b (List.mem_of_mem_drop hb)) _ W1 hR (Hh.out.nxt hbel)).mono ?_
      rintro e W2 ⟨u2, rfl, hown, hb1⟩
      rw [← HB0.out] at hown hb1
      replace hb := hb1
      go_wp2_with fail
      refine hK _ _ (below_plusN HB0 hb) ?_
      clear hK K hb1
      have hT := hT.next (show Below W1.heap.size W1 W2 by rw [← HB0.out]; exact hb)
      refine mix_only_in rfl (fun K hK => ?_)
      go_wp2_with fail
      refine (r8root_any _ n (ls.take k).length (ls.take k) (Nat.le_refl _) (by have := Hp.out; omega) (fun b hb => by have := Hall.out b (List.mem_of_mem_take hb); omega) _ W2 hT (Hh.out.nxt (hbel.trans ((show Below W1.heap.size W1 W2 by rw [← HB0.out]; exact hb).mono hbel.size)))).mono ?_
      rintro e W3 ⟨rfl, hb1⟩
      replace hown := own_below hown hb1
      replace hb := hb.trans (hb1.mono (below_sizeN HB0 hb))
      go_wp2_with fail
      refine hK _ _ (below_plusN HB0 hb) ?_
      clear hK K hb1 hT
      obtain ⟨d, hd⟩ : ∃ d, rootM n (ls.take k) = d := ⟨_, rfl⟩
      have Hd := Lib.hid hd
      rw [hd]
      clear hd
      refine mix_only_in rfl (fun K hK => ?_)
      refine wpList_buildD rfl (.tmp 51) rfl d rfl ?_
      simp only [Act.put, List.setIfInBounds_toArray, List.set_cons_zero, List.set_cons_succ]
      have hX := Blk.new W3 27 (dat d)
      have hn1 := below_new1 W3 (Obj.cells (dat d) 27)
      replace hown := own_below hown hn1
      replace hb := hb.trans (hn1.mono (below_sizeN HB0 hb))
      refine hK _ _ (below_plusN HB0 hb) ?_
      clear hK K hn1
      refine mix_atC (fun V => Below B0 W1 V ∧ Blk V W3.heap.size 27 (dat d) ∧ V.ownsRow B0 27 32 u2 (subM n (ls.drop k) (i - k) false).length (dcells (subM n (ls.drop k) (i - k) false))) ⟨hb, hX, hown⟩ ?_
      clear hb hX hown
      rintro V ⟨hb, hX, hown⟩
      refine mix_only_in rfl (fun K hK => ?_)
      refine wpList_appendDig rfl (.tmp 46) (.tmp 52) rfl B0 u2 (subM n (ls.drop k) (i - k) false) rfl hown W3.heap.size d rfl hX (by have h62' := subM_depth n 62 (ls.drop k) (i - k) false (by have := Hp.out; omega) (by have := Hp.out; omega) (by have := Hp.out; omega); omega) (below_sizeN HB0 hb) ?_
      intro u5 W5 hown5 hg5
      simp only [Act.put, List.setIfInBounds_toArray, List.set_cons_zero, List.set_cons_succ]
      have hb5 := below_own hb hown hg5 (below_sizeN HB0 hb)
      refine hK _ _ (below_plusN HB0 hb5) ?_
      clear hK K hb hX hown hg5
      iterate 1 (refine mix_plain rfl ?_; go_big_quiet_step (fail); refine wpQuiet_nil ?_)
      refine mix_done ?_
      have hbf := hbel.trans ((show Below W1.heap.size W1 W5 by rw [← HB0.out]; exact hb5).mono hbel.size)
      have hownf := own_base hown5 (show w.heap.size ≤ B0 by rw [HB0.out]; exact hbel.size)
      have hpn := Hn.out
      rw [if_neg hik, Hd.out] at hpn
      rw [← hpn] at hownf
      have Hf := Lib.hid (And.intro hownf hbf)
      clear hownf hbf hpn hown5 hb5
      go_wp2_with fail
      go_ret
      exact ⟨_, rfl, Hf.out.1, Hf.out.2⟩
set_option maxRecDepth 100000 in
theorem r8compare_out (h v : Value) (ls : List (List UInt8)) (i : Nat) (hi64 : i ≤ 18446744073709551615) (w : World) (hv : SSl w w.heap.size v ls) (h62 : ls.length ≤ 4611686018427387904) (hi : i = 0 ∨ ls.length < i) :
    Calls Tryd.prog 47 #[h, v, .int .u64 i] w fun e w' => e = .returned (.tuple #[.slice none 0 0, .int .i64 25]) ∧ Below w.heap.size w w' := by
  obtain ⟨A, cap, vs, rfl, h2, h3, h4, h5, h6⟩ := hv
  clear h4 h5 h6 vs
  have hb := Below.refl w.heap.size w
  by_cases h0 : i = 0
  · subst h0
    clear hi
    go_enter Tryd.func47, Tryd.ntmps47
    go_wp2_with fail
    go_ret2
    exact ⟨rfl, hb⟩
  · have e1 : ((i : Int) == 0) = false := by rw [beq_eq_false_iff_ne]; omega
    have hle : (ls.length : Int) < (i : Int) := by omega
    clear hi
    go_enter Tryd.func47, Tryd.ntmps47
    go_wp2_with fail
    go_ret2
    exact ⟨rfl, hb⟩
set_option maxRecDepth 100000 in
theorem r8compare_any (h v : Value) (n : Nat) (ls : List (List UInt8)) (i : Nat) (w : World) (hv : SSl w w.heap.size v ls) (h62 : ls.length ≤ 4611686018427387904) (hall : ∀ b ∈ ls, b.length ≤ 140737488351232) (h1i : 1 ≤ i) (hi : i ≤ ls.length) (hh : Hsr w w.heap.size h n) :
    Calls Tryd.prog 47 #[h, v, .int .u64 i] w fun e w' => ∃ u, e = .returned (.tuple #[u, .int .i64 0]) ∧ w'.ownsRow w.heap.size 27 32 u (subM n ls i true).length (dcells (subM n ls i true)) ∧ Below w.heap.size w w' := by
  have Hall := Lib.hid hall
  have Hh := Lib.hid hh
  clear hall hh
  obtain ⟨A, cap, vs, rfl, h2, h3, h4, h5, h6⟩ := hv
  have hv : SSl w w.heap.size (.slice A ls.length cap) ls := ⟨A, cap, vs, rfl, h2, h3, h4, h5, h6⟩
  clear h4 h5 h6 vs
  have hlt : ¬ ((ls.length : Int) < (i : Int)) := by omega
  have e1 : ((i : Int) == 0) = false := by rw [beq_eq_false_iff_ne]; omega
  go_enter Tryd.func47, Tryd.ntmps47
  go_wp2_with fail
  refine (r8part_any _ n ls.length ls i true (Nat.le_refl _) h1i hi h62 Hall.out _ w hv Hh.out).mono ?_
  rintro e w5 ⟨u, rfl, hown, hb1⟩
  have Hf := Lib.hid (And.intro hown hb1)
  clear hb1 hown
  go_wp2_with fail
  go_ret2
  exact ⟨_, rfl, Hf.out.1, Hf.out.2⟩
end Go.Proofs.YtbhmmoecoijojaaDoor
