/- The walk of the reference deponentref8's Prove. No condition. -/
import Derived.Test.YtbhmmoecoijojaaDoorRefO
namespace Go.Proofs.YtbhmmoecoijojaaDoor
open Go Go.RowKit
attribute [local irreducible] mixW
attribute [local go_sem] n8_lo n8_hi n64_lo n64_hi n32_lo n32_hi
theorem own_slice {w : World} {base s n : Nat} {e : TypeId} {v : Value} {xs : List Value} (h : w.ownsRow base e s v n xs) : ∃ A c, v = .slice A n c := by
  rcases h.2 with ⟨rfl, h0⟩ | ⟨g, cap, cur, e, _⟩
  · exact ⟨none, 0, by rw [h0]⟩
  · exact ⟨_, cap, e⟩
set_option maxRecDepth 100000 in
theorem r8prove_out (h v : Value) (ls : List (List UInt8)) (i : Nat) (hi64 : i ≤ 18446744073709551615) (w : World) (hv : SSl w w.heap.size v ls) (h62 : ls.length ≤ 4611686018427387904) (hi : ls.length ≤ i) :
    Calls Tryd.prog 46 #[h, v, .int .u64 i] w fun e w' => e = .returned (.tuple #[.slice none 0 0, .int .i64 25]) ∧ Below w.heap.size w w' := by
  obtain ⟨A, cap, vs, rfl, h2, h3, h4, h5, h6⟩ := hv
  clear h4 h5 h6 vs
  have hle : (ls.length : Int) ≤ (i : Int) := by omega
  have hb := Below.refl w.heap.size w
  go_enter Tryd.func46, Tryd.ntmps46
  go_wp2_with fail
  go_ret2
  exact ⟨rfl, hb⟩
set_option maxHeartbeats 1000000 in
set_option maxRecDepth 100000 in
theorem r8prove_any (h : Value) (n : Nat) : ∀ (N : Nat) (ls : List (List UInt8)) (i : Nat), ls.length ≤ N → i < ls.length → ls.length ≤ 4611686018427387904 → (∀ b ∈ ls, b.length ≤ 140737488351232) → ∀ (v : Value) (w : World), SSl w w.heap.size v ls → Hsr w w.heap.size h n →
    Calls Tryd.prog 46 #[h, v, .int .u64 i] w fun e w' => ∃ u, e = .returned (.tuple #[u, .int .i64 0]) ∧ w'.ownsRow w.heap.size 27 32 u (pathM n ls i).length (dcells (pathM n ls i)) ∧ Below w.heap.size w w' := by
  intro N
  induction N with
  | zero => intro ls i h1 h2; omega
  | succ N ih =>
    intro ls i hN hil h62 hall v w hv hh
    have IH := Lib.hid ih
    have Hall := Lib.hid hall
    have Hh := Lib.hid hh
    clear ih hall hh
    obtain ⟨A, cap, vs, rfl, h2, h3, h4, h5, h6⟩ := hv
    have hv : SSl w w.heap.size (.slice A ls.length cap) ls := ⟨A, cap, vs, rfl, h2, h3, h4, h5, h6⟩
    clear h4 h5 h6 vs
    have hlt : ¬ ((ls.length : Int) ≤ (i : Int)) := by omega
    go_enter Tryd.func46, Tryd.ntmps46
    by_cases hone : ls.length = 1
    · have e1 : ((ls.length : Int) == 1) = true := by rw [beq_iff_eq]; omega
      have Hp1 := Lib.hid (pathM_one n ls i (by omega))
      clear hone
      go_wp2_with fail
      go_ret2
      rw [Hp1.out]
      exact ⟨_, rfl, World.ownsRow_nil _ _ _ _, Below.refl _ _⟩
    have e1 : ((ls.length : Int) == 1) = false := by rw [beq_eq_false_iff_ne]; omega
    go_wp2_with fail
    have h2l : 2 ≤ ls.length := by omega
    refine (r8half_any ls.length h2l h62 w).mono ?_
    rintro e _ ⟨rfl, rfl⟩
    have Hp := Lib.hid (half_parts ls h2l)
    have Hn := Lib.hid (pathM_node n ls i h2l)
    clear e1 hone h2l
    obtain ⟨k, hk⟩ : ∃ k, halfN ls.length = k := ⟨_, rfl⟩
    rw [hk] at Hp Hn ⊢
    clear hk
    have hkl : (k : Int) ≤ (ls.length : Int) := by have := Hp.out; omega
    have hk0 : (0 : Int) ≤ (k : Int) := by omega
    have hkc : (k : Int) ≤ (cap : Int) := by omega
    have hT := hv.take k (by omega)
    have hR := hv.drop k (by omega)
    by_cases hik : i < k
    · have hik' : (i : Int) < (k : Int) := by omega
      go_wp2_with (first
        | (refine wpList_cutL rfl _ (.tmp 47) (.tmp 48) rfl 32 Tryd.underlying24 (by kernel_rfl) A ls.length cap k rfl rfl (by omega) ?_))
      refine (IH.out (ls.take k) i (by have := Hp.out; omega) (by have := Hp.out; omega) (by have := Hp.out; omega) (fun b hb => Hall.out b (List.mem_of_mem_take hb)) _ w hT Hh.out).mono ?_
      rintro e w2 ⟨u2, rfl, hown, hb1⟩
      have hO2 := hR.next hb1
      have Hh2 := Lib.hid (Hh.out.nxt hb1)
      obtain ⟨A2, c2, hu2⟩ := own_slice hown
      subst hu2
      have HW := Lib.hid (And.intro hown hb1)
      clear hown hb1 hv hT hR
      go_wp2_with (first
        | (refine wpList_cutL rfl _ (.tmp 39) (.tmp 40) rfl 32 Tryd.underlying24 (by kernel_rfl) A ls.length cap k rfl rfl (by omega) ?_))
      refine (r8root_any _ n (ls.drop k).length (ls.drop k) (Nat.le_refl _) (by have := Hp.out; omega) (fun b hb => Hall.out b (List.mem_of_mem_drop hb)) _ w2 hO2 Hh2.out).mono ?_
      rintro e w3 ⟨rfl, hb1⟩
      obtain ⟨d, hd⟩ : ∃ d, rootM n (ls.drop k) = d := ⟨_, rfl⟩
      have Hd := Lib.hid hd
      rw [hd]
      clear hd hO2
      have hn1 := below_new1 w3 (Obj.cells (dat d) 27)
      have hown := own_below (own_below HW.out.1 hb1) hn1
      have hbel := (HW.out.2.trans (hb1.mono HW.out.2.size)).trans (hn1.mono (Nat.le_trans HW.out.2.size hb1.size))
      have hX := Blk.new w3 27 (dat d)
      clear hb1 hn1
      go_wp2_with (first
        | (refine wpList_buildD rfl (.tmp 42) rfl d rfl ?_; refine wpl_at (fun V => V.ownsRow w.heap.size 27 32 (.slice A2 (pathM n (ls.take k) i).length c2) (pathM n (ls.take k) i).length (dcells (pathM n (ls.take k) i)) ∧ Below w.heap.size w V ∧ Blk V w3.heap.size 27 (dat d)) ⟨hown, hbel, hX⟩ ?_; clear hown hbel hX; rintro V ⟨hown, hbel, hX⟩)
        | (at_builtin; refine wpList_appendDig rfl (.tmp 37) (.tmp 43) rfl w.heap.size _ (pathM n (ls.take k) i) rfl hown w3.heap.size d rfl hX (by have h62' := pathM_depth n 62 (ls.take k) i (by have := Hp.out; omega); omega) hbel.size ?_; intro u5 w5 hown5 hg5; have hb5 := below_own hbel hown hg5 hbel.size; clear hown hbel hX hg5))
      have hpn := Hn.out
      rw [if_pos hik, Hd.out] at hpn
      rw [← hpn] at hown5
      go_ret2
      exact ⟨_, rfl, hown5, hb5⟩
    · have hik' : ¬ ((i : Int) < (k : Int)) := by omega
      have hsub : (i : Int) - (k : Int) = ((i - k : Nat) : Int) := by omega
      go_wp2_with (first
        | (refine wpList_cutL rfl _ (.tmp 47) (.tmp 48) rfl 32 Tryd.underlying24 (by kernel_rfl) A ls.length cap k rfl rfl (by omega) ?_))
      refine (IH.out (ls.drop k) (i - k) (by have := Hp.out; omega) (by have := Hp.out; omega) (by have := Hp.out; omega) (fun b hb => Hall.out b (List.mem_of_mem_drop hb)) _ w hR Hh.out).mono ?_
      rintro e w2 ⟨u2, rfl, hown, hb1⟩
      have hO2 := hT.next hb1
      have Hh2 := Lib.hid (Hh.out.nxt hb1)
      obtain ⟨A2, c2, hu2⟩ := own_slice hown
      subst hu2
      have HW := Lib.hid (And.intro hown hb1)
      clear hown hb1 hv hT hR
      go_wp2_with (first
        | (refine wpList_cutL rfl _ (.tmp 39) (.tmp 40) rfl 32 Tryd.underlying24 (by kernel_rfl) A ls.length cap k rfl rfl (by omega) ?_))
      refine (r8root_any _ n (ls.take k).length (ls.take k) (Nat.le_refl _) (by have := Hp.out; omega) (fun b hb => Hall.out b (List.mem_of_mem_take hb)) _ w2 hO2 Hh2.out).mono ?_
      rintro e w3 ⟨rfl, hb1⟩
      obtain ⟨d, hd⟩ : ∃ d, rootM n (ls.take k) = d := ⟨_, rfl⟩
      have Hd := Lib.hid hd
      rw [hd]
      clear hd hO2
      have hn1 := below_new1 w3 (Obj.cells (dat d) 27)
      have hown := own_below (own_below HW.out.1 hb1) hn1
      have hbel := (HW.out.2.trans (hb1.mono HW.out.2.size)).trans (hn1.mono (Nat.le_trans HW.out.2.size hb1.size))
      have hX := Blk.new w3 27 (dat d)
      clear hb1 hn1
      go_wp2_with (first
        | (refine wpList_buildD rfl (.tmp 62) rfl d rfl ?_; refine wpl_at (fun V => V.ownsRow w.heap.size 27 32 (.slice A2 (pathM n (ls.drop k) (i - k)).length c2) (pathM n (ls.drop k) (i - k)).length (dcells (pathM n (ls.drop k) (i - k))) ∧ Below w.heap.size w V ∧ Blk V w3.heap.size 27 (dat d)) ⟨hown, hbel, hX⟩ ?_; clear hown hbel hX; rintro V ⟨hown, hbel, hX⟩)
        | (at_builtin; refine wpList_appendDig rfl (.tmp 57) (.tmp 63) rfl w.heap.size _ (pathM n (ls.drop k) (i - k)) rfl hown w3.heap.size d rfl hX (by have h62' := pathM_depth n 62 (ls.drop k) (i - k) (by have := Hp.out; omega); omega) hbel.size ?_; intro u5 w5 hown5 hg5; have hb5 := below_own hbel hown hg5 hbel.size; clear hown hbel hX hg5))
      have hpn := Hn.out
      rw [if_neg hik, Hd.out] at hpn
      rw [← hpn] at hown5
      go_ret2
      exact ⟨_, rfl, hown5, hb5⟩
end Go.Proofs.YtbhmmoecoijojaaDoor
