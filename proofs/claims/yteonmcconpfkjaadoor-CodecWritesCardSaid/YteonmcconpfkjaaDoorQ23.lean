/- Texts that stand behind one another: Rr, RrN, RrD, AskP. No condition. -/
import Derived.Test.YteonmcconpfkjaaDoorQ10
import Derived.Test.YteonmcconpfkjaaDoorQ11
import Derived.Test.YteonmcconpfkjaaDoorQ1
/- The walks of the reference's Reader: width, refuse, take. No condition. -/
namespace Go.Proofs.YteonmcconpfkjaaDoor
open Go Go.RowKit
attribute [local irreducible] mixW
attribute [local go_sem] n8_lo n8_hi n64_lo n64_hi
theorem width2_any (k : Int) (hk : -9223372036854775808 ≤ k ∧ k ≤ 9223372036854775807) (w : World) : Calls Tryd.prog 150 #[.int .i64 k] w fun e w' => e = .returned (.int .i64 (clamp8 k)) ∧ w = w' := by
  obtain ⟨h1, h2⟩ := hk
  have hc : clamp8 k = if k < 1 then 1 else if k > 8 then 8 else k.toNat := rfl
  by_cases a : k < 1
  · rw [if_pos a] at hc
    have Hc := Lib.hid hc
    clear hc
    go_enter Tryd.func150, Tryd.ntmps150
    go_wp2
    go_ret
    exact ⟨by rw [Hc.out]; rfl, rfl⟩
  · rw [if_neg a] at hc
    by_cases b : k > 8
    · rw [if_pos b] at hc
      have Hc := Lib.hid hc
      clear hc
      go_enter Tryd.func150, Tryd.ntmps150
      go_wp2
      go_ret
      exact ⟨by rw [Hc.out]; rfl, rfl⟩
    · rw [if_neg b] at hc
      have Hc := Lib.hid hc
      clear hc
      go_enter Tryd.func150, Tryd.ntmps150
      go_wp2
      go_ret
      exact ⟨by rw [Hc.out, Int.toNat_of_nonneg (by omega)]; rfl, rfl⟩
/-- the cells of a reference's Reader -/
def rrC (A : Option Addr) (cap : Nat) (s : RdL) : Array Value :=
  #[.slice A s.bs.length cap, .int .i64 (s.pos : Int), .int .i64 (((s.no.getD (0, 0)).2 : Nat) : Int), .int .i64 (((s.no.getD (0, 0)).1 : Nat) : Int), .bool s.no.isSome]
/-- a reference's Reader in block g; what it reads lies below block B -/
def RRd (w : World) (B g : Nat) (A : Option Addr) (cap : Nat) (s : RdL) : Prop :=
  B ≤ g ∧ Blk w g 146 (rrC A cap s) ∧ BSl w B (.slice A s.bs.length cap) s.bs ∧ s.pos ≤ s.bs.length ∧ s.bs.length ≤ 140737488355328
section
variable {w w' : World} {B g : Nat} {A : Option Addr} {cap : Nat} {s s' : RdL}
theorem bsl_grown {v : Value} {bs : List UInt8} (h : BSl w B v bs) (hg : w.grownBy w' (some g)) (hB : B ≤ g) (hs : B ≤ w.heap.size) : BSl w' B v bs := by
  obtain ⟨A, c, e, h1, h2, hr⟩ := h
  exact ⟨A, c, e, h1, h2, hr.grown hg hs (fun k e => by injection e with e; omega)⟩
theorem RRd.put (h : RRd w B g A cap s) (hg : w.grownBy w' (some g)) (hb : Blk w' g 146 (rrC A cap s')) (e : s'.bs = s.bs) (hp : s'.pos ≤ s.bs.length) : RRd w' B g A cap s' := by
  obtain ⟨h1, h2, h3, h4, h5⟩ := h
  exact ⟨h1, hb, by rw [e]; exact bsl_grown h3 hg h1 (by have := h2.lt; omega), by rw [e]; exact hp, by rw [e]; exact h5⟩
theorem RRd.below (h : RRd w B g A cap s) (hb : Below w.heap.size w w') : RRd w' B g A cap s := by
  obtain ⟨h1, h2, h3, h4, h5⟩ := h
  exact ⟨h1, h2.below hb h2.lt, h3.below (hb.mono (by have := h2.lt; omega)), h4, h5⟩
theorem RRd.other {k : Nat} {t : TypeId} {cs : Array Value} (h : RRd w B g A cap s) (hg : w.grownBy w' (some k)) (hk : Blk w k t cs) (ht : t ≠ 146) (hB : B ≤ k) : RRd w' B g A cap s := by
  obtain ⟨h1, h2, h3, h4, h5⟩ := h
  refine ⟨h1, h2.grown hg (fun e => ?_), bsl_grown h3 hg hB (by have := h2.lt; omega), h4, h5⟩
  injection e with e
  subst e
  have : some (Obj.cells _ _ _) = some (Obj.cells _ _ _) := hk.symm.trans h2
  injection this with this
  injection this with _ h3 _
  exact ht h3
end
set_option maxRecDepth 100000 in
theorem rrefuse_any (w : World) (B g : Nat) (A : Option Addr) (cap : Nat) (s : RdL) (at' why : Nat) (hat : at' ≤ 9223372036854775807) (hwhy : why ≤ 1000) (h0 : why ≠ 0) (hR : RRd w B g A cap s) :
    Calls Tryd.prog 152 #[.pointer (some ⟨g, 0, none⟩), .int .i64 (at' : Int), .int .i64 (why : Int)] w fun e w' => e = .returned (.tuple #[]) ∧ RRd w' B g A cap (s.refuse at' why) ∧ w.grownBy w' (some g) := by
  have hb := hR.2.1
  have hk4 : w.cell? ⟨g, 4, none⟩ = some (.bool s.no.isSome) := hb.cell 4
  have HR := Lib.hid hR
  clear hR
  obtain ⟨y, hy⟩ : ∃ y, s.refuse at' why = y := ⟨_, rfl⟩
  rw [hy]
  unfold RdL.refuse at hy
  cases hno : s.no with
  | some x =>
    rw [hno] at hy hk4
    simp only [Option.isSome_some, if_true] at hy hk4
    subst hy
    clear hb hno
    go_enter Tryd.func152, Tryd.ntmps152
    go_wp2_with fail
    exact bodyPost_end (results_none rfl _ _ _) rfl ⟨rfl, HR.out, World.grownBy.refl w _⟩
  | none =>
    rw [hno] at hy hk4
    simp only [Option.isSome_none, Bool.false_eq_true, if_false, if_neg h0] at hy hk4
    have hb : Blk w g 146 #[.slice A s.bs.length cap, .int .i64 (s.pos : Int), .int .i64 0, .int .i64 0, .bool false] := by
      have := hb; unfold rrC at this; rw [hno] at this; exact this
    have Hy := Lib.hid hy
    clear hy hno h0
    go_enter Tryd.func152, Tryd.ntmps152
    go_wp2_with (first
      | (refine wpList_store1 rfl rfl _ (.tmp 13) (.const (.bool true)) rfl g 4 rfl _ rfl 146 _ hb (by kernel_rfl) (show 4 < 5 by decide) rfl rfl ?_; intro w1 hb1 hg1)
      | (refine wpList_store1 rfl rfl _ (.tmp 17) (.tmp 15) rfl g 2 rfl _ rfl 146 _ hb1 (by kernel_rfl) (show 2 < 5 by decide) rfl rfl ?_; intro w2 hb2 hg2)
      | (refine wpList_store1 rfl rfl _ (.tmp 21) (.tmp 19) rfl g 3 rfl _ rfl 146 _ hb2 (by kernel_rfl) (show 3 < 5 by decide) rfl rfl ?_; intro w3 hb3 hg3))
    have hg13 := grown_trans (grown_trans hg1 hg2) hg3
    have hR3 : RRd w3 B g A cap y := HR.out.put hg13 (by rw [← Hy.out]; exact hb3) (by rw [← Hy.out]) (by rw [← Hy.out]; exact HR.out.2.2.2.1)
    exact bodyPost_end (results_none rfl _ _ _) rfl ⟨rfl, hR3, hg13⟩
set_option maxHeartbeats 1000000 in
set_option maxRecDepth 100000 in
theorem rtake_any (w : World) (B g : Nat) (A : Option Addr) (c : Nat) (s : RdL) (n : Nat) (hn : n ≤ 1000000) (hR : RRd w B g A c s) :
    Calls Tryd.prog 151 #[.pointer (some ⟨g, 0, none⟩), .int .i64 (n : Int)] w fun e w' => ∃ v, e = .returned v ∧ BSl w' w'.heap.size v (s.take n).1 ∧ RRd w' B g A c (s.take n).2 ∧ w.grownBy w' (some g) := by
  have hb := hR.2.1
  have hk4 : w.cell? ⟨g, 4, none⟩ = some (.bool s.no.isSome) := hb.cell 4
  have HR := Lib.hid hR
  clear hR
  obtain ⟨y, hy⟩ : ∃ y, s.take n = y := ⟨_, rfl⟩
  rw [hy]
  unfold RdL.take at hy
  cases hno : s.no with
  | some x =>
    rw [hno] at hy hk4
    simp only [Option.isSome_some, if_true] at hy hk4
    subst hy
    clear hb hno
    go_enter Tryd.func151, Tryd.ntmps151
    go_wp2_with fail
    go_ret
    exact ⟨_, rfl, BSl.nil_, HR.out, World.grownBy.refl w _⟩
  | none =>
    rw [hno] at hy hk4
    simp only [Option.isSome_none, Bool.false_eq_true, if_false] at hy hk4
    have hs := Lib.hid (And.intro hno hy)
    have b4 := HR.out.2.2.2.1
    have b5 := HR.out.2.2.2.2
    have hcap : s.bs.length ≤ c := by obtain ⟨_, _, e, h, _⟩ := HR.out.2.2.1; injection e with _ _ e; subst e; exact h
    have hb2 : Blk w g 146 #[.slice A s.bs.length c, .int .i64 (s.pos : Int), .int .i64 0, .int .i64 0, .bool false] := by
      have := hb; unfold rrC at this; rw [hno] at this; exact this
    obtain ⟨L, hL⟩ : ∃ L, s.bs.length = L := ⟨_, rfl⟩
    obtain ⟨p, hp⟩ : ∃ p, s.pos = p := ⟨_, rfl⟩
    rw [hL] at b4 b5 hcap
    rw [hp] at b4
    rw [hL, hp] at hb2
    have HLp := Lib.hid (And.intro hL hp)
    have HF1 := Lib.hid hb2
    clear hb hb2 hno hy hL hp
    go_enter Tryd.func151, Tryd.ntmps151
    go_upto_region 3 with fail
    refine wp_region_mixP (.plain 0 <| .plain 1 <| .plain 2 <| .plain 3 <| .plain 4 <| .plain 5 <| .plain 6 <| .plain 7 <| .plain 8 <| .plain 9 <| .plain 10 <| .plain 11 <| .done) (by kernel_rfl) (by kernel_rfl) (fun W1 hb1 => ?_)
    have hbk1 := HF1.out.below hb1 HF1.out.lt
    have d0 : ∀ z, (plus W1 z).cell? ⟨g, 0, none⟩ = some (.slice A L c) := fun z => (hbk1.plus z).cell 0
    have d1 : ∀ z, (plus W1 z).cell? ⟨g, 1, none⟩ = some (.int .i64 (p : Int)) := fun z => (hbk1.plus z).cell 1
    iterate 12 (refine mix_plain rfl ?_; go_big_quiet_step (fail); refine wpQuiet_nil ?_)
    clear d0 d1 hk4
    refine mix_done ?_
    have hk0 : W1.cell? ⟨g, 0, none⟩ = some (.slice A L c) := hbk1.cell 0
    have hk1 : W1.cell? ⟨g, 1, none⟩ = some (.int .i64 (p : Int)) := hbk1.cell 1
    by_cases hlt : L < p + n
    · have hlt' : (L : Int) - (p : Int) < (n : Int) := by omega
      have hy := hs.out.2
      rw [HLp.out.1, HLp.out.2, if_pos hlt] at hy
      have Hy := Lib.hid hy
      clear hlt hy
      go_wp2_with fail
      refine (rrefuse_any W1 B g A c s L 10 (by omega) (by decide) (by decide) (HR.out.below hb1)).mono ?_
      rintro e W2 ⟨rfl, hR2, hg2⟩
      have hR3 : RRd W2 B g A c y.2 := by
        have : s.refuse L 10 = y.2 := by rw [← Hy.out]; unfold RdL.refuse; rw [hs.out.1, HLp.out.2]; rfl
        rw [← this]; exact hR2
      have HR3 := Lib.hid (And.intro hR3 (grown_trans (below_grown (some g) hb1) hg2))
      clear hR2 hR3 hg2
      go_wp2_with fail
      go_ret
      exact ⟨_, rfl, by rw [← Hy.out]; exact BSl.nil_, HR3.out.1, HR3.out.2⟩
    · have hge' : (n : Int) ≤ (L : Int) - (p : Int) := by omega
      have hy := hs.out.2
      rw [HLp.out.1, HLp.out.2, if_neg hlt] at hy
      have Hy := Lib.hid hy
      have hpn : p + n ≤ L := by omega
      clear hlt hy
      go_upto_region 6 with fail
      clear hk0 hk1
      refine wp_region_mixP (.plain 0 <| .plain 1 <| .plain 2 <| .plain 3 <| .plain 4 <| .plain 5 <| .plain 6 <| .plain 7 <| .plain 8 <| .plain 9 <| .plain 10 <| .plain 11 <| .plain 12 <| .plain 13 <| .plain 14 <| .plain 15 <| .done) (by kernel_rfl) (by kernel_rfl) (fun W3 hb3 => ?_)
      have hbk3 := hbk1.below hb3 hbk1.lt
      have d0 : ∀ z, (plus W3 z).cell? ⟨g, 0, none⟩ = some (.slice A L c) := fun z => (hbk3.plus z).cell 0
      have d1 : ∀ z, (plus W3 z).cell? ⟨g, 1, none⟩ = some (.int .i64 (p : Int)) := fun z => (hbk3.plus z).cell 1
      iterate 16 (refine mix_plain rfl ?_; (first
        | (refine wpQuiet_cutLH rfl 22 (.tmp 32) (.tmp 36) (.tmp 42) rfl 5 Tryd.underlying22 (by kernel_rfl) A L c p (p + n) rfl rfl rfl (by omega) (by omega) ?_; simp only [Act.put, List.setIfInBounds_toArray, List.set_cons_zero, List.set_cons_succ])
        | go_big_quiet_step (fail)); refine wpQuiet_nil ?_)
      clear d0 d1
      refine mix_done ?_
      have hk1 : W3.cell? ⟨g, 1, none⟩ = some (.int .i64 (p : Int)) := hbk3.cell 1
      go_wp2_with (first
        | (refine wpList_store1 rfl rfl _ (.tmp 52) (.tmp 50) rfl g 1 rfl _ rfl 146 _ hbk3 (by kernel_rfl) (show 1 < 5 by decide) rfl rfl ?_; intro W4 hb4 hg4))
      go_ret
      have hg14 := grown_trans (below_grown (some g) (hb1.trans (hb3.mono hb1.size))) hg4
      have hR4 : RRd W4 B g A c y.2 := HR.out.put hg14 (by
        rw [← Hy.out]
        unfold rrC
        simp only [hs.out.1, HLp.out.1]
        exact hb4) (by rw [← Hy.out]) (by rw [← Hy.out, HLp.out.1]; exact hpn)
      have hbs := HR.out.2.2.1
      have hBs : BSl W4 W4.heap.size (.slice A s.bs.length c) s.bs := (bsl_grown hbs hg14 HR.out.1 (by have := HR.out.2.1.lt; have := HR.out.1; omega)).more (by have := HR.out.2.1.lt; have := HR.out.1; have := hg14.size; omega)
      rw [HLp.out.1] at hBs
      have hcut := cut_b hBs p (p + n) (Nat.le_add_right _ _) hpn
      rw [show (s.bs.take (p + n)).drop p = (s.bs.drop p).take n by rw [List.drop_take, Nat.add_sub_cancel_left]] at hcut
      exact ⟨_, rfl, by rw [← Hy.out]; exact hcut, hR4, hg14⟩
end Go.Proofs.YteonmcconpfkjaaDoor

/- The walks of the reference's Reader: Number, Bytes, Digest, Fail, End. No condition. -/
namespace Go.Proofs.YteonmcconpfkjaaDoor
open Go Go.RowKit
attribute [local irreducible] mixW
attribute [local go_sem] n8_lo n8_hi n64_lo n64_hi
set_option maxHeartbeats 1000000 in
set_option maxRecDepth 100000 in
theorem rrNumber_any (w : World) (B g : Nat) (A : Option Addr) (c : Nat) (s : RdL) (k : Int) (hk : -9223372036854775808 ≤ k ∧ k ≤ 9223372036854775807) (hR : RRd w B g A c s) :
    Calls Tryd.prog 81 #[.pointer (some ⟨g, 0, none⟩), .int .i64 k] w fun e w' => e = .returned (.int .u64 (((s.number k).1 : Nat) : Int)) ∧ RRd w' B g A c (s.number k).2 ∧ w.grownBy w' (some g) := by
  obtain ⟨y, hy⟩ : ∃ y, s.number k = y := ⟨_, rfl⟩
  rw [hy]
  unfold RdL.number at hy
  have HR := Lib.hid hR
  clear hR
  go_enter Tryd.func81, Tryd.ntmps81
  go_wp2_with fail
  refine (width2_any k hk w).mono ?_
  rintro e _ ⟨rfl, rfl⟩
  have h8 := clamp8_hi k
  have h1 := clamp8_lo k
  generalize clamp8 k = m at hy h8 h1 ⊢
  go_wp2_with fail
  refine (rtake_any w B g A c s m (by omega) HR.out).mono ?_
  rintro e w1 ⟨v, rfl, hv, hR1, hg1⟩
  have hle := s.take_le m
  obtain ⟨bs, hbs⟩ : ∃ bs, (s.take m).1 = bs := ⟨_, rfl⟩
  rw [hbs] at hv hle hy
  obtain ⟨A', c', rfl, hc1, hc2, hrd⟩ := hv
  have hv : BSl w1 w1.heap.size (.slice A' bs.length c') bs := ⟨A', c', rfl, hc1, hc2, hrd⟩
  have HS : Hid (y = (numF bs, (s.take m).2)) := Lib.hid hy.symm
  have HF := Lib.hid (And.intro hv (And.intro hR1 hg1))
  clear hv hrd hR1 hg1 hbs hy
  have hb8 : bs.length ≤ 8 := by omega
  go_wp2_with fail
  go_loopw [5, 7, 13] (fun nv _ jv wr => ∃ j : Nat, j ≤ bs.length ∧ jv = .int .i64 j ∧ nv = .int .u64 ((numF (bs.take j) : Nat) : Int) ∧ wr = w1) (fun _ _ jv _ => bs.length - (intOf jv).toNat)
  case atStart => exact ⟨0, Nat.zero_le _, rfl, rfl, rfl⟩
  case round =>
    obtain ⟨j, hj, rfl, rfl, rfl⟩ := hrel
    by_cases hlt : j < bs.length
    · have hlt' : (j : Int) < (bs.length : Int) := by omega
      obtain ⟨b, off, rfl, hbb, hcell⟩ := HF.out.1.cell0 j hlt
      have hcj := hcell j hlt
      have hst := Lib.hid (numF_step bs j hlt)
      have hsm := numF_lt (bs.take j)
      have hl7 : (bs.take j).length ≤ 7 := by rw [List.length_take]; omega
      have hp : 256 ^ (bs.take j).length ≤ 256 ^ 7 := Nat.pow_le_pow_right (by decide) hl7
      have hp7 : (256 : Nat) ^ 7 = 72057594037927936 := by decide
      have hc8 := (bs.getD j 0).toNat_lt
      obtain ⟨x, hx⟩ : ∃ x, numF (bs.take j) = x := ⟨_, rfl⟩
      obtain ⟨cc, hcc⟩ : ∃ cc : Nat, n8 (bs.getD j 0) = (cc : Int) := ⟨(bs.getD j 0).toNat, rfl⟩
      have hcc2 : cc < 256 := by have : (cc : Int) = ((bs.getD j 0).toNat : Int) := hcc.symm; omega
      have hx2 : x < 72057594037927936 := by rw [← hx]; omega
      have Hx := Lib.hid (And.intro hx (show (bs.getD j 0).toNat = cc by have : (cc : Int) = ((bs.getD j 0).toNat : Int) := hcc.symm; omega))
      rw [hcc] at hcj
      rw [hx]
      clear hcell hsm hl7 hp hp7 hc8 hx hcc hlt
      go_wp2_with fail
      refine ⟨⟨j + 1, by omega, by go_num, ?_, trivial⟩, by simp [intOf]; omega⟩
      rw [hst.out, Hx.out.1, Hx.out.2]
      congr 1
    · have ej : j = bs.length := by omega
      have hge : (bs.length : Int) ≤ (j : Int) := by omega
      have hfin : numF (bs.take j) = numF bs := by rw [ej, List.take_length]
      rw [hfin]
      clear hlt ej hfin
      go_wp2_with fail
      go_ret
      rw [HS.out]
      exact ⟨rfl, HF.out.2.1, HF.out.2.2⟩
set_option maxRecDepth 100000 in
theorem rrFail_any (w : World) (B g : Nat) (A : Option Addr) (c : Nat) (s : RdL) (why : Nat) (hwhy : why ≤ 1000) (hR : RRd w B g A c s) :
    Calls Tryd.prog 85 #[.pointer (some ⟨g, 0, none⟩), .int .i64 (why : Int)] w fun e w' => e = .returned (.tuple #[]) ∧ RRd w' B g A c (s.refuse s.pos why) ∧ w.grownBy w' (some g) := by
  have hk1 : w.cell? ⟨g, 1, none⟩ = some (.int .i64 (s.pos : Int)) := hR.2.1.cell 1
  have hpos : s.pos ≤ 140737488355328 := by have := hR.2.2.2.1; have := hR.2.2.2.2; omega
  have HR := Lib.hid hR
  clear hR
  by_cases h0 : why = 0
  · subst h0
    have hr : s.refuse s.pos 0 = s := by unfold RdL.refuse; split <;> simp
    rw [hr]
    go_enter Tryd.func85, Tryd.ntmps85
    go_wp2_with fail
    exact bodyPost_end (results_none rfl _ _ _) rfl ⟨rfl, HR.out, World.grownBy.refl w _⟩
  · have h0' : ((why : Int) != 0) = true := by simp; omega
    go_enter Tryd.func85, Tryd.ntmps85
    go_wp2_with fail
    refine (rrefuse_any w B g A c s s.pos why (by omega) hwhy h0 HR.out).mono ?_
    rintro e w1 ⟨rfl, hR1, hg1⟩
    have H1 := Lib.hid (And.intro hR1 hg1)
    clear hR1 hg1
    go_wp2_with fail
    exact bodyPost_end (results_none rfl _ _ _) rfl ⟨rfl, H1.out.1, H1.out.2⟩
set_option maxHeartbeats 1000000 in
set_option maxRecDepth 100000 in
theorem rrEnd_any (w : World) (B g : Nat) (A : Option Addr) (c : Nat) (s : RdL) (hR : RRd w B g A c s) :
    Calls Tryd.prog 86 #[.pointer (some ⟨g, 0, none⟩)] w fun e w' => e = .returned (.tuple #[.int .i64 (((s.stop.getD (0, 0)).1 : Nat) : Int), .int .i64 (((s.stop.getD (0, 0)).2 : Nat) : Int)]) ∧ Below w.heap.size w w' := by
  have hb := hR.2.1
  have hk4 : w.cell? ⟨g, 4, none⟩ = some (.bool s.no.isSome) := hb.cell 4
  obtain ⟨y, hy⟩ : ∃ y, s.stop = y := ⟨_, rfl⟩
  rw [hy]
  unfold RdL.stop at hy
  have HB := Lib.hid hb
  clear hb
  cases hno : s.no with
  | some x =>
    rw [hno] at hy hk4
    simp only [Option.isSome_some] at hy hk4
    subst hy
    have hb : Blk w g 146 #[.slice A s.bs.length c, .int .i64 (s.pos : Int), .int .i64 ((x.2 : Nat) : Int), .int .i64 ((x.1 : Nat) : Int), .bool true] := by
      have := HB.out; unfold rrC at this; rw [hno] at this; exact this
    have HB := Lib.hid hb
    clear hb hno hR
    go_enter Tryd.func86, Tryd.ntmps86
    go_upto_region 2 with fail
    refine wp_region_mixP (.plain 0 <| .plain 1 <| .plain 2 <| .plain 3 <| .plain 4 <| .plain 5 <| .plain 6 <| .plain 7 <| .plain 8 <| .plain 9 <| .done) (by kernel_rfl) (by kernel_rfl) (fun W1 hb1 => ?_)
    have hbk1 := HB.out.below hb1 HB.out.lt
    have d2 : ∀ z, (plus W1 z).cell? ⟨g, 2, none⟩ = some (.int .i64 ((x.2 : Nat) : Int)) := fun z => (hbk1.plus z).cell 2
    have d3 : ∀ z, (plus W1 z).cell? ⟨g, 3, none⟩ = some (.int .i64 ((x.1 : Nat) : Int)) := fun z => (hbk1.plus z).cell 3
    iterate 10 (refine mix_plain rfl ?_; go_big_quiet_step (fail); refine wpQuiet_nil ?_)
    clear d2 d3 hk4 hbk1
    refine mix_done ?_
    go_wp2_with fail
    go_ret2
    exact ⟨rfl, hb1⟩
  | none =>
    rw [hno] at hy hk4
    simp only [Option.isSome_none] at hy hk4
    have hb : Blk w g 146 #[.slice A s.bs.length c, .int .i64 (s.pos : Int), .int .i64 0, .int .i64 0, .bool false] := by
      have := HB.out; unfold rrC at this; rw [hno] at this; exact this
    have b4 := hR.2.2.2.1
    have b5 := hR.2.2.2.2
    obtain ⟨L, hL⟩ : ∃ L, s.bs.length = L := ⟨_, rfl⟩
    obtain ⟨p, hp⟩ : ∃ p, s.pos = p := ⟨_, rfl⟩
    rw [hL, hp] at hy hb b4
    rw [hL] at b5
    have HB := Lib.hid hb
    have Hy := Lib.hid hy
    clear hb hno hR hL hp hy
    go_enter Tryd.func86, Tryd.ntmps86
    go_upto_region 3 with fail
    refine wp_region_mixP (.plain 0 <| .plain 1 <| .plain 2 <| .plain 3 <| .plain 4 <| .plain 5 <| .plain 6 <| .plain 7 <| .plain 8 <| .plain 9 <| .done) (by kernel_rfl) (by kernel_rfl) (fun W1 hb1 => ?_)
    have hbk1 := HB.out.below hb1 HB.out.lt
    have d0 : ∀ z, (plus W1 z).cell? ⟨g, 0, none⟩ = some (.slice A L c) := fun z => (hbk1.plus z).cell 0
    have d1 : ∀ z, (plus W1 z).cell? ⟨g, 1, none⟩ = some (.int .i64 (p : Int)) := fun z => (hbk1.plus z).cell 1
    iterate 10 (refine mix_plain rfl ?_; go_big_quiet_step (fail); refine wpQuiet_nil ?_)
    clear d0 d1 hk4
    refine mix_done ?_
    have hk1 : W1.cell? ⟨g, 1, none⟩ = some (.int .i64 (p : Int)) := hbk1.cell 1
    by_cases hlt : p < L
    · have hlt' : (p : Int) < (L : Int) := by omega
      have hy := Hy.out
      rw [if_pos hlt] at hy
      subst hy
      clear hlt hbk1
      go_wp2_with fail
      go_ret2
      exact ⟨rfl, hb1⟩
    · have hge : (L : Int) ≤ (p : Int) := by omega
      have hy := Hy.out
      rw [if_neg hlt] at hy
      subst hy
      clear hlt hbk1
      go_wp2_with fail
      go_ret2
      exact ⟨rfl, hb1⟩
end Go.Proofs.YteonmcconpfkjaaDoor

/- The walks of the reference's Reader: Bytes, Digest. No condition. -/
namespace Go.Proofs.YteonmcconpfkjaaDoor
open Go Go.RowKit
attribute [local irreducible] mixW
attribute [local go_sem] n8_lo n8_hi n64_lo n64_hi
theorem RRd.lt {w : World} {B g : Nat} {A : Option Addr} {c : Nat} {s : RdL} (h : RRd w B g A c s) : g < w.heap.size := h.2.1.lt
set_option maxHeartbeats 1000000 in
set_option maxRecDepth 100000 in
theorem rrDigest_any (w : World) (B g : Nat) (A : Option Addr) (c : Nat) (s : RdL) (hR : RRd w B g A c s) :
    Calls Tryd.prog 84 #[.pointer (some ⟨g, 0, none⟩)] w fun e w' => e = .returned (.agg (dat s.digest.1)) ∧ RRd w' B g A c s.digest.2 ∧ w.grownBy w' (some g) := by
  have hZ := (Blk.new w 43 (arr 32 fun _ => 0)).alloc (Obj.cells (arr 32 fun _ => 0) 43)
  have hY := Blk.new2 w (Obj.cells (arr 32 fun _ => 0) 43) 43 (arr 32 fun _ => 0)
  have hb2 := (below_new1 w (Obj.cells (arr 32 fun _ => 0) 43)).alloc (below_new1 w (Obj.cells (arr 32 fun _ => 0) 43)).size (Obj.cells (arr 32 fun _ => 0) 43)
  have hgl : g < w.heap.size := hR.lt
  have hBg : B ≤ g := hR.1
  have H0 := Lib.hid (And.intro hZ (And.intro hY (And.intro (hR.below hb2) hb2)))
  have hs2 := hb2.size
  clear hR hZ hY hb2
  go_enter Tryd.func84, Tryd.ntmps84
  go_upto_region 2 with fail
  refine wp_at (fun W => Blk W w.heap.size 43 (arr 32 fun _ => 0) ∧ Blk W (w.heap.size + 1) 43 (arr 32 fun _ => 0) ∧ RRd W B g A c s ∧ Below w.heap.size w W) H0.out ?_
  clear H0 hs2
  rintro W ⟨hZ, hY, hR, hb2⟩
  refine wp_region_mix (.plain 0 <| .plain 1 <| .only 2 <| .only 3 <| .done) (fun _ => True) (by kernel_rfl) (by kernel_rfl) trivial ?_
  have hb1 := below_drewN (Below.refl W.heap.size W) 1
  refine mix_atC (fun V => Blk V w.heap.size 43 (arr 32 fun _ => 0) ∧ Blk V (w.heap.size + 1) 43 (arr 32 fun _ => 0) ∧ RRd V B g A c s ∧ Below w.heap.size w V) ⟨hZ.drewN 1, hY.drewN 1, hR.below hb1, below_drewN hb2 1⟩ ?_
  clear hZ hY hR hb2 hb1
  rintro W1 ⟨hZ, hY, hR, hb2⟩
  iterate 2 (refine mix_plain rfl ?_; go_big_quiet_step ((intros; rfl)); refine wpQuiet_nil ?_)
  refine mix_only_in rfl (fun K hK => ?_)
  have HR := Lib.hid (And.intro hR hb2)
  clear hR hb2
  go_wp2_with fail
  refine (rtake_any W1 B g A c s 32 (by decide) HR.out.1).mono ?_
  rintro e W2 ⟨v, rfl, hv, hR2, hg2⟩
  have hZ2 := hZ.grown hg2 (fun e => by injection e; omega)
  have hY2 := hY.grown hg2 (fun e => by injection e; omega)
  have hlen := s.take_len 32
  have hdg : s.digest = (if (s.take 32).1 = [] then List.replicate 32 0 else (s.take 32).1, (s.take 32).2) := rfl
  obtain ⟨xs, hxs⟩ : ∃ xs, (s.take 32).1 = xs := ⟨_, rfl⟩
  rw [hxs] at hv hlen hdg
  obtain ⟨d, hd⟩ : ∃ d, (if xs = [] then List.replicate 32 (0 : UInt8) else xs) = d := ⟨_, rfl⟩
  have hcp := digest_arr xs hlen
  rw [hd] at hcp hdg
  have HD := Lib.hid hdg
  have hgw : w.grownBy W2 (some g) := grown_trans (below_grown _ HR.out.2) hg2
  have H2 := Lib.hid (And.intro hR2 hgw)
  have Hcp := Lib.hid hcp
  have Hlen := Lib.hid hlen
  have hsz2 : W1.heap.size ≤ W2.heap.size := hg2.size
  obtain ⟨A1, c1, rfl, hc1, hc2, hrd⟩ := hv
  clear hR2 hgw hcp hlen hdg hd hxs hg2 hZ hY HR
  go_wp2_with fail
  refine hK _ _ trivial ?_
  clear hK K
  refine mix_only_in rfl (fun K hK => ?_)
  have hmin : Nat.min xs.length 32 ≤ 32 := Nat.min_le_right _ _
  refine wpList_copyR rfl (.tmp 4) (.tmp 6) _ _ rfl 5 Tryd.underlying22 (by kernel_rfl) (w.heap.size + 1) 0 32 32 A1 xs.length c1 rfl rfl _ _ hY2 _ _ hrd (by rw [List.length_map]) (by rw [arr_size]; show 0 + min xs.length 32 ≤ 32; omega) (oneCell_v8 _) ?_
  intro W3 hY3 hg3
  rw [Hcp.out] at hY3
  have hZ3 := hZ2.grown hg3 (fun e => by injection e; omega)
  have hR3 := H2.out.1.other hg3 hY2 (by decide) (by omega)
  have hg13 : w.grownBy W3 (some g) := ⟨hg3.os.trans H2.out.2.os, hg3.tape.trans H2.out.2.tape, hg3.output.trans H2.out.2.output, Nat.le_trans H2.out.2.size hg3.size, fun i hi hne => (hg3.block i (Nat.lt_of_lt_of_le hi H2.out.2.size) (fun e => by injection e; omega)).trans (H2.out.2.block i hi hne)⟩
  have H3 := Lib.hid (And.intro hR3 hg13)
  clear hR3 hg13 hg3 hY2 hZ2 hrd H2 hmin
  simp only [Act.put, List.setIfInBounds_toArray, List.set_cons_zero, List.set_cons_succ]
  refine hK _ _ trivial ?_
  clear hK K
  refine mix_done ?_
  go_wp2_with (first
    | (refine wpList_load_row rfl _ (.tmp 3) rfl (w.heap.size + 1) rfl _ _ _ _ hY3 Tryd.underlying43 rfl (by rw [dat_size]; kernel_rfl) ?_)
    | (refine wpList_storeDat rfl rfl 43 (.tmp 2) (.tmp 8) rfl w.heap.size rfl d _ rfl _ hZ3 (by kernel_rfl) ?_; intro W4 hZ4 hg4))
  have hR4 := H3.out.1.other hg4 hZ3 (by decide) (by omega)
  have hg14 : w.grownBy W4 (some g) := ⟨hg4.os.trans H3.out.2.os, hg4.tape.trans H3.out.2.tape, hg4.output.trans H3.out.2.output, Nat.le_trans H3.out.2.size hg4.size, fun i hi hne => (hg4.block i (Nat.lt_of_lt_of_le hi H3.out.2.size) (fun e => by injection e; omega)).trans (H3.out.2.block i hi hne)⟩
  refine bodyPost_ret (results_cell_row (p := 2) (ty := 43) rfl _ _ w.heap.size _ _ _ _ rfl hZ4 Tryd.underlying43 rfl (by rw [dat_size]; kernel_rfl)) rfl ?_
  rw [HD.out]
  exact ⟨rfl, hR4, hg14⟩
set_option maxHeartbeats 1000000 in
set_option maxRecDepth 100000 in
theorem rrBytes_any (w : World) (B g : Nat) (A : Option Addr) (c : Nat) (s : RdL) (most : Int) (hR : RRd w B g A c s) :
    Calls Tryd.prog 82 #[.pointer (some ⟨g, 0, none⟩), .int .i64 most] w fun e w' => ∃ v, e = .returned v ∧ w'.ownsRow w.heap.size 5 1 v (s.bytes most).1.length ((s.bytes most).1.map v8) ∧ RRd w' B g A c (s.bytes most).2 ∧ w.grownBy w' (some g) := by
  obtain ⟨y, hy⟩ : ∃ y, s.bytes most = y := ⟨_, rfl⟩
  rw [hy]
  unfold RdL.bytes at hy
  have hk1 : w.cell? ⟨g, 1, none⟩ = some (.int .i64 (s.pos : Int)) := hR.2.1.cell 1
  have hpos : s.pos ≤ 140737488355328 := by have := hR.2.2.2.1; have := hR.2.2.2.2; omega
  have Hpos := Lib.hid hR.2.2.2.1
  have HR := Lib.hid hR
  clear hR
  have hN := s.number2_lt
  have hsb := Lib.hid (s.number_bs 2)
  go_enter Tryd.func82, Tryd.ntmps82
  go_wp2_with fail
  refine (rrNumber_any w B g A c s 2 (by decide) HR.out).mono ?_
  rintro e w1 ⟨rfl, hR1, hg1⟩
  obtain ⟨N, hNN⟩ : ∃ N, (s.number 2).1 = N := ⟨_, rfl⟩
  obtain ⟨s1, hs1⟩ : ∃ t, (s.number 2).2 = t := ⟨_, rfl⟩
  rw [hNN] at hy hN ⊢
  rw [hs1] at hy hR1 hsb
  clear hNN hs1 hk1
  have hsz1 : w.heap.size ≤ w1.heap.size := hg1.size
  have hk4 : w1.cell? ⟨g, 4, none⟩ = some (.bool s1.no.isSome) := hR1.2.1.cell 4
  have HF := Lib.hid (And.intro hR1 hg1)
  have hb1 := hR1.2.1
  clear hR1 hg1
  cases hno : s1.no with
  | some x =>
    rw [hno] at hk4
    rw [if_pos (by rw [hno]; rfl)] at hy
    subst hy
    clear hno hb1
    go_wp2_with fail
    go_ret
    exact ⟨_, rfl, World.ownsRow_nil _ _ _ _, HF.out.1, HF.out.2⟩
  | none =>
    rw [hno] at hk4
    rw [if_neg (by rw [hno]; decide)] at hy
    have hb2 : Blk w1 g 146 #[.slice A s1.bs.length c, .int .i64 (s1.pos : Int), .int .i64 0, .int .i64 0, .bool false] := by
      have := hb1; unfold rrC at this; rw [hno] at this; exact this
    have Hno := Lib.hid hno
    clear hb1 hno
    by_cases hlt : most < (N : Int)
    · rw [if_pos hlt] at hy
      have Hy := Lib.hid hy
      clear hy
      go_wp2_with (first
        | (refine wpList_store1 rfl rfl _ (.tmp 24) (.tmp 22) rfl g 1 rfl _ rfl 146 _ hb2 (by kernel_rfl) (show 1 < 5 by decide) rfl rfl ?_; intro w2 hb3 hg2))
      have hR2 : RRd w2 B g A c { s1 with pos := s.pos } := HF.out.1.put hg2 (by unfold rrC; simp only [Hno.out]; exact hb3) rfl (by rw [hsb.out]; exact Hpos.out)
      have H2 := Lib.hid (And.intro hR2 (grown_trans HF.out.2 hg2))
      clear hR2 hb3 hg2 hb2
      refine (rrefuse_any w2 B g A c _ s.pos 3 (by omega) (by decide) (by decide) H2.out.1).mono ?_
      rintro e w3 ⟨rfl, hR3, hg3⟩
      have hR3 : RRd w3 B g A c y.2 := by
        rw [← Hy.out]
        have : ({ s1 with pos := s.pos } : RdL).refuse s.pos 3 = { s1 with pos := s.pos, no := some (s.pos, 3) } := by unfold RdL.refuse; rw [Hno.out]; rfl
        rw [← this]; exact hR3
      have H3 := Lib.hid (And.intro hR3 (grown_trans H2.out.2 hg3))
      clear hR3 hg3
      go_wp2_with fail
      go_ret
      exact ⟨_, rfl, by rw [← Hy.out]; exact World.ownsRow_nil _ _ _ _, H3.out.1, H3.out.2⟩
    · rw [if_neg hlt] at hy
      have hge : (N : Int) ≤ most := by omega
      have hoe := own_emptyB w1 w1.heap.size (Nat.le_refl _)
      have hn1 := below_new1 w1 (Obj.cells #[] 5)
      have HE := Lib.hid (And.intro hoe (And.intro hn1 (HF.out.1.below hn1)))
      clear hlt hb2 hoe hn1
      go_wp2_with fail
      refine (rtake_any _ B g A c s1 N (by omega) HE.out.2.2).mono ?_
      rintro e w2 ⟨v, rfl, hv, hR2, hg2⟩
      rw [hy] at hv hR2
      have hle : y.1.length ≤ 1000000 := by rw [← hy]; exact Nat.le_trans (s1.take_le N) (by omega)
      obtain ⟨A2, c2, rfl, h21, h22, hrd⟩ := hv
      have hne : ∀ q, (Value.slice (some ⟨w1.heap.size, 0, none⟩) 0 0).ownBlock = some q → some g ≠ some q := fun q hq e => by
        injection e with e
        injection hq with hq
        have := HF.out.1.lt
        have hq : w1.heap.size = q := hq
        omega
      have hoe2 := own_grown HE.out.1 hg2 hne
      have hsz2 : w.heap.size ≤ w2.heap.size := by have := hg2.size; have := HE.out.2.1.size; omega
      have hsz12 : w1.heap.size ≤ w2.heap.size := by have := hg2.size; have := HE.out.2.1.size; omega
      have H2 := Lib.hid (And.intro hR2 (And.intro (grown_trans (grown_trans HF.out.2 (below_grown _ HE.out.2.1)) hg2) (And.intro hoe2 hrd)))
      obtain ⟨i0, hi, hz0, hz1, hz2⟩ := info_parts (by kernel_rfl : (Tryd.prog.info? 5).map (fun i => (i.zero, i.size, i.bytes)) = some (some (.int .u8 0), 1, 1))
      clear hy hR2 hg2 hoe2 hrd hne HE
      go_wp2_with (first
        | (at_builtin; refine wpList_appendR rfl (.tmp 28) (.tmp 31) _ rfl w1.heap.size 5 i0 _ 1 Tryd.underlying22 hi hz0 hz1 hz2 rfl _ (([] : List UInt8).map v8) rfl H2.out.2.2.1 _ A2 y.1.length c2 (y.1.map v8) rfl H2.out.2.2.2 (by rw [List.length_map]) (oneCell_v8 _) (by unfold maxLen; simp; omega) (by simp; omega) hsz12 ?_; intro v' w3 hown3 hg3 hat3))
      go_ret
      have hown3 : w3.ownsRow w1.heap.size 5 1 v' y.1.length (y.1.map v8) := by
        have e : ([] : List UInt8).map v8 ++ y.1.map v8 = y.1.map v8 := rfl
        rw [e, List.length_map] at hown3; exact hown3
      have hlow : ∀ q, (Value.slice (some ⟨w1.heap.size, 0, none⟩) 0 0).ownBlock = some q → q = w1.heap.size := fun q hq => by injection hq with hq; exact hq.symm
      have hgl := HF.out.1.lt
      have hR3 : RRd w3 B g A c y.2 := by
        obtain ⟨p1, p2, p3, p4, p5⟩ := H2.out.1
        exact ⟨p1, p2.grown hg3 (fun e => by have := hlow g e.symm; omega), by
          obtain ⟨A3, c3, e3, q1, q2, q3⟩ := p3
          exact ⟨A3, c3, e3, q1, q2, q3.grown hg3 (by have := p2.lt; omega) (fun k e => by have := hlow k e; omega)⟩, p4, p5⟩
      have hg13 : w.grownBy w3 (some g) := ⟨hg3.os.trans H2.out.2.1.os, hg3.tape.trans H2.out.2.1.tape, hg3.output.trans H2.out.2.1.output, Nat.le_trans H2.out.2.1.size hg3.size, fun i hi hne => (hg3.block i (Nat.lt_of_lt_of_le hi H2.out.2.1.size) (fun e => by have := hlow i e.symm; omega)).trans (H2.out.2.1.block i hi hne)⟩
      exact ⟨_, rfl, own_baseR hown3 hsz1, hR3, hg13⟩
end Go.Proofs.YteonmcconpfkjaaDoor

/- Lists of law2's Asks, as they lie in memory. No condition. -/
namespace Go.Proofs.YteonmcconpfkjaaDoor
open Go Go.RowKit
/-- one Ask -/
structure AskV where
  kind : Int
  n : UInt64
  size : Int
  A : Option Addr
  c : Nat
  bs : List UInt8
  deriving Inhabited
/-- what the cells of an Ask hold -/
def AskCells (w : World) (f : Nat → Option Value) (a : AskV) : Prop :=
  f 0 = some (.int .i64 a.kind) ∧ f 1 = some (.int .u64 (n64 a.n)) ∧ f 2 = some (.int .i64 a.size) ∧ f 3 = some (.slice a.A a.bs.length a.c) ∧ BSl w w.heap.size (.slice a.A a.bs.length a.c) a.bs ∧ a.bs.length ≤ 140737488351232 ∧
  (-9223372036854775808 ≤ a.kind ∧ a.kind ≤ 9223372036854775807) ∧ (-9223372036854775808 ≤ a.size ∧ a.size ≤ 9223372036854775807)
theorem AskCells.congr {w : World} {f g : Nat → Option Value} {a : AskV} (h : AskCells w f a) (hfg : ∀ j, f j = g j) : AskCells w g a := by
  have : f = g := funext hfg
  rw [← this]; exact h
/-- a list of Asks -/
def AsksAt (w : World) (A : Option Addr) (l : List AskV) : Prop :=
  0 < l.length → ∃ b off, A = some ⟨b, off, none⟩ ∧ b < w.heap.size ∧ ∀ (i : Nat) a, l[i]? = some a → AskCells w (fun j => w.cell? ⟨b, off + 4 * i + j, none⟩) a
end Go.Proofs.YteonmcconpfkjaaDoor
