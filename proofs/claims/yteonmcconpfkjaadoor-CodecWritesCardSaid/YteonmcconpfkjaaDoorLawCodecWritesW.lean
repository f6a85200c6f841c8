/- The walk of deponentlaw2's CodecWrites. Condition: the table of strconv. -/
import Derived.Test.YteonmcconpfkjaaDoorQ15
import Derived.Test.YteonmcconpfkjaaDoorQ24
import Derived.Test.YteonmcconpfkjaaDoorQ23
import Derived.Deep.CutBlock
import Derived.Deep.DeepCutAuto
namespace Go.Proofs.YteonmcconpfkjaaDoor
open Go Go.RowKit
attribute [local irreducible] mixW
attribute [local go_sem] n8_lo n8_hi n64_lo n64_hi
/-- a Writer, and what the reference says of it -/
def WrsAt (w0 wr : World) (g : Nat) (u v : Value) (bs : List UInt8) : Prop :=
  Wr wr w0.heap.size g v bs ∧ wr.ownsRow w0.heap.size 5 1 u bs.length (bs.map v8) ∧ (∀ k, u.ownBlock = some k → v.ownBlock ≠ some k) ∧ Below w0.heap.size w0 wr
section
variable {w0 wr w' w'' : World} {g : Nat} {u u' v v' : Value} {bs bs' : List UInt8}
theorem WrsAt.below (h : WrsAt w0 wr g u v bs) (hb : Below wr.heap.size wr w') : WrsAt w0 w' g u v bs :=
  ⟨h.1.below hb, own_below h.2.1 hb, h.2.2.1, h.2.2.2.trans (hb.mono h.2.2.2.size)⟩
/-- it was written; the reference's row is as it was -/
theorem WrsAt.wrote (h : WrsAt w0 wr g u v bs) (ht : Two wr w' g v v') : w'.ownsRow w0.heap.size 5 1 u bs.length (bs.map v8) ∧ (∀ k, u.ownBlock = some k → v'.ownBlock ≠ some k) ∧ Below w0.heap.size w0 w' := by
  have hs := h.2.2.2.size
  refine ⟨ht.own h.2.1 (own_ne h.1.2.1 h.2.1 (by decide)) h.2.2.1, fun k hk e => ?_, h.2.2.2.trans (ht.bel h.1.1 h.1.low hs)⟩
  rcases ht.at_ with e2 | ⟨q, hq, e2⟩
  · exact h.2.2.1 k hk (e2 ▸ e)
  · rw [e2] at e
    injection e with e
    have := own_lt h.2.1 k hk
    omega
/-- the reference made a new row -/
theorem WrsAt.fresh (hW : Wr w' w0.heap.size g v bs) (hb : Below w0.heap.size w0 w') (hu : w''.ownsRow w'.heap.size 5 1 u bs.length (bs.map v8)) (hb' : Below w'.heap.size w' w'') : WrsAt w0 w'' g u v bs := by
  refine ⟨hW.below hb', own_baseR hu hb.size, fun k hk e => ?_, hb.trans (hb'.mono hb.size)⟩
  have h1 := own_lt hW.2.2 k e
  have h2 : w'.heap.size ≤ k := by
    rcases hu.2 with ⟨rfl, _⟩ | ⟨q, c, cur, rfl, hB, _⟩
    · cases hk
    · have : q = k := by injection hk
      omega
  omega
/-- another row is written -/
theorem WrsAt.away {k : Nat} (h : WrsAt w0 wr g u v bs) (hg : wr.grownBy w' (some k)) (h1 : g ≠ k) (h2 : v.ownBlock ≠ some k) (h3 : u.ownBlock ≠ some k) (hB : w0.heap.size ≤ k) : WrsAt w0 w' g u v bs :=
  ⟨⟨h.1.1, h.1.2.1.grown hg (fun e => h1 (by injection e)), own_grown h.1.2.2 hg (fun q hq e => h2 (by rw [hq, e]))⟩, own_grown h.2.1 hg (fun q hq e => h3 (by rw [hq, e])), h.2.2.1, below_only h.2.2.2 hg hB h.2.2.2.size⟩
/-- the reference's row grows -/
theorem WrsAt.grew (hW : Wr wr w0.heap.size g v bs') (hu : wr.ownsRow w0.heap.size 5 1 u bs.length (bs.map v8)) (hap : ∀ k, u.ownBlock = some k → v.ownBlock ≠ some k) (hb : Below w0.heap.size w0 wr)
    (hu' : w'.ownsRow w0.heap.size 5 1 u' bs'.length (bs'.map v8)) (hg : wr.grownBy w' u.ownBlock) (hat : u'.ownBlock = u.ownBlock ∨ u'.ownBlock = some wr.heap.size) : WrsAt w0 w' g u' v bs' := by
  have hne := own_ne hW.2.1 hu (by decide)
  refine ⟨⟨hW.1, hW.2.1.grown hg (fun e => hne e.symm), own_grown hW.2.2 hg (fun q hq e => hap q e hq)⟩, hu', fun k hk e => ?_, below_own hb hu hg hb.size⟩
  rcases hat with e2 | e2
  · exact hap k (e2 ▸ hk) e
  · rw [e2] at hk
    injection hk with hk
    have := own_lt hW.2.2 k e
    omega
end
theorem txtB_le (xs : List UInt8) : (txtB xs).length ≤ 65540 := by
  unfold txtB
  rw [List.length_append, numB_length, List.length_take]
  have := Nat.mod_lt xs.length (show 0 < 65536 by decide)
  omega
set_option maxHeartbeats 40000000 in
set_option maxRecDepth 100000 in
theorem codecWrites_walk (w : World) (hz : Pz w) (A1 : Option Addr) (cap1 : Nat) (l : List AskV) (hl9 : l.length ≤ 9223372036854775807) (hA : AsksAt w A1 l) (d : List UInt8) (hd : d.length = 32) :
    Calls Tryd.prog 12 #[.slice A1 l.length cap1, .agg (dat d)] w fun e w' => e = .returned (.bool true) ∧ Below w.heap.size w w' := by
  have HA := Lib.hid hA
  have Hd := Lib.hid hd
  clear hA hd
  go_enter Tryd.func12, Tryd.ntmps12
  go_wp2_with fail
  refine calls_at (fun W => Blk W w.heap.size 43 (dat d) ∧ Below w.heap.size w W) ⟨Blk.new w _ _, below_new1 w _⟩ ?_
  rintro W0 ⟨hD0, hb0⟩
  refine (newWriter_two W0).mono ?_
  rintro e w1 ⟨rfl, hW, hb1⟩
  obtain ⟨g, hg⟩ : ∃ g, W0.heap.size = g := ⟨_, rfl⟩
  have H0 := Lib.hid (And.intro hD0 (And.intro hb0 hD0.lt))
  have hst : WrsAt W0 w1 W0.heap.size (.slice none 0 0) (.slice none 0 0) [] := ⟨hW, World.ownsRow_nil _ _ _ _, (fun k hk => by cases hk), hb1⟩
  rw [hg] at hst ⊢
  have H1 := Lib.hid hst
  clear hD0 hb0 hW hb1 hst hg
  go_wp2_with fail
  go_loopw [6, 7, 8, 9] (fun uv iv _ _ wr => ∃ (i : Nat) (v : Value) (bs : List UInt8), i ≤ l.length ∧ i ≤ 30 ∧ iv = .int .i64 i ∧ WrsAt W0 wr g uv v bs ∧ bs.length ≤ 70000 * i) (fun _ iv _ _ _ => 31 - (intOf iv).toNat)
  case atStart => exact ⟨0, .slice none 0 0, [], Nat.zero_le _, by decide, rfl, H1.out, Nat.zero_le _⟩
  case round =>
    clear H1
    obtain ⟨i, v, bs, hi, hi30, rfl, hS, hbl⟩ := hrel
    have HS := Lib.hid hS
    have hu0 := hS.2.1
    obtain ⟨Au, cu, rfl⟩ := own_slice hu0
    clear hS hu0
    have hcond : (i < l.length ∧ i < 30) ∨ ((l.length : Int) ≤ (i : Int) ∨ ((i : Int) < (l.length : Int) ∧ (30 : Int) ≤ (i : Int))) := by omega
    rcases hcond with ⟨h1, h2⟩ | hex
    · obtain ⟨b1, o1, rfl, hb1, hcells⟩ := HA.out (by omega)
      obtain ⟨a, ha⟩ : ∃ a, l[i]? = some a := ⟨l[i], List.getElem?_eq_getElem h1⟩
      have hac := hcells i a ha
      have hbcell : ∀ (W : World) (j : Nat), Below W0.heap.size W0 W → W.cell? ⟨b1, o1 + i * 4 + j, none⟩ = w.cell? ⟨b1, o1 + 4 * i + j, none⟩ := fun W j hW => by
        rw [(H0.out.2.1.trans (hW.mono H0.out.2.1.size)).cell (p := ⟨b1, o1 + i * 4 + j, none⟩) hb1, Nat.mul_comm]
      have HC := Lib.hid hbcell
      have c0 : wr.cell? ⟨b1, o1 + i * 4, none⟩ = some (.int .i64 a.kind) := by
        have := hbcell wr 0 HS.out.2.2.2
        rw [Nat.add_zero] at this
        rw [this]; exact hac.1
      have hac' := Lib.hid hac
      have h1' : (i : Int) < (l.length : Int) := by omega
      have h2' : (i : Int) < 30 := by omega
      clear hac hbcell hcells ha
      go_upto_block 2 with fail
      go_cut [6, 8, 9, 27] (fun u _ _ _ wx => ∃ (v' : Value) (bs' : List UInt8), WrsAt W0 wx g u v' bs' ∧ bs'.length ≤ 70000 * (i + 1))
      case first =>
        by_cases k1 : a.kind = 1
        · have hCS : ∀ W, Below W0.heap.size W0 W → W.cell? ⟨b1, o1 + i * 4 + 1, none⟩ = some (.int .u64 (n64 a.n)) ∧ W.cell? ⟨b1, o1 + i * 4 + 2, none⟩ = some (.int .i64 a.size) := fun W hW => ⟨by rw [HC.out W 1 hW]; exact hac'.out.2.1, by rw [HC.out W 2 hW]; exact hac'.out.2.2.1⟩
          have HCS := Lib.hid hCS
          clear hCS
          go_upto_region 10 with fail
          refine wp_region_mix (.plain 0 <| .plain 1 <| .plain 2 <| .plain 3 <| .plain 4 <| .plain 5 <| .plain 6 <| .plain 7 <| .plain 8 <| .plain 9 <| .plain 10 <| .only 11 <| .done) (fun W => W.cell? ⟨b1, o1 + i * 4 + 1, none⟩ = some (.int .u64 (n64 a.n)) ∧ W.cell? ⟨b1, o1 + i * 4 + 2, none⟩ = some (.int .i64 a.size)) (by kernel_rfl) (by kernel_rfl) (by rw [World.cell?_drewN, World.cell?_drewN]; exact HCS.out wr HS.out.2.2.2) ?_
          have HD := Lib.hid (HS.out.below (below_drewN (Below.refl wr.heap.size wr) 1))
          clear c0
          generalize wr.drewN 1 = wd at HD ⊢
          iterate 11 (refine mix_plain rfl ?_; (first
            | (refine wpQuiet_load1 rfl _ (.tmp 34) rfl _ rfl _ Tryd.underlying41 rfl _ (fun _ h => h.1) ?_; simp only [Act.put, List.setIfInBounds_toArray, List.set_cons_zero, List.set_cons_succ])
            | (refine wpQuiet_load1 rfl _ (.tmp 39) rfl _ rfl _ Tryd.underlying3 rfl _ (fun _ h => h.2) ?_; simp only [Act.put, List.setIfInBounds_toArray, List.set_cons_zero, List.set_cons_succ])
            | go_big_quiet_step ((intro _ _; rfl))
            | go_big_quiet_step ((intro _ _ _; rfl))
            | go_big_quiet_step (fail)); refine wpQuiet_nil ?_)
          refine mix_only_in rfl (fun K hK => ?_)
          go_wp2_with fail
          refine (number_two g v bs a.n a.size hac'.out.2.2.2.2.2.2.2 wd W0.heap.size HD.out.1 HD.out.2.2.2.size (by omega)).mono ?_
          rintro e w5 ⟨rfl, v5, hW5, ht5⟩
          have hu5 := HD.out.wrote ht5
          have H5 := Lib.hid (And.intro hW5 hu5)
          clear hW5 ht5 hu5 HD
          go_wp2_with fail
          refine hK _ _ (HCS.out w5 H5.out.2.2.2) ?_
          clear hK K
          refine mix_done ?_
          go_upto_region 11 with fail
          refine wp_region_mix (.plain 0 <| .plain 1 <| .plain 2 <| .plain 3 <| .plain 4 <| .plain 5 <| .plain 6 <| .plain 7 <| .plain 8 <| .plain 9 <| .plain 10 <| .only 11 <| .plain 12 <| .done) (fun W => W.cell? ⟨b1, o1 + i * 4 + 1, none⟩ = some (.int .u64 (n64 a.n)) ∧ W.cell? ⟨b1, o1 + i * 4 + 2, none⟩ = some (.int .i64 a.size)) (by kernel_rfl) (by kernel_rfl) (by rw [World.cell?_drewN, World.cell?_drewN]; exact HCS.out w5 H5.out.2.2.2) ?_
          have hbd5 := below_drewN (Below.refl w5.heap.size w5) 1
          have HD := Lib.hid (And.intro (H5.out.1.below hbd5) (And.intro (own_below H5.out.2.1 hbd5) (H5.out.2.2.2.trans (hbd5.mono H5.out.2.2.2.size))))
          clear hbd5 H5
          generalize w5.drewN 1 = we at HD ⊢
          iterate 11 (refine mix_plain rfl ?_; (first
            | (refine wpQuiet_load1 rfl _ (.tmp 46) rfl _ rfl _ Tryd.underlying41 rfl _ (fun _ h => h.1) ?_; simp only [Act.put, List.setIfInBounds_toArray, List.set_cons_zero, List.set_cons_succ])
            | (refine wpQuiet_load1 rfl _ (.tmp 51) rfl _ rfl _ Tryd.underlying3 rfl _ (fun _ h => h.2) ?_; simp only [Act.put, List.setIfInBounds_toArray, List.set_cons_zero, List.set_cons_succ])
            | go_big_quiet_step ((intro _ _; rfl))
            | go_big_quiet_step ((intro _ _ _; rfl))
            | go_big_quiet_step (fail)); refine wpQuiet_nil ?_)
          refine mix_only_in rfl (fun K hK => ?_)
          go_wp2_with fail
          refine (rnum2_any _ bs a.n a.size hac'.out.2.2.2.2.2.2.2 we (BSl.of_own HD.out.2.1) (by omega)).mono ?_
          rintro e w6 ⟨u6, rfl, hu6, hb6⟩
          rw [List.length_map] at hu6
          have H6 := Lib.hid (WrsAt.fresh HD.out.1 HD.out.2.2 hu6 hb6)
          clear hu6 hb6 HD
          go_wp2_with fail
          refine hK _ _ (HCS.out w6 H6.out.2.2.2) ?_
          clear hK K
          iterate 1 (refine mix_plain rfl ?_; (first
            | go_big_quiet_step ((intro _ _; rfl))
            | go_big_quiet_step ((intro _ _ _; rfl))
            | go_big_quiet_step (fail)); refine wpQuiet_nil ?_)
          refine mix_done ?_
          go_wp2_with fail
          go_meet
          exact ⟨_, _, H6.out, by rw [List.length_append, numB_length]; have := clamp8_hi a.size; omega⟩
        by_cases k2 : a.kind = 2
        · have k1' : (a.kind == 1) = false := beq_eq_false_iff_ne.2 k1
          have c3 : wr.cell? ⟨b1, o1 + i * 4 + 3, none⟩ = some (.slice a.A a.bs.length a.c) := by rw [HC.out wr 3 HS.out.2.2.2]; exact hac'.out.2.2.2.1
          have HB : Hid (∀ W, Below W0.heap.size W0 W → BSl W W.heap.size (.slice a.A a.bs.length a.c) a.bs) := Lib.hid (fun W hW => hac'.out.2.2.2.2.1.next (H0.out.2.1.trans (hW.mono H0.out.2.1.size)))
          have hB48 := hac'.out.2.2.2.2.2.1
          obtain ⟨ba, hba⟩ : ∃ x, a.bs = x := ⟨_, rfl⟩
          obtain ⟨aA, haA⟩ : ∃ x, a.A = x := ⟨_, rfl⟩
          obtain ⟨ac, haac⟩ : ∃ x, a.c = x := ⟨_, rfl⟩
          rw [hba, haA, haac] at HB c3
          rw [hba] at hB48
          have HC3 : Hid (∀ W, Below W0.heap.size W0 W → W.cell? ⟨b1, o1 + i * 4 + 3, none⟩ = some (.slice aA ba.length ac)) := Lib.hid (fun W hW => by rw [HC.out W 3 hW, ← hba, ← haA, ← haac]; exact hac'.out.2.2.2.1)
          clear k1 hba haA haac
          go_wp2_with fail
          refine (roomy_blk _ ba 165 wr (HB.out wr HS.out.2.2.2) (by omega)).mono ?_
          rintro e w5 ⟨cur, rfl, hblk5, hcur5, hbs5, hb5⟩
          obtain ⟨gf, hgf⟩ : ∃ gf, wr.heap.size = gf := ⟨_, rfl⟩
          have HG : Hid (W0.heap.size ≤ gf ∧ g ≠ gf ∧ v.ownBlock ≠ some gf ∧ (Value.slice Au bs.length cu).ownBlock ≠ some gf) := Lib.hid (by
            rw [← hgf]
            exact ⟨HS.out.2.2.2.size, fun e => by have := HS.out.1.2.1.lt; omega, fun e => by have := own_lt HS.out.1.2.2 _ e; omega, fun e => by have := own_lt HS.out.2.1 _ e; omega⟩)
          have hgf5 : gf < w5.heap.size := by rw [← hgf]; exact hblk5.lt
          rw [hgf] at hblk5 hbs5 ⊢
          have H5 := Lib.hid (And.intro (HS.out.below hb5) (And.intro hblk5 (And.intro hcur5 hbs5)))
          have c3' := HC3.out w5 H5.out.1.2.2.2
          obtain ⟨n, hn⟩ : ∃ n, ba.length = n := ⟨_, rfl⟩
          have Hn := Lib.hid hn
          have hB49 := Lib.hid hB48
          rw [hn] at c3' hB48 ⊢
          clear hblk5 hcur5 hbs5 hb5 hgf c0 c3 hn
          go_wp2_with fail
          have hhead : BSl w5 w5.heap.size (.slice (some ⟨gf, 0, none⟩) ba.length (n + 80)) ba := by
            have h9 := H5.out.2.2.2
            rw [Hn.out] at h9
            have h10 := head_b h9 n (by omega)
            rw [← Hn.out, List.take_left] at h10
            rw [Hn.out] at h10 ⊢; exact h10
          have Hhead := Lib.hid hhead
          clear hhead c3'
          rw [← Hn.out]
          refine (wbytes_two g v bs (some ⟨gf, 0, none⟩) (ba.length + 80) ba w5 W0.heap.size H5.out.1.1 H5.out.1.2.2.2.size (by have := Hhead.out; rw [← Hn.out] at this; exact this) (fun _ b o e => by injection e with e; injection e with e _; subst e; exact ⟨fun e => HG.out.2.1 e.symm, fun e => HG.out.2.2.1 e.symm⟩) (by omega)).mono ?_
          rintro e w6 ⟨rfl, v6, hW6, ht6⟩
          have hu6 := H5.out.1.wrote ht6
          have hblk6 := ht6.blk H5.out.2.1 (fun e => HG.out.2.1 e.symm) (fun e => HG.out.2.2.1 e.symm)
          have hv6 : v6.ownBlock ≠ some gf := fun e => by
            rcases ht6.at_ with e2 | ⟨q, hq, e2⟩
            · exact HG.out.2.2.1 (e2 ▸ e)
            · rw [e2] at e; injection e with e; omega
          have hrd6 := ht6.reads (bsl_reads H5.out.2.2.2) (fun _ b o e => by injection e with e; injection e with e _; subst e; exact ⟨fun e => HG.out.2.1 e.symm, fun e => HG.out.2.2.1 e.symm⟩)
          have H6 := Lib.hid (And.intro hW6 (And.intro hu6 (And.intro hblk6 (And.intro hv6 (And.intro hrd6 (Nat.lt_of_lt_of_le hgf5 ht6.size))))))
          have hcur := H5.out.2.2.1
          have c3' := HC3.out w6 hu6.2.2
          clear hW6 ht6 hu6 hblk6 hv6 hrd6 H5 Hhead
          go_wp2_with fail
          refine (rtxt2_any _ bs aA ac ba w6 (BSl.of_own H6.out.2.1.1) (by omega) (HB.out w6 H6.out.2.1.2.2)).mono ?_
          rintro e w7 ⟨u7, rfl, hu7, hb7⟩
          rw [List.length_map] at hu7
          have hu7f : u7.ownBlock ≠ some gf := fun e => by
            rcases hu7.2 with ⟨rfl, _⟩ | ⟨q, c, cur', rfl, hB, _⟩
            · cases e
            · have : q = gf := by injection e
              have := H6.out.2.2.2.2.2
              omega
          have hfull7 : BSl w7 w7.heap.size (.slice (some ⟨gf, 0, none⟩) (ba ++ List.replicate 80 (165 : UInt8)).length (ba.length + 80)) (ba ++ List.replicate 80 165) :=
            ⟨some ⟨gf, 0, none⟩, ba.length + 80, rfl, by simp, by have := hB49.out; omega, (H6.out.2.2.2.2.1.below hb7).more hb7.size⟩
          have HI := intact_any _ (.slice aA ba.length ac) ba 165 w7 hfull7 ((HB.out w6 H6.out.2.1.2.2).next hb7) (by have := hB49.out; omega)
          rw [show (ba ++ List.replicate 80 (165 : UInt8)).length = ba.length + 80 by simp] at HI
          have HII := Lib.hid HI
          have H7 := Lib.hid (And.intro (WrsAt.fresh H6.out.1 H6.out.2.1.2.2 hu7 hb7) (And.intro (H6.out.2.2.1.below hb7 H6.out.2.2.1.lt) (And.intro hu7f H6.out.2.2.2.1)))
          have c3' := HC3.out w7 H7.out.1.2.2.2
          clear HI hfull7 hu7 hu7f hb7 H6
          go_wp2_with fail
          refine HII.out.mono ?_
          rintro e w8 ⟨rfl, hb8⟩
          have H8 := Lib.hid (And.intro (H7.out.1.below hb8) (And.intro (H7.out.2.1.below hb8 H7.out.2.1.lt) (And.intro H7.out.2.2.1 H7.out.2.2.2)))
          have hbB := Lib.hid (txtB_le ba)
          clear hb8 HII H7 c3'
          obtain ⟨T, hT⟩ : ∃ T, bs ++ txtB ba = T := ⟨_, rfl⟩
          have hTl : T.length ≤ 70000 * (i + 1) := by rw [← hT, List.length_append]; have := hbB.out; omega
          rw [hT] at H8
          clear hT hbB
          obtain ⟨wo, rfl⟩ : ∃ wo, wo = wr := ⟨_, rfl⟩
          go_wp2_with fail
          go_loopw [9] (fun kv wr => ∃ (k : Nat) (cur' : Array Value), k ≤ ba.length ∧ kv = .int .i64 k ∧ WrsAt W0 wr g u7 v6 T ∧ Blk wr gf 5 cur' ∧ cur'.size = ba.length + 80) (fun kv _ => ba.length - (intOf kv).toNat)
          case atStart => exact ⟨0, cur, Nat.zero_le _, rfl, H8.out.1, H8.out.2.1, hcur⟩
          case round =>
            obtain ⟨k, cur', hk, rfl, hS1, hblk, hsz⟩ := hrel
            have HS1 := Lib.hid (And.intro hS1 (And.intro hblk hsz))
            have c3' := HC3.out wr hS1.2.2.2
            clear hS1 hblk hsz
            have hB50 : ba.length ≤ 140737488351232 := hB49.out
            by_cases hkn : k < ba.length
            · have hkn' : (k : Int) < (ba.length : Int) := by omega
              have hkn80 : (k : Int) < (ba.length : Int) + 80 := by omega
              have hkn81 : k < ba.length + 80 := by omega
              have Hkn := Lib.hid hkn
              clear hkn
              go_wp2_with (first
                | (refine wpList_store1 rfl rfl _ (.tmp 99) (.const (.int .u8 9)) rfl gf k (by simp [Act.eval]) (.int .u8 9) rfl 5 _ HS1.out.2.1 (by kernel_rfl) (by have := HS1.out.2.2; omega) rfl rfl ?_; intro w9 hb9 hg9))
              have H9 := Lib.hid (And.intro (HS1.out.1.away hg9 HG.out.2.1 H8.out.2.2.2 H8.out.2.2.1 HG.out.1) (And.intro hb9 (show (cur'.setIfInBounds k (.int .u8 9)).size = ba.length + 80 by have := HS1.out.2.2; simpa using this)))
              clear hb9 hg9 c3'
              go_roundw
              case rel => exact ⟨k + 1, _, by have := Hkn.out; omega, by go_num, H9.out.1, H9.out.2.1, H9.out.2.2⟩
              case measure => have := Hkn.out; simp [intOf]; omega
            · have hge : (ba.length : Int) ≤ (k : Int) := by omega
              clear hkn
              go_wp2_with fail
              go_meet
              exact ⟨_, _, HS1.out.1, hTl⟩
        by_cases k3 : a.kind = 3
        · have k1' : (a.kind == 1) = false := beq_eq_false_iff_ne.2 k1
          have k2' : (a.kind == 2) = false := beq_eq_false_iff_ne.2 k2
          have hDb := H0.out.1.below HS.out.2.2.2 H0.out.2.2
          clear k1 k2
          go_wp2_with (first
            | (refine wpList_loadW (by rfl) 43 (.tmp 3) rfl w.heap.size rfl _ _ _ hDb Tryd.underlying43 rfl (by kernel_rfl) ?_))
          refine (digest_two g v bs d Hd.out wr W0.heap.size HS.out.1 HS.out.2.2.2.size (by omega)).mono ?_
          rintro e w5 ⟨rfl, v5, hW5, ht5⟩
          have hu5 := HS.out.wrote ht5
          have hD5 := H0.out.1.below hu5.2.2 H0.out.2.2
          have hrd := Reads.of_blk hD5 hD5.lt 0
          rw [dat_eq d Hd.out] at hrd
          have H5 := Lib.hid (And.intro hW5 (And.intro hu5.1 (And.intro hu5.2.1 (And.intro hu5.2.2 (show Reads w5 w5.heap.size (some ⟨w.heap.size, 0, none⟩) (d.map v8) by simpa using hrd)))))
          obtain ⟨i0, hi, hz0, hz1, hz2⟩ := info_parts (by kernel_rfl : (Tryd.prog.info? 5).map (fun i => (i.zero, i.size, i.bytes)) = some (some (.int .u8 0), 1, 1))
          have HdL : Hid ((d.map v8).length = 32) := Lib.hid (by rw [List.length_map, Hd.out])
          have hblm : (bs.map v8).length ≤ 2100000 := by rw [List.length_map]; omega
          have Hblm := Lib.hid hblm
          have HuM : Hid (w5.ownsRow W0.heap.size 5 1 (.slice Au bs.length cu) (bs.map v8).length (bs.map v8)) := Lib.hid (by rw [List.length_map]; exact H5.out.2.1)
          clear hW5 ht5 hu5 hD5 hrd hDb hblm
          go_wp2_with (first
            | (at_builtin; refine wpList_appendR rfl (.tmp 105) (.tmp 106) _ rfl W0.heap.size 5 i0 _ 1 Tryd.underlying22 hi hz0 hz1 hz2 rfl (.slice Au bs.length cu) (bs.map v8) rfl HuM.out w5.heap.size (some ⟨w.heap.size, 0, none⟩) 32 32 (d.map v8) rfl H5.out.2.2.2.2 HdL.out (oneCell_v8 _) (by have := Hblm.out; unfold maxLen; omega) (by have := Hblm.out; omega) H5.out.2.2.2.1.size ?_; intro u6 w6 hown6 hg6 hat6; rw [← List.map_append, List.length_map] at hown6; have H6 := Lib.hid (WrsAt.grew H5.out.1 H5.out.2.1 H5.out.2.2.1 H5.out.2.2.2.1 hown6 hg6 hat6); clear hown6 hg6 hat6))
          go_meet
          exact ⟨_, _, H6.out, by rw [List.length_append, Hd.out]; omega⟩
        · have k1' : (a.kind == 1) = false := beq_eq_false_iff_ne.2 k1
          have k2' : (a.kind == 2) = false := beq_eq_false_iff_ne.2 k2
          have k3' : (a.kind == 3) = false := beq_eq_false_iff_ne.2 k3
          clear k1 k2 k3
          go_wp2_with fail
          go_meet
          exact ⟨_, _, HS.out, by omega⟩
      case rest =>
        obtain ⟨v', bs', hS', hbl'⟩ := hcut
        clear HS c0
        have HS := Lib.hid hS'
        have hu0 := hS'.2.1
        obtain ⟨Av, cv, rfl⟩ := own_slice hu0
        clear hS' hu0
        go_wp2_with fail
        refine (done_any _ bs' wc W0.heap.size HS.out.1.wrt (by omega)).mono ?_
        rintro e w7 ⟨x, rfl, hx, -, hb7⟩
        have H7 := Lib.hid (And.intro (HS.out.below hb7) hx)
        obtain ⟨Ax, cx, rfl⟩ := hx.len
        clear hx hb7 HS
        go_wp2_with fail
        refine (same_any _ _ bs' bs' w7 H7.out.2 (BSl.of_own H7.out.1.2.1)).mono ?_
        rintro e w8 ⟨rfl, hb8⟩
        rw [decide_eq_true (rfl : bs' = bs')]
        have H8 := Lib.hid (H7.out.1.below hb8)
        clear hb8 H7
        go_wp2_with fail
        go_roundw
        case rel => exact ⟨i + 1, v', bs', by omega, by omega, by go_num, H8.out, hbl'⟩
        case measure => simp [intOf]; omega
    · have hbw : Below w.heap.size w wr := H0.out.2.1.trans (HS.out.2.2.2.mono H0.out.2.1.size)
      have hz8 := hz.below hbw
      have Hbw := Lib.hid hbw
      clear hbw
      rcases hex with hA | ⟨hA, hB⟩
      all_goals
        go_wp2_with fail
        refine (known2_any wr hz8).mono ?_
        rintro e w8 ⟨rfl, hb9⟩
        have hfin := Hbw.out.trans (hb9.mono Hbw.out.size)
        clear hb9 hz8
        go_wp2_with fail
        go_ret
        exact ⟨rfl, hfin⟩
end Go.Proofs.YteonmcconpfkjaaDoor
