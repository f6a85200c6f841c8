/- The walk of deponentlaw2's CodecReads. Condition: the table of strconv. -/
import Derived.Test.YteonmcconpfkjaaDoorQ15
import Derived.Test.YteonmcconpfkjaaDoorQ23
import Derived.Test.YteonmcconpfkjaaDoorQ17
import Derived.Test.YteonmcconpfkjaaDoorQ8
import Derived.Test.YteonmcconpfkjaaDoorQ6
import Derived.Deep.CutBlock
import Derived.Deep.DeepCutAuto
namespace Go.Proofs.YteonmcconpfkjaaDoor
open Go Go.RowKit
attribute [local irreducible] mixW
attribute [local go_sem] n8_lo n8_hi n64_lo n64_hi
/-- a refusal that the law can tell -/
def RdL.fine (s : RdL) : Prop := ∀ p k, s.no = some (p, k) → (k ≤ 30 ∧ k ≠ 0) ∧ p ≤ 9223372036854775807
section
variable {s : RdL}
theorem RdL.fine_refuse (h : s.fine) (p k : Nat) (hk : k ≤ 30) (hp : p ≤ 9223372036854775807) : (s.refuse p k).fine := by
  unfold RdL.refuse
  split
  · exact h
  · split
    · exact h
    · intro p' k' e
      injection e with e
      injection e with e1 e2
      subst e1; subst e2
      exact ⟨⟨hk, ‹_›⟩, hp⟩
theorem RdL.fine_take (h : s.fine) (n : Nat) (hl : s.bs.length ≤ 9223372036854775807) : (s.take n).2.fine := by
  unfold RdL.take
  split
  · exact h
  · split
    · intro p' k' e
      injection e with e
      injection e with e1 e2
      subst e1; subst e2
      exact ⟨by decide, hl⟩
    · exact h
theorem RdL.fine_number (h : s.fine) (k : Int) (hl : s.bs.length ≤ 9223372036854775807) : (s.number k).2.fine := RdL.fine_take h _ hl
theorem RdL.fine_bytes (h : s.fine) (m : Int) (hl : s.bs.length ≤ 9223372036854775807) (hp : s.pos ≤ 9223372036854775807) : (s.bytes m).2.fine := by
  have h1 := RdL.fine_number h 2 hl
  unfold RdL.bytes
  split
  · exact h1
  · split
    · intro p' k' e
      injection e with e
      injection e with e1 e2
      subst e1; subst e2
      exact ⟨by decide, hp⟩
    · exact RdL.fine_take h1 _ (by rw [RdL.number_bs]; exact hl)
theorem RdL.fine_digest (h : s.fine) (hl : s.bs.length ≤ 9223372036854775807) : s.digest.2.fine := RdL.fine_take h _ hl
theorem RdL.digest_bs (s : RdL) : s.digest.2.bs = s.bs := s.take_bs 32
theorem RdL.refuse_bs (s : RdL) (p k : Nat) : (s.refuse p k).bs = s.bs := by
  unfold RdL.refuse
  split
  · rfl
  · split <;> rfl
theorem RdL.fine_stop (h : s.fine) (hp : s.pos ≤ 9223372036854775807) : ∀ p k, s.stop = some (p, k) → (k ≤ 30 ∧ k ≠ 0) ∧ p ≤ 9223372036854775807 := by
  intro p k e
  unfold RdL.stop at e
  cases hn : s.no with
  | some x =>
    rw [hn] at e
    exact h p k (by rw [hn]; exact e)
  | none =>
    rw [hn] at e
    simp only at e
    split at e
    · injection e with e
      injection e with e1 e2
      subst e1; subst e2
      exact ⟨by decide, hp⟩
    · cases e
end
/-- the two readers, side by side -/
def RdsAt (w0 w2 wr : World) (rb wb : Nat) (A0 : Option Addr) (cap : Nat) (b : List UInt8) (s : RdL) : Prop :=
  s.bs = b ∧ s.fine ∧ Rdr wr w2.heap.size rb s ∧ RRd wr w0.heap.size wb A0 cap s ∧ Below w2.heap.size w2 wr
section
variable {w0 w2 wr w' w'' : World} {rb wb cap : Nat} {A0 : Option Addr} {b : List UInt8} {s s' : RdL}
theorem RdsAt.below (h : RdsAt w0 w2 wr rb wb A0 cap b s) (hb : Below wr.heap.size wr w') : RdsAt w0 w2 w' rb wb A0 cap b s :=
  ⟨h.1, h.2.1, h.2.2.1.below hb, h.2.2.2.1.below hb, h.2.2.2.2.trans (hb.mono h.2.2.2.2.size)⟩
/-- the reader has read -/
theorem RdsAt.one (h : RdsAt w0 w2 wr rb wb A0 cap b s) (hw : w0.heap.size ≤ w2.heap.size) (hg : wr.grownBy w' (some rb)) : RRd w' w0.heap.size wb A0 cap s := by
  obtain ⟨cs, hcs⟩ := h.2.2.1.blk
  exact h.2.2.2.1.other hg hcs (by decide) (Nat.le_trans hw h.2.2.1.ge)
theorem RdsAt.two (h : RdsAt w0 w2 wr rb wb A0 cap b s) (hw2 : w2.heap.size ≤ wb) (e : s'.bs = b) (hf : s'.fine) (hr : Rdr w' w2.heap.size rb s') (hg : wr.grownBy w' (some rb)) (hq : RRd w' w0.heap.size wb A0 cap s) (hq' : RRd w'' w0.heap.size wb A0 cap s') (hg' : w'.grownBy w'' (some wb)) : RdsAt w0 w2 w'' rb wb A0 cap b s' := by
  refine ⟨e, hf, hr.grown hg' hq.2.1 (by decide) (by decide) (fun e => ?_), hq', ?_⟩
  · subst e
    obtain ⟨cs, hcs⟩ := hr.blk
    have : some (Obj.cells _ _ _) = some (Obj.cells _ _ _) := hcs.symm.trans hq.2.1
    injection this with this
    injection this with _ h3 _
    exact absurd h3 (by decide)
  · exact below_only (below_only h.2.2.2.2 hg h.2.2.1.ge h.2.2.2.2.size) hg' hw2 (Nat.le_trans h.2.2.2.2.size hg.size)
/-- a younger row is written -/
theorem RdsAt.away {k : Nat} {cs : Array Value} (h : RdsAt w0 w2 wr rb wb A0 cap b s) (hw : w0.heap.size ≤ w2.heap.size) (hg : wr.grownBy w' (some k)) (hk : Blk wr k 5 cs) (hgk : rb < k) : RdsAt w0 w2 w' rb wb A0 cap b s := by
  have hge := h.2.2.1.ge
  exact ⟨h.1, h.2.1, h.2.2.1.away hg hk hgk (by decide), h.2.2.2.1.other hg hk (by decide) (by omega), below_only h.2.2.2.2 hg (by omega) h.2.2.2.2.size⟩
end
theorem bytes_stop (s : RdL) : s.stop = none ∨ ∃ p k, s.stop = some (p, k) := by
  cases s.stop with
  | none => exact .inl rfl
  | some x => exact .inr ⟨x.1, x.2, rfl⟩
set_option maxHeartbeats 40000000 in
set_option maxRecDepth 100000 in
theorem codecReads_walk (w : World) (hz : Pz w) (A0 : Option Addr) (cap : Nat) (b : List UInt8) (hb : BSl w w.heap.size (.slice A0 b.length cap) b) (hcp : cap ≤ 140737488351232) (A1 : Option Addr) (cap1 : Nat) (l : List AskV) (hl9 : l.length ≤ 9223372036854775807) (hA : AsksAt w A1 l) :
    Calls Tryd.prog 13 #[.slice A0 b.length cap, .slice A1 l.length cap1] w fun e w' => e = .returned (.bool true) ∧ Below w.heap.size w w' := by
  have hlc : b.length ≤ cap := by obtain ⟨A', c', e1, h1, -⟩ := hb; injection e1 with _ _ e2; omega
  have Hb := Lib.hid hb
  have HA := Lib.hid hA
  clear hb hA
  go_enter Tryd.func13, Tryd.ntmps13
  go_wp2_with fail
  refine (roomy_any _ b 165 w Hb.out (by omega)).mono ?_
  rintro e w2 ⟨v2, rfl, hv2, hb2⟩
  obtain ⟨A2, c2, rfl⟩ := hv2.len
  have hlen : (b ++ List.replicate 80 (165 : UInt8)).length = b.length + 80 := by simp
  have hc2 : b.length + 80 ≤ c2 := by obtain ⟨A', c', e1, h1, -⟩ := hv2; injection e1 with _ _ e2; rw [hlen] at h1; omega
  have hS2 := head_b hv2 b.length (by rw [hlen]; omega)
  rw [List.take_left] at hS2
  have H2 := Lib.hid (And.intro hv2 (And.intro hS2 hb2))
  rw [hlen] at H2 ⊢
  have hc2i : (b.length : Int) ≤ (c2 : Int) := by omega
  clear hv2 hS2 hb2 hlen
  go_wp2_with fail
  refine (newReader_any _ b w2 H2.out.2.1 (by omega)).mono ?_
  rintro e w3 ⟨rb, rfl, hR, hb3⟩
  have H3 := Lib.hid (And.intro hR hb3)
  clear hR hb3 hc2i
  go_wp2_with fail
  have hRR : RRd (w3.alloc (Obj.cells #[.slice A0 b.length cap, .int .i64 0, .int .i64 0, .int .i64 0, .bool false] 146)) w.heap.size w3.heap.size A0 cap ⟨b, 0, none⟩ :=
    ⟨Nat.le_trans H2.out.2.2.size H3.out.2.size, Blk.new w3 _ _, Hb.out.below (H2.out.2.2.trans ((H3.out.2.trans ((below_new1 w3 _).mono H3.out.2.size)).mono H2.out.2.2.size)), Nat.zero_le _, by show b.length ≤ 140737488355328; omega⟩
  have hn4 := below_new1 w3 (Obj.cells #[.slice A0 b.length cap, .int .i64 0, .int .i64 0, .int .i64 0, .bool false] 146)
  have H4 := Lib.hid (And.intro (H3.out.1.below hn4) (And.intro hRR (And.intro (H3.out.2.trans (hn4.mono H3.out.2.size)) H3.out.1.lt)))
  have H3s := H3.out.2.size
  clear hRR hn4 H3
  obtain ⟨wb, hwb⟩ : ∃ k, w3.heap.size = k := ⟨_, rfl⟩
  have hwb2 : w2.heap.size ≤ w3.heap.size := H3s
  rw [hwb] at H4 hwb2 ⊢
  clear hwb H3s
  go_loopw [8, 9, 10, 11, 12, 13] (fun iv _ _ _ _ _ wr => ∃ (i : Nat) (s : RdL), i ≤ l.length ∧ i ≤ 30 ∧ iv = .int .i64 i ∧ RdsAt w w2 wr rb wb A0 cap b s) (fun iv _ _ _ _ _ _ => 31 - (intOf iv).toNat)
  case atStart => exact ⟨0, ⟨b, 0, none⟩, Nat.zero_le _, by decide, rfl, rfl, (fun p k h => nomatch h), H4.out.1, H4.out.2.1, H4.out.2.2.1⟩
  case round =>
    obtain ⟨i, s, hi, hi30, rfl, hS⟩ := hrel
    have HS := Lib.hid hS
    clear hS
    have hcond : (i < l.length ∧ i < 30) ∨ ((l.length : Int) ≤ (i : Int) ∨ ((i : Int) < (l.length : Int) ∧ (30 : Int) ≤ (i : Int))) := by omega
    rcases hcond with ⟨h1, h2⟩ | hex
    · obtain ⟨b1, o1, rfl, hb1, hcells⟩ := HA.out (by omega)
      obtain ⟨a, ha⟩ : ∃ a, l[i]? = some a := ⟨l[i], List.getElem?_eq_getElem h1⟩
      have hac := hcells i a ha
      have hbw : Below w.heap.size w wr := H2.out.2.2.trans (HS.out.2.2.2.2.mono H2.out.2.2.size)
      have c0 : wr.cell? ⟨b1, o1 + i * 4, none⟩ = some (.int .i64 a.kind) := by
        rw [hbw.cell (p := ⟨b1, o1 + i * 4, none⟩) hb1, Nat.mul_comm]; exact hac.1
      have h1' : (i : Int) < (l.length : Int) := by omega
      have h2' : (i : Int) < 30 := by omega
      go_upto_block 2 with fail
      go_cut [9, 10, 11, 40] (fun _ _ _ _ wx => ∃ s' : RdL, RdsAt w w2 wx rb wb A0 cap b s')
      case first =>
        have hpb : s.pos ≤ 9223372036854775807 := by have h1 := HS.out.2.2.2.1.2.2.2.1; have h2 := HS.out.2.2.2.1.2.2.2.2; omega
        have hlb : s.bs.length ≤ 9223372036854775807 := by have h2 := HS.out.2.2.2.1.2.2.2.2; omega
        have hbcell : ∀ (W : World) (j : Nat), Below w2.heap.size w2 W → W.cell? ⟨b1, o1 + i * 4 + j, none⟩ = w.cell? ⟨b1, o1 + 4 * i + j, none⟩ := fun W j hW => by
          rw [(H2.out.2.2.trans (hW.mono H2.out.2.2.size)).cell (p := ⟨b1, o1 + i * 4 + j, none⟩) hb1, Nat.mul_comm]
        have HC := Lib.hid hbcell
        have hac' := Lib.hid hac
        clear hac hbcell hcells ha
        by_cases k1 : a.kind = 1
        · go_upto_region 11 with fail
          refine wp_region_mix (.plain 0 <| .plain 1 <| .plain 2 <| .plain 3 <| .plain 4 <| .plain 5 <| .plain 7 <| .plain 8 <| .plain 9 <| .plain 10 <| .plain 11 <| .plain 12 <| .only 6 <| .only 13 <| .plain 14 <| .done) (fun W => W.cell? ⟨b1, o1 + i * 4 + 2, none⟩ = some (.int .i64 a.size)) (by kernel_rfl) (by kernel_rfl) (by rw [World.cell?_drewN, HC.out wr 2 HS.out.2.2.2.2]; exact hac'.out.2.2.1) ?_
          have hbd := below_drewN (Below.refl wr.heap.size wr) 1
          have HD := Lib.hid (HS.out.below hbd)
          clear hbd c0
          generalize wr.drewN 1 = wd at HD ⊢
          iterate 12 (refine mix_plain rfl ?_; (first
            | (refine wpQuiet_load1 rfl _ (.tmp 47) rfl _ rfl _ Tryd.underlying3 rfl _ (fun _ h => h) ?_; simp only [Act.put, List.setIfInBounds_toArray, List.set_cons_zero, List.set_cons_succ])
            | (refine wpQuiet_load1 rfl _ (.tmp 54) rfl _ rfl _ Tryd.underlying3 rfl _ (fun _ h => h) ?_; simp only [Act.put, List.setIfInBounds_toArray, List.set_cons_zero, List.set_cons_succ])
            | go_big_quiet_step ((intro _; rfl))
            | go_big_quiet_step ((intro _ _; rfl))
            | go_big_quiet_step (fail)); refine wpQuiet_nil ?_)
          refine mix_only_in rfl (fun K hK => ?_)
          go_wp2_with fail
          refine (rdNumber_any wd w2.heap.size rb s a.size hac'.out.2.2.2.2.2.2.2 HD.out.2.2.1 HD.out.2.2.2.2.size).mono ?_
          rintro e w5 ⟨rfl, hR5, hg5⟩
          have hb5 := below_only HD.out.2.2.2.2 hg5 HD.out.2.2.1.ge HD.out.2.2.2.2.size
          have H5 := Lib.hid (And.intro hR5 (And.intro hg5 (And.intro (HD.out.one H2.out.2.2.size hg5) hb5)))
          clear hR5 hg5 hb5
          go_wp2_with fail
          refine hK _ _ (by rw [HC.out w5 2 H5.out.2.2.2]; exact hac'.out.2.2.1) ?_
          clear hK K
          refine mix_only_in rfl (fun K hK => ?_)
          go_wp2_with fail
          refine (rrNumber_any w5 w.heap.size wb A0 cap s a.size hac'.out.2.2.2.2.2.2.2 H5.out.2.2.1).mono ?_
          rintro e w6 ⟨rfl, hQ6, hg6⟩
          have H6 := Lib.hid (HD.out.two hwb2 (by rw [RdL.number_bs]; exact HD.out.1) (RdL.fine_number HD.out.2.1 _ hlb) H5.out.1 H5.out.2.1 H5.out.2.2.1 hQ6 hg6)
          clear hQ6 hg6
          go_wp2_with fail
          refine hK _ _ (by rw [HC.out w6 2 H6.out.2.2.2.2]; exact hac'.out.2.2.1) ?_
          clear hK K
          iterate 1 (refine mix_plain rfl ?_; (first
            | go_big_quiet_step ((intro _; rfl))
            | go_big_quiet_step ((intro _ _; rfl))
            | go_big_quiet_step (fail)); refine wpQuiet_nil ?_)
          refine mix_done ?_
          go_wp2_with fail
          go_meet
          exact ⟨_, H6.out⟩
        by_cases k2 : a.kind = 2
        · have k1' : (a.kind == 1) = false := beq_eq_false_iff_ne.2 k1
          have c2' : wr.cell? ⟨b1, o1 + i * 4 + 2, none⟩ = some (.int .i64 a.size) := by rw [HC.out wr 2 HS.out.2.2.2.2]; exact hac'.out.2.2.1
          clear k1
          go_wp2_with fail
          refine (rdBytes_any wr w2.heap.size rb s a.size hac'.out.2.2.2.2.2.2.2 HS.out.2.2.1 HS.out.2.2.2.2.size).mono ?_
          rintro e w5 ⟨x, rfl, hx, hR5, hg5⟩
          have hb5 := below_only HS.out.2.2.2.2 hg5 HS.out.2.2.1.ge HS.out.2.2.2.2.size
          have HsB : Hid ((s.bytes a.size).2.bs = b ∧ (s.bytes a.size).2.fine) := Lib.hid ⟨by rw [RdL.bytes_bs]; exact HS.out.1, RdL.fine_bytes HS.out.2.1 _ hlb hpb⟩
          have hxl := s.bytes_len a.size
          obtain ⟨xs, hxs⟩ : ∃ xs, (s.bytes a.size).1 = xs := ⟨_, rfl⟩
          obtain ⟨s1, hs1⟩ : ∃ t, (s.bytes a.size).2 = t := ⟨_, rfl⟩
          rw [hxs] at hx hxl
          rw [hs1] at hR5 HsB
          obtain ⟨Ax, cx, rfl⟩ := own_slice hx
          have hrbw : rb < wr.heap.size := HS.out.2.2.1.lt
          have H5 := Lib.hid (And.intro hR5 (And.intro hg5 (And.intro (HS.out.one H2.out.2.2.size hg5) (And.intro hb5 hx))))
          have Hxs := Lib.hid (And.intro hxs hs1)
          have c2' : w5.cell? ⟨b1, o1 + i * 4 + 2, none⟩ = some (.int .i64 a.size) := by rw [HC.out w5 2 hb5]; exact hac'.out.2.2.1
          clear hR5 hg5 hb5 hx hxs hs1 c0
          go_wp2_with fail
          refine (rrBytes_any w5 w.heap.size wb A0 cap s a.size H5.out.2.2.1).mono ?_
          rintro e w6 ⟨y, rfl, hy, hQ6, hg6⟩
          rw [Hxs.out.1] at hy
          rw [Hxs.out.2] at hQ6
          have hx6 := own_typed H5.out.2.2.2.2 hg6 H5.out.2.2.1.2.1 (by decide)
          have H6 := Lib.hid (And.intro (HS.out.two hwb2 HsB.out.1 HsB.out.2 H5.out.1 H5.out.2.1 H5.out.2.2.1 hQ6 hg6) (And.intro hx6 hy))
          obtain ⟨Ay, cy, rfl⟩ := own_slice hy
          clear hQ6 hg6 hx6 hy c2' H5
          go_wp2_with fail
          refine (same_any _ _ xs xs w6 (BSl.of_own H6.out.2.1) (BSl.of_own H6.out.2.2)).mono ?_
          rintro e w7 ⟨rfl, hb7⟩
          rw [decide_eq_true (rfl : xs = xs)]
          have hx7 := own_below H6.out.2.1 hb7
          have hrow : (xs.length = 0) ∨ ∃ gx cur, Ax = some ⟨gx, 0, none⟩ ∧ rb < gx ∧ Blk w7 gx 5 cur ∧ xs.length ≤ cur.size := by
            rcases hx7.2 with ⟨e, h0⟩ | ⟨gx, cp, cur, e, hB, hh, hnc, -, hsz, -⟩
            · exact .inl h0
            · injection e with e1 e2 e3
              exact .inr ⟨gx, cur, e1, by omega, hh, by omega⟩
          have H7 := Lib.hid (And.intro (H6.out.1.below hb7) hrow)
          obtain ⟨n, hn⟩ : ∃ n, xs.length = n := ⟨_, rfl⟩
          rw [hn] at H7 hxl ⊢
          clear hb7 hx7 hrow H6 hn
          obtain ⟨wo, rfl⟩ : ∃ wo, wo = wr := ⟨_, rfl⟩
          go_wp2_with fail
          go_loopw [10] (fun kv wr => ∃ k : Nat, k ≤ n ∧ kv = .int .i64 k ∧ RdsAt w w2 wr rb wb A0 cap b s1 ∧ (n = 0 ∨ ∃ gx cur, Ax = some ⟨gx, 0, none⟩ ∧ rb < gx ∧ Blk wr gx 5 cur ∧ n ≤ cur.size)) (fun kv _ => n - (intOf kv).toNat)
          case atStart => exact ⟨0, Nat.zero_le _, rfl, H7.out.1, H7.out.2⟩
          case round =>
            clear H7
            obtain ⟨k, hk, rfl, hS1, hrow⟩ := hrel
            have HS1 := Lib.hid hS1
            clear hS1
            by_cases hkn : k < n
            · obtain ⟨gx, cur, rfl, hgx, hblk, hsz⟩ : ∃ gx cur, Ax = some ⟨gx, 0, none⟩ ∧ rb < gx ∧ Blk wr gx 5 cur ∧ n ≤ cur.size := by
                rcases hrow with h0 | h
                · omega
                · exact h
              have hkn' : (k : Int) < (n : Int) := by omega
              have Hf := Lib.hid (And.intro hgx (And.intro hblk (And.intro hsz hkn)))
              clear hgx hblk hsz hkn hrow
              go_wp2_with (first
                | (refine wpList_store1 rfl rfl _ (.tmp 85) (.const (.int .u8 9)) rfl gx k (by simp [Act.eval]) (.int .u8 9) rfl 5 _ Hf.out.2.1 (by kernel_rfl) (by have := Hf.out.2.2.1; have := Hf.out.2.2.2; omega) rfl rfl ?_; intro w8 hb8 hg8))
              have H8 := Lib.hid (And.intro (HS1.out.away H2.out.2.2.size hg8 Hf.out.2.1 Hf.out.1) hb8)
              clear hb8 hg8
              go_roundw
              case rel => exact ⟨k + 1, by have := Hf.out.2.2.2; omega, by go_num, H8.out.1, .inr ⟨gx, _, rfl, Hf.out.1, H8.out.2, by have := Hf.out.2.2.1; simpa using this⟩⟩
              case measure => have := Hf.out.2.2.2; simp [intOf]; omega
            · have hge : (n : Int) ≤ (k : Int) := by omega
              clear hkn hrow
              go_wp2_with fail
              go_meet
              exact ⟨_, HS1.out⟩
        by_cases k3 : a.kind = 3
        · have k1' : (a.kind == 1) = false := beq_eq_false_iff_ne.2 k1
          have k2' : (a.kind == 2) = false := beq_eq_false_iff_ne.2 k2
          have hdl := s.digest_len
          clear k1 k2
          go_wp2_with fail
          refine (rdDigest_any wr w2.heap.size rb s HS.out.2.2.1 HS.out.2.2.2.2.size).mono ?_
          rintro e w5 ⟨rfl, hR5, hg5⟩
          have H5 := Lib.hid (And.intro hR5 (And.intro hg5 (HS.out.one H2.out.2.2.size hg5)))
          clear hR5 hg5
          go_wp2_with fail
          refine (rrDigest_any w5 w.heap.size wb A0 cap s H5.out.2.2).mono ?_
          rintro e w6 ⟨rfl, hQ6, hg6⟩
          have H6 := Lib.hid (HS.out.two hwb2 (by rw [RdL.digest_bs]; exact HS.out.1) (RdL.fine_digest HS.out.2.1 hlb) H5.out.1 H5.out.2.1 H5.out.2.2 hQ6 hg6)
          clear hQ6 hg6
          go_wp2_with (first
            | (refine wpList_neD rfl (.tmp 89) (.tmp 91) _ rfl s.digest.1 s.digest.1 rfl rfl hdl hdl true (decide_eq_true rfl) ?_; simp only [Bool.not_true]))
          go_meet
          exact ⟨_, H6.out⟩
        by_cases k4 : a.kind = 4
        · have k1' : (a.kind == 1) = false := beq_eq_false_iff_ne.2 k1
          have k2' : (a.kind == 2) = false := beq_eq_false_iff_ne.2 k2
          have k3' : (a.kind == 3) = false := beq_eq_false_iff_ne.2 k3
          have c1 : wr.cell? ⟨b1, o1 + i * 4 + 1, none⟩ = some (.int .u64 (n64 a.n)) := by rw [HC.out wr 1 HS.out.2.2.2.2]; exact hac'.out.2.1
          obtain ⟨x, hx⟩ : ∃ x, (n64 a.n).tmod 100 = x := ⟨_, rfl⟩
          have hx0 : 0 ≤ x ∧ x < 100 := by
            rw [← hx, Int.tmod_eq_emod_of_nonneg (n64_lo _)]
            omega
          have hwx : wrap64 x = x := by unfold wrap64; omega
          clear k1 k2 k3
          go_wp2_with fail
          try rw [hx]
          try rw [hwx]
          refine (within_any x 0 30 wr (by decide) (by decide) (by decide) (by omega) (by omega)).mono ?_
          rintro e _ ⟨rfl, rfl⟩
          have hwb := withinI_bounds x 0 30 (by decide)
          obtain ⟨k, hk⟩ : ∃ k : Nat, withinI x 0 30 = (k : Int) := ⟨(withinI x 0 30).toNat, by omega⟩
          rw [hk] at hwb ⊢
          have hk30 : k ≤ 30 := by omega
          clear hk hwb c1 hx hx0 hwx
          go_wp2_with fail
          refine (fail_any wr w2.heap.size rb s k (by omega) HS.out.2.2.1 HS.out.2.2.2.2.size).mono ?_
          rintro e w5 ⟨rfl, hR5, hg5⟩
          have H5 := Lib.hid (And.intro hR5 (And.intro hg5 (HS.out.one H2.out.2.2.size hg5)))
          clear hR5 hg5
          go_wp2_with fail
          refine (rrFail_any w5 w.heap.size wb A0 cap s k (by omega) H5.out.2.2).mono ?_
          rintro e w6 ⟨rfl, hQ6, hg6⟩
          have H6 := Lib.hid (HS.out.two hwb2 (by rw [RdL.refuse_bs]; exact HS.out.1) (RdL.fine_refuse HS.out.2.1 _ _ hk30 hpb) H5.out.1 H5.out.2.1 H5.out.2.2 hQ6 hg6)
          clear hQ6 hg6
          go_wp2_with fail
          go_meet
          exact ⟨_, H6.out⟩
        · have k1' : (a.kind == 1) = false := beq_eq_false_iff_ne.2 k1
          have k2' : (a.kind == 2) = false := beq_eq_false_iff_ne.2 k2
          have k3' : (a.kind == 3) = false := beq_eq_false_iff_ne.2 k3
          have k4' : (a.kind == 4) = false := beq_eq_false_iff_ne.2 k4
          clear k1 k2 k3 k4
          go_wp2_with fail
          go_meet
          exact ⟨_, HS.out⟩
      case rest =>
        obtain ⟨s', hS'⟩ := hcut
        clear HS
        have HS := Lib.hid hS'
        clear hS' c0 hac
        have hpb : s'.pos ≤ 9223372036854775807 := by have h1 := HS.out.2.2.2.1.2.2.2.1; have h2 := HS.out.2.2.2.1.2.2.2.2; omega
        have hfs := Lib.hid (RdL.fine_stop HS.out.2.1 hpb)
        go_wp2_with fail
        refine (rrEnd_any wc w.heap.size wb A0 cap s' HS.out.2.2.2.1).mono ?_
        rintro e w7 ⟨rfl, hb7⟩
        have H7 := Lib.hid (HS.out.below hb7)
        have hEnd := rdEnd_any w7 w2.heap.size rb s' H7.out.2.2.1
        have HEnd := Lib.hid hEnd
        clear hb7 HS hEnd hpb
        rcases bytes_stop s' with hst | ⟨p, k, hst⟩
        · rw [hst] at HEnd ⊢
          have hg0 : (none : Option (Nat × Nat)).getD (0, 0) = (0, 0) := rfl
          rw [hg0]
          have Hst := Lib.hid hst
          clear hst hg0 hfs
          go_wp2_with fail
          refine HEnd.out.mono ?_
          rintro e w8 ⟨ev, rfl, hev, hb8⟩
          have hev : ev = .nilIface := hev
          subst hev
          have H8 := Lib.hid (H7.out.below hb8)
          clear hb8 HEnd H7
          go_wp2_with fail
          refine (refused_nil 0 w8).mono ?_
          rintro e _ ⟨rfl, rfl⟩
          go_wp2_with fail
          go_roundw
          case rel => exact ⟨i + 1, s', by omega, by omega, by go_num, H8.out⟩
          case measure => simp [intOf]; omega
        · rw [hst] at HEnd ⊢
          have hg0 : (some (p, k) : Option (Nat × Nat)).getD (0, 0) = (p, k) := rfl
          rw [hg0]
          have hpk := Lib.hid (hfs.out p k hst)
          clear hst hg0 hfs
          go_wp2_with fail
          refine HEnd.out.mono ?_
          rintro e w8 ⟨ev, rfl, ⟨kk, rfl, -, hkk⟩, hb8⟩
          have H8 := Lib.hid (H7.out.below hb8)
          have hz8 := hz.below (H2.out.2.2.trans (H8.out.2.2.2.2.mono H2.out.2.2.size))
          clear hb8 HEnd H7
          go_wp2_with fail
          refine (refused_some kk p k hpk.out.2 hpk.out.1.1 hpk.out.1.2 w8 hz8 hkk).mono ?_
          rintro e w9 ⟨rfl, hb9⟩
          have H9 := Lib.hid (H8.out.below hb9)
          clear hb9 hkk hz8 H8
          go_wp2_with fail
          go_roundw
          case rel => exact ⟨i + 1, s', by omega, by omega, by go_num, H9.out⟩
          case measure => simp [intOf]; omega
    · have hbw : Below w.heap.size w wr := H2.out.2.2.trans (HS.out.2.2.2.2.mono H2.out.2.2.size)
      have hfull : BSl wr wr.heap.size (.slice A2 (b ++ List.replicate 80 (165 : UInt8)).length c2) (b ++ List.replicate 80 165) := by
        have := H2.out.1.next HS.out.2.2.2.2
        rw [show (b ++ List.replicate 80 (165 : UInt8)).length = b.length + 80 by simp]; exact this
      have HI := intact_any (.slice A2 (b ++ List.replicate 80 (165 : UInt8)).length c2) (.slice A0 b.length cap) b 165 wr hfull (Hb.out.next hbw) (by omega)
      rw [show (b ++ List.replicate 80 (165 : UInt8)).length = b.length + 80 by simp] at HI
      have HII := Lib.hid HI
      have Hbw := Lib.hid hbw
      clear HI hfull hbw
      rcases hex with hA | ⟨hA, hB⟩
      all_goals
        go_wp2_with fail
        refine HII.out.mono ?_
        rintro e w7 ⟨rfl, hb7⟩
        have hb8 := Hbw.out.trans (hb7.mono Hbw.out.size)
        have hz8 := hz.below hb8
        clear hb7
        go_wp2_with fail
        refine (known2_any w7 hz8).mono ?_
        rintro e w8 ⟨rfl, hb9⟩
        have hfin := hb8.trans (hb9.mono hb8.size)
        clear hb8 hb9 hz8
        go_wp2_with fail
        go_ret
        exact ⟨rfl, hfin⟩
end Go.Proofs.YteonmcconpfkjaaDoor
