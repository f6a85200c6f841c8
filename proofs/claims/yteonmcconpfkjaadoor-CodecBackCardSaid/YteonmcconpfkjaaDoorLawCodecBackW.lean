/- The walk of deponentlaw2's CodecBack. Condition: the table of strconv. -/
import Derived.Test.YteonmcconpfkjaaDoorQ15
import Derived.Test.YteonmcconpfkjaaDoorQ21
import Derived.Test.YteonmcconpfkjaaDoorQ6
namespace Go.Proofs.YteonmcconpfkjaaDoor
open Go Go.RowKit
attribute [local irreducible] mixW
attribute [local go_sem] n8_lo n8_hi n64_lo n64_hi
theorem wpList_cutHi {P : Program} {ops : Array Oper} {a : Act} {o : Oper} {rest : List Oper} {w : World} {Q : Exit → Act → World → Prop} (hg : o.guard = none) (t : TypeId) (x h : Operand) (ho : o.op = .slice t x none (some h) none) (e : TypeId) (ht : P.underlying t = some (.slice e)) (hs : (P.info? e).map (·.size) = some 1)
    (A : Option Addr) (len cap hi : Nat) (hx : a.eval x = .slice A len cap) (hh : a.eval h = .int .i64 hi) (h2 : hi ≤ cap)
    (hk : wpList P ops Q rest (a.put o.dst (.slice A hi cap)) w) : wpList P ops Q (o :: rest) a w :=
  wpList_plain hg fun K hK => by
    unfold Oper.wp execOp
    simp only [ho, Option.map_some, Option.map_none, hx, hh, Sem.run_bind, run_cut_h ht hs hi h2, Result.andThen_ok, Sem.run_pure]
    exact hK _ _ hk
theorem sh_val (k : Nat) (hk : k ≤ 7) : IntKind.u64.wrap (2 ^ (8 * k)) = ((256 ^ k : Nat) : Int) := by
  have h1 : (256 : Nat) ^ k ≤ 256 ^ 7 := Nat.pow_le_pow_right (by decide) hk
  have h2 : (256 : Nat) ^ 7 = 72057594037927936 := by decide
  have e : (2 : Int) ^ (8 * k) = ((256 ^ k : Nat) : Int) := by
    rw [Int.pow_mul, Int.natCast_pow]; rfl
  rw [wrap_u64', e]
  generalize 256 ^ k = P at h1 ⊢
  omega
theorem tmod_nat (x m : Nat) : (x : Int).tmod (m : Int) = ((x % m : Nat) : Int) := by
  rw [Int.tmod_eq_emod_of_nonneg (by omega)]
  rfl
set_option maxHeartbeats 4000000 in
set_option maxRecDepth 100000 in
theorem codecBack_walk (w : World) (hz : Pz w) (n : UInt64) (size : Int) (hsz : -9223372036854775808 ≤ size ∧ size ≤ 9223372036854775807) (A0 : Option Addr) (cap : Nat) (b : List UInt8) (hb : BSl w w.heap.size (.slice A0 b.length cap) b) (hcp : cap ≤ 140737488351232)
    (d : List UInt8) (hd : d.length = 32) (more : UInt8) :
    Calls Tryd.prog 14 #[.int .u64 (n64 n), .int .i64 size, .slice A0 b.length cap, .agg (dat d), .int .u8 (n8 more)] w fun e w' => e = .returned (.bool true) ∧ Below w.heap.size w w' := by
  have hlc : b.length ≤ cap := by obtain ⟨A', c', e1, h1, -⟩ := hb; injection e1 with _ _ e2; omega
  have Hd := Lib.hid hd
  clear hd
  go_enter Tryd.func14, Tryd.ntmps14
  by_cases h60 : (60000 : Int) < (b.length : Int)
  case' pos =>
    have hc1 : ((60000 : Int) ≤ (cap : Int)) := by omega
    have hs1 := head_b hb 60000 (by omega)
    have hsl : (b.take 60000).length = 60000 := by rw [List.length_take]; omega
    clear hlc hb
    go_wp2_with fail
    clear hc1 h60
    generalize b.take 60000 = sd at hs1 hsl
    obtain ⟨m, hm⟩ : ∃ m : Nat, m = 60000 := ⟨_, rfl⟩
    have hm2 : m ≤ 60000 := by omega
    rw [← hm] at hs1 hsl ⊢
    clear hm
  case' neg =>
    have hm2 : b.length ≤ 60000 := by omega
    have hs1 := hb
    obtain ⟨m, hm⟩ : ∃ m, b.length = m := ⟨_, rfl⟩
    rw [hm] at hs1 hm2 h60 ⊢
    have hsl := Lib.hid hm
    clear hm hlc hb
    go_wp2_with fail
    clear h60
    replace hsl := hsl.out
    generalize b = sd at hs1 hsl
  all_goals
    subst hsl
    have HS := Lib.hid hs1
    clear hs1
    refine calls_at (fun W => Blk W w.heap.size 43 (dat d) ∧ Below w.heap.size w W) ⟨Blk.new w _ _, below_new1 w _⟩ ?_
    rintro W1 ⟨hD1, hb1⟩
    have H1 := Lib.hid (And.intro hD1 hb1)
    clear hD1 hb1
    refine (within_any size 0 7 W1 (by decide) (by decide) (by decide) hsz.1 hsz.2).mono ?_
    rintro e _ ⟨rfl, rfl⟩
    have hkv := kOf_val size
    have hk1 := kOf_lo size
    have hk8 := kOf_hi size
    obtain ⟨k, hk⟩ : ∃ k, kOf size = k := ⟨_, rfl⟩
    obtain ⟨y, hy⟩ : ∃ y, withinI size 0 7 = y := ⟨_, rfl⟩
    rw [hk] at hkv hk1 hk8
    rw [hy] at hkv ⊢
    have hky : y + 1 = (k : Int) := by omega
    have hy9 : -100 < y ∧ y < 100 := by omega
    clear hk hy hkv
    go_wp2_with fail
    clear hky hy9
    refine (newWriter_two W1).mono ?_
    rintro e w2 ⟨rfl, hW, hb2⟩
    have H2 := Lib.hid (And.intro (H1.out.1.below hb2 H1.out.1.lt) (And.intro (H1.out.2.trans (hb2.mono H1.out.2.size)) (And.intro hW hb2.size)))
    obtain ⟨g, hg⟩ : ∃ g, W1.heap.size = g := ⟨_, rfl⟩
    rw [hg] at H2 ⊢
    have Hg := Lib.hid hg
    clear hW hb2 hg
    go_wp2_with fail
    refine (number_two g _ [] n k (by omega) w2 g H2.out.2.2.1 H2.out.2.2.2 (by decide)).mono ?_
    rintro e w3 ⟨rfl, v3, hW3, ht3⟩
    rw [clamp8_self k hk1 hk8] at hW3
    have hwg : w.heap.size ≤ g := by have := Hg.out; have := H1.out.2.size; omega
    have hDg : w.heap.size < g := by have := Hg.out; have := H1.out.1.lt; omega
    have hb3 := ht3.bel (B := g) (Nat.le_refl _) H2.out.2.2.1.low H2.out.2.2.2
    have H3 := Lib.hid (And.intro (H2.out.1.below hb3 hDg) (And.intro (H2.out.2.1.trans (hb3.mono hwg)) (And.intro hW3 (Nat.le_trans H2.out.2.2.2 ht3.size))))
    have hl3 : ([] ++ numB n k).length ≤ 8 := by rw [List.nil_append, numB_length]; exact hk8
    clear hW3 ht3 hb3 H2
    go_wp2_with fail
    have hap : 0 < sd.length → ∀ b o, A0 = some ⟨b, o, none⟩ → b < w.heap.size := fun h b o e => by
      obtain ⟨b', o', e', h', _⟩ := (bsl_reads HS.out) (by rw [List.length_map]; exact h)
      rw [e] at e'
      injection e' with e'
      injection e' with e' _
      omega
    have Hap := Lib.hid hap
    clear hap
    refine (wbytes_two g v3 _ A0 cap sd w3 g H3.out.2.2.1 H3.out.2.2.2 (HS.out.next H3.out.2.1) (fun h b o e => ⟨by have := Hap.out h b o e; omega, fun e2 => by have := Hap.out h b o e; have := H3.out.2.2.1.low _ e2.symm; omega⟩) (by omega)).mono ?_
    rintro e w4 ⟨rfl, v4, hW4, ht4⟩
    have hb4 := ht4.bel (B := g) (Nat.le_refl _) H3.out.2.2.1.low H3.out.2.2.2
    have H4 := Lib.hid (And.intro (H3.out.1.below hb4 hDg) (And.intro (H3.out.2.1.trans (hb4.mono hwg)) (And.intro hW4 (Nat.le_trans H3.out.2.2.2 ht4.size))))
    have hl4 : ([] ++ numB n k ++ txtB sd).length ≤ 70000 := by rw [txtB_small sd (by omega)]; simp only [List.length_append, List.nil_append, numB_length]; omega
    clear hW4 ht4 hb4 H3 hl3
    have hD4 := H4.out.1
    go_wp2_with (first
      | (refine wpList_loadW (by rfl) 43 (.tmp 8) rfl w.heap.size rfl _ _ _ hD4 Tryd.underlying43 rfl (by kernel_rfl) ?_))
    refine (digest_any _ _ d Hd.out w4 g H4.out.2.2.1.wrt H4.out.2.2.2 (by omega)).mono ?_
    rintro e w5 ⟨rfl, hW5, hb5⟩
    have H5 := Lib.hid (And.intro (H4.out.1.below hb5 hDg) (And.intro (H4.out.2.1.trans (hb5.mono hwg)) hW5))
    have hX : [] ++ numB n k ++ txtB sd ++ d = backX n k sd d := by rw [List.nil_append]; rfl
    rw [hX] at H5
    have hXl := backX_len n k sd d (by omega)
    have hL : k + 2 + sd.length + d.length = k + 2 + sd.length + 32 := by rw [Hd.out]
    rw [hL] at hXl
    have Hcut := Lib.hid (fun t (h : t < 3) => back_read n k sd d more hk1 hk8 (by omega) Hd.out t h)
    obtain ⟨X, hXX⟩ : ∃ X, backX n k sd d = X := ⟨_, rfl⟩
    rw [hXX] at H5 hXl Hcut
    clear hD4 hW5 hb5 H4 hl4 hX hL hXX
    go_wp2_with fail
    refine (done_any _ X w5 g H5.out.2.2 (by omega)).mono ?_
    rintro e w6 ⟨x, rfl, hx, -, hb6⟩
    obtain ⟨Ax, cx, rfl⟩ := hx.len
    have H6 := Lib.hid (And.intro (H5.out.1.below hb6 H5.out.1.lt) (And.intro (H5.out.2.1.trans (hb6.mono H5.out.2.1.size)) hx))
    clear hx hb6 H5
    obtain ⟨L, hLL⟩ : ∃ L, X.length = L := ⟨_, rfl⟩
    rw [hLL] at hXl H6 ⊢
    have HL := Lib.hid hLL
    have hLi : (L : Int) = (k : Int) + 2 + (sd.length : Int) + 32 := by omega
    have hL9 : L ≤ 70000 := by omega
    have hL34 : 35 ≤ L := by omega
    clear hLL hXl
    go_wp2_with fail
    clear hLi
    have hN : n.toNat % 256 ^ k < 18446744073709551616 := Nat.lt_of_le_of_lt (Nat.mod_le _ _) n.toNat_lt
    have hM0 : 0 < 256 ^ k := Nat.pow_pos (by decide)
    have hM8 : k = 8 → 256 ^ k = 18446744073709551616 := fun e => by subst e; rfl
    obtain ⟨M, hM⟩ : ∃ M, 256 ^ k = M := ⟨_, rfl⟩
    have HM : Hid (256 ^ k = M ∧ (k = 8 → M = 18446744073709551616)) := Lib.hid ⟨hM, fun e => by rw [← hM]; exact hM8 e⟩
    rw [hM] at hN hM0 Hcut
    obtain ⟨N, hNN⟩ : ∃ N, n.toNat % M = N := ⟨_, rfl⟩
    rw [hNN] at hN Hcut
    have HN := Lib.hid hNN
    clear hM hNN hM8
    go_loopw [0, 13] (fun nv tv wr => ∃ (t x : Nat), t ≤ 3 ∧ tv = .int .i64 (t : Int) ∧ nv = .int .u64 (x : Int) ∧ x < 18446744073709551616 ∧ x % M = N ∧ Below w6.heap.size w6 wr) (fun _ tv _ => 4 - (intOf tv).toNat)
    case atStart => exact ⟨0, n.toNat, by decide, rfl, rfl, n.toNat_lt, HN.out, Below.refl _ _⟩
    case round =>
      obtain ⟨t, x, ht3, rfl, rfl, hx64, hxN, hbel⟩ := hrel
      have HB := Lib.hid (And.intro hbel (And.intro (H6.out.1.below hbel H6.out.1.lt) (And.intro (H6.out.2.1.trans (hbel.mono H6.out.2.1.size)) (H6.out.2.2.next hbel))))
      have HxN := Lib.hid hxN
      clear hbel hxN
      by_cases htl : t < 3
      case neg =>
        have hti : (3 : Int) ≤ (t : Int) := by omega
        have hzz := hz.below HB.out.2.2.1
        clear htl
        go_wp2_with fail
        refine (known2_any wr hzz).mono ?_
        rintro e w7 ⟨rfl, hb7⟩
        have hfin := HB.out.2.2.1.trans (hb7.mono HB.out.2.2.1.size)
        clear hb7 hzz
        go_wp2_with fail
        go_ret
        exact ⟨rfl, hfin⟩
      case pos =>
        have hti : (t : Int) < 3 := by omega
        obtain ⟨q, hqN⟩ : ∃ q, L + t - 1 = q := ⟨_, rfl⟩
        have hk5 := H6.out.2.2
        have hLk : 35 ≤ L := hL34
        have hq : (L : Int) + (t : Int) - 1 = (q : Int) := by omega
        have hq1 : q ≤ L + 1 := by omega
        have HqN := Lib.hid hqN
        clear hqN hk5 hLk
        have hoe := own_emptyB wr wr.heap.size (Nat.le_refl _)
        have hn1 := below_new1 wr (Obj.cells #[] 5)
        have hrdX := bsl_reads (HB.out.2.2.2.next hn1)
        have HA := Lib.hid (And.intro hoe (And.intro hn1 hrdX))
        clear hoe hn1 hrdX
        go_wp2_with (first
          | (at_builtin; refine wpList_appendS rfl (.tmp 56) (.tmp 57) rfl wr.heap.size _ [] X rfl HA.out.1 _ _ _ _ rfl HL.out HA.out.2.2 (by rw [HL.out]; simp; omega) HA.out.2.1.size wr HA.out.2.1 ?_; intro u1 w7 hown7 hb7; rw [List.nil_append] at hown7; have HC := Lib.hid (And.intro hown7 (And.intro hb7 hb7.size)); clear hown7 hb7)
          | (at_builtin; refine wpList_append1 rfl (.tmp 58) (.tmp 60) rfl wr.heap.size _ _ rfl HC.out.1 (v8 more) rfl rfl (by rw [List.length_map, HL.out]; omega) HC.out.2.2 wr HC.out.2.1 ?_; intro u2 w8 hown8 hb8; rw [show X.map v8 ++ [v8 more] = (X ++ [more]).map v8 by rw [List.map_append]; rfl, List.length_map, List.length_append, HL.out, List.length_singleton] at hown8; obtain ⟨Ay, cy, hye⟩ := own_slice hown8; subst hye; have hcy := own_cap hown8; have hcq : (q : Int) ≤ (cy : Int) := (by omega); clear hcy; have HY := Lib.hid (And.intro hown8 hb8); clear hown8 hb8))
        clear hq hq1 hcq
        obtain ⟨s1, s2, s3, e1, e2, e3, e4⟩ := Hcut.out t htl
        rw [HL.out, HqN.out] at e1
        rw [HL.out] at e4
        have hbY : BSl w8 w8.heap.size (.slice Ay (L + 1) cy) (X ++ [more]) := by
          have h9 := HY.out.1
          rw [show L + 1 = (X ++ [more]).length by rw [List.length_append, HL.out]; rfl] at h9 ⊢
          exact BSl.of_own h9
        have hbq := head_b hbY q (by have := HqN.out; omega)
        obtain ⟨bs, hbs⟩ : ∃ bs, (X ++ [more]).take q = bs := ⟨_, rfl⟩
        rw [hbs] at hbq e1
        have hbl : bs.length = q := by rw [← hbs, List.length_take, List.length_append, HL.out, List.length_singleton]; have := HqN.out; omega
        have hq7 : q ≤ 70010 := by have := HqN.out; omega
        have HE := Lib.hid (And.intro e1 (And.intro e2 (And.intro e3 e4)))
        have Hbq : Hid (BSl w8 w8.heap.size (.slice Ay bs.length cy) bs) := Lib.hid (by rw [hbl]; exact hbq)
        have hbl2 : bs.length ≤ 70010 := by omega
        rw [← hbl]
        clear e1 e2 e3 e4 hbY hbq hbs hbl hq7
        refine (newReader_any _ bs w8 Hbq.out (by omega)).mono ?_
        rintro e w9 ⟨r, rfl, hR, hb9⟩
        have H9 := Lib.hid (And.intro (hR.base HY.out.2.size) (HY.out.2.trans (hb9.mono HY.out.2.size)))
        clear hR hb9 Hbq hbl2
        go_wp2_with fail
        refine (rdNumber_any w9 wr.heap.size r _ k (by omega) H9.out.1 H9.out.2.size).mono ?_
        rw [HE.out.1]
        rintro e w10 ⟨rfl, hR, hg⟩
        have H10 := Lib.hid (And.intro hR (below_only H9.out.2 hg H9.out.1.ge H9.out.2.size))
        clear hR hg H9
        go_wp2_with fail
        refine (rdBytes_any w10 wr.heap.size r _ (sd.length : Int) (by omega) H10.out.1 H10.out.2.size).mono ?_
        rw [HE.out.2.1]
        rintro e w11 ⟨c, rfl, hc, hR, hg⟩
        obtain ⟨Ac, cc, rfl⟩ := own_slice hc
        have H11 := Lib.hid (And.intro hR (And.intro (own_baseR hc H10.out.2.size) (below_only H10.out.2 hg H10.out.1.ge H10.out.2.size)))
        clear hc hR hg H10
        go_wp2_with fail
        refine (rdDigest_any w11 wr.heap.size r _ H11.out.1 H11.out.2.2.size).mono ?_
        rw [HE.out.2.2.1]
        rintro e w12 ⟨rfl, hR, hg⟩
        obtain ⟨cs, hcs⟩ := H11.out.1.blk
        have hc12 := own_typed H11.out.2.1 hg hcs (by decide)
        have hb12 := below_only H11.out.2.2 hg H11.out.1.ge H11.out.2.2.size
        obtain ⟨Dt, hDt⟩ : ∃ D, (if t = 0 then List.replicate 32 0 else d) = D := ⟨_, rfl⟩
        rw [hDt]
        have HDt : Hid (Dt.length = 32 ∧ (t ≠ 0 → Dt = d)) := Lib.hid (by
          refine ⟨?_, fun h => ?_⟩
          · rw [← hDt]; split
            · simp
            · exact Hd.out
          · rw [← hDt, if_neg h])
        have hD12 := Blk.new w12 43 (arr 32 fun _ => 0)
        have hn12 := below_new1 w12 (Obj.cells (arr 32 fun _ => 0) 43)
        have H12 := Lib.hid (And.intro (hR.below hn12) (And.intro (own_below hc12 hn12) (And.intro hb12 hn12)))
        clear hDt hR hg hcs hc12 hb12 hn12 H11
        go_upto_region 23 with (first
          | (refine wpList_storeDat rfl rfl 43 (.tmp 18) (.tmp 80) rfl w12.heap.size rfl _ _ rfl _ hD12 (by kernel_rfl) ?_; intro w13 hD13 hon13))
        have hc13 := own_typed H12.out.2.1 hon13 hD12 (by decide)
        have hR13 := H12.out.1.grown hon13 hD12 (by decide) (by decide) (fun e => by have := H12.out.1.blk; obtain ⟨cs, hcs⟩ := this; subst e; have h9 := hcs.symm.trans hD12; injection h9 with h9; injection h9 with _ h9 _; exact absurd h9 (by decide))
        have hb13 := H12.out.2.2.1.trans ((below_only H12.out.2.2.2 hon13 (Nat.le_refl _) H12.out.2.2.2.size).mono H12.out.2.2.1.size)
        obtain ⟨ge, hge⟩ : ∃ ge, w12.heap.size = ge := ⟨_, rfl⟩
        rw [hge] at hD13 ⊢
        have H13 := Lib.hid (And.intro hR13 (And.intro hc13 (And.intro hb13 hD13)))
        clear hge hc13 hR13 hb13 hD13 hon13 hD12 H12
        go_wp2_with fail
        refine (rdEnd_any w13 wr.heap.size r _ H13.out.1).mono ?_
        rw [HE.out.2.2.2]
        rintro e w14 ⟨ev, rfl, hev, hb14⟩
        have H14 := Lib.hid (And.intro hev (And.intro (own_below H13.out.2.1 hb14) (And.intro (H13.out.2.2.1.trans (hb14.mono H13.out.2.2.1.size)) (H13.out.2.2.2.below hb14 H13.out.2.2.2.lt))))
        clear hev hb14 H13
        have hLi1 : (L : Int) - 1 = ((L - 1 : Nat) : Int) := by omega
        rcases (show t = 0 ∨ t = 1 ∨ t = 2 by omega) with rfl | rfl | rfl
        · obtain ⟨kk, rfl, -, hkk⟩ := H14.out.1
          have hz14 := hz.below (HB.out.2.2.1.trans (H14.out.2.2.1.mono HB.out.2.2.1.size))
          go_wp2_with fail
          refine (refused_some kk (L - 1) 10 (by omega) (by decide) (by decide) w14 hz14 hkk).mono ?_
          rintro e w15 ⟨rfl, hb15⟩
          have H15 := Lib.hid (And.intro (own_below H14.out.2.1 hb15) (And.intro (H14.out.2.2.1.trans (hb15.mono H14.out.2.2.1.size)) (H14.out.2.2.2.below hb15 H14.out.2.2.2.lt)))
          clear hb15 hkk hz14 H14
          have hcB := BSl.of_own H15.out.1
          have hbB := HS.out.next (HB.out.2.2.1.trans (H15.out.2.1.mono HB.out.2.2.1.size))
          by_cases hk : k < 8
          · have hk' : (k : Int) < 8 := by omega
            have e8 : IntKind.i64.wrap (8 * (k : Int)) = ((8 * k : Nat) : Int) := by rw [IntWalk.i64_in _ (by omega)]; omega
            have hsh : IntKind.u64.wrap (2 ^ (8 * k)) = (M : Int) := by rw [← HM.out.1]; exact sh_val k (by omega)
            have hrem : (x : Int) % (M : Int) = (N : Int) := by have := HxN.out; omega
            go_wp2_with (first
              | (refine wpList_unguard rfl ?_; refine wpList_strA rfl (.tmp 116) rfl _ sd _ rfl hcB ?_)
              | (refine wpList_unguard rfl ?_; refine wpList_strA rfl (.tmp 118) rfl _ sd _ rfl hbB ?_)
              | (refine wpList_unguard rfl ?_; refine wpList_neStr rfl (.tmp 117) (.tmp 119) _ rfl sd sd rfl rfl true (decide_eq_true rfl) ?_; simp only [Bool.not_true]))
            clear hsh hrem e8 hcB hbB
            go_roundw
            case rel => exact ⟨1, N, by decide, rfl, rfl, hN, by rw [← HxN.out, Nat.mod_mod], HB.out.1.trans (H15.out.2.1.mono HB.out.1.size)⟩
            case measure => simp [intOf]
          · have hk' : (8 : Int) ≤ (k : Int) := by omega
            have hx8 : x = N := by rw [← HxN.out, HM.out.2 (by omega)]; exact (Nat.mod_eq_of_lt hx64).symm
            subst hx8
            go_wp2_with (first
              | (refine wpList_unguard rfl ?_; refine wpList_strA rfl (.tmp 116) rfl _ sd _ rfl hcB ?_)
              | (refine wpList_unguard rfl ?_; refine wpList_strA rfl (.tmp 118) rfl _ sd _ rfl hbB ?_)
              | (refine wpList_unguard rfl ?_; refine wpList_neStr rfl (.tmp 117) (.tmp 119) _ rfl sd sd rfl rfl true (decide_eq_true rfl) ?_; simp only [Bool.not_true]))
            clear hcB hbB
            go_roundw
            case rel => exact ⟨1, x, by decide, rfl, rfl, hx64, HxN.out, HB.out.1.trans (H15.out.2.1.mono HB.out.1.size)⟩
            case measure => simp [intOf]
        · have hev : ev = .nilIface := H14.out.1
          subst hev
          have H15 := Lib.hid H14.out.2
          clear H14
          have hcB := BSl.of_own H15.out.1
          have hbB := HS.out.next (HB.out.2.2.1.trans (H15.out.2.1.mono HB.out.2.2.1.size))
          have hDe := H15.out.2.2
          rw [HDt.out.2 (by decide)] at hDe
          have hDd := HB.out.2.1.below H15.out.2.1 HB.out.2.1.lt
          by_cases hk : k < 8
          · have hk' : (k : Int) < 8 := by omega
            have e8 : IntKind.i64.wrap (8 * (k : Int)) = ((8 * k : Nat) : Int) := by rw [IntWalk.i64_in _ (by omega)]; omega
            have hsh : IntKind.u64.wrap (2 ^ (8 * k)) = (M : Int) := by rw [← HM.out.1]; exact sh_val k (by omega)
            have hrem : (x : Int) % (M : Int) = (N : Int) := by have := HxN.out; omega
            go_wp2_with (first
              | (refine wpList_unguard rfl ?_; refine wpList_strA rfl (.tmp 116) rfl _ sd _ rfl hcB ?_)
              | (refine wpList_unguard rfl ?_; refine wpList_strA rfl (.tmp 118) rfl _ sd _ rfl hbB ?_)
              | (refine wpList_unguard rfl ?_; refine wpList_neStr rfl (.tmp 117) (.tmp 119) _ rfl sd sd rfl rfl true (decide_eq_true rfl) ?_; simp only [Bool.not_true])
              | (refine wpList_loadW (by rfl) 43 (.tmp 18) rfl ge rfl _ _ _ hDe Tryd.underlying43 rfl (by kernel_rfl) ?_)
              | (refine wpList_loadW (by rfl) 43 (.tmp 8) rfl w.heap.size rfl _ _ _ hDd Tryd.underlying43 rfl (by kernel_rfl) ?_)
              | (refine wpList_unguard rfl ?_; refine wpList_neD rfl (.tmp 126) (.tmp 127) _ rfl d d rfl rfl Hd.out Hd.out true (decide_eq_true rfl) ?_; simp only [Bool.not_true]))
            clear hsh hrem e8 hcB hbB hDe hDd
            go_roundw
            case rel => exact ⟨2, N, by decide, rfl, rfl, hN, by rw [← HxN.out, Nat.mod_mod], HB.out.1.trans (H15.out.2.1.mono HB.out.1.size)⟩
            case measure => simp [intOf]
          · have hk' : (8 : Int) ≤ (k : Int) := by omega
            have hx8 : x = N := by rw [← HxN.out, HM.out.2 (by omega)]; exact (Nat.mod_eq_of_lt hx64).symm
            subst hx8
            go_wp2_with (first
              | (refine wpList_unguard rfl ?_; refine wpList_strA rfl (.tmp 116) rfl _ sd _ rfl hcB ?_)
              | (refine wpList_unguard rfl ?_; refine wpList_strA rfl (.tmp 118) rfl _ sd _ rfl hbB ?_)
              | (refine wpList_unguard rfl ?_; refine wpList_neStr rfl (.tmp 117) (.tmp 119) _ rfl sd sd rfl rfl true (decide_eq_true rfl) ?_; simp only [Bool.not_true])
              | (refine wpList_loadW (by rfl) 43 (.tmp 18) rfl ge rfl _ _ _ hDe Tryd.underlying43 rfl (by kernel_rfl) ?_)
              | (refine wpList_loadW (by rfl) 43 (.tmp 8) rfl w.heap.size rfl _ _ _ hDd Tryd.underlying43 rfl (by kernel_rfl) ?_)
              | (refine wpList_unguard rfl ?_; refine wpList_neD rfl (.tmp 126) (.tmp 127) _ rfl d d rfl rfl Hd.out Hd.out true (decide_eq_true rfl) ?_; simp only [Bool.not_true]))
            clear hcB hbB hDe hDd
            go_roundw
            case rel => exact ⟨2, x, by decide, rfl, rfl, hx64, HxN.out, HB.out.1.trans (H15.out.2.1.mono HB.out.1.size)⟩
            case measure => simp [intOf]
        · obtain ⟨kk, rfl, -, hkk⟩ := H14.out.1
          have hz14 := hz.below (HB.out.2.2.1.trans (H14.out.2.2.1.mono HB.out.2.2.1.size))
          go_wp2_with fail
          refine (refused_some kk L 11 (by omega) (by decide) (by decide) w14 hz14 hkk).mono ?_
          rintro e w15 ⟨rfl, hb15⟩
          have H15 := Lib.hid (And.intro (own_below H14.out.2.1 hb15) (And.intro (H14.out.2.2.1.trans (hb15.mono H14.out.2.2.1.size)) (H14.out.2.2.2.below hb15 H14.out.2.2.2.lt)))
          clear hb15 hkk hz14 H14
          have hcB := BSl.of_own H15.out.1
          have hbB := HS.out.next (HB.out.2.2.1.trans (H15.out.2.1.mono HB.out.2.2.1.size))
          have hDe := H15.out.2.2
          rw [HDt.out.2 (by decide)] at hDe
          have hDd := HB.out.2.1.below H15.out.2.1 HB.out.2.1.lt
          by_cases hk : k < 8
          · have hk' : (k : Int) < 8 := by omega
            have e8 : IntKind.i64.wrap (8 * (k : Int)) = ((8 * k : Nat) : Int) := by rw [IntWalk.i64_in _ (by omega)]; omega
            have hsh : IntKind.u64.wrap (2 ^ (8 * k)) = (M : Int) := by rw [← HM.out.1]; exact sh_val k (by omega)
            have hrem : (x : Int) % (M : Int) = (N : Int) := by have := HxN.out; omega
            go_wp2_with (first
              | (refine wpList_unguard rfl ?_; refine wpList_strA rfl (.tmp 116) rfl _ sd _ rfl hcB ?_)
              | (refine wpList_unguard rfl ?_; refine wpList_strA rfl (.tmp 118) rfl _ sd _ rfl hbB ?_)
              | (refine wpList_unguard rfl ?_; refine wpList_neStr rfl (.tmp 117) (.tmp 119) _ rfl sd sd rfl rfl true (decide_eq_true rfl) ?_; simp only [Bool.not_true])
              | (refine wpList_loadW (by rfl) 43 (.tmp 18) rfl ge rfl _ _ _ hDe Tryd.underlying43 rfl (by kernel_rfl) ?_)
              | (refine wpList_loadW (by rfl) 43 (.tmp 8) rfl w.heap.size rfl _ _ _ hDd Tryd.underlying43 rfl (by kernel_rfl) ?_)
              | (refine wpList_unguard rfl ?_; refine wpList_neD rfl (.tmp 126) (.tmp 127) _ rfl d d rfl rfl Hd.out Hd.out true (decide_eq_true rfl) ?_; simp only [Bool.not_true]))
            clear hsh hrem e8 hcB hbB hDe hDd
            go_roundw
            case rel => exact ⟨3, N, by decide, rfl, rfl, hN, by rw [← HxN.out, Nat.mod_mod], HB.out.1.trans (H15.out.2.1.mono HB.out.1.size)⟩
            case measure => simp [intOf]
          · have hk' : (8 : Int) ≤ (k : Int) := by omega
            have hx8 : x = N := by rw [← HxN.out, HM.out.2 (by omega)]; exact (Nat.mod_eq_of_lt hx64).symm
            subst hx8
            go_wp2_with (first
              | (refine wpList_unguard rfl ?_; refine wpList_strA rfl (.tmp 116) rfl _ sd _ rfl hcB ?_)
              | (refine wpList_unguard rfl ?_; refine wpList_strA rfl (.tmp 118) rfl _ sd _ rfl hbB ?_)
              | (refine wpList_unguard rfl ?_; refine wpList_neStr rfl (.tmp 117) (.tmp 119) _ rfl sd sd rfl rfl true (decide_eq_true rfl) ?_; simp only [Bool.not_true])
              | (refine wpList_loadW (by rfl) 43 (.tmp 18) rfl ge rfl _ _ _ hDe Tryd.underlying43 rfl (by kernel_rfl) ?_)
              | (refine wpList_loadW (by rfl) 43 (.tmp 8) rfl w.heap.size rfl _ _ _ hDd Tryd.underlying43 rfl (by kernel_rfl) ?_)
              | (refine wpList_unguard rfl ?_; refine wpList_neD rfl (.tmp 126) (.tmp 127) _ rfl d d rfl rfl Hd.out Hd.out true (decide_eq_true rfl) ?_; simp only [Bool.not_true]))
            clear hcB hbB hDe hDd
            go_roundw
            case rel => exact ⟨3, x, by decide, rfl, rfl, hx64, HxN.out, HB.out.1.trans (H15.out.2.1.mono HB.out.1.size)⟩
            case measure => simp [intOf]
end Go.Proofs.YteonmcconpfkjaaDoor
