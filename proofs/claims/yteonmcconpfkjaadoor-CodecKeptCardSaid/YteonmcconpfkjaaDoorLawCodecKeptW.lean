/- The walk of deponentlaw2's CodecKept. Condition: the table of strconv. -/
import Derived.Test.YteonmcconpfkjaaDoorQ15
import Derived.Test.YteonmcconpfkjaaDoorQ20
namespace Go.Proofs.YteonmcconpfkjaaDoor
open Go Go.RowKit
attribute [local irreducible] mixW
attribute [local go_sem] n8_lo n8_hi n64_lo n64_hi
section
variable {w w' : World} {B C N bk g : Nat} {s : RdL}
/-- a reader, while a book turns -/
theorem Rdr.ty (h : Rdr w B g s) (ht : Ty2 25 22 w w') : Rdr w' B g s := by
  obtain ⟨A, c, q, b1, b2, b3, b4, b5, b6⟩ := h
  refine ⟨A, c, q, b1, ht.blk b2 (by decide) (by decide), ht.own b3 (by decide) (by decide), b4, b5, ?_⟩
  cases hn : s.no with
  | none => rw [hn] at b6; exact b6
  | some x => rw [hn] at b6; obtain ⟨j, e, hj, hk⟩ := b6; exact ⟨j, e, hj, ht.blk hk (by decide) (by decide)⟩
theorem Wr.ty {v : Value} {bs : List UInt8} (h : Wr w B g v bs) (ht : Ty2 25 22 w w') : Wr w' B g v bs := ⟨h.1, ht.blk h.2.1 (by decide) (by decide), ht.own h.2.2 (by decide) (by decide)⟩
/-- a row is kept -/
theorem keepB_new (w0 w1 : World) (B N bk : Nat) (v : Value) (ds : List UInt8) (hB : B ≤ w0.heap.size) (hN : N ≤ 1000000) (hK : BookAtB w0 B w0.heap.size N bk) (hb : BookAtB w1 B w0.heap.size N bk) (hs : w0.heap.size ≤ w1.heap.size)
    (hv : w1.ownsRow w0.heap.size 5 1 v ds.length (ds.map v8)) (hg : ds.length ≤ 1000000) :
    Calls Tryd.prog 16 #[.pointer (some ⟨bk, 0, none⟩), v] w1 fun e w' => e = .returned (.tuple #[]) ∧ BookAtB w' B w'.heap.size (N + 1) bk ∧ Below B w1 w' ∧ Ty2 25 22 w1 w' :=
  (keepB_any w1 B w0.heap.size w1.heap.size N bk (Nat.le_trans hB hs) hN v ds hb hv (by unfold GoodB; omega) hB hs (own_lt hv)).mono fun e w' ⟨h1, h2, h3, h4⟩ => ⟨h1, h2.more h4.size, h3, h4⟩
/-- a book, while a reader turns -/
theorem BookAtB.rd (h : BookAtB w B C N bk) (ht : Ty2 233 233 w w') : BookAtB w' B C N bk := by
  obtain ⟨L, W, hh, vs, us, dss, h1, h2, h3, h4, h5, h6, h7⟩ := h
  refine ⟨L, W, hh, vs, us, dss, ht.blk h1 (by decide) (by decide), h2, h3, h4.ty ht (by decide) (by decide), h5.ty ht (by decide) (by decide), h6, h7.1, h7.2.1, fun i v u ds e1 e2 e3 => ?_, h7.2.2.2⟩
  obtain ⟨a, b, c, d⟩ := h7.2.2.1 i v u ds e1 e2 e3
  exact ⟨ht.own a (by decide) (by decide), b, ht.own c (by decide) (by decide), d⟩
end
set_option maxHeartbeats 2000000 in
set_option maxRecDepth 100000 in
theorem codecKept_walk (w : World) (hz : Pz w) (A0 : Option Addr) (cap : Nat) (b : List UInt8) (hb : BSl w w.heap.size (.slice A0 b.length cap) b) (hcp : cap ≤ 140737488351232) :
    Calls Tryd.prog 9 #[.slice A0 b.length cap] w fun e w' => e = .returned (.bool true) ∧ Below w.heap.size w w' := by
  have hlc : b.length ≤ cap := by obtain ⟨A', c', e1, h1, -⟩ := hb; injection e1 with _ _ e2; omega
  go_enter Tryd.func9, Tryd.ntmps9
  by_cases h1000 : (1000 : Int) < (b.length : Int)
  case' pos =>
    have hc1 : ((1000 : Int) ≤ (cap : Int)) := by omega
    have hs1 := head_b hb 1000 (by omega)
    have hsl : (b.take 1000).length = 1000 := by rw [List.length_take]; omega
    clear hlc hb
    go_wp2_with fail
    clear hc1 h1000
    generalize b.take 1000 = sd at hs1 hsl
    obtain ⟨m, hm⟩ : ∃ m : Nat, m = 1000 := ⟨_, rfl⟩
    have hm2 : m ≤ 1000 := by omega
    rw [← hm] at hs1 hsl ⊢
    clear hm
  case' neg =>
    have hm2 : b.length ≤ 1000 := by omega
    have hs1 := hb
    obtain ⟨m, hm⟩ : ∃ m, b.length = m := ⟨_, rfl⟩
    rw [hm] at hs1 hm2 h1000 ⊢
    have hsl := Lib.hid hm
    clear hm hlc hb
    go_wp2_with fail
    clear h1000
    replace hsl := hsl.out
    generalize b = sd at hs1 hsl
  all_goals
    subst hsl
    have HS := Lib.hid hs1
    clear hs1
    refine (newWriter_two w).mono ?_
    rintro e w1 ⟨rfl, hW, hb1⟩
    have hap : 0 < sd.length → ∀ b o, A0 = some ⟨b, o, none⟩ → b < w.heap.size := fun h b o e => by
      obtain ⟨b', o', e', h', _⟩ := (bsl_reads HS.out) (by rw [List.length_map]; exact h)
      rw [e] at e'
      injection e' with e'
      injection e' with e' _
      omega
    have Hap := Lib.hid hap
    have H1 := Lib.hid (And.intro hW hb1)
    clear hap hW hb1
    go_wp2_with fail
    refine (wbytes_two w.heap.size _ [] A0 cap sd w1 w.heap.size H1.out.1 H1.out.2.size (HS.out.next H1.out.2) (fun h b o e => ⟨by have := Hap.out h b o e; omega, fun e2 => by cases e2⟩) (by decide)).mono ?_
    rintro e w2 ⟨rfl, v2, hW2, ht2⟩
    have hb2 := H1.out.2.trans (ht2.bel (Nat.le_refl _) H1.out.1.low H1.out.2.size)
    have H2 := Lib.hid (And.intro hW2 hb2)
    clear hW2 hb2 ht2 H1
    have hl2 : ([] ++ txtB sd).length ≤ 1002 := by unfold txtB; rw [List.nil_append, List.length_append, numB_length, List.length_take]; omega
    obtain ⟨X, hX⟩ : ∃ X, [] ++ txtB sd = X := ⟨_, rfl⟩
    rw [hX] at H2 hl2
    clear hX
    go_wp2_with fail
    refine (wbytes_two w.heap.size v2 X A0 cap sd w2 w.heap.size H2.out.1 H2.out.2.size (HS.out.next H2.out.2) (fun h b o e => ⟨by have := Hap.out h b o e; omega, fun e2 => by have := Hap.out h b o e; have := H2.out.1.low _ e2.symm; omega⟩) (by omega)).mono ?_
    rintro e w3 ⟨rfl, v3, hW3, ht3⟩
    have hb3 := H2.out.2.trans (ht3.bel (Nat.le_refl _) H2.out.1.low H2.out.2.size)
    have hl3 : (X ++ txtB sd).length ≤ 2004 := by unfold txtB; rw [List.length_append, List.length_append, numB_length, List.length_take]; omega
    obtain ⟨Y, hY⟩ : ∃ Y, X ++ txtB sd = Y := ⟨_, rfl⟩
    rw [hY] at hW3 hl3
    have hbk := BookAtB.new w3 w3.heap.size
    have hn4 := below_new1 w3 (Obj.cells #[.slice none 0 0, .slice none 0 0, .int .i64 0, .bool false] 25)
    have H4 := Lib.hid (And.intro (hW3.below hn4) (And.intro hbk (And.intro (hb3.trans (hn4.mono hb3.size)) (And.intro hb3.size hn4.size))))
    clear hY hl2 hW3 ht3 hb3 hbk hn4 H2
    go_wp2_with fail
    refine calls_at (fun W => Wr W w.heap.size w.heap.size v3 Y ∧ BookAtB W w3.heap.size w3.heap.size 0 w3.heap.size ∧ Below w.heap.size w W ∧ w.heap.size ≤ w3.heap.size ∧ w3.heap.size ≤ W.heap.size) H4.out ?_
    clear H4
    rintro w4 h4
    generalize w3.heap.size = B at h4 ⊢
    have H4 := Lib.hid h4
    clear h4
    refine (done_any _ Y w4 w.heap.size H4.out.1.wrt (by omega)).mono ?_
    rintro e w5 ⟨x, rfl, -, hx, hb5⟩
    rw [List.length_map] at hx
    obtain ⟨A, c, rfl⟩ := own_slice hx
    have H5 := Lib.hid (And.intro hx (And.intro (H4.out.1.below hb5) (And.intro (H4.out.2.1.more H4.out.2.2.2.2) (And.intro ((H4.out.2.1.more H4.out.2.2.2.2).below hb5) (And.intro (H4.out.2.2.1.trans (hb5.mono H4.out.2.2.1.size)) (And.intro H4.out.2.2.2 hb5.size))))))
    clear hx hb5
    go_wp2_with fail
    refine (keepB_new w4 w5 B 0 B _ Y H4.out.2.2.2.2 (by decide) H5.out.2.2.1 H5.out.2.2.2.1 H5.out.2.2.2.2.2.2 H5.out.1 (by omega)).mono ?_
    rintro e w6 ⟨rfl, hk, hb, ht⟩
    have H6 := Lib.hid (And.intro (H5.out.2.1.ty ht) (And.intro hk (And.intro (H5.out.2.2.2.2.1.trans (hb.mono H5.out.2.2.2.2.2.1.1)) (And.intro H5.out.2.2.2.2.2.1.1 (Nat.le_trans (Nat.le_trans H4.out.2.2.2.2 H5.out.2.2.2.2.2.2) ht.size)))))
    clear hk hb ht H4 H5
    go_wp2_with fail
    refine (done_any _ Y w6 w.heap.size H6.out.1.wrt (by omega)).mono ?_
    rintro e w7 ⟨x, rfl, -, hx, hb7⟩
    rw [List.length_map] at hx
    obtain ⟨A, c, rfl⟩ := own_slice hx
    have H7 := Lib.hid (And.intro hx (And.intro (H6.out.1.below hb7) (And.intro H6.out.2.1 (And.intro (H6.out.2.1.below hb7) (And.intro (H6.out.2.2.1.trans (hb7.mono H6.out.2.2.1.size)) (And.intro H6.out.2.2.2 hb7.size))))))
    clear hx hb7
    go_wp2_with fail
    refine (keepB_new w6 w7 B 1 B _ Y H6.out.2.2.2.2 (by decide) H7.out.2.2.1 H7.out.2.2.2.1 H7.out.2.2.2.2.2.2 H7.out.1 (by omega)).mono ?_
    rintro e w8 ⟨rfl, hk, hb, ht⟩
    have H8 := Lib.hid (And.intro (H7.out.2.1.ty ht) (And.intro hk (And.intro (H7.out.2.2.2.2.1.trans (hb.mono H7.out.2.2.2.2.2.1.1)) (And.intro H7.out.2.2.2.2.2.1.1 (Nat.le_trans (Nat.le_trans H6.out.2.2.2.2 H7.out.2.2.2.2.2.2) ht.size)))))
    clear hk hb ht H6 H7
    go_wp2_with fail
    refine (done_any _ Y w8 w.heap.size H8.out.1.wrt (by omega)).mono ?_
    rintro e w9 ⟨x, rfl, hu, -, hb9⟩
    obtain ⟨A, c, rfl⟩ := hu.len
    have H9 := Lib.hid (And.intro hu (And.intro (H8.out.2.1.below hb9) (And.intro (H8.out.2.2.1.trans (hb9.mono H8.out.2.2.1.size)) (And.intro H8.out.2.2.2.1 (And.intro H8.out.2.2.2.2 hb9.size)))))
    clear hu hb9 H8
    go_wp2_with fail
    refine (newReader_any _ Y w9 H9.out.1 (by omega)).mono ?_
    rintro e w10 ⟨r, rfl, hR, hb10⟩
    have hwB := H9.out.2.2.2.1
    have hB9 := Nat.le_trans H9.out.2.2.2.2.1 H9.out.2.2.2.2.2
    have H10 := Lib.hid (And.intro (hR.base hB9) (And.intro ((H9.out.2.1.below hb10).more (Nat.le_trans H9.out.2.2.2.2.2 hb10.size)) (And.intro (H9.out.2.2.1.trans (hb10.mono H9.out.2.2.1.size)) (Nat.le_trans hB9 hb10.size))))
    clear hR hb10 H9 hB9
    go_wp2_with fail
    refine (rdBytes_any w10 B r _ 1000 (by decide) H10.out.1 H10.out.2.2.2).mono ?_
    have hL := RdL.bytes_len ⟨Y, 0, none⟩ 1000
    generalize RdL.bytes ⟨Y, 0, none⟩ 1000 = p1 at hL ⊢
    rintro e w11 ⟨x, rfl, hx, hR, hg⟩
    obtain ⟨A, c, rfl⟩ := own_slice hx
    obtain ⟨cs, hcs⟩ := H10.out.1.blk
    have hty : Ty2 233 233 w10 w11 := Ty2.of_only hg hcs (.inl rfl)
    have hb11 := below_only H10.out.2.2.1 hg (Nat.le_trans hwB H10.out.1.ge) H10.out.2.2.1.size
    have H11 := Lib.hid (And.intro hx (And.intro hR (And.intro (H10.out.2.1.rd hty) (And.intro hb11 hg.size))))
    clear hx hR hg hty hb11 hcs
    go_wp2_with fail
    refine (keepB_new w10 w11 B 2 B _ _ H10.out.2.2.2 (by decide) H10.out.2.1 H11.out.2.2.1 H11.out.2.2.2.2 H11.out.1 (by omega)).mono ?_
    rintro e w12 ⟨rfl, hk, hb, ht⟩
    have H12 := Lib.hid (And.intro (H11.out.2.1.ty ht) (And.intro hk (And.intro (H11.out.2.2.2.1.trans (hb.mono hwB)) (Nat.le_trans (Nat.le_trans H10.out.2.2.2 H11.out.2.2.2.2) ht.size))))
    clear hk hb ht H10 H11
    go_wp2_with fail
    refine (rdBytes_any w12 B r _ 1000 (by decide) H12.out.1 H12.out.2.2.2).mono ?_
    have hL2 := RdL.bytes_len p1.2 1000
    generalize RdL.bytes p1.2 1000 = p2 at hL2 ⊢
    rintro e w13 ⟨x, rfl, hx, hR, hg⟩
    obtain ⟨A, c, rfl⟩ := own_slice hx
    obtain ⟨cs, hcs⟩ := H12.out.1.blk
    have hty : Ty2 233 233 w12 w13 := Ty2.of_only hg hcs (.inl rfl)
    have hb13 := below_only H12.out.2.2.1 hg (Nat.le_trans hwB H12.out.1.ge) H12.out.2.2.1.size
    have H13 := Lib.hid (And.intro hx (And.intro (H12.out.2.1.rd hty) (And.intro hb13 hg.size)))
    clear hx hR hg hty hb13 hcs
    go_wp2_with fail
    refine (keepB_new w12 w13 B 3 B _ _ H12.out.2.2.2 (by decide) H12.out.2.1 H13.out.2.1 H13.out.2.2.2 H13.out.1 (by omega)).mono ?_
    rintro e w14 ⟨rfl, hk, hb, ht⟩
    have H14 := Lib.hid (And.intro hk (And.intro (H13.out.2.2.1.trans (hb.mono hwB)) (Nat.le_trans (Nat.le_trans H12.out.2.2.2 H13.out.2.2.2) ht.size)))
    clear hk hb ht H12 H13
    go_wp2_with fail
    refine (apartB_any w14 B _ _ B H14.out.2.2 (by decide) H14.out.1).mono ?_
    rintro e w15 ⟨rfl, hb⟩
    have hbw := H14.out.2.1.trans (hb.mono hwB)
    have hz15 := hz.below hbw
    clear hb H14
    go_wp2_with fail
    refine (known2_any w15 hz15).mono ?_
    rintro e w16 ⟨rfl, hb⟩
    have hfin := hbw.trans (hb.mono hbw.size)
    clear hb hbw hz15
    go_wp2_with fail
    go_ret
    exact ⟨rfl, hfin⟩
end Go.Proofs.YteonmcconpfkjaaDoor
