/- The walk of deponentlaw2's CodecNumbers. Condition: the table of strconv. -/
import Derived.Test.YteonmcconpfkjaaDoorQ15
namespace Go.Proofs.YteonmcconpfkjaaDoor
open Go Go.RowKit
attribute [local irreducible] mixW
attribute [local go_sem] n8_lo n8_hi n64_lo n64_hi
/-- four readers and a writer -/
structure Four (w0 w : World) (a b c d g : Nat) (v : Value) (sa sb sc sd : RdL) (bs : List UInt8) : Prop where
  ra : Rdr w w0.heap.size a sa
  rb : Rdr w w0.heap.size b sb
  rc : Rdr w w0.heap.size c sc
  rd : Rdr w w0.heap.size d sd
  wr : Wr w w0.heap.size g v bs
  bel : Below w0.heap.size w0 w
  ab : a < b
  bc : b < c
  cd : c < d
section
variable {w0 w w' : World} {a b c d g : Nat} {v u : Value} {sa sb sc sd s' : RdL} {bs bs' : List UInt8}
theorem Four.below (h : Four w0 w a b c d g v sa sb sc sd bs) (hb : Below w.heap.size w w') : Four w0 w' a b c d g v sa sb sc sd bs :=
  ⟨h.ra.below hb, h.rb.below hb, h.rc.below hb, h.rd.below hb, h.wr.below hb, h.bel.trans (hb.mono h.bel.size), h.ab, h.bc, h.cd⟩
theorem Four.at_a (h : Four w0 w a b c d g v sa sb sc sd bs) (hr : Rdr w' w0.heap.size a s') (hg : w.grownBy w' (some a)) : Four w0 w' a b c d g v s' sb sc sd bs := by
  have := h.ab; have := h.bc; have := h.cd
  exact ⟨hr, h.rb.other h.ra (by omega) hg, h.rc.other h.ra (by omega) hg, h.rd.other h.ra (by omega) hg, h.wr.other h.ra hg, below_only h.bel hg h.ra.ge h.bel.size, h.ab, h.bc, h.cd⟩
theorem Four.at_b (h : Four w0 w a b c d g v sa sb sc sd bs) (hr : Rdr w' w0.heap.size b s') (hg : w.grownBy w' (some b)) : Four w0 w' a b c d g v sa s' sc sd bs := by
  have := h.ab; have := h.bc; have := h.cd
  exact ⟨h.ra.other h.rb (by omega) hg, hr, h.rc.other h.rb (by omega) hg, h.rd.other h.rb (by omega) hg, h.wr.other h.rb hg, below_only h.bel hg h.rb.ge h.bel.size, h.ab, h.bc, h.cd⟩
theorem Four.at_d (h : Four w0 w a b c d g v sa sb sc sd bs) (hr : Rdr w' w0.heap.size d s') (hg : w.grownBy w' (some d)) : Four w0 w' a b c d g v sa sb sc s' bs := by
  have := h.ab; have := h.bc; have := h.cd
  exact ⟨h.ra.other h.rd (by omega) hg, h.rb.other h.rd (by omega) hg, h.rc.other h.rd (by omega) hg, hr, h.wr.other h.rd hg, below_only h.bel hg h.rd.ge h.bel.size, h.ab, h.bc, h.cd⟩
theorem Four.at_w (h : Four w0 w a b c d g (.slice none 0 0) sa sb sc sd bs) (hr : Wr w' w0.heap.size g u bs') (ht : Two w w' g (.slice none 0 0) u) : Four w0 w' a b c d g u sa sb sc sd bs' :=
  ⟨h.ra.two h.wr ht, h.rb.two h.wr ht, h.rc.two h.wr ht, h.rd.two h.wr ht, hr, below_only h.bel ht.grown_nil h.wr.1 h.bel.size, h.ab, h.bc, h.cd⟩
end
set_option maxHeartbeats 2000000 in
set_option maxRecDepth 100000 in
theorem codecNumbers_walk (w : World) (hz : Pz w) : Calls Tryd.prog 11 #[] w fun e w' => e = .returned (.bool true) ∧ Below w.heap.size w w' := by
  go_enter Tryd.func11, Tryd.ntmps11
  go_wp2_with fail
  refine calls_at (fun W => BSl W W.heap.size (.slice (some ⟨w.heap.size, 0, none⟩) 1 1) [1] ∧ Below w.heap.size w W) ⟨(show Lit _ _ [1] from ⟨_, _, heap_alloc_new w _⟩).bsl 1 rfl (by decide), below_new1 w _⟩ ?_
  rintro W1 ⟨hL, hb⟩
  refine (newReader_any _ [1] W1 hL (by decide)).mono ?_
  rintro e w1 ⟨a, rfl, hR, hb1⟩
  have H1 := Lib.hid (And.intro (hR.base hb.size) (hb.trans (hb1.mono hb.size)))
  clear hL hb hR hb1
  go_wp2_with fail
  refine calls_at (fun W => BSl W W.heap.size (.slice (some ⟨w1.heap.size, 0, none⟩) 2 2) [1, 2] ∧ Below w1.heap.size w1 W) ⟨(show Lit _ _ [1, 2] from ⟨_, _, heap_alloc_new w1 _⟩).bsl 2 rfl (by decide), below_new1 w1 _⟩ ?_
  rintro W2 ⟨hL, hb⟩
  refine (newReader_any _ [1, 2] W2 hL (by decide)).mono ?_
  rintro e w2 ⟨b, rfl, hR, hb1⟩
  have hbb := hb.trans (hb1.mono hb.size)
  have H2 := Lib.hid (And.intro (H1.out.1.below hbb) (And.intro (hR.base (Nat.le_trans H1.out.2.size hb.size)) (And.intro (H1.out.2.trans (hbb.mono H1.out.2.size)) (show a < b from Nat.lt_of_lt_of_le H1.out.1.lt (Nat.le_trans hb.size hR.ge)))))
  clear hL hb hR hb1 hbb H1
  go_wp2_with fail
  refine (newReader_any _ [] w2 BSl.nil_ (by decide)).mono ?_
  rintro e w3 ⟨c, rfl, hR, hb1⟩
  have H3 := Lib.hid (And.intro (H2.out.1.below hb1) (And.intro (H2.out.2.1.below hb1) (And.intro (hR.base H2.out.2.2.1.size) (And.intro (H2.out.2.2.1.trans (hb1.mono H2.out.2.2.1.size)) (And.intro H2.out.2.2.2 (show b < c from Nat.lt_of_lt_of_le H2.out.2.1.lt hR.ge))))))
  clear hR hb1 H2
  go_wp2_with fail
  refine calls_at (fun W => BSl W W.heap.size (.slice (some ⟨w3.heap.size, 0, none⟩) 3 3) [1, 2, 3] ∧ Below w3.heap.size w3 W) ⟨(show Lit _ _ [1, 2, 3] from ⟨_, _, heap_alloc_new w3 _⟩).bsl 3 rfl (by decide), below_new1 w3 _⟩ ?_
  rintro W4 ⟨hL, hb⟩
  refine (newReader_any _ [1, 2, 3] W4 hL (by decide)).mono ?_
  rintro e w4 ⟨d, rfl, hR, hb1⟩
  have hbb := hb.trans (hb1.mono hb.size)
  have hcd : c < d := Nat.lt_of_lt_of_le H3.out.2.2.1.lt (Nat.le_trans hb.size hR.ge)
  have hbA := H3.out.2.2.2.1.trans (hbb.mono H3.out.2.2.2.1.size)
  have hRd := hR.base (Nat.le_trans H3.out.2.2.2.1.size hb.size)
  clear hL hb hR hb1
  have HH := Lib.hid (And.intro hcd (And.intro hbA (And.intro hRd hbb)))
  clear hcd hbA hRd hbb
  go_wp2_with fail
  refine (newWriter_two w4).mono ?_
  rintro e w5 ⟨rfl, hW, hb1⟩
  have h5 : Four w w5 a b c d w4.heap.size (.slice none 0 0) ⟨[1], 0, none⟩ ⟨[1, 2], 0, none⟩ ⟨[], 0, none⟩ ⟨[1, 2, 3], 0, none⟩ [] :=
    ⟨(H3.out.1.below HH.out.2.2.2).below hb1, (H3.out.2.1.below HH.out.2.2.2).below hb1, (H3.out.2.2.1.below HH.out.2.2.2).below hb1, HH.out.2.2.1.below hb1, hW.base HH.out.2.1.size, HH.out.2.1.trans (hb1.mono HH.out.2.1.size), H3.out.2.2.2.2.1, H3.out.2.2.2.2.2, HH.out.1⟩
  generalize w4.heap.size = g at h5 ⊢
  have F := Lib.hid h5
  clear h5 hW hb1 HH H3
  go_wp2_with fail
  refine (rdNumber_any w5 w.heap.size a _ 2 (by decide) F.out.ra F.out.bel.size).mono ?_
  rw [show (⟨[1], 0, none⟩ : RdL).number 2 = (0, ⟨[1], 0, some (1, 10)⟩) from rfl]
  rintro e w6 ⟨rfl, hR, hg⟩
  have F6 := Lib.hid (F.out.at_a hR hg)
  clear hR hg F
  go_wp2_with fail
  refine (rdNumber_any w6 w.heap.size b _ 1 (by decide) F6.out.rb F6.out.bel.size).mono ?_
  rw [show (⟨[1, 2], 0, none⟩ : RdL).number 1 = (1, ⟨[1, 2], 1, none⟩) from rfl]
  rintro e w7 ⟨rfl, hR, hg⟩
  have F7 := Lib.hid (F6.out.at_b hR hg)
  clear hR hg F6
  go_wp2_with fail
  refine (rdNumber_any w7 w.heap.size d _ 1 (by decide) F7.out.rd F7.out.bel.size).mono ?_
  rw [show (⟨[1, 2, 3], 0, none⟩ : RdL).number 1 = (1, ⟨[1, 2, 3], 1, none⟩) from rfl]
  rintro e w8 ⟨rfl, hR, hg⟩
  have F8 := Lib.hid (F7.out.at_d hR hg)
  clear hR hg F7
  go_wp2_with fail
  refine (fail_any w8 w.heap.size d _ 0 (by decide) F8.out.rd F8.out.bel.size).mono ?_
  rintro e w9 ⟨rfl, hR, hg⟩
  have F9 := Lib.hid (F8.out.at_d (show Rdr w9 w.heap.size d ⟨[1, 2, 3], 1, none⟩ from hR) hg)
  clear hR hg F8
  go_wp2_with fail
  refine (fail_any w9 w.heap.size d _ 12 (by decide) F9.out.rd F9.out.bel.size).mono ?_
  rintro e w10 ⟨rfl, hR, hg⟩
  have F10 := Lib.hid (F9.out.at_d (show Rdr w10 w.heap.size d ⟨[1, 2, 3], 1, some (1, 12)⟩ from hR) hg)
  clear hR hg F9
  go_wp2_with fail
  refine (fail_any w10 w.heap.size d _ 1 (by decide) F10.out.rd F10.out.bel.size).mono ?_
  rintro e w11 ⟨rfl, hR, hg⟩
  have F11 := Lib.hid (F10.out.at_d (show Rdr w11 w.heap.size d ⟨[1, 2, 3], 1, some (1, 12)⟩ from hR) hg)
  clear hR hg F10
  go_wp2_with fail
  refine (number_two g _ [] 5 9 (by decide) w11 w.heap.size F11.out.wr F11.out.bel.size (by decide)).mono ?_
  rintro e w12 ⟨rfl, u, hW, ht⟩
  have F12 := Lib.hid (F11.out.at_w hW ht)
  clear hW ht F11
  go_wp2_with fail
  refine (rdEnd_any w12 w.heap.size a _ F12.out.ra).mono ?_
  rintro e w13 ⟨x, rfl, ⟨k, rfl, -, hk⟩, hb⟩
  have F13 := Lib.hid (F12.out.below hb)
  have hz13 := hz.below F13.out.bel
  clear hb F12
  go_wp2_with fail
  refine (refused_some k 1 10 (by decide) (by decide) (by decide) w13 hz13 hk).mono ?_
  rintro e w14 ⟨rfl, hb⟩
  have F14 := Lib.hid (F13.out.below hb)
  clear hb hk hz13 F13
  go_wp2_with fail
  refine (rdEnd_any w14 w.heap.size b _ F14.out.rb).mono ?_
  rintro e w15 ⟨x, rfl, ⟨k, rfl, -, hk⟩, hb⟩
  have F15 := Lib.hid (F14.out.below hb)
  have hz15 := hz.below F15.out.bel
  clear hb F14
  go_wp2_with fail
  refine (refused_some k 1 11 (by decide) (by decide) (by decide) w15 hz15 hk).mono ?_
  rintro e w16 ⟨rfl, hb⟩
  have F16 := Lib.hid (F15.out.below hb)
  clear hb hk hz15 F15
  go_wp2_with fail
  refine (rdEnd_any w16 w.heap.size c _ F16.out.rc).mono ?_
  rintro e w17 ⟨x, rfl, hx, hb⟩
  have hx : x = .nilIface := hx
  subst hx
  have F17 := Lib.hid (F16.out.below hb)
  clear hb F16
  go_wp2_with fail
  refine (rdEnd_any w17 w.heap.size d _ F17.out.rd).mono ?_
  rintro e w18 ⟨x, rfl, ⟨k, rfl, -, hk⟩, hb⟩
  have F18 := Lib.hid (F17.out.below hb)
  have hz18 := hz.below F18.out.bel
  clear hb F17
  go_wp2_with fail
  refine (refused_some k 1 12 (by decide) (by decide) (by decide) w18 hz18 hk).mono ?_
  rintro e w19 ⟨rfl, hb⟩
  have F19 := Lib.hid (F18.out.below hb)
  clear hb hk hz18 F18
  go_wp2_with fail
  refine (rdNumber_any w19 w.heap.size d _ 1 (by decide) F19.out.rd F19.out.bel.size).mono ?_
  rw [show (⟨[1, 2, 3], 1, some (1, 12)⟩ : RdL).number 1 = (0, ⟨[1, 2, 3], 1, some (1, 12)⟩) from rfl]
  rintro e w20 ⟨rfl, hR, hg⟩
  have F20 := Lib.hid (F19.out.at_d hR hg)
  clear hR hg F19
  go_wp2_with fail
  have h8 : ([] ++ numB 5 (clamp8 9)).length = 8 := by decide
  refine (done_any _ _ w20 w.heap.size F20.out.wr.wrt (by rw [h8]; decide)).mono ?_
  rintro e w21 ⟨x, rfl, hx, -, hb⟩
  obtain ⟨A, cc, rfl⟩ := hx.len
  rw [h8]
  have F21 := Lib.hid (F20.out.below hb)
  have hz21 := hz.below F21.out.bel
  clear hb hx F20 h8
  go_wp2_with fail
  refine (known2_any w21 hz21).mono ?_
  rintro e w22 ⟨rfl, hb⟩
  have hbb := (F21.out.below hb).bel
  clear hb hz21 F21
  go_wp2_with fail
  go_ret
  exact ⟨rfl, hbb⟩
end Go.Proofs.YteonmcconpfkjaaDoor
