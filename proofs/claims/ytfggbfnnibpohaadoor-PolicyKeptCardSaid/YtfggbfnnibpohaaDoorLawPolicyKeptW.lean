/- The walk of PolicyKept. Conditions: the table of strconv; errors.errorType. -/
import Derived.Test.YtfggbfnnibpohaaDoorQ10
import Derived.Test.YtfggbfnnibpohaaDoorQ18
namespace Go.Proofs.YtfggbfnnibpohaaDoor
open Go Go.RowKit
attribute [local irreducible] mixW
/-- a row is kept -/
theorem keepI_new (w0 w1 : World) (B N bk : Nat) (v : Value) (ds : List Int) (hB : B ≤ w0.heap.size) (hN : N ≤ 1000000) (hb : BookAtI w1 B w0.heap.size N bk) (hs : w0.heap.size ≤ w1.heap.size)
    (hv : OwnI w1 w0.heap.size v ds) (hg : ds.length ≤ 1000000) :
    Calls Tryd.prog 43 #[.pointer (some ⟨bk, 0, none⟩), v] w1 fun e w' => e = .returned (.tuple #[]) ∧ BookAtI w' B w'.heap.size (N + 1) bk ∧ Below B w1 w' :=
  (keepI_any w1 B w0.heap.size w1.heap.size N bk (Nat.le_trans hB hs) hN v ds hb (by have := hv; unfold OwnI at this; rw [List.length_map] at this; exact this) (by unfold GoodI; omega) hB hs (own_lt hv)).mono fun e w' ⟨h1, h2, h3, h4⟩ => ⟨h1, h2.more h4.size, h3⟩
set_option maxHeartbeats 1000000 in
set_option maxRecDepth 100000 in
theorem policyKept_walk (w : World) (hg : Pz w ∧ Ety w) (role : Int) (_hr : -9223372036854775808 ≤ role ∧ role ≤ 9223372036854775807) :
    Calls Tryd.prog 7 #[.int .i64 role] w fun e w' => e = .returned (.bool true) ∧ Below w.heap.size w w' := by
  have H0 := Lib.hid hg
  clear hg
  have hl12 := opsP_len role 12
  go_enter Tryd.func7, Tryd.ntmps7
  have hbk := BookAtI.new w w.heap.size
  have hn := below_new1 w (Obj.cells #[.slice none 0 0, .slice none 0 0, .int .i64 0, .bool false] 98)
  go_wp2_with fail
  refine calls_at (fun W => BookAtI W w.heap.size w.heap.size 0 w.heap.size ∧ Below w.heap.size w W) ⟨hbk, hn⟩ ?_
  clear hbk hn
  rintro w1 ⟨hbk, hb1⟩
  have H1 := Lib.hid (And.intro hbk hb1)
  clear hbk hb1
  refine (ops_any role w1).mono ?_
  rintro e w2 ⟨v2, rfl, hown2, hb2⟩
  have H2 := Lib.hid (And.intro ((H1.out.1.more H1.out.2.size).below hb2) (And.intro (H1.out.2.trans (hb2.mono H1.out.2.size)) (And.intro hown2 hb2.size)))
  clear hown2 hb2
  go_wp2_with fail
  refine (keepI_new w1 w2 w.heap.size 0 w.heap.size v2 _ H1.out.2.size (by decide) H2.out.1 H2.out.2.2.2 H2.out.2.2.1 (by omega)).mono ?_
  rintro e w3 ⟨rfl, hk, hb⟩
  have H3 := Lib.hid (And.intro hk (H2.out.2.1.trans hb))
  clear hk hb H1 H2
  go_wp2_with fail
  refine (ops_any role w3).mono ?_
  rintro e w4 ⟨v4, rfl, hown4, hb4⟩
  have H4 := Lib.hid (And.intro (H3.out.1.below hb4) (And.intro (H3.out.2.trans (hb4.mono H3.out.2.size)) (And.intro hown4 hb4.size)))
  clear hown4 hb4
  go_wp2_with fail
  refine (keepI_new w3 w4 w.heap.size 1 w.heap.size v4 _ H3.out.2.size (by decide) H4.out.1 H4.out.2.2.2 H4.out.2.2.1 (by omega)).mono ?_
  rintro e w5 ⟨rfl, hk, hb⟩
  have H5 := Lib.hid (And.intro hk (H4.out.2.1.trans hb))
  clear hk hb H3 H4
  go_wp2_with fail
  refine (apartI_any w5 w.heap.size _ _ w.heap.size H5.out.2.size (by decide) H5.out.1).mono ?_
  rintro e w6 ⟨rfl, hb⟩
  have hbw := H5.out.2.trans hb
  clear hb H5
  have hz := H0.out.1.below hbw
  have he := H0.out.2.below hbw
  go_wp2_with fail
  refine (known13_any w6 hz he).mono ?_
  rintro e w7 ⟨rfl, hb⟩
  have hfin := hbw.trans (hb.mono hbw.size)
  clear hb hbw hz he
  go_wp2_with fail
  go_ret
  exact ⟨rfl, hfin⟩
end Go.Proofs.YtfggbfnnibpohaaDoor
