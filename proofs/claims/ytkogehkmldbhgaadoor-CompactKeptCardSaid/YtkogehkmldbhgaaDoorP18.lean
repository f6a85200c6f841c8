/- Texts that stand behind one another: CmpG. No condition. -/
import Derived.Test.YtkogehkmldbhgaaDoorP15
/- The walk of compact's join. Condition: the tables. -/
namespace Go.Proofs.YtkogehkmldbhgaaDoor
open Go Go.RowKit
attribute [local irreducible] mixW
attribute [local go_sem] n8_lo n8_hi n64_lo n64_hi n32_lo n32_hi
/-- what stands while blocks are put together: the range under way in block G, the hash at hand in block H, the rows u (sizes) and v (hashes) of the call's own -/
structure Jn (W0 : World) (G a e H : Nat) (d : List UInt8) (r u v : Value) (ns : List Nat) (ds : List (List UInt8)) (V : World) : Prop where
  rg : Blk V G 31 (rgC a e r)
  dig : Blk V H 43 (dat d)
  hu : OwnU V W0.heap.size u ns
  hv : V.ownsRow W0.heap.size 43 32 v ds.length (dcells ds)
  gr : W0.grownBy V (some G)
  ne : ∀ g, v.ownBlock = some g → g ≠ H
  lt : G < W0.heap.size
  le : W0.heap.size ≤ H
section
variable {W0 : World} {G a e H : Nat} {d : List UInt8} {r u v : Value} {ns : List Nat} {ds : List (List UInt8)} {V V' : World}
theorem Jn.below (h : Jn W0 G a e H d r u v ns ds V) (hb : Below V.heap.size V V') : Jn W0 G a e H d r u v ns ds V' :=
  ⟨h.rg.below hb h.rg.lt, h.dig.below hb h.dig.lt, own_below h.hu hb, own_below h.hv hb, Only.far h.gr (Only.of_below hb none) (fun _ h => by cases h), h.ne, h.lt, h.le⟩
theorem Jn.alloc (h : Jn W0 G a e H d r u v ns ds V) (o : Obj) : Jn W0 G a e H d r u v ns ds (V.alloc o) := h.below (below_new1 V o)
theorem Jn.drewN (h : Jn W0 G a e H d r u v ns ds V) (n : Nat) : Jn W0 G a e H d r u v ns ds (V.drewN n) := h.below (below_drewN (Below.refl _ V) n)
theorem own_not {w : World} {base s n g : Nat} {e t : TypeId} {v : Value} {xs : List Value} {cs : Array Value} (h : w.ownsRow base e s v n xs) (hB : Blk w g t cs) (hne : e ≠ t) : v.ownBlock ≠ some g := fun h2 => by
  rcases h.2 with ⟨rfl, _⟩ | ⟨g1, cap, cur, rfl, _, hh, _⟩
  · cases h2
  · injection h2 with h2
    have e1 : g1 = g := h2
    subst e1
    unfold Blk at hB
    rw [hB] at hh
    injection hh with hh
    injection hh with _ h3 _
    exact hne h3.symm
theorem Jn.appU (h : Jn W0 G a e H d r u v ns ds V) {u' : Value} {ns' : List Nat} (hu : OwnU V' W0.heap.size u' ns') (hg : V.grownBy V' u.ownBlock) : Jn W0 G a e H d r u' v ns' ds V' :=
  ⟨h.rg.grown hg (fun e => by have := own_ge h.hu _ e.symm; have := h.lt; omega), h.dig.grown hg (fun e => own_not h.hu h.dig (by decide) e.symm), hu,
   own_grown h.hv hg (fun g hg1 hg2 => own_apart h.hu h.hv (by decide) g hg2 hg1), Only.far h.gr hg (fun g hg => own_ge h.hu g hg), h.ne, h.lt, h.le⟩
/-- behind the hashes' append -/
structure Jo (W0 : World) (G a e : Nat) (r u v : Value) (ns : List Nat) (ds : List (List UInt8)) (V : World) : Prop where
  rg : Blk V G 31 (rgC a e r)
  hu : OwnU V W0.heap.size u ns
  hv : V.ownsRow W0.heap.size 43 32 v ds.length (dcells ds)
  gr : W0.grownBy V (some G)
  lt : G < W0.heap.size
theorem Jn.appD (h : Jn W0 G a e H d r u v ns ds V) {v' : Value} {ds' : List (List UInt8)} (hv : V'.ownsRow W0.heap.size 43 32 v' ds'.length (dcells ds')) (hg : V.grownBy V' v.ownBlock) : Jo W0 G a e r u v' ns ds' V' :=
  ⟨h.rg.grown hg (fun e => by have := own_ge h.hv _ e.symm; have := h.lt; omega),
   own_grown h.hu hg (fun g hg1 hg2 => own_apart h.hu h.hv (by decide) g hg1 hg2), hv, Only.far h.gr hg (fun g hg => own_ge h.hv g hg), h.lt⟩
theorem Jo.below (h : Jo W0 G a e r u v ns ds V) (hb : Below V.heap.size V V') : Jo W0 G a e r u v ns ds V' :=
  ⟨h.rg.below hb h.rg.lt, own_below h.hu hb, own_below h.hv hb, Only.far h.gr (Only.of_below hb none) (fun _ h => by cases h), h.lt⟩
theorem Jo.appU (h : Jo W0 G a e r u v ns ds V) {u' : Value} {ns' : List Nat} (hu : OwnU V' W0.heap.size u' ns') (hg : V.grownBy V' u.ownBlock) : Jo W0 G a e r u' v ns' ds V' :=
  ⟨h.rg.grown hg (fun e => by have := own_ge h.hu _ e.symm; have := h.lt; omega), hu,
   own_grown h.hv hg (fun g hg1 hg2 => own_apart h.hu h.hv (by decide) g hg2 hg1), Only.far h.gr hg (fun g hg => own_ge h.hu g hg), h.lt⟩
/-- the range's field is stored -/
theorem Jo.setR (h : Jo W0 G a e r u v ns ds V) {r' : Value} (hB : Blk V' G 31 (rgC a e r')) (hg : V.grownBy V' (some G)) : Jo W0 G a e r' u v ns ds V' :=
  ⟨hB, own_grown h.hu hg (fun g hg1 e => by have := own_ge h.hu g hg1; have := h.lt; injection e; omega), own_grown h.hv hg (fun g hg1 e => by have := own_ge h.hv g hg1; have := h.lt; injection e; omega), Only.trans h.gr hg, h.lt⟩
theorem Jn.setR (h : Jn W0 G a e H d r u v ns ds V) {r' : Value} (hB : Blk V' G 31 (rgC a e r')) (hg : V.grownBy V' (some G)) : Jn W0 G a e H d r' u v ns ds V' :=
  ⟨hB, h.dig.grown hg (fun e => by have := h.lt; have := h.le; injection e; omega), own_grown h.hu hg (fun g hg1 e => by have := own_ge h.hu g hg1; have := h.lt; injection e; omega), own_grown h.hv hg (fun g hg1 e => by have := own_ge h.hv g hg1; have := h.lt; injection e; omega), Only.trans h.gr hg, h.ne, h.lt, h.le⟩
theorem Jn.setD (h : Jn W0 G a e H d r u v ns ds V) {d' : List UInt8} (hB : Blk V' H 43 (dat d')) (hg : V.grownBy V' (some H)) : Jn W0 G a e H d' r u v ns ds V' :=
  ⟨h.rg.grown hg (fun e => by have := h.lt; have := h.le; injection e; omega), hB, own_grown h.hu hg (fun g hg1 e => own_not h.hu h.dig (by decide) (hg1.trans e.symm)), own_grown h.hv hg (fun g hg1 e => h.ne g hg1 (by injection e with e; exact e.symm)), Only.far h.gr hg (fun g hg => by injection hg with e; have := h.le; omega), h.ne, h.lt, h.le⟩
/-- the last ones are let go -/
theorem Jn.cut {A A' : Option Addr} {n c n' c' : Nat} (h : Jn W0 G a e H d r (.slice A n c) (.slice A' n' c') ns ds V) (k : Nat) (h1 : k ≤ ns.length) (h2 : k ≤ ds.length) : Jn W0 G a e H d r (.slice A k c) (.slice A' k c') (ns.take k) (ds.take k) V :=
  ⟨h.rg, h.dig, h.hu.cut k h1, own_cutD h.hv k h2, h.gr, fun g hg => h.ne g (by cases A' <;> exact hg), h.lt, h.le⟩
theorem Jn.start {W : World} (hrg : Blk W G 31 (rgC a e v)) (hu : OwnU W W0.heap.size u ns) (hv : W.ownsRow W0.heap.size 43 32 v ds.length (dcells ds)) (hgr : W0.grownBy W (some G)) (hlt : G < W0.heap.size) (d : List UInt8) : Jn W0 G a e W.heap.size d v u v ns ds (W.alloc (.cells (dat d) 43)) :=
  ⟨hrg.alloc _, Blk.new W _ _, own_below hu (below_new1 W _), own_below hv (below_new1 W _), Only.alloc hgr _, fun g hg e => by have := own_lt hv g hg; omega, hlt, hgr.size⟩
end
theorem Jn.start2 {W0 : World} {G a e : Nat} {u v : Value} {ns : List Nat} {ds : List (List UInt8)} {V V' : World} (h : Jo W0 G a e v u v ns ds V) {o : Obj} {d : List UInt8} (hD : Blk V' V.heap.size 43 (dat d)) (hg : (V.alloc o).grownBy V' (some V.heap.size)) : Jn W0 G a e V.heap.size d v u v ns ds V' := by
  have hsz : W0.heap.size ≤ V.heap.size := h.gr.size
  have hlt := h.lt
  exact ⟨(h.rg.alloc o).grown hg (fun e => by injection e; omega), hD, own_grown (own_below h.hu (below_new1 V o)) hg (fun g hg1 e => by have := own_lt h.hu g hg1; injection e; omega), own_grown (own_below h.hv (below_new1 V o)) hg (fun g hg1 e => by have := own_lt h.hv g hg1; injection e; omega), Only.far (Only.alloc h.gr o) hg (fun g hg => by injection hg with e; omega), fun g hg1 e => by have := own_lt h.hv g hg1; omega, hlt, hsz⟩
theorem range_grown {w w' : World} {g off : Nat} {cs : List Value} {row : Option Nat} (h : w.rangeAt g off cs) (hg : g < w.heap.size) (hb : w.grownBy w' row) (hne : some g ≠ row) : w'.rangeAt g off cs := fun j v hj => by
  have h1 := h j v hj
  rw [World.cell?_of_block (a := ⟨g, off + j, none⟩) (hb.block g hg hne)]; exact h1
theorem blk_new3j (w : World) (X Y : Obj) (t : TypeId) (cs : Array Value) : Blk (((w.alloc X).alloc Y).alloc (.cells cs t)) (w.heap.size + 2) t cs := by
  have h := Blk.new ((w.alloc X).alloc Y) t cs
  have e : ((w.alloc X).alloc Y).heap.size = w.heap.size + 2 := by simp
  rw [e] at h; exact h
theorem below_new3j (w : World) (X Y Z : Obj) : Below w.heap.size w (((w.alloc X).alloc Y).alloc Z) := by
  have h2 := (below_new1 w X).alloc (below_new1 w X).size Y
  exact h2.alloc h2.size Z
theorem zip_fst_at (L : List (Nat × List UInt8)) (k : Nat) (h : k < L.length) : (L.map Prod.fst).getD k 0 = (L[k]).1 := by
  rw [List.getD_eq_getElem?_getD, List.getElem?_map, List.getElem?_eq_getElem h]; rfl
theorem zip_snd_at (L : List (Nat × List UInt8)) (k : Nat) (h : k < L.length) : (L.map Prod.snd).getD k [] = (L[k]).2 := by
  rw [List.getD_eq_getElem?_getD, List.getElem?_map, List.getElem?_eq_getElem h]; rfl
theorem joinT_fst {a m e : Nat} {x y : List (List UInt8)} (hx : x.length = (blocksL a m).length) (hy : y.length = (blocksL m e).length) : (joinT a m e x y).map Prod.fst = blocksL a m ++ blocksL m e := by
  unfold joinT; rw [List.map_append, zip_fst hx, zip_fst hy]
theorem joinT_snd {a m e : Nat} {x y : List (List UInt8)} (hx : x.length = (blocksL a m).length) (hy : y.length = (blocksL m e).length) : (joinT a m e x y).map Prod.snd = x ++ y := by
  unfold joinT; rw [List.map_append, List.map_snd_zip (Nat.le_of_eq hx), List.map_snd_zip (Nat.le_of_eq hy)]
set_option maxHeartbeats 4000000 in
set_option maxRecDepth 100000 in
theorem join_walk (x : Int) (a m e : Nat) (Ax : Option Addr) (cx : Nat) (Ay : Option Addr) (cy : Nat) (xs ys : List (List UInt8)) (ham : a ≤ m) (hme : m ≤ e) (he : e ≤ 4294967296) (hxl : xs.length = (blocksL a m).length) (hyl : ys.length = (blocksL m e).length) (hall : ∀ d ∈ xs ++ ys, d.length = 32) (w : World) (hX : DX w (.slice Ax xs.length cx) xs) (hY : DX w (.slice Ay ys.length cy) ys) (hG : Glob w) (hT : Tz w) :
    Calls Tryd.prog 42 #[.int .i64 x, .agg (rgC a m (.slice Ax xs.length cx)), .agg (rgC m e (.slice Ay ys.length cy))] w fun r w' => ∃ v, r = .returned (.agg (rgC a e v)) ∧ w'.ownsRow w.heap.size 43 32 v (joinM (cutW x) a m e xs ys).length (dcells (joinM (cutW x) a m e xs ys)) ∧ Below w.heap.size w w' := by
  have hl1 : xs.length ≤ 64 := by rw [hxl]; exact blocks_many 32 (by decide) (by omega)
  have hl2 : ys.length ≤ 64 := by rw [hyl]; exact blocks_many 32 (by decide) (by omega)
  have hfst := joinT_fst hxl hyl
  have hsnd := joinT_snd hxl hyl
  have htil := joinT_til ham hme hxl hyl
  have hLl : (joinT a m e xs ys).length = xs.length + ys.length := by rw [← List.length_map (f := Prod.snd), hsnd, List.length_append]
  have hLm : ∀ q ∈ joinT a m e xs ys, q.2.length = 32 := fun q hq => hall q.2 (by rw [← hsnd]; exact List.mem_map_of_mem hq)
  unfold joinM
  obtain ⟨L, hL⟩ : ∃ L, joinT a m e xs ys = L := ⟨_, rfl⟩
  rw [hL] at hfst hsnd htil hLl hLm ⊢
  have hsum : a + sumT L = e := til_sum htil
  have hone := til_one htil
  have HL := Lib.hid (And.intro hfst (And.intro hsnd (And.intro hLl (And.intro hLm (And.intro hsum hone)))))
  clear hfst hsnd htil hLl hLm hsum hone hL hall
  have hXl : Hid (xs.length = (blocksL a m).length ∧ ys.length = (blocksL m e).length) := Lib.hid ⟨hxl, hyl⟩
  clear hxl hyl
  unfold rgC
  simp only [nU]
  go_enter Tryd.func42, Tryd.ntmps42
  go_wp2_with fail
  refine wp_at (fun W => Blk W w.heap.size 31 (rgC a m (.slice Ax xs.length cx)) ∧ Blk W (w.heap.size + 1) 31 (rgC m e (.slice Ay ys.length cy)) ∧ Blk W (w.heap.size + 2) 31 (rgC 0 0 (.slice none 0 0)) ∧ Below w.heap.size w W ∧ w.heap.size + 3 ≤ W.heap.size) ⟨((Blk.new w _ _).alloc _).alloc _, (Blk.new2 w _ _ _).alloc _, blk_new3j w _ _ _ _, below_new3j w _ _ _, by simp⟩ ?_
  rintro w0 ⟨hA, hB, hR, hbel, hsz⟩
  refine wp_region_mixP (.plain 0 <| .plain 1 <| .plain 2 <| .plain 3 <| .plain 5 <| .plain 6 <| .plain 7 <| .plain 8 <| .only 4 <| .only 9 <| .only 10 <| .plain 11 <| .done) (by kernel_rfl) (by kernel_rfl) (fun W1 hb1 => ?_)
  replace hA := hA.below hb1 hA.lt
  replace hB := hB.below hb1 hB.lt
  replace hR := hR.below hb1 hR.lt
  replace hsz : w.heap.size + 3 ≤ W1.heap.size := Nat.le_trans hsz hb1.size
  replace hbel := hbel.trans (hb1.mono hbel.size)
  have c0 : ∀ x, (plus W1 x).cell? ⟨w.heap.size, 0, none⟩ = some (.int .u64 (a : Int)) := fun x => (hA.plus x).cell 0
  have c1 : ∀ x, (plus W1 x).cell? ⟨w.heap.size, 1, none⟩ = some (.int .u64 (m : Int)) := fun x => (hA.plus x).cell 1
  have c2 : ∀ x, (plus W1 x).cell? ⟨w.heap.size + 1, 0, none⟩ = some (.int .u64 (m : Int)) := fun x => (hB.plus x).cell 0
  have c3 : ∀ x, (plus W1 x).cell? ⟨w.heap.size + 1, 1, none⟩ = some (.int .u64 (e : Int)) := fun x => (hB.plus x).cell 1
  clear hb1
  have HA := Lib.hid (And.intro hA (And.intro hB (And.intro hR (And.intro hbel hsz))))
  clear hA hB hR hbel hsz
  iterate 8 (refine mix_plain rfl ?_; go_big_quiet_step (fail); refine wpQuiet_nil ?_)
  clear c0 c1 c2 c3
  refine mix_only_in rfl (fun K hK => ?_)
  go_wp2_with fail
  refine (blocks_any a m (by omega) (by omega) W1 (hT.next HA.out.2.2.2.1)).mono ?_
  rintro r V1 ⟨u1, rfl, hu1, hb1⟩
  rw [show toldL a m = blocksL a m from if_pos (by omega)] at hu1
  have H1 := Lib.hid (And.intro hu1 hb1)
  clear hu1 hb1
  go_wp2_with fail
  refine hK _ _ (below_plus H1.out.2) ?_
  clear hK K
  refine mix_only_in rfl (fun K hK => ?_)
  go_wp2_with fail
  refine (blocks_any m e (by omega) (by omega) V1 (hT.next (HA.out.2.2.2.1.trans (H1.out.2.mono HA.out.2.2.2.1.size)))).mono ?_
  rintro r V2 ⟨u2, rfl, hu2, hb2⟩
  rw [show toldL m e = blocksL m e from if_pos (by omega)] at hu2
  have H2 := Lib.hid (And.intro hu2 (And.intro (own_below H1.out.1 hb2) (H1.out.2.trans (hb2.mono H1.out.2.size))))
  clear hu2 hb2 H1
  go_wp2_with fail
  refine hK _ _ (below_plus H2.out.2.2) ?_
  clear hK K
  obtain ⟨A2, c2, rfl, _, _, hr2⟩ := H2.out.1.nsl
  have Hr2 := Lib.hid hr2
  clear hr2
  refine mix_only_in rfl (fun K hK => ?_)
  refine wpList_appendUl rfl (.tmp 20) (.tmp 25) rfl W1.heap.size _ (blocksL a m) rfl H2.out.2.1 A2 c2 (blocksL m e) rfl Hr2.out (by have := hXl.out; omega) H2.out.2.2.size ?_
  intro u3 V3 hu3 hg3
  have hb3 := below_own H2.out.2.2 H2.out.2.1 hg3 H2.out.2.2.size
  rw [← HL.out.1] at hu3
  have H3 := Lib.hid (And.intro hu3 hb3)
  clear hu3 hb3 hg3 H2 Hr2
  simp only [Act.put, List.setIfInBounds_toArray, List.set_cons_zero, List.set_cons_succ]
  refine hK _ _ (below_plus H3.out.2) ?_
  clear hK K
  iterate 1 (refine mix_plain rfl ?_; go_big_quiet_step (fail); refine wpQuiet_nil ?_)
  refine mix_done ?_
  go_wp2_with fail
  have hbel := HA.out.2.2.2.1.trans (H3.out.2.mono HA.out.2.2.2.1.size)
  have hA := HA.out.1.below H3.out.2 HA.out.1.lt
  have hB := HA.out.2.1.below H3.out.2 HA.out.2.1.lt
  have hR := HA.out.2.2.1.below H3.out.2 HA.out.2.2.1.lt
  have hsz : w.heap.size + 3 ≤ V3.heap.size := Nat.le_trans HA.out.2.2.2.2 H3.out.2.size
  have hu := H3.out.1
  have hb13 : W1.heap.size ≤ V3.heap.size := H3.out.2.size
  clear H3
  have hbW1 : w.heap.size + 3 ≤ W1.heap.size := HA.out.2.2.2.2
  clear HA
  refine wp_region_mixP (.plain 0 <| .plain 1 <| .plain 3 <| .plain 4 <| .only 2 <| .only 5 <| .plain 6 <| .done) (by kernel_rfl) (by kernel_rfl) (fun W2 hb2 => ?_)
  replace hA := hA.below hb2 hA.lt
  replace hB := hB.below hb2 hB.lt
  replace hR := hR.below hb2 hR.lt
  replace hu := own_below hu hb2
  replace hsz : w.heap.size + 3 ≤ W2.heap.size := Nat.le_trans hsz hb2.size
  have hb23 : V3.heap.size ≤ W2.heap.size := hb2.size
  replace hbel := hbel.trans (hb2.mono hbel.size)
  have c0 : ∀ x, (plus W2 x).cell? ⟨w.heap.size, 2, none⟩ = some (.slice Ax xs.length cx) := fun x => (hA.plus x).cell 2
  have c1 : ∀ x, (plus W2 x).cell? ⟨w.heap.size + 1, 2, none⟩ = some (.slice Ay ys.length cy) := fun x => (hB.plus x).cell 2
  clear hb2
  have HA := Lib.hid (And.intro hA (And.intro hB (And.intro hR (And.intro hbel (And.intro hsz hu)))))
  clear hA hB hR hbel hsz hu
  iterate 4 (refine mix_plain rfl ?_; go_big_quiet_step (fail); refine wpQuiet_nil ?_)
  clear c0 c1
  refine mix_only_in rfl (fun K hK => ?_)
  go_wp2_with fail
  refine (cloneD_any _ xs W2 (hX.next HA.out.2.2.2.1) (by omega)).mono ?_
  rintro r V4 ⟨v4, rfl, hv4, hb4⟩
  have H4 := Lib.hid (And.intro hv4 hb4)
  clear hv4 hb4
  go_wp2_with fail
  refine hK _ _ (below_plus H4.out.2) ?_
  clear hK K
  refine mix_only_in rfl (fun K hK => ?_)
  refine wpList_appendDX rfl (.tmp 29) (.tmp 31) rfl W2.heap.size _ xs rfl H4.out.1 Ay cy ys rfl (hY.next (HA.out.2.2.2.1.trans (H4.out.2.mono HA.out.2.2.2.1.size))) (by omega) H4.out.2.size ?_
  intro v5 V5 hv5 hg5
  have hb5 := below_own H4.out.2 H4.out.1 hg5 H4.out.2.size
  rw [← HL.out.2.1] at hv5
  have H5 := Lib.hid (And.intro hv5 hb5)
  clear hv5 hb5 hg5 H4
  simp only [Act.put, List.setIfInBounds_toArray, List.set_cons_zero, List.set_cons_succ]
  refine hK _ _ (below_plus H5.out.2) ?_
  clear hK K
  iterate 1 (refine mix_plain rfl ?_; go_big_quiet_step (fail); refine wpQuiet_nil ?_)
  refine mix_done ?_
  have hb25 := H5.out.2
  have hA := HA.out.1.below hb25 HA.out.1.lt
  have hB := HA.out.2.1.below hb25 HA.out.2.1.lt
  have hR := HA.out.2.2.1.below hb25 HA.out.2.2.1.lt
  have hu := own_below HA.out.2.2.2.2.2 hb25
  have hbel := HA.out.2.2.2.1.trans (hb25.mono HA.out.2.2.2.1.size)
  have hsz : w.heap.size + 3 ≤ V5.heap.size := Nat.le_trans HA.out.2.2.2.2.1 hb25.size
  obtain ⟨As, cs, rfl, hcs, hcells⟩ := OwnU.cells hu
  obtain ⟨Ah, ch, rfl, hch, hch2, hdigs⟩ := DX.of_own H5.out.1
  have cA : V5.cell? ⟨w.heap.size, 0, none⟩ = some (.int .u64 (a : Int)) := hA.cell 0
  have cB : V5.cell? ⟨w.heap.size + 1, 1, none⟩ = some (.int .u64 (e : Int)) := hB.cell 1
  have cA2 : ∀ o, (V5.alloc o).cell? ⟨w.heap.size, 0, none⟩ = some (.int .u64 (a : Int)) := fun o => (World.cell?_of_block (Below.heap_alloc V5 o _ (by show w.heap.size < V5.heap.size; omega))).trans cA
  have hl1' : (L.map Prod.fst).length = L.length := List.length_map _
  have hl2' : (L.map Prod.snd).length = L.length := List.length_map _
  rw [hl1'] at hcells hcs ⊢
  rw [hl2'] at hdigs hch ⊢
  have HV := Lib.hid (And.intro hcells (And.intro hdigs (And.intro hR (And.intro hbel hsz))))
  clear HA H5 hb25 hA hB hR hu hbel hsz hcells hdigs hl1' hl2'
  go_wp2_with fail
  obtain ⟨W0, hW0⟩ : ∃ W0, W0 = V5.alloc (Obj.cells (rgC a e (.slice none 0 0)) 31) := ⟨_, rfl⟩
  have hrg0 : Blk W0 V5.heap.size 31 (rgC a e (.slice none 0 0)) := by rw [hW0]; exact Blk.new _ _ _
  have hsz0 : W0.heap.size = V5.heap.size + 1 := by rw [hW0]; simp
  have hb50 : Below V5.heap.size V5 W0 := by rw [hW0]; exact below_new1 _ _
  refine wp_at (fun W => W = W0) hW0.symm ?_
  rintro W rfl
  clear hW0 cA cB cA2
  have H0 := Lib.hid (And.intro hrg0 (And.intro hsz0 hb50))
  clear hrg0 hsz0 hb50
  go_loopw [10, 11, 12, 13, 14, 15, 42] (fun u va _ _ _ _ iv wr => ∃ (k p : Nat) (v : Value), k ≤ L.length ∧ iv = .int .i64 k ∧ va = .int .u64 p ∧ p = a + sumT (L.take k) ∧ Jo W V5.heap.size a e v u v ((joinF (nodeM (cutW x)) [] a (L.take k)).reverse.map Prod.fst) ((joinF (nodeM (cutW x)) [] a (L.take k)).reverse.map Prod.snd) wr) (fun _ _ _ _ _ _ iv _ => L.length - (intOf iv).toNat)
  case atStart => exact ⟨0, a, _, Nat.zero_le _, rfl, rfl, rfl, H0.out.1, OwnU.nil _ _, World.ownsRow_nil _ _ _ _, World.grownBy.refl _ _, by have := H0.out.2.1; omega⟩
  case round =>
    obtain ⟨k, p, v, hk, rfl, rfl, hp, hjo⟩ := hrel
    by_cases hlt : k < L.length
    · have hlt' : (k : Int) < (L.length : Int) := by omega
      have hkc : (k : Int) < (cs : Int) := by omega
      have hkh : (k : Int) < (ch : Int) := by omega
      obtain ⟨gs, rfl, _, hgs, hcell⟩ := HV.out.1 k hlt
      obtain ⟨gh, oh, rfl, hgh, hrange⟩ := HV.out.2.1 k hlt
      rw [zip_fst_at L k hlt] at hcell
      rw [zip_snd_at L k hlt] at hrange
      have htake := take_snoc L k hlt
      have hq := List.getElem_mem hlt
      obtain ⟨q, hq0⟩ : ∃ q, L[k] = q := ⟨_, rfl⟩
      rw [hq0] at hcell hrange htake hq
      clear hq0
      obtain ⟨s0, d0⟩ := q
      have hd0 : d0.length = 32 := HL.out.2.2.2.1 _ hq
      have hs0 : 1 ≤ s0 := HL.out.2.2.2.2.2 s0 (List.mem_map.2 ⟨_, hq, rfl⟩)
      have hps : p + s0 ≤ e := by
        have h1 := sumT_take_le L (k + 1)
        rw [htake, sumT_snoc] at h1
        have := HL.out.2.2.2.2.1
        omega
      obtain ⟨st0, hst0⟩ : ∃ st0, joinF (nodeM (cutW x)) [] a (L.take k) = st0 := ⟨_, rfl⟩
      have hsn : joinF (nodeM (cutW x)) [] a (L.take (k + 1)) = pushF (nodeM (cutW x)) st0 p s0 d0 := by rw [htake, joinF_snoc, hst0, ← hp]
      have hsum0 : p = a + sumT st0 := by rw [← hst0, joinF_sum (a := a) _ (by simp [sumT])]; exact hp
      have hmem0 : ∀ q ∈ st0, q.2.length = 32 := by rw [← hst0]; exact joinF_mem (fun _ _ => nodeM_length _ _ _) _ (fun _ h => by cases h) (fun q hq => HL.out.2.2.2.1 q (List.mem_of_mem_take hq))
      have hlen0 : st0.length ≤ k := by rw [← hst0]; have := joinF_length (nd := nodeM (cutW x)) (L.take k) (st := []) (p := a); rw [List.length_take] at this; simp at this; omega
      have hp1 : p + s0 = a + sumT (L.take (k + 1)) := by rw [htake, sumT_snoc]; omega
      rw [hst0] at hjo
      have hWsz := H0.out.2.1
      have hcell0 : wr.cell? ⟨gs, k, none⟩ = some (.int .u64 (s0 : Int)) := (World.cell?_of_block (hjo.gr.block gs (by omega) (fun e => by injection e; omega))).trans ((World.cell?_of_block (H0.out.2.2.block gs hgs)).trans hcell)
      have hrange0 : wr.rangeAt gh (oh + k * 32) (dat d0).toList := range_grown (range_next hrange hgh H0.out.2.2) (by omega) hjo.gr (fun e => by injection e; omega)
      have HR := Lib.hid (And.intro hsn (And.intro hp1 (And.intro hsum0 (And.intro hmem0 (And.intro hd0 hjo)))))
      clear hsn hp1 hsum0 hmem0 hd0 hjo hst0 hq htake hrange hcell hp
      have hD := Blk.new wr 43 (arr 32 fun _ => 0)
      have hLn : (st0.reverse.map Prod.fst).length = st0.length := by simp
      obtain ⟨Au, cu, rfl, hcu, _⟩ := (HR.out.2.2.2.2.2).hu.cells
      rw [hLn] at hcu ⊢
      go_wp2_with (first
        | (refine wpList_loadMid rfl 43 (.tmp 49) rfl gh (oh + k * 32) rfl (dat d0) _ hrange0 Tryd.underlying43 rfl (by rw [dat_size]; kernel_rfl) ?_)
        | (refine wpList_storeDat rfl rfl 43 (.tmp 14) (.tmp 50) rfl wr.heap.size rfl _ _ rfl _ hD (by kernel_rfl) ?_; intro w2 hD2 hon2))
      obtain ⟨wa, rfl⟩ : ∃ wa, wa = wr := ⟨_, rfl⟩
      have hJ0 := Jn.start2 HR.out.2.2.2.2.2 hD2 hon2
      rw [hLn] at hJ0
      have Hc := Lib.hid (And.intro hJ0 (And.intro hs0 hps))
      clear hJ0 hD2 hon2 hs0 hps hcu hrange0 hcell0 hD
      go_loopw [10, 11, 13, 15] (fun u va vs vn wi => ∃ (st : List (Nat × List UInt8)) (s p2 : Nat) (d : List UInt8) (v2 : Value), vn = .int .i64 st.length ∧ va = .int .u64 p2 ∧ vs = .int .u64 s ∧ p2 = a + sumT st ∧ 1 ≤ s ∧ p2 + s = p + s0 ∧ pushF (nodeM (cutW x)) st p2 s d = pushF (nodeM (cutW x)) st0 p s0 d0 ∧ d.length = 32 ∧ (∀ q ∈ st, q.2.length = 32) ∧ st.length ≤ 128 ∧ Jn W V5.heap.size a e wa.heap.size d v2 u v2 (st.reverse.map Prod.fst) (st.reverse.map Prod.snd) wi) (fun _ _ _ vn _ => (intOf vn).toNat)
      case atStart => exact ⟨st0, s0, p, d0, v, rfl, rfl, rfl, HR.out.2.2.1, Hc.out.2.1, rfl, rfl, HR.out.2.2.2.2.1, HR.out.2.2.2.1, by have := HL.out.2.2.1; omega, Hc.out.1⟩
      case round =>
        obtain ⟨st, s, p2, d, v2, rfl, rfl, rfl, hp2, hs, hps2, hpush, hd, hmem, hstl, hJ⟩ := hrel
        have hps := Hc.out.2.2
        have HJ := Lib.hid hJ
        clear hJ
        have Hp2 := Lib.hid hp2
        clear hp2
        cases st with
        | nil =>
          have hstop : pushF (nodeM (cutW x)) st0 p s0 d0 = [(s, d)] := by rw [← hpush]; rfl
          obtain ⟨st, hst⟩ : ∃ st : List (Nat × List UInt8), [] = st := ⟨_, rfl⟩
          rw [hst] at HJ hstop
          have hstn : st.length = 0 := by rw [← hst]; rfl
          have Hstop := Lib.hid hstop
          clear hstop hpush
          have hadd : IntKind.u64.wrap ((p2 : Int) + s) = ((p2 + s : Nat) : Int) := by rw [IntWalk.u64_in _ (by omega)]; omega
          go_upto_region 17 with fail
          refine wp_region_mixU 11 (.plain 0 <| .plain 1 <| .plain 4 <| .plain 5 <| .plain 6 <| .two 2 7 (.two 3 7 (.only 7 <| .only 8 <| .plain 9 <| .plain 10 <| .done) <| (.only 3 <| .only 8 <| .plain 9 <| .plain 10 <| .done)) <| (.only 2 <| .only 3 <| .only 8 <| .plain 9 <| .plain 10 <| .done)) (fun V => Blk V V5.heap.size 31 (rgC a e v2) ∧ Blk V wa.heap.size 43 (dat d)) (by kernel_rfl) (by kernel_rfl) ⟨HJ.out.rg.drewN 1, HJ.out.dig.drewN 1⟩ ?_
          refine mix_atC (fun V => Jn W V5.heap.size a e wa.heap.size d v2 _ v2 (st.reverse.map Prod.fst) (st.reverse.map Prod.snd) V) (HJ.out.drewN 1) ?_
          clear HJ
          rintro V J
          iterate 5 (refine mix_plain rfl ?_; (first
            | (refine wpQuiet_load1 rfl _ (.tmp 103) rfl _ rfl _ Tryd.underlying29 rfl _ (fun _ hW => hW.1.cell 2) ?_; simp only [Act.put, List.setIfInBounds_toArray, List.set_cons_zero, List.set_cons_succ])
            | (refine wpQuiet_load rfl _ (.tmp 14) rfl wa.heap.size rfl _ (dat d) _ _ (fun _ hW => hW.2) Tryd.underlying43 rfl (by rw [dat_size]; kernel_rfl) ?_; simp only [Act.put, List.setIfInBounds_toArray, List.set_cons_zero, List.set_cons_succ])
            | go_big_quiet_step ((intros; rfl))); refine wpQuiet_nil ?_)
          refine mix_two_in rfl rfl (fun K hK => ?_) (fun K hK => ?_)
          · go_wp2_with fail
            have lu0 := Blk.new V 22 #[nU s]
            have J' := J.alloc (Obj.cells #[nU s] 22)
            refine hK _ _ ⟨J'.rg, J'.dig⟩ ?_
            clear hK K
            obtain ⟨gl, hgl⟩ : ∃ gl, V.heap.size = gl := ⟨_, rfl⟩
            rw [hgl] at lu0 ⊢
            clear hgl
            refine mix_atC (fun V => Jn W V5.heap.size a e wa.heap.size d v2 _ v2 (st.reverse.map Prod.fst) (st.reverse.map Prod.snd) V ∧ Blk V gl 22 #[nU s]) ⟨J', lu0⟩ ?_
            clear J' lu0
            rintro V1 ⟨J1, lu⟩
            refine mix_two_in rfl rfl (fun K hK => ?_) (fun K hK => ?_)
            · refine wpList_appendUl rfl (.tmp 99) (.tmp 101) rfl W.heap.size _ (st.reverse.map Prod.fst) rfl J1.hu (some ⟨gl, 0, none⟩) 1 [s] rfl (Reads.of_blk lu lu.lt 0) (by simp; omega) J1.gr.size ?_
              intro u5 V5' hu5 hg5
              simp only [Act.put, List.setIfInBounds_toArray, List.set_cons_zero, List.set_cons_succ]
              have J5 := J1.appU hu5 hg5
              refine hK _ _ ⟨J5.rg, J5.dig⟩ ?_
              clear hK K hu5 hg5 J1 lu
              refine mix_only_in rfl (fun K hK => ?_)
              refine wpList_buildD rfl (.tmp 105) rfl d rfl ?_
              simp only [Act.put, List.setIfInBounds_toArray, List.set_cons_zero, List.set_cons_succ]
              have ld := Blk.new V5' 43 (dat d)
              have J5' := J5.alloc (Obj.cells (dat d) 43)
              refine hK _ _ ⟨J5'.rg, J5'.dig⟩ ?_
              clear hK K
              refine mix_atC (fun V => Jn W V5.heap.size a e wa.heap.size d v2 _ v2 (st.reverse.map Prod.fst ++ [s]) (st.reverse.map Prod.snd) V ∧ Blk V V5'.heap.size 43 (dat d)) ⟨J5', ld⟩ ?_
              clear J5' ld
              rintro V6 ⟨J6, ld6⟩
              refine mix_only_in rfl (fun K hK => ?_)
              refine wpList_appendDig rfl (.tmp 104) (.tmp 106) rfl W.heap.size _ (st.reverse.map Prod.snd) rfl J6.hv V5'.heap.size d rfl ld6 (by simp; omega) J6.gr.size ?_
              intro v8 V8 hv8 hg8
              simp only [Act.put, List.setIfInBounds_toArray, List.set_cons_zero, List.set_cons_succ]
              have hsl8 := own_slice hv8
              have J8 := J6.appD hv8 hg8
              obtain ⟨A8, c8, rfl⟩ := hsl8
              refine hK _ _ ⟨J8.rg, J6.dig.grown hg8 (fun e => J6.ne _ e.symm rfl)⟩ ?_
              clear hK K hv8 hg8 J6 ld6
              iterate 2 (refine mix_plain rfl ?_; go_big_quiet_step ((intros; rfl)); refine wpQuiet_nil ?_)
              refine mix_done ?_
              simp only [List.drop_succ_cons, List.drop_zero]
              have hrg8 := J8.rg
              have H8 := Lib.hid J8
              clear J8
              go_wp2_with (first
                | (refine wpList_store1 rfl rfl _ (.tmp 108) (.tmp 107) rfl V5.heap.size 2 rfl _ rfl 31 _ hrg8 (by kernel_rfl) (show 2 < 3 by decide) rfl rfl ?_; intro w9 hrg9 hg9; rw [rgC_set] at hrg9; have J9 := Lib.hid (H8.out.setR hrg9 hg9); clear hrg9 hg9 H8 hrg8))
              exact ⟨⟨k + 1, p2 + s, _, by omega, by go_num, by go_num, hps2.trans HR.out.2.1, by rw [HR.out.1, Hstop.out]; simp only [List.reverse_cons, List.map_append, List.map_cons, List.map_nil]; exact J9.out⟩, by simp only [intOf]; omega⟩
            · refine wpList_buildD rfl (.tmp 105) rfl d rfl ?_
              simp only [Act.put, List.setIfInBounds_toArray, List.set_cons_zero, List.set_cons_succ]
              have ld := Blk.new V1 43 (dat d)
              have J1' := J1.alloc (Obj.cells (dat d) 43)
              refine hK _ _ ⟨J1'.rg, J1'.dig⟩ ?_
              clear hK K
              have lu1 := lu.alloc (Obj.cells (dat d) 43)
              clear lu
              refine mix_atC (fun V => Jn W V5.heap.size a e wa.heap.size d v2 _ v2 (st.reverse.map Prod.fst) (st.reverse.map Prod.snd) V ∧ Blk V gl 22 #[nU s] ∧ Blk V V1.heap.size 43 (dat d)) ⟨J1', lu1, ld⟩ ?_
              clear J1' ld lu1
              rintro V2 ⟨J2, lu2, ld2⟩
              refine mix_only_in rfl (fun K hK => ?_)
              refine wpList_appendUl rfl (.tmp 99) (.tmp 101) rfl W.heap.size _ (st.reverse.map Prod.fst) rfl J2.hu (some ⟨gl, 0, none⟩) 1 [s] rfl (Reads.of_blk lu2 lu2.lt 0) (by simp; omega) J2.gr.size ?_
              intro u5 V5' hu5 hg5
              simp only [Act.put, List.setIfInBounds_toArray, List.set_cons_zero, List.set_cons_succ]
              have J5 := J2.appU hu5 hg5
              have ld5 := ld2.grown hg5 (fun e => own_not J2.hu ld2 (by decide) e.symm)
              refine hK _ _ ⟨J5.rg, J5.dig⟩ ?_
              clear hK K hu5 hg5 J2 lu2 ld2
              refine mix_only_in rfl (fun K hK => ?_)
              refine wpList_appendDig rfl (.tmp 104) (.tmp 106) rfl W.heap.size _ (st.reverse.map Prod.snd) rfl J5.hv V1.heap.size d rfl ld5 (by simp; omega) J5.gr.size ?_
              intro v8 V8 hv8 hg8
              simp only [Act.put, List.setIfInBounds_toArray, List.set_cons_zero, List.set_cons_succ]
              have hsl8 := own_slice hv8
              have J8 := J5.appD hv8 hg8
              obtain ⟨A8, c8, rfl⟩ := hsl8
              refine hK _ _ ⟨J8.rg, J5.dig.grown hg8 (fun e => J5.ne _ e.symm rfl)⟩ ?_
              clear hK K hv8 hg8 J5 ld5
              iterate 2 (refine mix_plain rfl ?_; go_big_quiet_step ((intros; rfl)); refine wpQuiet_nil ?_)
              refine mix_done ?_
              simp only [List.drop_succ_cons, List.drop_zero]
              have hrg8 := J8.rg
              have H8 := Lib.hid J8
              clear J8
              go_wp2_with (first
                | (refine wpList_store1 rfl rfl _ (.tmp 108) (.tmp 107) rfl V5.heap.size 2 rfl _ rfl 31 _ hrg8 (by kernel_rfl) (show 2 < 3 by decide) rfl rfl ?_; intro w9 hrg9 hg9; rw [rgC_set] at hrg9; have J9 := Lib.hid (H8.out.setR hrg9 hg9); clear hrg9 hg9 H8 hrg8))
              exact ⟨⟨k + 1, p2 + s, _, by omega, by go_num, by go_num, hps2.trans HR.out.2.1, by rw [HR.out.1, Hstop.out]; simp only [List.reverse_cons, List.map_append, List.map_cons, List.map_nil]; exact J9.out⟩, by simp only [intOf]; omega⟩
          · refine wpList_buildD rfl (.tmp 105) rfl d rfl ?_
            simp only [Act.put, List.setIfInBounds_toArray, List.set_cons_zero, List.set_cons_succ]
            have ld0 := Blk.new V 43 (dat d)
            have J' := J.alloc (Obj.cells (dat d) 43)
            refine hK _ _ ⟨J'.rg, J'.dig⟩ ?_
            clear hK K
            obtain ⟨gd, hgd⟩ : ∃ gd, V.heap.size = gd := ⟨_, rfl⟩
            rw [hgd] at ld0 ⊢
            clear hgd
            refine mix_atC (fun V => Jn W V5.heap.size a e wa.heap.size d v2 _ v2 (st.reverse.map Prod.fst) (st.reverse.map Prod.snd) V ∧ Blk V gd 43 (dat d)) ⟨J', ld0⟩ ?_
            clear J' ld0
            rintro V1 ⟨J1, ld⟩
            refine mix_only_in rfl (fun K hK => ?_)
            go_wp2_with fail
            have lu := Blk.new V1 22 #[nU s]
            have J1' := J1.alloc (Obj.cells #[nU s] 22)
            refine hK _ _ ⟨J1'.rg, J1'.dig⟩ ?_
            clear hK K
            have ld1 := ld.alloc (Obj.cells #[nU s] 22)
            clear ld
            refine mix_atC (fun V => Jn W V5.heap.size a e wa.heap.size d v2 _ v2 (st.reverse.map Prod.fst) (st.reverse.map Prod.snd) V ∧ Blk V V1.heap.size 22 #[nU s] ∧ Blk V gd 43 (dat d)) ⟨J1', lu, ld1⟩ ?_
            clear J1' ld1 lu
            rintro V2 ⟨J2, lu2, ld2⟩
            refine mix_only_in rfl (fun K hK => ?_)
            refine wpList_appendUl rfl (.tmp 99) (.tmp 101) rfl W.heap.size _ (st.reverse.map Prod.fst) rfl J2.hu (some ⟨V1.heap.size, 0, none⟩) 1 [s] rfl (Reads.of_blk lu2 lu2.lt 0) (by simp; omega) J2.gr.size ?_
            intro u5 V5' hu5 hg5
            simp only [Act.put, List.setIfInBounds_toArray, List.set_cons_zero, List.set_cons_succ]
            have J5 := J2.appU hu5 hg5
            have ld5 := ld2.grown hg5 (fun e => own_not J2.hu ld2 (by decide) e.symm)
            refine hK _ _ ⟨J5.rg, J5.dig⟩ ?_
            clear hK K hu5 hg5 J2 lu2 ld2
            refine mix_only_in rfl (fun K hK => ?_)
            refine wpList_appendDig rfl (.tmp 104) (.tmp 106) rfl W.heap.size _ (st.reverse.map Prod.snd) rfl J5.hv gd d rfl ld5 (by simp; omega) J5.gr.size ?_
            intro v8 V8 hv8 hg8
            simp only [Act.put, List.setIfInBounds_toArray, List.set_cons_zero, List.set_cons_succ]
            have hsl8 := own_slice hv8
            have J8 := J5.appD hv8 hg8
            obtain ⟨A8, c8, rfl⟩ := hsl8
            refine hK _ _ ⟨J8.rg, J5.dig.grown hg8 (fun e => J5.ne _ e.symm rfl)⟩ ?_
            clear hK K hv8 hg8 J5 ld5
            iterate 2 (refine mix_plain rfl ?_; go_big_quiet_step ((intros; rfl)); refine wpQuiet_nil ?_)
            refine mix_done ?_
            simp only [List.drop_succ_cons, List.drop_zero]
            have hrg8 := J8.rg
            have H8 := Lib.hid J8
            clear J8
            go_wp2_with (first
              | (refine wpList_store1 rfl rfl _ (.tmp 108) (.tmp 107) rfl V5.heap.size 2 rfl _ rfl 31 _ hrg8 (by kernel_rfl) (show 2 < 3 by decide) rfl rfl ?_; intro w9 hrg9 hg9; rw [rgC_set] at hrg9; have J9 := Lib.hid (H8.out.setR hrg9 hg9); clear hrg9 hg9 H8 hrg8))
            exact ⟨⟨k + 1, p2 + s, _, by omega, by go_num, by go_num, hps2.trans HR.out.2.1, by rw [HR.out.1, Hstop.out]; simp only [List.reverse_cons, List.map_append, List.map_cons, List.map_nil]; exact J9.out⟩, by simp only [intOf]; omega⟩
        | cons q st1 =>
          obtain ⟨t, c⟩ := q
          have hf : (((t, c) :: st1).reverse.map Prod.fst) = st1.reverse.map Prod.fst ++ [t] := by simp
          have hg : (((t, c) :: st1).reverse.map Prod.snd) = st1.reverse.map Prod.snd ++ [c] := by simp
          have hfl : (((t, c) :: st1).reverse.map Prod.fst).length = st1.length + 1 := by simp
          have hgl : (((t, c) :: st1).reverse.map Prod.snd).length = st1.length + 1 := by simp
          have hfa : (((t, c) :: st1).reverse.map Prod.fst).getD st1.length 0 = t := by
            rw [hf, List.getD_eq_getElem?_getD, List.getElem?_append_right (by simp)]; simp
          have hga : (((t, c) :: st1).reverse.map Prod.snd).getD st1.length [] = c := by
            rw [hg, List.getD_eq_getElem?_getD, List.getElem?_append_right (by simp)]; simp
          have hft : (((t, c) :: st1).reverse.map Prod.fst).take st1.length = st1.reverse.map Prod.fst := by
            rw [hf, List.take_append_of_le_length (by simp), List.take_of_length_le (by simp)]
          have hgt : (((t, c) :: st1).reverse.map Prod.snd).take st1.length = st1.reverse.map Prod.snd := by
            rw [hg, List.take_append_of_le_length (by simp), List.take_of_length_le (by simp)]
          obtain ⟨A6, c6, hu6, hc6, hcells6⟩ := HJ.out.hu.cells
          subst hu6
          obtain ⟨g6, rfl, _, _, hcell6⟩ := hcells6 st1.length (by rw [hfl]; omega)
          rw [hfa] at hcell6
          rw [hfl] at hc6
          have hcc : c.length = 32 := hmem _ (List.mem_cons_self ..)
          have hmem1 : ∀ q ∈ st1, q.2.length = 32 := fun q hq => hmem q (List.mem_cons_of_mem _ hq)
          have hsum1 : p2 = a + (t + sumT st1) := by have := Hp2.out; simpa [sumT] using this
          have hstl1 : st1.length + 1 ≤ 128 := hstl
          have Hcell6 := Lib.hid hcell6
          have HF := Lib.hid (And.intro hft (And.intro hgt (And.intro hgl (And.intro hga (And.intro hmem1 hsum1)))))
          clear hcells6 hf hg hfa hga hft hgt hmem hmem1 hcell6 hgl hsum1
          have hpe : ((t, c) :: st1).length = st1.length + 1 := rfl
          rw [hfl] at HJ ⊢
          have hcell6 : wr.cell? ⟨g6, st1.length, none⟩ = some (.int .u64 (t : Int)) := Hcell6.out
          clear Hcell6
          have hn1 : (st1.length : Int) < (c6 : Int) := by omega
          by_cases ht : t = s
          case neg =>
            have hts : ¬ ((t : Int) = (s : Int)) := by omega
            have hstop : pushF (nodeM (cutW x)) st0 p s0 d0 = (s, d) :: (t, c) :: st1 := by rw [← hpush]; exact if_neg (fun h => ht h.1)
            obtain ⟨st, hst⟩ : ∃ st : List (Nat × List UInt8), (t, c) :: st1 = st := ⟨_, rfl⟩
            rw [hst] at HJ hstop
            have hstn : st.length ≤ 128 := by rw [← hst]; exact hstl1
            have Hstop := Lib.hid hstop
            clear hstop hpush hst
            have hadd : IntKind.u64.wrap ((p2 : Int) + s) = ((p2 + s : Nat) : Int) := by rw [IntWalk.u64_in _ (by omega)]; omega
            go_upto_region 17 with fail
            refine wp_region_mixU 11 (.plain 0 <| .plain 1 <| .plain 4 <| .plain 5 <| .plain 6 <| .two 2 7 (.two 3 7 (.only 7 <| .only 8 <| .plain 9 <| .plain 10 <| .done) <| (.only 3 <| .only 8 <| .plain 9 <| .plain 10 <| .done)) <| (.only 2 <| .only 3 <| .only 8 <| .plain 9 <| .plain 10 <| .done)) (fun V => Blk V V5.heap.size 31 (rgC a e v2) ∧ Blk V wa.heap.size 43 (dat d)) (by kernel_rfl) (by kernel_rfl) ⟨HJ.out.rg.drewN 1, HJ.out.dig.drewN 1⟩ ?_
            refine mix_atC (fun V => Jn W V5.heap.size a e wa.heap.size d v2 _ v2 (st.reverse.map Prod.fst) (st.reverse.map Prod.snd) V) (HJ.out.drewN 1) ?_
            clear HJ
            rintro V J
            iterate 5 (refine mix_plain rfl ?_; (first
              | (refine wpQuiet_load1 rfl _ (.tmp 103) rfl _ rfl _ Tryd.underlying29 rfl _ (fun _ hW => hW.1.cell 2) ?_; simp only [Act.put, List.setIfInBounds_toArray, List.set_cons_zero, List.set_cons_succ])
              | (refine wpQuiet_load rfl _ (.tmp 14) rfl wa.heap.size rfl _ (dat d) _ _ (fun _ hW => hW.2) Tryd.underlying43 rfl (by rw [dat_size]; kernel_rfl) ?_; simp only [Act.put, List.setIfInBounds_toArray, List.set_cons_zero, List.set_cons_succ])
              | go_big_quiet_step ((intros; rfl))); refine wpQuiet_nil ?_)
            refine mix_two_in rfl rfl (fun K hK => ?_) (fun K hK => ?_)
            · go_wp2_with fail
              have lu0 := Blk.new V 22 #[nU s]
              have J' := J.alloc (Obj.cells #[nU s] 22)
              refine hK _ _ ⟨J'.rg, J'.dig⟩ ?_
              clear hK K
              obtain ⟨gl, hgl⟩ : ∃ gl, V.heap.size = gl := ⟨_, rfl⟩
              rw [hgl] at lu0 ⊢
              clear hgl
              refine mix_atC (fun V => Jn W V5.heap.size a e wa.heap.size d v2 _ v2 (st.reverse.map Prod.fst) (st.reverse.map Prod.snd) V ∧ Blk V gl 22 #[nU s]) ⟨J', lu0⟩ ?_
              clear J' lu0
              rintro V1 ⟨J1, lu⟩
              refine mix_two_in rfl rfl (fun K hK => ?_) (fun K hK => ?_)
              · refine wpList_appendUl rfl (.tmp 99) (.tmp 101) rfl W.heap.size _ (st.reverse.map Prod.fst) rfl J1.hu (some ⟨gl, 0, none⟩) 1 [s] rfl (Reads.of_blk lu lu.lt 0) (by simp; omega) J1.gr.size ?_
                intro u5 V5' hu5 hg5
                simp only [Act.put, List.setIfInBounds_toArray, List.set_cons_zero, List.set_cons_succ]
                have J5 := J1.appU hu5 hg5
                refine hK _ _ ⟨J5.rg, J5.dig⟩ ?_
                clear hK K hu5 hg5 J1 lu
                refine mix_only_in rfl (fun K hK => ?_)
                refine wpList_buildD rfl (.tmp 105) rfl d rfl ?_
                simp only [Act.put, List.setIfInBounds_toArray, List.set_cons_zero, List.set_cons_succ]
                have ld := Blk.new V5' 43 (dat d)
                have J5' := J5.alloc (Obj.cells (dat d) 43)
                refine hK _ _ ⟨J5'.rg, J5'.dig⟩ ?_
                clear hK K
                refine mix_atC (fun V => Jn W V5.heap.size a e wa.heap.size d v2 _ v2 (st.reverse.map Prod.fst ++ [s]) (st.reverse.map Prod.snd) V ∧ Blk V V5'.heap.size 43 (dat d)) ⟨J5', ld⟩ ?_
                clear J5' ld
                rintro V6 ⟨J6, ld6⟩
                refine mix_only_in rfl (fun K hK => ?_)
                refine wpList_appendDig rfl (.tmp 104) (.tmp 106) rfl W.heap.size _ (st.reverse.map Prod.snd) rfl J6.hv V5'.heap.size d rfl ld6 (by simp; omega) J6.gr.size ?_
                intro v8 V8 hv8 hg8
                simp only [Act.put, List.setIfInBounds_toArray, List.set_cons_zero, List.set_cons_succ]
                have hsl8 := own_slice hv8
                have J8 := J6.appD hv8 hg8
                obtain ⟨A8, c8, rfl⟩ := hsl8
                refine hK _ _ ⟨J8.rg, J6.dig.grown hg8 (fun e => J6.ne _ e.symm rfl)⟩ ?_
                clear hK K hv8 hg8 J6 ld6
                iterate 2 (refine mix_plain rfl ?_; go_big_quiet_step ((intros; rfl)); refine wpQuiet_nil ?_)
                refine mix_done ?_
                simp only [List.drop_succ_cons, List.drop_zero]
                have hrg8 := J8.rg
                have H8 := Lib.hid J8
                clear J8
                go_wp2_with (first
                  | (refine wpList_store1 rfl rfl _ (.tmp 108) (.tmp 107) rfl V5.heap.size 2 rfl _ rfl 31 _ hrg8 (by kernel_rfl) (show 2 < 3 by decide) rfl rfl ?_; intro w9 hrg9 hg9; rw [rgC_set] at hrg9; have J9 := Lib.hid (H8.out.setR hrg9 hg9); clear hrg9 hg9 H8 hrg8))
                exact ⟨⟨k + 1, p2 + s, _, by omega, by go_num, by go_num, hps2.trans HR.out.2.1, by rw [HR.out.1, Hstop.out]; simp only [List.reverse_cons, List.map_append, List.map_cons, List.map_nil]; exact J9.out⟩, by simp only [intOf]; omega⟩
              · refine wpList_buildD rfl (.tmp 105) rfl d rfl ?_
                simp only [Act.put, List.setIfInBounds_toArray, List.set_cons_zero, List.set_cons_succ]
                have ld := Blk.new V1 43 (dat d)
                have J1' := J1.alloc (Obj.cells (dat d) 43)
                refine hK _ _ ⟨J1'.rg, J1'.dig⟩ ?_
                clear hK K
                have lu1 := lu.alloc (Obj.cells (dat d) 43)
                clear lu
                refine mix_atC (fun V => Jn W V5.heap.size a e wa.heap.size d v2 _ v2 (st.reverse.map Prod.fst) (st.reverse.map Prod.snd) V ∧ Blk V gl 22 #[nU s] ∧ Blk V V1.heap.size 43 (dat d)) ⟨J1', lu1, ld⟩ ?_
                clear J1' ld lu1
                rintro V2 ⟨J2, lu2, ld2⟩
                refine mix_only_in rfl (fun K hK => ?_)
                refine wpList_appendUl rfl (.tmp 99) (.tmp 101) rfl W.heap.size _ (st.reverse.map Prod.fst) rfl J2.hu (some ⟨gl, 0, none⟩) 1 [s] rfl (Reads.of_blk lu2 lu2.lt 0) (by simp; omega) J2.gr.size ?_
                intro u5 V5' hu5 hg5
                simp only [Act.put, List.setIfInBounds_toArray, List.set_cons_zero, List.set_cons_succ]
                have J5 := J2.appU hu5 hg5
                have ld5 := ld2.grown hg5 (fun e => own_not J2.hu ld2 (by decide) e.symm)
                refine hK _ _ ⟨J5.rg, J5.dig⟩ ?_
                clear hK K hu5 hg5 J2 lu2 ld2
                refine mix_only_in rfl (fun K hK => ?_)
                refine wpList_appendDig rfl (.tmp 104) (.tmp 106) rfl W.heap.size _ (st.reverse.map Prod.snd) rfl J5.hv V1.heap.size d rfl ld5 (by simp; omega) J5.gr.size ?_
                intro v8 V8 hv8 hg8
                simp only [Act.put, List.setIfInBounds_toArray, List.set_cons_zero, List.set_cons_succ]
                have hsl8 := own_slice hv8
                have J8 := J5.appD hv8 hg8
                obtain ⟨A8, c8, rfl⟩ := hsl8
                refine hK _ _ ⟨J8.rg, J5.dig.grown hg8 (fun e => J5.ne _ e.symm rfl)⟩ ?_
                clear hK K hv8 hg8 J5 ld5
                iterate 2 (refine mix_plain rfl ?_; go_big_quiet_step ((intros; rfl)); refine wpQuiet_nil ?_)
                refine mix_done ?_
                simp only [List.drop_succ_cons, List.drop_zero]
                have hrg8 := J8.rg
                have H8 := Lib.hid J8
                clear J8
                go_wp2_with (first
                  | (refine wpList_store1 rfl rfl _ (.tmp 108) (.tmp 107) rfl V5.heap.size 2 rfl _ rfl 31 _ hrg8 (by kernel_rfl) (show 2 < 3 by decide) rfl rfl ?_; intro w9 hrg9 hg9; rw [rgC_set] at hrg9; have J9 := Lib.hid (H8.out.setR hrg9 hg9); clear hrg9 hg9 H8 hrg8))
                exact ⟨⟨k + 1, p2 + s, _, by omega, by go_num, by go_num, hps2.trans HR.out.2.1, by rw [HR.out.1, Hstop.out]; simp only [List.reverse_cons, List.map_append, List.map_cons, List.map_nil]; exact J9.out⟩, by simp only [intOf]; omega⟩
            · refine wpList_buildD rfl (.tmp 105) rfl d rfl ?_
              simp only [Act.put, List.setIfInBounds_toArray, List.set_cons_zero, List.set_cons_succ]
              have ld0 := Blk.new V 43 (dat d)
              have J' := J.alloc (Obj.cells (dat d) 43)
              refine hK _ _ ⟨J'.rg, J'.dig⟩ ?_
              clear hK K
              obtain ⟨gd, hgd⟩ : ∃ gd, V.heap.size = gd := ⟨_, rfl⟩
              rw [hgd] at ld0 ⊢
              clear hgd
              refine mix_atC (fun V => Jn W V5.heap.size a e wa.heap.size d v2 _ v2 (st.reverse.map Prod.fst) (st.reverse.map Prod.snd) V ∧ Blk V gd 43 (dat d)) ⟨J', ld0⟩ ?_
              clear J' ld0
              rintro V1 ⟨J1, ld⟩
              refine mix_only_in rfl (fun K hK => ?_)
              go_wp2_with fail
              have lu := Blk.new V1 22 #[nU s]
              have J1' := J1.alloc (Obj.cells #[nU s] 22)
              refine hK _ _ ⟨J1'.rg, J1'.dig⟩ ?_
              clear hK K
              have ld1 := ld.alloc (Obj.cells #[nU s] 22)
              clear ld
              refine mix_atC (fun V => Jn W V5.heap.size a e wa.heap.size d v2 _ v2 (st.reverse.map Prod.fst) (st.reverse.map Prod.snd) V ∧ Blk V V1.heap.size 22 #[nU s] ∧ Blk V gd 43 (dat d)) ⟨J1', lu, ld1⟩ ?_
              clear J1' ld1 lu
              rintro V2 ⟨J2, lu2, ld2⟩
              refine mix_only_in rfl (fun K hK => ?_)
              refine wpList_appendUl rfl (.tmp 99) (.tmp 101) rfl W.heap.size _ (st.reverse.map Prod.fst) rfl J2.hu (some ⟨V1.heap.size, 0, none⟩) 1 [s] rfl (Reads.of_blk lu2 lu2.lt 0) (by simp; omega) J2.gr.size ?_
              intro u5 V5' hu5 hg5
              simp only [Act.put, List.setIfInBounds_toArray, List.set_cons_zero, List.set_cons_succ]
              have J5 := J2.appU hu5 hg5
              have ld5 := ld2.grown hg5 (fun e => own_not J2.hu ld2 (by decide) e.symm)
              refine hK _ _ ⟨J5.rg, J5.dig⟩ ?_
              clear hK K hu5 hg5 J2 lu2 ld2
              refine mix_only_in rfl (fun K hK => ?_)
              refine wpList_appendDig rfl (.tmp 104) (.tmp 106) rfl W.heap.size _ (st.reverse.map Prod.snd) rfl J5.hv gd d rfl ld5 (by simp; omega) J5.gr.size ?_
              intro v8 V8 hv8 hg8
              simp only [Act.put, List.setIfInBounds_toArray, List.set_cons_zero, List.set_cons_succ]
              have hsl8 := own_slice hv8
              have J8 := J5.appD hv8 hg8
              obtain ⟨A8, c8, rfl⟩ := hsl8
              refine hK _ _ ⟨J8.rg, J5.dig.grown hg8 (fun e => J5.ne _ e.symm rfl)⟩ ?_
              clear hK K hv8 hg8 J5 ld5
              iterate 2 (refine mix_plain rfl ?_; go_big_quiet_step ((intros; rfl)); refine wpQuiet_nil ?_)
              refine mix_done ?_
              simp only [List.drop_succ_cons, List.drop_zero]
              have hrg8 := J8.rg
              have H8 := Lib.hid J8
              clear J8
              go_wp2_with (first
                | (refine wpList_store1 rfl rfl _ (.tmp 108) (.tmp 107) rfl V5.heap.size 2 rfl _ rfl 31 _ hrg8 (by kernel_rfl) (show 2 < 3 by decide) rfl rfl ?_; intro w9 hrg9 hg9; rw [rgC_set] at hrg9; have J9 := Lib.hid (H8.out.setR hrg9 hg9); clear hrg9 hg9 H8 hrg8))
              exact ⟨⟨k + 1, p2 + s, _, by omega, by go_num, by go_num, hps2.trans HR.out.2.1, by rw [HR.out.1, Hstop.out]; simp only [List.reverse_cons, List.map_append, List.map_cons, List.map_nil]; exact J9.out⟩, by simp only [intOf]; omega⟩
          subst ht
          obtain ⟨q, hq⟩ : ∃ q, p2 = q + t := ⟨p2 - t, by have := HF.out.2.2.2.2.2; omega⟩
          have hq2 : p2 - t = q := by omega
          have hqs : q = a + sumT st1 := by have := HF.out.2.2.2.2.2; omega
          have hsub : IntKind.u64.wrap ((p2 : Int) - (t : Int)) = (q : Int) := by rw [IntWalk.u64_in _ (by omega)]; omega
          have hmul : IntKind.u64.wrap (2 * (t : Int)) = 2 * (t : Int) := IntWalk.u64_in _ (by omega)
          have hne0 : ((2 * (t : Int)) == 0) = false := by simp; omega
          have hrem : (q : Int).tmod (2 * (t : Int)) = ((q % (2 * t) : Nat) : Int) := by
            rw [show 2 * (t : Int) = ((2 * t : Nat) : Int) by omega, Int.tmod_eq_emod_of_nonneg (by omega)]; rfl
          have Hq := Lib.hid (And.intro hq2 hqs)
          clear hq hq2 hqs
          by_cases hr : q % (2 * t) = 0
          case neg =>
            have hr' : ¬ (((q % (2 * t) : Nat) : Int) = 0) := by omega
            have hstop : pushF (nodeM (cutW x)) st0 p s0 d0 = (t, d) :: (t, c) :: st1 := by rw [← hpush]; exact if_neg (fun h => hr (by rw [← Hq.out.1]; exact h.2))
            generalize ((q % (2 * t) : Nat) : Int) = r0 at hrem hr'
            clear hr
            obtain ⟨s, hse⟩ : ∃ s, t = s := ⟨_, rfl⟩
            subst hse
            obtain ⟨st, hst⟩ : ∃ st : List (Nat × List UInt8), (t, c) :: st1 = st := ⟨_, rfl⟩
            rw [hst] at HJ hstop
            have hstn : st.length ≤ 128 := by rw [← hst]; exact hstl1
            have Hstop := Lib.hid hstop
            clear hstop hpush hst
            have hadd : IntKind.u64.wrap ((p2 : Int) + t) = ((p2 + t : Nat) : Int) := by rw [IntWalk.u64_in _ (by omega)]; omega
            go_upto_region 17 with fail
            refine wp_region_mixU 11 (.plain 0 <| .plain 1 <| .plain 4 <| .plain 5 <| .plain 6 <| .two 2 7 (.two 3 7 (.only 7 <| .only 8 <| .plain 9 <| .plain 10 <| .done) <| (.only 3 <| .only 8 <| .plain 9 <| .plain 10 <| .done)) <| (.only 2 <| .only 3 <| .only 8 <| .plain 9 <| .plain 10 <| .done)) (fun V => Blk V V5.heap.size 31 (rgC a e v2) ∧ Blk V wa.heap.size 43 (dat d)) (by kernel_rfl) (by kernel_rfl) ⟨HJ.out.rg.drewN 1, HJ.out.dig.drewN 1⟩ ?_
            refine mix_atC (fun V => Jn W V5.heap.size a e wa.heap.size d v2 _ v2 (st.reverse.map Prod.fst) (st.reverse.map Prod.snd) V) (HJ.out.drewN 1) ?_
            clear HJ
            rintro V J
            iterate 5 (refine mix_plain rfl ?_; (first
              | (refine wpQuiet_load1 rfl _ (.tmp 103) rfl _ rfl _ Tryd.underlying29 rfl _ (fun _ hW => hW.1.cell 2) ?_; simp only [Act.put, List.setIfInBounds_toArray, List.set_cons_zero, List.set_cons_succ])
              | (refine wpQuiet_load rfl _ (.tmp 14) rfl wa.heap.size rfl _ (dat d) _ _ (fun _ hW => hW.2) Tryd.underlying43 rfl (by rw [dat_size]; kernel_rfl) ?_; simp only [Act.put, List.setIfInBounds_toArray, List.set_cons_zero, List.set_cons_succ])
              | go_big_quiet_step ((intros; rfl))); refine wpQuiet_nil ?_)
            refine mix_two_in rfl rfl (fun K hK => ?_) (fun K hK => ?_)
            · go_wp2_with fail
              have lu0 := Blk.new V 22 #[nU t]
              have J' := J.alloc (Obj.cells #[nU t] 22)
              refine hK _ _ ⟨J'.rg, J'.dig⟩ ?_
              clear hK K
              obtain ⟨gl, hgl⟩ : ∃ gl, V.heap.size = gl := ⟨_, rfl⟩
              rw [hgl] at lu0 ⊢
              clear hgl
              refine mix_atC (fun V => Jn W V5.heap.size a e wa.heap.size d v2 _ v2 (st.reverse.map Prod.fst) (st.reverse.map Prod.snd) V ∧ Blk V gl 22 #[nU t]) ⟨J', lu0⟩ ?_
              clear J' lu0
              rintro V1 ⟨J1, lu⟩
              refine mix_two_in rfl rfl (fun K hK => ?_) (fun K hK => ?_)
              · refine wpList_appendUl rfl (.tmp 99) (.tmp 101) rfl W.heap.size _ (st.reverse.map Prod.fst) rfl J1.hu (some ⟨gl, 0, none⟩) 1 [t] rfl (Reads.of_blk lu lu.lt 0) (by simp; omega) J1.gr.size ?_
                intro u5 V5' hu5 hg5
                simp only [Act.put, List.setIfInBounds_toArray, List.set_cons_zero, List.set_cons_succ]
                have J5 := J1.appU hu5 hg5
                refine hK _ _ ⟨J5.rg, J5.dig⟩ ?_
                clear hK K hu5 hg5 J1 lu
                refine mix_only_in rfl (fun K hK => ?_)
                refine wpList_buildD rfl (.tmp 105) rfl d rfl ?_
                simp only [Act.put, List.setIfInBounds_toArray, List.set_cons_zero, List.set_cons_succ]
                have ld := Blk.new V5' 43 (dat d)
                have J5' := J5.alloc (Obj.cells (dat d) 43)
                refine hK _ _ ⟨J5'.rg, J5'.dig⟩ ?_
                clear hK K
                refine mix_atC (fun V => Jn W V5.heap.size a e wa.heap.size d v2 _ v2 (st.reverse.map Prod.fst ++ [t]) (st.reverse.map Prod.snd) V ∧ Blk V V5'.heap.size 43 (dat d)) ⟨J5', ld⟩ ?_
                clear J5' ld
                rintro V6 ⟨J6, ld6⟩
                refine mix_only_in rfl (fun K hK => ?_)
                refine wpList_appendDig rfl (.tmp 104) (.tmp 106) rfl W.heap.size _ (st.reverse.map Prod.snd) rfl J6.hv V5'.heap.size d rfl ld6 (by simp; omega) J6.gr.size ?_
                intro v8 V8 hv8 hg8
                simp only [Act.put, List.setIfInBounds_toArray, List.set_cons_zero, List.set_cons_succ]
                have hsl8 := own_slice hv8
                have J8 := J6.appD hv8 hg8
                obtain ⟨A8, c8, rfl⟩ := hsl8
                refine hK _ _ ⟨J8.rg, J6.dig.grown hg8 (fun e => J6.ne _ e.symm rfl)⟩ ?_
                clear hK K hv8 hg8 J6 ld6
                iterate 2 (refine mix_plain rfl ?_; go_big_quiet_step ((intros; rfl)); refine wpQuiet_nil ?_)
                refine mix_done ?_
                simp only [List.drop_succ_cons, List.drop_zero]
                have hrg8 := J8.rg
                have H8 := Lib.hid J8
                clear J8
                go_wp2_with (first
                  | (refine wpList_store1 rfl rfl _ (.tmp 108) (.tmp 107) rfl V5.heap.size 2 rfl _ rfl 31 _ hrg8 (by kernel_rfl) (show 2 < 3 by decide) rfl rfl ?_; intro w9 hrg9 hg9; rw [rgC_set] at hrg9; have J9 := Lib.hid (H8.out.setR hrg9 hg9); clear hrg9 hg9 H8 hrg8))
                exact ⟨⟨k + 1, p2 + t, _, by omega, by go_num, by go_num, hps2.trans HR.out.2.1, by rw [HR.out.1, Hstop.out]; simp only [List.reverse_cons, List.map_append, List.map_cons, List.map_nil]; exact J9.out⟩, by simp only [intOf]; omega⟩
              · refine wpList_buildD rfl (.tmp 105) rfl d rfl ?_
                simp only [Act.put, List.setIfInBounds_toArray, List.set_cons_zero, List.set_cons_succ]
                have ld := Blk.new V1 43 (dat d)
                have J1' := J1.alloc (Obj.cells (dat d) 43)
                refine hK _ _ ⟨J1'.rg, J1'.dig⟩ ?_
                clear hK K
                have lu1 := lu.alloc (Obj.cells (dat d) 43)
                clear lu
                refine mix_atC (fun V => Jn W V5.heap.size a e wa.heap.size d v2 _ v2 (st.reverse.map Prod.fst) (st.reverse.map Prod.snd) V ∧ Blk V gl 22 #[nU t] ∧ Blk V V1.heap.size 43 (dat d)) ⟨J1', lu1, ld⟩ ?_
                clear J1' ld lu1
                rintro V2 ⟨J2, lu2, ld2⟩
                refine mix_only_in rfl (fun K hK => ?_)
                refine wpList_appendUl rfl (.tmp 99) (.tmp 101) rfl W.heap.size _ (st.reverse.map Prod.fst) rfl J2.hu (some ⟨gl, 0, none⟩) 1 [t] rfl (Reads.of_blk lu2 lu2.lt 0) (by simp; omega) J2.gr.size ?_
                intro u5 V5' hu5 hg5
                simp only [Act.put, List.setIfInBounds_toArray, List.set_cons_zero, List.set_cons_succ]
                have J5 := J2.appU hu5 hg5
                have ld5 := ld2.grown hg5 (fun e => own_not J2.hu ld2 (by decide) e.symm)
                refine hK _ _ ⟨J5.rg, J5.dig⟩ ?_
                clear hK K hu5 hg5 J2 lu2 ld2
                refine mix_only_in rfl (fun K hK => ?_)
                refine wpList_appendDig rfl (.tmp 104) (.tmp 106) rfl W.heap.size _ (st.reverse.map Prod.snd) rfl J5.hv V1.heap.size d rfl ld5 (by simp; omega) J5.gr.size ?_
                intro v8 V8 hv8 hg8
                simp only [Act.put, List.setIfInBounds_toArray, List.set_cons_zero, List.set_cons_succ]
                have hsl8 := own_slice hv8
                have J8 := J5.appD hv8 hg8
                obtain ⟨A8, c8, rfl⟩ := hsl8
                refine hK _ _ ⟨J8.rg, J5.dig.grown hg8 (fun e => J5.ne _ e.symm rfl)⟩ ?_
                clear hK K hv8 hg8 J5 ld5
                iterate 2 (refine mix_plain rfl ?_; go_big_quiet_step ((intros; rfl)); refine wpQuiet_nil ?_)
                refine mix_done ?_
                simp only [List.drop_succ_cons, List.drop_zero]
                have hrg8 := J8.rg
                have H8 := Lib.hid J8
                clear J8
                go_wp2_with (first
                  | (refine wpList_store1 rfl rfl _ (.tmp 108) (.tmp 107) rfl V5.heap.size 2 rfl _ rfl 31 _ hrg8 (by kernel_rfl) (show 2 < 3 by decide) rfl rfl ?_; intro w9 hrg9 hg9; rw [rgC_set] at hrg9; have J9 := Lib.hid (H8.out.setR hrg9 hg9); clear hrg9 hg9 H8 hrg8))
                exact ⟨⟨k + 1, p2 + t, _, by omega, by go_num, by go_num, hps2.trans HR.out.2.1, by rw [HR.out.1, Hstop.out]; simp only [List.reverse_cons, List.map_append, List.map_cons, List.map_nil]; exact J9.out⟩, by simp only [intOf]; omega⟩
            · refine wpList_buildD rfl (.tmp 105) rfl d rfl ?_
              simp only [Act.put, List.setIfInBounds_toArray, List.set_cons_zero, List.set_cons_succ]
              have ld0 := Blk.new V 43 (dat d)
              have J' := J.alloc (Obj.cells (dat d) 43)
              refine hK _ _ ⟨J'.rg, J'.dig⟩ ?_
              clear hK K
              obtain ⟨gd, hgd⟩ : ∃ gd, V.heap.size = gd := ⟨_, rfl⟩
              rw [hgd] at ld0 ⊢
              clear hgd
              refine mix_atC (fun V => Jn W V5.heap.size a e wa.heap.size d v2 _ v2 (st.reverse.map Prod.fst) (st.reverse.map Prod.snd) V ∧ Blk V gd 43 (dat d)) ⟨J', ld0⟩ ?_
              clear J' ld0
              rintro V1 ⟨J1, ld⟩
              refine mix_only_in rfl (fun K hK => ?_)
              go_wp2_with fail
              have lu := Blk.new V1 22 #[nU t]
              have J1' := J1.alloc (Obj.cells #[nU t] 22)
              refine hK _ _ ⟨J1'.rg, J1'.dig⟩ ?_
              clear hK K
              have ld1 := ld.alloc (Obj.cells #[nU t] 22)
              clear ld
              refine mix_atC (fun V => Jn W V5.heap.size a e wa.heap.size d v2 _ v2 (st.reverse.map Prod.fst) (st.reverse.map Prod.snd) V ∧ Blk V V1.heap.size 22 #[nU t] ∧ Blk V gd 43 (dat d)) ⟨J1', lu, ld1⟩ ?_
              clear J1' ld1 lu
              rintro V2 ⟨J2, lu2, ld2⟩
              refine mix_only_in rfl (fun K hK => ?_)
              refine wpList_appendUl rfl (.tmp 99) (.tmp 101) rfl W.heap.size _ (st.reverse.map Prod.fst) rfl J2.hu (some ⟨V1.heap.size, 0, none⟩) 1 [t] rfl (Reads.of_blk lu2 lu2.lt 0) (by simp; omega) J2.gr.size ?_
              intro u5 V5' hu5 hg5
              simp only [Act.put, List.setIfInBounds_toArray, List.set_cons_zero, List.set_cons_succ]
              have J5 := J2.appU hu5 hg5
              have ld5 := ld2.grown hg5 (fun e => own_not J2.hu ld2 (by decide) e.symm)
              refine hK _ _ ⟨J5.rg, J5.dig⟩ ?_
              clear hK K hu5 hg5 J2 lu2 ld2
              refine mix_only_in rfl (fun K hK => ?_)
              refine wpList_appendDig rfl (.tmp 104) (.tmp 106) rfl W.heap.size _ (st.reverse.map Prod.snd) rfl J5.hv gd d rfl ld5 (by simp; omega) J5.gr.size ?_
              intro v8 V8 hv8 hg8
              simp only [Act.put, List.setIfInBounds_toArray, List.set_cons_zero, List.set_cons_succ]
              have hsl8 := own_slice hv8
              have J8 := J5.appD hv8 hg8
              obtain ⟨A8, c8, rfl⟩ := hsl8
              refine hK _ _ ⟨J8.rg, J5.dig.grown hg8 (fun e => J5.ne _ e.symm rfl)⟩ ?_
              clear hK K hv8 hg8 J5 ld5
              iterate 2 (refine mix_plain rfl ?_; go_big_quiet_step ((intros; rfl)); refine wpQuiet_nil ?_)
              refine mix_done ?_
              simp only [List.drop_succ_cons, List.drop_zero]
              have hrg8 := J8.rg
              have H8 := Lib.hid J8
              clear J8
              go_wp2_with (first
                | (refine wpList_store1 rfl rfl _ (.tmp 108) (.tmp 107) rfl V5.heap.size 2 rfl _ rfl 31 _ hrg8 (by kernel_rfl) (show 2 < 3 by decide) rfl rfl ?_; intro w9 hrg9 hg9; rw [rgC_set] at hrg9; have J9 := Lib.hid (H8.out.setR hrg9 hg9); clear hrg9 hg9 H8 hrg8))
              exact ⟨⟨k + 1, p2 + t, _, by omega, by go_num, by go_num, hps2.trans HR.out.2.1, by rw [HR.out.1, Hstop.out]; simp only [List.reverse_cons, List.map_append, List.map_cons, List.map_nil]; exact J9.out⟩, by simp only [intOf]; omega⟩
          rw [hr] at hrem
          have hpush1 : pushF (nodeM (cutW x)) st1 q (2 * t) (nodeM (cutW x) c d) = pushF (nodeM (cutW x)) st0 p s0 d0 := by
            rw [← hpush, ← Hq.out.1]
            refine Eq.symm (if_pos ⟨rfl, ?_⟩)
            rw [Hq.out.1]; exact hr
          have Hpush := Lib.hid (And.intro hpush1 (And.intro Hq.out.2 hps2))
          obtain ⟨A7, c7, hv7, hc7, hc72, hdig7⟩ := DX.of_own HJ.out.hv
          subst hv7
          obtain ⟨g7, o7, rfl, hg7, hrange7⟩ := hdig7 st1.length (by rw [HF.out.2.2.1]; omega)
          rw [HF.out.2.2.2.1] at hrange7
          rw [HF.out.2.2.1] at hc7 HJ
          have hn7 : (st1.length : Int) < (c7 : Int) := by omega
          clear hpush hpush1 hr hdig7
          go_upto_region 14 with fail
          refine wp_region_mixT 9 (.plain 0 <| .plain 1 <| .plain 2 <| .plain 3 <| .plain 4 <| .plain 5 <| .plain 6 <| .plain 7 <| .only 8 <| .done) (by kernel_rfl) (by kernel_rfl) (fun X1 hb1 => ?_)
          have J1 := HJ.out.below hb1
          have hr1 := range_next hrange7 hg7 hb1
          clear HJ hb1 hrange7 hg7 hcell6
          iterate 8 (refine mix_plain rfl ?_; (first
            | (refine wpQuiet_load1 rfl _ (.tmp 79) rfl _ rfl _ Tryd.underlying29 rfl (.slice (some ⟨g7, o7, none⟩) (st1.length + 1) c7) (fun _ ⟨e, he⟩ => by rw [he]; exact (J1.rg.plus e).cell 2) ?_; simp only [Act.put, List.setIfInBounds_toArray, List.set_cons_zero, List.set_cons_succ])
            | (refine wpQuiet_loadMid rfl 43 (.tmp 83) rfl g7 (o7 + st1.length * 32) rfl (dat c) _ (fun _ ⟨e, he⟩ => by rw [he]; exact range_plus hr1 e) Tryd.underlying43 rfl (by rw [dat_size]; kernel_rfl) ?_; simp only [Act.put, List.setIfInBounds_toArray, List.set_cons_zero, List.set_cons_succ])
            | (refine wpQuiet_load rfl _ (.tmp 14) rfl wa.heap.size rfl _ (dat d) _ _ (fun _ ⟨e, he⟩ => by rw [he]; exact J1.dig.plus e) Tryd.underlying43 rfl (by rw [dat_size]; kernel_rfl) ?_; simp only [Act.put, List.setIfInBounds_toArray, List.set_cons_zero, List.set_cons_succ])
            | go_big_quiet_step (fail)); refine wpQuiet_nil ?_)
          clear hr1
          refine mix_only_in rfl (fun K hK => ?_)
          go_wp2_with fail
          have hbX : Below w.heap.size w X1 := below_only (HV.out.2.2.2.1.trans (H0.out.2.2.mono HV.out.2.2.2.1.size)) J1.gr (by have := HV.out.2.2.2.2; omega) (by have := HV.out.2.2.2.2; omega)
          refine (mnode_any x c d hcc hd X1 (hG.next hbX)).mono ?_
          rintro r X2 ⟨rfl, hb2⟩
          have J2 := J1.below hb2
          have H2 := Lib.hid (below_plus hb2)
          clear J1 hb2 hbX
          go_wp2_with fail
          refine hK _ _ H2.out ?_
          clear hK K H2
          refine mix_done ?_
          simp only [List.drop_succ_cons, List.drop_zero]
          have hdl := nodeM_length (cutW x) c d
          obtain ⟨dn, hdn⟩ : ∃ dn, nodeM (cutW x) c d = dn := ⟨_, rfl⟩
          rw [hdn] at Hpush hdl ⊢
          clear hdn
          have hdig2 := J2.dig
          have HJ2 := Lib.hid J2
          clear J2
          go_wp2_with (first
            | (refine wpList_storeDat rfl rfl 43 (.tmp 14) (.tmp 86) rfl wa.heap.size rfl dn _ rfl _ hdig2 (by kernel_rfl) ?_; intro X3 hD3 hon3))
          have HJ3 := Lib.hid (HJ2.out.setD hD3 hon3)
          clear HJ2 hD3 hon3 hdig2
          go_upto_region 15 with fail
          refine wp_region_mixT 11 (.plain 0 <| .plain 1 <| .plain 2 <| .plain 3 <| .plain 4 <| .plain 5 <| .plain 6 <| .plain 7 <| .plain 8 <| .plain 9 <| .plain 10 <| .done) (by kernel_rfl) (by kernel_rfl) (fun X4 hb4 => ?_)
          have J4 := HJ3.out.below hb4
          clear HJ3 hb4
          iterate 11 (refine mix_plain rfl ?_; (first
            | (refine wpQuiet_load1 rfl _ (.tmp 91) rfl _ rfl _ Tryd.underlying29 rfl (.slice (some ⟨g7, o7, none⟩) (st1.length + 1) c7) (fun _ ⟨e, he⟩ => by rw [he]; exact (J4.rg.plus e).cell 2) ?_; simp only [Act.put, List.setIfInBounds_toArray, List.set_cons_zero, List.set_cons_succ])
            | go_big_quiet_step (fail)); refine wpQuiet_nil ?_)
          refine mix_done ?_
          simp only [List.drop_succ_cons, List.drop_zero]
          have hrg4 := J4.rg
          have HJ4 := Lib.hid J4
          clear J4
          have hmul2 : IntKind.u64.wrap ((t : Int) * 2) = (t : Int) * 2 := IntWalk.u64_in _ (by omega)
          go_wp2_with (first
            | (refine wpList_store1 rfl rfl _ (.tmp 96) (.tmp 95) rfl V5.heap.size 2 rfl _ rfl 31 _ hrg4 (by kernel_rfl) (show 2 < 3 by decide) rfl rfl ?_; intro X5 hrg5 hg5; rw [rgC_set] at hrg5; have HJ5 := Lib.hid (HJ4.out.setR hrg5 hg5); clear hrg5 hg5 HJ4 hrg4))
          have hJf := HJ5.out.cut st1.length (by simp) (by simp)
          rw [HF.out.1, HF.out.2.1] at hJf
          refine ⟨⟨st1, 2 * t, q, dn, _, rfl, rfl, by go_num, Hpush.out.2.1, by omega, by have h1 := Hpush.out.2.2; have h2 := HF.out.2.2.2.2.2; have h3 := Hq.out.1; omega, Hpush.out.1, hdl, HF.out.2.2.2.2.1, by omega, hJf⟩, by simp [intOf]⟩
    · have hkn : k = L.length := by omega
      subst hkn
      have hlt' : ¬ ((L.length : Int) < (L.length : Int)) := by omega
      rw [List.take_length] at hjo
      have hsz := HV.out.2.2.2.2
      have hWsz := H0.out.2.1
      have h00 := (HV.out.2.2.1.below H0.out.2.2 (by omega)).grown hjo.gr (fun e => by injection e; omega)
      have hbw : Below w.heap.size w wr := below_only (HV.out.2.2.2.1.trans (H0.out.2.2.mono HV.out.2.2.2.1.size)) hjo.gr (by omega) (by omega)
      obtain ⟨A6, c6, rfl⟩ := own_slice hjo.hv
      have hrw := hjo.rg
      have Hjo := Lib.hid hjo
      clear hjo hp
      go_wp2_with (first
        | (refine wpList_load_row rfl _ (.tmp 9) rfl V5.heap.size rfl _ _ _ _ hrw Tryd.underlying31 rfl (by kernel_rfl) ?_)
        | (refine wpList_storeAll rfl rfl _ (.tmp 6) (.tmp 113) rfl (w.heap.size + 2) rfl (rgC a e _) rfl 31 _ h00 (by kernel_rfl) rfl (rgC_one _ _ _ _ _) ?_; intro w8 h08 hg8))
      have hown8 := own_grown Hjo.out.hv hg8 (fun g hg e => by have := own_ge Hjo.out.hv g hg; injection e; omega)
      have hbel8 := below_only hbw hg8 (by omega) hbw.size
      have hownf := own_base hown8 (show w.heap.size ≤ W.heap.size by omega)
      exact bodyPost_ret (results_cell_row (p := 6) (ty := 31) rfl _ _ (w.heap.size + 2) _ _ _ _ rfl h08 Tryd.underlying31 rfl (by kernel_rfl)) rfl ⟨_, rfl, by simpa using hownf, hbel8⟩
end Go.Proofs.YtkogehkmldbhgaaDoor
