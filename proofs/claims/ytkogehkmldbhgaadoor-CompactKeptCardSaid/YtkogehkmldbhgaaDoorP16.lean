/- Texts that stand behind one another: CmpH. No condition. -/
import Derived.Test.YtkogehkmldbhgaaDoorP14
import Derived.Test.YtkogehkmldbhgaaDoorP15
/- The walk of the reference's gather. No condition. -/
namespace Go.Proofs.YtkogehkmldbhgaaDoor
open Go Go.RowKit
attribute [local irreducible] mixW
attribute [local go_sem] n8_lo n8_hi n64_lo n64_hi n32_lo n32_hi
/-- a cut from the head of a row of digests -/
def cutDV (A : Option Addr) (cap lo n : Nat) : Value := .slice (if cap = lo then A else A.map (·.add (lo * 32))) (n - lo) (cap - lo)
theorem DX.drop {w : World} {A : Option Addr} {n cap : Nat} {ds : List (List UInt8)} (h : DX w (.slice A n cap) ds) (lo : Nat) (hlo : lo ≤ n) : DX w (cutDV A cap lo n) (ds.drop lo) := by
  obtain ⟨A', cap', e, h1, h2, h⟩ := h
  injection e with e1 e2 e3
  subst e1; subst e2; subst e3
  have hl : (ds.drop lo).length = ds.length - lo := List.length_drop
  refine ⟨_, cap - lo, by unfold cutDV; rw [hl], by omega, by omega, fun k hk => ?_⟩
  rw [hl] at hk
  obtain ⟨g, o, e2, hg, hr⟩ := h (lo + k) (by omega)
  refine ⟨g, o + lo * 32, ?_, hg, ?_⟩
  · rw [if_neg (by omega), e2]
    show some (Addr.add _ _) = _
    unfold Addr.add; split <;> simp_all
  · rw [List.getD_eq_getElem?_getD, List.getElem?_drop, ← List.getD_eq_getElem?_getD, show o + lo * 32 + k * 32 = o + (lo + k) * 32 by omega]
    exact hr
theorem NSl.drop {w : World} {B : Nat} {A : Option Addr} {n cap : Nat} {ns : List Nat} (h : NSl w B (.slice A n cap) ns) (lo : Nat) (hlo : lo ≤ n) : NSl w B (cutV A cap lo n) (ns.drop lo) := by
  obtain ⟨A', cap', e, h1, h2, hr⟩ := h
  injection e with e1 e2 e3
  subst e1; subst e2; subst e3
  have hl : (ns.drop lo).length = ns.length - lo := List.length_drop
  refine ⟨_, cap - lo, by unfold cutV; rw [hl], by omega, by omega, ?_⟩
  rw [List.map_drop]
  exact hr.cut (k := lo) (cap := cap) (by rw [List.length_map]; omega) (by rw [List.length_map]; omega)
section
variable {P : Program} {t e : TypeId} {A : Option Addr} {len cap : Nat}
theorem run_cutD (ht : P.underlying t = some (.slice e)) (hs : (P.info? e).map (·.size) = some 32) (lo : Nat) (h1 : lo ≤ len) (w : World) :
    (Instr.sliceAt t (.slice A len cap) (some (.int .i64 lo)) none none).run P w = .ok (cutDV A cap lo len) w := by
  obtain ⟨i, hi1, hi2⟩ : ∃ i, P.info? e = some i ∧ i.size = 32 := by
    cases hq : P.info? e with
    | none => rw [hq] at hs; cases hs
    | some i => rw [hq] at hs; exact ⟨i, rfl, by simpa using hs⟩
  have a1 : (lo : Int) ≤ (len : Int) := by omega
  simp [Instr.sliceAt, Instr.slice, run_underlying ht, Instr.sliceBounds, run_sliceBound, cutDV, hi1, hi2, sizeOf, typeInfo, a1]
theorem wpQuiet_cutD {ops : Array Oper} {C : World → Prop} {K : Act → Prop} {a : Act} {o : Oper} {rest : List Oper} (hw : Region.wanted o (yielded ops a.tmps) = true) (t : TypeId) (x l : Operand) (ho : o.op = .slice t x (some l) none none) (e : TypeId) (ht : P.underlying t = some (.slice e)) (hs : (P.info? e).map (·.size) = some 32)
    (A : Option Addr) (len cap lo : Nat) (hx : a.eval x = .slice A len cap) (hl : a.eval l = .int .i64 lo) (h1 : lo ≤ len)
    (hk : wpQuiet P ops C K rest (a.put o.dst (cutDV A cap lo len))) : wpQuiet P ops C K (o :: rest) a :=
  wpQuiet_wanted hw _ (fun w _ => by
    unfold Oper.quietAt execOp
    simp only [ho, Option.map_some, Option.map_none, hx, hl, Sem.run_bind, run_cutD ht hs lo h1, Result.andThen_ok, Sem.run_pure]
    exact ⟨rfl, rfl⟩) hk
end
theorem Gath.len {nd : List UInt8 → List UInt8 → List UInt8} (hnd : ∀ x y, (nd x y).length = 32) {k : Nat} {l : List (Nat × List UInt8)} {d : List UInt8} (h : Gath nd k l d) : (∀ q ∈ l, q.2.length = 32) → d.length = 32 := by
  cases h with
  | tile => intro h; exact h _ (List.mem_singleton.2 rfl)
  | node => intro _; exact hnd _ _
theorem Gath.pos {nd : List UInt8 → List UInt8 → List UInt8} {k : Nat} {l : List (Nat × List UInt8)} {d : List UInt8} (h : Gath nd k l d) : 1 ≤ l.length := by
  obtain ⟨j, d', l', e, _⟩ := h.head
  rw [e]; simp
theorem NSl.cell {w : World} {B : Nat} {A : Option Addr} {n cap : Nat} {ns : List Nat} (h : NSl w B (.slice A n cap) ns) (k : Nat) (hk : k < ns.length) : ∃ g o, A = some ⟨g, o, none⟩ ∧ g < B ∧ w.cell? ⟨g, o + k, none⟩ = some (nU (ns.getD k 0)) := by
  obtain ⟨A', cap', e, h1, h2, hr⟩ := h
  injection e with e1 e2 e3
  subst e1; subst e2; subst e3
  obtain ⟨g, o, e, hg, hc⟩ := hr (by rw [List.length_map]; omega)
  exact ⟨g, o, e, hg, hc k _ (by rw [List.getElem?_map, List.getD_eq_getElem?_getD, List.getElem?_eq_getElem hk]; rfl)⟩
set_option maxHeartbeats 1000000 in
set_option maxRecDepth 100000 in
theorem gather_any (hv : Value) (n0 : Nat) {k : Nat} {l : List (Nat × List UInt8)} {d : List UInt8} (hga : Gath (nodeM n0) k l d) : (∀ q ∈ l, q.2.length = 32) → k ≤ 32 → ∀ (r1 : List Nat) (r2 : List (List UInt8)), l.length + r1.length ≤ 1000000 → l.length + r2.length ≤ 1000000 →
    ∀ (A : Option Addr) (c : Nat) (A' : Option Addr) (c' : Nat) (w : World), NSl w w.heap.size (.slice A (l.length + r1.length) c) (l.map Prod.fst ++ r1) → DX w (.slice A' (l.length + r2.length) c') (l.map Prod.snd ++ r2) → Hsr w w.heap.size hv n0 →
    Calls Tryd.prog 58 #[hv, .int .u64 ((2 ^ k : Nat) : Int), .slice A (l.length + r1.length) c, .slice A' (l.length + r2.length) c'] w fun r w' => r = .returned (.tuple #[.agg (dat d), .int .i64 (l.length : Int)]) ∧ Below w.heap.size w w' := by
  induction hga with
  | tile k d =>
    intro hl hk r1 r2 hr1 hr2 A c A' c' w hN hX hh
    obtain ⟨g, o, rfl, hg, hcell⟩ := hN.cell 0 (by simp)
    obtain ⟨A2, c2, e2, hc2, _, hd2⟩ := hX
    injection e2 with e2 e3 e4
    subst e2; subst e4
    obtain ⟨g2, o2, rfl, hg2, hrange⟩ := hd2 0 (by simp)
    obtain ⟨N, hN2⟩ : ∃ N, 2 ^ k = N := ⟨_, rfl⟩
    rw [hN2] at hcell ⊢
    have hcell' : w.cell? ⟨g, o, none⟩ = some (.int .u64 (N : Int)) := hcell
    have hrange' : w.rangeAt g2 (o2 + 0 * 32) (dat d).toList := hrange
    rw [Nat.zero_mul, Nat.add_zero] at hrange'
    have hD := Blk.new w 43 (arr 32 fun _ => 0)
    have hb1 := below_new1 w (Obj.cells (arr 32 fun _ => 0) 43)
    have hcellw := fun o' => (World.cell?_of_block (a := ⟨g, o, none⟩) (Below.heap_alloc w o' g hg)).trans hcell'
    have hrangew := range_next hrange' hg2 hb1
    have hsz1 : (1 : Int) + (r1.length : Int) > 0 := by omega
    have hsz2 : (1 : Int) + (r2.length : Int) > 0 := by omega
    clear hcell hcell' hrange hrange' hd2 hN hl hN2
    simp only [List.length_cons, List.length_nil, Nat.zero_add]
    go_enter Tryd.func58, Tryd.ntmps58
    go_wp2_with (first
      | (refine wpList_loadMid rfl 43 (.tmp 20) rfl g2 o2 rfl (dat d) _ hrangew Tryd.underlying43 rfl (by rw [dat_size]; kernel_rfl) ?_)
      | (refine wpList_storeDat rfl rfl 43 (.tmp 8) (.tmp 21) rfl w.heap.size rfl d _ rfl _ hD (by kernel_rfl) ?_; intro w2 hD2 hon2))
    have hb2 := below_only hb1 hon2 (Nat.le_refl _) hb1.size
    exact bodyPost_ret (results_cell_two (p := 8) (q := 9) (ty := 43) rfl _ _ w.heap.size _ _ _ _ rfl hD2 Tryd.underlying43 rfl (by rw [dat_size]; kernel_rfl)) rfl ⟨rfl, hb2⟩
  | @node k l m a b h1 h2 i1 i2 =>
    intro hl hk r1 r2 hr1 hr2 A c A' c' w hN hX hh
    have hll : (l ++ m).length = l.length + m.length := List.length_append
    have hall : ∀ q ∈ l, q.2.length = 32 := fun q hq => hl q (List.mem_append_left _ hq)
    have halm : ∀ q ∈ m, q.2.length = 32 := fun q hq => hl q (List.mem_append_right _ hq)
    have hal := Gath.len (fun _ _ => nodeM_length _ _ _) h1 hall
    have hbl := Gath.len (fun _ _ => nodeM_length _ _ _) h2 halm
    have hp1 := h1.pos
    obtain ⟨j, d0, l0, hl0, hj⟩ := h1.head
    obtain ⟨g, o, hA, hg, hcell⟩ := hN.cell 0 (by rw [List.length_append, List.length_map, hll]; omega)
    have hc0 : (((l ++ m).map Prod.fst ++ r1).getD 0 0) = 2 ^ j := by rw [hl0]; rfl
    rw [hc0] at hcell
    have hJK : 2 ^ j ≤ 2 ^ k := Nat.pow_le_pow_right (by decide) hj
    have hK0 := p2_pos k
    have hKN := p2_succ k
    have hK32 : 2 ^ k ≤ 2 ^ 32 := Nat.pow_le_pow_right (by decide) (by omega)
    obtain ⟨n1, hn1⟩ : ∃ n1, (l ++ m).length + r1.length = n1 := ⟨_, rfl⟩
    obtain ⟨n2, hn2⟩ : ∃ n2, (l ++ m).length + r2.length = n2 := ⟨_, rfl⟩
    have i1' := i1 hall (by omega) (m.map Prod.fst ++ r1) (m.map Prod.snd ++ r2) (by rw [List.length_append, List.length_map]; omega) (by rw [List.length_append, List.length_map]; omega)
    have i2' := i2 halm (by omega) r1 r2 (by omega) (by omega)
    rw [show l.length + (m.map Prod.fst ++ r1).length = n1 by rw [List.length_append, List.length_map]; omega, show l.length + (m.map Prod.snd ++ r2).length = n2 by rw [List.length_append, List.length_map]; omega, ← List.append_assoc, ← List.map_append, ← List.append_assoc, ← List.map_append] at i1'
    rw [hn1] at hN ⊢
    rw [hn2] at hX ⊢
    have hNd := hN.drop l.length (by omega)
    have hXd := hX.drop l.length (by omega)
    rw [List.map_append, List.append_assoc, show l.length = (l.map Prod.fst).length from (List.length_map _).symm, List.drop_left, List.length_map] at hNd
    rw [List.map_append, List.append_assoc, show l.length = (l.map Prod.snd).length from (List.length_map _).symm, List.drop_left, List.length_map] at hXd
    obtain ⟨B1, d1, hB1⟩ : ∃ B1 d1, cutV A c l.length n1 = .slice B1 (m.length + r1.length) d1 := ⟨_, _, by unfold cutV; rw [show n1 - l.length = m.length + r1.length by omega]⟩
    obtain ⟨B2, d2, hB2⟩ : ∃ B2 d2, cutDV A' c' l.length n2 = .slice B2 (m.length + r2.length) d2 := ⟨_, _, by unfold cutDV; rw [show n2 - l.length = m.length + r2.length by omega]⟩
    rw [hB1] at hNd
    rw [hB2] at hXd
    subst hA
    have HB1 := Lib.hid hB1
    have HB2 := Lib.hid hB2
    clear hB1 hB2
    obtain ⟨N, hNe⟩ : ∃ N, 2 ^ (k + 1) = N := ⟨_, rfl⟩
    obtain ⟨K1, hKe⟩ : ∃ K1, 2 ^ k = K1 := ⟨_, rfl⟩
    obtain ⟨J, hJe⟩ : ∃ J, 2 ^ j = J := ⟨_, rfl⟩
    rw [hNe] at hKN ⊢
    rw [hKe] at hKN hJK hK0 hK32 i1' i2'
    rw [hJe] at hJK hcell
    have hquo : (N : Int).tdiv 2 = (K1 : Int) := by rw [Int.tdiv_eq_ediv_of_nonneg (by omega)]; omega
    have hJN : ¬ ((J : Int) = (N : Int)) := by omega
    have hn1p : (0 : Int) < (n1 : Int) := by omega
    have hcell' : w.cell? ⟨g, o, none⟩ = some (.int .u64 (J : Int)) := hcell
    have hcellw := fun o' => (World.cell?_of_block (a := ⟨g, o, none⟩) (Below.heap_alloc w o' g hg)).trans hcell'
    have hD := Blk.new w 43 (arr 32 fun _ => 0)
    have hb1 := below_new1 w (Obj.cells (arr 32 fun _ => 0) 43)
    have hcl : l.length ≤ c := by obtain ⟨_, _, e, h1, _⟩ := hN; injection e with _ e2 e3; rw [← e2] at h1; omega
    have HN1 := Lib.hid (show l.length + m.length + r1.length = n1 by omega)
    have HN2 := Lib.hid (show l.length + m.length + r2.length = n2 by omega)
    have HI1 := Lib.hid i1'
    have HI2 := Lib.hid i2'
    clear i1 i2 i1' i2' hcell hcell' hNe hKe hJe hJK hKN hl hl0 hc0 hall halm hn1 hn2 h1 h2
    go_enter Tryd.func58, Tryd.ntmps58
    go_wp2_with fail
    refine calls_at (fun W => Blk W w.heap.size 43 (arr 32 fun _ => 0) ∧ Below w.heap.size w W) ⟨hD, hb1⟩ ?_
    clear hD hb1 hcellw
    rintro W ⟨hD, hbel⟩
    refine (HI1.out _ _ _ _ W (hN.next hbel) (hX.next hbel) (hh.nxt hbel)).mono ?_
    rintro r W2 ⟨rfl, hb2⟩
    replace hD := hD.below hb2 hD.lt
    replace hbel := hbel.trans (hb2.mono hbel.size)
    have hD2 := Blk.new W2 43 (arr 32 fun _ => 0)
    clear hb2
    go_wp2_with (first
      | (refine wpList_storeDat rfl rfl 43 (.tmp 10) (.tmp 29) rfl W2.heap.size rfl a _ rfl _ hD2 (by kernel_rfl) ?_; intro W3 hA3 hon3))
    have hb23 : Below W2.heap.size W2 W3 := below_only (below_new1 W2 _) hon3 (Nat.le_refl _) (by simp)
    replace hD := hD.below hb23 hD.lt
    replace hbel := hbel.trans (hb23.mono hbel.size)
    clear hb23 hon3 hD2
    refine wp_region_mixP (.plain 0 <| .plain 1 <| .plain 2 <| .plain 3 <| .plain 4 <| .plain 5 <| .plain 6 <| .plain 7 <| .plain 8 <| .two 9 13 (.plain 10 <| .plain 11 <| .plain 12 <| .only 13 <| .only 14 <| .plain 15 <| .done) <| (.only 9 <| .plain 10 <| .plain 11 <| .plain 12 <| .only 14 <| .plain 15 <| .done)) (by kernel_rfl) (by kernel_rfl) (fun W4 hb4 => ?_)
    have hA4 := hA3.below hb4 hA3.lt
    have hD4 := hD.below hb4 hD.lt
    have hbel4 := hbel.trans (hb4.mono hbel.size)
    replace hNd := hNd.next hbel4
    replace hXd := hXd.next hbel4
    clear hA3 hD hbel hb4
    iterate 9 (refine mix_plain rfl ?_; (first
      | (refine wpQuiet_cutL rfl _ (.tmp 35) (.tmp 36) rfl 22 Tryd.underlying23 (by kernel_rfl) _ n1 c l.length rfl rfl (by have := HN1.out; omega) ?_; simp only [Act.put, List.setIfInBounds_toArray, List.set_cons_zero, List.set_cons_succ])
      | (refine wpQuiet_cutD rfl _ (.tmp 38) (.tmp 39) rfl 43 Tryd.underlying29 (by kernel_rfl) _ n2 c' l.length rfl rfl (by have := HN2.out; omega) ?_; simp only [Act.put, List.setIfInBounds_toArray, List.set_cons_zero, List.set_cons_succ])
      | go_big_quiet_step (fail)); refine wpQuiet_nil ?_)
    rw [HB1.out, HB2.out]
    have i2' := HI2.out
    clear HI1 HI2
    refine mix_two_in rfl rfl (fun K hK => ?_) (fun K hK => ?_)
    · go_wp2_with fail
      refine (i2' _ _ _ _ W4 hNd hXd (hh.nxt hbel4)).mono ?_
      rintro r W5 ⟨rfl, hb5⟩
      go_wp2_with fail
      refine hK _ _ (below_plus hb5) ?_
      clear hK K
      iterate 3 (refine mix_plain rfl ?_; go_big_quiet_step (fail); refine wpQuiet_nil ?_)
      have hDX := Blk.new W5 43 (arr 32 fun _ => 0)
      have hb5' := hb5.trans ((below_new1 W5 (Obj.cells (arr 32 fun _ => 0) 43)).mono hb5.size)
      refine mix_only_in rfl (fun K hK => ?_)
      go_wp2_with fail
      refine hK _ _ (below_plus hb5') ?_
      clear hK K
      refine mix_only_in rfl (fun K hK => ?_)
      refine wpList_storeDat rfl rfl 43 (.tmp 12) (.tmp 42) rfl W5.heap.size rfl b _ rfl _ hDX (by kernel_rfl) ?_
      intro X6 hBX honX
      have hbX := below_only hb5' honX hb5.size hb5'.size
      refine hK _ _ (below_plus hbX) ?_
      clear hK K hb5 hb5' honX hDX
      iterate 1 (refine mix_plain rfl ?_; go_big_quiet_step (fail); refine wpQuiet_nil ?_)
      refine mix_done ?_
      have hA6 := hA4.below hbX hA4.lt
      have hD6 := hD4.below hbX hD4.lt
      have hbel6 := hbel4.trans (hbX.mono hbel4.size)
      clear hbX
      go_wp2_with (first
        | (refine wpList_load_row rfl _ (.tmp 10) rfl W2.heap.size rfl _ _ _ _ hA6 Tryd.underlying43 rfl (by rw [dat_size]; kernel_rfl) ?_)
        | (refine wpList_load_row rfl _ (.tmp 12) rfl W5.heap.size rfl _ _ _ _ hBX Tryd.underlying43 rfl (by rw [dat_size]; kernel_rfl) ?_))
      refine (r8node_any hv n0 a b hal hbl _ (hh.nxt hbel6)).mono ?_
      rintro r X7 ⟨rfl, hb7⟩
      have hD7 := hD6.below hb7 hD6.lt
      have hbel7 := hbel6.trans (hb7.mono hbel6.size)
      obtain ⟨dn, hdn⟩ : ∃ dn, nodeM n0 a b = dn := ⟨_, rfl⟩
      have Hdn := Lib.hid hdn
      rw [hdn]
      clear hb7 hdn
      go_wp2_with (first
        | (refine wpList_storeDat rfl rfl 43 (.tmp 8) (.tmp 47) rfl w.heap.size rfl dn _ rfl _ hD7 (by kernel_rfl) ?_; intro X8 hD8 hon8))
      have hb8 := below_only hbel7 hon8 (Nat.le_refl _) hbel7.size
      exact bodyPost_ret (results_cell_two (p := 8) (q := 9) (ty := 43) rfl _ _ w.heap.size _ _ _ _ rfl hD8 Tryd.underlying43 rfl (by rw [dat_size]; kernel_rfl)) rfl ⟨by rw [Hdn.out, hll]; rfl, hb8⟩
    · have hDX := Blk.new W4 43 (arr 32 fun _ => 0)
      have hb4' := below_new1 W4 (Obj.cells (arr 32 fun _ => 0) 43)
      go_wp2_with fail
      refine hK _ _ (below_plus hb4') ?_
      clear hK K
      refine mix_atC (fun V => Blk V W4.heap.size 43 (arr 32 fun _ => 0) ∧ Below W4.heap.size W4 V) ⟨hDX, hb4'⟩ ?_
      clear hDX hb4'
      rintro V ⟨hDX, hb4'⟩
      refine mix_only_in rfl (fun K hK => ?_)
      go_wp2_with fail
      refine (i2' _ _ _ _ V (hNd.next hb4') (hXd.next hb4') (hh.nxt (hbel4.trans (hb4'.mono hbel4.size)))).mono ?_
      rintro r W5 ⟨rfl, hb5⟩
      have hDX5 := hDX.below hb5 hDX.lt
      have hb5' := hb4'.trans (hb5.mono hb4'.size)
      go_wp2_with fail
      refine hK _ _ (below_plus hb5') ?_
      clear hK K
      iterate 3 (refine mix_plain rfl ?_; go_big_quiet_step (fail); refine wpQuiet_nil ?_)
      refine mix_only_in rfl (fun K hK => ?_)
      refine wpList_storeDat rfl rfl 43 (.tmp 12) (.tmp 42) rfl W4.heap.size rfl b _ rfl _ hDX5 (by kernel_rfl) ?_
      intro X6 hBX honX
      have hbX := below_only hb5' honX (Nat.le_refl _) hb5'.size
      refine hK _ _ (below_plus hbX) ?_
      clear hK K hb5 hb5' honX hDX hDX5 hb4'
      iterate 1 (refine mix_plain rfl ?_; go_big_quiet_step (fail); refine wpQuiet_nil ?_)
      refine mix_done ?_
      have hA6 := hA4.below hbX hA4.lt
      have hD6 := hD4.below hbX hD4.lt
      have hbel6 := hbel4.trans (hbX.mono hbel4.size)
      clear hbX
      go_wp2_with (first
        | (refine wpList_load_row rfl _ (.tmp 10) rfl W2.heap.size rfl _ _ _ _ hA6 Tryd.underlying43 rfl (by rw [dat_size]; kernel_rfl) ?_)
        | (refine wpList_load_row rfl _ (.tmp 12) rfl W4.heap.size rfl _ _ _ _ hBX Tryd.underlying43 rfl (by rw [dat_size]; kernel_rfl) ?_))
      refine (r8node_any hv n0 a b hal hbl _ (hh.nxt hbel6)).mono ?_
      rintro r X7 ⟨rfl, hb7⟩
      have hD7 := hD6.below hb7 hD6.lt
      have hbel7 := hbel6.trans (hb7.mono hbel6.size)
      obtain ⟨dn, hdn⟩ : ∃ dn, nodeM n0 a b = dn := ⟨_, rfl⟩
      have Hdn := Lib.hid hdn
      rw [hdn]
      clear hb7 hdn
      go_wp2_with (first
        | (refine wpList_storeDat rfl rfl 43 (.tmp 8) (.tmp 47) rfl w.heap.size rfl dn _ rfl _ hD7 (by kernel_rfl) ?_; intro X8 hD8 hon8))
      have hb8 := below_only hbel7 hon8 (Nat.le_refl _) hbel7.size
      exact bodyPost_ret (results_cell_two (p := 8) (q := 9) (ty := 43) rfl _ _ w.heap.size _ _ _ _ rfl hD8 Tryd.underlying43 rfl (by rw [dat_size]; kernel_rfl)) rfl ⟨by rw [Hdn.out, hll]; rfl, hb8⟩
end Go.Proofs.YtkogehkmldbhgaaDoor
