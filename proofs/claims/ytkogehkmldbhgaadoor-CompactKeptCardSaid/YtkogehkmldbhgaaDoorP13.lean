/- Texts that stand behind one another: StrEq, Same8, DX, CmpD, Tbl. No condition. -/
import Derived.Test.YtkogehkmldbhgaaDoorP12
import Derived.Laws.StructEq
import Derived.Test.YtkogehkmldbhgaaDoorP9
import Derived.Test.YtkogehkmldbhgaaDoorP4
import Derived.Test.YtkogehkmldbhgaaDoorP10
/- '==' on strings of bytes. No condition. -/
namespace Go.Proofs.YtkogehkmldbhgaaDoor
open Go Go.RowKit
theorem bytes_beq (a b : List UInt8) : ((⟨a.toArray⟩ : ByteArray).toList == (⟨b.toArray⟩ : ByteArray).toList) = decide (a = b) := by
  rw [ByteArray.toList_eq, ByteArray.toList_eq]
  show (a.toArray.toList == b.toArray.toList) = decide (a = b)
  simp only [List.toList_toArray]
  by_cases h : a = b
  · subst h; simp
  · rw [decide_eq_false h, beq_eq_false_iff_ne]; exact h
theorem run_strEq (w : World) (a b : List UInt8) : (binOp .eql 9 (strV a) (strV b)).run Tryd.prog w = .ok (.bool (decide (a = b))) w := by
  unfold strV
  rw [binOp_string_eql, bytes_beq]
  simp
section
variable {ops : Array Oper} {C : World → Prop} {Q : Act → Prop} {a : Act} {o : Oper} {rest : List Oper}
theorem wpQuiet_eqStr (hw : Region.wanted o (yielded ops a.tmps) = true) (x y : Operand) (yt : TypeId) (ho : o.op = .binOp .eql 9 x y yt) (X Y : List UInt8) (hx : a.eval x = strV X) (hy : a.eval y = strV Y)
    (b : Bool) (hb : decide (X = Y) = b) (hk : wpQuiet Tryd.prog ops C Q rest (a.put o.dst (.bool b))) : wpQuiet Tryd.prog ops C Q (o :: rest) a :=
  wpQuiet_wanted hw (.bool b) (fun w _ => by
    have hg : (eqGuard .eql 9 x y (strV X) (strV Y)).run Tryd.prog w = .ok () w := by unfold strV; simp [eqGuard]
    unfold Oper.quietAt execOp
    simp only [ho, hx, hy, Sem.run_bind, Sem.run_pure, Result.andThen_ok, hg, run_strEq, hb]
    exact ⟨rfl, rfl⟩) hk
theorem run_strNe (w : World) (a b : List UInt8) : (binOp .neq 9 (strV a) (strV b)).run Tryd.prog w = .ok (.bool (!decide (a = b))) w := by
  have h : binOp .neq 9 (strV a) (strV b) = pure (.bool (!((⟨a.toArray⟩ : ByteArray).toList == (⟨b.toArray⟩ : ByteArray).toList))) := by unfold strV; simp [binOp, Op.stringOp, bne]
  rw [h, bytes_beq]
  simp
theorem wpQuiet_neStr (hw : Region.wanted o (yielded ops a.tmps) = true) (x y : Operand) (yt : TypeId) (ho : o.op = .binOp .neq 9 x y yt) (X Y : List UInt8) (hx : a.eval x = strV X) (hy : a.eval y = strV Y)
    (b : Bool) (hb : decide (X = Y) = b) (hk : wpQuiet Tryd.prog ops C Q rest (a.put o.dst (.bool (!b)))) : wpQuiet Tryd.prog ops C Q (o :: rest) a :=
  wpQuiet_wanted hw (.bool (!b)) (fun w _ => by
    have hg : (eqGuard .neq 9 x y (strV X) (strV Y)).run Tryd.prog w = .ok () w := by unfold strV; simp [eqGuard]
    unfold Oper.quietAt execOp
    simp only [ho, hx, hy, Sem.run_bind, Sem.run_pure, Result.andThen_ok, hg, run_strNe, hb]
    exact ⟨rfl, rfl⟩) hk
end
end Go.Proofs.YtkogehkmldbhgaaDoor

/- The walks of deponentbook's Same at digests and of deponentkeep's Sames, on lists that are alike. No condition. -/
namespace Go.Proofs.YtkogehkmldbhgaaDoor
open Go Go.RowKit
attribute [local irreducible] mixW
attribute [local go_sem] n8_lo n8_hi n64_lo n64_hi n32_lo n32_hi
/-- v is a slice of digests that reads ds -/
def DSl (w : World) (v : Value) (ds : List (List UInt8)) : Prop := ∃ A cap, v = .slice A ds.length cap ∧ ∀ k, k < ds.length → ∃ g, A = some ⟨g, 0, none⟩ ∧ g < w.heap.size ∧ w.rangeAt g (k * 32) (dat (ds.getD k [])).toList
theorem range_next {w w' : World} {g off : Nat} {cs : List Value} (h : w.rangeAt g off cs) (hg : g < w.heap.size) (hb : Below w.heap.size w w') : w'.rangeAt g off cs := fun j v hj => by
  have h1 := h j v hj
  rw [hb.cell (p := ⟨g, off + j, none⟩) hg]; exact h1
theorem DSl.next {w w' : World} {v : Value} {ds : List (List UInt8)} (h : DSl w v ds) (hb : Below w.heap.size w w') : DSl w' v ds := by
  obtain ⟨A, cap, e, h⟩ := h
  refine ⟨A, cap, e, fun k hk => ?_⟩
  obtain ⟨g, e2, hg, hr⟩ := h k hk
  exact ⟨g, e2, Nat.lt_of_lt_of_le hg hb.size, range_next hr hg hb⟩
theorem DSl.of_own {w : World} {base : Nat} {v : Value} {ds : List (List UInt8)} (h : w.ownsRow base 43 32 v ds.length (dcells ds)) : DSl w v ds := by
  have hlt := own_lt h
  rcases h.2 with ⟨e, h0⟩ | ⟨b, cap, cur, e, _, hb, hc1, _, hsz, hcur⟩
  · exact ⟨none, 0, by rw [e, h0], fun k hk => by omega⟩
  · refine ⟨_, cap, e, fun k hk => ⟨b, rfl, hlt b (by rw [e]; rfl), fun j v hj => ?_⟩⟩
    have hj32 : j < 32 := by
      have := (List.getElem?_eq_some_iff.1 hj).1
      rw [Array.length_toList, dat_size] at this; exact this
    rw [cell_of_row w b (k * 32 + j) cur _ (0, 0) hb]
    have h1 := dcells_at ds k hk j hj32
    rw [← hcur, List.getElem?_take, if_pos (by omega)] at h1
    rw [← hj]
    simpa using h1
set_option maxHeartbeats 400000 in
set_option maxRecDepth 100000 in
theorem same8_any (u v : Value) (ds : List (List UInt8)) (hall : ∀ d ∈ ds, d.length = 32) (hn : ds.length ≤ 1000000000) (w : World) (hu : DSl w u ds) (hv : DSl w v ds) :
    Calls Tryd.prog 40 #[u, v] w fun e w' => e = .returned (.bool true) ∧ Below w.heap.size w w' := by
  have Hall := Lib.hid hall
  clear hall
  obtain ⟨A1, c1, rfl, h1⟩ := hu
  obtain ⟨A2, c2, rfl, h2⟩ := hv
  have H1 : Hid (DSl w (.slice A1 ds.length c1) ds) := Lib.hid ⟨A1, c1, rfl, h1⟩
  have H2 : Hid (DSl w (.slice A2 ds.length c2) ds) := Lib.hid ⟨A2, c2, rfl, h2⟩
  clear h1 h2
  have hne : ((ds.length : Int) != (ds.length : Int)) = false := by simp
  go_enter Tryd.func40, Tryd.ntmps40
  go_wp2_with fail
  go_loopw [5] (fun iv wr => ∃ k : Nat, k ≤ ds.length ∧ iv = .int .i64 k ∧ Below w.heap.size w wr) (fun iv _ => ds.length - (intOf iv).toNat)
  case atStart => exact ⟨0, by omega, rfl, Below.refl _ _⟩
  case round =>
    obtain ⟨k, hk, rfl, hbel⟩ := hrel
    by_cases hlt : k < ds.length
    case neg =>
      have hlt' : ¬ ((k : Int) < (ds.length : Int)) := by omega
      go_wp2_with fail
      go_ret
      exact ⟨rfl, hbel⟩
    have hlt' : (k : Int) < (ds.length : Int) := by omega
    obtain ⟨A1', c1', e1, hh1⟩ := H1.out.next hbel
    injection e1 with e1 _ e1c
    subst e1c
    obtain ⟨g1, e3, hg1, hr1⟩ := hh1 k hlt
    rw [e3] at e1
    subst e1
    obtain ⟨A2', c2', e2, hh2⟩ := H2.out.next hbel
    injection e2 with e2 _ e2c
    subst e2c
    obtain ⟨g2, e4, hg2, hr2⟩ := hh2 k hlt
    rw [e4] at e2
    subst e2
    clear hh1 hh2 e3 e4
    have hdl : (ds.getD k []).length = 32 := Hall.out _ (by rw [List.getD_eq_getElem?_getD, List.getElem?_eq_getElem hlt]; exact List.getElem_mem _)
    generalize ds.getD k [] = d at hr1 hr2 hdl
    have Hdl := Lib.hid hdl
    clear hdl
    go_wp2_with fail
    refine wp_region_mixP (.plain 0 <| .plain 1 <| .plain 2 <| .plain 3 <| .plain 4 <| .plain 5 <| .plain 6 <| .plain 7 <| .plain 8 <| .done) (by kernel_rfl) (by kernel_rfl) (fun W1 hb1 => ?_)
    replace hr1 := range_next hr1 hg1 hb1
    replace hr2 := range_next hr2 hg2 hb1
    replace hbel := hbel.trans (hb1.mono hbel.size)
    clear hb1
    iterate 9 (refine mix_plain rfl ?_; (first
      | (refine wpQuiet_loadMid rfl 43 (.tmp 19) rfl g1 (k * 32) rfl (dat d) _ (fun _ ⟨e, he⟩ => by rw [he]; exact range_plus hr1 e) Tryd.underlying43 rfl (by rw [dat_size]; kernel_rfl) ?_; simp only [Act.put, List.setIfInBounds_toArray, List.set_cons_zero, List.set_cons_succ])
      | (refine wpQuiet_loadMid rfl 43 (.tmp 23) rfl g2 (k * 32) rfl (dat d) _ (fun _ ⟨e, he⟩ => by rw [he]; exact range_plus hr2 e) Tryd.underlying43 rfl (by rw [dat_size]; kernel_rfl) ?_; simp only [Act.put, List.setIfInBounds_toArray, List.set_cons_zero, List.set_cons_succ])
      | (refine wpQuiet_neD rfl (.tmp 20) (.tmp 24) _ rfl d d rfl rfl Hdl.out Hdl.out true (decide_eq_true rfl) ?_; simp only [Act.put, List.setIfInBounds_toArray, List.set_cons_zero, List.set_cons_succ])
      | go_big_quiet_step (fail)); refine wpQuiet_nil ?_)
    refine mix_done ?_
    clear hr1 hr2
    go_wp2_with fail
    go_roundw
    case rel => exact ⟨k + 1, by omega, by go_num, hbel⟩
    case measure => simp [intOf]; omega
end Go.Proofs.YtkogehkmldbhgaaDoor

/- Slices of digests, wherever they begin. No condition. -/
namespace Go.Proofs.YtkogehkmldbhgaaDoor
open Go Go.RowKit
/-- v is a slice of digests that reads ds -/
def DX (w : World) (v : Value) (ds : List (List UInt8)) : Prop := ∃ A cap, v = .slice A ds.length cap ∧ ds.length ≤ cap ∧ cap ≤ 9223372036854775807 ∧ ∀ k, k < ds.length → ∃ g o, A = some ⟨g, o, none⟩ ∧ g < w.heap.size ∧ w.rangeAt g (o + k * 32) (dat (ds.getD k [])).toList
theorem DX.next {w w' : World} {v : Value} {ds : List (List UInt8)} (h : DX w v ds) (hb : Below w.heap.size w w') : DX w' v ds := by
  obtain ⟨A, cap, e, h1, h2, h⟩ := h
  refine ⟨A, cap, e, h1, h2, fun k hk => ?_⟩
  obtain ⟨g, o, e2, hg, hr⟩ := h k hk
  exact ⟨g, o, e2, Nat.lt_of_lt_of_le hg hb.size, range_next hr hg hb⟩
theorem DX.of_own {w : World} {base : Nat} {v : Value} {ds : List (List UInt8)} (h : w.ownsRow base 43 32 v ds.length (dcells ds)) : DX w v ds := by
  obtain ⟨A, cap, e, h1⟩ := DSl.of_own h
  have hc : ds.length ≤ cap ∧ cap ≤ 9223372036854775807 := by
    rcases h.2 with ⟨e2, h0⟩ | ⟨b, cap2, cur, e2, _, _, hc1, hc2, _⟩
    · rw [e] at e2; injection e2 with _ _ e3; subst e3; omega
    · rw [e] at e2; injection e2 with _ _ e3; subst e3; exact ⟨hc1, hc2⟩
  refine ⟨A, cap, e, hc.1, hc.2, fun k hk => ?_⟩
  obtain ⟨g, e2, hg, hr⟩ := h1 k hk
  exact ⟨g, 0, e2, hg, by rw [Nat.zero_add]; exact hr⟩
theorem DX.nil_ (w : World) : DX w (.slice none 0 0) [] := ⟨none, 0, rfl, Nat.le_refl _, by decide, fun k hk => by simp at hk⟩
theorem DX.take {w : World} {A : Option Addr} {n cap : Nat} {ds : List (List UInt8)} (h : DX w (.slice A n cap) ds) (m : Nat) (hm : m ≤ n) : DX w (.slice A m cap) (ds.take m) := by
  obtain ⟨A', cap', e, h1, h2, h⟩ := h
  injection e with e1 e2 e3
  subst e1; subst e2; subst e3
  have hl : (ds.take m).length = m := by rw [List.length_take]; omega
  refine ⟨A, cap, by rw [hl], by omega, h2, fun k hk => ?_⟩
  obtain ⟨g, o, e2, hg, hr⟩ := h k (by omega)
  refine ⟨g, o, e2, hg, ?_⟩
  rw [List.getD_eq_getElem?_getD, List.getElem?_take_of_lt (by omega), ← List.getD_eq_getElem?_getD]
  exact hr
end Go.Proofs.YtkogehkmldbhgaaDoor

/- The walk of compact.Of. Condition: the tables. -/
namespace Go.Proofs.YtkogehkmldbhgaaDoor
open Go Go.RowKit
attribute [local irreducible] mixW
attribute [local go_sem] n8_lo n8_hi n64_lo n64_hi n32_lo n32_hi
section
variable {P : Program} {t e : TypeId} {A : Option Addr} {len cap : Nat}
theorem run_cut_k (kl kh : IntKind) (ht : P.underlying t = some (.slice e)) (hs : (P.info? e).map (·.size) = some 1) (lo hi : Nat) (h1 : lo ≤ hi) (h2 : hi ≤ cap) (w : World) :
    (Instr.sliceAt t (.slice A len cap) (some (.int kl lo)) (some (.int kh hi)) none).run P w = .ok (cutV A cap lo hi) w := by
  obtain ⟨i, hi1, hi2⟩ : ∃ i, P.info? e = some i ∧ i.size = 1 := by
    cases hq : P.info? e with
    | none => rw [hq] at hs; cases hs
    | some i => rw [hq] at hs; exact ⟨i, rfl, by simpa using hs⟩
  have a1 : (lo : Int) ≤ (hi : Int) := by omega
  have a2 : (hi : Int) ≤ (cap : Int) := by omega
  simp [Instr.sliceAt, Instr.slice, run_underlying ht, Instr.sliceBounds, run_sliceBound, cutV, hi1, hi2, sizeOf, typeInfo, a1, a2]
theorem wpQuiet_cutK {ops : Array Oper} {C : World → Prop} {K : Act → Prop} {a : Act} {o : Oper} {rest : List Oper} (hw : Region.wanted o (yielded ops a.tmps) = true) (t : TypeId) (x l h : Operand) (ho : o.op = .slice t x (some l) (some h) none) (e : TypeId) (ht : P.underlying t = some (.slice e)) (hs : (P.info? e).map (·.size) = some 1)
    (A : Option Addr) (len cap : Nat) (kl kh : IntKind) (lo hi : Nat) (hx : a.eval x = .slice A len cap) (hl : a.eval l = .int kl lo) (hh : a.eval h = .int kh hi) (h1 : lo ≤ hi) (h2 : hi ≤ cap)
    (hk : wpQuiet P ops C K rest (a.put o.dst (cutV A cap lo hi))) : wpQuiet P ops C K (o :: rest) a :=
  wpQuiet_wanted hw _ (fun w _ => by
    unfold Oper.quietAt execOp
    simp only [ho, Option.map_some, Option.map_none, hx, hl, hh, Sem.run_bind, run_cut_k kl kh ht hs lo hi h1 h2, Result.andThen_ok, Sem.run_pure]
    exact ⟨rfl, rfl⟩) hk
end
theorem SSl.seg {w : World} {B : Nat} {A : Option Addr} {n cap : Nat} {ls : List (List UInt8)} (h : SSl w B (.slice A n cap) ls) (lo s : Nat) (h2 : lo + s ≤ n) : SSl w B (cutV A cap lo (lo + s)) ((ls.drop lo).take s) := by
  have := (h.take (lo + s) h2).drop lo (by omega)
  rw [List.drop_take, Nat.add_sub_cancel_left] at this
  exact this
/-- the words of a row of the call's own, with where they lie -/
theorem OwnU.cells {w : World} {base : Nat} {v : Value} {ns : List Nat} (h : OwnU w base v ns) : ∃ A c, v = .slice A ns.length c ∧ ns.length ≤ c ∧ ∀ k, k < ns.length → ∃ g, A = some ⟨g, 0, none⟩ ∧ base ≤ g ∧ g < w.heap.size ∧ w.cell? ⟨g, k, none⟩ = some (nU (ns.getD k 0)) := by
  have hl : (ns.map nU).length = ns.length := List.length_map _
  rcases h.2 with ⟨rfl, h0⟩ | ⟨b, cap, cur, rfl, hbs, hb, hc1, hc2, hsz, hcur⟩
  · have : ns = [] := List.eq_nil_of_length_eq_zero (by omega)
    subst this
    exact ⟨none, 0, rfl, Nat.le_refl _, fun k hk => by simp at hk⟩
  · refine ⟨some ⟨b, 0, none⟩, cap, by rw [hl], by omega, fun k hk => ⟨b, rfl, hbs, Blk.lt (show Blk w b _ cur from hb), ?_⟩⟩
    have e1 : (ns.map nU)[k]? = some (nU (ns.getD k 0)) := by
      rw [List.getElem?_map, List.getD_eq_getElem?_getD, List.getElem?_eq_getElem hk]; rfl
    rw [cell_of_row w b k cur _ (0, 0) hb, ← e1, ← hcur, List.getElem?_take, if_pos (by omega)]
    simp
theorem range_step (c : Nat) (l : List (List UInt8)) {a e : Nat} (h : a < e) : ∃ s, blocksL a e = s :: blocksL (a + s) e ∧ 1 ≤ s ∧ a + s ≤ e ∧ rangeM c l a e = segM c l a s :: rangeM c l (a + s) e := by
  have hb := blk_is h
  have hc := blocksL_cons hb
  refine ⟨_, hc, p2_pos _, hb.2.1, ?_⟩
  unfold rangeM
  rw [hc]
  rfl
theorem wpList_storeAll {P : Program} {w : World} {ops : Array Oper} {rest : List Oper} {o : Oper} {a : Act} {Q : Exit → Act → World → Prop} (hgd : o.guard = none) (hdst : o.dst = none) (ty : TypeId) (x y : Operand) (ho : o.op = .store ty x y) (g : Nat) (hx : a.eval x = .pointer (some ⟨g, 0, none⟩)) (cs : Array Value) (hy : a.eval y = .agg cs)
    (t : TypeId) (cur : Array Value) (hg : Blk w g t cur) (hi : (P.info? ty).map (·.size) = some cs.size) (hsz : cur.size = cs.size) (h1 : ∀ u ∈ cs.toList, u.oneCell' = true)
    (h : ∀ w', Blk w' g t cs → w.grownBy w' (some g) → wpList P ops Q rest a w') : wpList P ops Q (o :: rest) a w := by
  refine wpList_storeB hgd hdst ty x y ho g 0 hx cs hy t cur hg hi (by omega) h1 fun w' hw hon => ?_
  rw [copied_all _ _ hsz.symm] at hw
  exact h w' hw hon
theorem Only.far {a w w' : World} {row row' : Option Nat} (h : a.grownBy w row) (h' : w.grownBy w' row') (hf : ∀ g, row' = some g → a.heap.size ≤ g) : a.grownBy w' row :=
  ⟨h'.os.trans h.os, h'.tape.trans h.tape, h'.output.trans h.output, Nat.le_trans h.size h'.size, fun i hi hne => (h'.block i (Nat.lt_of_lt_of_le hi h.size) (fun e => by have := hf i e.symm; omega)).trans (h.block i hi hne)⟩
theorem rgC_one (b e : Nat) (A : Option Addr) (n c : Nat) : ∀ u ∈ (rgC b e (.slice A n c)).toList, u.oneCell' = true := fun u hu => by
  have hu : u ∈ [nU b, nU e, .slice A n c] := hu
  simp only [List.mem_cons, List.not_mem_nil, or_false] at hu
  rcases hu with rfl | rfl | rfl <;> rfl
theorem rgC_set (b e : Nat) (u v : Value) : (rgC b e u).setIfInBounds 2 v = rgC b e v := rfl
set_option maxHeartbeats 400000 in
set_option maxRecDepth 100000 in
theorem of_no (x : Int) (A : Option Addr) (n cap : Nat) (b e : Nat) (hn : n ≤ 9223372036854775807) (h : ¬ (b ≤ e ∧ e ≤ n)) (w : World) :
    Calls Tryd.prog 13 #[.int .i64 x, .slice A n cap, .int .u64 b, .int .u64 e] w fun r w' => r = .returned (.tuple #[.agg (rgC 0 0 (.slice none 0 0)), .int .i64 25]) ∧ Below w.heap.size w w' := by
  have hB := Blk.new w 31 #[.int .u64 0, .int .u64 0, .slice none 0 0]
  have hbel := below_new1 w (.cells #[.int .u64 0, .int .u64 0, .slice none 0 0] 31)
  have hcv : IntKind.u64.wrap (n : Int) = n := IntWalk.u64_in _ (by omega)
  by_cases hbe : b ≤ e
  · have h1' : ¬ ((e : Int) < (b : Int)) := by omega
    have h2' : (n : Int) < (e : Int) := by omega
    clear h
    go_enter Tryd.func13, Tryd.ntmps13
    go_wp2_with fail
    exact bodyPost_ret (results_cell_two (p := 8) (q := 9) (ty := 31) rfl _ _ w.heap.size _ _ _ _ rfl hB Tryd.underlying31 rfl (by kernel_rfl)) rfl ⟨rfl, hbel⟩
  · have h1' : (e : Int) < (b : Int) := by omega
    clear h
    go_enter Tryd.func13, Tryd.ntmps13
    go_wp2_with fail
    exact bodyPost_ret (results_cell_two (p := 8) (q := 9) (ty := 31) rfl _ _ w.heap.size _ _ _ _ rfl hB Tryd.underlying31 rfl (by kernel_rfl)) rfl ⟨rfl, hbel⟩
set_option maxHeartbeats 1000000 in
set_option maxRecDepth 100000 in
theorem of_ok (x : Int) (A : Option Addr) (cap : Nat) (ls : List (List UInt8)) (b e : Nat) (w : World) (hL : SSl w w.heap.size (.slice A ls.length cap) ls) (hn : ls.length ≤ 1000000) (hall : ∀ c ∈ ls, c.length ≤ 140737488355200) (hbe : b ≤ e) (hel : e ≤ ls.length) (hG : Glob w) (hT : Tz w) :
    Calls Tryd.prog 13 #[.int .i64 x, .slice A ls.length cap, .int .u64 b, .int .u64 e] w fun r w' => ∃ v, r = .returned (.tuple #[.agg (rgC b e v), .int .i64 0]) ∧ w'.ownsRow w.heap.size 43 32 v (rangeM (cutW x) ls b e).length (dcells (rangeM (cutW x) ls b e)) ∧ Below w.heap.size w w' := by
  have Hall := Lib.hid hall
  have h1' : ¬ ((e : Int) < (b : Int)) := by omega
  have h2' : ¬ ((ls.length : Int) < (e : Int)) := by omega
  have hcv : IntKind.u64.wrap (ls.length : Int) = ls.length := IntWalk.u64_in _ (by omega)
  clear hall
  go_enter Tryd.func13, Tryd.ntmps13
  go_wp2_with fail
  refine calls_at (fun W => Blk W w.heap.size 31 (rgC 0 0 (.slice none 0 0)) ∧ Blk W (w.heap.size + 1) 31 (rgC b e (.slice none 0 0)) ∧ Below w.heap.size w W ∧ w.heap.size + 2 ≤ W.heap.size) ⟨(Blk.new w _ _).alloc _, Blk.new2 w _ _ _, (below_new1 w _).alloc (below_new1 w _).size _, by simp⟩ ?_
  rintro W0 ⟨hr0, hr1, hbel, hsz⟩
  refine (blocks_any b e (by omega) (by omega) W0 (hT.next hbel)).mono ?_
  rintro r W1 ⟨u, rfl, hown, hb1⟩
  rw [show toldL b e = blocksL b e from if_pos (by omega)] at hown
  obtain ⟨Aw, cw, rfl, hcw, hcells⟩ := hown.cells
  replace hr0 := hr0.below hb1 hr0.lt
  replace hr1 := hr1.below hb1 hr1.lt
  replace hbel := hbel.trans (hb1.mono hbel.size)
  have hsz0 := hb1.size
  have hnlen : (blocksL b e).length ≤ 64 := blocks_many 32 (by decide) (by omega)
  obtain ⟨ns, hns⟩ : ∃ ns, blocksL b e = ns := ⟨_, rfl⟩
  rw [hns] at hcells hnlen hcw ⊢
  have HW := Lib.hid (And.intro hns (And.intro hcells (And.intro hr0 (And.intro hbel (And.intro hsz hsz0)))))
  have Hr1 := Lib.hid hr1
  clear hown hb1 hr0 hr1 hbel hsz hsz0 hcells hns h1' h2' hcv
  go_wp2_with fail
  go_loopw [2, 12, 31] (fun va _ iv wr => ∃ (k a : Nat) (v : Value) (ds : List (List UInt8)), k ≤ ns.length ∧ iv = .int .i64 k ∧ va = .int .u64 a ∧ a ≤ e ∧ ns.drop k = blocksL a e ∧ ds.length = k ∧ ds ++ rangeM (cutW x) ls a e = rangeM (cutW x) ls b e ∧ Blk wr (w.heap.size + 1) 31 (rgC b e v) ∧ wr.ownsRow W1.heap.size 43 32 v ds.length (dcells ds) ∧ W1.grownBy wr (some (w.heap.size + 1))) (fun _ _ iv _ => ns.length - (intOf iv).toNat)
  case atStart => exact ⟨0, b, _, [], Nat.zero_le _, rfl, rfl, hbe, by rw [HW.out.1]; rfl, rfl, rfl, Hr1.out, World.ownsRow_nil _ _ _ _, World.grownBy.refl _ _⟩
  case round =>
    obtain ⟨k, a, v, ds, hk, rfl, rfl, hae, hdrop, hdl, hds, hrw, hown, hgr⟩ := hrel
    have hbw : Below w.heap.size w wr := below_only HW.out.2.2.2.1 hgr (by omega) HW.out.2.2.2.1.size
    by_cases hlt : k < ns.length
    · have hlt' : (k : Int) < (ns.length : Int) := by omega
      have hkc : (k : Int) < (cw : Int) := by omega
      obtain ⟨gw, rfl, hgw1, hgw2, hcell⟩ := HW.out.2.1 k hlt
      have hsz2 := HW.out.2.2.2.2.1
      have hcw2 : wr.cell? ⟨gw, k, none⟩ = some (.int .u64 ((ns.getD k 0 : Nat) : Int)) := (World.cell?_of_block (hgr.block gw hgw2 (fun e => by injection e; omega))).trans hcell
      have hdrop1 : ns.drop k = ns.getD k 0 :: ns.drop (k + 1) := by rw [List.drop_eq_getElem_cons hlt, List.getD_eq_getElem?_getD, List.getElem?_eq_getElem hlt]; rfl
      have hlt2 : a < e := Nat.lt_of_not_le fun h => by rw [blocksL_nil h, hdrop1] at hdrop; cases hdrop
      obtain ⟨s, hs1, hs2, hs3, hs4⟩ := range_step (cutW x) ls hlt2
      rw [hs1, hdrop1] at hdrop
      injection hdrop with hse hdrop
      rw [hse] at hcw2
      rw [hs4] at hds
      have hadd : IntKind.u64.wrap ((a : Int) + s) = ((a + s : Nat) : Int) := by rw [IntWalk.u64_in _ (by omega)]; omega
      have HR := Lib.hid (And.intro hdrop (And.intro hds (And.intro hrw (And.intro hown (And.intro hgr hbw)))))
      clear hdrop hds hrw hown hgr hbw hs1 hs4 hdrop1 hcell hse
      go_upto_region 7 with fail
      refine wp_region_mixS 13 (.plain 0 <| .plain 1 <| .plain 2 <| .plain 3 <| .plain 4 <| .plain 5 <| .plain 6 <| .plain 7 <| .plain 8 <| .only 9 <| .only 10 <| .only 11 <| .plain 12 <| .done) (fun V => Blk V (w.heap.size + 1) 31 (rgC b e v)) (by kernel_rfl) (by kernel_rfl) (HR.out.2.2.1.drewN 1) ?_
      refine mix_atC (fun V => Blk V (w.heap.size + 1) 31 (rgC b e v) ∧ V.ownsRow W1.heap.size 43 32 v ds.length (dcells ds) ∧ W1.grownBy V (some (w.heap.size + 1)) ∧ Below w.heap.size w V) ⟨HR.out.2.2.1.drewN 1, own_below HR.out.2.2.2.1 (below_drewN (Below.refl _ wr) 1), Only.drewN HR.out.2.2.2.2.1 1, below_drewN HR.out.2.2.2.2.2 1⟩ ?_
      rintro V ⟨hrw, hown, hgr, hbw⟩
      iterate 9 (refine mix_plain rfl ?_; (first
        | (refine wpQuiet_load1 rfl _ (.tmp 35) rfl _ rfl _ Tryd.underlying29 rfl _ (fun _ hW => hW.cell 2) ?_; simp only [Act.put, List.setIfInBounds_toArray, List.set_cons_zero, List.set_cons_succ])
        | (refine wpQuiet_cutK rfl _ (.tmp 38) (.tmp 39) (.tmp 42) rfl 62 Tryd.underlying27 (by kernel_rfl) A ls.length cap .u64 .u64 a (a + s) rfl rfl rfl (by omega) (by have := hL.lens.2; omega) ?_; simp only [Act.put, List.setIfInBounds_toArray, List.set_cons_zero, List.set_cons_succ])
        | go_big_quiet_step ((intro _; rfl))); refine wpQuiet_nil ?_)
      refine mix_only_in rfl (fun K hK => ?_)
      go_wp2_with fail
      refine (mroot_any x _ ((ls.drop a).take s) V ((hL.next hbw).seg a s (by omega)) (by rw [List.length_take]; omega) (fun c hc => Hall.out c (List.mem_of_mem_drop (List.mem_of_mem_take hc))) (hG.next hbw)).mono ?_
      rintro r V2 ⟨rfl, hb1⟩
      replace hown := own_below hown hb1
      replace hrw := hrw.below hb1 hrw.lt
      have hgr2 : W1.grownBy V2 (some (w.heap.size + 1)) := Only.trans hgr (Only.of_below hb1 _)
      replace hbw := hbw.trans (hb1.mono hbw.size)
      clear hgr hb1
      obtain ⟨d, hd⟩ : ∃ d, rootM (cutW x) ((ls.drop a).take s) = d := ⟨_, rfl⟩
      have Hd := Lib.hid hd
      rw [hd]
      clear hd
      go_wp2_with fail
      refine hK _ _ hrw ?_
      clear hK K
      refine mix_only_in rfl (fun K hK => ?_)
      go_wp2_with (first
        | (refine wpList_buildD rfl (.tmp 44) rfl d rfl ?_))
      refine hK _ _ (hrw.alloc _) ?_
      clear hK K
      have hgr3 := Only.alloc hgr2 (Obj.cells (dat d) 43)
      have hown3 := own_below hown (below_new1 V2 (Obj.cells (dat d) 43))
      have hsz1 : w.heap.size + 2 ≤ W1.heap.size := by have := HW.out.2.2.2.2; omega
      have hsz3 : W1.heap.size ≤ (V2.alloc (Obj.cells (dat d) 43)).heap.size := hgr3.size
      refine mix_only_in rfl (fun K hK => ?_)
      refine wpList_appendDig rfl (.tmp 36) (.tmp 45) rfl W1.heap.size _ ds rfl hown3 V2.heap.size d rfl (Blk.new V2 _ _) (by omega) hsz3 ?_
      intro v6 w6 hown6 hg6
      have hrw6 := (hrw.alloc (Obj.cells (dat d) 43)).grown hg6 (fun e => by have := own_ge hown3 _ e.symm; omega)
      have hgr6 := Only.far hgr3 hg6 (fun g hg => own_ge hown3 g hg)
      clear hgr2 hgr3 hown3 hsz3 hg6 hown hrw hbw
      obtain ⟨A6, c6, rfl⟩ := own_slice hown6
      simp only [Act.put, List.setIfInBounds_toArray, List.set_cons_zero, List.set_cons_succ]
      refine hK _ _ hrw6 ?_
      clear hK K
      iterate 1 (refine mix_plain rfl ?_; go_big_quiet_step ((intro _; rfl)); refine wpQuiet_nil ?_)
      refine mix_done ?_
      simp only [List.drop_succ_cons, List.drop_zero]
      have H6 := Lib.hid (And.intro hown6 hgr6)
      clear hown6 hgr6
      go_wp2_with (first
        | (refine wpList_store1 rfl rfl _ (.tmp 47) (.tmp 46) rfl (w.heap.size + 1) 2 rfl _ rfl 31 _ hrw6 (by kernel_rfl) (show 2 < 3 by decide) rfl rfl ?_; intro w7 hrw7 hg7))
      rw [rgC_set] at hrw7
      have hown7 := own_grown H6.out.1 hg7 (fun g hg e => by have := own_ge H6.out.1 g hg; injection e; omega)
      have hgr7 := Only.trans H6.out.2 hg7
      go_roundw
      case rel =>
        refine ⟨k + 1, a + s, _, ds ++ [d], by omega, by go_num, by go_num, hs3, HR.out.1, by rw [List.length_append, hdl]; rfl, ?_, hrw7, hown7, hgr7⟩
        rw [← HR.out.2.1, ← Hd.out, List.append_assoc]
        rfl
      case measure => simp [intOf]; omega
    · have hlt' : ¬ ((k : Int) < (ns.length : Int)) := by omega
      have hkn : k = ns.length := by omega
      have hnil : blocksL a e = [] := by rw [← hdrop, hkn, List.drop_length]
      have hr0 : rangeM (cutW x) ls a e = [] := by unfold rangeM; rw [hnil]; rfl
      rw [hr0, List.append_nil] at hds
      subst hds
      have h00 := HW.out.2.2.1.grown hgr (fun e => by injection e; omega)
      obtain ⟨A6, c6, rfl⟩ := own_slice hown
      clear hdrop hlt' hlt hdl
      have hsz1 : w.heap.size + 2 ≤ W1.heap.size := by have := HW.out.2.2.2.2; omega
      go_wp2_with (first
        | (refine wpList_load_row rfl _ (.tmp 10) rfl (w.heap.size + 1) rfl _ _ _ _ hrw Tryd.underlying31 rfl (by kernel_rfl) ?_)
        | (refine wpList_storeAll rfl rfl _ (.tmp 8) (.tmp 52) rfl w.heap.size rfl (rgC b e _) rfl 31 _ h00 (by kernel_rfl) rfl (rgC_one _ _ _ _ _) ?_; intro w8 h08 hg8))
      have hown8 := own_grown hown hg8 (fun g hg e => by have := own_ge hown g hg; injection e; omega)
      have hbel8 := below_only hbw hg8 (Nat.le_refl _) hbw.size
      have hownf := own_base hown8 (show w.heap.size ≤ W1.heap.size by omega)
      exact bodyPost_ret (results_cell_two (p := 8) (q := 9) (ty := 31) rfl _ _ w.heap.size _ _ _ _ rfl h08 Tryd.underlying31 rfl (by kernel_rfl)) rfl ⟨_, rfl, hownf, hbel8⟩
end Go.Proofs.YtkogehkmldbhgaaDoor

/- The reference's table stays in later worlds. No condition. -/
namespace Go.Proofs.YtkogehkmldbhgaaDoor
open Go.RowKit
theorem Tbl.nxt {w w' : World} {t : Value} (h : Tbl w w.heap.size t) (hb : Below w.heap.size w w') : Tbl w' w'.heap.size t := by
  obtain ⟨g, rfl, hg, hT⟩ := h; exact ⟨g, rfl, Nat.lt_of_lt_of_le hg hb.size, hT.below hb hg⟩
end Go.Proofs.YtkogehkmldbhgaaDoor
