/- Texts that stand behind one another: StNew. No condition. -/
import Derived.Test.YtcdkadidkkbhpaaDoorS18
import Derived.Test.YtcdkadidkkbhpaaDoorS19
/- The walks of quota.New and state.New. No condition but the words of SHA-256. -/
namespace Go.Proofs.YtcdkadidkkbhpaaDoor
open Go Go.RowKit
attribute [local irreducible] mixW mixWA
attribute [local go_sem] n8_lo n8_hi n64_lo n64_hi n32_lo n32_hi
set_option maxRecDepth 100000 in
theorem quotaNew_any (r b : UInt32) (hr : r.toNat ≤ 1048576) (hb : b.toNat ≤ 1048576) (w : World) :
    Calls Tryd.prog 19 #[.int .u32 (n32 r), .int .u32 (n32 b)] w fun e w' => e = .returned (.tuple #[.agg #[.int .u32 (n32 r), .int .u32 (n32 b), .int .u32 (n32 b)], .int .i64 0]) ∧ Below w.heap.size w w' := by
  have h1 : ¬ (1048576 < n32 r) := by unfold n32; omega
  have h2 : ¬ (1048576 < n32 b) := by unfold n32; omega
  have hD := Blk.new w 69 #[.int .u32 0, .int .u32 0, .int .u32 0]
  have hn := below_new1 w (Obj.cells #[.int .u32 0, .int .u32 0, .int .u32 0] 69)
  go_enter Tryd.func19, Tryd.ntmps19
  go_wp2_with (first
    | (refine wpList_storeB rfl rfl 69 (.tmp 4) (.tmp 16) rfl w.heap.size 0 rfl #[.int .u32 (n32 r), .int .u32 (n32 b), .int .u32 (n32 b)] rfl _ _ hD (by kernel_rfl) (by simp) (by intro v hv; simp at hv; rcases hv with rfl | rfl | rfl <;> rfl) ?_; intro W1 hB1 hg1))
  replace hB1 : Blk W1 w.heap.size 69 #[.int .u32 (n32 r), .int .u32 (n32 b), .int .u32 (n32 b)] := hB1
  exact bodyPost_ret (results_cell_tmp (p := 4) (q := 5) (ty := 69) rfl _ _ w.heap.size _ _ _ _ rfl hB1 Tryd.underlying69 rfl (by kernel_rfl)) rfl ⟨rfl, below_only hn hg1 (Nat.le_refl _) hn.size⟩
/-- a state at first, its tree 0 without a head -/
def ten0 : TenL := ⟨true, 1048576, 1048576, 1048576, 32768, 0⟩
def gra0 : GraL := ⟨0, 4, 18446744073709551615, false⟩
def tre0 : TreL := ⟨1, 0, 1, 0, [0], [], [], ⟨0, 0, 0, 0, List.replicate 32 0⟩, List.replicate 32 0⟩
def staZ : StaL := ⟨0, 0, 0, List.replicate 16 zeroTen, List.replicate 16 zeroTre, [gra0]⟩
def staA : StaL := ⟨0, 0, 0, (List.replicate 16 zeroTen).set 0 ten0, (List.replicate 16 zeroTre).set 0 tre0, [gra0]⟩
def tre1 (wd : Int) (seed : List UInt8) : TreL := { tre0 with head := pubH wd 0 0 tre0, tag := pubT wd seed 0 0 tre0 }
def newS (wd : Int) (seed : List UInt8) : StaL := ⟨0, 0, 0, (List.replicate 16 zeroTen).set 0 ten0, (List.replicate 16 zeroTre).set 0 (tre1 wd seed), [gra0]⟩
def nilS : StaL := ⟨0, 0, 0, [], [], []⟩
def zTreC : Array Value := treC zeroTre (.slice none 0 0) (.slice none 0 0) (.slice none 0 0)
theorem zero_state (w : World) : (zeroValue 32).run Tryd.prog w = .ok (.agg (staC nilS (.slice none 0 0) (.slice none 0 0) (.slice none 0 0))) w := by kernel_rfl
theorem info_ten : (Tryd.prog.info? 73).map (fun i => (i.zero, i.size, i.bytes)) = some (some (.agg (tenC zeroTen)), (tenC zeroTen).size, 24) := by kernel_rfl
theorem info_tre : (Tryd.prog.info? 49).map (fun i => (i.zero, i.size, i.bytes)) = some (some (.agg zTreC), zTreC.size, 200) := by kernel_rfl
theorem built_gra : Tryd.prog.built 67 [(1, .int .i64 4), (2, .int .u64 18446744073709551615)] = some (graC gra0) := by kernel_rfl
theorem built_sta (t r g : Value) (At Ar Ag : Option Addr) (nt ct nr cr ng cg : Nat) (h1 : t = .slice At nt ct) (h2 : r = .slice Ar nr cr) (h3 : g = .slice Ag ng cg) : Tryd.prog.built 32 [(3, t), (4, r), (5, g)] = some (staC nilS t r g) := by
  subst h1; subst h2; subst h3
  kernel_rfl
theorem built_ten : Tryd.prog.built 73 [(0, .bool true), (1, .agg #[.int .u32 1048576, .int .u32 1048576, .int .u32 1048576]), (2, .int .u32 32768)] = some (tenC ten0) := by kernel_rfl
theorem built_tre (g : Nat) : Tryd.prog.built 49 [(0, .int .i64 1), (2, .int .i64 1), (4, .slice (some ⟨g, 0, none⟩) 1 1)] = some (treC tre0 (.slice (some ⟨g, 0, none⟩) 1 1) (.slice none 0 0) (.slice none 0 0)) := by kernel_rfl
/-- what is there when the first rows are made -/
def NF (W0 : World) (W : World) (oT oR oG oS : Option Nat) : Prop :=
  Below W0.heap.size W0 W ∧ (∀ g, oT = some g → W0.heap.size ≤ g ∧ Blk W g 73 (flat (List.replicate 16 (tenC zeroTen))).toArray) ∧
  (∀ g, oR = some g → W0.heap.size ≤ g ∧ Blk W g 49 (flat (List.replicate 16 zTreC)).toArray) ∧
  (∀ g, oG = some g → W0.heap.size ≤ g ∧ Blk W g 67 (graC gra0)) ∧
  (∀ g, oS = some g → W0.heap.size ≤ g ∧ Blk W g 32 (staC nilS (.slice none 0 0) (.slice none 0 0) (.slice none 0 0)))
theorem NF.start (W : World) : NF W W none none none none := ⟨Below.refl _ _, (fun _ h => by cases h), (fun _ h => by cases h), (fun _ h => by cases h), (fun _ h => by cases h)⟩
theorem NF.keep {W0 W W' : World} {oT oR oG oS : Option Nat} (h : NF W0 W oT oR oG oS) (hb : Below W.heap.size W W') : NF W0 W' oT oR oG oS :=
  ⟨h.1.trans (hb.mono h.1.size), fun g e => ⟨(h.2.1 g e).1, (h.2.1 g e).2.below hb (h.2.1 g e).2.lt⟩, fun g e => ⟨(h.2.2.1 g e).1, (h.2.2.1 g e).2.below hb (h.2.2.1 g e).2.lt⟩, fun g e => ⟨(h.2.2.2.1 g e).1, (h.2.2.2.1 g e).2.below hb (h.2.2.2.1 g e).2.lt⟩, fun g e => ⟨(h.2.2.2.2 g e).1, (h.2.2.2.2 g e).2.below hb (h.2.2.2.2 g e).2.lt⟩⟩
theorem NF.ten {W0 W : World} {oR oG oS : Option Nat} (h : NF W0 W none oR oG oS) : NF W0 (W.alloc (.cells (flat (List.replicate 16 (tenC zeroTen))).toArray 73)) (some W.heap.size) oR oG oS := by
  have h1 := h.keep (below_new1 W (.cells (flat (List.replicate 16 (tenC zeroTen))).toArray 73))
  exact ⟨h1.1, (fun g e => by injection e with e; subst e; exact ⟨h.1.size, Blk.new _ _ _⟩), h1.2.2.1, h1.2.2.2.1, h1.2.2.2.2⟩
theorem NF.tre {W0 W : World} {oT oG oS : Option Nat} (h : NF W0 W oT none oG oS) : NF W0 (W.alloc (.cells (flat (List.replicate 16 zTreC)).toArray 49)) oT (some W.heap.size) oG oS := by
  have h1 := h.keep (below_new1 W (.cells (flat (List.replicate 16 zTreC)).toArray 49))
  exact ⟨h1.1, h1.2.1, (fun g e => by injection e with e; subst e; exact ⟨h.1.size, Blk.new _ _ _⟩), h1.2.2.2.1, h1.2.2.2.2⟩
theorem NF.gra {W0 W : World} {oT oR oS : Option Nat} (h : NF W0 W oT oR none oS) : NF W0 (W.alloc (.cells (graC gra0) 67)) oT oR (some W.heap.size) oS := by
  have h1 := h.keep (below_new1 W (.cells (graC gra0) 67))
  exact ⟨h1.1, h1.2.1, h1.2.2.1, (fun g e => by injection e with e; subst e; exact ⟨h.1.size, Blk.new _ _ _⟩), h1.2.2.2.2⟩
theorem NF.sta {W0 W : World} {oT oR oG : Option Nat} (h : NF W0 W oT oR oG none) : NF W0 (W.alloc (.cells (staC nilS (.slice none 0 0) (.slice none 0 0) (.slice none 0 0)) 32)) oT oR oG (some W.heap.size) := by
  have h1 := h.keep (below_new1 W (.cells (staC nilS (.slice none 0 0) (.slice none 0 0) (.slice none 0 0)) 32))
  exact ⟨h1.1, h1.2.1, h1.2.2.1, h1.2.2.2.1, (fun g e => by injection e with e; subst e; exact ⟨h.1.size, Blk.new _ _ _⟩)⟩
/-- the same behind the store of the state -/
def NE (W0 W : World) (gT gR gG gS : Nat) : Prop :=
  Below W0.heap.size W0 W ∧ (W0.heap.size ≤ gT ∧ W0.heap.size ≤ gR ∧ W0.heap.size ≤ gG ∧ W0.heap.size ≤ gS) ∧
  Blk W gT 73 (flat (List.replicate 16 (tenC zeroTen))).toArray ∧ Blk W gR 49 (flat (List.replicate 16 zTreC)).toArray ∧ Blk W gG 67 (graC gra0) ∧
  Blk W gS 32 (staC nilS (.slice (some ⟨gT, 0, none⟩) 16 16) (.slice (some ⟨gR, 0, none⟩) 16 16) (.slice (some ⟨gG, 0, none⟩) 1 1))
theorem blk_ne {w : World} {g g' : Nat} {t t' : TypeId} {cs cs' : Array Value} (h : Blk w g t cs) (h' : Blk w g' t' cs') (ht : t ≠ t') : g ≠ g' := by
  rintro rfl
  have hh : some (Obj.cells cs t (0, 0)) = some (Obj.cells cs' t' (0, 0)) := h.symm.trans h'
  injection hh with hh
  injection hh with _ hh
  exact ht hh
theorem NF.fin {W1 W0 W W' : World} {gT gR gG gS : Nat} (h : NF W0 W (some gT) (some gR) (some gG) (some gS)) (hb : Below W1.heap.size W1 W0) (hg : W.grownBy W' (some gS)) (hS : Blk W' gS 32 (staC nilS (.slice (some ⟨gT, 0, none⟩) 16 16) (.slice (some ⟨gR, 0, none⟩) 16 16) (.slice (some ⟨gG, 0, none⟩) 1 1))) : NE W1 W' gT gR gG gS := by
  obtain ⟨h0, hT, hR, hG, hX⟩ := h
  obtain ⟨aT, bT⟩ := hT gT rfl
  obtain ⟨aR, bR⟩ := hR gR rfl
  obtain ⟨aG, bG⟩ := hG gG rfl
  obtain ⟨aS, bS⟩ := hX gS rfl
  have hs := hb.size
  exact ⟨hb.trans ((below_only h0 hg aS h0.size).mono hs), ⟨by omega, by omega, by omega, by omega⟩, bT.grown hg (fun e => blk_ne bT bS (by decide) (by injection e)), bR.grown hg (fun e => blk_ne bR bS (by decide) (by injection e)), bG.grown hg (fun e => blk_ne bG bS (by decide) (by injection e)), hS⟩
theorem staC_one (s : StaL) (t r g : Value) (ht : t.oneCell' = true) (hr : r.oneCell' = true) (hg : g.oneCell' = true) : ∀ v ∈ (staC s t r g).toList, v.oneCell' = true := by
  intro v hv
  simp only [staC, List.mem_cons, List.not_mem_nil, or_false] at hv
  rcases hv with rfl | rfl | rfl | rfl | rfl | rfl
  · rfl
  · rfl
  · rfl
  · exact ht
  · exact hr
  · exact hg
theorem own_of_blk {w : World} {base g sz : Nat} {e : TypeId} {cs : List (Array Value)} (h : Blk w g e (flat cs).toArray) (hB : base ≤ g) (hsz : ∀ c ∈ cs, c.size = sz) (hl : cs.length ≤ 1000000) : w.ownsRow base e sz (.slice (some ⟨g, 0, none⟩) cs.length cs.length) cs.length (flat cs) :=
  ⟨flat_len sz cs hsz, .inr ⟨g, _, _, rfl, hB, h, Nat.le_refl _, by unfold maxLen; omega, by rw [List.size_toArray, flat_len sz cs hsz], by rw [← flat_len sz cs hsz]; exact List.take_length⟩⟩
theorem wpList_build3 {P : Program} {w : World} {ops : Array Oper} {rest : List Oper} {o : Oper} {a : Act} {Q : Exit → Act → World → Prop} (t : TypeId) (i j k : Nat) (x y z : Operand) (ho : o.op = .build t #[(i, x), (j, y), (k, z)]) (vx vy vz : Value) (hx : a.eval x = vx) (hy : a.eval y = vy) (hz : a.eval z = vz) (cells : Array Value) (hb : P.built t [(i, vx), (j, vy), (k, vz)] = some cells)
    (hw : Region.wanted o (yielded ops a.tmps) = true) (hk : wpList P ops Q rest (a.put o.dst (.agg cells)) w) : wpList P ops Q (o :: rest) a w :=
  wpList_unguard hw (wpList_plain rfl fun K hK => by
    have hb' : P.built t ((#[(i, x), (j, y), (k, z)] : Array (Nat × Operand)).map fun (i, x) => (i, a.eval x)).toList = some cells := by simpa [hx, hy, hz] using hb
    unfold Oper.wp execOp
    simp only [ho, Sem.run_bind, run_build w t _ cells hb', Result.andThen_ok, Sem.run_pure]
    exact hK _ _ hk)
theorem tenC_one (t : TenL) : ∀ v ∈ (tenC t).toList, v.oneCell' = true := by
  intro v hv
  simp only [tenC, List.mem_cons, List.not_mem_nil, or_false] at hv
  rcases hv with rfl | rfl | rfl | rfl | rfl | rfl <;> rfl
theorem zTreC_size : zTreC.size = 75 := treC_size _ _ _ _
theorem own_blk {w : World} {base g n cap m sz : Nat} {e : TypeId} {xs : List Value} (h : w.ownsRow base e sz (.slice (some ⟨g, 0, none⟩) n cap) m xs) (h0 : 0 < m) : ∃ cur, Blk w g e cur := by
  rcases h.2 with ⟨_, h1⟩ | ⟨g', cap', cur, e1, _, hg, _⟩
  · omega
  · injection e1 with e1 _ _
    injection e1 with e1
    injection e1 with e1
    subst e1
    exact ⟨cur, hg⟩
theorem tens_map' : List.map tenC ((List.replicate 16 zeroTen).set 0 ten0) = (List.replicate 16 (tenC zeroTen)).set 0 (tenC ten0) := by
  rw [List.map_set, List.map_replicate]
theorem tens_map : List.map tenC staA.tenants = (List.replicate 16 (tenC zeroTen)).set 0 (tenC ten0) := tens_map'
theorem tres_set {w : World} {B : Nat} {c : Array Value} {t : TreL} (h : TreO w B c t) (k : Nat) (hk : k < 16) : TreO w B (((List.replicate 16 zTreC).set 0 c).getD k #[]) (((List.replicate 16 zeroTre).set 0 t).getD k zeroTre) := by
  rw [List.getD_eq_getElem?_getD, List.getD_eq_getElem?_getD, List.getElem?_set, List.getElem?_set]
  by_cases h0 : 0 = k
  · subst h0
    rw [if_pos rfl, if_pos rfl, if_pos (by rw [List.length_replicate]; decide), if_pos (by rw [List.length_replicate]; decide)]
    exact h
  · rw [if_neg h0, if_neg h0, List.getElem?_replicate, List.getElem?_replicate, if_pos hk, if_pos hk]
    exact ⟨_, _, _, rfl, own_nil_ _ _ _, ⟨_, Own2.nil_ _ _⟩, ⟨_, Own2.nil_ _ _⟩⟩
theorem treC_head (t : TreL) (d l q : Value) (h : HeadL) (tg : List UInt8) : patch (treC t d l q) 7 (sigC h tg).toList = treC { t with head := h, tag := tg } d l q := by
  unfold patch treC
  apply Array.toList_inj.1
  rw [Array.toList_append, Array.toList_append]
  show List.take 7 ([_, _, _, _, _, _, _] ++ (sigC t.head t.tag).toList) ++ ((sigC h tg).toList ++ List.drop (7 + (sigC h tg).toList.length) ([_, _, _, _, _, _, _] ++ (sigC t.head t.tag).toList)) = [_, _, _, _, _, _, _] ++ (sigC h tg).toList
  rw [List.drop_eq_nil_of_le (by
    have h1 : (sigC h tg).toList.length = 68 := by rw [Array.length_toList, sigC_size]
    have h2 : (sigC t.head t.tag).toList.length = 68 := by rw [Array.length_toList, sigC_size]
    rw [List.length_append, h1, h2]; exact Nat.le_refl _), List.append_nil]
  rfl
theorem tre0_ok : (staA.trees.getD 0 zeroTre).ok := by
  show tre0.ok
  refine ⟨⟨by decide, by decide⟩, ⟨by decide, by decide⟩, ⟨by decide, by decide⟩, ⟨by decide, by decide⟩, ⟨by decide, ⟨by decide, by decide⟩, ⟨by decide, by decide⟩⟩, by decide, by decide, by decide, by decide, ?_, ?_⟩
  · intro b hb; cases hb
  · intro b hb; cases hb
/-- two blocks that read as they did -/
def StK (gc gs : Nat) (cc cs : Array Value) (V : World) : Prop := V.rangeAt gc 0 cc.toList ∧ V.rangeAt gs 0 cs.toList
theorem own_blkT {w w' : World} {base sz n g : Nat} {e t : TypeId} {v : Value} {xs : List Value} {cs : Array Value} (h : w.ownsRow base e sz v n xs) (hg : w.grownBy w' (some g)) (hk : Blk w g t cs) (ht : t ≠ e) : w'.ownsRow base e sz v n xs := own_typed h hg hk ht
theorem build_gra (w : World) : (Instr.buildSlice 30 1 #[(0, .agg (graC gra0))]).run Tryd.prog w = .ok (.slice (some ⟨w.heap.size, 0, none⟩) 1 1) (w.alloc (.cells (graC gra0) 67)) := by kernel_rfl
theorem wpList_buildGra {w : World} {ops : Array Oper} {rest : List Oper} {o : Oper} {a : Act} {Q : Exit → Act → World → Prop} (hgd : o.guard = none) (x : Operand) (ho : o.op = .buildSlice 30 1 #[(0, x)]) (hx : a.eval x = .agg (graC gra0))
    (hk : wpList Tryd.prog ops Q rest (a.put o.dst (.slice (some ⟨w.heap.size, 0, none⟩) 1 1)) (w.alloc (.cells (graC gra0) 67))) : wpList Tryd.prog ops Q (o :: rest) a w :=
  wpList_plain hgd fun K hK => by
    unfold Oper.wp execOp
    simp only [ho, List.map_toArray, List.map_cons, List.map_nil, hx, Sem.run_bind, build_gra, Result.andThen_ok, Sem.run_pure]
    exact hK _ _ hk
theorem wpList_allocSta {w : World} {ops : Array Oper} {rest : List Oper} {o : Oper} {a : Act} {Q : Exit → Act → World → Prop} (hgd : o.guard = none) (ho : o.op = .alloc 32)
    (hk : wpList Tryd.prog ops Q rest (a.put o.dst (.pointer (some ⟨w.heap.size, 0, none⟩))) (w.alloc (.cells (staC nilS (.slice none 0 0) (.slice none 0 0) (.slice none 0 0)) 32))) : wpList Tryd.prog ops Q (o :: rest) a w := by
  have hz := zero_state
  refine wpList_plain hgd fun K hK => ?_
  unfold Oper.wp execOp
  simp only [ho]
  go_simp
  exact hK _ _ hk
set_option maxHeartbeats 4000000 in
set_option maxRecDepth 100000 in
theorem new_ok (wd qu : Int) (st : UInt32) (sv : Value) (seed : List UInt8) (w : World) (hsv : BSl w w.heap.size sv seed) (hG : Glob w) (h1 : 1 ≤ wd) (h2 : wd ≤ 32) (h3 : 1 ≤ qu) (h4 : qu ≤ 2) (h5 : st.toNat ≤ 32768) (h6 : seed.length ≤ 64) :
    Calls Tryd.prog 5 #[.agg (cfgC wd qu st sv)] w fun e w' => ∃ v, e = .returned (.tuple #[v, .int .i64 0]) ∧ StO 73 49 67 w' w.heap.size v (newS wd seed) ∧ Below w.heap.size w w' := by
  obtain ⟨As, cs, rfl⟩ : ∃ A c, sv = .slice A seed.length c := by obtain ⟨A, c, e, _⟩ := hsv; exact ⟨A, c, e⟩
  have HS := Lib.hid (And.intro hsv hG)
  clear hsv hG
  have hzs := zero_state
  have e5 : n32 st ≤ 32768 := by unfold n32; omega
  have e1 : ¬ wd < 1 := by omega
  have e2 : ¬ 32 < wd := by omega
  have e3 : ¬ qu < 1 := by omega
  have e4 : ¬ 2 < qu := by omega
  have e6 : ¬ 32768 < n32 st := by omega
  have e7 : ¬ 64 < seed.length := by omega
  have e8 : ¬ (64 : Int) < (seed.length : Int) := by omega
  clear h3 h4 h5
  go_enter Tryd.func5, Tryd.ntmps5
  go_upto_region 1 with fail
  clear hzs
  refine wp_at (fun W => Blk W w.heap.size 25 (cfgC wd qu st (.slice As seed.length cs)) ∧ Blk W (w.heap.size + 1) 32 (staC nilS (.slice none 0 0) (.slice none 0 0) (.slice none 0 0)) ∧ Below w.heap.size w W)
    ⟨(Blk.new w _ _).alloc _, Blk.new2 _ _ _ _, below_new2 _ _ _⟩ ?_
  rintro W1 ⟨hC1, hR1, hb1⟩
  have c0 : W1.cell? ⟨w.heap.size, 0, none⟩ = some (.int .i64 wd) := hC1.cell 0
  have c1 : W1.cell? ⟨w.heap.size, 1, none⟩ = some (.int .i64 qu) := hC1.cell 1
  have c2 : W1.cell? ⟨w.heap.size, 2, none⟩ = some (.int .u32 (n32 st)) := hC1.cell 2
  have c3 : W1.cell? ⟨w.heap.size, 3, none⟩ = some (.slice As seed.length cs) := hC1.cell 3
  have H1 := Lib.hid (And.intro hC1 (And.intro hR1 hb1))
  clear hC1 hR1 hb1
  go_upto_region 3 with fail
  clear c0 c1 c2 c3
  go_cut [4] (fun s wx => ∃ gs gT gR gG, s = .pointer (some ⟨gs, 0, none⟩) ∧ NE W1 wx gT gR gG gs)
  case first =>
    refine wp_region_mixAP planNew (by kernel_rfl) (by kernel_rfl) (fun W2 hb2 => ?_)
    unfold planNew
    have H := NF.start W2
    refine mixA_plain rfl ?_
    go_big_quiet_step (fail)
    refine wpQuiet_nil ?_
    refine mixA_more rfl (fun K hK => ?_) ?_
    · skip
      refine wpList_makeR rfl 28 73 _ _ rfl Tryd.underlying28 (tenC zeroTen) 24 info_ten (by decide) .i64 .i64 16 rfl rfl (by decide) (by decide) ?_
      simp only [Act.put, List.setIfInBounds_toArray, List.set_cons_zero, List.set_cons_succ]
      refine hK _ _ (below_plus H.ten.1) ?_
      clear hK K
      refine mixA_at (fun V => NF W2 V (some W2.heap.size) none none none) H.ten ?_
      clear H
      intro V3 H
      refine mixA_more rfl (fun K hK => ?_) ?_
      · skip
        refine wpList_makeR rfl 29 49 _ _ rfl Tryd.underlying29 zTreC 200 info_tre (by decide) .i64 .i64 16 rfl rfl (by decide) (by decide) ?_
        simp only [Act.put, List.setIfInBounds_toArray, List.set_cons_zero, List.set_cons_succ]
        refine hK _ _ (below_plus H.tre.1) ?_
        clear hK K
        refine mixA_at (fun V => NF W2 V (some W2.heap.size) (some V3.heap.size) none none) H.tre ?_
        clear H
        intro V4 H
        refine mixA_more rfl (fun K hK => ?_) ?_
        · skip
          refine wpList_buildGra rfl (.tmp 39) rfl rfl ?_
          simp only [Act.put, List.setIfInBounds_toArray, List.set_cons_zero, List.set_cons_succ]
          refine hK _ _ (below_plus H.gra.1) ?_
          clear hK K
          refine mixA_at (fun V => NF W2 V (some W2.heap.size) (some V3.heap.size) (some V4.heap.size) none) H.gra ?_
          clear H
          intro V5 H
          refine mixA_plain rfl ?_
          go_big_quiet_step (fail)
          refine wpQuiet_nil ?_
          refine mixA_only rfl (fun K hK => ?_)
          refine wpList_allocSta rfl rfl ?_
          simp only [Act.put, List.setIfInBounds_toArray, List.set_cons_zero, List.set_cons_succ]
          refine hK _ _ (below_plus H.sta.1) ?_
          clear hK K
          refine mixA_at (fun V => NF W2 V (some W2.heap.size) (some V3.heap.size) (some V4.heap.size) (some V5.heap.size)) H.sta ?_
          clear H
          intro V6 H
          refine mixA_only rfl (fun K hK => ?_)
          refine wpList_storeB rfl rfl 32 (.tmp 4) (.tmp 41) rfl V5.heap.size 0 rfl (staC nilS (.slice (some ⟨W2.heap.size, 0, none⟩) 16 16) (.slice (some ⟨V3.heap.size, 0, none⟩) 16 16) (.slice (some ⟨V4.heap.size, 0, none⟩) 1 1)) rfl _ _ (H.2.2.2.2 _ rfl).2 (by kernel_rfl) (by rw [staC_size, staC_size]; omega) (staC_one _ _ _ _ rfl rfl rfl) ?_
          intro W9 hS9 hg9
          refine hK _ _ (below_plus (below_only H.1 hg9 (H.2.2.2.2 _ rfl).1 H.1.size)) ?_
          clear hK K
          refine mixA_done ?_
          go_wp2_with fail
          go_meet
          exact ⟨V5.heap.size, W2.heap.size, V3.heap.size, V4.heap.size, rfl, H.fin hb2 hg9 hS9⟩
        · skip
          refine mixA_only rfl (fun K hK => ?_)
          refine wpList_allocSta rfl rfl ?_
          simp only [Act.put, List.setIfInBounds_toArray, List.set_cons_zero, List.set_cons_succ]
          refine hK _ _ (below_plus H.sta.1) ?_
          clear hK K
          refine mixA_at (fun V => NF W2 V (some W2.heap.size) (some V3.heap.size) none (some V4.heap.size)) H.sta ?_
          clear H
          intro V7 H
          refine mixA_only rfl (fun K hK => ?_)
          refine wpList_buildGra rfl (.tmp 39) rfl rfl ?_
          simp only [Act.put, List.setIfInBounds_toArray, List.set_cons_zero, List.set_cons_succ]
          refine hK _ _ (below_plus H.gra.1) ?_
          clear hK K
          refine mixA_at (fun V => NF W2 V (some W2.heap.size) (some V3.heap.size) (some V7.heap.size) (some V4.heap.size)) H.gra ?_
          clear H
          intro V8 H
          refine mixA_plain rfl ?_
          go_big_quiet_step (fail)
          refine wpQuiet_nil ?_
          refine mixA_only rfl (fun K hK => ?_)
          refine wpList_storeB rfl rfl 32 (.tmp 4) (.tmp 41) rfl V4.heap.size 0 rfl (staC nilS (.slice (some ⟨W2.heap.size, 0, none⟩) 16 16) (.slice (some ⟨V3.heap.size, 0, none⟩) 16 16) (.slice (some ⟨V7.heap.size, 0, none⟩) 1 1)) rfl _ _ (H.2.2.2.2 _ rfl).2 (by kernel_rfl) (by rw [staC_size, staC_size]; omega) (staC_one _ _ _ _ rfl rfl rfl) ?_
          intro W9 hS9 hg9
          refine hK _ _ (below_plus (below_only H.1 hg9 (H.2.2.2.2 _ rfl).1 H.1.size)) ?_
          clear hK K
          refine mixA_done ?_
          go_wp2_with fail
          go_meet
          exact ⟨V4.heap.size, W2.heap.size, V3.heap.size, V7.heap.size, rfl, H.fin hb2 hg9 hS9⟩
      · skip
        refine mixA_more rfl (fun K hK => ?_) ?_
        · skip
          refine wpList_buildGra rfl (.tmp 39) rfl rfl ?_
          simp only [Act.put, List.setIfInBounds_toArray, List.set_cons_zero, List.set_cons_succ]
          refine hK _ _ (below_plus H.gra.1) ?_
          clear hK K
          refine mixA_at (fun V => NF W2 V (some W2.heap.size) none (some V3.heap.size) none) H.gra ?_
          clear H
          intro V9 H
          refine mixA_more rfl (fun K hK => ?_) ?_
          · skip
            refine wpList_makeR rfl 29 49 _ _ rfl Tryd.underlying29 zTreC 200 info_tre (by decide) .i64 .i64 16 rfl rfl (by decide) (by decide) ?_
            simp only [Act.put, List.setIfInBounds_toArray, List.set_cons_zero, List.set_cons_succ]
            refine hK _ _ (below_plus H.tre.1) ?_
            clear hK K
            refine mixA_at (fun V => NF W2 V (some W2.heap.size) (some V9.heap.size) (some V3.heap.size) none) H.tre ?_
            clear H
            intro V10 H
            refine mixA_plain rfl ?_
            go_big_quiet_step (fail)
            refine wpQuiet_nil ?_
            refine mixA_only rfl (fun K hK => ?_)
            refine wpList_allocSta rfl rfl ?_
            simp only [Act.put, List.setIfInBounds_toArray, List.set_cons_zero, List.set_cons_succ]
            refine hK _ _ (below_plus H.sta.1) ?_
            clear hK K
            refine mixA_at (fun V => NF W2 V (some W2.heap.size) (some V9.heap.size) (some V3.heap.size) (some V10.heap.size)) H.sta ?_
            clear H
            intro V11 H
            refine mixA_only rfl (fun K hK => ?_)
            refine wpList_storeB rfl rfl 32 (.tmp 4) (.tmp 41) rfl V10.heap.size 0 rfl (staC nilS (.slice (some ⟨W2.heap.size, 0, none⟩) 16 16) (.slice (some ⟨V9.heap.size, 0, none⟩) 16 16) (.slice (some ⟨V3.heap.size, 0, none⟩) 1 1)) rfl _ _ (H.2.2.2.2 _ rfl).2 (by kernel_rfl) (by rw [staC_size, staC_size]; omega) (staC_one _ _ _ _ rfl rfl rfl) ?_
            intro W9 hS9 hg9
            refine hK _ _ (below_plus (below_only H.1 hg9 (H.2.2.2.2 _ rfl).1 H.1.size)) ?_
            clear hK K
            refine mixA_done ?_
            go_wp2_with fail
            go_meet
            exact ⟨V10.heap.size, W2.heap.size, V9.heap.size, V3.heap.size, rfl, H.fin hb2 hg9 hS9⟩
          · skip
            refine mixA_only rfl (fun K hK => ?_)
            refine wpList_allocSta rfl rfl ?_
            simp only [Act.put, List.setIfInBounds_toArray, List.set_cons_zero, List.set_cons_succ]
            refine hK _ _ (below_plus H.sta.1) ?_
            clear hK K
            refine mixA_at (fun V => NF W2 V (some W2.heap.size) none (some V3.heap.size) (some V9.heap.size)) H.sta ?_
            clear H
            intro V12 H
            refine mixA_only rfl (fun K hK => ?_)
            refine wpList_makeR rfl 29 49 _ _ rfl Tryd.underlying29 zTreC 200 info_tre (by decide) .i64 .i64 16 rfl rfl (by decide) (by decide) ?_
            simp only [Act.put, List.setIfInBounds_toArray, List.set_cons_zero, List.set_cons_succ]
            refine hK _ _ (below_plus H.tre.1) ?_
            clear hK K
            refine mixA_at (fun V => NF W2 V (some W2.heap.size) (some V12.heap.size) (some V3.heap.size) (some V9.heap.size)) H.tre ?_
            clear H
            intro V13 H
            refine mixA_plain rfl ?_
            go_big_quiet_step (fail)
            refine wpQuiet_nil ?_
            refine mixA_only rfl (fun K hK => ?_)
            refine wpList_storeB rfl rfl 32 (.tmp 4) (.tmp 41) rfl V9.heap.size 0 rfl (staC nilS (.slice (some ⟨W2.heap.size, 0, none⟩) 16 16) (.slice (some ⟨V12.heap.size, 0, none⟩) 16 16) (.slice (some ⟨V3.heap.size, 0, none⟩) 1 1)) rfl _ _ (H.2.2.2.2 _ rfl).2 (by kernel_rfl) (by rw [staC_size, staC_size]; omega) (staC_one _ _ _ _ rfl rfl rfl) ?_
            intro W9 hS9 hg9
            refine hK _ _ (below_plus (below_only H.1 hg9 (H.2.2.2.2 _ rfl).1 H.1.size)) ?_
            clear hK K
            refine mixA_done ?_
            go_wp2_with fail
            go_meet
            exact ⟨V9.heap.size, W2.heap.size, V12.heap.size, V3.heap.size, rfl, H.fin hb2 hg9 hS9⟩
        · skip
          refine mixA_only rfl (fun K hK => ?_)
          refine wpList_allocSta rfl rfl ?_
          simp only [Act.put, List.setIfInBounds_toArray, List.set_cons_zero, List.set_cons_succ]
          refine hK _ _ (below_plus H.sta.1) ?_
          clear hK K
          refine mixA_at (fun V => NF W2 V (some W2.heap.size) none none (some V3.heap.size)) H.sta ?_
          clear H
          intro V14 H
          refine mixA_more rfl (fun K hK => ?_) ?_
          · skip
            refine wpList_makeR rfl 29 49 _ _ rfl Tryd.underlying29 zTreC 200 info_tre (by decide) .i64 .i64 16 rfl rfl (by decide) (by decide) ?_
            simp only [Act.put, List.setIfInBounds_toArray, List.set_cons_zero, List.set_cons_succ]
            refine hK _ _ (below_plus H.tre.1) ?_
            clear hK K
            refine mixA_at (fun V => NF W2 V (some W2.heap.size) (some V14.heap.size) none (some V3.heap.size)) H.tre ?_
            clear H
            intro V15 H
            refine mixA_only rfl (fun K hK => ?_)
            refine wpList_buildGra rfl (.tmp 39) rfl rfl ?_
            simp only [Act.put, List.setIfInBounds_toArray, List.set_cons_zero, List.set_cons_succ]
            refine hK _ _ (below_plus H.gra.1) ?_
            clear hK K
            refine mixA_at (fun V => NF W2 V (some W2.heap.size) (some V14.heap.size) (some V15.heap.size) (some V3.heap.size)) H.gra ?_
            clear H
            intro V16 H
            refine mixA_plain rfl ?_
            go_big_quiet_step (fail)
            refine wpQuiet_nil ?_
            refine mixA_only rfl (fun K hK => ?_)
            refine wpList_storeB rfl rfl 32 (.tmp 4) (.tmp 41) rfl V3.heap.size 0 rfl (staC nilS (.slice (some ⟨W2.heap.size, 0, none⟩) 16 16) (.slice (some ⟨V14.heap.size, 0, none⟩) 16 16) (.slice (some ⟨V15.heap.size, 0, none⟩) 1 1)) rfl _ _ (H.2.2.2.2 _ rfl).2 (by kernel_rfl) (by rw [staC_size, staC_size]; omega) (staC_one _ _ _ _ rfl rfl rfl) ?_
            intro W9 hS9 hg9
            refine hK _ _ (below_plus (below_only H.1 hg9 (H.2.2.2.2 _ rfl).1 H.1.size)) ?_
            clear hK K
            refine mixA_done ?_
            go_wp2_with fail
            go_meet
            exact ⟨V3.heap.size, W2.heap.size, V14.heap.size, V15.heap.size, rfl, H.fin hb2 hg9 hS9⟩
          · skip
            refine mixA_only rfl (fun K hK => ?_)
            refine wpList_buildGra rfl (.tmp 39) rfl rfl ?_
            simp only [Act.put, List.setIfInBounds_toArray, List.set_cons_zero, List.set_cons_succ]
            refine hK _ _ (below_plus H.gra.1) ?_
            clear hK K
            refine mixA_at (fun V => NF W2 V (some W2.heap.size) none (some V14.heap.size) (some V3.heap.size)) H.gra ?_
            clear H
            intro V17 H
            refine mixA_only rfl (fun K hK => ?_)
            refine wpList_makeR rfl 29 49 _ _ rfl Tryd.underlying29 zTreC 200 info_tre (by decide) .i64 .i64 16 rfl rfl (by decide) (by decide) ?_
            simp only [Act.put, List.setIfInBounds_toArray, List.set_cons_zero, List.set_cons_succ]
            refine hK _ _ (below_plus H.tre.1) ?_
            clear hK K
            refine mixA_at (fun V => NF W2 V (some W2.heap.size) (some V17.heap.size) (some V14.heap.size) (some V3.heap.size)) H.tre ?_
            clear H
            intro V18 H
            refine mixA_plain rfl ?_
            go_big_quiet_step (fail)
            refine wpQuiet_nil ?_
            refine mixA_only rfl (fun K hK => ?_)
            refine wpList_storeB rfl rfl 32 (.tmp 4) (.tmp 41) rfl V3.heap.size 0 rfl (staC nilS (.slice (some ⟨W2.heap.size, 0, none⟩) 16 16) (.slice (some ⟨V17.heap.size, 0, none⟩) 16 16) (.slice (some ⟨V14.heap.size, 0, none⟩) 1 1)) rfl _ _ (H.2.2.2.2 _ rfl).2 (by kernel_rfl) (by rw [staC_size, staC_size]; omega) (staC_one _ _ _ _ rfl rfl rfl) ?_
            intro W9 hS9 hg9
            refine hK _ _ (below_plus (below_only H.1 hg9 (H.2.2.2.2 _ rfl).1 H.1.size)) ?_
            clear hK K
            refine mixA_done ?_
            go_wp2_with fail
            go_meet
            exact ⟨V3.heap.size, W2.heap.size, V17.heap.size, V14.heap.size, rfl, H.fin hb2 hg9 hS9⟩
    · skip
      refine mixA_more rfl (fun K hK => ?_) ?_
      · skip
        refine wpList_makeR rfl 29 49 _ _ rfl Tryd.underlying29 zTreC 200 info_tre (by decide) .i64 .i64 16 rfl rfl (by decide) (by decide) ?_
        simp only [Act.put, List.setIfInBounds_toArray, List.set_cons_zero, List.set_cons_succ]
        refine hK _ _ (below_plus H.tre.1) ?_
        clear hK K
        refine mixA_at (fun V => NF W2 V none (some W2.heap.size) none none) H.tre ?_
        clear H
        intro V19 H
        refine mixA_more rfl (fun K hK => ?_) ?_
        · skip
          refine wpList_makeR rfl 28 73 _ _ rfl Tryd.underlying28 (tenC zeroTen) 24 info_ten (by decide) .i64 .i64 16 rfl rfl (by decide) (by decide) ?_
          simp only [Act.put, List.setIfInBounds_toArray, List.set_cons_zero, List.set_cons_succ]
          refine hK _ _ (below_plus H.ten.1) ?_
          clear hK K
          refine mixA_at (fun V => NF W2 V (some V19.heap.size) (some W2.heap.size) none none) H.ten ?_
          clear H
          intro V20 H
          refine mixA_more rfl (fun K hK => ?_) ?_
          · skip
            refine wpList_buildGra rfl (.tmp 39) rfl rfl ?_
            simp only [Act.put, List.setIfInBounds_toArray, List.set_cons_zero, List.set_cons_succ]
            refine hK _ _ (below_plus H.gra.1) ?_
            clear hK K
            refine mixA_at (fun V => NF W2 V (some V19.heap.size) (some W2.heap.size) (some V20.heap.size) none) H.gra ?_
            clear H
            intro V21 H
            refine mixA_plain rfl ?_
            go_big_quiet_step (fail)
            refine wpQuiet_nil ?_
            refine mixA_only rfl (fun K hK => ?_)
            refine wpList_allocSta rfl rfl ?_
            simp only [Act.put, List.setIfInBounds_toArray, List.set_cons_zero, List.set_cons_succ]
            refine hK _ _ (below_plus H.sta.1) ?_
            clear hK K
            refine mixA_at (fun V => NF W2 V (some V19.heap.size) (some W2.heap.size) (some V20.heap.size) (some V21.heap.size)) H.sta ?_
            clear H
            intro V22 H
            refine mixA_only rfl (fun K hK => ?_)
            refine wpList_storeB rfl rfl 32 (.tmp 4) (.tmp 41) rfl V21.heap.size 0 rfl (staC nilS (.slice (some ⟨V19.heap.size, 0, none⟩) 16 16) (.slice (some ⟨W2.heap.size, 0, none⟩) 16 16) (.slice (some ⟨V20.heap.size, 0, none⟩) 1 1)) rfl _ _ (H.2.2.2.2 _ rfl).2 (by kernel_rfl) (by rw [staC_size, staC_size]; omega) (staC_one _ _ _ _ rfl rfl rfl) ?_
            intro W9 hS9 hg9
            refine hK _ _ (below_plus (below_only H.1 hg9 (H.2.2.2.2 _ rfl).1 H.1.size)) ?_
            clear hK K
            refine mixA_done ?_
            go_wp2_with fail
            go_meet
            exact ⟨V21.heap.size, V19.heap.size, W2.heap.size, V20.heap.size, rfl, H.fin hb2 hg9 hS9⟩
          · skip
            refine mixA_only rfl (fun K hK => ?_)
            refine wpList_allocSta rfl rfl ?_
            simp only [Act.put, List.setIfInBounds_toArray, List.set_cons_zero, List.set_cons_succ]
            refine hK _ _ (below_plus H.sta.1) ?_
            clear hK K
            refine mixA_at (fun V => NF W2 V (some V19.heap.size) (some W2.heap.size) none (some V20.heap.size)) H.sta ?_
            clear H
            intro V23 H
            refine mixA_only rfl (fun K hK => ?_)
            refine wpList_buildGra rfl (.tmp 39) rfl rfl ?_
            simp only [Act.put, List.setIfInBounds_toArray, List.set_cons_zero, List.set_cons_succ]
            refine hK _ _ (below_plus H.gra.1) ?_
            clear hK K
            refine mixA_at (fun V => NF W2 V (some V19.heap.size) (some W2.heap.size) (some V23.heap.size) (some V20.heap.size)) H.gra ?_
            clear H
            intro V24 H
            refine mixA_plain rfl ?_
            go_big_quiet_step (fail)
            refine wpQuiet_nil ?_
            refine mixA_only rfl (fun K hK => ?_)
            refine wpList_storeB rfl rfl 32 (.tmp 4) (.tmp 41) rfl V20.heap.size 0 rfl (staC nilS (.slice (some ⟨V19.heap.size, 0, none⟩) 16 16) (.slice (some ⟨W2.heap.size, 0, none⟩) 16 16) (.slice (some ⟨V23.heap.size, 0, none⟩) 1 1)) rfl _ _ (H.2.2.2.2 _ rfl).2 (by kernel_rfl) (by rw [staC_size, staC_size]; omega) (staC_one _ _ _ _ rfl rfl rfl) ?_
            intro W9 hS9 hg9
            refine hK _ _ (below_plus (below_only H.1 hg9 (H.2.2.2.2 _ rfl).1 H.1.size)) ?_
            clear hK K
            refine mixA_done ?_
            go_wp2_with fail
            go_meet
            exact ⟨V20.heap.size, V19.heap.size, W2.heap.size, V23.heap.size, rfl, H.fin hb2 hg9 hS9⟩
        · skip
          refine mixA_more rfl (fun K hK => ?_) ?_
          · skip
            refine wpList_buildGra rfl (.tmp 39) rfl rfl ?_
            simp only [Act.put, List.setIfInBounds_toArray, List.set_cons_zero, List.set_cons_succ]
            refine hK _ _ (below_plus H.gra.1) ?_
            clear hK K
            refine mixA_at (fun V => NF W2 V none (some W2.heap.size) (some V19.heap.size) none) H.gra ?_
            clear H
            intro V25 H
            refine mixA_more rfl (fun K hK => ?_) ?_
            · skip
              refine wpList_makeR rfl 28 73 _ _ rfl Tryd.underlying28 (tenC zeroTen) 24 info_ten (by decide) .i64 .i64 16 rfl rfl (by decide) (by decide) ?_
              simp only [Act.put, List.setIfInBounds_toArray, List.set_cons_zero, List.set_cons_succ]
              refine hK _ _ (below_plus H.ten.1) ?_
              clear hK K
              refine mixA_at (fun V => NF W2 V (some V25.heap.size) (some W2.heap.size) (some V19.heap.size) none) H.ten ?_
              clear H
              intro V26 H
              refine mixA_plain rfl ?_
              go_big_quiet_step (fail)
              refine wpQuiet_nil ?_
              refine mixA_only rfl (fun K hK => ?_)
              refine wpList_allocSta rfl rfl ?_
              simp only [Act.put, List.setIfInBounds_toArray, List.set_cons_zero, List.set_cons_succ]
              refine hK _ _ (below_plus H.sta.1) ?_
              clear hK K
              refine mixA_at (fun V => NF W2 V (some V25.heap.size) (some W2.heap.size) (some V19.heap.size) (some V26.heap.size)) H.sta ?_
              clear H
              intro V27 H
              refine mixA_only rfl (fun K hK => ?_)
              refine wpList_storeB rfl rfl 32 (.tmp 4) (.tmp 41) rfl V26.heap.size 0 rfl (staC nilS (.slice (some ⟨V25.heap.size, 0, none⟩) 16 16) (.slice (some ⟨W2.heap.size, 0, none⟩) 16 16) (.slice (some ⟨V19.heap.size, 0, none⟩) 1 1)) rfl _ _ (H.2.2.2.2 _ rfl).2 (by kernel_rfl) (by rw [staC_size, staC_size]; omega) (staC_one _ _ _ _ rfl rfl rfl) ?_
              intro W9 hS9 hg9
              refine hK _ _ (below_plus (below_only H.1 hg9 (H.2.2.2.2 _ rfl).1 H.1.size)) ?_
              clear hK K
              refine mixA_done ?_
              go_wp2_with fail
              go_meet
              exact ⟨V26.heap.size, V25.heap.size, W2.heap.size, V19.heap.size, rfl, H.fin hb2 hg9 hS9⟩
            · skip
              refine mixA_only rfl (fun K hK => ?_)
              refine wpList_allocSta rfl rfl ?_
              simp only [Act.put, List.setIfInBounds_toArray, List.set_cons_zero, List.set_cons_succ]
              refine hK _ _ (below_plus H.sta.1) ?_
              clear hK K
              refine mixA_at (fun V => NF W2 V none (some W2.heap.size) (some V19.heap.size) (some V25.heap.size)) H.sta ?_
              clear H
              intro V28 H
              refine mixA_only rfl (fun K hK => ?_)
              refine wpList_makeR rfl 28 73 _ _ rfl Tryd.underlying28 (tenC zeroTen) 24 info_ten (by decide) .i64 .i64 16 rfl rfl (by decide) (by decide) ?_
              simp only [Act.put, List.setIfInBounds_toArray, List.set_cons_zero, List.set_cons_succ]
              refine hK _ _ (below_plus H.ten.1) ?_
              clear hK K
              refine mixA_at (fun V => NF W2 V (some V28.heap.size) (some W2.heap.size) (some V19.heap.size) (some V25.heap.size)) H.ten ?_
              clear H
              intro V29 H
              refine mixA_plain rfl ?_
              go_big_quiet_step (fail)
              refine wpQuiet_nil ?_
              refine mixA_only rfl (fun K hK => ?_)
              refine wpList_storeB rfl rfl 32 (.tmp 4) (.tmp 41) rfl V25.heap.size 0 rfl (staC nilS (.slice (some ⟨V28.heap.size, 0, none⟩) 16 16) (.slice (some ⟨W2.heap.size, 0, none⟩) 16 16) (.slice (some ⟨V19.heap.size, 0, none⟩) 1 1)) rfl _ _ (H.2.2.2.2 _ rfl).2 (by kernel_rfl) (by rw [staC_size, staC_size]; omega) (staC_one _ _ _ _ rfl rfl rfl) ?_
              intro W9 hS9 hg9
              refine hK _ _ (below_plus (below_only H.1 hg9 (H.2.2.2.2 _ rfl).1 H.1.size)) ?_
              clear hK K
              refine mixA_done ?_
              go_wp2_with fail
              go_meet
              exact ⟨V25.heap.size, V28.heap.size, W2.heap.size, V19.heap.size, rfl, H.fin hb2 hg9 hS9⟩
          · skip
            refine mixA_only rfl (fun K hK => ?_)
            refine wpList_allocSta rfl rfl ?_
            simp only [Act.put, List.setIfInBounds_toArray, List.set_cons_zero, List.set_cons_succ]
            refine hK _ _ (below_plus H.sta.1) ?_
            clear hK K
            refine mixA_at (fun V => NF W2 V none (some W2.heap.size) none (some V19.heap.size)) H.sta ?_
            clear H
            intro V30 H
            refine mixA_more rfl (fun K hK => ?_) ?_
            · skip
              refine wpList_makeR rfl 28 73 _ _ rfl Tryd.underlying28 (tenC zeroTen) 24 info_ten (by decide) .i64 .i64 16 rfl rfl (by decide) (by decide) ?_
              simp only [Act.put, List.setIfInBounds_toArray, List.set_cons_zero, List.set_cons_succ]
              refine hK _ _ (below_plus H.ten.1) ?_
              clear hK K
              refine mixA_at (fun V => NF W2 V (some V30.heap.size) (some W2.heap.size) none (some V19.heap.size)) H.ten ?_
              clear H
              intro V31 H
              refine mixA_only rfl (fun K hK => ?_)
              refine wpList_buildGra rfl (.tmp 39) rfl rfl ?_
              simp only [Act.put, List.setIfInBounds_toArray, List.set_cons_zero, List.set_cons_succ]
              refine hK _ _ (below_plus H.gra.1) ?_
              clear hK K
              refine mixA_at (fun V => NF W2 V (some V30.heap.size) (some W2.heap.size) (some V31.heap.size) (some V19.heap.size)) H.gra ?_
              clear H
              intro V32 H
              refine mixA_plain rfl ?_
              go_big_quiet_step (fail)
              refine wpQuiet_nil ?_
              refine mixA_only rfl (fun K hK => ?_)
              refine wpList_storeB rfl rfl 32 (.tmp 4) (.tmp 41) rfl V19.heap.size 0 rfl (staC nilS (.slice (some ⟨V30.heap.size, 0, none⟩) 16 16) (.slice (some ⟨W2.heap.size, 0, none⟩) 16 16) (.slice (some ⟨V31.heap.size, 0, none⟩) 1 1)) rfl _ _ (H.2.2.2.2 _ rfl).2 (by kernel_rfl) (by rw [staC_size, staC_size]; omega) (staC_one _ _ _ _ rfl rfl rfl) ?_
              intro W9 hS9 hg9
              refine hK _ _ (below_plus (below_only H.1 hg9 (H.2.2.2.2 _ rfl).1 H.1.size)) ?_
              clear hK K
              refine mixA_done ?_
              go_wp2_with fail
              go_meet
              exact ⟨V19.heap.size, V30.heap.size, W2.heap.size, V31.heap.size, rfl, H.fin hb2 hg9 hS9⟩
            · skip
              refine mixA_only rfl (fun K hK => ?_)
              refine wpList_buildGra rfl (.tmp 39) rfl rfl ?_
              simp only [Act.put, List.setIfInBounds_toArray, List.set_cons_zero, List.set_cons_succ]
              refine hK _ _ (below_plus H.gra.1) ?_
              clear hK K
              refine mixA_at (fun V => NF W2 V none (some W2.heap.size) (some V30.heap.size) (some V19.heap.size)) H.gra ?_
              clear H
              intro V33 H
              refine mixA_only rfl (fun K hK => ?_)
              refine wpList_makeR rfl 28 73 _ _ rfl Tryd.underlying28 (tenC zeroTen) 24 info_ten (by decide) .i64 .i64 16 rfl rfl (by decide) (by decide) ?_
              simp only [Act.put, List.setIfInBounds_toArray, List.set_cons_zero, List.set_cons_succ]
              refine hK _ _ (below_plus H.ten.1) ?_
              clear hK K
              refine mixA_at (fun V => NF W2 V (some V33.heap.size) (some W2.heap.size) (some V30.heap.size) (some V19.heap.size)) H.ten ?_
              clear H
              intro V34 H
              refine mixA_plain rfl ?_
              go_big_quiet_step (fail)
              refine wpQuiet_nil ?_
              refine mixA_only rfl (fun K hK => ?_)
              refine wpList_storeB rfl rfl 32 (.tmp 4) (.tmp 41) rfl V19.heap.size 0 rfl (staC nilS (.slice (some ⟨V33.heap.size, 0, none⟩) 16 16) (.slice (some ⟨W2.heap.size, 0, none⟩) 16 16) (.slice (some ⟨V30.heap.size, 0, none⟩) 1 1)) rfl _ _ (H.2.2.2.2 _ rfl).2 (by kernel_rfl) (by rw [staC_size, staC_size]; omega) (staC_one _ _ _ _ rfl rfl rfl) ?_
              intro W9 hS9 hg9
              refine hK _ _ (below_plus (below_only H.1 hg9 (H.2.2.2.2 _ rfl).1 H.1.size)) ?_
              clear hK K
              refine mixA_done ?_
              go_wp2_with fail
              go_meet
              exact ⟨V19.heap.size, V33.heap.size, W2.heap.size, V30.heap.size, rfl, H.fin hb2 hg9 hS9⟩
      · skip
        refine mixA_more rfl (fun K hK => ?_) ?_
        · skip
          refine wpList_buildGra rfl (.tmp 39) rfl rfl ?_
          simp only [Act.put, List.setIfInBounds_toArray, List.set_cons_zero, List.set_cons_succ]
          refine hK _ _ (below_plus H.gra.1) ?_
          clear hK K
          refine mixA_at (fun V => NF W2 V none none (some W2.heap.size) none) H.gra ?_
          clear H
          intro V35 H
          refine mixA_more rfl (fun K hK => ?_) ?_
          · skip
            refine wpList_makeR rfl 28 73 _ _ rfl Tryd.underlying28 (tenC zeroTen) 24 info_ten (by decide) .i64 .i64 16 rfl rfl (by decide) (by decide) ?_
            simp only [Act.put, List.setIfInBounds_toArray, List.set_cons_zero, List.set_cons_succ]
            refine hK _ _ (below_plus H.ten.1) ?_
            clear hK K
            refine mixA_at (fun V => NF W2 V (some V35.heap.size) none (some W2.heap.size) none) H.ten ?_
            clear H
            intro V36 H
            refine mixA_more rfl (fun K hK => ?_) ?_
            · skip
              refine wpList_makeR rfl 29 49 _ _ rfl Tryd.underlying29 zTreC 200 info_tre (by decide) .i64 .i64 16 rfl rfl (by decide) (by decide) ?_
              simp only [Act.put, List.setIfInBounds_toArray, List.set_cons_zero, List.set_cons_succ]
              refine hK _ _ (below_plus H.tre.1) ?_
              clear hK K
              refine mixA_at (fun V => NF W2 V (some V35.heap.size) (some V36.heap.size) (some W2.heap.size) none) H.tre ?_
              clear H
              intro V37 H
              refine mixA_plain rfl ?_
              go_big_quiet_step (fail)
              refine wpQuiet_nil ?_
              refine mixA_only rfl (fun K hK => ?_)
              refine wpList_allocSta rfl rfl ?_
              simp only [Act.put, List.setIfInBounds_toArray, List.set_cons_zero, List.set_cons_succ]
              refine hK _ _ (below_plus H.sta.1) ?_
              clear hK K
              refine mixA_at (fun V => NF W2 V (some V35.heap.size) (some V36.heap.size) (some W2.heap.size) (some V37.heap.size)) H.sta ?_
              clear H
              intro V38 H
              refine mixA_only rfl (fun K hK => ?_)
              refine wpList_storeB rfl rfl 32 (.tmp 4) (.tmp 41) rfl V37.heap.size 0 rfl (staC nilS (.slice (some ⟨V35.heap.size, 0, none⟩) 16 16) (.slice (some ⟨V36.heap.size, 0, none⟩) 16 16) (.slice (some ⟨W2.heap.size, 0, none⟩) 1 1)) rfl _ _ (H.2.2.2.2 _ rfl).2 (by kernel_rfl) (by rw [staC_size, staC_size]; omega) (staC_one _ _ _ _ rfl rfl rfl) ?_
              intro W9 hS9 hg9
              refine hK _ _ (below_plus (below_only H.1 hg9 (H.2.2.2.2 _ rfl).1 H.1.size)) ?_
              clear hK K
              refine mixA_done ?_
              go_wp2_with fail
              go_meet
              exact ⟨V37.heap.size, V35.heap.size, V36.heap.size, W2.heap.size, rfl, H.fin hb2 hg9 hS9⟩
            · skip
              refine mixA_only rfl (fun K hK => ?_)
              refine wpList_allocSta rfl rfl ?_
              simp only [Act.put, List.setIfInBounds_toArray, List.set_cons_zero, List.set_cons_succ]
              refine hK _ _ (below_plus H.sta.1) ?_
              clear hK K
              refine mixA_at (fun V => NF W2 V (some V35.heap.size) none (some W2.heap.size) (some V36.heap.size)) H.sta ?_
              clear H
              intro V39 H
              refine mixA_only rfl (fun K hK => ?_)
              refine wpList_makeR rfl 29 49 _ _ rfl Tryd.underlying29 zTreC 200 info_tre (by decide) .i64 .i64 16 rfl rfl (by decide) (by decide) ?_
              simp only [Act.put, List.setIfInBounds_toArray, List.set_cons_zero, List.set_cons_succ]
              refine hK _ _ (below_plus H.tre.1) ?_
              clear hK K
              refine mixA_at (fun V => NF W2 V (some V35.heap.size) (some V39.heap.size) (some W2.heap.size) (some V36.heap.size)) H.tre ?_
              clear H
              intro V40 H
              refine mixA_plain rfl ?_
              go_big_quiet_step (fail)
              refine wpQuiet_nil ?_
              refine mixA_only rfl (fun K hK => ?_)
              refine wpList_storeB rfl rfl 32 (.tmp 4) (.tmp 41) rfl V36.heap.size 0 rfl (staC nilS (.slice (some ⟨V35.heap.size, 0, none⟩) 16 16) (.slice (some ⟨V39.heap.size, 0, none⟩) 16 16) (.slice (some ⟨W2.heap.size, 0, none⟩) 1 1)) rfl _ _ (H.2.2.2.2 _ rfl).2 (by kernel_rfl) (by rw [staC_size, staC_size]; omega) (staC_one _ _ _ _ rfl rfl rfl) ?_
              intro W9 hS9 hg9
              refine hK _ _ (below_plus (below_only H.1 hg9 (H.2.2.2.2 _ rfl).1 H.1.size)) ?_
              clear hK K
              refine mixA_done ?_
              go_wp2_with fail
              go_meet
              exact ⟨V36.heap.size, V35.heap.size, V39.heap.size, W2.heap.size, rfl, H.fin hb2 hg9 hS9⟩
          · skip
            refine mixA_more rfl (fun K hK => ?_) ?_
            · skip
              refine wpList_makeR rfl 29 49 _ _ rfl Tryd.underlying29 zTreC 200 info_tre (by decide) .i64 .i64 16 rfl rfl (by decide) (by decide) ?_
              simp only [Act.put, List.setIfInBounds_toArray, List.set_cons_zero, List.set_cons_succ]
              refine hK _ _ (below_plus H.tre.1) ?_
              clear hK K
              refine mixA_at (fun V => NF W2 V none (some V35.heap.size) (some W2.heap.size) none) H.tre ?_
              clear H
              intro V41 H
              refine mixA_more rfl (fun K hK => ?_) ?_
              · skip
                refine wpList_makeR rfl 28 73 _ _ rfl Tryd.underlying28 (tenC zeroTen) 24 info_ten (by decide) .i64 .i64 16 rfl rfl (by decide) (by decide) ?_
                simp only [Act.put, List.setIfInBounds_toArray, List.set_cons_zero, List.set_cons_succ]
                refine hK _ _ (below_plus H.ten.1) ?_
                clear hK K
                refine mixA_at (fun V => NF W2 V (some V41.heap.size) (some V35.heap.size) (some W2.heap.size) none) H.ten ?_
                clear H
                intro V42 H
                refine mixA_plain rfl ?_
                go_big_quiet_step (fail)
                refine wpQuiet_nil ?_
                refine mixA_only rfl (fun K hK => ?_)
                refine wpList_allocSta rfl rfl ?_
                simp only [Act.put, List.setIfInBounds_toArray, List.set_cons_zero, List.set_cons_succ]
                refine hK _ _ (below_plus H.sta.1) ?_
                clear hK K
                refine mixA_at (fun V => NF W2 V (some V41.heap.size) (some V35.heap.size) (some W2.heap.size) (some V42.heap.size)) H.sta ?_
                clear H
                intro V43 H
                refine mixA_only rfl (fun K hK => ?_)
                refine wpList_storeB rfl rfl 32 (.tmp 4) (.tmp 41) rfl V42.heap.size 0 rfl (staC nilS (.slice (some ⟨V41.heap.size, 0, none⟩) 16 16) (.slice (some ⟨V35.heap.size, 0, none⟩) 16 16) (.slice (some ⟨W2.heap.size, 0, none⟩) 1 1)) rfl _ _ (H.2.2.2.2 _ rfl).2 (by kernel_rfl) (by rw [staC_size, staC_size]; omega) (staC_one _ _ _ _ rfl rfl rfl) ?_
                intro W9 hS9 hg9
                refine hK _ _ (below_plus (below_only H.1 hg9 (H.2.2.2.2 _ rfl).1 H.1.size)) ?_
                clear hK K
                refine mixA_done ?_
                go_wp2_with fail
                go_meet
                exact ⟨V42.heap.size, V41.heap.size, V35.heap.size, W2.heap.size, rfl, H.fin hb2 hg9 hS9⟩
              · skip
                refine mixA_only rfl (fun K hK => ?_)
                refine wpList_allocSta rfl rfl ?_
                simp only [Act.put, List.setIfInBounds_toArray, List.set_cons_zero, List.set_cons_succ]
                refine hK _ _ (below_plus H.sta.1) ?_
                clear hK K
                refine mixA_at (fun V => NF W2 V none (some V35.heap.size) (some W2.heap.size) (some V41.heap.size)) H.sta ?_
                clear H
                intro V44 H
                refine mixA_only rfl (fun K hK => ?_)
                refine wpList_makeR rfl 28 73 _ _ rfl Tryd.underlying28 (tenC zeroTen) 24 info_ten (by decide) .i64 .i64 16 rfl rfl (by decide) (by decide) ?_
                simp only [Act.put, List.setIfInBounds_toArray, List.set_cons_zero, List.set_cons_succ]
                refine hK _ _ (below_plus H.ten.1) ?_
                clear hK K
                refine mixA_at (fun V => NF W2 V (some V44.heap.size) (some V35.heap.size) (some W2.heap.size) (some V41.heap.size)) H.ten ?_
                clear H
                intro V45 H
                refine mixA_plain rfl ?_
                go_big_quiet_step (fail)
                refine wpQuiet_nil ?_
                refine mixA_only rfl (fun K hK => ?_)
                refine wpList_storeB rfl rfl 32 (.tmp 4) (.tmp 41) rfl V41.heap.size 0 rfl (staC nilS (.slice (some ⟨V44.heap.size, 0, none⟩) 16 16) (.slice (some ⟨V35.heap.size, 0, none⟩) 16 16) (.slice (some ⟨W2.heap.size, 0, none⟩) 1 1)) rfl _ _ (H.2.2.2.2 _ rfl).2 (by kernel_rfl) (by rw [staC_size, staC_size]; omega) (staC_one _ _ _ _ rfl rfl rfl) ?_
                intro W9 hS9 hg9
                refine hK _ _ (below_plus (below_only H.1 hg9 (H.2.2.2.2 _ rfl).1 H.1.size)) ?_
                clear hK K
                refine mixA_done ?_
                go_wp2_with fail
                go_meet
                exact ⟨V41.heap.size, V44.heap.size, V35.heap.size, W2.heap.size, rfl, H.fin hb2 hg9 hS9⟩
            · skip
              refine mixA_only rfl (fun K hK => ?_)
              refine wpList_allocSta rfl rfl ?_
              simp only [Act.put, List.setIfInBounds_toArray, List.set_cons_zero, List.set_cons_succ]
              refine hK _ _ (below_plus H.sta.1) ?_
              clear hK K
              refine mixA_at (fun V => NF W2 V none none (some W2.heap.size) (some V35.heap.size)) H.sta ?_
              clear H
              intro V46 H
              refine mixA_more rfl (fun K hK => ?_) ?_
              · skip
                refine wpList_makeR rfl 28 73 _ _ rfl Tryd.underlying28 (tenC zeroTen) 24 info_ten (by decide) .i64 .i64 16 rfl rfl (by decide) (by decide) ?_
                simp only [Act.put, List.setIfInBounds_toArray, List.set_cons_zero, List.set_cons_succ]
                refine hK _ _ (below_plus H.ten.1) ?_
                clear hK K
                refine mixA_at (fun V => NF W2 V (some V46.heap.size) none (some W2.heap.size) (some V35.heap.size)) H.ten ?_
                clear H
                intro V47 H
                refine mixA_only rfl (fun K hK => ?_)
                refine wpList_makeR rfl 29 49 _ _ rfl Tryd.underlying29 zTreC 200 info_tre (by decide) .i64 .i64 16 rfl rfl (by decide) (by decide) ?_
                simp only [Act.put, List.setIfInBounds_toArray, List.set_cons_zero, List.set_cons_succ]
                refine hK _ _ (below_plus H.tre.1) ?_
                clear hK K
                refine mixA_at (fun V => NF W2 V (some V46.heap.size) (some V47.heap.size) (some W2.heap.size) (some V35.heap.size)) H.tre ?_
                clear H
                intro V48 H
                refine mixA_plain rfl ?_
                go_big_quiet_step (fail)
                refine wpQuiet_nil ?_
                refine mixA_only rfl (fun K hK => ?_)
                refine wpList_storeB rfl rfl 32 (.tmp 4) (.tmp 41) rfl V35.heap.size 0 rfl (staC nilS (.slice (some ⟨V46.heap.size, 0, none⟩) 16 16) (.slice (some ⟨V47.heap.size, 0, none⟩) 16 16) (.slice (some ⟨W2.heap.size, 0, none⟩) 1 1)) rfl _ _ (H.2.2.2.2 _ rfl).2 (by kernel_rfl) (by rw [staC_size, staC_size]; omega) (staC_one _ _ _ _ rfl rfl rfl) ?_
                intro W9 hS9 hg9
                refine hK _ _ (below_plus (below_only H.1 hg9 (H.2.2.2.2 _ rfl).1 H.1.size)) ?_
                clear hK K
                refine mixA_done ?_
                go_wp2_with fail
                go_meet
                exact ⟨V35.heap.size, V46.heap.size, V47.heap.size, W2.heap.size, rfl, H.fin hb2 hg9 hS9⟩
              · skip
                refine mixA_only rfl (fun K hK => ?_)
                refine wpList_makeR rfl 29 49 _ _ rfl Tryd.underlying29 zTreC 200 info_tre (by decide) .i64 .i64 16 rfl rfl (by decide) (by decide) ?_
                simp only [Act.put, List.setIfInBounds_toArray, List.set_cons_zero, List.set_cons_succ]
                refine hK _ _ (below_plus H.tre.1) ?_
                clear hK K
                refine mixA_at (fun V => NF W2 V none (some V46.heap.size) (some W2.heap.size) (some V35.heap.size)) H.tre ?_
                clear H
                intro V49 H
                refine mixA_only rfl (fun K hK => ?_)
                refine wpList_makeR rfl 28 73 _ _ rfl Tryd.underlying28 (tenC zeroTen) 24 info_ten (by decide) .i64 .i64 16 rfl rfl (by decide) (by decide) ?_
                simp only [Act.put, List.setIfInBounds_toArray, List.set_cons_zero, List.set_cons_succ]
                refine hK _ _ (below_plus H.ten.1) ?_
                clear hK K
                refine mixA_at (fun V => NF W2 V (some V49.heap.size) (some V46.heap.size) (some W2.heap.size) (some V35.heap.size)) H.ten ?_
                clear H
                intro V50 H
                refine mixA_plain rfl ?_
                go_big_quiet_step (fail)
                refine wpQuiet_nil ?_
                refine mixA_only rfl (fun K hK => ?_)
                refine wpList_storeB rfl rfl 32 (.tmp 4) (.tmp 41) rfl V35.heap.size 0 rfl (staC nilS (.slice (some ⟨V49.heap.size, 0, none⟩) 16 16) (.slice (some ⟨V46.heap.size, 0, none⟩) 16 16) (.slice (some ⟨W2.heap.size, 0, none⟩) 1 1)) rfl _ _ (H.2.2.2.2 _ rfl).2 (by kernel_rfl) (by rw [staC_size, staC_size]; omega) (staC_one _ _ _ _ rfl rfl rfl) ?_
                intro W9 hS9 hg9
                refine hK _ _ (below_plus (below_only H.1 hg9 (H.2.2.2.2 _ rfl).1 H.1.size)) ?_
                clear hK K
                refine mixA_done ?_
                go_wp2_with fail
                go_meet
                exact ⟨V35.heap.size, V49.heap.size, V46.heap.size, W2.heap.size, rfl, H.fin hb2 hg9 hS9⟩
        · skip
          refine mixA_only rfl (fun K hK => ?_)
          refine wpList_allocSta rfl rfl ?_
          simp only [Act.put, List.setIfInBounds_toArray, List.set_cons_zero, List.set_cons_succ]
          refine hK _ _ (below_plus H.sta.1) ?_
          clear hK K
          refine mixA_at (fun V => NF W2 V none none none (some W2.heap.size)) H.sta ?_
          clear H
          intro V51 H
          refine mixA_more rfl (fun K hK => ?_) ?_
          · skip
            refine wpList_makeR rfl 28 73 _ _ rfl Tryd.underlying28 (tenC zeroTen) 24 info_ten (by decide) .i64 .i64 16 rfl rfl (by decide) (by decide) ?_
            simp only [Act.put, List.setIfInBounds_toArray, List.set_cons_zero, List.set_cons_succ]
            refine hK _ _ (below_plus H.ten.1) ?_
            clear hK K
            refine mixA_at (fun V => NF W2 V (some V51.heap.size) none none (some W2.heap.size)) H.ten ?_
            clear H
            intro V52 H
            refine mixA_more rfl (fun K hK => ?_) ?_
            · skip
              refine wpList_makeR rfl 29 49 _ _ rfl Tryd.underlying29 zTreC 200 info_tre (by decide) .i64 .i64 16 rfl rfl (by decide) (by decide) ?_
              simp only [Act.put, List.setIfInBounds_toArray, List.set_cons_zero, List.set_cons_succ]
              refine hK _ _ (below_plus H.tre.1) ?_
              clear hK K
              refine mixA_at (fun V => NF W2 V (some V51.heap.size) (some V52.heap.size) none (some W2.heap.size)) H.tre ?_
              clear H
              intro V53 H
              refine mixA_only rfl (fun K hK => ?_)
              refine wpList_buildGra rfl (.tmp 39) rfl rfl ?_
              simp only [Act.put, List.setIfInBounds_toArray, List.set_cons_zero, List.set_cons_succ]
              refine hK _ _ (below_plus H.gra.1) ?_
              clear hK K
              refine mixA_at (fun V => NF W2 V (some V51.heap.size) (some V52.heap.size) (some V53.heap.size) (some W2.heap.size)) H.gra ?_
              clear H
              intro V54 H
              refine mixA_plain rfl ?_
              go_big_quiet_step (fail)
              refine wpQuiet_nil ?_
              refine mixA_only rfl (fun K hK => ?_)
              refine wpList_storeB rfl rfl 32 (.tmp 4) (.tmp 41) rfl W2.heap.size 0 rfl (staC nilS (.slice (some ⟨V51.heap.size, 0, none⟩) 16 16) (.slice (some ⟨V52.heap.size, 0, none⟩) 16 16) (.slice (some ⟨V53.heap.size, 0, none⟩) 1 1)) rfl _ _ (H.2.2.2.2 _ rfl).2 (by kernel_rfl) (by rw [staC_size, staC_size]; omega) (staC_one _ _ _ _ rfl rfl rfl) ?_
              intro W9 hS9 hg9
              refine hK _ _ (below_plus (below_only H.1 hg9 (H.2.2.2.2 _ rfl).1 H.1.size)) ?_
              clear hK K
              refine mixA_done ?_
              go_wp2_with fail
              go_meet
              exact ⟨W2.heap.size, V51.heap.size, V52.heap.size, V53.heap.size, rfl, H.fin hb2 hg9 hS9⟩
            · skip
              refine mixA_only rfl (fun K hK => ?_)
              refine wpList_buildGra rfl (.tmp 39) rfl rfl ?_
              simp only [Act.put, List.setIfInBounds_toArray, List.set_cons_zero, List.set_cons_succ]
              refine hK _ _ (below_plus H.gra.1) ?_
              clear hK K
              refine mixA_at (fun V => NF W2 V (some V51.heap.size) none (some V52.heap.size) (some W2.heap.size)) H.gra ?_
              clear H
              intro V55 H
              refine mixA_only rfl (fun K hK => ?_)
              refine wpList_makeR rfl 29 49 _ _ rfl Tryd.underlying29 zTreC 200 info_tre (by decide) .i64 .i64 16 rfl rfl (by decide) (by decide) ?_
              simp only [Act.put, List.setIfInBounds_toArray, List.set_cons_zero, List.set_cons_succ]
              refine hK _ _ (below_plus H.tre.1) ?_
              clear hK K
              refine mixA_at (fun V => NF W2 V (some V51.heap.size) (some V55.heap.size) (some V52.heap.size) (some W2.heap.size)) H.tre ?_
              clear H
              intro V56 H
              refine mixA_plain rfl ?_
              go_big_quiet_step (fail)
              refine wpQuiet_nil ?_
              refine mixA_only rfl (fun K hK => ?_)
              refine wpList_storeB rfl rfl 32 (.tmp 4) (.tmp 41) rfl W2.heap.size 0 rfl (staC nilS (.slice (some ⟨V51.heap.size, 0, none⟩) 16 16) (.slice (some ⟨V55.heap.size, 0, none⟩) 16 16) (.slice (some ⟨V52.heap.size, 0, none⟩) 1 1)) rfl _ _ (H.2.2.2.2 _ rfl).2 (by kernel_rfl) (by rw [staC_size, staC_size]; omega) (staC_one _ _ _ _ rfl rfl rfl) ?_
              intro W9 hS9 hg9
              refine hK _ _ (below_plus (below_only H.1 hg9 (H.2.2.2.2 _ rfl).1 H.1.size)) ?_
              clear hK K
              refine mixA_done ?_
              go_wp2_with fail
              go_meet
              exact ⟨W2.heap.size, V51.heap.size, V55.heap.size, V52.heap.size, rfl, H.fin hb2 hg9 hS9⟩
          · skip
            refine mixA_more rfl (fun K hK => ?_) ?_
            · skip
              refine wpList_makeR rfl 29 49 _ _ rfl Tryd.underlying29 zTreC 200 info_tre (by decide) .i64 .i64 16 rfl rfl (by decide) (by decide) ?_
              simp only [Act.put, List.setIfInBounds_toArray, List.set_cons_zero, List.set_cons_succ]
              refine hK _ _ (below_plus H.tre.1) ?_
              clear hK K
              refine mixA_at (fun V => NF W2 V none (some V51.heap.size) none (some W2.heap.size)) H.tre ?_
              clear H
              intro V57 H
              refine mixA_more rfl (fun K hK => ?_) ?_
              · skip
                refine wpList_makeR rfl 28 73 _ _ rfl Tryd.underlying28 (tenC zeroTen) 24 info_ten (by decide) .i64 .i64 16 rfl rfl (by decide) (by decide) ?_
                simp only [Act.put, List.setIfInBounds_toArray, List.set_cons_zero, List.set_cons_succ]
                refine hK _ _ (below_plus H.ten.1) ?_
                clear hK K
                refine mixA_at (fun V => NF W2 V (some V57.heap.size) (some V51.heap.size) none (some W2.heap.size)) H.ten ?_
                clear H
                intro V58 H
                refine mixA_only rfl (fun K hK => ?_)
                refine wpList_buildGra rfl (.tmp 39) rfl rfl ?_
                simp only [Act.put, List.setIfInBounds_toArray, List.set_cons_zero, List.set_cons_succ]
                refine hK _ _ (below_plus H.gra.1) ?_
                clear hK K
                refine mixA_at (fun V => NF W2 V (some V57.heap.size) (some V51.heap.size) (some V58.heap.size) (some W2.heap.size)) H.gra ?_
                clear H
                intro V59 H
                refine mixA_plain rfl ?_
                go_big_quiet_step (fail)
                refine wpQuiet_nil ?_
                refine mixA_only rfl (fun K hK => ?_)
                refine wpList_storeB rfl rfl 32 (.tmp 4) (.tmp 41) rfl W2.heap.size 0 rfl (staC nilS (.slice (some ⟨V57.heap.size, 0, none⟩) 16 16) (.slice (some ⟨V51.heap.size, 0, none⟩) 16 16) (.slice (some ⟨V58.heap.size, 0, none⟩) 1 1)) rfl _ _ (H.2.2.2.2 _ rfl).2 (by kernel_rfl) (by rw [staC_size, staC_size]; omega) (staC_one _ _ _ _ rfl rfl rfl) ?_
                intro W9 hS9 hg9
                refine hK _ _ (below_plus (below_only H.1 hg9 (H.2.2.2.2 _ rfl).1 H.1.size)) ?_
                clear hK K
                refine mixA_done ?_
                go_wp2_with fail
                go_meet
                exact ⟨W2.heap.size, V57.heap.size, V51.heap.size, V58.heap.size, rfl, H.fin hb2 hg9 hS9⟩
              · skip
                refine mixA_only rfl (fun K hK => ?_)
                refine wpList_buildGra rfl (.tmp 39) rfl rfl ?_
                simp only [Act.put, List.setIfInBounds_toArray, List.set_cons_zero, List.set_cons_succ]
                refine hK _ _ (below_plus H.gra.1) ?_
                clear hK K
                refine mixA_at (fun V => NF W2 V none (some V51.heap.size) (some V57.heap.size) (some W2.heap.size)) H.gra ?_
                clear H
                intro V60 H
                refine mixA_only rfl (fun K hK => ?_)
                refine wpList_makeR rfl 28 73 _ _ rfl Tryd.underlying28 (tenC zeroTen) 24 info_ten (by decide) .i64 .i64 16 rfl rfl (by decide) (by decide) ?_
                simp only [Act.put, List.setIfInBounds_toArray, List.set_cons_zero, List.set_cons_succ]
                refine hK _ _ (below_plus H.ten.1) ?_
                clear hK K
                refine mixA_at (fun V => NF W2 V (some V60.heap.size) (some V51.heap.size) (some V57.heap.size) (some W2.heap.size)) H.ten ?_
                clear H
                intro V61 H
                refine mixA_plain rfl ?_
                go_big_quiet_step (fail)
                refine wpQuiet_nil ?_
                refine mixA_only rfl (fun K hK => ?_)
                refine wpList_storeB rfl rfl 32 (.tmp 4) (.tmp 41) rfl W2.heap.size 0 rfl (staC nilS (.slice (some ⟨V60.heap.size, 0, none⟩) 16 16) (.slice (some ⟨V51.heap.size, 0, none⟩) 16 16) (.slice (some ⟨V57.heap.size, 0, none⟩) 1 1)) rfl _ _ (H.2.2.2.2 _ rfl).2 (by kernel_rfl) (by rw [staC_size, staC_size]; omega) (staC_one _ _ _ _ rfl rfl rfl) ?_
                intro W9 hS9 hg9
                refine hK _ _ (below_plus (below_only H.1 hg9 (H.2.2.2.2 _ rfl).1 H.1.size)) ?_
                clear hK K
                refine mixA_done ?_
                go_wp2_with fail
                go_meet
                exact ⟨W2.heap.size, V60.heap.size, V51.heap.size, V57.heap.size, rfl, H.fin hb2 hg9 hS9⟩
            · skip
              refine mixA_only rfl (fun K hK => ?_)
              refine wpList_buildGra rfl (.tmp 39) rfl rfl ?_
              simp only [Act.put, List.setIfInBounds_toArray, List.set_cons_zero, List.set_cons_succ]
              refine hK _ _ (below_plus H.gra.1) ?_
              clear hK K
              refine mixA_at (fun V => NF W2 V none none (some V51.heap.size) (some W2.heap.size)) H.gra ?_
              clear H
              intro V62 H
              refine mixA_more rfl (fun K hK => ?_) ?_
              · skip
                refine wpList_makeR rfl 28 73 _ _ rfl Tryd.underlying28 (tenC zeroTen) 24 info_ten (by decide) .i64 .i64 16 rfl rfl (by decide) (by decide) ?_
                simp only [Act.put, List.setIfInBounds_toArray, List.set_cons_zero, List.set_cons_succ]
                refine hK _ _ (below_plus H.ten.1) ?_
                clear hK K
                refine mixA_at (fun V => NF W2 V (some V62.heap.size) none (some V51.heap.size) (some W2.heap.size)) H.ten ?_
                clear H
                intro V63 H
                refine mixA_only rfl (fun K hK => ?_)
                refine wpList_makeR rfl 29 49 _ _ rfl Tryd.underlying29 zTreC 200 info_tre (by decide) .i64 .i64 16 rfl rfl (by decide) (by decide) ?_
                simp only [Act.put, List.setIfInBounds_toArray, List.set_cons_zero, List.set_cons_succ]
                refine hK _ _ (below_plus H.tre.1) ?_
                clear hK K
                refine mixA_at (fun V => NF W2 V (some V62.heap.size) (some V63.heap.size) (some V51.heap.size) (some W2.heap.size)) H.tre ?_
                clear H
                intro V64 H
                refine mixA_plain rfl ?_
                go_big_quiet_step (fail)
                refine wpQuiet_nil ?_
                refine mixA_only rfl (fun K hK => ?_)
                refine wpList_storeB rfl rfl 32 (.tmp 4) (.tmp 41) rfl W2.heap.size 0 rfl (staC nilS (.slice (some ⟨V62.heap.size, 0, none⟩) 16 16) (.slice (some ⟨V63.heap.size, 0, none⟩) 16 16) (.slice (some ⟨V51.heap.size, 0, none⟩) 1 1)) rfl _ _ (H.2.2.2.2 _ rfl).2 (by kernel_rfl) (by rw [staC_size, staC_size]; omega) (staC_one _ _ _ _ rfl rfl rfl) ?_
                intro W9 hS9 hg9
                refine hK _ _ (below_plus (below_only H.1 hg9 (H.2.2.2.2 _ rfl).1 H.1.size)) ?_
                clear hK K
                refine mixA_done ?_
                go_wp2_with fail
                go_meet
                exact ⟨W2.heap.size, V62.heap.size, V63.heap.size, V51.heap.size, rfl, H.fin hb2 hg9 hS9⟩
              · skip
                refine mixA_only rfl (fun K hK => ?_)
                refine wpList_makeR rfl 29 49 _ _ rfl Tryd.underlying29 zTreC 200 info_tre (by decide) .i64 .i64 16 rfl rfl (by decide) (by decide) ?_
                simp only [Act.put, List.setIfInBounds_toArray, List.set_cons_zero, List.set_cons_succ]
                refine hK _ _ (below_plus H.tre.1) ?_
                clear hK K
                refine mixA_at (fun V => NF W2 V none (some V62.heap.size) (some V51.heap.size) (some W2.heap.size)) H.tre ?_
                clear H
                intro V65 H
                refine mixA_only rfl (fun K hK => ?_)
                refine wpList_makeR rfl 28 73 _ _ rfl Tryd.underlying28 (tenC zeroTen) 24 info_ten (by decide) .i64 .i64 16 rfl rfl (by decide) (by decide) ?_
                simp only [Act.put, List.setIfInBounds_toArray, List.set_cons_zero, List.set_cons_succ]
                refine hK _ _ (below_plus H.ten.1) ?_
                clear hK K
                refine mixA_at (fun V => NF W2 V (some V65.heap.size) (some V62.heap.size) (some V51.heap.size) (some W2.heap.size)) H.ten ?_
                clear H
                intro V66 H
                refine mixA_plain rfl ?_
                go_big_quiet_step (fail)
                refine wpQuiet_nil ?_
                refine mixA_only rfl (fun K hK => ?_)
                refine wpList_storeB rfl rfl 32 (.tmp 4) (.tmp 41) rfl W2.heap.size 0 rfl (staC nilS (.slice (some ⟨V65.heap.size, 0, none⟩) 16 16) (.slice (some ⟨V62.heap.size, 0, none⟩) 16 16) (.slice (some ⟨V51.heap.size, 0, none⟩) 1 1)) rfl _ _ (H.2.2.2.2 _ rfl).2 (by kernel_rfl) (by rw [staC_size, staC_size]; omega) (staC_one _ _ _ _ rfl rfl rfl) ?_
                intro W9 hS9 hg9
                refine hK _ _ (below_plus (below_only H.1 hg9 (H.2.2.2.2 _ rfl).1 H.1.size)) ?_
                clear hK K
                refine mixA_done ?_
                go_wp2_with fail
                go_meet
                exact ⟨W2.heap.size, V65.heap.size, V62.heap.size, V51.heap.size, rfl, H.fin hb2 hg9 hS9⟩
  case rest =>
    obtain ⟨gs, gT, gR, gG, rfl, hne⟩ := hcut
    obtain ⟨n0, ⟨n1, n2, n3, n4⟩, nT, nR, nG, nS⟩ := hne
    have hlow : w.heap.size + 1 < W1.heap.size := H1.out.2.1.lt
    have hC := H1.out.1.below n0 H1.out.1.lt
    have hR := H1.out.2.1.below n0 hlow
    have hbw := H1.out.2.2.trans (n0.mono H1.out.2.2.size)
    have oT := own_of_blk (base := w.heap.size) (sz := 6) nT (by omega) (fun c hc => by rw [List.eq_of_mem_replicate hc]; rfl) (by decide)
    have oR := own_of_blk (base := w.heap.size) (sz := 75) nR (by omega) (fun c hc => by rw [List.eq_of_mem_replicate hc]; exact zTreC_size) (by decide)
    have oG := own_of_blk (base := w.heap.size) (sz := 4) (cs := [graC gra0]) (by rw [show (flat [graC gra0]).toArray = graC gra0 by simp [flat]]; exact nG) (by omega) (fun c hc => by rw [List.mem_singleton.1 hc]; rfl) (by decide)
    have H3 := Lib.hid (And.intro hC (And.intro hR (And.intro oT (And.intro oR (And.intro oG (And.intro nS hbw))))))
    have hgs : w.heap.size ≤ gs := by omega
    have mq := quotaNew_any 1048576 1048576 (by decide) (by decide) wc
    rw [show n32 1048576 = (1048576 : Int) by decide] at mq
    clear hC hR oT oR oG nT nR nG nS n0 n1 n2 n3 n4 H1 hbw e1 e2 e3 e4 e5 e6 e7 e8
    clear hlow
    go_upto_region 5 with (first
      | (go_at_call 19; refine mq.mono ?_; clear mq; rintro e W4 ⟨rfl, hb4⟩; have hD4 := Blk.new W4 69 #[.int .u32 0, .int .u32 0, .int .u32 0]; have hn4 := below_new1 W4 (Obj.cells #[.int .u32 0, .int .u32 0, .int .u32 0] 69))
      | (refine wpList_storeB rfl rfl 69 (.tmp 5) (.tmp 44) rfl W4.heap.size 0 rfl #[.int .u32 1048576, .int .u32 1048576, .int .u32 1048576] rfl _ _ hD4 (by kernel_rfl) (by decide) (by intro v hv; simp at hv; subst hv; rfl) ?_; intro W5 hB5 hg5))
    replace hB5 : Blk W5 W4.heap.size 69 #[.int .u32 1048576, .int .u32 1048576, .int .u32 1048576] := hB5
    have hb45 := below_only hn4 hg5 (Nat.le_refl _) hn4.size
    have hbc5 := hb4.trans (hb45.mono hb4.size)
    have H5 := Lib.hid (And.intro (H3.out.1.below hbc5 H3.out.1.lt) (And.intro (H3.out.2.1.below hbc5 H3.out.2.1.lt) (And.intro (own_below H3.out.2.2.1 hbc5) (And.intro (own_below H3.out.2.2.2.1 hbc5) (And.intro (own_below H3.out.2.2.2.2.1 hbc5) (And.intro (H3.out.2.2.2.2.2.1.below hbc5 H3.out.2.2.2.2.2.1.lt) (H3.out.2.2.2.2.2.2.trans (hbc5.mono H3.out.2.2.2.2.2.2.size))))))))
    have HB5 := Lib.hid hB5
    clear hB5 hg5 hb45 hbc5 hb4 hD4 hn4 H3
    generalize W4.heap.size = bk at HB5 ⊢
    have c3 : W5.cell? ⟨gs, 3, none⟩ = some (.slice (some ⟨gT, 0, none⟩) 16 16) := H5.out.2.2.2.2.2.1.cell 3
    go_upto_region 6 with (first
      | (refine wpList_loadR 69 (.tmp 5) rfl bk 0 rfl #[.int .u32 1048576, .int .u32 1048576, .int .u32 1048576] _ (range_blk24 HB5.out) Tryd.underlying69 rfl (by kernel_rfl) rfl ?_)
      | (refine wpList_build3 73 0 1 2 (.const (.bool true)) (.tmp 48) (.const (.int .u32 32768)) rfl _ _ _ rfl rfl rfl (tenC ten0) built_ten rfl ?_)
      | (refine wpList_storeRow rfl rfl 73 (.tmp 50) (.tmp 49) rfl w.heap.size 6 73 gT 16 16 (List.replicate 16 (tenC zeroTen)) H5.out.2.2.1 (fun c hc => by rw [List.eq_of_mem_replicate hc]; rfl) 0 0 (by decide) rfl (tenC ten0) rfl (by kernel_rfl) (by decide) (tenC_one _) ?_; intro W6 hT6 hg6))
    have p1 : patch ((List.replicate 16 (tenC zeroTen)).getD 0 #[]) 0 (tenC ten0).toList = tenC ten0 := patch_all _ _ rfl
    rw [p1] at hT6
    obtain ⟨cT, bT⟩ := own_blk H5.out.2.2.1 (by decide)
    have sT := H5.out.2.2.2.2.2.1
    have H6 := Lib.hid (show Blk W6 w.heap.size 25 (cfgC wd qu st (.slice As seed.length cs)) ∧ Blk W6 (w.heap.size + 1) 32 (staC nilS (.slice none 0 0) (.slice none 0 0) (.slice none 0 0)) ∧ W6.ownsRow w.heap.size 73 6 (.slice (some ⟨gT, 0, none⟩) 16 16) ((List.replicate 16 (tenC zeroTen)).set 0 (tenC ten0)).length (flat ((List.replicate 16 (tenC zeroTen)).set 0 (tenC ten0))) ∧ W6.ownsRow w.heap.size 49 75 (.slice (some ⟨gR, 0, none⟩) 16 16) (List.replicate 16 zTreC).length (flat (List.replicate 16 zTreC)) ∧ W6.ownsRow w.heap.size 67 4 (.slice (some ⟨gG, 0, none⟩) 1 1) [graC gra0].length (flat [graC gra0]) ∧ Blk W6 gs 32 (staC nilS (.slice (some ⟨gT, 0, none⟩) 16 16) (.slice (some ⟨gR, 0, none⟩) 16 16) (.slice (some ⟨gG, 0, none⟩) 1 1)) ∧ Below w.heap.size w W6 from
      ⟨H5.out.1.grown hg6 (fun e => blk_ne H5.out.1 bT (by decide) (by injection e)), H5.out.2.1.grown hg6 (fun e => blk_ne H5.out.2.1 bT (by decide) (by injection e)), hT6, own_typed H5.out.2.2.2.1 hg6 bT (by decide), own_typed H5.out.2.2.2.2.1 hg6 bT (by decide), sT.grown hg6 (fun e => blk_ne sT bT (by decide) (by injection e)), below_own H5.out.2.2.2.2.2.2 H5.out.2.2.1 hg6 H5.out.2.2.2.2.2.2.size⟩)
    clear hT6 hg6 bT sT p1 H5 HB5 c3
    have c4 : W6.cell? ⟨gs, 4, none⟩ = some (.slice (some ⟨gR, 0, none⟩) 16 16) := H6.out.2.2.2.2.2.1.cell 4
    have hE := Blk.new W6 22 #[.int .u32 0]
    have hnE := below_new1 W6 (Obj.cells #[.int .u32 0] 22)
    have oR6 := own_below H6.out.2.2.2.1 hnE
    go_upto_region 7 with (first
      | (refine wpList_build3 49 0 2 4 (.const (.int .i64 1)) (.const (.int .i64 1)) (.tmp 53) rfl _ _ _ rfl rfl rfl (treC tre0 (.slice (some ⟨W6.heap.size, 0, none⟩) 1 1) (.slice none 0 0) (.slice none 0 0)) (built_tre W6.heap.size) rfl ?_)
      | (refine wpList_storeRow rfl rfl 49 (.tmp 55) (.tmp 54) rfl w.heap.size 75 49 gR 16 16 (List.replicate 16 zTreC) oR6 (fun c hc => by rw [List.eq_of_mem_replicate hc]; exact zTreC_size) 0 0 (by decide) rfl (treC tre0 (.slice (some ⟨W6.heap.size, 0, none⟩) 1 1) (.slice none 0 0) (.slice none 0 0)) rfl (by rw [treC_size]; kernel_rfl) (by rw [treC_size]; decide) (treC_one _ _ _ _ rfl rfl rfl) ?_; intro W7 hR7 hg7))
    have p1 : patch ((List.replicate 16 zTreC).getD 0 #[]) 0 (treC tre0 (.slice (some ⟨W6.heap.size, 0, none⟩) 1 1) (.slice none 0 0) (.slice none 0 0)).toList = treC tre0 (.slice (some ⟨W6.heap.size, 0, none⟩) 1 1) (.slice none 0 0) (.slice none 0 0) := patch_all _ _ (by rw [treC_size]; exact zTreC_size.symm)
    rw [p1] at hR7
    obtain ⟨cR, bR⟩ := own_blk oR6 (by decide)
    have oD : (W6.alloc (Obj.cells #[.int .u32 0] 22)).ownsRow w.heap.size 22 1 (.slice (some ⟨W6.heap.size, 0, none⟩) 1 1) 1 [v32 0] := ⟨rfl, .inr ⟨W6.heap.size, 1, _, rfl, H6.out.2.2.2.2.2.2.size, hE, Nat.le_refl _, by decide, rfl, rfl⟩⟩
    have tC := H6.out.1.below hnE H6.out.1.lt
    have tR := H6.out.2.1.below hnE H6.out.2.1.lt
    have tS := H6.out.2.2.2.2.2.1.below hnE H6.out.2.2.2.2.2.1.lt
    have H7 := Lib.hid (show Blk W7 w.heap.size 25 (cfgC wd qu st (.slice As seed.length cs)) ∧ Blk W7 (w.heap.size + 1) 32 (staC nilS (.slice none 0 0) (.slice none 0 0) (.slice none 0 0)) ∧ W7.ownsRow w.heap.size 73 6 (.slice (some ⟨gT, 0, none⟩) 16 16) ((List.replicate 16 (tenC zeroTen)).set 0 (tenC ten0)).length (flat ((List.replicate 16 (tenC zeroTen)).set 0 (tenC ten0))) ∧ W7.ownsRow w.heap.size 49 75 (.slice (some ⟨gR, 0, none⟩) 16 16) ((List.replicate 16 zTreC).set 0 (treC tre0 (.slice (some ⟨W6.heap.size, 0, none⟩) 1 1) (.slice none 0 0) (.slice none 0 0))).length (flat ((List.replicate 16 zTreC).set 0 (treC tre0 (.slice (some ⟨W6.heap.size, 0, none⟩) 1 1) (.slice none 0 0) (.slice none 0 0)))) ∧ W7.ownsRow w.heap.size 67 4 (.slice (some ⟨gG, 0, none⟩) 1 1) [graC gra0].length (flat [graC gra0]) ∧ Blk W7 gs 32 (staC nilS (.slice (some ⟨gT, 0, none⟩) 16 16) (.slice (some ⟨gR, 0, none⟩) 16 16) (.slice (some ⟨gG, 0, none⟩) 1 1)) ∧ Below w.heap.size w W7 ∧ W7.ownsRow w.heap.size 22 1 (.slice (some ⟨W6.heap.size, 0, none⟩) 1 1) 1 [v32 0] from
      ⟨tC.grown hg7 (fun e => blk_ne tC bR (by decide) (by injection e)), tR.grown hg7 (fun e => blk_ne tR bR (by decide) (by injection e)), own_typed (own_below H6.out.2.2.1 hnE) hg7 bR (by decide), hR7, own_typed (own_below H6.out.2.2.2.2.1 hnE) hg7 bR (by decide), tS.grown hg7 (fun e => blk_ne tS bR (by decide) (by injection e)), below_own (H6.out.2.2.2.2.2.2.trans (hnE.mono H6.out.2.2.2.2.2.2.size)) oR6 hg7 (Nat.le_trans H6.out.2.2.2.2.2.2.size hnE.size), own_typed oD hg7 bR (by decide)⟩)
    clear hR7 hg7 bR oD tC tR tS p1 H6 c4 hE hnE oR6
    generalize W6.heap.size = gD at H7 ⊢
    have hIn : ∀ V, Blk V w.heap.size 25 (cfgC wd qu st (.slice As seed.length cs)) → Blk V gs 32 (staC nilS (.slice (some ⟨gT, 0, none⟩) 16 16) (.slice (some ⟨gR, 0, none⟩) 16 16) (.slice (some ⟨gG, 0, none⟩) 1 1)) → (StK w.heap.size gs (cfgC wd qu st (.slice As seed.length cs)) (staC nilS (.slice (some ⟨gT, 0, none⟩) 16 16) (.slice (some ⟨gR, 0, none⟩) 16 16) (.slice (some ⟨gG, 0, none⟩) 1 1))) V := fun V q1 q2 => ⟨range_blk24 q1, range_blk24 q2⟩
    refine wp_region_mix (.plain 0 <| .plain 1 <| .plain 2 <| .plain 3 <| .only 4 <| .plain 5 <| .plain 6 <| .plain 7 <| .plain 8 <| .plain 9 <| .only 10 <| .done) (StK w.heap.size gs (cfgC wd qu st (.slice As seed.length cs)) (staC nilS (.slice (some ⟨gT, 0, none⟩) 16 16) (.slice (some ⟨gR, 0, none⟩) 16 16) (.slice (some ⟨gG, 0, none⟩) 1 1))) (by kernel_rfl) (by kernel_rfl) (hIn _ (H7.out.1.drewN 1) (H7.out.2.2.2.2.2.1.drewN 1)) ?_
    refine mix_atC (fun W8 => Below W7.heap.size W7 W8) (below_drewN (Below.refl _ _) 1) ?_
    rintro W8 hb8
    have H8 := Lib.hid (show Blk W8 w.heap.size 25 (cfgC wd qu st (.slice As seed.length cs)) ∧ Blk W8 (w.heap.size + 1) 32 (staC nilS (.slice none 0 0) (.slice none 0 0) (.slice none 0 0)) ∧ W8.ownsRow w.heap.size 73 6 (.slice (some ⟨gT, 0, none⟩) 16 16) ((List.replicate 16 (tenC zeroTen)).set 0 (tenC ten0)).length (flat ((List.replicate 16 (tenC zeroTen)).set 0 (tenC ten0))) ∧ W8.ownsRow w.heap.size 49 75 (.slice (some ⟨gR, 0, none⟩) 16 16) ((List.replicate 16 zTreC).set 0 (treC tre0 (.slice (some ⟨gD, 0, none⟩) 1 1) (.slice none 0 0) (.slice none 0 0))).length (flat ((List.replicate 16 zTreC).set 0 (treC tre0 (.slice (some ⟨gD, 0, none⟩) 1 1) (.slice none 0 0) (.slice none 0 0)))) ∧ W8.ownsRow w.heap.size 67 4 (.slice (some ⟨gG, 0, none⟩) 1 1) [graC gra0].length (flat [graC gra0]) ∧ Blk W8 gs 32 (staC nilS (.slice (some ⟨gT, 0, none⟩) 16 16) (.slice (some ⟨gR, 0, none⟩) 16 16) (.slice (some ⟨gG, 0, none⟩) 1 1)) ∧ Below w.heap.size w W8 ∧ W8.ownsRow w.heap.size 22 1 (.slice (some ⟨gD, 0, none⟩) 1 1) 1 [v32 0] from
      ⟨H7.out.1.below hb8 H7.out.1.lt, H7.out.2.1.below hb8 H7.out.2.1.lt, own_below H7.out.2.2.1 hb8, own_below H7.out.2.2.2.1 hb8, own_below H7.out.2.2.2.2.1 hb8, H7.out.2.2.2.2.2.1.below hb8 H7.out.2.2.2.2.2.1.lt, H7.out.2.2.2.2.2.2.1.trans (hb8.mono H7.out.2.2.2.2.2.2.1.size), own_below H7.out.2.2.2.2.2.2.2 hb8⟩)
    clear H7 hb8
    iterate 4 (refine mix_plain rfl ?_; (first
      | (refine wpQuiet_load1 rfl _ (.tmp 57) rfl _ rfl _ Tryd.underlying29 rfl _ (fun V h => h.2 4 (.slice (some ⟨gR, 0, none⟩) 16 16) rfl) ?_; simp only [Act.put, List.setIfInBounds_toArray, List.set_cons_zero, List.set_cons_succ])
      | (refine wpQuiet_loadMid rfl 25 (.tmp 1) rfl w.heap.size 0 rfl (cfgC wd qu st (.slice As seed.length cs)) _ (fun _ h => h.1) Tryd.underlying25 rfl (by kernel_rfl) ?_; simp only [Act.put, List.setIfInBounds_toArray, List.set_cons_zero, List.set_cons_succ])
      | (refine wpQuiet_loadMid rfl 32 (.tmp 4) rfl gs 0 rfl (staC nilS (.slice (some ⟨gT, 0, none⟩) 16 16) (.slice (some ⟨gR, 0, none⟩) 16 16) (.slice (some ⟨gG, 0, none⟩) 1 1)) _ (fun _ h => h.2) Tryd.underlying32 rfl (by kernel_rfl) ?_; simp only [Act.put, List.setIfInBounds_toArray, List.set_cons_zero, List.set_cons_succ])
      | go_big_quiet_step ((intro _; rfl))
      | go_big_quiet_step (fail)); refine wpQuiet_nil ?_)
    have hO8 : StO 73 49 67 W8 w.heap.size (.agg (staC nilS (.slice (some ⟨gT, 0, none⟩) 16 16) (.slice (some ⟨gR, 0, none⟩) 16 16) (.slice (some ⟨gG, 0, none⟩) 1 1))) staA :=
      ⟨_, _, _, _, rfl, by rw [tens_map]; exact H8.out.2.2.1, H8.out.2.2.2.1, by rw [List.length_set, List.length_replicate]; rfl, fun k hk => tres_set ⟨_, _, _, rfl, H8.out.2.2.2.2.2.2.2, ⟨_, Own2.nil_ _ _⟩, ⟨_, Own2.nil_ _ _⟩⟩ k (by simpa [staA] using hk), H8.out.2.2.2.2.1⟩
    have mp := pub_ok wd qu st (.slice As seed.length cs) _ seed staA 0 (by decide) tre0_ok (by decide) (by decide) W8 (HS.out.1.next H8.out.2.2.2.2.2.2.1) (by omega) hO8.sta (HS.out.2.next H8.out.2.2.2.2.2.2.1)
    obtain ⟨hd, hhd⟩ : ∃ hd, pubH wd staA.clock 0 (staA.trees.getD 0 zeroTre) = hd := ⟨_, rfl⟩
    obtain ⟨tg, htg⟩ : ∃ tg, pubT wd seed staA.clock 0 (staA.trees.getD 0 zeroTre) = tg := ⟨_, rfl⟩
    rw [hhd, htg] at mp
    have HP := Lib.hid (show pubH wd 0 0 tre0 = hd ∧ pubT wd seed 0 0 tre0 = tg from ⟨hhd, htg⟩)
    clear hhd htg hO8
    refine mix_only_in rfl (fun K hK => ?_)
    go_wp2_with fail
    refine mp.mono ?_
    clear mp
    rintro e W9 ⟨rfl, hb9⟩
    go_wp2_with fail
    refine hK _ _ (hIn _ (H8.out.1.below hb9 H8.out.1.lt) (H8.out.2.2.2.2.2.1.below hb9 H8.out.2.2.2.2.2.1.lt)) ?_
    clear hK K
    have oR9 := own_below H8.out.2.2.2.1 hb9
    have oT9 := own_below H8.out.2.2.1 hb9
    have oG9 := own_below H8.out.2.2.2.2.1 hb9
    have oD9 := own_below H8.out.2.2.2.2.2.2.2 hb9
    have hS9 := H8.out.2.2.2.2.2.1.below hb9 H8.out.2.2.2.2.2.1.lt
    have hR9 := H8.out.2.1.below hb9 H8.out.2.1.lt
    have hbw := H8.out.2.2.2.2.2.2.1.trans (hb9.mono H8.out.2.2.2.2.2.2.1.size)
    have hC9 := H8.out.1.below hb9 H8.out.1.lt
    have HX := Lib.hid (And.intro oT9 (And.intro oG9 (And.intro oD9 (And.intro hS9 (And.intro hR9 (And.intro hbw hC9))))))
    clear hb9 H8 oT9 oG9 oD9 hS9 hR9 hbw hC9
    iterate 5 (refine mix_plain rfl ?_; (first | go_big_quiet_step ((intro _; rfl)) | go_big_quiet_step (fail)); refine wpQuiet_nil ?_)
    refine mix_only_in rfl (fun K hK => ?_)
    refine wpList_storeRow rfl rfl 42 (.tmp 65) (.tmp 62) rfl w.heap.size 75 49 gR 16 16 ((List.replicate 16 zTreC).set 0 (treC tre0 (.slice (some ⟨gD, 0, none⟩) 1 1) (.slice none 0 0) (.slice none 0 0))) oR9 (fun c hc => by
      rcases List.mem_or_eq_of_mem_set hc with hc | hc
      · rw [List.eq_of_mem_replicate hc]; exact zTreC_size
      · rw [hc, treC_size]) 0 7 (by rw [List.length_set, List.length_replicate]; omega) rfl (sigC hd tg) rfl (by rw [sigC_size]; kernel_rfl) (by rw [sigC_size]; decide) (sigC_one _ _) ?_
    intro W10 hR10 hg10
    obtain ⟨cR, bR⟩ := own_blk oR9 (by rw [List.length_set, List.length_replicate]; omega)
    refine hK _ _ (hIn _ (HX.out.2.2.2.2.2.2.grown hg10 (fun e => blk_ne HX.out.2.2.2.2.2.2 bR (by decide) (by injection e))) (HX.out.2.2.2.1.grown hg10 (fun e => blk_ne HX.out.2.2.2.1 bR (by decide) (by injection e)))) ?_
    clear hK K
    refine mix_done ?_
    have p1 : patch (((List.replicate 16 zTreC).set 0 (treC tre0 (.slice (some ⟨gD, 0, none⟩) 1 1) (.slice none 0 0) (.slice none 0 0))).getD 0 #[]) 7 (sigC hd tg).toList = treC (tre1 wd seed) (.slice (some ⟨gD, 0, none⟩) 1 1) (.slice none 0 0) (.slice none 0 0) := by
      show patch (treC tre0 (.slice (some ⟨gD, 0, none⟩) 1 1) (.slice none 0 0) (.slice none 0 0)) 7 (sigC hd tg).toList = _
      rw [treC_head]
      unfold tre1
      rw [HP.out.1, HP.out.2]
    rw [p1, List.set_set] at hR10
    have hO10 : StO 73 49 67 W10 w.heap.size (.agg (staC nilS (.slice (some ⟨gT, 0, none⟩) 16 16) (.slice (some ⟨gR, 0, none⟩) 16 16) (.slice (some ⟨gG, 0, none⟩) 1 1))) (newS wd seed) :=
      ⟨_, _, _, _, rfl, by show W10.ownsRow _ _ _ _ (List.map tenC ((List.replicate 16 zeroTen).set 0 ten0)).length (flat (List.map tenC ((List.replicate 16 zeroTen).set 0 ten0))); rw [tens_map']; exact own_typed HX.out.1 hg10 bR (by decide), hR10, by rw [List.length_set, List.length_replicate]; rfl, fun k hk => tres_set ⟨_, _, _, rfl, own_typed HX.out.2.2.1 hg10 bR (by decide), ⟨_, Own2.nil_ _ _⟩, ⟨_, Own2.nil_ _ _⟩⟩ k (by simpa [newS] using hk), own_typed HX.out.2.1 hg10 bR (by decide)⟩
    have hS10 := HX.out.2.2.2.1.grown hg10 (fun e => blk_ne HX.out.2.2.2.1 bR (by decide) (by injection e))
    have hR10' := HX.out.2.2.2.2.1.grown hg10 (fun e => blk_ne HX.out.2.2.2.2.1 bR (by decide) (by injection e))
    have hbw := below_own HX.out.2.2.2.2.2.1 oR9 hg10 HX.out.2.2.2.2.2.1.size
    have HZ := Lib.hid (And.intro hO10 hbw)
    have HS10 := Lib.hid (range_blk24 hS10)
    clear oR9 hR10 hg10 bR p1 hO10 HX hbw HP hS10
    go_wp2_with (first
      | (refine wpList_loadR 32 (.tmp 4) rfl gs 0 rfl (staC nilS (.slice (some ⟨gT, 0, none⟩) 16 16) (.slice (some ⟨gR, 0, none⟩) 16 16) (.slice (some ⟨gG, 0, none⟩) 1 1)) _ HS10.out Tryd.underlying32 rfl (by kernel_rfl) rfl ?_)
      | (refine wpList_storeB rfl rfl 32 (.tmp 2) (.tmp 66) rfl (w.heap.size + 1) 0 rfl (staC nilS (.slice (some ⟨gT, 0, none⟩) 16 16) (.slice (some ⟨gR, 0, none⟩) 16 16) (.slice (some ⟨gG, 0, none⟩) 1 1)) rfl _ _ hR10' (by kernel_rfl) (by rw [staC_size, staC_size]; omega) (staC_one _ _ _ _ rfl rfl rfl) ?_; intro W11 hR11 hg11))
    rw [copied_all _ _ (by rw [staC_size, staC_size])] at hR11
    exact bodyPost_ret (results_cell_tmp (p := 2) (q := 3) (ty := 32) rfl _ _ (w.heap.size + 1) _ _ _ _ rfl hR11 Tryd.underlying32 rfl (by kernel_rfl)) rfl ⟨_, rfl, HZ.out.1.typed hg11 hR10' (by decide) (by decide) (by decide) (by decide) (by decide) (by decide), below_only HZ.out.2 hg11 (by omega) HZ.out.2.size⟩
end Go.Proofs.YtcdkadidkkbhpaaDoor
