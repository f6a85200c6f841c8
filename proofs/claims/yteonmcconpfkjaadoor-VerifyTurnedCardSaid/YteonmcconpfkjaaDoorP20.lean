/- Texts that stand behind one another: VerP, VerA, VerB, VerC, VerQ. No condition. -/
import Derived.Test.YteonmcconpfkjaaDoorP13
import Derived.Test.YteonmcconpfkjaaDoorP4
import Derived.Test.YteonmcconpfkjaaDoorP5
import Derived.Test.YteonmcconpfkjaaDoorP14
import Derived.Test.YteonmcconpfkjaaDoorP8
/- Proofs of a leaf, plain: what a path shows, the same however it is gone up. No condition. -/
namespace Go.Proofs.YteonmcconpfkjaaDoor
/-- both halved while the first is even and not nought -/
def stripF : Nat → Nat → Nat → Nat × Nat
  | 0, fn, sn => (fn, sn)
  | f + 1, fn, sn => if fn % 2 = 0 ∧ fn ≠ 0 then stripF f (fn / 2) (sn / 2) else (fn, sn)
def strip (fn sn : Nat) : Nat × Nat := stripF fn fn sn
theorem stripF_fuel : ∀ (f fn sn : Nat), fn ≤ f → ∀ g, fn ≤ g → stripF f fn sn = stripF g fn sn := by
  intro f
  induction f with
  | zero =>
    intro fn sn h g hg
    obtain rfl : fn = 0 := by omega
    cases g with
    | zero => rfl
    | succ g => rw [stripF, stripF, if_neg (by simp)]
  | succ f ih =>
    intro fn sn h g hg
    cases g with
    | zero =>
      obtain rfl : fn = 0 := by omega
      rw [stripF, stripF, if_neg (by simp)]
    | succ g =>
      rw [stripF, stripF]
      split
      · rename_i hc; exact ih _ _ (by omega) _ (by omega)
      · rfl
theorem strip_even {fn sn : Nat} (h : fn % 2 = 0) (h0 : fn ≠ 0) : strip fn sn = strip (fn / 2) (sn / 2) := by
  unfold strip
  rw [stripF_fuel fn fn sn (Nat.le_refl _) (fn - 1 + 1) (by omega), stripF, if_pos ⟨h, h0⟩]
  exact stripF_fuel _ _ _ (by omega) _ (Nat.le_refl _)
theorem strip_done {fn sn : Nat} (h : ¬ (fn % 2 = 0 ∧ fn ≠ 0)) : strip fn sn = (fn, sn) := by
  unfold strip
  cases fn with
  | zero => rfl
  | succ k => rw [stripF, if_neg h]
theorem strip_le (fn : Nat) : ∀ sn, fn ≤ sn → (strip fn sn).1 ≤ (strip fn sn).2 ∧ (strip fn sn).2 ≤ sn := by
  induction fn using Nat.strongRecOn with
  | _ fn ih =>
    intro sn h
    by_cases hc : fn % 2 = 0 ∧ fn ≠ 0
    · rw [strip_even hc.1 hc.2]
      have := ih (fn / 2) (by omega) (sn / 2) (by omega)
      omega
    · rw [strip_done hc]; exact ⟨h, Nat.le_refl _⟩
theorem strip_snd (fn : Nat) : ∀ sn, (strip fn sn).2 ≤ sn ∧ (strip fn sn).1 ≤ fn := by
  induction fn using Nat.strongRecOn with
  | _ fn ih =>
    intro sn
    by_cases hc : fn % 2 = 0 ∧ fn ≠ 0
    · rw [strip_even hc.1 hc.2]
      have := ih (fn / 2) (by omega) (sn / 2)
      omega
    · rw [strip_done hc]; exact ⟨Nat.le_refl _, Nat.le_refl _⟩
/-- the text of a node -/
def nodeT (n : Nat) (a b : List UInt8) : List UInt8 := 1 :: (a.take n ++ b.take n)
theorem nodeM_sum (n : Nat) (a b : List UInt8) : nodeM n a b = sumM n (nodeT n a b) := rfl
/-- the hash of the last text -/
def lastH (n : Nat) (T : List (List UInt8)) : List UInt8 := sumM n (T.getLastD [])
theorem lastH_snoc (n : Nat) (T : List (List UInt8)) (t : List UInt8) : lastH n (T ++ [t]) = sumM n t := by
  unfold lastH; rw [List.getLastD_eq_getLast?, List.getLast?_append]; rfl
theorem lastH_length (n : Nat) (T : List (List UInt8)) : (lastH n T).length = 32 := sumM_length _ _
/-- what is hashed on the way up; none: the path is none of that place -/
def wayS (n : Nat) : List (List UInt8) → Nat → Nat → List (List UInt8) → Option (List (List UInt8))
  | [], _, sn, T => if sn = 0 then some T else none
  | p :: ps, fn, sn, T => if sn = 0 then none else
      if fn % 2 = 0 ∧ fn ≠ sn then wayS n ps (fn / 2) (sn / 2) (T ++ [nodeT n (lastH n T) p])
      else wayS n ps ((strip fn sn).1 / 2) ((strip fn sn).2 / 2) (T ++ [nodeT n p (lastH n T)])
theorem wayS_nil (n fn sn : Nat) (T : List (List UInt8)) : wayS n [] fn sn T = if sn = 0 then some T else none := rfl
theorem wayS_end (n fn : Nat) (ps : List (List UInt8)) (T : List (List UInt8)) : wayS n ps fn 0 T = if ps = [] then some T else none := by
  cases ps with
  | nil => rfl
  | cons p ps => rw [wayS, if_pos rfl, if_neg (by simp)]
theorem wayS_right (n fn sn : Nat) (p : List UInt8) (ps T : List (List UInt8)) (h0 : sn ≠ 0) (h : fn % 2 = 0) (h1 : fn ≠ sn) : wayS n (p :: ps) fn sn T = wayS n ps (fn / 2) (sn / 2) (T ++ [nodeT n (lastH n T) p]) := by
  rw [wayS, if_neg h0, if_pos ⟨h, h1⟩]
theorem wayS_left (n fn sn : Nat) (p : List UInt8) (ps T : List (List UInt8)) (h0 : sn ≠ 0) (h : ¬ (fn % 2 = 0 ∧ fn ≠ sn)) : wayS n (p :: ps) fn sn T = wayS n ps ((strip fn sn).1 / 2) ((strip fn sn).2 / 2) (T ++ [nodeT n p (lastH n T)]) := by
  rw [wayS, if_neg h0, if_neg h]
theorem wayS_odd (n fn sn : Nat) (p : List UInt8) (ps T : List (List UInt8)) (h0 : sn ≠ 0) (h : fn % 2 = 1) : wayS n (p :: ps) fn sn T = wayS n ps (fn / 2) (sn / 2) (T ++ [nodeT n p (lastH n T)]) := by
  rw [wayS_left n fn sn p ps T h0 (by omega), strip_done (by omega)]
/-- the last of its row without a neighbour goes up as it is -/
theorem wayS_skip (n fn : Nat) (ps T : List (List UInt8)) (h : fn % 2 = 0) (h0 : fn ≠ 0) : wayS n ps fn fn T = wayS n ps (fn / 2) (fn / 2) T := by
  cases ps with
  | nil => rw [wayS_nil, wayS_nil, if_neg h0, if_neg (by omega)]
  | cons p ps => rw [wayS_left n fn fn p ps T h0 (by omega), wayS_left n (fn / 2) (fn / 2) p ps T (by omega) (by omega), strip_even h h0]
/-- how many texts come of it -/
def stepsF : Nat → Nat → Nat → Nat
  | 0, _, _ => 0
  | f + 1, fn, sn => if sn = 0 then 0 else if fn % 2 = 0 ∧ fn ≠ sn then 1 + stepsF f (fn / 2) (sn / 2) else 1 + stepsF f ((strip fn sn).1 / 2) ((strip fn sn).2 / 2)
theorem wayS_len (n : Nat) : ∀ (f : Nat) (ps : List (List UInt8)) (fn sn : Nat) (T X : List (List UInt8)), sn ≤ f → wayS n ps fn sn T = some X → X.length = T.length + stepsF f fn sn ∧ ps.length = stepsF f fn sn := by
  intro f
  induction f with
  | zero =>
    intro ps fn sn T X h hx
    obtain rfl : sn = 0 := by omega
    rw [wayS_end] at hx
    split at hx
    · rename_i hp; injection hx with hx; subst hx; subst hp; exact ⟨rfl, rfl⟩
    · cases hx
  | succ f ih =>
    intro ps fn sn T X h hx
    by_cases h0 : sn = 0
    · subst h0
      rw [wayS_end] at hx
      split at hx
      · rename_i hp; injection hx with hx; subst hx; subst hp; rw [stepsF, if_pos rfl]; exact ⟨rfl, rfl⟩
      · cases hx
    · cases ps with
      | nil => rw [wayS_nil, if_neg h0] at hx; cases hx
      | cons p ps =>
        rw [stepsF, if_neg h0]
        by_cases hc : fn % 2 = 0 ∧ fn ≠ sn
        · rw [wayS_right n fn sn p ps T h0 hc.1 hc.2] at hx
          have := ih _ _ _ _ _ (by omega) hx
          rw [if_pos hc]
          rw [List.length_append, List.length_singleton] at this
          rw [List.length_cons]
          omega
        · rw [wayS_left n fn sn p ps T h0 hc] at hx
          have hs := strip_snd fn sn
          have := ih _ _ _ _ _ (by omega) hx
          rw [if_neg hc]
          rw [List.length_append, List.length_singleton] at this
          rw [List.length_cons]
          omega
/-- does a path show a leaf? -/
def leafS (n : Nat) (b : List UInt8) (i s : Nat) (path : List (List UInt8)) (root : List UInt8) : Bool :=
  if s ≤ i then false else match wayS n path i (s - 1) [0 :: b] with
    | some T => decide (lastH n T = cutL root n)
    | none => false
end Go.Proofs.YteonmcconpfkjaaDoor

/- The walks of verify's cut, leaf and node, and of bytes.Equal. No condition. -/
namespace Go.Proofs.YteonmcconpfkjaaDoor
open Go Go.RowKit
attribute [local irreducible] mixW
attribute [local go_sem] n8_lo n8_hi n64_lo n64_hi n32_lo n32_hi
theorem vcut_any (x : Int) (w : World) : Calls Tryd.prog 116 #[.int .i64 x] w fun e w' => e = .returned (.int .i64 (cutW x)) ∧ w = w' := by
  by_cases h1 : x < 1
  · have Hd := Lib.hid (show cutW x = 32 from if_pos (.inl h1))
    go_enter Tryd.func116, Tryd.ntmps116
    go_wp2
    go_ret
    exact ⟨by rw [Hd.out]; rfl, rfl⟩
  · by_cases h2 : 32 < x
    · have Hd := Lib.hid (show cutW x = 32 from if_pos (.inr h2))
      go_enter Tryd.func116, Tryd.ntmps116
      go_wp2
      go_ret
      exact ⟨by rw [Hd.out]; rfl, rfl⟩
    · have h3 : (cutW x : Int) = x := by unfold cutW; rw [if_neg (by omega)]; omega
      have Hd := Lib.hid h3
      clear h3
      go_enter Tryd.func116, Tryd.ntmps116
      go_wp2
      go_ret
      exact ⟨by rw [Hd.out]; rfl, rfl⟩
theorem wpList_str {w : World} {ops : Array Oper} {rest : List Oper} {o : Oper} {a : Act} {Q : Exit → Act → World → Prop} (hgd : o.guard = none) (x : Operand) (ho : o.op = .convert 22 9 x) (v : Value) (bs : List UInt8) (B : Nat) (hx : a.eval x = v) (hv : BSl w B v bs)
    (h : wpList Tryd.prog ops Q rest (a.put o.dst (strV bs)) w) : wpList Tryd.prog ops Q (o :: rest) a w :=
  wpList_plain hgd fun K hK => by
    unfold Oper.wp execOp
    simp only [ho, hx, Sem.run_bind, run_bytes_str hv, Result.andThen_ok, Sem.run_pure]
    exact hK _ _ h
theorem wpList_eqStr {w : World} {ops : Array Oper} {rest : List Oper} {o : Oper} {a : Act} {Q : Exit → Act → World → Prop} (hgd : o.guard = none) (x y : Operand) (yt : TypeId) (ho : o.op = .binOp .eql 9 x y yt) (X Y : List UInt8) (hx : a.eval x = strV X) (hy : a.eval y = strV Y)
    (b : Bool) (hb : decide (X = Y) = b) (h : wpList Tryd.prog ops Q rest (a.put o.dst (.bool b)) w) : wpList Tryd.prog ops Q (o :: rest) a w :=
  wpList_plain hgd fun K hK => by
    have hg : (eqGuard .eql 9 x y (strV X) (strV Y)).run Tryd.prog w = .ok () w := by unfold strV; simp [eqGuard]
    unfold Oper.wp execOp
    simp only [ho, hx, hy, Sem.run_bind, hg, run_strEq, hb, Result.andThen_ok, Sem.run_pure]
    exact hK _ _ h
theorem equal_any (u v : Value) (x y : List UInt8) (w : World) (hu : BSl w w.heap.size u x) (hv : BSl w w.heap.size v y) (b : Bool) (hb : decide (x = y) = b) :
    Calls Tryd.prog 130 #[u, v] w fun e w' => e = .returned (.bool b) ∧ w = w' := by
  have Hu := Lib.hid hu
  have Hv := Lib.hid hv
  have Hb := Lib.hid hb
  clear hu hv hb
  go_enter Tryd.func130, Tryd.ntmps130
  go_wp2_with (first
    | (refine wpList_str rfl (.tmp 5) rfl u x _ rfl Hu.out ?_)
    | (refine wpList_str rfl (.tmp 7) rfl v y _ rfl Hv.out ?_)
    | (refine wpList_eqStr rfl (.tmp 6) (.tmp 8) _ rfl x y rfl rfl b Hb.out ?_))
  go_ret
  exact ⟨rfl, rfl⟩
/-- a step's cells: its text and its hash -/
def stepC (u : Value) (d : List UInt8) : Array Value := (u :: (dat d).toList).toArray
theorem stepC_size (u : Value) (d : List UInt8) : (stepC u d).size = 33 := by unfold stepC; simp [dat_size]
theorem stepC_one (u : Value) (d : List UInt8) (h : u.oneCell' = true) : ∀ v ∈ (stepC u d).toList, v.oneCell' = true := by
  intro v hv
  unfold stepC at hv
  simp only [List.mem_cons] at hv
  rcases hv with rfl | hv
  · exact h
  · exact arr_one _ _ v (by simpa [dat] using hv)
set_option maxRecDepth 100000 in
theorem build_step (A : Option Addr) (n c : Nat) (d : List UInt8) (w : World) : (Instr.build 186 #[(0, .slice A n c), (1, .agg (dat d))]).run Tryd.prog w = .ok (.agg (stepC (.slice A n c) d)) w := by kernel_rfl
theorem wpList_buildStep {w : World} {ops : Array Oper} {rest : List Oper} {o : Oper} {a : Act} {Q : Exit → Act → World → Prop} (hgd : o.guard = none) (x y : Operand) (ho : o.op = .build 186 #[(0, x), (1, y)]) (A : Option Addr) (n c : Nat) (d : List UInt8) (hx : a.eval x = .slice A n c) (hy : a.eval y = .agg (dat d))
    (h : wpList Tryd.prog ops Q rest (a.put o.dst (.agg (stepC (.slice A n c) d))) w) : wpList Tryd.prog ops Q (o :: rest) a w :=
  wpList_plain hgd fun K hK => by
    unfold Oper.wp execOp
    simp only [ho, List.map_toArray, List.map_cons, List.map_nil, hx, hy, Sem.run_bind, build_step A n c d, Result.andThen_ok, Sem.run_pure]
    exact hK _ _ h
theorem wpQuiet_buildStep {ops : Array Oper} {C : World → Prop} {K : Act → Prop} {a : Act} {o : Oper} {rest : List Oper} (hw : Region.wanted o (yielded ops a.tmps) = true) (x y : Operand) (ho : o.op = .build 186 #[(0, x), (1, y)]) (A : Option Addr) (n c : Nat) (d : List UInt8) (hx : a.eval x = .slice A n c) (hy : a.eval y = .agg (dat d))
    (h : wpQuiet Tryd.prog ops C K rest (a.put o.dst (.agg (stepC (.slice A n c) d)))) : wpQuiet Tryd.prog ops C K (o :: rest) a :=
  wpQuiet_wanted hw _ (fun w _ => by
    unfold Oper.quietAt execOp
    simp only [ho, List.map_toArray, List.map_cons, List.map_nil, hx, hy, Sem.run_bind, build_step A n c d, Result.andThen_ok, Sem.run_pure]
    exact ⟨rfl, rfl⟩) h
/-- a whole step is stored into a block -/
theorem wpList_storeStep {w : World} {ops : Array Oper} {rest : List Oper} {o : Oper} {a : Act} {Q : Exit → Act → World → Prop} (hgd : o.guard = none) (hdst : o.dst = none) (x y : Operand) (ho : o.op = .store 186 x y) (g : Nat) (hx : a.eval x = .pointer (some ⟨g, 0, none⟩)) (A : Option Addr) (n c : Nat) (d : List UInt8) (hy : a.eval y = .agg (stepC (.slice A n c) d))
    (t : TypeId) (cs : Array Value) (hg : Blk w g t cs) (hs : cs.size = 33) (h : ∀ w', Blk w' g t (stepC (.slice A n c) d) → w.grownBy w' (some g) → wpList Tryd.prog ops Q rest a w') : wpList Tryd.prog ops Q (o :: rest) a w := by
  refine wpList_storeB hgd hdst 186 x y ho g 0 hx (stepC (.slice A n c) d) hy t cs hg (by rw [stepC_size]; kernel_rfl) (by rw [stepC_size]; omega) (stepC_one _ _ rfl) fun w' h1 h2 => ?_
  rw [copied_all cs _ (by rw [stepC_size, hs])] at h1
  exact h w' h1 h2
def step0 : Array Value := (Value.slice none 0 0 :: (arr 32 fun _ => 0).toList).toArray
theorem step0_size : step0.size = 33 := by unfold step0; simp [arr_size]
end Go.Proofs.YteonmcconpfkjaaDoor

/- The walks of verify's leaf and node. No condition. -/
namespace Go.Proofs.YteonmcconpfkjaaDoor
open Go Go.RowKit
attribute [local irreducible] mixW
attribute [local go_sem] n8_lo n8_hi n64_lo n64_hi n32_lo n32_hi
set_option maxRecDepth 100000 in
theorem vleaf_any (x : Int) (v : Value) (b : List UInt8) (w : World) (hv : BSl w w.heap.size v b) (hl : b.length ≤ 140737488355200) (hG : Glob w) :
    Calls Tryd.prog 160 #[.int .i64 x, v] w fun e w' => ∃ u, e = .returned (.agg (stepC u (leafM (cutW x) b))) ∧ w'.ownsRow w.heap.size 5 1 u (0 :: b).length ((0 :: b).map v8) ∧ Below w.heap.size w w' := by
  obtain ⟨A, c, rfl, h1, h2, hrd⟩ := hv
  have hv : BSl w w.heap.size (.slice A b.length c) b := ⟨A, c, rfl, h1, h2, hrd⟩
  clear hrd h1 h2
  obtain ⟨m, hm⟩ : ∃ m, b.length = m := ⟨_, rfl⟩
  have Hm := Lib.hid hm
  rw [hm] at hv hl ⊢
  clear hm
  have hS0 : Blk (((w.alloc (Obj.cells step0 186)).alloc (Obj.cells #[.int .u8 0] 5)).alloc (Obj.cells #[.slice (some ⟨w.heap.size + 1, 0, none⟩) 1 1, .slice A m c] 22)) (w.heap.size + 2) 22 #[.slice (some ⟨w.heap.size + 1, 0, none⟩) 1 1, .slice A m c] := Blk.new3 w (Obj.cells step0 186) (Obj.cells #[.int .u8 0] 5) 22 #[.slice (some ⟨w.heap.size + 1, 0, none⟩) 1 1, .slice A m c]
  have hD3 := ((Blk.new w 186 step0).alloc (Obj.cells #[.int .u8 0] 5)).alloc (Obj.cells #[.slice (some ⟨w.heap.size + 1, 0, none⟩) 1 1, .slice A m c] 22)
  have hK3 := (Blk.new2 w (Obj.cells step0 186) 5 #[.int .u8 0]).alloc (Obj.cells #[.slice (some ⟨w.heap.size + 1, 0, none⟩) 1 1, .slice A m c] 22)
  have hb3 := below_new3 w (Obj.cells step0 186) (Obj.cells #[.int .u8 0] 5) (Obj.cells #[.slice (some ⟨w.heap.size + 1, 0, none⟩) 1 1, .slice A m c] 22)
  go_enter Tryd.func160, Tryd.ntmps160
  go_wp2_with fail
  refine calls_at (fun W => Blk W w.heap.size 186 step0 ∧ Blk W (w.heap.size + 1) 5 #[.int .u8 0] ∧ Blk W (w.heap.size + 2) 22 #[.slice (some ⟨w.heap.size + 1, 0, none⟩) 1 1, .slice A m c] ∧ Below w.heap.size w W) ⟨hD3, hK3, hS0, hb3⟩ ?_
  clear hD3 hK3 hS0 hb3
  rintro W ⟨hD, hK, hS, hbel⟩
  have hk : BSl W W.heap.size (.slice (some ⟨w.heap.size + 1, 0, none⟩) 1 1) [0] := ⟨_, 1, rfl, by decide, by decide, (by have h0 := Reads.of_blk hK hK.lt 0; simpa using h0 : Reads W W.heap.size (some ⟨w.heap.size + 1, 0, none⟩) [Value.int .u8 0])⟩
  have hSS := SSl.two hS _ hS.lt hk (hv.next hbel)
  refine (join_any _ _ W hSS (by have := Hm.out; simp; omega)).mono ?_
  rintro e w1 ⟨u, rfl, hown, hb1⟩
  have hfl : ([[(0 : UInt8)], b] : List (List UInt8)).flatten = 0 :: b := by simp
  rw [hfl] at hown
  obtain ⟨Au, cu, hu⟩ := own_slice hown
  replace hD := hD.below hb1 hD.lt
  have hown := own_base hown hbel.size
  replace hbel := hbel.trans (hb1.mono hbel.size)
  clear hb1 hS hK hk hSS hfl
  have HO := Lib.hid (And.intro hown hu)
  clear hown hu
  go_wp2_with fail
  refine (mleaf_any x _ b w1 (hv.next hbel) (by have := Hm.out; omega) (hG.next hbel)).mono ?_
  rintro e w2 ⟨rfl, hb1⟩
  replace hD := hD.below hb1 hD.lt
  replace hbel := hbel.trans (hb1.mono hbel.size)
  have HO2 := Lib.hid (And.intro (own_below HO.out.1 hb1) HO.out.2)
  clear hb1 HO hv
  have hu := HO2.out.2
  subst hu
  go_wp2_with (first
    | (refine wpList_buildStep rfl (.tmp 8) (.tmp 11) rfl Au _ cu (leafM (cutW x) b) rfl rfl ?_)
    | (refine wpList_storeStep rfl rfl (.tmp 4) (.tmp 12) rfl w.heap.size rfl Au _ cu _ rfl _ _ hD step0_size ?_; intro w10 hD10 hon10))
  have hb10 := below_only hbel hon10 (Nat.le_refl _) hbel.size
  have hown := own_grown HO2.out.1 hon10 (own_diff HO2.out.1 hD (by decide))
  have Hf := Lib.hid hown
  clear hown HO2
  refine bodyPost_ret (results_cell_row (p := 4) (ty := 186) rfl _ _ w.heap.size _ _ _ _ rfl hD10 Tryd.underlying186 rfl (by rw [stepC_size]; kernel_rfl)) rfl ⟨_, rfl, ?_, hb10⟩
  exact Hf.out
set_option maxHeartbeats 400000 in
set_option maxRecDepth 100000 in
theorem vnode_any (x : Int) (p q : List UInt8) (hp : p.length = 32) (hq : q.length = 32) (w : World) (hG : Glob w) :
    Calls Tryd.prog 161 #[.int .i64 x, .agg (dat p), .agg (dat q)] w fun e w' => ∃ u, e = .returned (.agg (stepC u (nodeM (cutW x) p q))) ∧ w'.ownsRow w.heap.size 5 1 u (nodeT (cutW x) p q).length ((nodeT (cutW x) p q).map v8) ∧ Below w.heap.size w w' := by
  have hP := ((Blk.new w 43 (dat p)).alloc (Obj.cells (dat q) 43)).alloc (Obj.cells step0 186)
  have hQ := (Blk.new2 w (Obj.cells (dat p) 43) 43 (dat q)).alloc (Obj.cells step0 186)
  have hD := Blk.new3 w (Obj.cells (dat p) 43) (Obj.cells (dat q) 43) 186 step0
  have hb3 := below_new3 w (Obj.cells (dat p) 43) (Obj.cells (dat q) 43) (Obj.cells step0 186)
  have Hp := Lib.hid hp
  have Hq := Lib.hid hq
  clear hp hq
  go_enter Tryd.func161, Tryd.ntmps161
  go_wp2_with fail
  refine calls_at (fun W => Blk W w.heap.size 43 (dat p) ∧ Blk W (w.heap.size + 1) 43 (dat q) ∧ Blk W (w.heap.size + 2) 186 step0 ∧ Below w.heap.size w W) ⟨hP, hQ, hD, hb3⟩ ?_
  clear hP hQ hD hb3
  rintro W ⟨hP, hQ, hD, hbel⟩
  refine (vcut_any x W).mono ?_
  rintro e _ ⟨rfl, rfl⟩
  have hn1 := cutW_lo x
  have hn2 := cutW_hi x
  have Hl := Lib.hid (show (nodeT (cutW x) p q).length ≤ 65 by unfold nodeT; simp only [List.length_cons, List.length_append, List.length_take]; omega)
  obtain ⟨n, hn⟩ : ∃ n, cutW x = n := ⟨_, rfl⟩
  rw [hn] at hn1 hn2 Hl ⊢
  have Hn := Lib.hid hn
  clear hn
  go_wp2_with fail
  have i1 : (n : Int) ≤ 32 := by omega
  refine wp_region_mixT 12 (.plain 1 <| .plain 2 <| .plain 3 <| .plain 4 <| .plain 7 <| .plain 8 <| .plain 9 <| .only 0 <| .only 5 <| .only 6 <| .only 10 <| .plain 11 <| .done) (by kernel_rfl) (by kernel_rfl) (fun W1 hb1 => ?_)
  replace hP := hP.below hb1 hP.lt
  replace hQ := hQ.below hb1 hQ.lt
  replace hD := hD.below hb1 hD.lt
  replace hbel := hbel.trans (hb1.mono hbel.size)
  clear hb1
  iterate 7 (refine mix_plain rfl ?_; (first
    | (refine wpQuiet_load rfl _ (.tmp 4) rfl w.heap.size rfl _ _ _ _ (fun _ ⟨e, he⟩ => by rw [he]; exact hP.plus e) Tryd.underlying43 rfl (by kernel_rfl) ?_; simp only [Act.put, List.setIfInBounds_toArray, List.set_cons_zero, List.set_cons_succ])
    | (refine wpQuiet_load rfl _ (.tmp 5) rfl (w.heap.size + 1) rfl _ _ _ _ (fun _ ⟨e, he⟩ => by rw [he]; exact hQ.plus e) Tryd.underlying43 rfl (by kernel_rfl) ?_; simp only [Act.put, List.setIfInBounds_toArray, List.set_cons_zero, List.set_cons_succ])
    | go_big_quiet_step (fail)); refine wpQuiet_nil ?_)
  refine mix_only rfl (fun K hK => ?_)
  go_wp2_with fail
  refine hK _ _ (below_new1 W1 _) ?_
  clear hK K
  have hb1 := below_new1 W1 (Obj.cells #[.int .u8 1] 5)
  refine mix_at (fun W => Blk W W1.heap.size 5 #[.int .u8 1] ∧ Blk W w.heap.size 43 (dat p) ∧ Blk W (w.heap.size + 1) 43 (dat q) ∧ Blk W (w.heap.size + 2) 186 step0 ∧ Below w.heap.size w W) ⟨Blk.new W1 5 #[.int .u8 1], hP.below hb1 hP.lt, hQ.below hb1 hQ.lt, hD.below hb1 hD.lt, hbel.trans (hb1.mono hbel.size)⟩ ?_
  clear hb1 hP hQ hD hbel
  rintro W2 ⟨hK1, hP, hQ, hD, hbel⟩
  generalize W1.heap.size = g1 at hK1 ⊢
  refine mix_only rfl (fun K hK => ?_)
  go_wp2_with fail
  refine hK _ _ (below_new1 W2 _) ?_
  clear hK K
  have hb1 := below_new1 W2 (Obj.cells #[.slice (some ⟨g1, 0, none⟩) 1 1, .slice (some ⟨w.heap.size, 0, none⟩) n 32, .slice (some ⟨w.heap.size + 1, 0, none⟩) n 32] 22)
  refine mix_at (fun W => Blk W W2.heap.size 22 #[.slice (some ⟨g1, 0, none⟩) 1 1, .slice (some ⟨w.heap.size, 0, none⟩) n 32, .slice (some ⟨w.heap.size + 1, 0, none⟩) n 32] ∧ Blk W g1 5 #[.int .u8 1] ∧ Blk W w.heap.size 43 (dat p) ∧ Blk W (w.heap.size + 1) 43 (dat q) ∧ Blk W (w.heap.size + 2) 186 step0 ∧ Below w.heap.size w W) ⟨Blk.new W2 _ _, hK1.below hb1 hK1.lt, hP.below hb1 hP.lt, hQ.below hb1 hQ.lt, hD.below hb1 hD.lt, hbel.trans (hb1.mono hbel.size)⟩ ?_
  clear hb1 hK1 hP hQ hD hbel
  rintro W3 ⟨hS, hK1, hP, hQ, hD, hbel⟩
  generalize W2.heap.size = g2 at hS ⊢
  have hk : BSl W3 W3.heap.size (.slice (some ⟨g1, 0, none⟩) 1 1) [1] := ⟨_, 1, rfl, by decide, by decide, (by have h0 := Reads.of_blk hK1 hK1.lt 0; simpa using h0 : Reads W3 W3.heap.size (some ⟨g1, 0, none⟩) [Value.int .u8 1])⟩
  have hSS := SSl.three hS _ hS.lt hk (dat_take hP Hp.out hn2) (dat_take hQ Hq.out hn2)
  have hll : (p.take n).length ≤ 32 ∧ (q.take n).length ≤ 32 := by rw [List.length_take, List.length_take]; omega
  refine mix_only rfl (fun K hK => ?_)
  go_wp2_with fail
  refine (join_any _ _ W3 hSS (by simp only [List.flatten_cons, List.flatten_nil, List.append_nil, List.length_append, List.length_cons, List.length_nil]; omega)).mono ?_
  rintro e W4 ⟨u, rfl, hown, hb1⟩
  have hfl : ([[(1 : UInt8)], p.take n, q.take n] : List (List UInt8)).flatten = nodeT n p q := by simp [nodeT]
  rw [hfl] at hown
  go_wp2_with fail
  refine hK _ _ hb1 ?_
  clear hK K hfl
  obtain ⟨Au, cu, hu⟩ := own_slice hown
  replace hD := hD.below hb1 hD.lt
  have hown := own_base hown hbel.size
  replace hbel := hbel.trans (hb1.mono hbel.size)
  clear hb1 hS hK1 hP hQ hk hSS
  subst hu
  refine mix_only rfl (fun K hK => ?_)
  go_wp2_with fail
  refine (mnode_any x p q Hp.out Hq.out W4 (hG.next hbel)).mono ?_
  rintro e W5 ⟨rfl, hb1⟩
  rw [Hn.out]
  go_wp2_with fail
  refine hK _ _ hb1 ?_
  clear hK K
  replace hD := hD.below hb1 hD.lt
  replace hown := own_below hown hb1
  replace hbel := hbel.trans (hb1.mono hbel.size)
  clear hb1
  refine mix_plain rfl ?_
  refine wpQuiet_buildStep rfl (.tmp 16) (.tmp 20) rfl Au _ cu (nodeM n p q) rfl rfl ?_
  simp only [Act.put, List.setIfInBounds_toArray, List.set_cons_zero, List.set_cons_succ]
  refine wpQuiet_nil ?_
  refine mix_done ?_
  simp only [List.drop_succ_cons, List.drop_zero]
  refine wpList_storeStep rfl rfl (.tmp 6) (.tmp 21) rfl (w.heap.size + 2) rfl Au _ cu _ rfl _ _ hD step0_size ?_
  intro w10 hD10 hon10
  have hb10 := below_only hbel hon10 (by omega) hbel.size
  have hown := own_grown hown hon10 (own_diff hown hD (by decide))
  have Hf := Lib.hid hown
  clear hown
  go_wp2
  refine bodyPost_ret (results_cell_row (p := 6) (ty := 186) rfl _ _ (w.heap.size + 2) _ _ _ _ rfl hD10 Tryd.underlying186 rfl (by rw [stepC_size]; kernel_rfl)) rfl ⟨.slice Au (nodeT n p q).length cu, by rw [Hn.out], by rw [Hn.out]; exact Hf.out, hb10⟩
end Go.Proofs.YteonmcconpfkjaaDoor

/- Lists of verify's steps: their cells, append of one onto a row of the call's own. No condition. -/
namespace Go.Proofs.YteonmcconpfkjaaDoor
open Go Go.RowKit
/-- the cells of some steps: each a text's slice, and the hash of the text -/
def scells (n : Nat) (l : List (Value × List UInt8)) : List Value := (l.map fun p => (stepC p.1 (sumM n p.2)).toList).flatten
theorem scells_snoc (n : Nat) (l : List (Value × List UInt8)) (p : Value × List UInt8) : scells n (l ++ [p]) = scells n l ++ (stepC p.1 (sumM n p.2)).toList := by simp [scells]
theorem scells_at (n : Nat) (l : List (Value × List UInt8)) (k : Nat) (hk : k < l.length) (j : Nat) (hj : j < 33) : (scells n l)[k * 33 + j]? = (stepC l[k].1 (sumM n l[k].2))[j]? := by
  induction l generalizing k with
  | nil => simp at hk
  | cons d l ih =>
    have hd : (stepC d.1 (sumM n d.2)).toList.length = 33 := by rw [Array.length_toList, stepC_size]
    have e : scells n (d :: l) = (stepC d.1 (sumM n d.2)).toList ++ scells n l := by simp [scells]
    rw [e]
    cases k with
    | zero => rw [List.getElem?_append_left (by omega)]; simp
    | succ k =>
      rw [List.getElem?_append_right (by omega), hd, show (k + 1) * 33 + j - 33 = k * 33 + j by omega, ih k (by simpa using hk)]; simp
/-- v is a row of steps of the call's own -/
def Stp (w : World) (base : Nat) (v : Value) (n : Nat) (l : List (Value × List UInt8)) : Prop :=
  w.ownsRow base 186 33 v l.length (scells n l) ∧ ∀ p ∈ l, w.ownsRow base 5 1 p.1 p.2.length (p.2.map v8)
theorem Stp.below {w w' : World} {base n : Nat} {v : Value} {l : List (Value × List UInt8)} (h : Stp w base v n l) (hb : Below w.heap.size w w') : Stp w' base v n l :=
  ⟨own_below h.1 hb, fun p hp => own_below (h.2 p hp) hb⟩
theorem Stp.base {w : World} {base b2 n : Nat} {v : Value} {l : List (Value × List UInt8)} (h : Stp w base v n l) (hb : b2 ≤ base) : Stp w b2 v n l :=
  ⟨own_base h.1 hb, fun p hp => own_base (h.2 p hp) hb⟩
theorem own_grownT {w w' : World} {base s s' n m : Nat} {e e' : TypeId} {v u : Value} {xs ys : List Value} (h : w.ownsRow base e s v n xs) (hu : w.ownsRow base e' s' u m ys) (ht : e ≠ e') (hg : w.grownBy w' v.ownBlock) : w'.ownsRow base e' s' u m ys := by
  rcases h.2 with ⟨rfl, _⟩ | ⟨b, cap, cur, rfl, _, hb, _⟩
  · exact own_grown hu hg (fun g hg e => by cases e)
  · exact own_grown hu hg (own_diff hu (show Blk w b e cur from hb) ht)
theorem Stp.grown {w w' : World} {base n : Nat} {v u : Value} {l l' : List (Value × List UInt8)} (h : Stp w base v n l) (hown : w'.ownsRow base 186 33 u l'.length (scells n l')) (hg : w.grownBy w' v.ownBlock) (p : Value × List UInt8) (hp : w.ownsRow base 5 1 p.1 p.2.length (p.2.map v8)) (hl : l' = l ++ [p]) : Stp w' base u n l' := by
  subst hl
  refine ⟨hown, fun q hq => ?_⟩
  rcases List.mem_append.1 hq with hq | hq
  · exact own_grownT h.1 (h.2 q hq) (by decide) hg
  · rw [List.mem_singleton.1 hq]; exact own_grownT h.1 hp (by decide) hg
theorem Stp.text {w : World} {base n : Nat} {v : Value} {l : List (Value × List UInt8)} (h : Stp w base v n l) (k : Nat) (hk : k < l.length) : BSl w w.heap.size l[k].1 l[k].2 :=
  BSl.of_own (h.2 _ (List.getElem_mem hk))
/-- the hash of a step, in the row -/
theorem Stp.hash {w : World} {base n : Nat} {v : Value} {l : List (Value × List UInt8)} (h : Stp w base v n l) (k : Nat) (hk : k < l.length) : ∃ g c, v = .slice (some ⟨g, 0, none⟩) l.length c ∧ g < w.heap.size ∧ base ≤ g ∧ w.cell? ⟨g, k * 33, none⟩ = some l[k].1 ∧ w.rangeAt g (k * 33 + 1) (dat (sumM n l[k].2)).toList := by
  have hlt := own_lt h.1
  rcases h.1.2 with ⟨_, h0⟩ | ⟨g, cap, cur, e, hb, hh, hc1, _, hsz, hcur⟩
  · omega
  · have hcell : ∀ j, j < 33 → w.cell? ⟨g, k * 33 + j, none⟩ = (stepC l[k].1 (sumM n l[k].2))[j]? := by
      intro j hj
      rw [cell_of_row w g (k * 33 + j) cur _ (0, 0) hh]
      have h1 := scells_at n l k hk j hj
      rw [← hcur, List.getElem?_take, if_pos (by omega)] at h1
      rw [← h1]; simp
    refine ⟨g, cap, e, hlt g (by rw [e]; rfl), hb, by have := hcell 0 (by decide); simpa [stepC] using this, fun j v hj => ?_⟩
    have hj32 : j < 32 := by
      have := (List.getElem?_eq_some_iff.1 hj).1
      rw [Array.length_toList, dat_size] at this; exact this
    have := hcell (j + 1) (by omega)
    rw [show k * 33 + 1 + j = k * 33 + (j + 1) by omega, this, ← hj]
    simp [stepC]
theorem Stp.lt {w : World} {base n : Nat} {v : Value} {l : List (Value × List UInt8)} (h : Stp w base v n l) : ∃ A c, v = .slice A l.length c := own_slice h.1
set_option maxRecDepth 100000 in
theorem build_steps (A : Option Addr) (n c : Nat) (d : List UInt8) (w : World) : (Instr.buildSlice 182 1 #[(0, .agg (stepC (.slice A n c) d))]).run Tryd.prog w = .ok (.slice (some ⟨w.heap.size, 0, none⟩) 1 1) (w.alloc (.cells (stepC (.slice A n c) d) 186)) := by kernel_rfl
theorem wpList_buildSteps {w : World} {ops : Array Oper} {rest : List Oper} {o : Oper} {a : Act} {Q : Exit → Act → World → Prop} (hgd : o.guard = none) (x : Operand) (ho : o.op = .buildSlice 182 1 #[(0, x)]) (A : Option Addr) (n c : Nat) (d : List UInt8) (hx : a.eval x = .agg (stepC (.slice A n c) d))
    (h : wpList Tryd.prog ops Q rest (a.put o.dst (.slice (some ⟨w.heap.size, 0, none⟩) 1 1)) (w.alloc (.cells (stepC (.slice A n c) d) 186))) : wpList Tryd.prog ops Q (o :: rest) a w :=
  wpList_plain hgd fun K hK => by
    unfold Oper.wp execOp
    simp only [ho, List.map_toArray, List.map_cons, List.map_nil, hx, Sem.run_bind, build_steps A n c d, Result.andThen_ok, Sem.run_pure]
    exact hK _ _ h
theorem own_oneS (w : World) (base n : Nat) (hb : base ≤ w.heap.size) (p : Value × List UInt8) : (w.alloc (.cells (stepC p.1 (sumM n p.2)) 186)).ownsRow base 186 33 (.slice (some ⟨w.heap.size, 0, none⟩) 1 1) [p].length (scells n [p]) := by
  have hl : (scells n [p]) = (stepC p.1 (sumM n p.2)).toList := by simp [scells]
  refine ⟨by rw [hl, Array.length_toList, stepC_size]; rfl, .inr ⟨w.heap.size, 1, stepC p.1 (sumM n p.2), rfl, hb, heap_alloc_new w _, Nat.le_refl _, by decide, by rw [stepC_size], ?_⟩⟩
  rw [hl, List.take_of_length_le (by rw [Array.length_toList, stepC_size]; show 33 ≤ 1 * 33; decide)]
/-- append of one step onto a row of steps of the call's own -/
theorem wpList_appendStep {w : World} {ops : Array Oper} {rest : List Oper} {o : Oper} {a : Act} {Q : Exit → Act → World → Prop} (hgd : o.guard = none) (s x : Operand)
    (ho : o.op = .call { callee := .builtin .append, args := #[s, x], argTypes := #[182, 182] })
    (base n : Nat) (v : Value) (l : List (Value × List UInt8)) (hs : a.eval s = v) (hS : Stp w base v n l)
    (A : Option Addr) (m c : Nat) (t : List UInt8) (g : Nat) (hx : a.eval x = .slice (some ⟨g, 0, none⟩) 1 1) (hX : Blk w g 186 (stepC (.slice A m c) (sumM n t))) (ht : w.ownsRow base 5 1 (.slice A m c) t.length (t.map v8)) (hl : l.length ≤ 1000000000) (hbase : base ≤ w.heap.size)
    (h : ∀ v' w', Stp w' base v' n (l ++ [(.slice A m c, t)]) → w.grownBy w' v.ownBlock → wpList Tryd.prog ops Q rest (a.put o.dst v') w') : wpList Tryd.prog ops Q (o :: rest) a w := by
  obtain ⟨i0, hi, hz0, hz1, hz2⟩ := info_parts (by kernel_rfl : (Tryd.prog.info? 186).map (fun i => (i.zero, i.size, i.bytes)) = some (some (.agg step0), 33, 56))
  refine wpList_append_own_at _ hgd s x _ ho base 186 i0 _ 33 56 Tryd.underlying182 hi hz0 hz1 hz2 (by show step0.size = 33; exact step0_size) (by decide) v _ _ hs hS.1 ⟨g, 0, none⟩ 1 1 (stepC (.slice A m c) (sumM n t)).toList hx (by rw [Array.length_toList, stepC_size]) (fun j u hj => by
      have e : (⟨g, 0, none⟩ : Addr).add j = ⟨g, j, none⟩ := by unfold Addr.add; split <;> simp_all
      rw [e, hX.cell, ← hj]; simp) (stepC_one _ _ rfl) (by unfold maxLen; omega) (by omega) hbase ?_
  intro v' w' hown' hg _ _
  have e2 : scells n l ++ (stepC (.slice A m c) (sumM n t)).toList = scells n (l ++ [(.slice A m c, t)]) := (scells_snoc n l (.slice A m c, t)).symm
  rw [e2] at hown'
  exact h v' w' (hS.grown (by rw [List.length_append]; exact hown') hg (.slice A m c, t) ht rfl) hg
end Go.Proofs.YteonmcconpfkjaaDoor

/- Whatever merkle proves is taken: the path of a place leads to the root. Plain. No condition. -/
namespace Go.Proofs.YteonmcconpfkjaaDoor
theorem halfN_of (N m : Nat) (h1 : 2 ^ m < N) (h2 : N ≤ 2 ^ (m + 1)) : halfN N = 2 ^ m := by
  unfold halfN
  have h3 : (N - 1).log2 = m := (Nat.log2_eq_iff (by have := Nat.one_le_two_pow (n := m); omega)).2 ⟨by omega, by omega⟩
  rw [h3]
theorem cutL_sum (n : Nat) (b : List UInt8) : cutL (sumM n b) n = sumM n b := by
  unfold sumM
  rw [cutL_cutL _ _ _ (sha_length b)]
  congr 1
  omega
theorem way_path (n : Nat) : ∀ (m : Nat) (l : List (List UInt8)) (a i sn : Nat) (T : List (List UInt8)), i < l.length → l.length ≤ 2 ^ m →
    (sn = a * 2 ^ m + (l.length - 1) ∨ (l.length = 2 ^ m ∧ (a + 1) * 2 ^ m ≤ sn)) → lastH n T = leafM n (l.getD i []) →
    ∃ X, lastH n (T ++ X) = rootM n l ∧ ∀ rest, wayS n (pathM n l i ++ rest) (a * 2 ^ m + i) sn T = wayS n rest a (sn / 2 ^ m) (T ++ X) := by
  intro m
  induction m with
  | zero =>
    intro l a i sn T hi hl hs hT
    simp only [Nat.pow_zero] at *
    obtain rfl : i = 0 := by omega
    refine ⟨[], ?_, fun rest => ?_⟩
    · rw [List.append_nil, hT, rootM_single n l (by omega)]
    · rw [pathM_one n l 0 (by omega), List.append_nil, Nat.mul_one, Nat.add_zero, Nat.div_one]; rfl
  | succ m ih =>
    intro l a i sn T hi hl hs hT
    have hp : 2 ^ (m + 1) = 2 * 2 ^ m := by rw [Nat.pow_succ]; omega
    have h1 : 1 ≤ 2 ^ m := Nat.one_le_two_pow
    have hd : sn / 2 ^ (m + 1) = sn / 2 ^ m / 2 := by rw [Nat.pow_succ, Nat.div_div_eq_div_mul]
    have ea : a * 2 ^ (m + 1) = (2 * a) * 2 ^ m := by rw [hp, ← Nat.mul_assoc, Nat.mul_comm a 2]
    have ea1 : (a + 1) * 2 ^ (m + 1) = (2 * a) * 2 ^ m + 2 * 2 ^ m := by rw [Nat.add_mul, ea, Nat.one_mul, hp]
    have eb : (2 * a + 1) * 2 ^ m = (2 * a) * 2 ^ m + 2 ^ m := by rw [Nat.add_mul, Nat.one_mul]
    have ec : (2 * a + 1 + 1) * 2 ^ m = (2 * a) * 2 ^ m + 2 ^ m + 2 ^ m := by rw [Nat.add_mul, eb, Nat.one_mul]
    rw [ea1, ea] at hs
    rw [ea, hd]
    by_cases hN : l.length ≤ 2 ^ m
    · have hs1 : sn = (2 * a) * 2 ^ m + (l.length - 1) := by rcases hs with h | h <;> omega
      obtain ⟨X, hX, hw⟩ := ih l (2 * a) i sn T hi hN (.inl hs1) hT
      refine ⟨X, hX, fun rest => ?_⟩
      have hq : sn / 2 ^ m = 2 * a := by
        rw [hs1, Nat.mul_comm, Nat.mul_add_div (by omega), Nat.div_eq_of_lt (by omega), Nat.add_zero]
      rw [hw rest, hq]
      by_cases h0 : a = 0
      · subst h0; rfl
      · rw [wayS_skip n (2 * a) rest _ (by omega) (by omega)]
        rw [show 2 * a / 2 = a by omega]
    · have hh := halfN_of l.length m (by omega) hl
      have hge : 2 * a + 1 ≤ sn / 2 ^ m := by
        rw [Nat.le_div_iff_mul_le (by omega), eb]
        rcases hs with h | h <;> omega
      have hr := rootM_node n l (by omega)
      rw [pathM_node n l i (by omega)]
      rw [hh] at hr ⊢
      by_cases hlt : i < 2 ^ m
      · rw [if_pos hlt]
        have hg : (l.take (2 ^ m)).getD i [] = l.getD i [] := by
          rw [List.getD_eq_getElem?_getD, List.getElem?_take_of_lt hlt, ← List.getD_eq_getElem?_getD]
        obtain ⟨X, hX, hw⟩ := ih (l.take (2 ^ m)) (2 * a) i sn T (by rw [List.length_take]; omega) (by rw [List.length_take]; omega) (.inr ⟨by rw [List.length_take]; omega, by rw [eb]; rcases hs with h | h <;> omega⟩) (by rw [hg]; exact hT)
        refine ⟨X ++ [nodeT n (lastH n (T ++ X)) (rootM n (l.drop (2 ^ m)))], ?_, fun rest => ?_⟩
        · rw [← List.append_assoc, lastH_snoc, ← nodeM_sum, hX, hr]
        · rw [List.append_assoc, hw, List.singleton_append, wayS_right n _ _ _ _ _ (by omega) (by omega) (by omega), List.append_assoc]
          rw [show 2 * a / 2 = a by omega]
      · rw [if_neg hlt]
        have hg : (l.drop (2 ^ m)).getD (i - 2 ^ m) [] = l.getD i [] := by
          rw [List.getD_eq_getElem?_getD, List.getElem?_drop, show 2 ^ m + (i - 2 ^ m) = i by omega, ← List.getD_eq_getElem?_getD]
        obtain ⟨X, hX, hw⟩ := ih (l.drop (2 ^ m)) (2 * a + 1) (i - 2 ^ m) sn T (by rw [List.length_drop]; omega) (by rw [List.length_drop]; omega) (by
          rw [List.length_drop, eb, ec]
          rcases hs with h | h
          · left; omega
          · right; omega) (by rw [hg]; exact hT)
        refine ⟨X ++ [nodeT n (rootM n (l.take (2 ^ m))) (lastH n (T ++ X))], ?_, fun rest => ?_⟩
        · rw [← List.append_assoc, lastH_snoc, ← nodeM_sum, hX, hr]
        · rw [List.append_assoc, show (2 * a) * 2 ^ m + i = (2 * a + 1) * 2 ^ m + (i - 2 ^ m) by rw [eb]; omega, hw, List.singleton_append, wayS_odd n _ _ _ _ _ (by omega) (by omega), List.append_assoc]
          rw [show (2 * a + 1) / 2 = a by omega]
/-- what is proved is taken -/
theorem leafS_path (n : Nat) (l : List (List UInt8)) (i : Nat) (hi : i < l.length) : leafS n (l.getD i []) i l.length (pathM n l i) (rootM n l) = true := by
  obtain ⟨m, hm⟩ : ∃ m, l.length ≤ 2 ^ m := ⟨l.length, Nat.le_of_lt Nat.lt_two_pow_self⟩
  obtain ⟨X, hX, hw⟩ := way_path n m l 0 i (l.length - 1) [0 :: l.getD i []] hi hm (.inl (by omega)) rfl
  have h := hw []
  rw [List.append_nil, Nat.zero_mul, Nat.zero_add, Nat.div_eq_of_lt (by omega), wayS_nil, if_pos rfl] at h
  unfold leafS
  rw [if_neg (by omega), h]
  refine decide_eq_true ?_
  rw [hX]
  obtain ⟨b, hb⟩ : ∃ b, rootM n l = sumM n b := by
    by_cases h2 : 2 ≤ l.length
    · rw [rootM_node n l h2]; exact ⟨_, rfl⟩
    · rw [rootM_single n l (by omega)]; exact ⟨_, rfl⟩
  rw [hb, cutL_sum]
end Go.Proofs.YteonmcconpfkjaaDoor
