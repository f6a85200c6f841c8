/- Texts that stand behind one another: RingK, RingS, Str, StrEq, VerP. No condition. -/
import Derived.Test.YtcdkadidkkbhpaaDoorS16
import Derived.Test.YtcdkadidkkbhpaaDoorS17
import Derived.Test.YtcdkadidkkbhpaaDoorS8
import Derived.Test.YtcdkadidkkbhpaaDoorS1
import Derived.Laws.BytesArg
import Derived.Laws.StructEq
import Derived.Test.YtcdkadidkkbhpaaDoorS14
/- What stays when a ring turns. No condition. -/
namespace Go.Proofs.YtcdkadidkkbhpaaDoor
open Go.RowKit
/-- block b is none of the ring's -/
structure Away (b g : Nat) (vs : Value) (rows : List Value) : Prop where
  ring : b ≠ g
  seed : vs.ownBlock ≠ some b
  row : ∀ i, i < 16 → (rows.getD i undef).ownBlock ≠ some b
/-- how a turn changes the world -/
structure Turned (w w' : World) (g t : Nat) (rows : List Value) (v' : Value) : Prop where
  ex : ∃ W2 W3, Below w.heap.size w W2 ∧ W2.grownBy W3 (rows.getD t undef).ownBlock ∧ W3.grownBy w' (some g) ∧ (v'.ownBlock = (rows.getD t undef).ownBlock ∨ v'.ownBlock = some W2.heap.size)
section
variable {w w' : World} {g B : Nat} {seed : List UInt8} {vs : Value} {rows : List Value} {ks : Nat → List (List UInt8)} {t b : Nat} {v' : Value}
theorem Turned.size (h : Turned w w' g t rows v') : w.heap.size ≤ w'.heap.size := by
  obtain ⟨W2, W3, h1, h2, h3, _⟩ := h
  exact Nat.le_trans h1.size (Nat.le_trans h2.size h3.size)
theorem Turned.blk {ty : TypeId} {cs : Array Value} (h : Turned w w' g t rows v') (ht : t < 16) (ha : Away b g vs rows) (hB : Blk w b ty cs) : Blk w' b ty cs := by
  obtain ⟨W2, W3, h1, h2, h3, _⟩ := h
  exact ((hB.below h1 hB.lt).grown h2 (fun e => ha.row t ht e.symm)).grown h3 (fun e => ha.ring (Option.some.inj e))
theorem Turned.away (h : Turned w w' g t rows v') (ht : t < 16) (hl : rows.length = 16) (hb : b < w.heap.size) (ha : Away b g vs rows) : Away b g vs (rows.set t v') := by
  obtain ⟨W2, W3, h1, h2, h3, h4⟩ := h
  refine ⟨ha.ring, ha.seed, fun i hi => ?_⟩
  rw [List.getD_eq_getElem?_getD, List.getElem?_set]
  by_cases he : t = i
  · subst he
    rw [if_pos rfl, if_pos (by omega)]
    show v'.ownBlock ≠ some b
    rcases h4 with e | e
    · rw [e]; exact ha.row t ht
    · rw [e]; intro e2; have := Option.some.inj e2; have := h1.size; omega
  · rw [if_neg he, ← List.getD_eq_getElem?_getD]; exact ha.row i hi
end
end Go.Proofs.YtcdkadidkkbhpaaDoor

/- Rings side by side. No condition. -/
namespace Go.Proofs.YtcdkadidkkbhpaaDoor
open Go.RowKit
/-- block b is one of the ring's -/
def Mine (b g : Nat) (vs : Value) (rows : List Value) : Prop := b = g ∨ vs.ownBlock = some b ∨ ∃ i, i < 16 ∧ (rows.getD i undef).ownBlock = some b
def Sep (g : Nat) (vs : Value) (rows : List Value) (g2 : Nat) (vs2 : Value) (rows2 : List Value) : Prop := ∀ b, Mine b g vs rows → Mine b g2 vs2 rows2 → False
section
variable {w w' : World} {g B : Nat} {seed : List UInt8} {vs : Value} {rows : List Value} {ks : Nat → List (List UInt8)} {g2 B2 : Nat} {seed2 : List UInt8} {vs2 : Value} {rows2 : List Value} {ks2 : Nat → List (List UInt8)} {t b : Nat} {v' : Value}
theorem away_of (h : ¬ Mine b g vs rows) : Away b g vs rows := ⟨fun e => h (.inl e), fun e => h (.inr (.inl e)), fun i hi e => h (.inr (.inr ⟨i, hi, e⟩))⟩
theorem Away.not (h : Away b g vs rows) : ¬ Mine b g vs rows := fun hm => by
  rcases hm with e | e | ⟨i, hi, e⟩
  · exact h.ring e
  · exact h.seed e
  · exact h.row i hi e
theorem Sep.symm (h : Sep g vs rows g2 vs2 rows2) : Sep g2 vs2 rows2 g vs rows := fun b h1 h2 => h b h2 h1
theorem Turned.own {e : TypeId} {size n : Nat} {v : Value} {xs : List Value} {base : Nat} (h : Turned w w' g t rows v') (ht : t < 16) (ho : w.ownsRow base e size v n xs) (ha : ∀ b, v.ownBlock = some b → Away b g vs rows) : w'.ownsRow base e size v n xs := by
  obtain ⟨W2, W3, h1, h2, h3, _⟩ := h
  refine own_grown (own_grown (own_below ho h1) h2 (fun b hb e => (ha b hb).row t ht e)) h3 (fun b hb e => (ha b hb).ring (Option.some.inj e).symm)
theorem Turned.tbl {tv : Value} (h : Turned w w' g t rows v') (ht : t < 16) (hT : Tbl w w.heap.size tv) (ha : ∀ b, tv = .pointer (some ⟨b, 0, none⟩) → Away b g vs rows) : Tbl w' w'.heap.size tv := by
  obtain ⟨b, rfl, hb, hB⟩ := hT
  exact ⟨b, rfl, Nat.lt_of_lt_of_le hb h.size, h.blk ht (ha b rfl) hB⟩
end
theorem neql_sig (h h' : HeadL) (hr : h.root.length = 32) (hr' : h'.root.length = 32) (t t' : List UInt8) (ht : t.length = 32) (ht' : t'.length = 32) (w : World) :
    (binOp .neq 42 (.agg (sigC h t)) (.agg (sigC h' t'))).run Tryd.prog w = .ok (.bool (!(headEq h h' && decide (t = t')))) w := by
  rw [run_neq_struct, eqi_sig 9996 h h' hr hr' t t' ht ht']; rfl
theorem wpQuiet_neS {ops : Array Oper} {C : World → Prop} {Q : Act → Prop} {a : Act} {o : Oper} {rest : List Oper} (hw : Region.wanted o (yielded ops a.tmps) = true) (x y : Operand) (yt : TypeId) (ho : o.op = .binOp .neq 42 x y yt) (h h' : HeadL) (t t' : List UInt8) (hx : a.eval x = .agg (sigC h t)) (hy : a.eval y = .agg (sigC h' t'))
    (hr : h.root.length = 32) (hr' : h'.root.length = 32) (ht : t.length = 32) (ht' : t'.length = 32)
    (b : Bool) (hb : (!(headEq h h' && decide (t = t'))) = b) (hk : wpQuiet Tryd.prog ops C Q rest (a.put o.dst (.bool b))) : wpQuiet Tryd.prog ops C Q (o :: rest) a :=
  wpQuiet_wanted hw (.bool b) (fun w _ => by
    unfold Oper.quietAt execOp
    simp only [ho, hx, hy, Sem.run_bind, Sem.run_pure, Result.andThen_ok, run_eqGuard_agg (P := Tryd.prog) w .neq 42 x y _ _ (by kernel_rfl), neql_sig h h' hr hr' t t' ht ht', hb]
    exact ⟨rfl, rfl⟩) hk
/-- the keys of a tree that turned so many times -/
def keysOf (seed : List UInt8) (t : Nat) (ds : List UInt32) (k : Nat) : List (List UInt8) := (List.range k).map fun (i : Nat) => keyL' seed t i (ds.getD i 0)
def ksOf (seed : List UInt8) (t : Nat) (ds : List UInt32) (k : Nat) : Nat → List (List UInt8) := fun j => if j = t then keysOf seed t ds k else []
theorem keysOf_length (seed : List UInt8) (t : Nat) (ds : List UInt32) (k : Nat) : (keysOf seed t ds k).length = k := by simp [keysOf]
theorem keysOf_at (seed : List UInt8) (t : Nat) (ds : List UInt32) (k i : Nat) (h : i < k) : (keysOf seed t ds k).getD i [] = keyL' seed t i (ds.getD i 0) := by
  unfold keysOf
  rw [List.getD_eq_getElem?_getD, List.getElem?_map, List.getElem?_range h]; rfl
theorem ksOf_self (seed : List UInt8) (t : Nat) (ds : List UInt32) (k : Nat) : ksOf seed t ds k t = keysOf seed t ds k := if_pos rfl
theorem ksOf_zero (seed : List UInt8) (t : Nat) (ds : List UInt32) : ksOf seed t ds 0 = fun _ => [] := by
  funext j; unfold ksOf keysOf; split <;> rfl
theorem ksOf_turn (seed : List UInt8) (t : Nat) (ds : List UInt32) (k : Nat) : (fun j => if j = t then ksOf seed t ds k t ++ [keyL' seed t ((ksOf seed t ds k t).length : Nat) (ds.getD k 0)] else ksOf seed t ds k j) = ksOf seed t ds (k + 1) := by
  funext j
  by_cases hj : j = t
  · subst hj
    rw [if_pos rfl, ksOf_self, ksOf_self, keysOf_length]
    unfold keysOf
    rw [List.range_succ, List.map_append]; rfl
  · rw [if_neg hj]; unfold ksOf; rw [if_neg hj, if_neg hj]
section
variable {w w' : World} {t : Nat} {ds : List UInt32} {tv : Value} {gA BA : Nat} {sA : List UInt8} {vA : Value} {kA : Nat} {gB BB : Nat} {sB : List UInt8} {vB : Value} {kB : Nat} {gC BC : Nat} {sC : List UInt8} {vC : Value} {kC : Nat}
end
end Go.Proofs.YtcdkadidkkbhpaaDoor

/- A slice of bytes as a string, in a quiet walk. No condition. -/
namespace Go.Proofs.YtcdkadidkkbhpaaDoor
open Go Go.RowKit
/-- the string of some bytes -/
def strV (bs : List UInt8) : Value := .string ⟨bs.toArray⟩
theorem nums_n8 (bs : List UInt8) : strOfNums (bs.map n8) = ⟨bs.toArray⟩ := by
  unfold strOfNums
  congr 1
  rw [List.map_map]
  congr 1
  apply List.ext_getElem (by simp)
  intro i h1 h2
  simp [n8]
theorem run_bytes_str {w : World} {B : Nat} {v : Value} {bs : List UInt8} (hv : BSl w B v bs) : (convert 23 9 v).run Tryd.prog w = .ok (strV bs) w := by
  obtain ⟨A, c, rfl, h1, h2, hr⟩ := hv
  cases A with
  | none =>
    have h0 : bs = [] := by
      cases bs with
      | nil => rfl
      | cons b l => obtain ⟨_, _, e, _⟩ := hr (by simp); cases e
    subst h0
    exact run_convert_bytes_nil w _ _ Tryd.underlying23 Tryd.underlying5 _ _ _ Tryd.underlying9
  | some p =>
    cases bs with
    | nil =>
      have hl : (loadCells p 0).run Tryd.prog w = .ok (([] : List Int).map (Value.int .u8)).toArray w := by
        have := run_loadCells_list (P := Tryd.prog) w p [] (fun j v hj => by simp at hj)
        simpa using this
      rw [List.length_nil, run_convert_bytes_string w _ _ _ _ 0 c Tryd.underlying23 Tryd.underlying5 Tryd.underlying9, run_bytesToString w p 0 c [] hl]
      rfl
    | cons b l =>
      obtain ⟨g, off, e, hb, hc⟩ := hr (by simp)
      cases e
      have h := run_convert_bytes_arg (P := Tryd.prog) w 23 5 Tryd.underlying23 Tryd.underlying5 g off (b :: l).length c ((b :: l).map n8) (by simp) (fun i hi => by
        have hh := hc i (v8 ((b :: l).getD i 0)) (by rw [List.getElem?_map, List.getElem?_eq_getElem hi]; simp [List.getD, List.getElem?_eq_getElem hi])
        rw [hh]
        rw [List.getD_eq_getElem?_getD, List.getD_eq_getElem?_getD, List.getElem?_map, List.getElem?_eq_getElem hi]
        rfl) 9 Tryd.underlying9
      rw [h, nums_n8]; rfl
section
variable {ops : Array Oper} {C : World → Prop} {Q : Act → Prop} {a : Act} {o : Oper} {rest : List Oper}
theorem wpQuiet_str (hw : Region.wanted o (yielded ops a.tmps) = true) (x : Operand) (ho : o.op = .convert 23 9 x) (v : Value) (bs : List UInt8) (B : Nat) (hx : a.eval x = v) (hv : ∀ w, C w → BSl w B v bs)
    (h : wpQuiet Tryd.prog ops C Q rest (a.put o.dst (strV bs))) : wpQuiet Tryd.prog ops C Q (o :: rest) a :=
  wpQuiet_wanted hw (strV bs) (fun w hC => by
    unfold Oper.quietAt execOp
    simp only [ho, hx, Sem.run_bind, run_bytes_str (hv w hC), Result.andThen_ok, Sem.run_pure]
    exact ⟨rfl, rfl⟩) h
end
end Go.Proofs.YtcdkadidkkbhpaaDoor

/- '==' on strings of bytes. No condition. -/
namespace Go.Proofs.YtcdkadidkkbhpaaDoor
open Go Go.RowKit
theorem bytes_beq (a b : List UInt8) : ((⟨a.toArray⟩ : ByteArray).toList == (⟨b.toArray⟩ : ByteArray).toList) = decide (a = b) := by
  rw [ByteArray.toList_eq, ByteArray.toList_eq]
  show (a == b) = decide (a = b)
  by_cases h : a = b
  · subst h; simp
  · rw [decide_eq_false h, beq_eq_false_iff_ne]; exact h
theorem run_strEq (w : World) (a b : List UInt8) : (binOp .eql 9 (strV a) (strV b)).run Tryd.prog w = .ok (.bool (decide (a = b))) w := by
  unfold strV
  rw [binOp_string_eql, bytes_beq]
  simp
section
variable {ops : Array Oper} {C : World → Prop} {Q : Act → Prop} {a : Act} {o : Oper} {rest : List Oper}
theorem wpQuiet_eqStr (hw : Region.wanted o (yielded ops a.tmps) = true) (x y : Operand) (yt : TypeId) (ho : o.op = .binOp .eql 9 x y yt) (X Y : List UInt8) (hx : a.eval x = strV X) (hy : a.eval y = strV Y)
    (b : Bool) (hb : decide (X = Y) = b) (hk : wpQuiet Tryd.prog ops C Q rest (a.put o.dst (.bool b))) : wpQuiet Tryd.prog ops C Q (o :: rest) a :=
  wpQuiet_wanted hw (.bool b) (fun w _ => by
    have hg : (eqGuard .eql 9 x y (strV X) (strV Y)).run Tryd.prog w = .ok () w := by unfold strV; simp [eqGuard]
    unfold Oper.quietAt execOp
    simp only [ho, hx, hy, Sem.run_bind, Sem.run_pure, Result.andThen_ok, hg, run_strEq, hb]
    exact ⟨rfl, rfl⟩) hk
theorem run_strNe (w : World) (a b : List UInt8) : (binOp .neq 9 (strV a) (strV b)).run Tryd.prog w = .ok (.bool (!decide (a = b))) w := by
  have h : binOp .neq 9 (strV a) (strV b) = pure (.bool (!((⟨a.toArray⟩ : ByteArray).toList == (⟨b.toArray⟩ : ByteArray).toList))) := by unfold strV; first | (simp [binOp, Op.stringOp]; done) | simp [binOp, Op.stringOp, bne]
  rw [h, bytes_beq]
  simp
theorem wpQuiet_neStr (hw : Region.wanted o (yielded ops a.tmps) = true) (x y : Operand) (yt : TypeId) (ho : o.op = .binOp .neq 9 x y yt) (X Y : List UInt8) (hx : a.eval x = strV X) (hy : a.eval y = strV Y)
    (b : Bool) (hb : decide (X = Y) = b) (hk : wpQuiet Tryd.prog ops C Q rest (a.put o.dst (.bool (!b)))) : wpQuiet Tryd.prog ops C Q (o :: rest) a :=
  wpQuiet_wanted hw (.bool (!b)) (fun w _ => by
    have hg : (eqGuard .neq 9 x y (strV X) (strV Y)).run Tryd.prog w = .ok () w := by unfold strV; simp [eqGuard]
    unfold Oper.quietAt execOp
    simp only [ho, hx, hy, Sem.run_bind, Sem.run_pure, Result.andThen_ok, hg, run_strNe, hb]
    exact ⟨rfl, rfl⟩) hk
end
end Go.Proofs.YtcdkadidkkbhpaaDoor

/- Proofs of a leaf, plain: what a path shows, the same however it is gone up. No condition. -/
namespace Go.Proofs.YtcdkadidkkbhpaaDoor
/-- both halved while the first is even and not nought -/
def stripF : Nat → Nat → Nat → Nat × Nat
  | 0, fn, sn => (fn, sn)
  | f + 1, fn, sn => if fn % 2 = 0 ∧ fn ≠ 0 then stripF f (fn / 2) (sn / 2) else (fn, sn)
def strip (fn sn : Nat) : Nat × Nat := stripF fn fn sn
theorem stripF_fuel : ∀ (f fn sn : Nat), fn ≤ f → ∀ g, fn ≤ g → stripF f fn sn = stripF g fn sn := by
  intro f
  induction f with
  | zero =>
    intro fn sn h g hg
    obtain rfl : fn = 0 := by omega
    cases g with
    | zero => rfl
    | succ g => rw [stripF, stripF, if_neg (by simp)]
  | succ f ih =>
    intro fn sn h g hg
    cases g with
    | zero =>
      obtain rfl : fn = 0 := by omega
      rw [stripF, stripF, if_neg (by simp)]
    | succ g =>
      rw [stripF, stripF]
      split
      · rename_i hc; exact ih _ _ (by omega) _ (by omega)
      · rfl
theorem strip_even {fn sn : Nat} (h : fn % 2 = 0) (h0 : fn ≠ 0) : strip fn sn = strip (fn / 2) (sn / 2) := by
  unfold strip
  rw [stripF_fuel fn fn sn (Nat.le_refl _) (fn - 1 + 1) (by omega), stripF, if_pos ⟨h, h0⟩]
  exact stripF_fuel _ _ _ (by omega) _ (Nat.le_refl _)
theorem strip_done {fn sn : Nat} (h : ¬ (fn % 2 = 0 ∧ fn ≠ 0)) : strip fn sn = (fn, sn) := by
  unfold strip
  cases fn with
  | zero => rfl
  | succ k => rw [stripF, if_neg h]
theorem strip_le (fn : Nat) : ∀ sn, fn ≤ sn → (strip fn sn).1 ≤ (strip fn sn).2 ∧ (strip fn sn).2 ≤ sn := by
  induction fn using Nat.strongRecOn with
  | _ fn ih =>
    intro sn h
    by_cases hc : fn % 2 = 0 ∧ fn ≠ 0
    · rw [strip_even hc.1 hc.2]
      have := ih (fn / 2) (by omega) (sn / 2) (by omega)
      omega
    · rw [strip_done hc]; exact ⟨h, Nat.le_refl _⟩
theorem strip_snd (fn : Nat) : ∀ sn, (strip fn sn).2 ≤ sn ∧ (strip fn sn).1 ≤ fn := by
  induction fn using Nat.strongRecOn with
  | _ fn ih =>
    intro sn
    by_cases hc : fn % 2 = 0 ∧ fn ≠ 0
    · rw [strip_even hc.1 hc.2]
      have := ih (fn / 2) (by omega) (sn / 2)
      omega
    · rw [strip_done hc]; exact ⟨Nat.le_refl _, Nat.le_refl _⟩
/-- the text of a node -/
def nodeT (n : Nat) (a b : List UInt8) : List UInt8 := 1 :: (a.take n ++ b.take n)
theorem nodeM_sum (n : Nat) (a b : List UInt8) : nodeM n a b = sumM n (nodeT n a b) := rfl
/-- the hash of the last text -/
def lastH (n : Nat) (T : List (List UInt8)) : List UInt8 := sumM n (T.getLastD [])
theorem lastH_snoc (n : Nat) (T : List (List UInt8)) (t : List UInt8) : lastH n (T ++ [t]) = sumM n t := by
  unfold lastH; rw [List.getLastD_eq_getLast?, List.getLast?_append]; rfl
theorem lastH_length (n : Nat) (T : List (List UInt8)) : (lastH n T).length = 32 := sumM_length _ _
/-- what is hashed on the way up; none: the path is none of that place -/
def wayS (n : Nat) : List (List UInt8) → Nat → Nat → List (List UInt8) → Option (List (List UInt8))
  | [], _, sn, T => if sn = 0 then some T else none
  | p :: ps, fn, sn, T => if sn = 0 then none else
      if fn % 2 = 0 ∧ fn ≠ sn then wayS n ps (fn / 2) (sn / 2) (T ++ [nodeT n (lastH n T) p])
      else wayS n ps ((strip fn sn).1 / 2) ((strip fn sn).2 / 2) (T ++ [nodeT n p (lastH n T)])
theorem wayS_nil (n fn sn : Nat) (T : List (List UInt8)) : wayS n [] fn sn T = if sn = 0 then some T else none := rfl
theorem wayS_end (n fn : Nat) (ps : List (List UInt8)) (T : List (List UInt8)) : wayS n ps fn 0 T = if ps = [] then some T else none := by
  cases ps with
  | nil => rfl
  | cons p ps => rw [wayS, if_pos rfl, if_neg (by simp)]
theorem wayS_right (n fn sn : Nat) (p : List UInt8) (ps T : List (List UInt8)) (h0 : sn ≠ 0) (h : fn % 2 = 0) (h1 : fn ≠ sn) : wayS n (p :: ps) fn sn T = wayS n ps (fn / 2) (sn / 2) (T ++ [nodeT n (lastH n T) p]) := by
  rw [wayS, if_neg h0, if_pos ⟨h, h1⟩]
theorem wayS_left (n fn sn : Nat) (p : List UInt8) (ps T : List (List UInt8)) (h0 : sn ≠ 0) (h : ¬ (fn % 2 = 0 ∧ fn ≠ sn)) : wayS n (p :: ps) fn sn T = wayS n ps ((strip fn sn).1 / 2) ((strip fn sn).2 / 2) (T ++ [nodeT n p (lastH n T)]) := by
  rw [wayS, if_neg h0, if_neg h]
theorem wayS_odd (n fn sn : Nat) (p : List UInt8) (ps T : List (List UInt8)) (h0 : sn ≠ 0) (h : fn % 2 = 1) : wayS n (p :: ps) fn sn T = wayS n ps (fn / 2) (sn / 2) (T ++ [nodeT n p (lastH n T)]) := by
  rw [wayS_left n fn sn p ps T h0 (by omega), strip_done (by omega)]
/-- the last of its row without a neighbour goes up as it is -/
theorem wayS_skip (n fn : Nat) (ps T : List (List UInt8)) (h : fn % 2 = 0) (h0 : fn ≠ 0) : wayS n ps fn fn T = wayS n ps (fn / 2) (fn / 2) T := by
  cases ps with
  | nil => rw [wayS_nil, wayS_nil, if_neg h0, if_neg (by omega)]
  | cons p ps => rw [wayS_left n fn fn p ps T h0 (by omega), wayS_left n (fn / 2) (fn / 2) p ps T (by omega) (by omega), strip_even h h0]
/-- how many texts come of it -/
def stepsF : Nat → Nat → Nat → Nat
  | 0, _, _ => 0
  | f + 1, fn, sn => if sn = 0 then 0 else if fn % 2 = 0 ∧ fn ≠ sn then 1 + stepsF f (fn / 2) (sn / 2) else 1 + stepsF f ((strip fn sn).1 / 2) ((strip fn sn).2 / 2)
theorem wayS_len (n : Nat) : ∀ (f : Nat) (ps : List (List UInt8)) (fn sn : Nat) (T X : List (List UInt8)), sn ≤ f → wayS n ps fn sn T = some X → X.length = T.length + stepsF f fn sn ∧ ps.length = stepsF f fn sn := by
  intro f
  induction f with
  | zero =>
    intro ps fn sn T X h hx
    obtain rfl : sn = 0 := by omega
    rw [wayS_end] at hx
    split at hx
    · rename_i hp; injection hx with hx; subst hx; subst hp; exact ⟨rfl, rfl⟩
    · cases hx
  | succ f ih =>
    intro ps fn sn T X h hx
    by_cases h0 : sn = 0
    · subst h0
      rw [wayS_end] at hx
      split at hx
      · rename_i hp; injection hx with hx; subst hx; subst hp; rw [stepsF, if_pos rfl]; exact ⟨rfl, rfl⟩
      · cases hx
    · cases ps with
      | nil => rw [wayS_nil, if_neg h0] at hx; cases hx
      | cons p ps =>
        rw [stepsF, if_neg h0]
        by_cases hc : fn % 2 = 0 ∧ fn ≠ sn
        · rw [wayS_right n fn sn p ps T h0 hc.1 hc.2] at hx
          have := ih _ _ _ _ _ (by omega) hx
          rw [if_pos hc]
          rw [List.length_append, List.length_singleton] at this
          rw [List.length_cons]
          omega
        · rw [wayS_left n fn sn p ps T h0 hc] at hx
          have hs := strip_snd fn sn
          have := ih _ _ _ _ _ (by omega) hx
          rw [if_neg hc]
          rw [List.length_append, List.length_singleton] at this
          rw [List.length_cons]
          omega
/-- does a path show a leaf? -/
def leafS (n : Nat) (b : List UInt8) (i s : Nat) (path : List (List UInt8)) (root : List UInt8) : Bool :=
  if s ≤ i then false else match wayS n path i (s - 1) [0 :: b] with
    | some T => decide (lastH n T = cutL root n)
    | none => false
end Go.Proofs.YtcdkadidkkbhpaaDoor
