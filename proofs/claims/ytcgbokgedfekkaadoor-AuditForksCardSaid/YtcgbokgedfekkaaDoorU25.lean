/- Texts that stand behind one another: OwnX, List24, VerP, VerA, VerB. No condition. -/
import Derived.Test.YtcgbokgedfekkaaDoorU24
import Derived.Test.YtcgbokgedfekkaaDoorU11
import Derived.Test.YtcgbokgedfekkaaDoorU12
import Derived.Test.YtcgbokgedfekkaaDoorU15
import Derived.Test.YtcgbokgedfekkaaDoorU4
/- Rows in rows: texts of the call's own; the first texts of a list, in plain Lean. No condition. -/
namespace Go.Proofs.YtcgbokgedfekkaaDoor
open Go Go.RowKit
attribute [local go_sem] n8_lo n8_hi n64_lo n64_hi n32_lo n32_hi
def fewL (ls : List (List UInt8)) (n m : Nat) : List (List UInt8) := (ls.take n).map (List.take m)
theorem fewL_length (ls : List (List UInt8)) (n m : Nat) : (fewL ls n m).length = min n ls.length := by simp [fewL]
theorem fewL_at (ls : List (List UInt8)) (n m i : Nat) (h : i < n) (h2 : i < ls.length) : (fewL ls n m).getD i [] = (ls.getD i []).take m := by
  unfold fewL
  rw [List.getD_eq_getElem?_getD, List.getD_eq_getElem?_getD, List.getElem?_map, List.getElem?_take, if_pos h, List.getElem?_eq_getElem h2]; rfl
theorem fewL_mem {ls : List (List UInt8)} {n m : Nat} {b : List UInt8} (h : b ∈ fewL ls n m) : b.length ≤ m := by
  unfold fewL at h
  obtain ⟨c, _, rfl⟩ := List.mem_map.1 h
  rw [List.length_take]; omega
/-- rows of different kinds are different blocks -/
theorem own_other {w : World} {b1 b2 s1 s2 n1 n2 : Nat} {e1 e2 : TypeId} {u v : Value} {xs ys : List Value} (he : e1 ≠ e2) (h1 : w.ownsRow b1 e1 s1 u n1 xs) (h2 : w.ownsRow b2 e2 s2 v n2 ys) : ∀ g, u.ownBlock = some g → v.ownBlock ≠ some g := by
  intro g hu hv
  rcases h1.2 with ⟨rfl, _⟩ | ⟨g1, c1, cur1, rfl, _, hb1, _⟩
  · cases hu
  · rcases h2.2 with ⟨rfl, _⟩ | ⟨g2, c2, cur2, rfl, _, hb2, _⟩
    · cases hv
    · have e1' : g1 = g := by injection hu
      have e2' : g2 = g := by injection hv
      subst e1'
      rw [e2', hb1] at hb2
      injection hb2 with hb2
      injection hb2 with _ hb2
      exact he hb2
/-- a list of texts of the call's own (from block B on), each text in a row of its own -/
structure Own2 (w : World) (B : Nat) (v : Value) (vs : List Value) (ls : List (List UInt8)) : Prop where
  len : vs.length = ls.length
  row : w.ownsRow B 46 1 v vs.length vs
  el : ∀ i, i < ls.length → w.ownsRow B 5 1 (vs.getD i undef) (ls.getD i []).length ((ls.getD i []).map v8)
theorem Own2.below {w w' : World} {B : Nat} {v : Value} {vs : List Value} {ls : List (List UInt8)} (h : Own2 w B v vs ls) (hb : Below w.heap.size w w') : Own2 w' B v vs ls :=
  ⟨h.len, own_below h.row hb, fun i hi => own_below (h.el i hi) hb⟩
theorem Own2.ssl {w : World} {B : Nat} {v : Value} {vs : List Value} {ls : List (List UInt8)} (h : Own2 w B v vs ls) : SSl w w.heap.size v ls :=
  SSl.of_own h.row h.len (fun i hi => BSl.of_own (h.el i hi))
theorem Own2.ones {w : World} {B : Nat} {v : Value} {vs : List Value} {ls : List (List UInt8)} (h : Own2 w B v vs ls) : ∀ u ∈ vs, u.oneCell' = true := by
  intro u hu
  obtain ⟨i, hi, rfl⟩ := List.mem_iff_getElem.1 hu
  have he := h.el i (by rw [← h.len]; exact hi)
  rw [List.getD_eq_getElem?_getD, List.getElem?_eq_getElem hi] at he
  rcases he.2 with ⟨e, _⟩ | ⟨g, cap, cur, e, _⟩
  · have : vs[i] = .slice none 0 0 := e
    rw [this]; rfl
  · have : vs[i] = .slice (some ⟨g, 0, none⟩) _ cap := e
    rw [this]; rfl
/-- one text of a list of the call's own is written over -/
theorem Own2.setAt {w : World} {B : Nat} {v : Value} {vs : List Value} {ls : List (List UInt8)} (h : Own2 w B v vs ls) (a : Nat) (ha : a < ls.length) :
    ∃ g cap cur, v = .slice (some ⟨g, 0, none⟩) ls.length cap ∧ B ≤ g ∧ ls.length ≤ cap ∧ Blk w g 46 cur ∧ a < cur.size ∧ ∀ (w' : World) (x : Value) (b : List UInt8), Blk w' g 46 (cur.setIfInBounds a x) → w.grownBy w' (some g) → BSl w' w'.heap.size x b → SSl w' w'.heap.size v (ls.set a b) := by
  have hlen := h.len
  rcases h.row.2 with ⟨_, h0⟩ | ⟨g, cap, cur, e, hB, hg, hnc, hcap, hsz, hcur⟩
  · have h0' : vs.length = 0 := h0
    omega
  · refine ⟨g, cap, cur, by rw [e, hlen], hB, by omega, hg, by omega, fun w' x b hb hgr hx => ?_⟩
    have hcl : cur.size = cap := by omega
    have hat : ∀ j, j < vs.length → cur[j]? = vs[j]? := fun j hj => by
      have : cur.toList.take vs.length = vs := by simpa using hcur
      rw [← this, List.getElem?_take, if_pos hj]; simp
    have hl : (ls.set a b).length = ls.length := List.length_set
    refine ⟨some ⟨g, 0, none⟩, cap, vs.set a x, by rw [e, hl, hlen], by rw [hl]; omega, by unfold maxLen at hcap; omega, fun _ => ⟨g, 0, rfl, hb.lt, fun j u hu => ?_⟩, by rw [List.length_set, hl]; exact hlen, fun i hi => ?_⟩
    · have hj : j < vs.length := by have := (List.getElem?_eq_some_iff.1 hu).1; rw [List.length_set] at this; exact this
      rw [Nat.zero_add, hb.cell, ← hu, Array.getElem?_setIfInBounds, List.getElem?_set]
      by_cases hja : a = j
      · subst hja; rw [if_pos rfl, if_pos rfl, if_pos (by omega), if_pos hj]
      · rw [if_neg hja, if_neg hja, hat j hj]
    · rw [hl] at hi
      rw [List.getD_eq_getElem?_getD, List.getD_eq_getElem?_getD, List.getElem?_set, List.getElem?_set]
      by_cases hia : a = i
      · subst hia; rw [if_pos rfl, if_pos rfl, if_pos (by omega), if_pos ha]; exact hx
      · rw [if_neg hia, if_neg hia, ← List.getD_eq_getElem?_getD, ← List.getD_eq_getElem?_getD]
        have he := h.el i hi
        have hgv : v.ownBlock = some g := by rw [e]; rfl
        exact BSl.of_own (own_grown he hgr (fun g2 h2 e2 => own_other (by decide) he h.row g2 h2 (by rw [hgv]; exact e2)))
theorem fewL_succ (ls : List (List UInt8)) (k m : Nat) (h : k < ls.length) : fewL ls (k + 1) m = fewL ls k m ++ [(ls.getD k []).take m] := by
  unfold fewL
  rw [List.take_succ_eq_append_getElem h, List.map_append, List.getD_eq_getElem?_getD, List.getElem?_eq_getElem h]; rfl
theorem Own2.snoc {w w' : World} {B : Nat} {v v' x : Value} {vs : List Value} {ls : List (List UInt8)} {b : List UInt8} (h : Own2 w B v vs ls) (he : w.ownsRow B 5 1 x b.length (b.map v8)) (hown : w'.ownsRow B 46 1 v' (vs ++ [x]).length (vs ++ [x])) (hg : w.grownBy w' v.ownBlock) : Own2 w' B v' (vs ++ [x]) (ls ++ [b]) := by
  refine ⟨by rw [List.length_append, List.length_append, h.len]; rfl, hown, fun i hi => ?_⟩
  have hlen := h.len
  by_cases hik : i < ls.length
  · have h1 := h.el i hik
    rw [List.getD_eq_getElem?_getD, List.getD_eq_getElem?_getD, List.getElem?_append_left (by omega), List.getElem?_append_left hik, ← List.getD_eq_getElem?_getD, ← List.getD_eq_getElem?_getD]
    exact own_grown h1 hg (fun g hb e => own_other (by decide) h1 h.row g hb e)
  · have hi2 : i = ls.length := by rw [List.length_append, List.length_singleton] at hi; omega
    subst hi2
    rw [List.getD_eq_getElem?_getD, List.getD_eq_getElem?_getD, List.getElem?_append_right (by omega), List.getElem?_append_right (Nat.le_refl _), hlen, Nat.sub_self]
    exact own_grown he hg (fun g hb e => own_other (by decide) he h.row g hb e)
theorem own_base {w : World} {b b' s n : Nat} {e : TypeId} {v : Value} {xs : List Value} (h : w.ownsRow b' e s v n xs) (hb : b ≤ b') : w.ownsRow b e s v n xs := by
  refine ⟨h.1, ?_⟩
  rcases h.2 with h0 | ⟨g', cap, cur, h1, h2, h3⟩
  · exact .inl h0
  · exact .inr ⟨g', cap, cur, h1, Nat.le_trans hb h2, h3⟩
theorem BSl.reads {w : World} {B n c : Nat} {A : Option Addr} {bs : List UInt8} (h : BSl w B (.slice A n c) bs) : Reads w B A (bs.map v8) := by
  obtain ⟨A', c', e, _, _, hr⟩ := h
  injection e with e
  subst e
  exact hr
end Go.Proofs.YtcgbokgedfekkaaDoor

/- The walk of deponentlaw24's list. No condition. -/
namespace Go.Proofs.YtcgbokgedfekkaaDoor
open Go Go.RowKit
attribute [local go_sem] n8_lo n8_hi n64_lo n64_hi n32_lo n32_hi
def elem24 (c : UInt8) (i : Nat) : List UInt8 := [c, UInt8.ofNat i]
def list24 (n : Nat) (c : UInt8) : List (List UInt8) := (List.range n).map (elem24 c)
theorem list24_length (n : Nat) (c : UInt8) : (list24 n c).length = n := by simp [list24]
theorem list24_succ (n : Nat) (c : UInt8) : list24 (n + 1) c = list24 n c ++ [elem24 c n] := by simp [list24, List.range_succ]
theorem list24_mem {n : Nat} {c : UInt8} {b : List UInt8} (h : b ∈ list24 n c) : b.length = 2 := by
  unfold list24 at h
  obtain ⟨i, _, rfl⟩ := List.mem_map.1 h; rfl
theorem byte24 (k : Nat) : (k : Int) % 256 = n8 (UInt8.ofNat k) := by
  unfold n8; rw [UInt8.toNat_ofNat']; omega
set_option maxHeartbeats 1000000 in
set_option maxRecDepth 100000 in
theorem list24_any (n : Nat) (c : UInt8) (hn : n ≤ 1000000) (w : World) :
    Calls Tryd.prog 40 #[.int .i64 (n : Int), .int .u8 (n8 c)] w fun e w' => ∃ v vs, e = .returned v ∧ Own2 w' w.heap.size v vs (list24 n c) ∧ Below w.heap.size w w' := by
  obtain ⟨i0, hi, hz0, hz1, hz2⟩ := info_parts (by kernel_rfl : (Tryd.prog.info? 46).map (fun i => (i.zero, i.size, i.bytes)) = some (some (.slice none 0 0), 1, 24))
  go_enter Tryd.func40, Tryd.ntmps40
  go_wp2_with fail
  go_loopg [5, 6] (n + 1) (fun gk v iv wr => ∃ (k : Nat) (vs : List Value), n + 1 ≤ k + gk ∧ k ≤ n ∧ iv = .int .i64 (k : Int) ∧ Own2 wr w.heap.size v vs (list24 k c) ∧ Below w.heap.size w wr)
  case atStart => exact ⟨0, [], by omega, by omega, rfl, ⟨rfl, World.ownsRow_nil _ _ _ _, fun i hi => by cases hi⟩, Below.refl _ _⟩
  case round =>
    obtain ⟨k, vs, hk, hkn, rfl, hO, hB⟩ := hrel
    have HH := Lib.hid (And.intro hk (And.intro hO hB))
    clear hk
    by_cases hlt : k < n
    · have b1 := byte24 k
      have hki : (k : Int) < (n : Int) := by omega
      have hgk : 0 < gk := by have := HH.out.1; omega
      have hn1 := below_new1 wr (Obj.cells #[.int .u8 (n8 c), .int .u8 (n8 (UInt8.ofNat k))] 5)
      have hE0 : (wr.alloc (Obj.cells #[.int .u8 (n8 c), .int .u8 (n8 (UInt8.ofNat k))] 5)).ownsRow w.heap.size 5 1 (.slice (some ⟨wr.heap.size, 0, none⟩) 2 2) (elem24 c k).length ((elem24 c k).map v8) :=
        ⟨rfl, .inr ⟨wr.heap.size, 2, _, rfl, hB.size, heap_alloc_new wr _, Nat.le_refl _, by decide, rfl, rfl⟩⟩
      have hn2 := below_new1 (wr.alloc (Obj.cells #[.int .u8 (n8 c), .int .u8 (n8 (UInt8.ofNat k))] 5)) (Obj.cells #[.slice (some ⟨wr.heap.size, 0, none⟩) 2 2] 46)
      have hbw := hn1.trans (hn2.mono hn1.size)
      have hE := own_below hE0 hn2
      have hS := Blk.new2 wr (Obj.cells #[.int .u8 (n8 c), .int .u8 (n8 (UInt8.ofNat k))] 5) 46 #[.slice (some ⟨wr.heap.size, 0, none⟩) 2 2]
      have hO2 := hO.below hbw
      have hB2 := hB.trans (hbw.mono hB.size)
      have hvl : vs.length ≤ 1000000 := by rw [hO.len, list24_length]; omega
      have Hvl := Lib.hid hvl
      have Hx := Lib.hid (And.intro hE (And.intro hO2 hB2))
      clear hn1 hE0 hn2 hbw hE hO hB hvl
      go_wp2_with (first
        | (at_builtin; refine wpList_appendR rfl (.tmp 12) (.tmp 17) _ rfl w.heap.size 46 i0 _ 24 Tryd.underlying22 hi hz0 hz1 hz2 rfl _ vs rfl Hx.out.2.1.row _ (some ⟨wr.heap.size + 1, 0, none⟩) 1 1 [.slice (some ⟨wr.heap.size, 0, none⟩) 2 2] rfl (Reads.of_blk hS hS.lt 0) rfl (fun u hu => by rw [List.mem_singleton] at hu; subst hu; rfl) (by have := Hvl.out; unfold maxLen; omega) (by have := Hvl.out; omega) Hx.out.2.2.size ?_; intro u1 w1 hown1 hg1 hat1))
      have hB1 := below_own Hx.out.2.2 Hx.out.2.1.row hg1 Hx.out.2.2.size
      have hO1 := Hx.out.2.1.snoc Hx.out.1 hown1 hg1
      have HF := Lib.hid (And.intro hO1 hB1)
      clear hB1 hO1 hown1 hg1 hat1 hS hO2 hB2 b1
      go_roundg (gk - 1)
      case measure => omega
      case rel => exact ⟨k + 1, _, by have := HH.out.1; omega, by omega, by go_num, by rw [list24_succ]; exact HF.out.1, HF.out.2⟩
    · obtain rfl : k = n := by omega
      have HF := Lib.hid (And.intro hO hB)
      clear hO hB hlt
      go_wp2_with fail
      go_ret
      exact ⟨_, vs, rfl, HF.out.1, HF.out.2⟩
end Go.Proofs.YtcgbokgedfekkaaDoor

/- Proofs of a leaf, plain: what a path shows, the same however it is gone up. No condition. -/
namespace Go.Proofs.YtcgbokgedfekkaaDoor
/-- both halved while the first is even and not nought -/
def stripF : Nat → Nat → Nat → Nat × Nat
  | 0, fn, sn => (fn, sn)
  | f + 1, fn, sn => if fn % 2 = 0 ∧ fn ≠ 0 then stripF f (fn / 2) (sn / 2) else (fn, sn)
def strip (fn sn : Nat) : Nat × Nat := stripF fn fn sn
theorem stripF_fuel : ∀ (f fn sn : Nat), fn ≤ f → ∀ g, fn ≤ g → stripF f fn sn = stripF g fn sn := by
  intro f
  induction f with
  | zero =>
    intro fn sn h g hg
    obtain rfl : fn = 0 := by omega
    cases g with
    | zero => rfl
    | succ g => rw [stripF, stripF, if_neg (by simp)]
  | succ f ih =>
    intro fn sn h g hg
    cases g with
    | zero =>
      obtain rfl : fn = 0 := by omega
      rw [stripF, stripF, if_neg (by simp)]
    | succ g =>
      rw [stripF, stripF]
      split
      · rename_i hc; exact ih _ _ (by omega) _ (by omega)
      · rfl
theorem strip_even {fn sn : Nat} (h : fn % 2 = 0) (h0 : fn ≠ 0) : strip fn sn = strip (fn / 2) (sn / 2) := by
  unfold strip
  rw [stripF_fuel fn fn sn (Nat.le_refl _) (fn - 1 + 1) (by omega), stripF, if_pos ⟨h, h0⟩]
  exact stripF_fuel _ _ _ (by omega) _ (Nat.le_refl _)
theorem strip_done {fn sn : Nat} (h : ¬ (fn % 2 = 0 ∧ fn ≠ 0)) : strip fn sn = (fn, sn) := by
  unfold strip
  cases fn with
  | zero => rfl
  | succ k => rw [stripF, if_neg h]
theorem strip_le (fn : Nat) : ∀ sn, fn ≤ sn → (strip fn sn).1 ≤ (strip fn sn).2 ∧ (strip fn sn).2 ≤ sn := by
  induction fn using Nat.strongRecOn with
  | _ fn ih =>
    intro sn h
    by_cases hc : fn % 2 = 0 ∧ fn ≠ 0
    · rw [strip_even hc.1 hc.2]
      have := ih (fn / 2) (by omega) (sn / 2) (by omega)
      omega
    · rw [strip_done hc]; exact ⟨h, Nat.le_refl _⟩
theorem strip_snd (fn : Nat) : ∀ sn, (strip fn sn).2 ≤ sn ∧ (strip fn sn).1 ≤ fn := by
  induction fn using Nat.strongRecOn with
  | _ fn ih =>
    intro sn
    by_cases hc : fn % 2 = 0 ∧ fn ≠ 0
    · rw [strip_even hc.1 hc.2]
      have := ih (fn / 2) (by omega) (sn / 2)
      omega
    · rw [strip_done hc]; exact ⟨Nat.le_refl _, Nat.le_refl _⟩
/-- the text of a node -/
def nodeT (n : Nat) (a b : List UInt8) : List UInt8 := 1 :: (a.take n ++ b.take n)
theorem nodeM_sum (n : Nat) (a b : List UInt8) : nodeM n a b = sumM n (nodeT n a b) := rfl
/-- the hash of the last text -/
def lastH (n : Nat) (T : List (List UInt8)) : List UInt8 := sumM n (T.getLastD [])
theorem lastH_snoc (n : Nat) (T : List (List UInt8)) (t : List UInt8) : lastH n (T ++ [t]) = sumM n t := by
  unfold lastH; rw [List.getLastD_eq_getLast?, List.getLast?_append]; rfl
theorem lastH_length (n : Nat) (T : List (List UInt8)) : (lastH n T).length = 32 := sumM_length _ _
/-- what is hashed on the way up; none: the path is none of that place -/
def wayS (n : Nat) : List (List UInt8) → Nat → Nat → List (List UInt8) → Option (List (List UInt8))
  | [], _, sn, T => if sn = 0 then some T else none
  | p :: ps, fn, sn, T => if sn = 0 then none else
      if fn % 2 = 0 ∧ fn ≠ sn then wayS n ps (fn / 2) (sn / 2) (T ++ [nodeT n (lastH n T) p])
      else wayS n ps ((strip fn sn).1 / 2) ((strip fn sn).2 / 2) (T ++ [nodeT n p (lastH n T)])
theorem wayS_nil (n fn sn : Nat) (T : List (List UInt8)) : wayS n [] fn sn T = if sn = 0 then some T else none := rfl
theorem wayS_end (n fn : Nat) (ps : List (List UInt8)) (T : List (List UInt8)) : wayS n ps fn 0 T = if ps = [] then some T else none := by
  cases ps with
  | nil => rfl
  | cons p ps => rw [wayS, if_pos rfl, if_neg (by simp)]
theorem wayS_right (n fn sn : Nat) (p : List UInt8) (ps T : List (List UInt8)) (h0 : sn ≠ 0) (h : fn % 2 = 0) (h1 : fn ≠ sn) : wayS n (p :: ps) fn sn T = wayS n ps (fn / 2) (sn / 2) (T ++ [nodeT n (lastH n T) p]) := by
  rw [wayS, if_neg h0, if_pos ⟨h, h1⟩]
theorem wayS_left (n fn sn : Nat) (p : List UInt8) (ps T : List (List UInt8)) (h0 : sn ≠ 0) (h : ¬ (fn % 2 = 0 ∧ fn ≠ sn)) : wayS n (p :: ps) fn sn T = wayS n ps ((strip fn sn).1 / 2) ((strip fn sn).2 / 2) (T ++ [nodeT n p (lastH n T)]) := by
  rw [wayS, if_neg h0, if_neg h]
theorem wayS_odd (n fn sn : Nat) (p : List UInt8) (ps T : List (List UInt8)) (h0 : sn ≠ 0) (h : fn % 2 = 1) : wayS n (p :: ps) fn sn T = wayS n ps (fn / 2) (sn / 2) (T ++ [nodeT n p (lastH n T)]) := by
  rw [wayS_left n fn sn p ps T h0 (by omega), strip_done (by omega)]
/-- the last of its row without a neighbour goes up as it is -/
theorem wayS_skip (n fn : Nat) (ps T : List (List UInt8)) (h : fn % 2 = 0) (h0 : fn ≠ 0) : wayS n ps fn fn T = wayS n ps (fn / 2) (fn / 2) T := by
  cases ps with
  | nil => rw [wayS_nil, wayS_nil, if_neg h0, if_neg (by omega)]
  | cons p ps => rw [wayS_left n fn fn p ps T h0 (by omega), wayS_left n (fn / 2) (fn / 2) p ps T (by omega) (by omega), strip_even h h0]
/-- how many texts come of it -/
def stepsF : Nat → Nat → Nat → Nat
  | 0, _, _ => 0
  | f + 1, fn, sn => if sn = 0 then 0 else if fn % 2 = 0 ∧ fn ≠ sn then 1 + stepsF f (fn / 2) (sn / 2) else 1 + stepsF f ((strip fn sn).1 / 2) ((strip fn sn).2 / 2)
theorem wayS_len (n : Nat) : ∀ (f : Nat) (ps : List (List UInt8)) (fn sn : Nat) (T X : List (List UInt8)), sn ≤ f → wayS n ps fn sn T = some X → X.length = T.length + stepsF f fn sn ∧ ps.length = stepsF f fn sn := by
  intro f
  induction f with
  | zero =>
    intro ps fn sn T X h hx
    obtain rfl : sn = 0 := by omega
    rw [wayS_end] at hx
    split at hx
    · rename_i hp; injection hx with hx; subst hx; subst hp; exact ⟨rfl, rfl⟩
    · cases hx
  | succ f ih =>
    intro ps fn sn T X h hx
    by_cases h0 : sn = 0
    · subst h0
      rw [wayS_end] at hx
      split at hx
      · rename_i hp; injection hx with hx; subst hx; subst hp; rw [stepsF, if_pos rfl]; exact ⟨rfl, rfl⟩
      · cases hx
    · cases ps with
      | nil => rw [wayS_nil, if_neg h0] at hx; cases hx
      | cons p ps =>
        rw [stepsF, if_neg h0]
        by_cases hc : fn % 2 = 0 ∧ fn ≠ sn
        · rw [wayS_right n fn sn p ps T h0 hc.1 hc.2] at hx
          have := ih _ _ _ _ _ (by omega) hx
          rw [if_pos hc]
          rw [List.length_append, List.length_singleton] at this
          rw [List.length_cons]
          omega
        · rw [wayS_left n fn sn p ps T h0 hc] at hx
          have hs := strip_snd fn sn
          have := ih _ _ _ _ _ (by omega) hx
          rw [if_neg hc]
          rw [List.length_append, List.length_singleton] at this
          rw [List.length_cons]
          omega
/-- does a path show a leaf? -/
def leafS (n : Nat) (b : List UInt8) (i s : Nat) (path : List (List UInt8)) (root : List UInt8) : Bool :=
  if s ≤ i then false else match wayS n path i (s - 1) [0 :: b] with
    | some T => decide (lastH n T = cutL root n)
    | none => false
end Go.Proofs.YtcgbokgedfekkaaDoor

/- The walks of verify's cut, leaf and node, and of bytes.Equal. No condition. -/
namespace Go.Proofs.YtcgbokgedfekkaaDoor
open Go Go.RowKit
attribute [local irreducible] mixW
attribute [local go_sem] n8_lo n8_hi n64_lo n64_hi n32_lo n32_hi
theorem vcut_any (x : Int) (w : World) : Calls Tryd.prog 64 #[.int .i64 x] w fun e w' => e = .returned (.int .i64 (cutW x)) ∧ w = w' := by
  by_cases h1 : x < 1
  · have Hd := Lib.hid (show cutW x = 32 from if_pos (.inl h1))
    go_enter Tryd.func64, Tryd.ntmps64
    go_wp2
    go_ret
    exact ⟨by rw [Hd.out]; rfl, rfl⟩
  · by_cases h2 : 32 < x
    · have Hd := Lib.hid (show cutW x = 32 from if_pos (.inr h2))
      go_enter Tryd.func64, Tryd.ntmps64
      go_wp2
      go_ret
      exact ⟨by rw [Hd.out]; rfl, rfl⟩
    · have h3 : (cutW x : Int) = x := by unfold cutW; rw [if_neg (by omega)]; omega
      have Hd := Lib.hid h3
      clear h3
      go_enter Tryd.func64, Tryd.ntmps64
      go_wp2
      go_ret
      exact ⟨by rw [Hd.out]; rfl, rfl⟩
theorem wpList_str {w : World} {ops : Array Oper} {rest : List Oper} {o : Oper} {a : Act} {Q : Exit → Act → World → Prop} (hgd : o.guard = none) (x : Operand) (ho : o.op = .convert 46 9 x) (v : Value) (bs : List UInt8) (B : Nat) (hx : a.eval x = v) (hv : BSl w B v bs)
    (h : wpList Tryd.prog ops Q rest (a.put o.dst (strV bs)) w) : wpList Tryd.prog ops Q (o :: rest) a w :=
  wpList_plain hgd fun K hK => by
    unfold Oper.wp execOp
    simp only [ho, hx, Sem.run_bind, run_bytes_str hv, Result.andThen_ok, Sem.run_pure]
    exact hK _ _ h
theorem wpList_eqStr {w : World} {ops : Array Oper} {rest : List Oper} {o : Oper} {a : Act} {Q : Exit → Act → World → Prop} (hgd : o.guard = none) (x y : Operand) (yt : TypeId) (ho : o.op = .binOp .eql 9 x y yt) (X Y : List UInt8) (hx : a.eval x = strV X) (hy : a.eval y = strV Y)
    (b : Bool) (hb : decide (X = Y) = b) (h : wpList Tryd.prog ops Q rest (a.put o.dst (.bool b)) w) : wpList Tryd.prog ops Q (o :: rest) a w :=
  wpList_plain hgd fun K hK => by
    have hg : (eqGuard .eql 9 x y (strV X) (strV Y)).run Tryd.prog w = .ok () w := by unfold strV; simp [eqGuard]
    unfold Oper.wp execOp
    simp only [ho, hx, hy, Sem.run_bind, hg, run_strEq, hb, Result.andThen_ok, Sem.run_pure]
    exact hK _ _ h
theorem equal_any (u v : Value) (x y : List UInt8) (w : World) (hu : BSl w w.heap.size u x) (hv : BSl w w.heap.size v y) (b : Bool) (hb : decide (x = y) = b) :
    Calls Tryd.prog 81 #[u, v] w fun e w' => e = .returned (.bool b) ∧ w = w' := by
  have Hu := Lib.hid hu
  have Hv := Lib.hid hv
  have Hb := Lib.hid hb
  clear hu hv hb
  go_enter Tryd.func81, Tryd.ntmps81
  go_wp2_with (first
    | (refine wpList_str rfl (.tmp 5) rfl u x _ rfl Hu.out ?_)
    | (refine wpList_str rfl (.tmp 7) rfl v y _ rfl Hv.out ?_)
    | (refine wpList_eqStr rfl (.tmp 6) (.tmp 8) _ rfl x y rfl rfl b Hb.out ?_))
  go_ret
  exact ⟨rfl, rfl⟩
/-- a step's cells: its text and its hash -/
def stepC (u : Value) (d : List UInt8) : Array Value := (u :: (dat d).toList).toArray
theorem stepC_size (u : Value) (d : List UInt8) : (stepC u d).size = 33 := by unfold stepC; simp [dat_size]
theorem stepC_one (u : Value) (d : List UInt8) (h : u.oneCell' = true) : ∀ v ∈ (stepC u d).toList, v.oneCell' = true := by
  intro v hv
  unfold stepC at hv
  simp only [List.mem_cons] at hv
  rcases hv with rfl | hv
  · exact h
  · exact arr_one _ _ v (by simpa [dat] using hv)
set_option maxRecDepth 100000 in
theorem build_step (A : Option Addr) (n c : Nat) (d : List UInt8) (w : World) : (Instr.build 117 #[(0, .slice A n c), (1, .agg (dat d))]).run Tryd.prog w = .ok (.agg (stepC (.slice A n c) d)) w := by kernel_rfl
theorem wpList_buildStep {w : World} {ops : Array Oper} {rest : List Oper} {o : Oper} {a : Act} {Q : Exit → Act → World → Prop} (hgd : o.guard = none) (x y : Operand) (ho : o.op = .build 117 #[(0, x), (1, y)]) (A : Option Addr) (n c : Nat) (d : List UInt8) (hx : a.eval x = .slice A n c) (hy : a.eval y = .agg (dat d))
    (h : wpList Tryd.prog ops Q rest (a.put o.dst (.agg (stepC (.slice A n c) d))) w) : wpList Tryd.prog ops Q (o :: rest) a w :=
  wpList_plain hgd fun K hK => by
    unfold Oper.wp execOp
    simp only [ho, List.map_toArray, List.map_cons, List.map_nil, hx, hy, Sem.run_bind, build_step A n c d, Result.andThen_ok, Sem.run_pure]
    exact hK _ _ h
theorem wpQuiet_buildStep {ops : Array Oper} {C : World → Prop} {K : Act → Prop} {a : Act} {o : Oper} {rest : List Oper} (hw : Region.wanted o (yielded ops a.tmps) = true) (x y : Operand) (ho : o.op = .build 117 #[(0, x), (1, y)]) (A : Option Addr) (n c : Nat) (d : List UInt8) (hx : a.eval x = .slice A n c) (hy : a.eval y = .agg (dat d))
    (h : wpQuiet Tryd.prog ops C K rest (a.put o.dst (.agg (stepC (.slice A n c) d)))) : wpQuiet Tryd.prog ops C K (o :: rest) a :=
  wpQuiet_wanted hw _ (fun w _ => by
    unfold Oper.quietAt execOp
    simp only [ho, List.map_toArray, List.map_cons, List.map_nil, hx, hy, Sem.run_bind, build_step A n c d, Result.andThen_ok, Sem.run_pure]
    exact ⟨rfl, rfl⟩) h
/-- a whole step is stored into a block -/
theorem wpList_storeStep {w : World} {ops : Array Oper} {rest : List Oper} {o : Oper} {a : Act} {Q : Exit → Act → World → Prop} (hgd : o.guard = none) (hdst : o.dst = none) (x y : Operand) (ho : o.op = .store 117 x y) (g : Nat) (hx : a.eval x = .pointer (some ⟨g, 0, none⟩)) (A : Option Addr) (n c : Nat) (d : List UInt8) (hy : a.eval y = .agg (stepC (.slice A n c) d))
    (t : TypeId) (cs : Array Value) (hg : Blk w g t cs) (hs : cs.size = 33) (h : ∀ w', Blk w' g t (stepC (.slice A n c) d) → w.grownBy w' (some g) → wpList Tryd.prog ops Q rest a w') : wpList Tryd.prog ops Q (o :: rest) a w := by
  refine wpList_storeB hgd hdst 117 x y ho g 0 hx (stepC (.slice A n c) d) hy t cs hg (by rw [stepC_size]; kernel_rfl) (by rw [stepC_size]; omega) (stepC_one _ _ rfl) fun w' h1 h2 => ?_
  rw [copied_all cs _ (by rw [stepC_size, hs])] at h1
  exact h w' h1 h2
def step0 : Array Value := (Value.slice none 0 0 :: (arr 32 fun _ => 0).toList).toArray
theorem step0_size : step0.size = 33 := by unfold step0; simp [arr_size]
end Go.Proofs.YtcgbokgedfekkaaDoor

/- The walks of verify's leaf and node. No condition. -/
namespace Go.Proofs.YtcgbokgedfekkaaDoor
open Go Go.RowKit
attribute [local irreducible] mixW
attribute [local go_sem] n8_lo n8_hi n64_lo n64_hi n32_lo n32_hi
set_option maxRecDepth 100000 in
theorem vleaf_any (x : Int) (v : Value) (b : List UInt8) (w : World) (hv : BSl w w.heap.size v b) (hl : b.length ≤ 140737488355200) (hG : Glob w) :
    Calls Tryd.prog 116 #[.int .i64 x, v] w fun e w' => ∃ u, e = .returned (.agg (stepC u (leafM (cutW x) b))) ∧ w'.ownsRow w.heap.size 5 1 u (0 :: b).length ((0 :: b).map v8) ∧ Below w.heap.size w w' := by
  obtain ⟨A, c, rfl, h1, h2, hrd⟩ := hv
  have hv : BSl w w.heap.size (.slice A b.length c) b := ⟨A, c, rfl, h1, h2, hrd⟩
  clear hrd h1 h2
  obtain ⟨m, hm⟩ : ∃ m, b.length = m := ⟨_, rfl⟩
  have Hm := Lib.hid hm
  rw [hm] at hv hl ⊢
  clear hm
  have hS0 : Blk (((w.alloc (Obj.cells step0 117)).alloc (Obj.cells #[.int .u8 0] 5)).alloc (Obj.cells #[.slice (some ⟨w.heap.size + 1, 0, none⟩) 1 1, .slice A m c] 46)) (w.heap.size + 2) 46 #[.slice (some ⟨w.heap.size + 1, 0, none⟩) 1 1, .slice A m c] := Blk.new3 w (Obj.cells step0 117) (Obj.cells #[.int .u8 0] 5) 46 #[.slice (some ⟨w.heap.size + 1, 0, none⟩) 1 1, .slice A m c]
  have hD3 := ((Blk.new w 117 step0).alloc (Obj.cells #[.int .u8 0] 5)).alloc (Obj.cells #[.slice (some ⟨w.heap.size + 1, 0, none⟩) 1 1, .slice A m c] 46)
  have hK3 := (Blk.new2 w (Obj.cells step0 117) 5 #[.int .u8 0]).alloc (Obj.cells #[.slice (some ⟨w.heap.size + 1, 0, none⟩) 1 1, .slice A m c] 46)
  have hb3 := below_new3 w (Obj.cells step0 117) (Obj.cells #[.int .u8 0] 5) (Obj.cells #[.slice (some ⟨w.heap.size + 1, 0, none⟩) 1 1, .slice A m c] 46)
  go_enter Tryd.func116, Tryd.ntmps116
  go_wp2_with fail
  refine calls_at (fun W => Blk W w.heap.size 117 step0 ∧ Blk W (w.heap.size + 1) 5 #[.int .u8 0] ∧ Blk W (w.heap.size + 2) 46 #[.slice (some ⟨w.heap.size + 1, 0, none⟩) 1 1, .slice A m c] ∧ Below w.heap.size w W) ⟨hD3, hK3, hS0, hb3⟩ ?_
  clear hD3 hK3 hS0 hb3
  rintro W ⟨hD, hK, hS, hbel⟩
  have hk : BSl W W.heap.size (.slice (some ⟨w.heap.size + 1, 0, none⟩) 1 1) [0] := ⟨_, 1, rfl, by decide, by decide, (by have h0 := Reads.of_blk hK hK.lt 0; simpa using h0 : Reads W W.heap.size (some ⟨w.heap.size + 1, 0, none⟩) [Value.int .u8 0])⟩
  have hSS := SSl.two hS _ hS.lt hk (hv.next hbel)
  refine (join_any _ _ W hSS (by have := Hm.out; simp; omega)).mono ?_
  rintro e w1 ⟨u, rfl, hown, hb1⟩
  have hfl : ([[(0 : UInt8)], b] : List (List UInt8)).flatten = 0 :: b := by simp
  rw [hfl] at hown
  obtain ⟨Au, cu, hu⟩ := own_slice hown
  replace hD := hD.below hb1 hD.lt
  have hown := own_base hown hbel.size
  replace hbel := hbel.trans (hb1.mono hbel.size)
  clear hb1 hS hK hk hSS hfl
  have HO := Lib.hid (And.intro hown hu)
  clear hown hu
  go_wp2_with fail
  refine (mleaf_any x _ b w1 (hv.next hbel) (by have := Hm.out; omega) (hG.next hbel)).mono ?_
  rintro e w2 ⟨rfl, hb1⟩
  replace hD := hD.below hb1 hD.lt
  replace hbel := hbel.trans (hb1.mono hbel.size)
  have HO2 := Lib.hid (And.intro (own_below HO.out.1 hb1) HO.out.2)
  clear hb1 HO hv
  have hu := HO2.out.2
  subst hu
  go_wp2_with (first
    | (refine wpList_buildStep rfl (.tmp 8) (.tmp 11) rfl Au _ cu (leafM (cutW x) b) rfl rfl ?_)
    | (refine wpList_storeStep rfl rfl (.tmp 4) (.tmp 12) rfl w.heap.size rfl Au _ cu _ rfl _ _ hD step0_size ?_; intro w10 hD10 hon10))
  have hb10 := below_only hbel hon10 (Nat.le_refl _) hbel.size
  have hown := own_grown HO2.out.1 hon10 (own_diff HO2.out.1 hD (by decide))
  have Hf := Lib.hid hown
  clear hown HO2
  refine bodyPost_ret (results_cell_row (p := 4) (ty := 117) rfl _ _ w.heap.size _ _ _ _ rfl hD10 Tryd.underlying117 rfl (by rw [stepC_size]; kernel_rfl)) rfl ⟨_, rfl, ?_, hb10⟩
  exact Hf.out
set_option maxHeartbeats 400000 in
set_option maxRecDepth 100000 in
theorem vnode_any (x : Int) (p q : List UInt8) (hp : p.length = 32) (hq : q.length = 32) (w : World) (hG : Glob w) :
    Calls Tryd.prog 117 #[.int .i64 x, .agg (dat p), .agg (dat q)] w fun e w' => ∃ u, e = .returned (.agg (stepC u (nodeM (cutW x) p q))) ∧ w'.ownsRow w.heap.size 5 1 u (nodeT (cutW x) p q).length ((nodeT (cutW x) p q).map v8) ∧ Below w.heap.size w w' := by
  have hP := ((Blk.new w 35 (dat p)).alloc (Obj.cells (dat q) 35)).alloc (Obj.cells step0 117)
  have hQ := (Blk.new2 w (Obj.cells (dat p) 35) 35 (dat q)).alloc (Obj.cells step0 117)
  have hD := Blk.new3 w (Obj.cells (dat p) 35) (Obj.cells (dat q) 35) 117 step0
  have hb3 := below_new3 w (Obj.cells (dat p) 35) (Obj.cells (dat q) 35) (Obj.cells step0 117)
  have Hp := Lib.hid hp
  have Hq := Lib.hid hq
  clear hp hq
  go_enter Tryd.func117, Tryd.ntmps117
  go_wp2_with fail
  refine calls_at (fun W => Blk W w.heap.size 35 (dat p) ∧ Blk W (w.heap.size + 1) 35 (dat q) ∧ Blk W (w.heap.size + 2) 117 step0 ∧ Below w.heap.size w W) ⟨hP, hQ, hD, hb3⟩ ?_
  clear hP hQ hD hb3
  rintro W ⟨hP, hQ, hD, hbel⟩
  refine (vcut_any x W).mono ?_
  rintro e _ ⟨rfl, rfl⟩
  have hn1 := cutW_lo x
  have hn2 := cutW_hi x
  have Hl := Lib.hid (show (nodeT (cutW x) p q).length ≤ 65 by unfold nodeT; simp only [List.length_cons, List.length_append, List.length_take]; omega)
  obtain ⟨n, hn⟩ : ∃ n, cutW x = n := ⟨_, rfl⟩
  rw [hn] at hn1 hn2 Hl ⊢
  have Hn := Lib.hid hn
  clear hn
  go_wp2_with fail
  have i1 : (n : Int) ≤ 32 := by omega
  refine wp_region_mixT 12 (.plain 1 <| .plain 2 <| .plain 3 <| .plain 4 <| .plain 7 <| .plain 8 <| .plain 9 <| .only 0 <| .only 5 <| .only 6 <| .only 10 <| .plain 11 <| .done) (by kernel_rfl) (by kernel_rfl) (fun W1 hb1 => ?_)
  replace hP := hP.below hb1 hP.lt
  replace hQ := hQ.below hb1 hQ.lt
  replace hD := hD.below hb1 hD.lt
  replace hbel := hbel.trans (hb1.mono hbel.size)
  clear hb1
  iterate 7 (refine mix_plain rfl ?_; (first
    | (refine wpQuiet_load rfl _ (.tmp 4) rfl w.heap.size rfl _ _ _ _ (fun _ ⟨e, he⟩ => by rw [he]; exact hP.plus e) Tryd.underlying35 rfl (by kernel_rfl) ?_; simp only [Act.put, List.setIfInBounds_toArray, List.set_cons_zero, List.set_cons_succ])
    | (refine wpQuiet_load rfl _ (.tmp 5) rfl (w.heap.size + 1) rfl _ _ _ _ (fun _ ⟨e, he⟩ => by rw [he]; exact hQ.plus e) Tryd.underlying35 rfl (by kernel_rfl) ?_; simp only [Act.put, List.setIfInBounds_toArray, List.set_cons_zero, List.set_cons_succ])
    | go_big_quiet_step (fail)); refine wpQuiet_nil ?_)
  refine mix_only rfl (fun K hK => ?_)
  go_wp2_with fail
  refine hK _ _ (below_new1 W1 _) ?_
  clear hK K
  have hb1 := below_new1 W1 (Obj.cells #[.int .u8 1] 5)
  refine mix_at (fun W => Blk W W1.heap.size 5 #[.int .u8 1] ∧ Blk W w.heap.size 35 (dat p) ∧ Blk W (w.heap.size + 1) 35 (dat q) ∧ Blk W (w.heap.size + 2) 117 step0 ∧ Below w.heap.size w W) ⟨Blk.new W1 5 #[.int .u8 1], hP.below hb1 hP.lt, hQ.below hb1 hQ.lt, hD.below hb1 hD.lt, hbel.trans (hb1.mono hbel.size)⟩ ?_
  clear hb1 hP hQ hD hbel
  rintro W2 ⟨hK1, hP, hQ, hD, hbel⟩
  generalize W1.heap.size = g1 at hK1 ⊢
  refine mix_only rfl (fun K hK => ?_)
  go_wp2_with fail
  refine hK _ _ (below_new1 W2 _) ?_
  clear hK K
  have hb1 := below_new1 W2 (Obj.cells #[.slice (some ⟨g1, 0, none⟩) 1 1, .slice (some ⟨w.heap.size, 0, none⟩) n 32, .slice (some ⟨w.heap.size + 1, 0, none⟩) n 32] 46)
  refine mix_at (fun W => Blk W W2.heap.size 46 #[.slice (some ⟨g1, 0, none⟩) 1 1, .slice (some ⟨w.heap.size, 0, none⟩) n 32, .slice (some ⟨w.heap.size + 1, 0, none⟩) n 32] ∧ Blk W g1 5 #[.int .u8 1] ∧ Blk W w.heap.size 35 (dat p) ∧ Blk W (w.heap.size + 1) 35 (dat q) ∧ Blk W (w.heap.size + 2) 117 step0 ∧ Below w.heap.size w W) ⟨Blk.new W2 _ _, hK1.below hb1 hK1.lt, hP.below hb1 hP.lt, hQ.below hb1 hQ.lt, hD.below hb1 hD.lt, hbel.trans (hb1.mono hbel.size)⟩ ?_
  clear hb1 hK1 hP hQ hD hbel
  rintro W3 ⟨hS, hK1, hP, hQ, hD, hbel⟩
  generalize W2.heap.size = g2 at hS ⊢
  have hk : BSl W3 W3.heap.size (.slice (some ⟨g1, 0, none⟩) 1 1) [1] := ⟨_, 1, rfl, by decide, by decide, (by have h0 := Reads.of_blk hK1 hK1.lt 0; simpa using h0 : Reads W3 W3.heap.size (some ⟨g1, 0, none⟩) [Value.int .u8 1])⟩
  have hSS := SSl.three hS _ hS.lt hk (dat_take hP Hp.out hn2) (dat_take hQ Hq.out hn2)
  have hll : (p.take n).length ≤ 32 ∧ (q.take n).length ≤ 32 := by rw [List.length_take, List.length_take]; omega
  refine mix_only rfl (fun K hK => ?_)
  go_wp2_with fail
  refine (join_any _ _ W3 hSS (by simp only [List.flatten_cons, List.flatten_nil, List.append_nil, List.length_append, List.length_cons, List.length_nil]; omega)).mono ?_
  rintro e W4 ⟨u, rfl, hown, hb1⟩
  have hfl : ([[(1 : UInt8)], p.take n, q.take n] : List (List UInt8)).flatten = nodeT n p q := by simp [nodeT]
  rw [hfl] at hown
  go_wp2_with fail
  refine hK _ _ hb1 ?_
  clear hK K hfl
  obtain ⟨Au, cu, hu⟩ := own_slice hown
  replace hD := hD.below hb1 hD.lt
  have hown := own_base hown hbel.size
  replace hbel := hbel.trans (hb1.mono hbel.size)
  clear hb1 hS hK1 hP hQ hk hSS
  subst hu
  refine mix_only rfl (fun K hK => ?_)
  go_wp2_with fail
  refine (mnode_any x p q Hp.out Hq.out W4 (hG.next hbel)).mono ?_
  rintro e W5 ⟨rfl, hb1⟩
  rw [Hn.out]
  go_wp2_with fail
  refine hK _ _ hb1 ?_
  clear hK K
  replace hD := hD.below hb1 hD.lt
  replace hown := own_below hown hb1
  replace hbel := hbel.trans (hb1.mono hbel.size)
  clear hb1
  refine mix_plain rfl ?_
  refine wpQuiet_buildStep rfl (.tmp 16) (.tmp 20) rfl Au _ cu (nodeM n p q) rfl rfl ?_
  simp only [Act.put, List.setIfInBounds_toArray, List.set_cons_zero, List.set_cons_succ]
  refine wpQuiet_nil ?_
  refine mix_done ?_
  simp only [List.drop_succ_cons, List.drop_zero]
  refine wpList_storeStep rfl rfl (.tmp 6) (.tmp 21) rfl (w.heap.size + 2) rfl Au _ cu _ rfl _ _ hD step0_size ?_
  intro w10 hD10 hon10
  have hb10 := below_only hbel hon10 (by omega) hbel.size
  have hown := own_grown hown hon10 (own_diff hown hD (by decide))
  have Hf := Lib.hid hown
  clear hown
  go_wp2
  refine bodyPost_ret (results_cell_row (p := 6) (ty := 117) rfl _ _ (w.heap.size + 2) _ _ _ _ rfl hD10 Tryd.underlying117 rfl (by rw [stepC_size]; kernel_rfl)) rfl ⟨.slice Au (nodeT n p q).length cu, by rw [Hn.out], by rw [Hn.out]; exact Hf.out, hb10⟩
end Go.Proofs.YtcgbokgedfekkaaDoor
