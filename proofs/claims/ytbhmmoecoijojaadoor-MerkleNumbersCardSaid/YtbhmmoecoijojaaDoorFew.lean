/- The walk of deponentkeep's Few. No condition. -/
import Derived.Test.YtbhmmoecoijojaaDoorList
import Derived.Test.YtbhmmoecoijojaaDoorRefG
namespace Go.Proofs.YtbhmmoecoijojaaDoor
open Go Go.RowKit
attribute [local go_sem] n8_lo n8_hi n64_lo n64_hi n32_lo n32_hi
def fewL (ls : List (List UInt8)) (n m : Nat) : List (List UInt8) := (ls.take n).map (List.take m)
theorem fewL_length (ls : List (List UInt8)) (n m : Nat) : (fewL ls n m).length = min n ls.length := by simp [fewL]
theorem fewL_at (ls : List (List UInt8)) (n m i : Nat) (h : i < n) (h2 : i < ls.length) : (fewL ls n m).getD i [] = (ls.getD i []).take m := by
  unfold fewL
  rw [List.getD_eq_getElem?_getD, List.getD_eq_getElem?_getD, List.getElem?_map, List.getElem?_take, if_pos h, List.getElem?_eq_getElem h2]; rfl
theorem fewL_mem {ls : List (List UInt8)} {n m : Nat} {b : List UInt8} (h : b ∈ fewL ls n m) : b.length ≤ m := by
  unfold fewL at h
  obtain ⟨c, _, rfl⟩ := List.mem_map.1 h
  rw [List.length_take]; omega
/-- rows of different kinds are different blocks -/
theorem own_other {w : World} {b1 b2 s1 s2 n1 n2 : Nat} {e1 e2 : TypeId} {u v : Value} {xs ys : List Value} (he : e1 ≠ e2) (h1 : w.ownsRow b1 e1 s1 u n1 xs) (h2 : w.ownsRow b2 e2 s2 v n2 ys) : ∀ g, u.ownBlock = some g → v.ownBlock ≠ some g := by
  intro g hu hv
  rcases h1.2 with ⟨rfl, _⟩ | ⟨g1, c1, cur1, rfl, _, hb1, _⟩
  · cases hu
  · rcases h2.2 with ⟨rfl, _⟩ | ⟨g2, c2, cur2, rfl, _, hb2, _⟩
    · cases hv
    · have e1' : g1 = g := by injection hu
      have e2' : g2 = g := by injection hv
      subst e1'
      rw [e2', hb1] at hb2
      injection hb2 with hb2
      injection hb2 with _ hb2
      exact he hb2
/-- a list of texts of the call's own (from block B on), each text in a row of its own -/
structure Own2 (w : World) (B : Nat) (v : Value) (vs : List Value) (ls : List (List UInt8)) : Prop where
  len : vs.length = ls.length
  row : w.ownsRow B 32 1 v vs.length vs
  el : ∀ i, i < ls.length → w.ownsRow B 5 1 (vs.getD i undef) (ls.getD i []).length ((ls.getD i []).map v8)
theorem Own2.below {w w' : World} {B : Nat} {v : Value} {vs : List Value} {ls : List (List UInt8)} (h : Own2 w B v vs ls) (hb : Below w.heap.size w w') : Own2 w' B v vs ls :=
  ⟨h.len, own_below h.row hb, fun i hi => own_below (h.el i hi) hb⟩
theorem Own2.ssl {w : World} {B : Nat} {v : Value} {vs : List Value} {ls : List (List UInt8)} (h : Own2 w B v vs ls) : SSl w w.heap.size v ls :=
  SSl.of_own h.row h.len (fun i hi => BSl.of_own (h.el i hi))
theorem Own2.ones {w : World} {B : Nat} {v : Value} {vs : List Value} {ls : List (List UInt8)} (h : Own2 w B v vs ls) : ∀ u ∈ vs, u.oneCell' = true := by
  intro u hu
  obtain ⟨i, hi, rfl⟩ := List.mem_iff_getElem.1 hu
  have he := h.el i (by rw [← h.len]; exact hi)
  rw [List.getD_eq_getElem?_getD, List.getElem?_eq_getElem hi] at he
  rcases he.2 with ⟨e, _⟩ | ⟨g, cap, cur, e, _⟩
  · have : vs[i] = .slice none 0 0 := e
    rw [this]; rfl
  · have : vs[i] = .slice (some ⟨g, 0, none⟩) _ cap := e
    rw [this]; rfl
/-- one text of a list of the call's own is written over -/
theorem Own2.setAt {w : World} {B : Nat} {v : Value} {vs : List Value} {ls : List (List UInt8)} (h : Own2 w B v vs ls) (a : Nat) (ha : a < ls.length) :
    ∃ g cap cur, v = .slice (some ⟨g, 0, none⟩) ls.length cap ∧ B ≤ g ∧ ls.length ≤ cap ∧ Blk w g 32 cur ∧ a < cur.size ∧ ∀ (w' : World) (x : Value) (b : List UInt8), Blk w' g 32 (cur.setIfInBounds a x) → w.grownBy w' (some g) → BSl w' w'.heap.size x b → SSl w' w'.heap.size v (ls.set a b) := by
  have hlen := h.len
  rcases h.row.2 with ⟨_, h0⟩ | ⟨g, cap, cur, e, hB, hg, hnc, hcap, hsz, hcur⟩
  · have h0' : vs.length = 0 := h0
    omega
  · refine ⟨g, cap, cur, by rw [e, hlen], hB, by omega, hg, by omega, fun w' x b hb hgr hx => ?_⟩
    have hcl : cur.size = cap := by omega
    have hat : ∀ j, j < vs.length → cur[j]? = vs[j]? := fun j hj => by
      have : cur.toList.take vs.length = vs := by simpa using hcur
      rw [← this, List.getElem?_take, if_pos hj]; simp
    have hl : (ls.set a b).length = ls.length := List.length_set
    refine ⟨some ⟨g, 0, none⟩, cap, vs.set a x, by rw [e, hl, hlen], by rw [hl]; omega, by unfold maxLen at hcap; omega, fun _ => ⟨g, 0, rfl, hb.lt, fun j u hu => ?_⟩, by rw [List.length_set, hl]; exact hlen, fun i hi => ?_⟩
    · have hj : j < vs.length := by have := (List.getElem?_eq_some_iff.1 hu).1; rw [List.length_set] at this; exact this
      rw [Nat.zero_add, hb.cell, ← hu, Array.getElem?_setIfInBounds, List.getElem?_set]
      by_cases hja : a = j
      · subst hja; rw [if_pos rfl, if_pos rfl, if_pos (by omega), if_pos hj]
      · rw [if_neg hja, if_neg hja, hat j hj]
    · rw [hl] at hi
      rw [List.getD_eq_getElem?_getD, List.getD_eq_getElem?_getD, List.getElem?_set, List.getElem?_set]
      by_cases hia : a = i
      · subst hia; rw [if_pos rfl, if_pos rfl, if_pos (by omega), if_pos ha]; exact hx
      · rw [if_neg hia, if_neg hia, ← List.getD_eq_getElem?_getD, ← List.getD_eq_getElem?_getD]
        have he := h.el i hi
        have hgv : v.ownBlock = some g := by rw [e]; rfl
        exact BSl.of_own (own_grown he hgr (fun g2 h2 e2 => own_other (by decide) he h.row g2 h2 (by rw [hgv]; exact e2)))
theorem fewL_succ (ls : List (List UInt8)) (k m : Nat) (h : k < ls.length) : fewL ls (k + 1) m = fewL ls k m ++ [(ls.getD k []).take m] := by
  unfold fewL
  rw [List.take_succ_eq_append_getElem h, List.map_append, List.getD_eq_getElem?_getD, List.getElem?_eq_getElem h]; rfl
theorem Own2.snoc {w w' : World} {B : Nat} {v v' x : Value} {vs : List Value} {ls : List (List UInt8)} {b : List UInt8} (h : Own2 w B v vs ls) (he : w.ownsRow B 5 1 x b.length (b.map v8)) (hown : w'.ownsRow B 32 1 v' (vs ++ [x]).length (vs ++ [x])) (hg : w.grownBy w' v.ownBlock) : Own2 w' B v' (vs ++ [x]) (ls ++ [b]) := by
  refine ⟨by rw [List.length_append, List.length_append, h.len]; rfl, hown, fun i hi => ?_⟩
  have hlen := h.len
  by_cases hik : i < ls.length
  · have h1 := h.el i hik
    rw [List.getD_eq_getElem?_getD, List.getD_eq_getElem?_getD, List.getElem?_append_left (by omega), List.getElem?_append_left hik, ← List.getD_eq_getElem?_getD, ← List.getD_eq_getElem?_getD]
    exact own_grown h1 hg (fun g hb e => own_other (by decide) h1 h.row g hb e)
  · have hi2 : i = ls.length := by rw [List.length_append, List.length_singleton] at hi; omega
    subst hi2
    rw [List.getD_eq_getElem?_getD, List.getD_eq_getElem?_getD, List.getElem?_append_right (by omega), List.getElem?_append_right (Nat.le_refl _), hlen, Nat.sub_self]
    exact own_grown he hg (fun g hb e => own_other (by decide) he h.row g hb e)
theorem own_base {w : World} {b b' s n : Nat} {e : TypeId} {v : Value} {xs : List Value} (h : w.ownsRow b' e s v n xs) (hb : b ≤ b') : w.ownsRow b e s v n xs := by
  refine ⟨h.1, ?_⟩
  rcases h.2 with h0 | ⟨g', cap, cur, h1, h2, h3⟩
  · exact .inl h0
  · exact .inr ⟨g', cap, cur, h1, Nat.le_trans hb h2, h3⟩
theorem BSl.reads {w : World} {B n c : Nat} {A : Option Addr} {bs : List UInt8} (h : BSl w B (.slice A n c) bs) : Reads w B A (bs.map v8) := by
  obtain ⟨A', c', e, _, _, hr⟩ := h
  injection e with e
  subst e
  exact hr
set_option maxHeartbeats 1000000 in
set_option maxRecDepth 100000 in
theorem few_any (v : Value) (ls : List (List UInt8)) (n m : Nat) (hn : n ≤ 1000) (hm : m ≤ 100000) (w : World) (hv : SSl w w.heap.size v ls) :
    Calls Tryd.prog 19 #[v, .int .i64 n, .int .i64 m] w fun e w' => ∃ u, e = .returned u ∧ (∃ vs, Own2 w' w.heap.size u vs (fewL ls n m)) ∧ Below w.heap.size w w' := by
  obtain ⟨i0, hi, hz0, hz1, hz2⟩ := info_parts (by kernel_rfl : (Tryd.prog.info? 32).map (fun i => (i.zero, i.size, i.bytes)) = some (some (.slice none 0 0), 1, 24))
  obtain ⟨A, cap, vs0, rfl, h2, h3, h4, h5, h6⟩ := hv
  have hv : SSl w w.heap.size (.slice A ls.length cap) ls := ⟨A, cap, vs0, rfl, h2, h3, h4, h5, h6⟩
  clear h4 h5 h6 vs0
  have Hv := Lib.hid hv
  clear hv
  go_enter Tryd.func19, Tryd.ntmps19
  go_wp2_with fail
  go_loopw [7, 8] (fun u iv wr => ∃ (k : Nat) (vs : List Value), k ≤ n ∧ k ≤ ls.length ∧ iv = .int .i64 k ∧ Own2 wr w.heap.size u vs (fewL ls k m) ∧ Below w.heap.size w wr) (fun _ iv _ => n - (intOf iv).toNat)
  case atStart => exact ⟨0, [], by omega, by omega, rfl, ⟨rfl, World.ownsRow_nil _ _ _ _, fun i hi => by simp [fewL] at hi⟩, Below.refl _ _⟩
  case round =>
    obtain ⟨k, vs, hkn, hkl, rfl, hO, hbel⟩ := hrel
    have HO := Lib.hid hO
    clear hO
    by_cases a1 : k < ls.length
    case neg =>
      have b1 : ¬ ((k : Int) < (ls.length : Int)) := by omega
      have b2 : decide ((k : Int) < (ls.length : Int)) = false := decide_eq_false b1
      have ek : fewL ls k m = fewL ls n m := by
        unfold fewL
        rw [List.take_of_length_le (by omega), List.take_of_length_le (by omega)]
      go_wp2_with fail
      go_ret
      exact ⟨_, rfl, ⟨vs, by rw [← ek]; exact HO.out⟩, hbel⟩
    by_cases a2 : k < n
    case neg =>
      obtain rfl : k = n := by omega
      have b1 : (k : Int) < (ls.length : Int) := by omega
      clear a1 a2
      go_wp2_with fail
      go_ret
      exact ⟨_, rfl, ⟨vs, HO.out⟩, hbel⟩
    have b1 : (k : Int) < (ls.length : Int) := by omega
    have b2 : (k : Int) < (n : Int) := by omega
    obtain ⟨b0, off, x, rfl, hb0, hcu, hu⟩ := (Hv.out.next hbel).cellAt k a1
    obtain ⟨A2, c2, rfl, h12, h22, hr2⟩ := hu
    have hu : BSl wr wr.heap.size (.slice A2 (ls.getD k []).length c2) (ls.getD k []) := ⟨A2, c2, rfl, h12, h22, hr2⟩
    clear hr2
    have hfk := fewL_length ls k m
    have hat := fewL_at ls n m
    obtain ⟨bk, hbk⟩ : ∃ bk, ls.getD k [] = bk := ⟨_, rfl⟩
    rw [hbk] at hcu hu h12
    have Hbk := Lib.hid hbk
    clear hbk hfk hat
    have HU := Lib.hid hu
    clear hu
    by_cases a3 : m < bk.length
    case' pos =>
      have b3 : (m : Int) < (bk.length : Int) := by omega
      have b4 : (m : Int) ≤ (c2 : Int) := by omega
      go_upto_region 8 with fail
      have hu2 := head_b HU.out m (by omega)
      have hbl : (bk.take m).length = m := by rw [List.length_take]; omega
    case' neg =>
      have b3 : ¬ ((m : Int) < (bk.length : Int)) := by omega
      have b4 : True := trivial
      go_upto_region 8 with fail
      have htk : bk.take m = bk := List.take_of_length_le (by omega)
      have hu2 : BSl wr wr.heap.size (.slice A2 bk.length c2) (bk.take m) := by rw [htk]; exact HU.out
      have hbl : (bk.take m).length = bk.length := by rw [htk]
      clear htk
    all_goals
      have hrd := hu2.reads
      have hml : (bk.take m).length ≤ m := by rw [List.length_take]; omega
      obtain ⟨tk, htk⟩ : ∃ tk, bk.take m = tk := ⟨_, rfl⟩
      rw [htk] at hrd hml hbl
      have Htk := Lib.hid htk
      have Hml := Lib.hid hml
      clear htk hml
      have hn1 := below_new1 wr (Obj.cells #[] 5)
      have hoe := own_emptyB wr wr.heap.size (Nat.le_refl _)
      have hfl : vs.length = k := by have := HO.out.len; rw [fewL_length] at this; omega
      have Hfl := Lib.hid hfl
      clear hu2 b3 b4 hcu hfl a3
      go_wp2_with (first
        | (at_builtin; refine wpList_appendS rfl (.tmp 33) (.tmp 34) rfl wr.heap.size _ [] tk rfl hoe _ A2 _ _ rfl hbl (hrd.below hn1) (by have := Hml.out; simp only [List.length_nil]; omega) hn1.size wr hn1 ?_; intro u2 w2 hown2 hb2; simp only [List.nil_append] at hown2; obtain ⟨A3, c3, hu3, hc3, hc4, hrd3⟩ := Reads.own hown2; rw [List.length_map] at hu3; subst hu3; have hS := Blk.new w2 32 #[.slice A3 tk.length c3]; have hb3 := below_new1 w2 (Obj.cells #[.slice A3 tk.length c3] 32); have hO3 := (HO.out.below hb2).below hb3; have hbel3 := (hbel.trans (hb2.mono hbel.size)).trans (hb3.mono (Nat.le_trans hbel.size hb2.size)); have hE3 := own_base (own_below hown2 hb3) hbel.size; have Hh := Lib.hid (And.intro hO3 (And.intro hbel3 hE3)); clear hc3 hc4 hrd3 hO3 hbel3 hE3 hown2 hb2 hb3 hoe hn1 hrd hbl)
        | (at_builtin; refine wpList_appendR rfl (.tmp 32) (.tmp 36) _ rfl w.heap.size 32 i0 _ 24 Tryd.underlying24 hi hz0 hz1 hz2 rfl _ vs rfl Hh.out.1.row _ (some ⟨w2.heap.size, 0, none⟩) 1 1 [.slice A3 tk.length c3] rfl (Reads.of_blk hS hS.lt 0) rfl (fun u hu => by rw [List.mem_singleton] at hu; subst hu; rfl) (by have := Hfl.out; unfold maxLen; omega) (by have := Hfl.out; omega) Hh.out.2.1.size ?_; intro u1 w5 hown1 hg1 hat1))
      have hE := Hh.out.2.2
      rw [List.length_map] at hE
      have hO5 := Own2.snoc Hh.out.1 hE hown1 hg1
      have hs := fewL_succ ls k m a1
      rw [Hbk.out, Htk.out] at hs
      rw [← hs] at hO5
      have hbel5 := below_own Hh.out.2.1 Hh.out.1.row hg1 Hh.out.2.1.size
      have HF := Lib.hid (And.intro hO5 hbel5)
      clear hs hO5 hbel5 hE hown1 hg1 hat1 Hh hS
      go_wp2_with fail
      go_roundw
      case rel => exact ⟨k + 1, _, by omega, by omega, by go_num, HF.out.1, HF.out.2⟩
      case measure => simp [intOf]; omega
end Go.Proofs.YtbhmmoecoijojaaDoor
