/- Texts that stand behind one another: KeysP, MixT, ShaE, RefG. No condition. -/
import Derived.Test.YtcgbokgedfekkaaDoorU1
import Derived.Test.YtcgbokgedfekkaaDoorU11
import Derived.Test.YtcgbokgedfekkaaDoorU7
import Derived.Deep.DeepCutAuto
/- Plain Lean: numbers as bytes, the highest first. No condition. -/
namespace Go.Proofs.YtcgbokgedfekkaaDoor
/-- byte number j (from the lowest) -/
def byteAt (n : UInt64) (j : Nat) : UInt8 := UInt8.ofNat (n.toNat / 2 ^ (8 * j))
/-- the k lowest bytes, the highest first -/
def numB (n : UInt64) (k : Nat) : List UInt8 := (List.range k).map fun j => byteAt n (k - 1 - j)
theorem numB_length (n : UInt64) (k : Nat) : (numB n k).length = k := by simp [numB]
/-- how many bytes a number has -/
def clamp8 (k : Int) : Nat := if k < 1 then 1 else if k > 8 then 8 else k.toNat
theorem clamp8_lo (k : Int) : 1 ≤ clamp8 k := by unfold clamp8; split; · omega
                                                 split <;> omega
theorem clamp8_hi (k : Int) : clamp8 k ≤ 8 := by unfold clamp8; split; · omega
                                                 split <;> omega
/-- what is written when i + 1 bytes are still to come -/
def numTo (n : UInt64) (s i : Nat) : List UInt8 := (numB n s).take (s - i)
theorem numTo_0 (n : UInt64) (s : Nat) : numTo n s s = [] := by simp [numTo]
theorem numTo_end (n : UInt64) (s : Nat) : numTo n s 0 = numB n s := by unfold numTo; rw [Nat.sub_zero, List.take_of_length_le (by rw [numB_length]; exact Nat.le_refl _)]
theorem numTo_step (n : UInt64) (s i : Nat) (h : i < s) : numTo n s i = numTo n s (i + 1) ++ [byteAt n i] := by
  unfold numTo
  have e : s - i = (s - (i + 1)) + 1 := by omega
  have hl : s - (i + 1) < (numB n s).length := by rw [numB_length]; omega
  rw [e, List.take_succ_eq_append_getElem hl]
  congr 2
  simp only [numB, List.getElem_map, List.getElem_range]
  congr 1
  omega
theorem byte_val (n : UInt64) (i : Nat) : n64 n / 2 ^ (8 * i) % 256 = n8 (byteAt n i) := by
  unfold n64 n8 byteAt
  rw [UInt8.toNat_ofNat']
  have : ((n.toNat : Int) / 2 ^ (8 * i)) = ((n.toNat / 2 ^ (8 * i) : Nat) : Int) := by simp
  rw [this]; omega
def keyTxt : List UInt8 := [107, 101, 121]
def headTxt : List UInt8 := [104, 101, 97, 100]
/-- an int, as a word of 64 bits -/
def i64u (x : Int) : UInt64 := UInt64.ofNat (x % 18446744073709551616).toNat
theorem i64u_val (x : Int) : x % 18446744073709551616 = n64 (i64u x) := by
  unfold n64 i64u
  rw [UInt64.toNat_ofNat_of_lt' (by show _ < 18446744073709551616; omega)]
  omega
structure HeadL where
  tree : Int
  epoch : Int
  size : UInt64
  clock : UInt64
  root : List UInt8
def HeadL.ok (h : HeadL) : Prop := h.root.length = 32 ∧ (-9223372036854775808 ≤ h.tree ∧ h.tree ≤ 9223372036854775807) ∧ (-9223372036854775808 ≤ h.epoch ∧ h.epoch ≤ 9223372036854775807)
def headB (h : HeadL) : List UInt8 := headTxt ++ (numB (i64u h.tree) 1 ++ numB (i64u h.epoch) 4 ++ numB h.size 8 ++ numB h.clock 8 ++ h.root)
theorem headB_length (h : HeadL) (hr : h.root.length = 32) : (headB h).length = 57 := by simp [headB, headTxt, numB_length, hr]
end Go.Proofs.YtcgbokgedfekkaaDoor

/- A region that draws its order, by a plan, with a forced tail: what stands last (a store, mostly) waits for all else, and is walked in its order behind it. No condition. -/
namespace Go.Proofs.YtcgbokgedfekkaaDoor
open Go Go.RowKit
def Never : Exit → Act → World → Prop := fun _ _ _ => False
theorem never_out : ¬ LetsOut Never := fun ⟨_, _, h⟩ => h
section
variable {P : Program} {ops : Array Oper} {md : Region.Mode} {Q : Exit → Act → World → Prop} {S : World → Prop} {n : Nat} {L : Array Bool → Act → World → Prop}
theorem wpOp_never {i : Nat} {K : Act → World → Prop} {a : Act} {w : World} (h : wpOp P ops Never i K a w) : wpOp P ops Q i K a w := by
  unfold wpOp at *
  split
  · rename_i ho; simp only [ho] at h; exact h
  · rename_i o ho
    simp only [ho] at h
    split
    · rename_i hw
      simp only [hw, if_true] at h
      rcases h with h | h
      · refine .inl ?_
        unfold Oper.wp at *
        generalize (execOp a.eval o).run P w = r at *
        cases r with
        | ok n w' =>
          cases n <;> simp only [Oper.upon] at h ⊢ <;>
            first
              | exact h
              | exact Calls.mono h (fun e w'' he => by cases e <;> first | exact he | exact (he : False).elim | exact (never_out he).elim)
              | exact Rows.mono h (fun _ _ he => he)
        | halt x w' => cases x <;> simp only [Oper.upon] at h ⊢ <;> first | exact h | exact (h : False).elim
      · exact (never_out h.2).elim
    · rename_i hw; simp only [hw] at h; exact h
def wpAnyT (P : Program) (md : Region.Mode) (ops : Array Oper) (n : Nat) (L : Array Bool → Act → World → Prop) : Nat → (World → Prop) → Array Bool → Act → World → Prop
  | 0, _, listed, a, w => L listed a w
  | fuel + 1, S, listed, a, w =>
    Region.ready md ops listed ≠ [] ∧
    ∀ i ∈ Region.ready md ops listed, i < n ∧ wpOp P ops Never i (fun a' w' => ∃ S' : World → Prop, (∀ w, S' w → S w) ∧ S' w' ∧ wpAnyT P md ops n L fuel S' (listed.setIfInBounds i true) a' w') a w
theorem wpAny_of_T {g : Nat} (hL : ∀ listed a w, L listed a w → wpAny P md ops Q g listed a w) : ∀ (fuel : Nat) (S : World → Prop) (listed : Array Bool) (a : Act) (w : World), wpAnyT P md ops n L fuel S listed a w → wpAny P md ops Q (fuel + g) listed a w
  | 0, _, _, _, _, h => by rw [Nat.zero_add]; exact hL _ _ _ h
  | fuel + 1, _, _, _, _, h => by
    rw [show fuel + 1 + g = (fuel + g) + 1 by omega]
    exact ⟨fun h0 => absurd h0 h.1, fun i hi => wpOp_never (wpOp_mono (fun a' w' ⟨_, _, _, h'⟩ => wpAny_of_T hL fuel _ _ a' w' h') (h.2 i hi).2)⟩
theorem wpAnyT_first {i : Nat} {oi : Oper} {v : Value} (hi : ops[i]? = some oi) (hsel : ∀ (j : Nat) (o : Oper) cs b, ops[j]? = some o → o.op ≠ .select cs b)
    (hs : Region.sinkB md ops n = true) (hc : Region.chainB md ops n = true) (hn : n < ops.size) (hin : i < n)
    (hdone : ∀ listed a w, L listed a w → ∀ j ∈ Region.ready md ops listed, n ≤ j) :
    ∀ (fuel : Nat) (S : World → Prop) (listed : Array Bool) (a : Act) (w : World), HeadInv md ops n listed →
      (∀ j oj, ops[j]? = some oj → j ≠ i → listed.getD j true = false → (∀ e ∈ oj.after, Region.binds md e = true → e.on ≠ i) → oi.apart ops oj = true) →
      i ∈ Region.ready md ops listed → YieldsIf P ops S oi v a → S w →
      wpAnyT P md ops n L fuel S (listed.setIfInBounds i true) (a.put oi.dst v) w → wpAnyT P md ops n L (fuel + 1) S listed a w := by
  intro fuel
  induction fuel with
  | zero =>
    intro S listed a w inv _ hr hy hS H
    have hun := (mem_ready.1 hr).1
    refine ⟨fun h => (by rw [h] at hr; cases hr), fun j hj => ?_⟩
    have hjn : j < n := by
      rcases Nat.lt_or_ge j n with h | h
      · exact h
      · exact absurd hj (tail_waits hs hc hn inv _ i rfl hin hun j h)
    refine ⟨hjn, ?_⟩
    by_cases hji : j = i
    · subst hji; exact hy.wpOp hi hS ⟨S, fun _ h => h, hS, H⟩
    · have := hdone _ _ _ H j (ready_mono hj hji)
      omega
  | succ fuel ih =>
    intro S listed a w inv hfree hr hy hS H
    have hun := (mem_ready.1 hr).1
    refine ⟨fun h => (by rw [h] at hr; cases hr), fun j hj => ?_⟩
    have hjn : j < n := by
      rcases Nat.lt_or_ge j n with h | h
      · exact h
      · exact absurd hj (tail_waits hs hc hn inv _ i rfl hin hun j h)
    refine ⟨hjn, ?_⟩
    by_cases hji : j = i
    · subst hji; exact hy.wpOp hi hS ⟨S, fun _ h => h, hS, H⟩
    · have h1 := (H.2 j (ready_mono hj hji)).2
      obtain ⟨hjun, oj, hoj, hall⟩ := mem_ready.1 hj
      have hnot : ∀ e ∈ oj.after, Region.binds md e = true → e.on ≠ i := fun e he hb heq => by
        have h1 := hall e he hb
        rw [heq, getD_both hun] at h1
        cases h1
      have h2 := wpOp_putIf hoj (hfree j oj hoj hji hjun hnot) (fun cs b => hsel i oi cs b hi) (fun cs b => hsel j oj cs b hoj) (fun _ _ _ h => h) hy h1
      have hfree' : ∀ k ok, ops[k]? = some ok → k ≠ i → (listed.setIfInBounds j true).getD k true = false →
          (∀ e ∈ ok.after, Region.binds md e = true → e.on ≠ i) → oi.apart ops ok = true := fun k ok hk hki hun hno => by
        refine hfree k ok hk hki ?_ hno
        by_cases hjk : j = k
        · subst hjk; exact hjun
        · rw [getD_set_ne true hjk] at hun; exact hun
      refine wpOp_mono (fun a' w' ⟨h3, S', h4, h5, h6⟩ => ⟨S', h4, h5, ih S' (listed.setIfInBounds j true) a' w' (inv.set hj hjn) hfree' (ready_mono hr (Ne.symm hji)) (yieldsIf_less h3 h4) h5 ?_⟩) h2
      rw [Array.setIfInBounds_comm _ _ hji]
      exact h6
def mixBT (md : Region.Mode) (ops : Array Oper) (n : Nat) : Plan → Array Bool → Bool
  | .done, listed => Region.seqB md ops (ops.size - n) n listed
  | .plain i p, listed => decide (i < n) && Region.free md ops listed i && (Region.ready md ops listed).contains i && ((ops[i]?).map plainOp).getD false && mixBT md ops n p (listed.setIfInBounds i true)
  | .only i p, listed => decide (i < n) && (Region.ready md ops listed == [i]) && mixBT md ops n p (listed.setIfInBounds i true)
  | .two _ _ _ _, _ => false
theorem wpOp_of_listN {i : Nat} {o : Oper} (ho : ops[i]? = some o) {K : Act → World → Prop} {a : Act} {w : World} (h : wpList P ops (OnlyK K) [o] a w) : wpOp P ops Never i K a w := by
  have h1 := wpOp_of_list (Q := fun _ _ _ => False) ho h
  unfold wpOp at *
  simp only [ho] at h1 ⊢
  split
  · rename_i hw
    simp only [hw, if_true] at h1
    rcases h1 with h1 | h1
    · refine .inl ?_
      unfold Oper.wp at *
      generalize (execOp a.eval o).run P w = r at *
      cases r with
      | ok n w' =>
        cases n <;> simp only [Oper.upon] at h1 ⊢ <;>
          first
            | exact h1
            | exact Calls.mono h1 (fun e w'' he => by cases e <;> first | exact he | exact (he : False).elim | exact (onlyK_out he).elim)
            | exact Rows.mono h1 (fun _ _ he => he)
      | halt x w' => cases x <;> simp only [Oper.upon] at h1 ⊢ <;> first | exact h1 | exact (h1 : False).elim
    · exact (onlyK_out h1.2).elim
  · rename_i hw; simp only [hw] at h1; exact h1
theorem wpAnyT_of_mix (hsel : Region.noSelect ops = true) (hs : Region.sinkB md ops n = true) (hc : Region.chainB md ops n = true) (hn : n < ops.size) (K : Act → World → Prop) :
    ∀ (p : Plan) (S : World → Prop) (listed : Array Bool) (a : Act) (w : World), HeadInv md ops n listed → mixBT md ops n p listed = true → S w → mixW P ops K p S a w →
    wpAnyT P md ops n (fun listed a w => Region.seqB md ops (ops.size - n) n listed = true ∧ K a w) p.len S listed a w
  | .done, S, listed, a, w, inv, hB, hS, h => ⟨hB, h⟩
  | .plain i p, S, listed, a, w, inv, hB, hS, h => by
    simp only [mixBT, Bool.and_eq_true, decide_eq_true_eq] at hB
    obtain ⟨⟨⟨⟨hin, hf⟩, hr⟩, hp⟩, hB⟩ := hB
    unfold mixW at h
    cases ho : ops[i]? with
    | none => rw [ho] at h; exact h.elim
    | some o =>
      rw [ho] at h hp
      obtain ⟨v, hy, hK⟩ := yieldsIf_of_quiet (by simpa using hp) h
      have hr' : i ∈ Region.ready md ops listed := by simpa using hr
      exact wpAnyT_first ho (Region.noSelect_spec hsel) hs hc hn hin (fun _ _ _ hL => seqB_ready hL.1) _ S listed a w inv (Region.free_spec ho hf) hr' hy hS (wpAnyT_of_mix hsel hs hc hn K p S _ _ w (inv.set hr' hin) hB hS hK)
  | .only i p, S, listed, a, w, inv, hB, hS, h => by
    simp only [mixBT, Bool.and_eq_true, beq_iff_eq, decide_eq_true_eq] at hB
    obtain ⟨⟨hin, hr⟩, hB⟩ := hB
    unfold mixW at h
    refine ⟨fun h0 => (by rw [hr] at h0; cases h0), fun j hj => ?_⟩
    rw [hr, List.mem_singleton] at hj
    subst hj
    refine ⟨hin, ?_⟩
    cases ho : ops[j]? with
    | none => rw [ho] at h; exact h.elim
    | some o =>
      rw [ho] at h
      exact wpOp_mono (fun a' w' ⟨S', h1, h2, h3⟩ => ⟨S', h1, h2, wpAnyT_of_mix hsel hs hc hn K p S' _ a' w' (inv.set (by rw [hr]; exact List.mem_singleton.2 rfl) hin) hB h2 h3⟩) (wpOp_of_listN ho h)
  | .two _ _ _ _, S, listed, a, w, inv, hB, hS, h => by cases hB
end
/-- The Bool of a region by a plan with a forced tail from place n on. -/
def mixTB (ops : Array Oper) (n : Nat) (p : Plan) : Bool :=
  Region.noSelect ops && decide (n < ops.size) && Region.sinkB .any ops n && Region.chainB .any ops n && (p.len == n) && mixBT .any ops n p (Array.replicate ops.size false)
/-- A region that draws its order, by a plan, then a forced tail; at a class. -/
theorem wp_region_mixS {P : Program} {id : Nat} {Q : Exit → Act → World → Prop} {a : Act} {w : World} {l : List Oper} (n : Nat) (p : Plan) (S : World → Prop) (hm : P.follows .mixedOrders = true) (hB : mixTB l.toArray n p = true)
    (hS : S (w.drewN 1)) (h : mixW P l.toArray (fun a w => wpList P l.toArray Q (l.drop n) a w) p S a (w.drewN 1)) : (Code.region id l.toArray true).wp P Q a w := by
  simp only [mixTB, Bool.and_eq_true, beq_iff_eq, decide_eq_true_eq] at hB
  obtain ⟨⟨⟨⟨⟨hsel, hn⟩, hs⟩, hc⟩, hl⟩, hB⟩ := hB
  have inv0 : HeadInv .any l.toArray n (Array.replicate l.toArray.size false) :=
    ⟨by simp, fun j oj _ hl => (by rw [getD_replicate_false] at hl; cases hl), fun t _ ht => getD_in (by simpa using ht) (getD_replicate_false _ _)⟩
  have hdl : (l.drop n).length = l.toArray.size - n := by simp
  have H := wpAnyT_of_mix (P := P) hsel hs hc hn _ p S _ a (w.drewN 1) inv0 hB hS h
  refine wp_region_any hm ?_
  have := wpAny_of_T (Q := Q) (g := l.toArray.size - n) (fun listed a' w' hL => by
    have := wpAny_of_seq (md := .any) (Q' := Q) (l.drop n) n listed a' w' (fun j => by simp [List.getElem?_drop]) (by rw [hdl]; exact hL.1) hL.2
    rwa [hdl] at this) _ _ _ _ _ H
  rw [hl, show n + (l.toArray.size - n) = l.toArray.size by omega] at this
  exact this
/-- A region that draws its order, by a plan, then a forced tail. -/
theorem wp_region_mixT {P : Program} {id : Nat} {Q : Exit → Act → World → Prop} {a : Act} {w : World} {l : List Oper} (n : Nat) (p : Plan) (hm : P.follows .mixedOrders = true) (hB : mixTB l.toArray n p = true)
    (h : ∀ W, Below w.heap.size w W → mixW P l.toArray (fun a w => wpList P l.toArray Q (l.drop n) a w) p (fun v => ∃ e, v = plus W e) a W) : (Code.region id l.toArray true).wp P Q a w :=
  wp_region_mixS n p _ hm hB (in_plus (w := w.drewN 1)) (h (w.drewN 1) (below_drewN (Below.refl _ w) 1))
end Go.Proofs.YtcgbokgedfekkaaDoor

/- The walk of sha's Mac. No condition. -/
namespace Go.Proofs.YtcgbokgedfekkaaDoor
open Go.RowKit
attribute [local go_sem] n8_lo n8_hi xor8_54 xor8_92
/-- a key of more than 64 bytes is hashed -/
def keyL (key : List UInt8) : List UInt8 := if 64 < key.length then sha key else key
def keyX (key : List UInt8) (c : UInt8) : List UInt8 := (List.range 64).map fun p => (keyL key).getD p 0 ^^^ c
/-- a text's tag by a key -/
def mac (key b : List UInt8) : List UInt8 := sha (keyX key 92 ++ sha (keyX key 54 ++ b))
theorem keyX_length (key : List UInt8) (c : UInt8) : (keyX key c).length = 64 := by simp [keyX]
def xorB (key : List UInt8) (c : UInt8) (k p : Nat) : UInt8 := if p < k then (keyL key).getD p 0 ^^^ c else (keyL key).getD p 0
theorem xorB_step (key : List UInt8) (c : UInt8) (k : Nat) : (fun p => if p = k then (keyL key).getD k 0 ^^^ c else xorB key c k p) = xorB key c (k + 1) := by
  funext p
  unfold xorB
  by_cases h : p = k
  · rw [if_pos h, if_pos (show p < k + 1 by omega), h]
  · rw [if_neg h]
    by_cases h1 : p < k
    · rw [if_pos h1, if_pos (show p < k + 1 by omega)]
    · rw [if_neg h1, if_neg (show ¬ p < k + 1 by omega)]
theorem xorB_at (key : List UInt8) (c : UInt8) (k : Nat) : xorB key c k k = (keyL key).getD k 0 := by unfold xorB; rw [if_neg (Nat.lt_irrefl _)]
theorem xorB_all (key : List UInt8) (c : UInt8) : ∀ p, p < 64 → xorB key c 64 p = (keyX key c).getD p 0 := by
  intro p hp
  unfold xorB keyX
  rw [if_pos hp]; simp [hp]
theorem xorB_0 (key : List UInt8) (c : UInt8) (n : Nat) (h : (keyL key).length ≤ n) : arr n (fun p => if 0 ≤ p ∧ p < 0 + Nat.min (keyL key).length n then (keyL key).getD (p - 0) 0 else 0) = arr n (xorB key c 0) := by
  apply arr_congr
  intro p hp
  unfold xorB
  rw [if_neg (show ¬ p < 0 by omega), show Nat.min (keyL key).length n = (keyL key).length from by show min _ _ = _; omega]
  by_cases h1 : p < (keyL key).length
  · rw [if_pos (show 0 ≤ p ∧ p < 0 + (keyL key).length by omega)]; rfl
  · rw [if_neg (show ¬ (0 ≤ p ∧ p < 0 + (keyL key).length) by omega), List.getD_eq_getElem?_getD, List.getElem?_eq_none (by omega)]; rfl
theorem keyL_length (key : List UInt8) : (keyL key).length ≤ 64 := by
  unfold keyL; split
  · rw [sha_length]; omega
  · omega
theorem mac_length (key b : List UInt8) : (mac key b).length = 32 := sha_length _
set_option maxRecDepth 100000 in
theorem mac_any (u v : Value) (key b : List UInt8) (w : World) (hk : BSl w w.heap.size u key) (hb : BSl w w.heap.size v b) (hkl : key.length ≤ 140737488355264) (hbl : b.length ≤ 140737488355264) (hG : Glob w) :
    Calls Tryd.prog 100 #[u, v] w fun e w' => e = .returned (.agg (dat (mac key b))) ∧ Below w.heap.size w w' := by
  obtain ⟨A, cap, rfl, hc1, hc2, hr⟩ := hk
  obtain ⟨Ab, capb, rfl, hcb1, hcb2, hrb⟩ := hb
  have hb : BSl w w.heap.size (.slice Ab b.length capb) b := ⟨Ab, capb, rfl, hcb1, hcb2, hrb⟩
  clear hcb1 hcb2 hrb
  go_enter Tryd.func100, Tryd.ntmps100
  go_upto_if 12 with fail
  refine wp_at (fun W => Blk W w.heap.size 35 (arr 32 fun _ => 0) ∧ Blk W (w.heap.size + 1) 203 (arr 64 fun _ => 0) ∧ Blk W (w.heap.size + 2) 203 (arr 64 fun _ => 0) ∧ Below w.heap.size w W)
    ⟨((Blk.new w _ _).alloc _).alloc _, (Blk.new2 _ _ _ _).alloc _, Blk.new3 _ _ _ _ _, below_new3 _ _ _ _⟩ ?_
  intro W ⟨hR, hI, hO, hbel⟩
  go_cut [0] (fun s0 wx => (∃ A0 cap0, s0 = .slice A0 (keyL key).length cap0 ∧ (keyL key).length ≤ cap0 ∧ cap0 ≤ 9223372036854775807 ∧ Reads wx wx.heap.size A0 ((keyL key).map v8) ∧ ∀ g off, A0 = some ⟨g, off, none⟩ → (keyL key).length ≠ 0 → g < w.heap.size ∨ w.heap.size + 2 < g) ∧ Blk wx w.heap.size 35 (arr 32 fun _ => 0) ∧ Blk wx (w.heap.size + 1) 203 (arr 64 fun _ => 0) ∧ Blk wx (w.heap.size + 2) 203 (arr 64 fun _ => 0) ∧ Below w.heap.size w wx)
  case first =>
    have hkW : BSl W W.heap.size (.slice A key.length cap) key := BSl.next ⟨A, cap, rfl, hc1, hc2, hr⟩ hbel
    by_cases h64 : 64 < key.length
    · have hkey : keyL key = sha key := if_pos h64
      go_wp2_with fail
      refine (sum_b _ key W hkW (by omega) (hG.next hbel)).mono ?_
      rintro e w1 ⟨rfl, hb1⟩
      have hR1 := hR.below hb1 hR.lt
      have hI1 := hI.below hb1 hI.lt
      have hO1 := hO.below hb1 hO.lt
      have hl1 := hb1.size
      have hl0 := hO.lt
      have hbel1 := hbel.trans (hb1.mono hbel.size)
      have hD := Blk.new w1 35 (arr 32 fun _ => 0)
      have hR2 := hR1.alloc (Obj.cells (arr 32 fun _ => 0) 35)
      have hI2 := hI1.alloc (Obj.cells (arr 32 fun _ => 0) 35)
      have hO2 := hO1.alloc (Obj.cells (arr 32 fun _ => 0) 35)
      have hbel2 := hbel1.alloc hbel1.size (Obj.cells (arr 32 fun _ => 0) 35)
      go_wp2_with (first
        | (refine wpList_storeArr rfl rfl 35 (.tmp 7) (.tmp 14) rfl w1.heap.size rfl 32 (fun p => (sha key).getD p 0) _ rfl _ hD (by kernel_rfl) ?_; intro w3 hD3 hon3))
      go_meet
      have hon3' : (w1.alloc (Obj.cells (arr 32 fun _ => 0) 35)).grownBy w3 (some w1.heap.size) := hon3
      rw [hkey]
      obtain ⟨A4, cap4, e4, h41, h42, h43⟩ := BSl.of_arr hD3 _ hD3.lt _ (sha_length key) (fun _ _ => rfl) (by decide)
      have e5 : (sha key).length = 32 := sha_length key
      refine ⟨⟨A4, cap4, by rw [← e4], h41, h42, h43, fun g off hg _ => ?_⟩, hR2.grown hon3' (by simp; omega), hI2.grown hon3' (by simp; omega), hO2.grown hon3' (by simp; omega), below_only hbel2 hon3' (by omega) hbel2.size⟩
      right
      injection e4 with e6
      rw [hg] at e6
      injection e6 with e6
      injection e6 with e6
      omega
    · have hkey : keyL key = key := if_neg h64
      go_wp2_with fail
      go_meet
      rw [hkey]
      refine ⟨⟨A, cap, rfl, hc1, hc2, (hr.below hbel).more hbel.size, fun g off hg hne => ?_⟩, hR, hI, hO, hbel⟩
      obtain ⟨b0, o0, e0, hb0, _⟩ := hr (by rw [List.length_map]; omega)
      rw [hg] at e0
      injection e0 with e0
      injection e0 with e0
      left; omega
  case rest =>
    clear hR hI hO hbel
    obtain ⟨⟨A0, cap0, rfl, hc01, hc02, hr0, hap⟩, hR, hI, hO, hbel⟩ := hcut
    have hkl64 := keyL_length key
    have hlO := hO.lt
    have ec := copied_arr 64 (fun _ => 0) 0 (keyL key) 64 (by show 0 + min (keyL key).length 64 ≤ 64; omega)
    have hfit : 0 + Nat.min (keyL key).length 64 ≤ (arr 64 (fun _ => (0 : UInt8))).size := by rw [arr_size]; show 0 + min (keyL key).length 64 ≤ 64; omega
    have Hec := Lib.hid ec
    have Hap := Lib.hid hap
    have Hfit := Lib.hid hfit
    clear ec hap hfit
    have hr1 : ∀ w2, wc.grownBy w2 (some (w.heap.size + 1)) → Reads w2 wc.heap.size A0 ((keyL key).map v8) := by
      intro w2 h2
      by_cases h0 : (keyL key).length = 0
      · have := List.eq_nil_of_length_eq_zero h0
        rw [this]; exact Reads.nil_
      · exact hr0.grown' h2 (Nat.le_refl _) (fun b off hb => by have := Hap.out b off hb h0; omega)
    have Hr1 := Lib.hid hr1
    clear hr1
    go_wp2_with (first
      | (refine wpList_copyR rfl (.tmp 16) (.tmp 17) _ _ rfl 5 Tryd.underlying46 (by kernel_rfl) (w.heap.size + 1) 0 64 64 A0 _ cap0 rfl rfl _ _ hI _ _ hr0 (by rw [List.length_map]) Hfit.out (oneCell_v8 _) ?_; intro w2 hI2 hon2)
      | (refine wpList_copyR rfl (.tmp 19) (.tmp 20) _ _ rfl 5 Tryd.underlying46 (by kernel_rfl) (w.heap.size + 2) 0 64 64 A0 _ cap0 rfl rfl _ _ (hO.grown hon2 (by simp)) _ _ (Hr1.out _ hon2) (by rw [List.length_map]) Hfit.out (oneCell_v8 _) ?_; intro w3 hO3 hon3))
    rw [Hec.out, xorB_0 key 54 64 hkl64] at hI2
    rw [Hec.out, xorB_0 key 92 64 hkl64] at hO3
    have hl2 := hon2.size
    have hI3 := hI2.grown hon3 (by simp)
    have hR3 := (hR.grown hon2 (by simp)).grown hon3 (by simp)
    have hbel3 := below_only (below_only hbel hon2 (by omega) hbel.size) hon3 (by omega) (Nat.le_trans hbel.size hl2)
    clear hR hI hO hbel hI2 hon2 hon3 hl2 Hap Hec Hr1 Hfit
    go_loopw [8, 22] (fun _ i wr => ∃ k : Nat, k ≤ 64 ∧ i = .int .i64 k ∧ Blk wr (w.heap.size + 1) 203 (arr 64 (xorB key 54 k)) ∧ Blk wr (w.heap.size + 2) 203 (arr 64 (xorB key 92 k)) ∧ Blk wr w.heap.size 35 (arr 32 fun _ => 0) ∧ Below w.heap.size w wr) (fun _ i _ => 64 - (intOf i).toNat)
    case atStart => exact ⟨0, by omega, rfl, hI3, hO3, hR3, hbel3⟩
    case round =>
      clear hI3 hO3 hR3 hbel3 hlO
      obtain ⟨k, hk, rfl, hI, hO, hR, hbel⟩ := hrel
      by_cases hlt : k < 64
      · have cI := hI.cell k
        rw [arr_at _ _ _ hlt, xorB_at] at cI
        have cO := hO.cell k
        rw [arr_at _ _ _ hlt, xorB_at] at cO
        have fI := hI.frozen k
        have fO := hO.frozen k
        go_wp2
        go_roundw
        case rel =>
          have s1 := hI.set k (v8 ((keyL key).getD k 0 ^^^ 54))
          rw [arr_set, xorB_step] at s1
          have s2 := (hO.far (p := ⟨w.heap.size + 1, k, none⟩) (by show _ ≠ w.heap.size + 1; omega) (v8 ((keyL key).getD k 0 ^^^ 54))).set k (v8 ((keyL key).getD k 0 ^^^ 92))
          rw [arr_set, xorB_step] at s2
          exact ⟨k + 1, by omega, by go_num, s1.far (p := ⟨w.heap.size + 2, k, none⟩) (by show _ ≠ w.heap.size + 2; omega) _, s2,
            (hR.far (p := ⟨w.heap.size + 1, k, none⟩) (by show _ ≠ w.heap.size + 1; omega) _).far (p := ⟨w.heap.size + 2, k, none⟩) (by show _ ≠ w.heap.size + 2; omega) _,
            below_far (p := ⟨w.heap.size + 2, k, none⟩) (below_far (p := ⟨w.heap.size + 1, k, none⟩) hbel (by show _ ≤ w.heap.size + 1; omega) _) (by show _ ≤ w.heap.size + 2; omega) _⟩
        case measure => simp [intOf]; omega
      · have ek : k = 64 := by omega
        rw [ek] at hI hO
        clear ek
        have hlO := hO.lt
        go_wp2_with fail
        have hX := Blk.new wr 46 #[.slice (some ⟨w.heap.size + 1, 0, none⟩) 64 64, .slice Ab b.length capb]
        have hI1 := hI.alloc (Obj.cells #[.slice (some ⟨w.heap.size + 1, 0, none⟩) 64 64, .slice Ab b.length capb] 46)
        have hO1 := hO.alloc (Obj.cells #[.slice (some ⟨w.heap.size + 1, 0, none⟩) 64 64, .slice Ab b.length capb] 46)
        have hR1 := hR.alloc (Obj.cells #[.slice (some ⟨w.heap.size + 1, 0, none⟩) 64 64, .slice Ab b.length capb] 46)
        have hbel1 := hbel.alloc hbel.size (Obj.cells #[.slice (some ⟨w.heap.size + 1, 0, none⟩) 64 64, .slice Ab b.length capb] 46)
        generalize wr.alloc (Obj.cells #[.slice (some ⟨w.heap.size + 1, 0, none⟩) 64 64, .slice Ab b.length capb] 46) = w4 at hX hI1 hO1 hR1 hbel1 ⊢
        have hl4 := hX.lt
        have hS4 : SSl w4 w4.heap.size (.slice (some ⟨wr.heap.size, 0, none⟩) 2 2) [keyX key 54, b] :=
          SSl.two hX _ hX.lt (BSl.of_arr hI1 _ hI1.lt _ (keyX_length _ _) (xorB_all key 54) (by decide)) (hb.next hbel1)
        refine (join_any _ _ _ hS4 (by simp [keyX_length]; omega)).mono ?_
        rintro e w5 ⟨v5, rfl, hown5, hb5⟩
        have hB5 := BSl.of_own hown5
        have hI5 := hI1.below hb5 hI1.lt
        have hO5 := hO1.below hb5 hO1.lt
        have hR5 := hR1.below hb5 hR1.lt
        have hbel5 := hbel1.trans (hb5.mono hbel1.size)
        have hl5 := hb5.size
        clear hI1 hO1 hR1 hbel1 hown5
        go_wp2_with fail
        refine (sum_b _ _ _ hB5 (by simp [keyX_length]; omega) (hG.next hbel5)).mono ?_
        rintro e w6 ⟨rfl, hb6⟩
        have hO6 := hO5.below hb6 hO5.lt
        have hR6 := hR5.below hb6 hR5.lt
        have hbel6 := hbel5.trans (hb6.mono hbel5.size)
        have hl6 := hb6.size
        have hD := Blk.new w6 35 (arr 32 fun _ => 0)
        have hO7 := hO6.alloc (Obj.cells (arr 32 fun _ => 0) 35)
        have hR7 := hR6.alloc (Obj.cells (arr 32 fun _ => 0) 35)
        have hbel7 := hbel6.alloc hbel6.size (Obj.cells (arr 32 fun _ => 0) 35)
        clear hI5 hO5 hR5 hbel5 hO6 hR6 hbel6
        go_wp2_with (first
          | (refine wpList_storeDat rfl rfl 35 (.tmp 9) (.tmp 40) rfl w6.heap.size rfl _ _ rfl _ hD (by kernel_rfl) ?_; intro w8 hD8 hon8))
        have hon8' : (w6.alloc (Obj.cells (arr 32 fun _ => 0) 35)).grownBy w8 (some w6.heap.size) := hon8
        have hO8 := hO7.grown hon8' (by simp; omega)
        have hR8 := hR7.grown hon8' (by simp; omega)
        have hbel8 := below_only hbel7 hon8' (by omega) hbel7.size
        clear hon8 hO7 hR7 hbel7 hD
        refine wp_region_quiet_tail 2 (fun W' => ∃ n, W' = w8.drewN n) (by kernel_rfl) (by kernel_rfl) ⟨1, rfl⟩ ?_
        simp only [List.take_succ_cons, List.take_zero, List.drop_succ_cons, List.drop_zero]
        repeat (go_big_quiet_step (fail))
        refine wpQuiet_nil ?_
        intro W' hW'
        obtain ⟨nq, rfl⟩ := hW'
        have hD9 := hD8.drewN nq
        have hO9 := hO8.drewN nq
        have hR9 := hR8.drewN nq
        have hbel9 := below_drewN hbel8 nq
        generalize w8.drewN nq = w9 at hD9 hO9 hR9 hbel9 ⊢
        clear hD8 hO8 hR8 hbel8
        go_wp2_with fail
        have hX := Blk.new w9 46 #[.slice (some ⟨w.heap.size + 2, 0, none⟩) 64 64, .slice (some ⟨w6.heap.size, 0, none⟩) 32 32]
        have hD1 := hD9.alloc (Obj.cells #[.slice (some ⟨w.heap.size + 2, 0, none⟩) 64 64, .slice (some ⟨w6.heap.size, 0, none⟩) 32 32] 46)
        have hO1 := hO9.alloc (Obj.cells #[.slice (some ⟨w.heap.size + 2, 0, none⟩) 64 64, .slice (some ⟨w6.heap.size, 0, none⟩) 32 32] 46)
        have hR1 := hR9.alloc (Obj.cells #[.slice (some ⟨w.heap.size + 2, 0, none⟩) 64 64, .slice (some ⟨w6.heap.size, 0, none⟩) 32 32] 46)
        have hbel1 := hbel9.alloc hbel9.size (Obj.cells #[.slice (some ⟨w.heap.size + 2, 0, none⟩) 64 64, .slice (some ⟨w6.heap.size, 0, none⟩) 32 32] 46)
        have hS4 : SSl (w9.alloc (Obj.cells #[.slice (some ⟨w.heap.size + 2, 0, none⟩) 64 64, .slice (some ⟨w6.heap.size, 0, none⟩) 32 32] 46)) _ (.slice (some ⟨w9.heap.size, 0, none⟩) 2 2) [keyX key 92, sha (keyX key 54 ++ b)] :=
          SSl.two hX _ hX.lt (BSl.of_arr hO1 _ hO1.lt _ (keyX_length _ _) (xorB_all key 92) (by decide)) (BSl.of_dat hD1 _ hD1.lt (sha_length _))
        have hfl : ([keyX key 92, sha (keyX key 54 ++ b)].flatten).length = 96 := by
          generalize hq : sha (keyX key 54 ++ b) = q
          have hq2 : q.length = 32 := by rw [← hq]; exact sha_length _
          simp [keyX_length, hq2]
        have Hfl := Lib.hid hfl
        clear hfl
        refine (join_any _ _ _ hS4 (by rw [Hfl.out]; omega)).mono ?_
        rintro e w10 ⟨v10, rfl, hown10, hb10⟩
        have hB10 := BSl.of_own hown10
        have hR10 := hR1.below hb10 hR1.lt
        have hbel10 := hbel1.trans (hb10.mono hbel1.size)
        have hl10 := hb10.size
        clear hown10 hD1 hO1 hR1 hbel1
        go_wp2_with fail
        refine (sum_b _ _ _ hB10 (by rw [Hfl.out]; omega) (hG.next hbel10)).mono ?_
        rintro e w11 ⟨rfl, hb11⟩
        have hR11 := hR10.below hb11 hR10.lt
        have hbel11 := hbel10.trans (hb11.mono hbel10.size)
        go_wp2_with (first
          | (refine wpList_storeDat rfl rfl 35 (.tmp 4) (.tmp 45) rfl w.heap.size rfl _ _ rfl _ hR11 (by kernel_rfl) ?_; intro w12 hR12 hon12))
        have hb12 := below_only hbel11 hon12 (Nat.le_refl _) hbel11.size
        refine bodyPost_ret (results_cell_row (p := 4) (ty := 35) rfl _ _ w.heap.size _ _ _ _ rfl hR12 Tryd.underlying35 rfl (by kernel_rfl)) rfl ⟨?_, hb12⟩
        simp [mac]
end Go.Proofs.YtcgbokgedfekkaaDoor

/- The walk of the reference's Mac. No condition. -/
namespace Go.Proofs.YtcgbokgedfekkaaDoor
open Go.RowKit
/-- the first i bytes of the key, turned -/
@[irreducible] def xorL (P : List UInt8) (c : UInt8) (i : Nat) : List UInt8 := (List.range i).map fun p => P.getD p 0 ^^^ c
theorem xorL_succ (P : List UInt8) (c : UInt8) (i : Nat) : (xorL P c (i + 1)).map v8 = (xorL P c i).map v8 ++ [v8 (P.getD i 0 ^^^ c)] := by
  unfold xorL; rw [List.range_succ, List.map_append, List.map_append]; rfl
theorem xorL_len (P : List UInt8) (c : UInt8) (i : Nat) : (xorL P c i).length = i := by simp [xorL]
theorem keyL_len (key : List UInt8) : (keyL key).length ≤ 64 := by
  unfold keyL; split
  · rw [sha_length]; decide
  · omega
theorem getD_zerosB (l : List UInt8) (n p : Nat) : (l ++ List.replicate n 0).getD p 0 = l.getD p 0 := by
  rw [List.getD_eq_getElem?_getD, List.getD_eq_getElem?_getD]
  by_cases hp : p < l.length
  · rw [List.getElem?_append_left hp]
  · rw [List.getElem?_append_right (by omega), List.getElem?_eq_none (l := l) (by omega), List.getElem?_replicate]; split <;> rfl
attribute [local go_sem] n64_lo n64_hi n8_lo n8_hi xor8_54 xor8_92
set_option maxHeartbeats 1000000 in
set_option maxRecDepth 100000 in
theorem rmac_any (t uk ub : Value) (key b : List UInt8) (w : World) (ht : Tbl w w.heap.size t) (hk : BSl w w.heap.size uk key) (hb : BSl w w.heap.size ub b) (hkl : key.length ≤ 140737488355128) (hbl : b.length ≤ 140737488355128) :
    Calls Tryd.prog 101 #[t, uk, ub] w fun e w' => e = .returned (.agg (dat (mac key b))) ∧ Below w.heap.size w w' := by
  obtain ⟨gt, rfl, hgt, hT⟩ := ht
  obtain ⟨A, cap, rfl, hc1, hc2, hr⟩ := hk
  have hb0 := hb
  obtain ⟨Ab, capb, rfl, hd1, hd2, hrb⟩ := hb
  go_enter Tryd.func101, Tryd.ntmps101
  have hR0 := Blk.new w 35 (arr 32 fun _ => 0)
  have hw0 := below_new1 w (Obj.cells (arr 32 fun _ => 0) 35)
  have hz : (w.alloc (Obj.cells (arr 32 fun _ => 0) 35)).heap.size = w.heap.size + 1 := by simp
  go_upto_if 18 with (first
    | (refine wpl_at (w := w.alloc (Obj.cells _ 35)) (fun W => Blk W w.heap.size 35 (arr 32 fun _ => 0) ∧ Below w.heap.size w W ∧ W.heap.size = w.heap.size + 1) ⟨hR0, hw0, hz⟩ ?_; clear hR0 hw0 hz; rintro w0 ⟨hR0, hw0, hz⟩; have hr0 := hr.below hw0; have hn1 : Below (w.heap.size + 1) w0 (w0.alloc (Obj.cells #[] 5)) := (by have := below_new1 w0 (Obj.cells #[] 5); rw [hz] at this; exact this); have hoe : (w0.alloc (Obj.cells #[] 5)).ownsRow (w.heap.size + 1) 5 1 (.slice (some ⟨w.heap.size + 1, 0, none⟩) 0 0) (([] : List UInt8).map v8).length (([] : List UInt8).map v8) := (by have := own_emptyB w0 w0.heap.size (Nat.le_refl _); rw [hz] at this; exact this))
    | (at_builtin; refine wpList_appendS rfl (.tmp 13) (.tmp 14) rfl (w.heap.size + 1) _ [] key rfl hoe _ A _ _ rfl rfl (hr0.below (hn1.mono (by omega))) (by simp; omega) (by have := hn1.size; omega) w0 hn1 ?_; intro u1 w1 hown1 hb1; simp only [List.nil_append] at hown1; obtain ⟨A1, cap1, hu1e, hf1, hf2, hrd1⟩ := Reads.own hown1; rw [List.length_map] at hu1e hf1; subst hu1e))
  go_cut [7] (fun v wx => ∃ A2 c2, v = .slice A2 (keyL key).length c2 ∧ (keyL key).length ≤ c2 ∧ c2 ≤ 9223372036854775807 ∧ wx.ownsRow (w.heap.size + 1) 5 1 v ((keyL key).map v8).length ((keyL key).map v8) ∧ Below (w.heap.size + 1) w0 wx)
  case first =>
    by_cases hlong : 64 < key.length
    · have hbel1 : Below w.heap.size w w1 := hw0.trans (hb1.mono (by omega))
      have hT1 : Tbl w1 w1.heap.size (.pointer (some ⟨gt, 0, none⟩)) := ⟨gt, rfl, Nat.lt_of_lt_of_le hgt hbel1.size, hT.below hbel1 hgt⟩
      have hkl1 : keyL key = sha key := if_pos hlong
      have Hk := Lib.hid hkl1
      have hshaL := Lib.hid (sha_length key)
      go_wp2_with fail
      refine (rsum_any _ _ key w1 hT1 ⟨A1, cap1, rfl, hf1, hf2, hrd1⟩ (by omega)).mono ?_
      rintro e w2 ⟨rfl, hb2⟩
      have hb2' : Below (w.heap.size + 1) w0 w2 := hb1.trans (hb2.mono (by have := hb1.size; omega))
      have hD := Blk.new w2 35 (arr 32 fun _ => 0)
      have hz2 : w.heap.size + 1 ≤ w2.heap.size := by have := hb2'.size; omega
      have hb3 := hb2'.alloc hz2 (Obj.cells (arr 32 fun _ => 0) 35)
      have hz3 : w.heap.size + 1 ≤ (w2.alloc (Obj.cells (arr 32 fun _ => 0) 35)).heap.size := Nat.le_trans hz2 (below_new1 w2 _).size
      go_wp2_with (first
        | (refine wpList_storeDat rfl rfl 35 (.tmp 8) (.tmp 21) rfl w2.heap.size rfl _ _ rfl _ hD (by kernel_rfl) ?_; intro w4 hD4 hon4; have hb4 := below_only hb3 hon4 hz2 hz3; have hz4 : w.heap.size + 1 ≤ w4.heap.size := (by have := hb4.size; omega); have hrd4 : Reads w4 w4.heap.size (some ⟨w2.heap.size, 0, none⟩) ((sha key).map v8) := (by have h9 := Reads.of_blk hD4 hD4.lt 0; rw [dat_eq _ hshaL.out] at h9; exact h9); have hoe4 := own_emptyB w4 (w.heap.size + 1) hz4; have hb5 := hb4.alloc hz4 (Obj.cells #[] 5))
        | (at_builtin; refine wpList_appendS rfl (.tmp 22) (.tmp 23) rfl (w.heap.size + 1) _ [] (sha key) rfl hoe4 _ _ _ _ rfl hshaL.out (hrd4.below (below_new1 w4 _)) (by rw [hshaL.out]; simp) (by have := hb5.size; omega) w0 hb5 ?_; intro u6 w6 hown6 hb6; simp only [List.nil_append] at hown6; obtain ⟨A6, c6, hu6, hf6, hf7, hrd6⟩ := Reads.own hown6; rw [List.length_map] at hu6 hf6; subst hu6))
      go_meet
      rw [Hk.out]
      exact ⟨A6, c6, rfl, hf6, hf7, hown6, hb6⟩
    · have hkl1 : keyL key = key := if_neg hlong
      have Hk := Lib.hid hkl1
      clear hkl1
      go_wp2_with fail
      go_meet
      rw [Hk.out]
      exact ⟨A1, cap1, rfl, hf1, hf2, hown1, hb1⟩
  case rest =>
    obtain ⟨A2, c2, rfl, hf1', hf2', hown, hbc⟩ := hcut
    have hkL := keyL_len key
    have Hmac := Lib.hid (show mac key b = sha (((List.range 64).map fun p => (keyL key).getD p 0 ^^^ 92) ++ sha (((List.range 64).map fun p => (keyL key).getD p 0 ^^^ 54) ++ b)) from rfl)
    generalize keyL key = kl at *
    clear hown1 hb1 hrd1 hf1 hf2 hoe hn1
    go_wp2_with fail
    go_loopw [7] (fun v wr => ∃ k : Nat, kl.length + k ≤ 64 ∧ lenOf v = kl.length + k ∧ wr.ownsRow (w.heap.size + 1) 5 1 v ((kl ++ List.replicate k 0).map v8).length ((kl ++ List.replicate k 0).map v8) ∧ Below (w.heap.size + 1) w0 wr) (fun v _ => 64 - lenOf v)
    case atStart => exact ⟨0, by omega, rfl, by simpa using hown, hbc⟩
    case round =>
      clear hown hbc hf1' hf2'
      obtain ⟨k, hk, hlen, hown, hb⟩ := hrel
      obtain ⟨A7, c7, rfl, hg1, hg2, hrd⟩ := Reads.own hown
      have hml : ((kl ++ List.replicate k (0 : UInt8)).map v8).length = kl.length + k := by simp
      have hbs : w.heap.size + 1 ≤ wr.heap.size := by have := hb.size; omega
      have hown' : wr.ownsRow (w.heap.size + 1) 5 1 (.slice A7 (kl.length + k) c7) ((kl ++ List.replicate k 0).map v8).length ((kl ++ List.replicate k 0).map v8) := by rw [hml] at hown ⊢; exact hown
      have hlen1 := Lib.hid (show ((kl ++ List.replicate k (0 : UInt8)).map v8).length + 1 ≤ 140737488355328 by rw [hml]; omega)
      rw [hml]
      clear hlen hown
      by_cases hlt : kl.length + k < 64
      · clear hrd hg1
        go_wp2_with (first
          | (at_builtin; refine wpList_append1 rfl (.tmp 28) (.tmp 29) rfl (w.heap.size + 1) _ _ rfl hown' (v8 0) rfl rfl hlen1.out hbs w0 hb ?_; intro u3 w3 hown3 hb3))
        go_roundw
        case rel =>
          obtain ⟨A3, c3, rfl, _⟩ := Reads.own hown3
          refine ⟨k + 1, by omega, ?_, ?_, hb3⟩
          · simp only [lenOf, List.length_append, hml]; simp; omega
          · rw [show (kl ++ List.replicate (k + 1) (0 : UInt8)).map v8 = (kl ++ List.replicate k 0).map v8 ++ [v8 0] by rw [List.replicate_succ', ← List.append_assoc, List.map_append]; rfl]; exact hown3
        case measure =>
          obtain ⟨A3, c3, rfl, _⟩ := Reads.own hown3
          simp only [lenOf, List.length_append, hml]
          show 64 - (kl.length + k + 1) < 64 - (kl.length + k)
          omega
      · have e64 : kl.length + k = 64 := by omega
        have hgetD := getD_zerosB kl k
        generalize kl ++ List.replicate k 0 = P at *
        rw [e64] at hown' hml ⊢
        go_wp2_with fail
        obtain ⟨b7, o7, rfl, _, _⟩ := hrd (by rw [hml]; decide)
        have hPl : P.length = 64 := by rw [← hml, List.length_map]
        clear hrd hg1 hlen1
        go_loopw [9, 10, 11] (fun v9 v10 iv wr => ∃ i : Nat, i ≤ 64 ∧ iv = .int .i64 i ∧ wr.ownsRow (w.heap.size + 1) 5 1 (.slice (some ⟨b7, o7, none⟩) 64 c7) (P.map v8).length (P.map v8) ∧ wr.ownsRow (w.heap.size + 1) 5 1 v9 ((xorL P 54 i).map v8).length ((xorL P 54 i).map v8) ∧ wr.ownsRow (w.heap.size + 1) 5 1 v10 ((xorL P 92 i).map v8).length ((xorL P 92 i).map v8) ∧ Apart v9 (.slice (some ⟨b7, o7, none⟩) 64 c7) ∧ Apart v10 (.slice (some ⟨b7, o7, none⟩) 64 c7) ∧ Apart v9 v10 ∧ Below (w.heap.size + 1) w0 wr) (fun _ _ iv _ => 64 - (intOf iv).toNat)
        case atStart => exact ⟨0, by omega, rfl, hown', (by rw [show xorL P 54 0 = [] by unfold xorL; rfl]; exact own_none _ _ _), (by rw [show xorL P 92 0 = [] by unfold xorL; rfl]; exact own_none _ _ _), (fun g h => by cases h), (fun g h => by cases h), (fun g h => by cases h), hb⟩
        case round =>
          clear hown' hb hbs
          obtain ⟨i, hi, rfl, own7, own9, own10, ap97, ap107, ap910, hb⟩ := hrel
          have hbs : w.heap.size + 1 ≤ wr.heap.size := by have := hb.size; omega
          by_cases hlt : i < 64
          · have hPi : (P.map v8)[i]? = some (.int .u8 (n8 (P.getD i 0))) := by rw [List.getElem?_map, List.getD_eq_getElem?_getD, List.getElem?_eq_getElem (by omega)]; rfl
            have hc7 := own_cell own7 i _ hPi
            have hl9 := Lib.hid (show ((xorL P 54 i).map v8).length + 1 ≤ 140737488355328 by rw [List.length_map, xorL_len]; omega)
            have hl10 := Lib.hid (show ((xorL P 92 i).map v8).length + 1 ≤ 140737488355328 by rw [List.length_map, xorL_len]; omega)
            have hs9 := Lib.hid (xorL_succ P 54 i)
            have hs10 := Lib.hid (xorL_succ P 92 i)
            generalize P.getD i 0 = pb at *
            have HPi := Lib.hid hPi
            clear hPi
            have H7 := Lib.hid own7
            have H9 := Lib.hid own9
            have H10 := Lib.hid own10
            clear own7 own9 own10
            go_wp2_with (first
              | (at_builtin; refine wpList_append1D rfl (.tmp 35) (.tmp 41) rfl (w.heap.size + 1) _ _ rfl H9.out _ rfl rfl hl9.out hbs w0 hb ?_; intro u3 w3 hown3 hb3 hoth3; have h73 := hoth3 _ _ _ H7.out ap97; have h103 := hoth3 _ _ _ H10.out ap910; have hc73 := own_cell h73.1 i _ HPi.out; have hbs3 : w.heap.size + 1 ≤ w3.heap.size := (by have := hb3.size; omega))
              | (at_builtin; refine wpList_append1D rfl (.tmp 43) (.tmp 49) rfl (w.heap.size + 1) _ _ rfl h103.1 _ rfl rfl hl10.out hbs3 w0 hb3 ?_; intro u4 w4 hown4 hb4 hoth4; have h74 := hoth4 _ _ _ h73.1 ap107; have h94 := hoth4 _ _ _ hown3 h103.2.symm))
            go_roundw
            case rel =>
              refine ⟨i + 1, by omega, by go_num, h74.1, ?_, ?_, h73.2, h74.2, h94.2.symm, hb4⟩
              · rw [hs9.out]; exact h94.1
              · rw [hs10.out]; exact hown4
            case measure => simp [intOf]; omega
          · have ei : i = 64 := by omega
            subst ei
            have hx54 : xorL P 54 64 = (List.range 64).map fun p => kl.getD p 0 ^^^ 54 := by unfold xorL; simp only [hgetD]
            have hx92 : xorL P 92 64 = (List.range 64).map fun p => kl.getD p 0 ^^^ 92 := by unfold xorL; simp only [hgetD]
            have H1 := Hmac.out
            rw [← hx54, ← hx92] at H1
            have Hm := Lib.hid H1
            have hl54 := xorL_len P 54 64
            have hl92 := xorL_len P 92 64
            generalize xorL P 54 64 = X54 at *
            generalize xorL P 92 64 = X92 at *
            clear hx54 hx92 H1 Hmac own7 ap97 ap107
            have hbw : Below w.heap.size w wr := hw0.trans (hb.mono (by omega))
            have hrb2 := hrb.below hbw
            have H9 := Lib.hid own9
            clear own9
            go_wp2_with (first
              | (at_builtin; refine wpList_appendSD rfl (.tmp 52) (.tmp 53) rfl (w.heap.size + 1) _ X54 b rfl H9.out _ Ab _ _ rfl rfl hrb2 (by omega) hbs w0 hb ?_; intro u3 w3 hown3 hb3 hoth3; have h103 := hoth3 _ _ _ own10 ap910))
            have hbw3 : Below w.heap.size w w3 := hw0.trans (hb3.mono (by omega))
            have hz3 : w.heap.size + 1 ≤ w3.heap.size := by have := hb3.size; omega
            have hBL3 := BSl.of_own hown3
            have hl3 : (X54 ++ b).length ≤ 140737488355200 := by rw [List.length_append]; omega
            have hT3 : Tbl w3 w3.heap.size (.pointer (some ⟨gt, 0, none⟩)) := ⟨gt, rfl, Nat.lt_of_lt_of_le hgt hbw3.size, hT.below hbw3 hgt⟩
            generalize X54 ++ b = Y at *
            have hsY := Lib.hid (sha_length Y)
            refine (rsum_any _ _ Y w3 hT3 hBL3 hl3).mono ?_
            rintro e w4 ⟨rfl, hb4⟩
            have hb4' := hb3.trans (hb4.mono hz3)
            have hz4 : w.heap.size + 1 ≤ w4.heap.size := by have := hb4'.size; omega
            have h104 := own_below h103.1 hb4
            have hD := Blk.new w4 35 (arr 32 fun _ => 0)
            have hb5 := hb4'.alloc hz4 (Obj.cells (arr 32 fun _ => 0) 35)
            have hz5 : w.heap.size + 1 ≤ (w4.alloc (Obj.cells (arr 32 fun _ => 0) 35)).heap.size := Nat.le_trans hz4 (below_new1 w4 _).size
            have h105 := own_below h104 (below_new1 w4 (Obj.cells (arr 32 fun _ => 0) 35))
            have hlt10 := own_lt h104
            go_wp2_with (first
              | (refine wpList_storeDat rfl rfl 35 (.tmp 12) (.tmp 55) rfl w4.heap.size rfl _ _ rfl _ hD (by kernel_rfl) ?_; intro w6 hD6 hon6; have hb6 := below_only hb5 hon6 hz4 hz5; have hz6 : w.heap.size + 1 ≤ w6.heap.size := (by have := hb6.size; omega); have hrd6 : Reads w6 w6.heap.size (some ⟨w4.heap.size, 0, none⟩) ((sha Y).map v8) := (by have h9 := Reads.of_blk hD6 hD6.lt 0; rw [dat_eq _ hsY.out] at h9; exact h9); have h106 := own_grown h105 hon6 (fun g hg e => by have := hlt10 g hg; injection e with e; omega))
              | (at_builtin; refine wpList_appendS rfl (.tmp 57) (.tmp 58) rfl (w.heap.size + 1) _ X92 (sha Y) rfl h106 _ _ _ _ rfl hsY.out hrd6 (by rw [hsY.out]; omega) hz6 w0 hb6 ?_; intro u7 w7 hown7 hb7))
            have hbw7 : Below w.heap.size w w7 := hw0.trans (hb7.mono (by omega))
            have hz7 : w.heap.size + 1 ≤ w7.heap.size := by have := hb7.size; omega
            have hBL7 := BSl.of_own hown7
            have hl7 : (X92 ++ sha Y).length ≤ 140737488355200 := by rw [List.length_append, hsY.out]; omega
            have hT7 : Tbl w7 w7.heap.size (.pointer (some ⟨gt, 0, none⟩)) := ⟨gt, rfl, Nat.lt_of_lt_of_le hgt hbw7.size, hT.below hbw7 hgt⟩
            have hR7 := hR0.below hb7 (by omega)
            refine (rsum_any _ _ _ w7 hT7 hBL7 hl7).mono ?_
            rintro e w8 ⟨rfl, hb8⟩
            have hR8 := hR7.below hb8 hR7.lt
            have hbw8 := hbw7.trans (hb8.mono hbw7.size)
            go_wp2_with (first
              | (refine wpList_storeDat rfl rfl 35 (.tmp 6) (.tmp 60) rfl w.heap.size rfl _ _ rfl _ hR8 (by kernel_rfl) ?_; intro w9 hR9 hon9))
            have hb9 := below_only hbw8 hon9 (Nat.le_refl _) hbw8.size
            refine bodyPost_ret (results_cell_row (p := 6) (ty := 35) rfl _ _ w.heap.size _ _ _ _ rfl hR9 Tryd.underlying35 rfl (by kernel_rfl)) rfl ⟨?_, hb9⟩
            rw [Hm.out]
end Go.Proofs.YtcgbokgedfekkaaDoor
