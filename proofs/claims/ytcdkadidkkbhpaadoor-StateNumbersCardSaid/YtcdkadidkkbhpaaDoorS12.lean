/- Texts that stand behind one another: RefGa, ShaE, RefG, Cut, Const. No condition. -/
import Derived.Test.YtcdkadidkkbhpaaDoorS11
import Derived.Test.YtcdkadidkkbhpaaDoorS8
import Derived.Deep.DeepCutAuto
import Derived.Test.YtcdkadidkkbhpaaDoorS2
import Derived.Lib.SlBytesConst
/- Rows of the call's own: append of bytes; rows that are apart. No condition. -/
namespace Go.Proofs.YtcdkadidkkbhpaaDoor
open Go.RowKit
/-- append of one byte, out of a slice literal, onto a row of the call's own -/
theorem wpList_append1 {wr : World} {ops : Array Oper} {rest : List Oper} {o : Oper} {a : Act} {Q : Exit → Act → World → Prop} (hgd : o.guard = none) (s x : Operand)
    (ho : o.op = .call { callee := .builtin .append, args := #[s, x], argTypes := #[23, 23] })
    (base : Nat) (v : Value) (xs : List Value) (hs : a.eval s = v) (hown : wr.ownsRow base 5 1 v xs.length xs) (u : Value) (hu : u.oneCell' = true)
    (hx : a.eval x = .slice (some ⟨wr.heap.size, 0, none⟩) 1 1) (hlen : xs.length + 1 ≤ 140737488355328) (hbase : base ≤ wr.heap.size) (w0 : World) (hbel : Below base w0 wr)
    (h : ∀ v' w', w'.ownsRow base 5 1 v' (xs ++ [u]).length (xs ++ [u]) → Below base w0 w' → wpList Tryd.prog ops Q rest (a.put o.dst v') w') :
    wpList Tryd.prog ops Q (o :: rest) a (wr.alloc (Obj.cells #[u] 5)) := by
  obtain ⟨i0, hi, hz0, hz1, hz2⟩ := info_parts (by kernel_rfl : (Tryd.prog.info? 5).map (fun i => (i.zero, i.size, i.bytes)) = some (some (.int .u8 0), 1, 1))
  have hbt : base ≤ (wr.alloc (Obj.cells #[u] 5)).heap.size := Nat.le_trans hbase (below_new1 wr _).size
  refine wpList_appendR hgd s x _ ho base 5 i0 _ 1 Tryd.underlying23 hi hz0 hz1 hz2 rfl v xs hs (own_below hown (below_new1 wr _)) (wr.heap.size + 1) (some ⟨wr.heap.size, 0, none⟩) 1 1 [u] hx (show Reads (wr.alloc (Obj.cells #[u] 5)) (wr.heap.size + 1) (some ⟨wr.heap.size, 0, none⟩) [u] from Reads.of_blk (Blk.new wr 5 #[u]) (by omega) 0) rfl (fun u' hu' => by rw [List.mem_singleton] at hu'; subst hu'; exact hu) (by unfold maxLen; omega) (by omega) hbt ?_
  intro v' w' hown' hg hat
  exact h v' w' hown' (below_own (hbel.trans ((below_new1 wr _).mono hbase)) (own_below hown (below_new1 wr _)) hg hbt)
theorem own_grown {w w' : World} {base : Nat} {e : TypeId} {size n : Nat} {v : Value} {xs : List Value} {row : Option Nat} (h : w.ownsRow base e size v n xs) (hg : w.grownBy w' row) (hne : ∀ g, v.ownBlock = some g → row ≠ some g) : w'.ownsRow base e size v n xs := by
  refine ⟨h.1, ?_⟩
  rcases h.2 with h0 | ⟨g, cap, cur, hv, hbs, hh, hrest⟩
  · exact .inl h0
  · exact .inr ⟨g, cap, cur, hv, hbs, Blk.grown (show Blk w g e cur from hh) hg (hne g (by rw [hv]; rfl)).symm, hrest⟩
theorem own_lt {w : World} {base : Nat} {e : TypeId} {size n : Nat} {v : Value} {xs : List Value} (h : w.ownsRow base e size v n xs) : ∀ g, v.ownBlock = some g → g < w.heap.size := by
  intro g hg
  rcases h.2 with ⟨rfl, _⟩ | ⟨g', cap, cur, hv, hbs, hh, hrest⟩
  · cases hg
  · rw [hv] at hg; cases hg; exact Blk.lt (show Blk w g' e cur from hh)
/-- two rows lie apart -/
def Apart (u v : Value) : Prop := ∀ g, u.ownBlock = some g → v.ownBlock ≠ some g
theorem Apart.symm {u v : Value} (h : Apart u v) : Apart v u := fun g h1 h2 => h g h2 h1
theorem own_cell {w : World} {base g off n cap m : Nat} {e : TypeId} {xs : List Value} (h : w.ownsRow base e 1 (.slice (some ⟨g, off, none⟩) n cap) m xs) (j : Nat) (u : Value) (hj : xs[j]? = some u) : w.cell? ⟨g, off + j, none⟩ = some u := by
  obtain ⟨A, c, he, _, _, hr⟩ := Reads.own h
  injection he with he _ _
  subst he
  obtain ⟨b, o, he2, _, hc⟩ := hr (by cases xs with | nil => simp at hj | cons a l => simp)
  injection he2 with he2
  injection he2 with e1 e2 _
  subst e1; subst e2
  exact hc j u hj
/-- append of one byte, with what it leaves of the other rows -/
theorem wpList_append1D {wr : World} {ops : Array Oper} {rest : List Oper} {o : Oper} {a : Act} {Q : Exit → Act → World → Prop} (hgd : o.guard = none) (s x : Operand)
    (ho : o.op = .call { callee := .builtin .append, args := #[s, x], argTypes := #[23, 23] })
    (base : Nat) (v : Value) (xs : List Value) (hs : a.eval s = v) (hown : wr.ownsRow base 5 1 v xs.length xs) (u : Value) (hu : u.oneCell' = true)
    (hx : a.eval x = .slice (some ⟨wr.heap.size, 0, none⟩) 1 1) (hlen : xs.length + 1 ≤ 140737488355328) (hbase : base ≤ wr.heap.size) (w0 : World) (hbel : Below base w0 wr)
    (h : ∀ v' w', w'.ownsRow base 5 1 v' (xs ++ [u]).length (xs ++ [u]) → Below base w0 w' → (∀ v2 n2 ys, wr.ownsRow base 5 1 v2 n2 ys → Apart v v2 → w'.ownsRow base 5 1 v2 n2 ys ∧ Apart v' v2) → wpList Tryd.prog ops Q rest (a.put o.dst v') w') :
    wpList Tryd.prog ops Q (o :: rest) a (wr.alloc (Obj.cells #[u] 5)) := by
  obtain ⟨i0, hi, hz0, hz1, hz2⟩ := info_parts (by kernel_rfl : (Tryd.prog.info? 5).map (fun i => (i.zero, i.size, i.bytes)) = some (some (.int .u8 0), 1, 1))
  have hbt : base ≤ (wr.alloc (Obj.cells #[u] 5)).heap.size := Nat.le_trans hbase (below_new1 wr _).size
  refine wpList_appendR hgd s x _ ho base 5 i0 _ 1 Tryd.underlying23 hi hz0 hz1 hz2 rfl v xs hs (own_below hown (below_new1 wr _)) (wr.heap.size + 1) (some ⟨wr.heap.size, 0, none⟩) 1 1 [u] hx (show Reads (wr.alloc (Obj.cells #[u] 5)) (wr.heap.size + 1) (some ⟨wr.heap.size, 0, none⟩) [u] from Reads.of_blk (Blk.new wr 5 #[u]) (by omega) 0) rfl (fun u' hu' => by rw [List.mem_singleton] at hu'; subst hu'; exact hu) (by unfold maxLen; omega) (by omega) hbt ?_
  intro v' w' hown' hg hat
  refine h v' w' hown' (below_own (hbel.trans ((below_new1 wr _).mono hbase)) (own_below hown (below_new1 wr _)) hg hbt) ?_
  intro v2 n2 ys h2 hap
  refine ⟨own_grown (own_below h2 (below_new1 wr _)) hg (fun g hg2 hg1 => hap g hg1 hg2), fun g hg1 hg2 => ?_⟩
  rcases hat with hat | hat
  · exact hap g (by rw [← hat]; exact hg1) hg2
  · have := own_lt h2 g hg2
    rw [hat] at hg1
    injection hg1 with hg1
    have hs2 : (wr.alloc (Obj.cells #[u] 5)).heap.size = wr.heap.size + 1 := by simp
    omega
/-- append of a slice that is read, onto a row of the call's own -/
theorem wpList_appendS {wr : World} {ops : Array Oper} {rest : List Oper} {o : Oper} {a : Act} {Q : Exit → Act → World → Prop} (hgd : o.guard = none) (s x : Operand)
    (ho : o.op = .call { callee := .builtin .append, args := #[s, x], argTypes := #[23, 23] })
    (base : Nat) (v : Value) (xs bs : List UInt8) (hs : a.eval s = v) (hown : wr.ownsRow base 5 1 v (xs.map v8).length (xs.map v8))
    (B : Nat) (A : Option Addr) (m c : Nat) (hx : a.eval x = .slice A m c) (hm : bs.length = m) (hr : Reads wr B A (bs.map v8)) (hlen : xs.length + bs.length ≤ 140737488355328) (hbase : base ≤ wr.heap.size) (w0 : World) (hbel : Below base w0 wr)
    (h : ∀ v' w', w'.ownsRow base 5 1 v' ((xs ++ bs).map v8).length ((xs ++ bs).map v8) → Below base w0 w' → wpList Tryd.prog ops Q rest (a.put o.dst v') w') :
    wpList Tryd.prog ops Q (o :: rest) a wr := by
  obtain ⟨i0, hi, hz0, hz1, hz2⟩ := info_parts (by kernel_rfl : (Tryd.prog.info? 5).map (fun i => (i.zero, i.size, i.bytes)) = some (some (.int .u8 0), 1, 1))
  refine wpList_appendR hgd s x _ ho base 5 i0 _ 1 Tryd.underlying23 hi hz0 hz1 hz2 rfl v (xs.map v8) hs hown B A m c (bs.map v8) hx hr (by rw [List.length_map]; exact hm) (oneCell_v8 _) (by unfold maxLen; rw [List.length_map]; omega) (by rw [List.length_map]; omega) hbase ?_
  intro v' w' hown' hg hat
  rw [← List.map_append] at hown'
  exact h v' w' hown' (below_own hbel hown hg hbase)
/-- append of a slice that is read, with what it leaves of the other rows -/
theorem wpList_appendSD {wr : World} {ops : Array Oper} {rest : List Oper} {o : Oper} {a : Act} {Q : Exit → Act → World → Prop} (hgd : o.guard = none) (s x : Operand)
    (ho : o.op = .call { callee := .builtin .append, args := #[s, x], argTypes := #[23, 23] })
    (base : Nat) (v : Value) (xs bs : List UInt8) (hs : a.eval s = v) (hown : wr.ownsRow base 5 1 v (xs.map v8).length (xs.map v8))
    (B : Nat) (A : Option Addr) (m c : Nat) (hx : a.eval x = .slice A m c) (hm : bs.length = m) (hr : Reads wr B A (bs.map v8)) (hlen : xs.length + bs.length ≤ 140737488355328) (hbase : base ≤ wr.heap.size) (w0 : World) (hbel : Below base w0 wr)
    (h : ∀ v' w', w'.ownsRow base 5 1 v' ((xs ++ bs).map v8).length ((xs ++ bs).map v8) → Below base w0 w' → (∀ v2 n2 ys, wr.ownsRow base 5 1 v2 n2 ys → Apart v v2 → w'.ownsRow base 5 1 v2 n2 ys ∧ Apart v' v2) → wpList Tryd.prog ops Q rest (a.put o.dst v') w') :
    wpList Tryd.prog ops Q (o :: rest) a wr := by
  obtain ⟨i0, hi, hz0, hz1, hz2⟩ := info_parts (by kernel_rfl : (Tryd.prog.info? 5).map (fun i => (i.zero, i.size, i.bytes)) = some (some (.int .u8 0), 1, 1))
  refine wpList_appendR hgd s x _ ho base 5 i0 _ 1 Tryd.underlying23 hi hz0 hz1 hz2 rfl v (xs.map v8) hs hown B A m c (bs.map v8) hx hr (by rw [List.length_map]; exact hm) (oneCell_v8 _) (by unfold maxLen; rw [List.length_map]; omega) (by rw [List.length_map]; omega) hbase ?_
  intro v' w' hown' hg hat
  rw [← List.map_append] at hown'
  refine h v' w' hown' (below_own hbel hown hg hbase) fun v2 n2 ys h2 hap => ⟨own_grown h2 hg (fun g hg2 hg1 => hap g hg1 hg2), fun g hg1 hg2 => ?_⟩
  rcases hat with hat | hat
  · exact hap g (by rw [← hat]; exact hg1) hg2
  · have := own_lt h2 g hg2
    rw [hat] at hg1
    injection hg1 with hg1
    omega
theorem own_emptyB (w : World) (base : Nat) (hb : base ≤ w.heap.size) : (w.alloc (.cells #[] 5)).ownsRow base 5 1 (.slice (some ⟨w.heap.size, 0, none⟩) 0 0) (([] : List UInt8).map v8).length (([] : List UInt8).map v8) :=
  own_empty w base 5 hb
theorem own_slice {w : World} {base s n : Nat} {e : TypeId} {v : Value} {xs : List Value} (h : w.ownsRow base e s v n xs) : ∃ A c, v = .slice A n c := by
  rcases h.2 with ⟨rfl, h0⟩ | ⟨g, cap, cur, e, _⟩
  · exact ⟨none, 0, by rw [h0]⟩
  · exact ⟨_, cap, e⟩
theorem own_diff {w : World} {base s n g : Nat} {e t : TypeId} {v : Value} {xs : List Value} {cs : Array Value} (h : w.ownsRow base e s v n xs) (hg : Blk w g t cs) (ht : t ≠ e) : ∀ g', v.ownBlock = some g' → some g ≠ some g' := by
  intro g' h1 h2
  injection h2 with h2
  subst h2
  rcases h.2 with ⟨rfl, _⟩ | ⟨b, cap, cur, rfl, _, hb, _⟩
  · cases h1
  · have e3 : b = g := by injection h1
    subst e3
    unfold Blk at hg
    rw [hg] at hb
    injection hb with hb
    injection hb with _ hb
    exact ht hb
end Go.Proofs.YtcdkadidkkbhpaaDoor

/- The walk of sha's Mac. No condition. -/
namespace Go.Proofs.YtcdkadidkkbhpaaDoor
open Go.RowKit
attribute [local go_sem] n8_lo n8_hi xor8_54 xor8_92
/-- a key of more than 64 bytes is hashed -/
def keyL (key : List UInt8) : List UInt8 := if 64 < key.length then sha key else key
def keyX (key : List UInt8) (c : UInt8) : List UInt8 := (List.range 64).map fun p => (keyL key).getD p 0 ^^^ c
/-- a text's tag by a key -/
def mac (key b : List UInt8) : List UInt8 := sha (keyX key 92 ++ sha (keyX key 54 ++ b))
theorem keyX_length (key : List UInt8) (c : UInt8) : (keyX key c).length = 64 := by simp [keyX]
def xorB (key : List UInt8) (c : UInt8) (k p : Nat) : UInt8 := if p < k then (keyL key).getD p 0 ^^^ c else (keyL key).getD p 0
theorem xorB_step (key : List UInt8) (c : UInt8) (k : Nat) : (fun p => if p = k then (keyL key).getD k 0 ^^^ c else xorB key c k p) = xorB key c (k + 1) := by
  funext p
  unfold xorB
  by_cases h : p = k
  · rw [if_pos h, if_pos (show p < k + 1 by omega), h]
  · rw [if_neg h]
    by_cases h1 : p < k
    · rw [if_pos h1, if_pos (show p < k + 1 by omega)]
    · rw [if_neg h1, if_neg (show ¬ p < k + 1 by omega)]
theorem xorB_at (key : List UInt8) (c : UInt8) (k : Nat) : xorB key c k k = (keyL key).getD k 0 := by unfold xorB; rw [if_neg (Nat.lt_irrefl _)]
theorem xorB_all (key : List UInt8) (c : UInt8) : ∀ p, p < 64 → xorB key c 64 p = (keyX key c).getD p 0 := by
  intro p hp
  unfold xorB keyX
  rw [if_pos hp]; simp [hp]
theorem xorB_0 (key : List UInt8) (c : UInt8) (n : Nat) (h : (keyL key).length ≤ n) : arr n (fun p => if 0 ≤ p ∧ p < 0 + Nat.min (keyL key).length n then (keyL key).getD (p - 0) 0 else 0) = arr n (xorB key c 0) := by
  apply arr_congr
  intro p hp
  unfold xorB
  rw [if_neg (show ¬ p < 0 by omega), show Nat.min (keyL key).length n = (keyL key).length from by show min _ _ = _; omega]
  by_cases h1 : p < (keyL key).length
  · rw [if_pos (show 0 ≤ p ∧ p < 0 + (keyL key).length by omega)]; rfl
  · rw [if_neg (show ¬ (0 ≤ p ∧ p < 0 + (keyL key).length) by omega), List.getD_eq_getElem?_getD, List.getElem?_eq_none (by omega)]; rfl
theorem keyL_length (key : List UInt8) : (keyL key).length ≤ 64 := by
  unfold keyL; split
  · rw [sha_length]; omega
  · omega
theorem mac_length (key b : List UInt8) : (mac key b).length = 32 := sha_length _
set_option maxRecDepth 100000 in
theorem mac_any (u v : Value) (key b : List UInt8) (w : World) (hk : BSl w w.heap.size u key) (hb : BSl w w.heap.size v b) (hkl : key.length ≤ 140737488355264) (hbl : b.length ≤ 140737488355264) (hG : Glob w) :
    Calls Tryd.prog 52 #[u, v] w fun e w' => e = .returned (.agg (dat (mac key b))) ∧ Below w.heap.size w w' := by
  obtain ⟨A, cap, rfl, hc1, hc2, hr⟩ := hk
  obtain ⟨Ab, capb, rfl, hcb1, hcb2, hrb⟩ := hb
  have hb : BSl w w.heap.size (.slice Ab b.length capb) b := ⟨Ab, capb, rfl, hcb1, hcb2, hrb⟩
  clear hcb1 hcb2 hrb
  go_enter Tryd.func52, Tryd.ntmps52
  go_upto_if 12 with fail
  refine wp_at (fun W => Blk W w.heap.size 38 (arr 32 fun _ => 0) ∧ Blk W (w.heap.size + 1) 138 (arr 64 fun _ => 0) ∧ Blk W (w.heap.size + 2) 138 (arr 64 fun _ => 0) ∧ Below w.heap.size w W)
    ⟨((Blk.new w _ _).alloc _).alloc _, (Blk.new2 _ _ _ _).alloc _, Blk.new3 _ _ _ _ _, below_new3 _ _ _ _⟩ ?_
  intro W ⟨hR, hI, hO, hbel⟩
  go_cut [0] (fun s0 wx => (∃ A0 cap0, s0 = .slice A0 (keyL key).length cap0 ∧ (keyL key).length ≤ cap0 ∧ cap0 ≤ 9223372036854775807 ∧ Reads wx wx.heap.size A0 ((keyL key).map v8) ∧ ∀ g off, A0 = some ⟨g, off, none⟩ → (keyL key).length ≠ 0 → g < w.heap.size ∨ w.heap.size + 2 < g) ∧ Blk wx w.heap.size 38 (arr 32 fun _ => 0) ∧ Blk wx (w.heap.size + 1) 138 (arr 64 fun _ => 0) ∧ Blk wx (w.heap.size + 2) 138 (arr 64 fun _ => 0) ∧ Below w.heap.size w wx)
  case first =>
    have hkW : BSl W W.heap.size (.slice A key.length cap) key := BSl.next ⟨A, cap, rfl, hc1, hc2, hr⟩ hbel
    by_cases h64 : 64 < key.length
    · have hkey : keyL key = sha key := if_pos h64
      go_wp2_with fail
      refine (sum_b _ key W hkW (by omega) (hG.next hbel)).mono ?_
      rintro e w1 ⟨rfl, hb1⟩
      have hR1 := hR.below hb1 hR.lt
      have hI1 := hI.below hb1 hI.lt
      have hO1 := hO.below hb1 hO.lt
      have hl1 := hb1.size
      have hl0 := hO.lt
      have hbel1 := hbel.trans (hb1.mono hbel.size)
      have hD := Blk.new w1 38 (arr 32 fun _ => 0)
      have hR2 := hR1.alloc (Obj.cells (arr 32 fun _ => 0) 38)
      have hI2 := hI1.alloc (Obj.cells (arr 32 fun _ => 0) 38)
      have hO2 := hO1.alloc (Obj.cells (arr 32 fun _ => 0) 38)
      have hbel2 := hbel1.alloc hbel1.size (Obj.cells (arr 32 fun _ => 0) 38)
      go_wp2_with (first
        | (refine wpList_storeArr rfl rfl 38 (.tmp 7) (.tmp 14) rfl w1.heap.size rfl 32 (fun p => (sha key).getD p 0) _ rfl _ hD (by kernel_rfl) ?_; intro w3 hD3 hon3))
      go_meet
      have hon3' : (w1.alloc (Obj.cells (arr 32 fun _ => 0) 38)).grownBy w3 (some w1.heap.size) := hon3
      rw [hkey]
      obtain ⟨A4, cap4, e4, h41, h42, h43⟩ := BSl.of_arr hD3 _ hD3.lt _ (sha_length key) (fun _ _ => rfl) (by decide)
      have e5 : (sha key).length = 32 := sha_length key
      refine ⟨⟨A4, cap4, by rw [← e4], h41, h42, h43, fun g off hg _ => ?_⟩, hR2.grown hon3' (by simp; omega), hI2.grown hon3' (by simp; omega), hO2.grown hon3' (by simp; omega), below_only hbel2 hon3' (by omega) hbel2.size⟩
      right
      injection e4 with e6
      rw [hg] at e6
      injection e6 with e6
      injection e6 with e6
      omega
    · have hkey : keyL key = key := if_neg h64
      go_wp2_with fail
      go_meet
      rw [hkey]
      refine ⟨⟨A, cap, rfl, hc1, hc2, (hr.below hbel).more hbel.size, fun g off hg hne => ?_⟩, hR, hI, hO, hbel⟩
      obtain ⟨b0, o0, e0, hb0, _⟩ := hr (by rw [List.length_map]; omega)
      rw [hg] at e0
      injection e0 with e0
      injection e0 with e0
      left; omega
  case rest =>
    clear hR hI hO hbel
    obtain ⟨⟨A0, cap0, rfl, hc01, hc02, hr0, hap⟩, hR, hI, hO, hbel⟩ := hcut
    have hkl64 := keyL_length key
    have hlO := hO.lt
    have ec := copied_arr 64 (fun _ => 0) 0 (keyL key) 64 (by show 0 + min (keyL key).length 64 ≤ 64; omega)
    have hfit : 0 + Nat.min (keyL key).length 64 ≤ (arr 64 (fun _ => (0 : UInt8))).size := by rw [arr_size]; show 0 + min (keyL key).length 64 ≤ 64; omega
    have Hec := Lib.hid ec
    have Hap := Lib.hid hap
    have Hfit := Lib.hid hfit
    clear ec hap hfit
    have hr1 : ∀ w2, wc.grownBy w2 (some (w.heap.size + 1)) → Reads w2 wc.heap.size A0 ((keyL key).map v8) := by
      intro w2 h2
      by_cases h0 : (keyL key).length = 0
      · have := List.eq_nil_of_length_eq_zero h0
        rw [this]; exact Reads.nil_
      · exact hr0.grown' h2 (Nat.le_refl _) (fun b off hb => by have := Hap.out b off hb h0; omega)
    have Hr1 := Lib.hid hr1
    clear hr1
    go_wp2_with (first
      | (refine wpList_copyR rfl (.tmp 16) (.tmp 17) _ _ rfl 5 Tryd.underlying23 (by kernel_rfl) (w.heap.size + 1) 0 64 64 A0 _ cap0 rfl rfl _ _ hI _ _ hr0 (by rw [List.length_map]) Hfit.out (oneCell_v8 _) ?_; intro w2 hI2 hon2)
      | (refine wpList_copyR rfl (.tmp 19) (.tmp 20) _ _ rfl 5 Tryd.underlying23 (by kernel_rfl) (w.heap.size + 2) 0 64 64 A0 _ cap0 rfl rfl _ _ (hO.grown hon2 (by simp)) _ _ (Hr1.out _ hon2) (by rw [List.length_map]) Hfit.out (oneCell_v8 _) ?_; intro w3 hO3 hon3))
    rw [Hec.out, xorB_0 key 54 64 hkl64] at hI2
    rw [Hec.out, xorB_0 key 92 64 hkl64] at hO3
    have hl2 := hon2.size
    have hI3 := hI2.grown hon3 (by simp)
    have hR3 := (hR.grown hon2 (by simp)).grown hon3 (by simp)
    have hbel3 := below_only (below_only hbel hon2 (by omega) hbel.size) hon3 (by omega) (Nat.le_trans hbel.size hl2)
    clear hR hI hO hbel hI2 hon2 hon3 hl2 Hap Hec Hr1 Hfit
    go_loopw [8, 22] (fun _ i wr => ∃ k : Nat, k ≤ 64 ∧ i = .int .i64 k ∧ Blk wr (w.heap.size + 1) 138 (arr 64 (xorB key 54 k)) ∧ Blk wr (w.heap.size + 2) 138 (arr 64 (xorB key 92 k)) ∧ Blk wr w.heap.size 38 (arr 32 fun _ => 0) ∧ Below w.heap.size w wr) (fun _ i _ => 64 - (intOf i).toNat)
    case atStart => exact ⟨0, by omega, rfl, hI3, hO3, hR3, hbel3⟩
    case round =>
      clear hI3 hO3 hR3 hbel3 hlO
      obtain ⟨k, hk, rfl, hI, hO, hR, hbel⟩ := hrel
      by_cases hlt : k < 64
      · have cI := hI.cell k
        rw [arr_at _ _ _ hlt, xorB_at] at cI
        have cO := hO.cell k
        rw [arr_at _ _ _ hlt, xorB_at] at cO
        have fI := hI.frozen k
        have fO := hO.frozen k
        go_wp2
        go_roundw
        case rel =>
          have s1 := hI.set k (v8 ((keyL key).getD k 0 ^^^ 54))
          rw [arr_set, xorB_step] at s1
          have s2 := (hO.far (p := ⟨w.heap.size + 1, k, none⟩) (by show _ ≠ w.heap.size + 1; omega) (v8 ((keyL key).getD k 0 ^^^ 54))).set k (v8 ((keyL key).getD k 0 ^^^ 92))
          rw [arr_set, xorB_step] at s2
          exact ⟨k + 1, by omega, by go_num, s1.far (p := ⟨w.heap.size + 2, k, none⟩) (by show _ ≠ w.heap.size + 2; omega) _, s2,
            (hR.far (p := ⟨w.heap.size + 1, k, none⟩) (by show _ ≠ w.heap.size + 1; omega) _).far (p := ⟨w.heap.size + 2, k, none⟩) (by show _ ≠ w.heap.size + 2; omega) _,
            below_far (p := ⟨w.heap.size + 2, k, none⟩) (below_far (p := ⟨w.heap.size + 1, k, none⟩) hbel (by show _ ≤ w.heap.size + 1; omega) _) (by show _ ≤ w.heap.size + 2; omega) _⟩
        case measure => simp [intOf]; omega
      · have ek : k = 64 := by omega
        rw [ek] at hI hO
        clear ek
        have hlO := hO.lt
        go_wp2_with fail
        have hX := Blk.new wr 23 #[.slice (some ⟨w.heap.size + 1, 0, none⟩) 64 64, .slice Ab b.length capb]
        have hI1 := hI.alloc (Obj.cells #[.slice (some ⟨w.heap.size + 1, 0, none⟩) 64 64, .slice Ab b.length capb] 23)
        have hO1 := hO.alloc (Obj.cells #[.slice (some ⟨w.heap.size + 1, 0, none⟩) 64 64, .slice Ab b.length capb] 23)
        have hR1 := hR.alloc (Obj.cells #[.slice (some ⟨w.heap.size + 1, 0, none⟩) 64 64, .slice Ab b.length capb] 23)
        have hbel1 := hbel.alloc hbel.size (Obj.cells #[.slice (some ⟨w.heap.size + 1, 0, none⟩) 64 64, .slice Ab b.length capb] 23)
        generalize wr.alloc (Obj.cells #[.slice (some ⟨w.heap.size + 1, 0, none⟩) 64 64, .slice Ab b.length capb] 23) = w4 at hX hI1 hO1 hR1 hbel1 ⊢
        have hl4 := hX.lt
        have hS4 : SSl w4 w4.heap.size (.slice (some ⟨wr.heap.size, 0, none⟩) 2 2) [keyX key 54, b] :=
          SSl.two hX _ hX.lt (BSl.of_arr hI1 _ hI1.lt _ (keyX_length _ _) (xorB_all key 54) (by decide)) (hb.next hbel1)
        refine (join_any _ _ _ hS4 (by simp [keyX_length]; omega)).mono ?_
        rintro e w5 ⟨v5, rfl, hown5, hb5⟩
        have hB5 := BSl.of_own hown5
        have hI5 := hI1.below hb5 hI1.lt
        have hO5 := hO1.below hb5 hO1.lt
        have hR5 := hR1.below hb5 hR1.lt
        have hbel5 := hbel1.trans (hb5.mono hbel1.size)
        have hl5 := hb5.size
        clear hI1 hO1 hR1 hbel1 hown5
        go_wp2_with fail
        refine (sum_b _ _ _ hB5 (by simp [keyX_length]; omega) (hG.next hbel5)).mono ?_
        rintro e w6 ⟨rfl, hb6⟩
        have hO6 := hO5.below hb6 hO5.lt
        have hR6 := hR5.below hb6 hR5.lt
        have hbel6 := hbel5.trans (hb6.mono hbel5.size)
        have hl6 := hb6.size
        have hD := Blk.new w6 38 (arr 32 fun _ => 0)
        have hO7 := hO6.alloc (Obj.cells (arr 32 fun _ => 0) 38)
        have hR7 := hR6.alloc (Obj.cells (arr 32 fun _ => 0) 38)
        have hbel7 := hbel6.alloc hbel6.size (Obj.cells (arr 32 fun _ => 0) 38)
        clear hI5 hO5 hR5 hbel5 hO6 hR6 hbel6
        go_wp2_with (first
          | (refine wpList_storeDat rfl rfl 38 (.tmp 9) (.tmp 40) rfl w6.heap.size rfl _ _ rfl _ hD (by kernel_rfl) ?_; intro w8 hD8 hon8))
        have hon8' : (w6.alloc (Obj.cells (arr 32 fun _ => 0) 38)).grownBy w8 (some w6.heap.size) := hon8
        have hO8 := hO7.grown hon8' (by simp; omega)
        have hR8 := hR7.grown hon8' (by simp; omega)
        have hbel8 := below_only hbel7 hon8' (by omega) hbel7.size
        clear hon8 hO7 hR7 hbel7 hD
        refine wp_region_quiet_tail 2 (fun W' => ∃ n, W' = w8.drewN n) (by kernel_rfl) (by kernel_rfl) ⟨1, rfl⟩ ?_
        simp only [List.take_succ_cons, List.take_zero, List.drop_succ_cons, List.drop_zero]
        repeat (go_big_quiet_step (fail))
        refine wpQuiet_nil ?_
        intro W' hW'
        obtain ⟨nq, rfl⟩ := hW'
        have hD9 := hD8.drewN nq
        have hO9 := hO8.drewN nq
        have hR9 := hR8.drewN nq
        have hbel9 := below_drewN hbel8 nq
        generalize w8.drewN nq = w9 at hD9 hO9 hR9 hbel9 ⊢
        clear hD8 hO8 hR8 hbel8
        go_wp2_with fail
        have hX := Blk.new w9 23 #[.slice (some ⟨w.heap.size + 2, 0, none⟩) 64 64, .slice (some ⟨w6.heap.size, 0, none⟩) 32 32]
        have hD1 := hD9.alloc (Obj.cells #[.slice (some ⟨w.heap.size + 2, 0, none⟩) 64 64, .slice (some ⟨w6.heap.size, 0, none⟩) 32 32] 23)
        have hO1 := hO9.alloc (Obj.cells #[.slice (some ⟨w.heap.size + 2, 0, none⟩) 64 64, .slice (some ⟨w6.heap.size, 0, none⟩) 32 32] 23)
        have hR1 := hR9.alloc (Obj.cells #[.slice (some ⟨w.heap.size + 2, 0, none⟩) 64 64, .slice (some ⟨w6.heap.size, 0, none⟩) 32 32] 23)
        have hbel1 := hbel9.alloc hbel9.size (Obj.cells #[.slice (some ⟨w.heap.size + 2, 0, none⟩) 64 64, .slice (some ⟨w6.heap.size, 0, none⟩) 32 32] 23)
        have hS4 : SSl (w9.alloc (Obj.cells #[.slice (some ⟨w.heap.size + 2, 0, none⟩) 64 64, .slice (some ⟨w6.heap.size, 0, none⟩) 32 32] 23)) _ (.slice (some ⟨w9.heap.size, 0, none⟩) 2 2) [keyX key 92, sha (keyX key 54 ++ b)] :=
          SSl.two hX _ hX.lt (BSl.of_arr hO1 _ hO1.lt _ (keyX_length _ _) (xorB_all key 92) (by decide)) (BSl.of_dat hD1 _ hD1.lt (sha_length _))
        have hfl : ([keyX key 92, sha (keyX key 54 ++ b)].flatten).length = 96 := by
          generalize hq : sha (keyX key 54 ++ b) = q
          have hq2 : q.length = 32 := by rw [← hq]; exact sha_length _
          simp [keyX_length, hq2]
        have Hfl := Lib.hid hfl
        clear hfl
        refine (join_any _ _ _ hS4 (by rw [Hfl.out]; omega)).mono ?_
        rintro e w10 ⟨v10, rfl, hown10, hb10⟩
        have hB10 := BSl.of_own hown10
        have hR10 := hR1.below hb10 hR1.lt
        have hbel10 := hbel1.trans (hb10.mono hbel1.size)
        have hl10 := hb10.size
        clear hown10 hD1 hO1 hR1 hbel1
        go_wp2_with fail
        refine (sum_b _ _ _ hB10 (by rw [Hfl.out]; omega) (hG.next hbel10)).mono ?_
        rintro e w11 ⟨rfl, hb11⟩
        have hR11 := hR10.below hb11 hR10.lt
        have hbel11 := hbel10.trans (hb11.mono hbel10.size)
        go_wp2_with (first
          | (refine wpList_storeDat rfl rfl 38 (.tmp 4) (.tmp 45) rfl w.heap.size rfl _ _ rfl _ hR11 (by kernel_rfl) ?_; intro w12 hR12 hon12))
        have hb12 := below_only hbel11 hon12 (Nat.le_refl _) hbel11.size
        refine bodyPost_ret (results_cell_row (p := 4) (ty := 38) rfl _ _ w.heap.size _ _ _ _ rfl hR12 Tryd.underlying38 rfl (by kernel_rfl)) rfl ⟨?_, hb12⟩
        simp [mac]
end Go.Proofs.YtcdkadidkkbhpaaDoor

/- The walk of the reference's Mac. No condition. -/
namespace Go.Proofs.YtcdkadidkkbhpaaDoor
open Go.RowKit
/-- the first i bytes of the key, turned -/
@[irreducible] def xorL (P : List UInt8) (c : UInt8) (i : Nat) : List UInt8 := (List.range i).map fun p => P.getD p 0 ^^^ c
theorem xorL_succ (P : List UInt8) (c : UInt8) (i : Nat) : (xorL P c (i + 1)).map v8 = (xorL P c i).map v8 ++ [v8 (P.getD i 0 ^^^ c)] := by
  unfold xorL; rw [List.range_succ, List.map_append, List.map_append]; rfl
theorem xorL_len (P : List UInt8) (c : UInt8) (i : Nat) : (xorL P c i).length = i := by simp [xorL]
theorem keyL_len (key : List UInt8) : (keyL key).length ≤ 64 := by
  unfold keyL; split
  · rw [sha_length]; decide
  · omega
theorem getD_zerosB (l : List UInt8) (n p : Nat) : (l ++ List.replicate n 0).getD p 0 = l.getD p 0 := by
  rw [List.getD_eq_getElem?_getD, List.getD_eq_getElem?_getD]
  by_cases hp : p < l.length
  · rw [List.getElem?_append_left hp]
  · rw [List.getElem?_append_right (by omega), List.getElem?_eq_none (l := l) (by omega), List.getElem?_replicate]; split <;> rfl
attribute [local go_sem] n64_lo n64_hi n8_lo n8_hi xor8_54 xor8_92
set_option maxHeartbeats 1000000 in
set_option maxRecDepth 100000 in
theorem rmac_any (t uk ub : Value) (key b : List UInt8) (w : World) (ht : Tbl w w.heap.size t) (hk : BSl w w.heap.size uk key) (hb : BSl w w.heap.size ub b) (hkl : key.length ≤ 140737488355128) (hbl : b.length ≤ 140737488355128) :
    Calls Tryd.prog 53 #[t, uk, ub] w fun e w' => e = .returned (.agg (dat (mac key b))) ∧ Below w.heap.size w w' := by
  obtain ⟨gt, rfl, hgt, hT⟩ := ht
  obtain ⟨A, cap, rfl, hc1, hc2, hr⟩ := hk
  have hb0 := hb
  obtain ⟨Ab, capb, rfl, hd1, hd2, hrb⟩ := hb
  go_enter Tryd.func53, Tryd.ntmps53
  have hR0 := Blk.new w 38 (arr 32 fun _ => 0)
  have hw0 := below_new1 w (Obj.cells (arr 32 fun _ => 0) 38)
  have hz : (w.alloc (Obj.cells (arr 32 fun _ => 0) 38)).heap.size = w.heap.size + 1 := by simp
  go_upto_if 18 with (first
    | (refine wpl_at (w := w.alloc (Obj.cells _ 38)) (fun W => Blk W w.heap.size 38 (arr 32 fun _ => 0) ∧ Below w.heap.size w W ∧ W.heap.size = w.heap.size + 1) ⟨hR0, hw0, hz⟩ ?_; clear hR0 hw0 hz; rintro w0 ⟨hR0, hw0, hz⟩; have hr0 := hr.below hw0; have hn1 : Below (w.heap.size + 1) w0 (w0.alloc (Obj.cells #[] 5)) := (by have := below_new1 w0 (Obj.cells #[] 5); rw [hz] at this; exact this); have hoe : (w0.alloc (Obj.cells #[] 5)).ownsRow (w.heap.size + 1) 5 1 (.slice (some ⟨w.heap.size + 1, 0, none⟩) 0 0) (([] : List UInt8).map v8).length (([] : List UInt8).map v8) := (by have := own_emptyB w0 w0.heap.size (Nat.le_refl _); rw [hz] at this; exact this))
    | (at_builtin; refine wpList_appendS rfl (.tmp 13) (.tmp 14) rfl (w.heap.size + 1) _ [] key rfl hoe _ A _ _ rfl rfl (hr0.below (hn1.mono (by omega))) (by simp; omega) (by have := hn1.size; omega) w0 hn1 ?_; intro u1 w1 hown1 hb1; simp only [List.nil_append] at hown1; obtain ⟨A1, cap1, hu1e, hf1, hf2, hrd1⟩ := Reads.own hown1; rw [List.length_map] at hu1e hf1; subst hu1e))
  go_cut [7] (fun v wx => ∃ A2 c2, v = .slice A2 (keyL key).length c2 ∧ (keyL key).length ≤ c2 ∧ c2 ≤ 9223372036854775807 ∧ wx.ownsRow (w.heap.size + 1) 5 1 v ((keyL key).map v8).length ((keyL key).map v8) ∧ Below (w.heap.size + 1) w0 wx)
  case first =>
    by_cases hlong : 64 < key.length
    · have hbel1 : Below w.heap.size w w1 := hw0.trans (hb1.mono (by omega))
      have hT1 : Tbl w1 w1.heap.size (.pointer (some ⟨gt, 0, none⟩)) := ⟨gt, rfl, Nat.lt_of_lt_of_le hgt hbel1.size, hT.below hbel1 hgt⟩
      have hkl1 : keyL key = sha key := if_pos hlong
      have Hk := Lib.hid hkl1
      have hshaL := Lib.hid (sha_length key)
      go_wp2_with fail
      refine (rsum_any _ _ key w1 hT1 ⟨A1, cap1, rfl, hf1, hf2, hrd1⟩ (by omega)).mono ?_
      rintro e w2 ⟨rfl, hb2⟩
      have hb2' : Below (w.heap.size + 1) w0 w2 := hb1.trans (hb2.mono (by have := hb1.size; omega))
      have hD := Blk.new w2 38 (arr 32 fun _ => 0)
      have hz2 : w.heap.size + 1 ≤ w2.heap.size := by have := hb2'.size; omega
      have hb3 := hb2'.alloc hz2 (Obj.cells (arr 32 fun _ => 0) 38)
      have hz3 : w.heap.size + 1 ≤ (w2.alloc (Obj.cells (arr 32 fun _ => 0) 38)).heap.size := Nat.le_trans hz2 (below_new1 w2 _).size
      go_wp2_with (first
        | (refine wpList_storeDat rfl rfl 38 (.tmp 8) (.tmp 21) rfl w2.heap.size rfl _ _ rfl _ hD (by kernel_rfl) ?_; intro w4 hD4 hon4; have hb4 := below_only hb3 hon4 hz2 hz3; have hz4 : w.heap.size + 1 ≤ w4.heap.size := (by have := hb4.size; omega); have hrd4 : Reads w4 w4.heap.size (some ⟨w2.heap.size, 0, none⟩) ((sha key).map v8) := (by have h9 := Reads.of_blk hD4 hD4.lt 0; rw [dat_eq _ hshaL.out] at h9; exact h9); have hoe4 := own_emptyB w4 (w.heap.size + 1) hz4; have hb5 := hb4.alloc hz4 (Obj.cells #[] 5))
        | (at_builtin; refine wpList_appendS rfl (.tmp 22) (.tmp 23) rfl (w.heap.size + 1) _ [] (sha key) rfl hoe4 _ _ _ _ rfl hshaL.out (hrd4.below (below_new1 w4 _)) (by rw [hshaL.out]; simp) (by have := hb5.size; omega) w0 hb5 ?_; intro u6 w6 hown6 hb6; simp only [List.nil_append] at hown6; obtain ⟨A6, c6, hu6, hf6, hf7, hrd6⟩ := Reads.own hown6; rw [List.length_map] at hu6 hf6; subst hu6))
      go_meet
      rw [Hk.out]
      exact ⟨A6, c6, rfl, hf6, hf7, hown6, hb6⟩
    · have hkl1 : keyL key = key := if_neg hlong
      have Hk := Lib.hid hkl1
      clear hkl1
      go_wp2_with fail
      go_meet
      rw [Hk.out]
      exact ⟨A1, cap1, rfl, hf1, hf2, hown1, hb1⟩
  case rest =>
    obtain ⟨A2, c2, rfl, hf1', hf2', hown, hbc⟩ := hcut
    have hkL := keyL_len key
    have Hmac := Lib.hid (show mac key b = sha (((List.range 64).map fun p => (keyL key).getD p 0 ^^^ 92) ++ sha (((List.range 64).map fun p => (keyL key).getD p 0 ^^^ 54) ++ b)) from rfl)
    generalize keyL key = kl at *
    clear hown1 hb1 hrd1 hf1 hf2 hoe hn1
    go_wp2_with fail
    go_loopw [7] (fun v wr => ∃ k : Nat, kl.length + k ≤ 64 ∧ lenOf v = kl.length + k ∧ wr.ownsRow (w.heap.size + 1) 5 1 v ((kl ++ List.replicate k 0).map v8).length ((kl ++ List.replicate k 0).map v8) ∧ Below (w.heap.size + 1) w0 wr) (fun v _ => 64 - lenOf v)
    case atStart => exact ⟨0, by omega, rfl, by simpa using hown, hbc⟩
    case round =>
      clear hown hbc hf1' hf2'
      obtain ⟨k, hk, hlen, hown, hb⟩ := hrel
      obtain ⟨A7, c7, rfl, hg1, hg2, hrd⟩ := Reads.own hown
      have hml : ((kl ++ List.replicate k (0 : UInt8)).map v8).length = kl.length + k := by simp
      have hbs : w.heap.size + 1 ≤ wr.heap.size := by have := hb.size; omega
      have hown' : wr.ownsRow (w.heap.size + 1) 5 1 (.slice A7 (kl.length + k) c7) ((kl ++ List.replicate k 0).map v8).length ((kl ++ List.replicate k 0).map v8) := by rw [hml] at hown ⊢; exact hown
      have hlen1 := Lib.hid (show ((kl ++ List.replicate k (0 : UInt8)).map v8).length + 1 ≤ 140737488355328 by rw [hml]; omega)
      rw [hml]
      clear hlen hown
      by_cases hlt : kl.length + k < 64
      · clear hrd hg1
        go_wp2_with (first
          | (at_builtin; refine wpList_append1 rfl (.tmp 28) (.tmp 29) rfl (w.heap.size + 1) _ _ rfl hown' (v8 0) rfl rfl hlen1.out hbs w0 hb ?_; intro u3 w3 hown3 hb3))
        go_roundw
        case rel =>
          obtain ⟨A3, c3, rfl, _⟩ := Reads.own hown3
          refine ⟨k + 1, by omega, ?_, ?_, hb3⟩
          · simp only [lenOf, List.length_append, hml]; simp; omega
          · rw [show (kl ++ List.replicate (k + 1) (0 : UInt8)).map v8 = (kl ++ List.replicate k 0).map v8 ++ [v8 0] by rw [List.replicate_succ', ← List.append_assoc, List.map_append]; rfl]; exact hown3
        case measure =>
          obtain ⟨A3, c3, rfl, _⟩ := Reads.own hown3
          simp only [lenOf, List.length_append, hml]
          show 64 - (kl.length + k + 1) < 64 - (kl.length + k)
          omega
      · have e64 : kl.length + k = 64 := by omega
        have hgetD := getD_zerosB kl k
        generalize kl ++ List.replicate k 0 = P at *
        rw [e64] at hown' hml ⊢
        go_wp2_with fail
        obtain ⟨b7, o7, rfl, _, _⟩ := hrd (by rw [hml]; decide)
        have hPl : P.length = 64 := by rw [← hml, List.length_map]
        clear hrd hg1 hlen1
        go_loopw [9, 10, 11] (fun v9 v10 iv wr => ∃ i : Nat, i ≤ 64 ∧ iv = .int .i64 i ∧ wr.ownsRow (w.heap.size + 1) 5 1 (.slice (some ⟨b7, o7, none⟩) 64 c7) (P.map v8).length (P.map v8) ∧ wr.ownsRow (w.heap.size + 1) 5 1 v9 ((xorL P 54 i).map v8).length ((xorL P 54 i).map v8) ∧ wr.ownsRow (w.heap.size + 1) 5 1 v10 ((xorL P 92 i).map v8).length ((xorL P 92 i).map v8) ∧ Apart v9 (.slice (some ⟨b7, o7, none⟩) 64 c7) ∧ Apart v10 (.slice (some ⟨b7, o7, none⟩) 64 c7) ∧ Apart v9 v10 ∧ Below (w.heap.size + 1) w0 wr) (fun _ _ iv _ => 64 - (intOf iv).toNat)
        case atStart => exact ⟨0, by omega, rfl, hown', (by rw [show xorL P 54 0 = [] by unfold xorL; rfl]; exact own_none _ _ _), (by rw [show xorL P 92 0 = [] by unfold xorL; rfl]; exact own_none _ _ _), (fun g h => by cases h), (fun g h => by cases h), (fun g h => by cases h), hb⟩
        case round =>
          clear hown' hb hbs
          obtain ⟨i, hi, rfl, own7, own9, own10, ap97, ap107, ap910, hb⟩ := hrel
          have hbs : w.heap.size + 1 ≤ wr.heap.size := by have := hb.size; omega
          by_cases hlt : i < 64
          · have hPi : (P.map v8)[i]? = some (.int .u8 (n8 (P.getD i 0))) := by rw [List.getElem?_map, List.getD_eq_getElem?_getD, List.getElem?_eq_getElem (by omega)]; rfl
            have hc7 := own_cell own7 i _ hPi
            have hl9 := Lib.hid (show ((xorL P 54 i).map v8).length + 1 ≤ 140737488355328 by rw [List.length_map, xorL_len]; omega)
            have hl10 := Lib.hid (show ((xorL P 92 i).map v8).length + 1 ≤ 140737488355328 by rw [List.length_map, xorL_len]; omega)
            have hs9 := Lib.hid (xorL_succ P 54 i)
            have hs10 := Lib.hid (xorL_succ P 92 i)
            generalize P.getD i 0 = pb at *
            have HPi := Lib.hid hPi
            clear hPi
            have H7 := Lib.hid own7
            have H9 := Lib.hid own9
            have H10 := Lib.hid own10
            clear own7 own9 own10
            go_wp2_with (first
              | (at_builtin; refine wpList_append1D rfl (.tmp 35) (.tmp 41) rfl (w.heap.size + 1) _ _ rfl H9.out _ rfl rfl hl9.out hbs w0 hb ?_; intro u3 w3 hown3 hb3 hoth3; have h73 := hoth3 _ _ _ H7.out ap97; have h103 := hoth3 _ _ _ H10.out ap910; have hc73 := own_cell h73.1 i _ HPi.out; have hbs3 : w.heap.size + 1 ≤ w3.heap.size := (by have := hb3.size; omega))
              | (at_builtin; refine wpList_append1D rfl (.tmp 43) (.tmp 49) rfl (w.heap.size + 1) _ _ rfl h103.1 _ rfl rfl hl10.out hbs3 w0 hb3 ?_; intro u4 w4 hown4 hb4 hoth4; have h74 := hoth4 _ _ _ h73.1 ap107; have h94 := hoth4 _ _ _ hown3 h103.2.symm))
            go_roundw
            case rel =>
              refine ⟨i + 1, by omega, by go_num, h74.1, ?_, ?_, h73.2, h74.2, h94.2.symm, hb4⟩
              · rw [hs9.out]; exact h94.1
              · rw [hs10.out]; exact hown4
            case measure => simp [intOf]; omega
          · have ei : i = 64 := by omega
            subst ei
            have hx54 : xorL P 54 64 = (List.range 64).map fun p => kl.getD p 0 ^^^ 54 := by unfold xorL; simp only [hgetD]
            have hx92 : xorL P 92 64 = (List.range 64).map fun p => kl.getD p 0 ^^^ 92 := by unfold xorL; simp only [hgetD]
            have H1 := Hmac.out
            rw [← hx54, ← hx92] at H1
            have Hm := Lib.hid H1
            have hl54 := xorL_len P 54 64
            have hl92 := xorL_len P 92 64
            generalize xorL P 54 64 = X54 at *
            generalize xorL P 92 64 = X92 at *
            clear hx54 hx92 H1 Hmac own7 ap97 ap107
            have hbw : Below w.heap.size w wr := hw0.trans (hb.mono (by omega))
            have hrb2 := hrb.below hbw
            have H9 := Lib.hid own9
            clear own9
            go_wp2_with (first
              | (at_builtin; refine wpList_appendSD rfl (.tmp 52) (.tmp 53) rfl (w.heap.size + 1) _ X54 b rfl H9.out _ Ab _ _ rfl rfl hrb2 (by omega) hbs w0 hb ?_; intro u3 w3 hown3 hb3 hoth3; have h103 := hoth3 _ _ _ own10 ap910))
            have hbw3 : Below w.heap.size w w3 := hw0.trans (hb3.mono (by omega))
            have hz3 : w.heap.size + 1 ≤ w3.heap.size := by have := hb3.size; omega
            have hBL3 := BSl.of_own hown3
            have hl3 : (X54 ++ b).length ≤ 140737488355200 := by rw [List.length_append]; omega
            have hT3 : Tbl w3 w3.heap.size (.pointer (some ⟨gt, 0, none⟩)) := ⟨gt, rfl, Nat.lt_of_lt_of_le hgt hbw3.size, hT.below hbw3 hgt⟩
            generalize X54 ++ b = Y at *
            have hsY := Lib.hid (sha_length Y)
            refine (rsum_any _ _ Y w3 hT3 hBL3 hl3).mono ?_
            rintro e w4 ⟨rfl, hb4⟩
            have hb4' := hb3.trans (hb4.mono hz3)
            have hz4 : w.heap.size + 1 ≤ w4.heap.size := by have := hb4'.size; omega
            have h104 := own_below h103.1 hb4
            have hD := Blk.new w4 38 (arr 32 fun _ => 0)
            have hb5 := hb4'.alloc hz4 (Obj.cells (arr 32 fun _ => 0) 38)
            have hz5 : w.heap.size + 1 ≤ (w4.alloc (Obj.cells (arr 32 fun _ => 0) 38)).heap.size := Nat.le_trans hz4 (below_new1 w4 _).size
            have h105 := own_below h104 (below_new1 w4 (Obj.cells (arr 32 fun _ => 0) 38))
            have hlt10 := own_lt h104
            go_wp2_with (first
              | (refine wpList_storeDat rfl rfl 38 (.tmp 12) (.tmp 55) rfl w4.heap.size rfl _ _ rfl _ hD (by kernel_rfl) ?_; intro w6 hD6 hon6; have hb6 := below_only hb5 hon6 hz4 hz5; have hz6 : w.heap.size + 1 ≤ w6.heap.size := (by have := hb6.size; omega); have hrd6 : Reads w6 w6.heap.size (some ⟨w4.heap.size, 0, none⟩) ((sha Y).map v8) := (by have h9 := Reads.of_blk hD6 hD6.lt 0; rw [dat_eq _ hsY.out] at h9; exact h9); have h106 := own_grown h105 hon6 (fun g hg e => by have := hlt10 g hg; injection e with e; omega))
              | (at_builtin; refine wpList_appendS rfl (.tmp 57) (.tmp 58) rfl (w.heap.size + 1) _ X92 (sha Y) rfl h106 _ _ _ _ rfl hsY.out hrd6 (by rw [hsY.out]; omega) hz6 w0 hb6 ?_; intro u7 w7 hown7 hb7))
            have hbw7 : Below w.heap.size w w7 := hw0.trans (hb7.mono (by omega))
            have hz7 : w.heap.size + 1 ≤ w7.heap.size := by have := hb7.size; omega
            have hBL7 := BSl.of_own hown7
            have hl7 : (X92 ++ sha Y).length ≤ 140737488355200 := by rw [List.length_append, hsY.out]; omega
            have hT7 : Tbl w7 w7.heap.size (.pointer (some ⟨gt, 0, none⟩)) := ⟨gt, rfl, Nat.lt_of_lt_of_le hgt hbw7.size, hT.below hbw7 hgt⟩
            have hR7 := hR0.below hb7 (by omega)
            refine (rsum_any _ _ _ w7 hT7 hBL7 hl7).mono ?_
            rintro e w8 ⟨rfl, hb8⟩
            have hR8 := hR7.below hb8 hR7.lt
            have hbw8 := hbw7.trans (hb8.mono hbw7.size)
            go_wp2_with (first
              | (refine wpList_storeDat rfl rfl 38 (.tmp 6) (.tmp 60) rfl w.heap.size rfl _ _ rfl _ hR8 (by kernel_rfl) ?_; intro w9 hR9 hon9))
            have hb9 := below_only hbw8 hon9 (Nat.le_refl _) hbw8.size
            refine bodyPost_ret (results_cell_row (p := 6) (ty := 38) rfl _ _ w.heap.size _ _ _ _ rfl hR9 Tryd.underlying38 rfl (by kernel_rfl)) rfl ⟨?_, hb9⟩
            rw [Hm.out]
end Go.Proofs.YtcdkadidkkbhpaaDoor

/- Cuts of slices whose elements are one cell each: the value under one name, in a quiet walk and in a forced one; what a cut of bytes reads. No condition. -/
namespace Go.Proofs.YtcdkadidkkbhpaaDoor
open Go Go.RowKit
/-- a cut, as the model makes it -/
def cutV (A : Option Addr) (cap lo hi : Nat) : Value := .slice (if cap = lo then A else A.map (·.add lo)) (hi - lo) (cap - lo)
section
variable {P : Program} {t e : TypeId} {A : Option Addr} {len cap : Nat}
theorem run_cut_lh (ht : P.underlying t = some (.slice e)) (hs : (P.info? e).map (·.size) = some 1) (lo hi : Nat) (h1 : lo ≤ hi) (h2 : hi ≤ cap) (w : World) :
    (Instr.sliceAt t (.slice A len cap) (some (.int .i64 lo)) (some (.int .i64 hi)) none).run P w = .ok (cutV A cap lo hi) w := by
  obtain ⟨i, hi1, hi2⟩ : ∃ i, P.info? e = some i ∧ i.size = 1 := by
    cases hq : P.info? e with
    | none => rw [hq] at hs; cases hs
    | some i => rw [hq] at hs; exact ⟨i, rfl, by simpa using hs⟩
  have a1 : (lo : Int) ≤ (hi : Int) := by omega
  have a2 : (hi : Int) ≤ (cap : Int) := by omega
  simp [Instr.sliceAt, Instr.slice, run_underlying ht, Instr.sliceBounds, run_sliceBound, cutV, hi1, hi2, sizeOf, typeInfo, a1, a2]
theorem run_cut_l (ht : P.underlying t = some (.slice e)) (hs : (P.info? e).map (·.size) = some 1) (lo : Nat) (h1 : lo ≤ len) (w : World) :
    (Instr.sliceAt t (.slice A len cap) (some (.int .i64 lo)) none none).run P w = .ok (cutV A cap lo len) w := by
  obtain ⟨i, hi1, hi2⟩ : ∃ i, P.info? e = some i ∧ i.size = 1 := by
    cases hq : P.info? e with
    | none => rw [hq] at hs; cases hs
    | some i => rw [hq] at hs; exact ⟨i, rfl, by simpa using hs⟩
  have a1 : (lo : Int) ≤ (len : Int) := by omega
  simp [Instr.sliceAt, Instr.slice, run_underlying ht, Instr.sliceBounds, run_sliceBound, cutV, hi1, hi2, sizeOf, typeInfo, a1]
section
variable {ops : Array Oper} {C : World → Prop} {K : Act → Prop} {a : Act} {o : Oper} {rest : List Oper}
theorem wpQuiet_cutLH (hw : Region.wanted o (yielded ops a.tmps) = true) (t : TypeId) (x l h : Operand) (ho : o.op = .slice t x (some l) (some h) none) (e : TypeId) (ht : P.underlying t = some (.slice e)) (hs : (P.info? e).map (·.size) = some 1)
    (A : Option Addr) (len cap lo hi : Nat) (hx : a.eval x = .slice A len cap) (hl : a.eval l = .int .i64 lo) (hh : a.eval h = .int .i64 hi) (h1 : lo ≤ hi) (h2 : hi ≤ cap)
    (hk : wpQuiet P ops C K rest (a.put o.dst (cutV A cap lo hi))) : wpQuiet P ops C K (o :: rest) a :=
  wpQuiet_wanted hw _ (fun w _ => by
    unfold Oper.quietAt execOp
    simp only [ho, Option.map_some, Option.map_none, hx, hl, hh, Sem.run_bind, run_cut_lh ht hs lo hi h1 h2, Result.andThen_ok, Sem.run_pure]
    exact ⟨rfl, rfl⟩) hk
theorem wpQuiet_cutL (hw : Region.wanted o (yielded ops a.tmps) = true) (t : TypeId) (x l : Operand) (ho : o.op = .slice t x (some l) none none) (e : TypeId) (ht : P.underlying t = some (.slice e)) (hs : (P.info? e).map (·.size) = some 1)
    (A : Option Addr) (len cap lo : Nat) (hx : a.eval x = .slice A len cap) (hl : a.eval l = .int .i64 lo) (h1 : lo ≤ len)
    (hk : wpQuiet P ops C K rest (a.put o.dst (cutV A cap lo len))) : wpQuiet P ops C K (o :: rest) a :=
  wpQuiet_wanted hw _ (fun w _ => by
    unfold Oper.quietAt execOp
    simp only [ho, Option.map_some, Option.map_none, hx, hl, Sem.run_bind, run_cut_l ht hs lo h1, Result.andThen_ok, Sem.run_pure]
    exact ⟨rfl, rfl⟩) hk
theorem wpList_cutLH {w : World} {Q : Exit → Act → World → Prop} (hg : o.guard = none) (t : TypeId) (x l h : Operand) (ho : o.op = .slice t x (some l) (some h) none) (e : TypeId) (ht : P.underlying t = some (.slice e)) (hs : (P.info? e).map (·.size) = some 1)
    (A : Option Addr) (len cap lo hi : Nat) (hx : a.eval x = .slice A len cap) (hl : a.eval l = .int .i64 lo) (hh : a.eval h = .int .i64 hi) (h1 : lo ≤ hi) (h2 : hi ≤ cap)
    (hk : wpList P ops Q rest (a.put o.dst (cutV A cap lo hi)) w) : wpList P ops Q (o :: rest) a w :=
  wpList_plain hg fun K hK => by
    unfold Oper.wp execOp
    simp only [ho, Option.map_some, Option.map_none, hx, hl, hh, Sem.run_bind, run_cut_lh ht hs lo hi h1 h2, Result.andThen_ok, Sem.run_pure]
    exact hK _ _ hk
theorem wpList_cutL {w : World} {Q : Exit → Act → World → Prop} (hg : o.guard = none) (t : TypeId) (x l : Operand) (ho : o.op = .slice t x (some l) none none) (e : TypeId) (ht : P.underlying t = some (.slice e)) (hs : (P.info? e).map (·.size) = some 1)
    (A : Option Addr) (len cap lo : Nat) (hx : a.eval x = .slice A len cap) (hl : a.eval l = .int .i64 lo) (h1 : lo ≤ len)
    (hk : wpList P ops Q rest (a.put o.dst (cutV A cap lo len)) w) : wpList P ops Q (o :: rest) a w :=
  wpList_plain hg fun K hK => by
    unfold Oper.wp execOp
    simp only [ho, Option.map_some, Option.map_none, hx, hl, Sem.run_bind, run_cut_l ht hs lo h1, Result.andThen_ok, Sem.run_pure]
    exact hK _ _ hk
end
end
theorem wpQuiet_nilCheck {P : Program} {ops : Array Oper} {C : World → Prop} {K : Act → Prop} {a : Act} {o : Oper} {rest : List Oper} (hw : Region.wanted o (yielded ops a.tmps) = true) (x : Operand) (ho : o.op = .nilCheck x) (p : Addr) (hx : a.eval x = .pointer (some p))
    (hk : wpQuiet P ops C K rest (a.put o.dst (.pointer (some p)))) : wpQuiet P ops C K (o :: rest) a :=
  wpQuiet_wanted hw _ (fun w _ => by
    unfold Oper.quietAt execOp
    simp only [ho, hx, Sem.run_pure]
    exact ⟨rfl, rfl⟩) hk
/-- a cell is read, at any class that tells it -/
theorem wpQuiet_load1 {P : Program} {ops : Array Oper} {C : World → Prop} {K : Act → Prop} {a : Act} {o : Oper} {rest : List Oper} (hw : Region.wanted o (yielded ops a.tmps) = true) (ty : TypeId) (x : Operand) (ho : o.op = .load ty x) (p : Addr) (hx : a.eval x = .pointer (some p))
    (d : TypeDesc) (hu : P.underlying ty = some d) (hd : (match d with | .struct _ | .array _ _ => false | _ => true) = true) (v : Value) (hS : ∀ w, C w → w.cell? p = some v)
    (hk : wpQuiet P ops C K rest (a.put o.dst v)) : wpQuiet P ops C K (o :: rest) a :=
  wpQuiet_wanted hw _ (fun w hC => by
    have hc := hS w hC
    unfold Oper.quietAt execOp
    have ha : (isAgg ty).run P w = .ok false w := by
      cases d <;> simp_all [isAgg, run_underlying hu]
    simp only [ho, hx, Instr.loadAt, Instr.sureAddr, Sem.run_bind, Sem.run_pure, Result.andThen_ok, loadVar, ha]
    simp [hc, Oper.quietUpon]) hk
theorem cut_b {w : World} {B : Nat} {A : Option Addr} {len cap : Nat} {bs : List UInt8} (h : BSl w B (.slice A len cap) bs) (lo hi : Nat) (h1 : lo ≤ hi) (h2 : hi ≤ len) : BSl w B (cutV A cap lo hi) ((bs.take hi).drop lo) := by
  obtain ⟨A', cap', e1, hc1, hc2, hr⟩ := h
  injection e1 with e1 e2 e3
  subst e1; subst e3
  have hl : ((bs.take hi).drop lo).length = hi - lo := by simp; omega
  refine ⟨_, cap - lo, by unfold cutV; rw [hl], by omega, by omega, ?_⟩
  have := (hr.take hi).cut (k := lo) (cap := cap) (by simp; omega) (by simp; omega)
  rw [← List.map_take, ← List.map_drop] at this
  exact this
/-- the head of a slice of bytes -/
theorem head_b {w : World} {B : Nat} {A : Option Addr} {len cap : Nat} {bs : List UInt8} (h : BSl w B (.slice A len cap) bs) (hi : Nat) (h2 : hi ≤ len) : BSl w B (.slice A hi cap) (bs.take hi) := by
  obtain ⟨A', cap', e1, hc1, hc2, hr⟩ := h
  injection e1 with e1 e2 e3
  subst e1; subst e3
  have hl : (bs.take hi).length = hi := by simp; omega
  refine ⟨_, cap, by rw [hl], by omega, by omega, ?_⟩
  have := hr.take hi
  rw [← List.map_take] at this
  exact this
theorem take_b {w : World} {B : Nat} {A : Option Addr} {cap : Nat} {bs : List UInt8} (h : BSl w B (.slice A bs.length cap) bs) (k : Nat) : BSl w B (.slice A (bs.take k).length cap) (bs.take k) := by
  obtain ⟨A', cap', e1, hc1, hc2, hr⟩ := h
  injection e1 with e1 e2 e3
  subst e1; subst e3
  refine ⟨_, cap, rfl, by rw [List.length_take]; omega, hc2, ?_⟩
  rw [List.map_take]; exact hr.take k
/-- the world behind a point of a walk by plan -/
theorem mix_at {P : Program} {ops : Array Oper} {K : Act → World → Prop} {p : Plan} {a : Act} {w : World} (R : World → Prop) (hR : R w) (h : ∀ W, R W → mixW P ops K p (fun v => ∃ e, v = plus W e) a W) : mixW P ops K p (fun v => ∃ e, v = plus w e) a w := h w hR
end Go.Proofs.YtcdkadidkkbhpaaDoor

/- Two constant texts as bytes in one region that draws its order: literals' rows, and the conversion of a literal's row to its own type, which marks it. No condition. -/
namespace Go.Proofs.YtcdkadidkkbhpaaDoor
open Go Go.RowKit
/-- Block g is just these bytes (marked or not). -/
def Lit (V : World) (g : Nat) (bs : List UInt8) : Prop := ∃ t fr, V.heap[g]? = some (.cells (bs.map v8).toArray t fr)
theorem Lit.lt {V : World} {g : Nat} {bs : List UInt8} (h : Lit V g bs) : g < V.heap.size := by
  obtain ⟨t, fr, h⟩ := h
  rcases Nat.lt_or_ge g V.heap.size with hlt | hge
  · exact hlt
  · rw [Array.getElem?_eq_none hge] at h; cases h
theorem Lit.bsl {V : World} {g : Nat} {bs : List UInt8} (h : Lit V g bs) (n : Nat) (hn : bs.length = n) (hc : n ≤ 9223372036854775807) : BSl V V.heap.size (.slice (some ⟨g, 0, none⟩) n n) bs := by
  subst hn
  have hl := h.lt
  obtain ⟨t, fr, h⟩ := h
  exact BSl.of_marked h _ hl hc
theorem Lit.new (V : World) (bs : List UInt8) (t : TypeId) : Lit (V.alloc (.cells (bs.map v8).toArray t)) V.heap.size bs := ⟨t, _, heap_alloc_new V _⟩
theorem Lit.alloc {V : World} {g : Nat} {bs : List UInt8} (h : Lit V g bs) (o : Obj) : Lit (V.alloc o) g bs := by
  have hl := h.lt
  obtain ⟨t, fr, h⟩ := h
  exact ⟨t, fr, (Below.heap_alloc V o g hl).trans h⟩
theorem freeze_block (V : World) (a : Addr) (n g : Nat) {cs : Array Value} {t : TypeId} {fr : Nat × Nat} (h : V.heap[g]? = some (.cells cs t fr)) : ∃ fr', (V.freeze a n).heap[g]? = some (.cells cs t fr') := by
  unfold World.freeze
  split
  · exact ⟨fr, h⟩
  · rw [Array.getElem?_modify]
    by_cases hg : a.block = g
    · subst hg
      rw [if_pos rfl, h]
      exact ⟨_, rfl⟩
    · rw [if_neg hg]; exact ⟨fr, h⟩
theorem Lit.freeze {V : World} {g : Nat} {bs : List UInt8} (h : Lit V g bs) (a : Addr) (n : Nat) : Lit (V.freeze a n) g bs := by
  obtain ⟨t, fr, h⟩ := h
  obtain ⟨fr', h'⟩ := freeze_block V a n g h
  exact ⟨t, fr', h'⟩
theorem below_freeze {B : Nat} {W V : World} (h : Below B W V) (a : Addr) (ha : B ≤ a.block) (n : Nat) : Below B W (V.freeze a n) := by
  refine ⟨?_, ?_, ?_, ?_, fun k hk => ?_⟩
  · unfold World.freeze; split <;> exact h.os
  · unfold World.freeze; split <;> exact h.tape
  · unfold World.freeze; split <;> exact h.output
  · unfold World.freeze; split
    · exact h.size
    · simpa using h.size
  · unfold World.freeze; split
    · exact h.block k hk
    · simp only
      rw [Array.getElem?_modify, if_neg (by omega)]; exact h.block k hk
theorem wpList_convSelf {P : Program} {V : World} {ops : Array Oper} {rest : List Oper} {o : Oper} {a : Act} {Q : Exit → Act → World → Prop} (hgd : o.guard = none) (t e : TypeId) (x : Operand) (ho : o.op = .convert t t x)
    (ht : P.underlying t = some (.slice e)) (he : P.underlying e = some (.int .u8)) (g n c : Nat) (hx : a.eval x = .slice (some ⟨g, 0, none⟩) n c) (bs : List UInt8) (hg : Lit V g bs)
    (h : ∀ k, wpList P ops Q rest (a.put o.dst (.slice (some ⟨g, 0, none⟩) n c)) (V.freeze ⟨g, k, none⟩ 1)) : wpList P ops Q (o :: rest) a V := by
  refine wpList_plain hgd fun K hK => ?_
  obtain ⟨t', fr, hg⟩ := hg
  have hsh : V.shape? g = some (t', bs.length) := by unfold World.shape?; rw [hg]; simp
  have hr : (convert t t (.slice (some ⟨g, 0, none⟩) n c)).run P V = .ok (.slice (some ⟨g, 0, none⟩) n c) (V.freeze ⟨g, bs.length, none⟩ 1) := by
    simp [convert, run_underlying ht, run_underlying he, markStringish, hsh]
  unfold Oper.wp execOp
  simp only [ho, hx, Sem.run_bind, hr, Result.andThen_ok, Sem.run_pure]
  exact hK _ _ (h _)
/-- the world behind a point of a walk by plan, the class staying -/
theorem mix_atC {P : Program} {ops : Array Oper} {K : Act → World → Prop} {p : Plan} {S : World → Prop} {a : Act} {w : World} (R : World → Prop) (hR : R w) (h : ∀ W, R W → mixW P ops K p S a W) : mixW P ops K p S a w := h w hR
end Go.Proofs.YtcdkadidkkbhpaaDoor
