/- The walk of the reference's Mac. No condition. -/
import Derived.Test.YtbhmmoecoijojaaDoorRefF
namespace Go.Proofs.YtbhmmoecoijojaaDoor
open Go.RowKit
/-- append of one byte, out of a slice literal, onto a row of the call's own -/
theorem wpList_append1 {wr : World} {ops : Array Oper} {rest : List Oper} {o : Oper} {a : Act} {Q : Exit → Act → World → Prop} (hgd : o.guard = none) (s x : Operand)
    (ho : o.op = .call { callee := .builtin .append, args := #[s, x], argTypes := #[32, 32] })
    (base : Nat) (v : Value) (xs : List Value) (hs : a.eval s = v) (hown : wr.ownsRow base 5 1 v xs.length xs) (u : Value) (hu : u.oneCell' = true)
    (hx : a.eval x = .slice (some ⟨wr.heap.size, 0, none⟩) 1 1) (hlen : xs.length + 1 ≤ 140737488355328) (hbase : base ≤ wr.heap.size) (w0 : World) (hbel : Below base w0 wr)
    (h : ∀ v' w', w'.ownsRow base 5 1 v' (xs ++ [u]).length (xs ++ [u]) → Below base w0 w' → wpList Tryd.prog ops Q rest (a.put o.dst v') w') :
    wpList Tryd.prog ops Q (o :: rest) a (wr.alloc (Obj.cells #[u] 5)) := by
  obtain ⟨i0, hi, hz0, hz1, hz2⟩ := info_parts (by kernel_rfl : (Tryd.prog.info? 5).map (fun i => (i.zero, i.size, i.bytes)) = some (some (.int .u8 0), 1, 1))
  have hbt : base ≤ (wr.alloc (Obj.cells #[u] 5)).heap.size := Nat.le_trans hbase (below_new1 wr _).size
  refine wpList_appendR hgd s x _ ho base 5 i0 _ 1 Tryd.underlying32 hi hz0 hz1 hz2 rfl v xs hs (own_below hown (below_new1 wr _)) (wr.heap.size + 1) (some ⟨wr.heap.size, 0, none⟩) 1 1 [u] hx (show Reads (wr.alloc (Obj.cells #[u] 5)) (wr.heap.size + 1) (some ⟨wr.heap.size, 0, none⟩) [u] from Reads.of_blk (Blk.new wr 5 #[u]) (by omega) 0) rfl (fun u' hu' => by rw [List.mem_singleton] at hu'; subst hu'; exact hu) (by unfold maxLen; omega) (by omega) hbt ?_
  intro v' w' hown' hg hat
  exact h v' w' hown' (below_own (hbel.trans ((below_new1 wr _).mono hbase)) (own_below hown (below_new1 wr _)) hg hbt)
theorem own_grown {w w' : World} {base : Nat} {e : TypeId} {size n : Nat} {v : Value} {xs : List Value} {row : Option Nat} (h : w.ownsRow base e size v n xs) (hg : w.grownBy w' row) (hne : ∀ g, v.ownBlock = some g → row ≠ some g) : w'.ownsRow base e size v n xs := by
  refine ⟨h.1, ?_⟩
  rcases h.2 with h0 | ⟨g, cap, cur, hv, hbs, hh, hrest⟩
  · exact .inl h0
  · exact .inr ⟨g, cap, cur, hv, hbs, Blk.grown (show Blk w g e cur from hh) hg (hne g (by rw [hv]; rfl)).symm, hrest⟩
theorem own_lt {w : World} {base : Nat} {e : TypeId} {size n : Nat} {v : Value} {xs : List Value} (h : w.ownsRow base e size v n xs) : ∀ g, v.ownBlock = some g → g < w.heap.size := by
  intro g hg
  rcases h.2 with ⟨rfl, _⟩ | ⟨g', cap, cur, hv, hbs, hh, hrest⟩
  · cases hg
  · rw [hv] at hg; cases hg; exact Blk.lt (show Blk w g' e cur from hh)
/-- two rows lie apart -/
def Apart (u v : Value) : Prop := ∀ g, u.ownBlock = some g → v.ownBlock ≠ some g
theorem Apart.symm {u v : Value} (h : Apart u v) : Apart v u := fun g h1 h2 => h g h2 h1
theorem own_cell {w : World} {base g off n cap m : Nat} {e : TypeId} {xs : List Value} (h : w.ownsRow base e 1 (.slice (some ⟨g, off, none⟩) n cap) m xs) (j : Nat) (u : Value) (hj : xs[j]? = some u) : w.cell? ⟨g, off + j, none⟩ = some u := by
  obtain ⟨A, c, he, _, _, hr⟩ := Reads.own h
  injection he with he _ _
  subst he
  obtain ⟨b, o, he2, _, hc⟩ := hr (by cases xs with | nil => simp at hj | cons a l => simp)
  injection he2 with he2
  injection he2 with e1 e2 _
  subst e1; subst e2
  exact hc j u hj
/-- the first i bytes of the key, turned -/
@[irreducible] def xorL (P : List UInt8) (c : UInt8) (i : Nat) : List UInt8 := (List.range i).map fun p => P.getD p 0 ^^^ c
theorem xorL_succ (P : List UInt8) (c : UInt8) (i : Nat) : (xorL P c (i + 1)).map v8 = (xorL P c i).map v8 ++ [v8 (P.getD i 0 ^^^ c)] := by
  unfold xorL; rw [List.range_succ, List.map_append, List.map_append]; rfl
theorem xorL_len (P : List UInt8) (c : UInt8) (i : Nat) : (xorL P c i).length = i := by simp [xorL]
/-- append of one byte, with what it leaves of the other rows -/
theorem wpList_append1D {wr : World} {ops : Array Oper} {rest : List Oper} {o : Oper} {a : Act} {Q : Exit → Act → World → Prop} (hgd : o.guard = none) (s x : Operand)
    (ho : o.op = .call { callee := .builtin .append, args := #[s, x], argTypes := #[32, 32] })
    (base : Nat) (v : Value) (xs : List Value) (hs : a.eval s = v) (hown : wr.ownsRow base 5 1 v xs.length xs) (u : Value) (hu : u.oneCell' = true)
    (hx : a.eval x = .slice (some ⟨wr.heap.size, 0, none⟩) 1 1) (hlen : xs.length + 1 ≤ 140737488355328) (hbase : base ≤ wr.heap.size) (w0 : World) (hbel : Below base w0 wr)
    (h : ∀ v' w', w'.ownsRow base 5 1 v' (xs ++ [u]).length (xs ++ [u]) → Below base w0 w' → (∀ v2 n2 ys, wr.ownsRow base 5 1 v2 n2 ys → Apart v v2 → w'.ownsRow base 5 1 v2 n2 ys ∧ Apart v' v2) → wpList Tryd.prog ops Q rest (a.put o.dst v') w') :
    wpList Tryd.prog ops Q (o :: rest) a (wr.alloc (Obj.cells #[u] 5)) := by
  obtain ⟨i0, hi, hz0, hz1, hz2⟩ := info_parts (by kernel_rfl : (Tryd.prog.info? 5).map (fun i => (i.zero, i.size, i.bytes)) = some (some (.int .u8 0), 1, 1))
  have hbt : base ≤ (wr.alloc (Obj.cells #[u] 5)).heap.size := Nat.le_trans hbase (below_new1 wr _).size
  refine wpList_appendR hgd s x _ ho base 5 i0 _ 1 Tryd.underlying32 hi hz0 hz1 hz2 rfl v xs hs (own_below hown (below_new1 wr _)) (wr.heap.size + 1) (some ⟨wr.heap.size, 0, none⟩) 1 1 [u] hx (show Reads (wr.alloc (Obj.cells #[u] 5)) (wr.heap.size + 1) (some ⟨wr.heap.size, 0, none⟩) [u] from Reads.of_blk (Blk.new wr 5 #[u]) (by omega) 0) rfl (fun u' hu' => by rw [List.mem_singleton] at hu'; subst hu'; exact hu) (by unfold maxLen; omega) (by omega) hbt ?_
  intro v' w' hown' hg hat
  refine h v' w' hown' (below_own (hbel.trans ((below_new1 wr _).mono hbase)) (own_below hown (below_new1 wr _)) hg hbt) ?_
  intro v2 n2 ys h2 hap
  refine ⟨own_grown (own_below h2 (below_new1 wr _)) hg (fun g hg2 hg1 => hap g hg1 hg2), fun g hg1 hg2 => ?_⟩
  rcases hat with hat | hat
  · exact hap g (by rw [← hat]; exact hg1) hg2
  · have := own_lt h2 g hg2
    rw [hat] at hg1
    injection hg1 with hg1
    have hs2 : (wr.alloc (Obj.cells #[u] 5)).heap.size = wr.heap.size + 1 := by simp
    omega
/-- append of a slice that is read, onto a row of the call's own -/
theorem wpList_appendS {wr : World} {ops : Array Oper} {rest : List Oper} {o : Oper} {a : Act} {Q : Exit → Act → World → Prop} (hgd : o.guard = none) (s x : Operand)
    (ho : o.op = .call { callee := .builtin .append, args := #[s, x], argTypes := #[32, 32] })
    (base : Nat) (v : Value) (xs bs : List UInt8) (hs : a.eval s = v) (hown : wr.ownsRow base 5 1 v (xs.map v8).length (xs.map v8))
    (B : Nat) (A : Option Addr) (m c : Nat) (hx : a.eval x = .slice A m c) (hm : bs.length = m) (hr : Reads wr B A (bs.map v8)) (hlen : xs.length + bs.length ≤ 140737488355328) (hbase : base ≤ wr.heap.size) (w0 : World) (hbel : Below base w0 wr)
    (h : ∀ v' w', w'.ownsRow base 5 1 v' ((xs ++ bs).map v8).length ((xs ++ bs).map v8) → Below base w0 w' → wpList Tryd.prog ops Q rest (a.put o.dst v') w') :
    wpList Tryd.prog ops Q (o :: rest) a wr := by
  obtain ⟨i0, hi, hz0, hz1, hz2⟩ := info_parts (by kernel_rfl : (Tryd.prog.info? 5).map (fun i => (i.zero, i.size, i.bytes)) = some (some (.int .u8 0), 1, 1))
  refine wpList_appendR hgd s x _ ho base 5 i0 _ 1 Tryd.underlying32 hi hz0 hz1 hz2 rfl v (xs.map v8) hs hown B A m c (bs.map v8) hx hr (by rw [List.length_map]; exact hm) (oneCell_v8 _) (by unfold maxLen; rw [List.length_map]; omega) (by rw [List.length_map]; omega) hbase ?_
  intro v' w' hown' hg hat
  rw [← List.map_append] at hown'
  exact h v' w' hown' (below_own hbel hown hg hbase)
/-- append of a slice that is read, with what it leaves of the other rows -/
theorem wpList_appendSD {wr : World} {ops : Array Oper} {rest : List Oper} {o : Oper} {a : Act} {Q : Exit → Act → World → Prop} (hgd : o.guard = none) (s x : Operand)
    (ho : o.op = .call { callee := .builtin .append, args := #[s, x], argTypes := #[32, 32] })
    (base : Nat) (v : Value) (xs bs : List UInt8) (hs : a.eval s = v) (hown : wr.ownsRow base 5 1 v (xs.map v8).length (xs.map v8))
    (B : Nat) (A : Option Addr) (m c : Nat) (hx : a.eval x = .slice A m c) (hm : bs.length = m) (hr : Reads wr B A (bs.map v8)) (hlen : xs.length + bs.length ≤ 140737488355328) (hbase : base ≤ wr.heap.size) (w0 : World) (hbel : Below base w0 wr)
    (h : ∀ v' w', w'.ownsRow base 5 1 v' ((xs ++ bs).map v8).length ((xs ++ bs).map v8) → Below base w0 w' → (∀ v2 n2 ys, wr.ownsRow base 5 1 v2 n2 ys → Apart v v2 → w'.ownsRow base 5 1 v2 n2 ys ∧ Apart v' v2) → wpList Tryd.prog ops Q rest (a.put o.dst v') w') :
    wpList Tryd.prog ops Q (o :: rest) a wr := by
  obtain ⟨i0, hi, hz0, hz1, hz2⟩ := info_parts (by kernel_rfl : (Tryd.prog.info? 5).map (fun i => (i.zero, i.size, i.bytes)) = some (some (.int .u8 0), 1, 1))
  refine wpList_appendR hgd s x _ ho base 5 i0 _ 1 Tryd.underlying32 hi hz0 hz1 hz2 rfl v (xs.map v8) hs hown B A m c (bs.map v8) hx hr (by rw [List.length_map]; exact hm) (oneCell_v8 _) (by unfold maxLen; rw [List.length_map]; omega) (by rw [List.length_map]; omega) hbase ?_
  intro v' w' hown' hg hat
  rw [← List.map_append] at hown'
  refine h v' w' hown' (below_own hbel hown hg hbase) fun v2 n2 ys h2 hap => ⟨own_grown h2 hg (fun g hg2 hg1 => hap g hg1 hg2), fun g hg1 hg2 => ?_⟩
  rcases hat with hat | hat
  · exact hap g (by rw [← hat]; exact hg1) hg2
  · have := own_lt h2 g hg2
    rw [hat] at hg1
    injection hg1 with hg1
    omega
theorem own_emptyB (w : World) (base : Nat) (hb : base ≤ w.heap.size) : (w.alloc (.cells #[] 5)).ownsRow base 5 1 (.slice (some ⟨w.heap.size, 0, none⟩) 0 0) (([] : List UInt8).map v8).length (([] : List UInt8).map v8) :=
  own_empty w base 5 hb
theorem keyL_len (key : List UInt8) : (keyL key).length ≤ 64 := by
  unfold keyL; split
  · rw [sha_length]; decide
  · omega
theorem getD_zerosB (l : List UInt8) (n p : Nat) : (l ++ List.replicate n 0).getD p 0 = l.getD p 0 := by
  rw [List.getD_eq_getElem?_getD, List.getD_eq_getElem?_getD]
  by_cases hp : p < l.length
  · rw [List.getElem?_append_left hp]
  · rw [List.getElem?_append_right (by omega), List.getElem?_eq_none (l := l) (by omega), List.getElem?_replicate]; split <;> rfl
attribute [local go_sem] n64_lo n64_hi n8_lo n8_hi xor8_54 xor8_92
set_option maxHeartbeats 1000000 in
set_option maxRecDepth 100000 in
theorem rmac_any (t uk ub : Value) (key b : List UInt8) (w : World) (ht : Tbl w w.heap.size t) (hk : BSl w w.heap.size uk key) (hb : BSl w w.heap.size ub b) (hkl : key.length ≤ 140737488355128) (hbl : b.length ≤ 140737488355128) :
    Calls Tryd.prog 72 #[t, uk, ub] w fun e w' => e = .returned (.agg (dat (mac key b))) ∧ Below w.heap.size w w' := by
  obtain ⟨gt, rfl, hgt, hT⟩ := ht
  obtain ⟨A, cap, rfl, hc1, hc2, hr⟩ := hk
  have hb0 := hb
  obtain ⟨Ab, capb, rfl, hd1, hd2, hrb⟩ := hb
  go_enter Tryd.func72, Tryd.ntmps72
  have hR0 := Blk.new w 27 (arr 32 fun _ => 0)
  have hw0 := below_new1 w (Obj.cells (arr 32 fun _ => 0) 27)
  have hz : (w.alloc (Obj.cells (arr 32 fun _ => 0) 27)).heap.size = w.heap.size + 1 := by simp
  go_upto_if 18 with (first
    | (refine wpl_at (w := w.alloc (Obj.cells _ 27)) (fun W => Blk W w.heap.size 27 (arr 32 fun _ => 0) ∧ Below w.heap.size w W ∧ W.heap.size = w.heap.size + 1) ⟨hR0, hw0, hz⟩ ?_; clear hR0 hw0 hz; rintro w0 ⟨hR0, hw0, hz⟩; have hr0 := hr.below hw0; have hn1 : Below (w.heap.size + 1) w0 (w0.alloc (Obj.cells #[] 5)) := (by have := below_new1 w0 (Obj.cells #[] 5); rw [hz] at this; exact this); have hoe : (w0.alloc (Obj.cells #[] 5)).ownsRow (w.heap.size + 1) 5 1 (.slice (some ⟨w.heap.size + 1, 0, none⟩) 0 0) (([] : List UInt8).map v8).length (([] : List UInt8).map v8) := (by have := own_emptyB w0 w0.heap.size (Nat.le_refl _); rw [hz] at this; exact this))
    | (at_builtin; refine wpList_appendS rfl (.tmp 13) (.tmp 14) rfl (w.heap.size + 1) _ [] key rfl hoe _ A _ _ rfl rfl (hr0.below (hn1.mono (by omega))) (by simp; omega) (by have := hn1.size; omega) w0 hn1 ?_; intro u1 w1 hown1 hb1; simp only [List.nil_append] at hown1; obtain ⟨A1, cap1, hu1e, hf1, hf2, hrd1⟩ := Reads.own hown1; rw [List.length_map] at hu1e hf1; subst hu1e))
  go_cut [7] (fun v wx => ∃ A2 c2, v = .slice A2 (keyL key).length c2 ∧ (keyL key).length ≤ c2 ∧ c2 ≤ 9223372036854775807 ∧ wx.ownsRow (w.heap.size + 1) 5 1 v ((keyL key).map v8).length ((keyL key).map v8) ∧ Below (w.heap.size + 1) w0 wx)
  case first =>
    by_cases hlong : 64 < key.length
    · have hbel1 : Below w.heap.size w w1 := hw0.trans (hb1.mono (by omega))
      have hT1 : Tbl w1 w1.heap.size (.pointer (some ⟨gt, 0, none⟩)) := ⟨gt, rfl, Nat.lt_of_lt_of_le hgt hbel1.size, hT.below hbel1 hgt⟩
      have hkl1 : keyL key = sha key := if_pos hlong
      have Hk := Lib.hid hkl1
      have hshaL := Lib.hid (sha_length key)
      go_wp2_with fail
      refine (rsum_any _ _ key w1 hT1 ⟨A1, cap1, rfl, hf1, hf2, hrd1⟩ (by omega)).mono ?_
      rintro e w2 ⟨rfl, hb2⟩
      have hb2' : Below (w.heap.size + 1) w0 w2 := hb1.trans (hb2.mono (by have := hb1.size; omega))
      have hD := Blk.new w2 27 (arr 32 fun _ => 0)
      have hz2 : w.heap.size + 1 ≤ w2.heap.size := by have := hb2'.size; omega
      have hb3 := hb2'.alloc hz2 (Obj.cells (arr 32 fun _ => 0) 27)
      have hz3 : w.heap.size + 1 ≤ (w2.alloc (Obj.cells (arr 32 fun _ => 0) 27)).heap.size := Nat.le_trans hz2 (below_new1 w2 _).size
      go_wp2_with (first
        | (refine wpList_storeDat rfl rfl 27 (.tmp 8) (.tmp 21) rfl w2.heap.size rfl _ _ rfl _ hD (by kernel_rfl) ?_; intro w4 hD4 hon4; have hb4 := below_only hb3 hon4 hz2 hz3; have hz4 : w.heap.size + 1 ≤ w4.heap.size := (by have := hb4.size; omega); have hrd4 : Reads w4 w4.heap.size (some ⟨w2.heap.size, 0, none⟩) ((sha key).map v8) := (by have h9 := Reads.of_blk hD4 hD4.lt 0; rw [dat_eq _ hshaL.out] at h9; exact h9); have hoe4 := own_emptyB w4 (w.heap.size + 1) hz4; have hb5 := hb4.alloc hz4 (Obj.cells #[] 5))
        | (at_builtin; refine wpList_appendS rfl (.tmp 22) (.tmp 23) rfl (w.heap.size + 1) _ [] (sha key) rfl hoe4 _ _ _ _ rfl hshaL.out (hrd4.below (below_new1 w4 _)) (by rw [hshaL.out]; simp) (by have := hb5.size; omega) w0 hb5 ?_; intro u6 w6 hown6 hb6; simp only [List.nil_append] at hown6; obtain ⟨A6, c6, hu6, hf6, hf7, hrd6⟩ := Reads.own hown6; rw [List.length_map] at hu6 hf6; subst hu6))
      go_meet
      rw [Hk.out]
      exact ⟨A6, c6, rfl, hf6, hf7, hown6, hb6⟩
    · have hkl1 : keyL key = key := if_neg hlong
      have Hk := Lib.hid hkl1
      clear hkl1
      go_wp2_with fail
      go_meet
      rw [Hk.out]
      exact ⟨A1, cap1, rfl, hf1, hf2, hown1, hb1⟩
  case rest =>
    obtain ⟨A2, c2, rfl, hf1', hf2', hown, hbc⟩ := hcut
    have hkL := keyL_len key
    have Hmac := Lib.hid (show mac key b = sha (((List.range 64).map fun p => (keyL key).getD p 0 ^^^ 92) ++ sha (((List.range 64).map fun p => (keyL key).getD p 0 ^^^ 54) ++ b)) from rfl)
    generalize keyL key = kl at *
    clear hown1 hb1 hrd1 hf1 hf2 hoe hn1
    go_wp2_with fail
    go_loopw [7] (fun v wr => ∃ k : Nat, kl.length + k ≤ 64 ∧ lenOf v = kl.length + k ∧ wr.ownsRow (w.heap.size + 1) 5 1 v ((kl ++ List.replicate k 0).map v8).length ((kl ++ List.replicate k 0).map v8) ∧ Below (w.heap.size + 1) w0 wr) (fun v _ => 64 - lenOf v)
    case atStart => exact ⟨0, by omega, rfl, by simpa using hown, hbc⟩
    case round =>
      clear hown hbc hf1' hf2'
      obtain ⟨k, hk, hlen, hown, hb⟩ := hrel
      obtain ⟨A7, c7, rfl, hg1, hg2, hrd⟩ := Reads.own hown
      have hml : ((kl ++ List.replicate k (0 : UInt8)).map v8).length = kl.length + k := by simp
      have hbs : w.heap.size + 1 ≤ wr.heap.size := by have := hb.size; omega
      have hown' : wr.ownsRow (w.heap.size + 1) 5 1 (.slice A7 (kl.length + k) c7) ((kl ++ List.replicate k 0).map v8).length ((kl ++ List.replicate k 0).map v8) := by rw [hml] at hown ⊢; exact hown
      have hlen1 := Lib.hid (show ((kl ++ List.replicate k (0 : UInt8)).map v8).length + 1 ≤ 140737488355328 by rw [hml]; omega)
      rw [hml]
      clear hlen hown
      by_cases hlt : kl.length + k < 64
      · clear hrd hg1
        go_wp2_with (first
          | (at_builtin; refine wpList_append1 rfl (.tmp 28) (.tmp 29) rfl (w.heap.size + 1) _ _ rfl hown' (v8 0) rfl rfl hlen1.out hbs w0 hb ?_; intro u3 w3 hown3 hb3))
        go_roundw
        case rel =>
          obtain ⟨A3, c3, rfl, _⟩ := Reads.own hown3
          refine ⟨k + 1, by omega, ?_, ?_, hb3⟩
          · simp only [lenOf, List.length_append, hml]; simp; omega
          · rw [show (kl ++ List.replicate (k + 1) (0 : UInt8)).map v8 = (kl ++ List.replicate k 0).map v8 ++ [v8 0] by rw [List.replicate_succ', ← List.append_assoc, List.map_append]; rfl]; exact hown3
        case measure =>
          obtain ⟨A3, c3, rfl, _⟩ := Reads.own hown3
          simp only [lenOf, List.length_append, hml]
          show 64 - (kl.length + k + 1) < 64 - (kl.length + k)
          omega
      · have e64 : kl.length + k = 64 := by omega
        have hgetD := getD_zerosB kl k
        generalize kl ++ List.replicate k 0 = P at *
        rw [e64] at hown' hml ⊢
        go_wp2_with fail
        obtain ⟨b7, o7, rfl, _, _⟩ := hrd (by rw [hml]; decide)
        have hPl : P.length = 64 := by rw [← hml, List.length_map]
        clear hrd hg1 hlen1
        go_loopw [9, 10, 11] (fun v9 v10 iv wr => ∃ i : Nat, i ≤ 64 ∧ iv = .int .i64 i ∧ wr.ownsRow (w.heap.size + 1) 5 1 (.slice (some ⟨b7, o7, none⟩) 64 c7) (P.map v8).length (P.map v8) ∧ wr.ownsRow (w.heap.size + 1) 5 1 v9 ((xorL P 54 i).map v8).length ((xorL P 54 i).map v8) ∧ wr.ownsRow (w.heap.size + 1) 5 1 v10 ((xorL P 92 i).map v8).length ((xorL P 92 i).map v8) ∧ Apart v9 (.slice (some ⟨b7, o7, none⟩) 64 c7) ∧ Apart v10 (.slice (some ⟨b7, o7, none⟩) 64 c7) ∧ Apart v9 v10 ∧ Below (w.heap.size + 1) w0 wr) (fun _ _ iv _ => 64 - (intOf iv).toNat)
        case atStart => exact ⟨0, by omega, rfl, hown', (by rw [show xorL P 54 0 = [] by unfold xorL; rfl]; exact own_none _ _ _), (by rw [show xorL P 92 0 = [] by unfold xorL; rfl]; exact own_none _ _ _), (fun g h => by cases h), (fun g h => by cases h), (fun g h => by cases h), hb⟩
        case round =>
          clear hown' hb hbs
          obtain ⟨i, hi, rfl, own7, own9, own10, ap97, ap107, ap910, hb⟩ := hrel
          have hbs : w.heap.size + 1 ≤ wr.heap.size := by have := hb.size; omega
          by_cases hlt : i < 64
          · have hPi : (P.map v8)[i]? = some (.int .u8 (n8 (P.getD i 0))) := by rw [List.getElem?_map, List.getD_eq_getElem?_getD, List.getElem?_eq_getElem (by omega)]; rfl
            have hc7 := own_cell own7 i _ hPi
            have hl9 := Lib.hid (show ((xorL P 54 i).map v8).length + 1 ≤ 140737488355328 by rw [List.length_map, xorL_len]; omega)
            have hl10 := Lib.hid (show ((xorL P 92 i).map v8).length + 1 ≤ 140737488355328 by rw [List.length_map, xorL_len]; omega)
            have hs9 := Lib.hid (xorL_succ P 54 i)
            have hs10 := Lib.hid (xorL_succ P 92 i)
            generalize P.getD i 0 = pb at *
            have HPi := Lib.hid hPi
            clear hPi
            have H7 := Lib.hid own7
            have H9 := Lib.hid own9
            have H10 := Lib.hid own10
            clear own7 own9 own10
            go_wp2_with (first
              | (at_builtin; refine wpList_append1D rfl (.tmp 35) (.tmp 41) rfl (w.heap.size + 1) _ _ rfl H9.out _ rfl rfl hl9.out hbs w0 hb ?_; intro u3 w3 hown3 hb3 hoth3; have h73 := hoth3 _ _ _ H7.out ap97; have h103 := hoth3 _ _ _ H10.out ap910; have hc73 := own_cell h73.1 i _ HPi.out; have hbs3 : w.heap.size + 1 ≤ w3.heap.size := (by have := hb3.size; omega))
              | (at_builtin; refine wpList_append1D rfl (.tmp 43) (.tmp 49) rfl (w.heap.size + 1) _ _ rfl h103.1 _ rfl rfl hl10.out hbs3 w0 hb3 ?_; intro u4 w4 hown4 hb4 hoth4; have h74 := hoth4 _ _ _ h73.1 ap107; have h94 := hoth4 _ _ _ hown3 h103.2.symm))
            go_roundw
            case rel =>
              refine ⟨i + 1, by omega, by go_num, h74.1, ?_, ?_, h73.2, h74.2, h94.2.symm, hb4⟩
              · rw [hs9.out]; exact h94.1
              · rw [hs10.out]; exact hown4
            case measure => simp [intOf]; omega
          · have ei : i = 64 := by omega
            subst ei
            have hx54 : xorL P 54 64 = (List.range 64).map fun p => kl.getD p 0 ^^^ 54 := by unfold xorL; simp only [hgetD]
            have hx92 : xorL P 92 64 = (List.range 64).map fun p => kl.getD p 0 ^^^ 92 := by unfold xorL; simp only [hgetD]
            have H1 := Hmac.out
            rw [← hx54, ← hx92] at H1
            have Hm := Lib.hid H1
            have hl54 := xorL_len P 54 64
            have hl92 := xorL_len P 92 64
            generalize xorL P 54 64 = X54 at *
            generalize xorL P 92 64 = X92 at *
            clear hx54 hx92 H1 Hmac own7 ap97 ap107
            have hbw : Below w.heap.size w wr := hw0.trans (hb.mono (by omega))
            have hrb2 := hrb.below hbw
            have H9 := Lib.hid own9
            clear own9
            go_wp2_with (first
              | (at_builtin; refine wpList_appendSD rfl (.tmp 52) (.tmp 53) rfl (w.heap.size + 1) _ X54 b rfl H9.out _ Ab _ _ rfl rfl hrb2 (by omega) hbs w0 hb ?_; intro u3 w3 hown3 hb3 hoth3; have h103 := hoth3 _ _ _ own10 ap910))
            have hbw3 : Below w.heap.size w w3 := hw0.trans (hb3.mono (by omega))
            have hz3 : w.heap.size + 1 ≤ w3.heap.size := by have := hb3.size; omega
            have hBL3 := BSl.of_own hown3
            have hl3 : (X54 ++ b).length ≤ 140737488355200 := by rw [List.length_append]; omega
            have hT3 : Tbl w3 w3.heap.size (.pointer (some ⟨gt, 0, none⟩)) := ⟨gt, rfl, Nat.lt_of_lt_of_le hgt hbw3.size, hT.below hbw3 hgt⟩
            generalize X54 ++ b = Y at *
            have hsY := Lib.hid (sha_length Y)
            refine (rsum_any _ _ Y w3 hT3 hBL3 hl3).mono ?_
            rintro e w4 ⟨rfl, hb4⟩
            have hb4' := hb3.trans (hb4.mono hz3)
            have hz4 : w.heap.size + 1 ≤ w4.heap.size := by have := hb4'.size; omega
            have h104 := own_below h103.1 hb4
            have hD := Blk.new w4 27 (arr 32 fun _ => 0)
            have hb5 := hb4'.alloc hz4 (Obj.cells (arr 32 fun _ => 0) 27)
            have hz5 : w.heap.size + 1 ≤ (w4.alloc (Obj.cells (arr 32 fun _ => 0) 27)).heap.size := Nat.le_trans hz4 (below_new1 w4 _).size
            have h105 := own_below h104 (below_new1 w4 (Obj.cells (arr 32 fun _ => 0) 27))
            have hlt10 := own_lt h104
            go_wp2_with (first
              | (refine wpList_storeDat rfl rfl 27 (.tmp 12) (.tmp 55) rfl w4.heap.size rfl _ _ rfl _ hD (by kernel_rfl) ?_; intro w6 hD6 hon6; have hb6 := below_only hb5 hon6 hz4 hz5; have hz6 : w.heap.size + 1 ≤ w6.heap.size := (by have := hb6.size; omega); have hrd6 : Reads w6 w6.heap.size (some ⟨w4.heap.size, 0, none⟩) ((sha Y).map v8) := (by have h9 := Reads.of_blk hD6 hD6.lt 0; rw [dat_eq _ hsY.out] at h9; exact h9); have h106 := own_grown h105 hon6 (fun g hg e => by have := hlt10 g hg; injection e with e; omega))
              | (at_builtin; refine wpList_appendS rfl (.tmp 57) (.tmp 58) rfl (w.heap.size + 1) _ X92 (sha Y) rfl h106 _ _ _ _ rfl hsY.out hrd6 (by rw [hsY.out]; omega) hz6 w0 hb6 ?_; intro u7 w7 hown7 hb7))
            have hbw7 : Below w.heap.size w w7 := hw0.trans (hb7.mono (by omega))
            have hz7 : w.heap.size + 1 ≤ w7.heap.size := by have := hb7.size; omega
            have hBL7 := BSl.of_own hown7
            have hl7 : (X92 ++ sha Y).length ≤ 140737488355200 := by rw [List.length_append, hsY.out]; omega
            have hT7 : Tbl w7 w7.heap.size (.pointer (some ⟨gt, 0, none⟩)) := ⟨gt, rfl, Nat.lt_of_lt_of_le hgt hbw7.size, hT.below hbw7 hgt⟩
            have hR7 := hR0.below hb7 (by omega)
            refine (rsum_any _ _ _ w7 hT7 hBL7 hl7).mono ?_
            rintro e w8 ⟨rfl, hb8⟩
            have hR8 := hR7.below hb8 hR7.lt
            have hbw8 := hbw7.trans (hb8.mono hbw7.size)
            go_wp2_with (first
              | (refine wpList_storeDat rfl rfl 27 (.tmp 6) (.tmp 60) rfl w.heap.size rfl _ _ rfl _ hR8 (by kernel_rfl) ?_; intro w9 hR9 hon9))
            have hb9 := below_only hbw8 hon9 (Nat.le_refl _) hbw8.size
            refine bodyPost_ret (results_cell_row (p := 6) (ty := 27) rfl _ _ w.heap.size _ _ _ _ rfl hR9 Tryd.underlying27 rfl (by kernel_rfl)) rfl ⟨?_, hb9⟩
            rw [Hm.out]
end Go.Proofs.YtbhmmoecoijojaaDoor
