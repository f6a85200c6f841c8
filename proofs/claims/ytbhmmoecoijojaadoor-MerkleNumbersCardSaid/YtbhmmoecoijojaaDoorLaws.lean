/- Laws of the walk in the words of Mem: copy and append from a slice that reads as a list. No condition. -/
import Derived.Test.YtbhmmoecoijojaaDoorMem
import Derived.Laws.CopyOwn
import Derived.Maps.AppendAt
import Derived.OwnWalk
import Derived.Laws.Slices
namespace Go.Proofs.YtbhmmoecoijojaaDoor
open Go Go.RowKit
/-- the world behind a point of the walk, by what is known of it -/
theorem wp_at {P : Program} {c : Code} {Q : Exit → Act → World → Prop} {a : Act} {w : World} (R : World → Prop) (hR : R w) (h : ∀ W, R W → c.wp P Q a W) : c.wp P Q a w := h w hR
theorem wpl_at {P : Program} {ops : Array Oper} {Q : Exit → Act → World → Prop} {l : List Oper} {a : Act} {w : World} (R : World → Prop) (hR : R w) (h : ∀ W, R W → wpList P ops Q l a W) : wpList P ops Q l a w := h w hR
theorem only_setRow (w : World) (g : Nat) (cs : Array Value) : w.grownBy (w.setRow g cs) (some g) :=
  ⟨rfl, rfl, rfl, by simp [World.setRow], fun k _ hne => setRow_other w g k cs (fun e => hne (by rw [e]))⟩
/-- what a copy leaves -/
def copied (cs : Array Value) (off : Nat) (xs : List Value) (m : Nat) : Array Value := (cs.toList.take off ++ (xs.take m ++ cs.toList.drop (off + (xs.take m).length))).toArray
section
variable {P : Program} {w : World} {ops : Array Oper} {rest : List Oper} {o : Oper} {a : Act} {Q : Exit → Act → World → Prop}
theorem wpList_copyR (hgd : o.guard = none) (d s : Operand) (dT sT : TypeId)
    (ho : o.op = .call { callee := .builtin .copy, args := #[d, s], argTypes := #[dT, sT] }) (elem : TypeId) (hu : P.underlying dT = some (.slice elem)) (hsz : (P.info? elem).map (·.size) = some 1)
    (g off dLen dCap : Nat) (A : Option Addr) (sLen sCap : Nat) (hd : a.eval d = .slice (some ⟨g, off, none⟩) dLen dCap) (hs : a.eval s = .slice A sLen sCap)
    (t : TypeId) (cs : Array Value) (hg : Blk w g t cs) (B : Nat) (xs : List Value) (hr : Reads w B A xs) (hlen : xs.length = sLen) (hfit : off + Nat.min sLen dLen ≤ cs.size) (h1 : ∀ v ∈ xs, v.oneCell' = true)
    (h : ∀ w', Blk w' g t (copied cs off xs dLen) → w.grownBy w' (some g) → wpList P ops Q rest (a.put o.dst (goInt (Nat.min sLen dLen))) w') :
    wpList P ops Q (o :: rest) a w := by
  have hn : (xs.take dLen).length = Nat.min sLen dLen := by rw [List.length_take, hlen]; exact Nat.min_comm _ _
  have hwhole : copied cs off xs dLen = (cs.toList.take off ++ (xs.take dLen ++ cs.toList.drop (off + (xs.take dLen).length))).toArray := rfl
  by_cases h0 : Nat.min sLen dLen = 0
  · refine wpList_copy_nothing hgd d s dT sT ho elem hu hsz _ A dLen dCap sLen sCap hd hs h0 ?_
    have he : xs.take dLen = [] := List.eq_nil_of_length_eq_zero (by rw [hn, h0])
    have := h w (by rw [hwhole, he]; simpa using hg) (World.grownBy.refl w _)
    rw [h0] at this
    exact this
  · have hpos : 0 < xs.length := by
      rcases Nat.eq_zero_or_pos xs.length with h' | h'
      · rw [List.length_take, h'] at hn; omega
      · exact h'
    obtain ⟨b, o2, rfl, hb, hc⟩ := hr hpos
    have hsrc : ∀ j v, (xs.take dLen)[j]? = some v → w.cell? ((⟨b, o2, none⟩ : Addr).add j) = some v := by
      intro j v hj
      rw [List.getElem?_take] at hj
      split at hj
      · have := hc j v hj
        unfold Addr.add
        split
        · rename_i e; subst e; exact this
        · exact this
      · cases hj
    refine wpList_copy_own hgd d s dT sT ho elem hu hsz g off dLen dCap ⟨b, o2, none⟩ sLen sCap hd hs cs t hg (xs.take dLen) hn hsrc (by rw [hn]; exact hfit) (fun v hv => h1 v (List.mem_of_mem_take hv)) ?_
    rw [← hwhole]
    have := h (w.setRow g (copied cs off xs dLen)) (setRow_heap w g cs _ t _ hg) (only_setRow w g _)
    rw [← hn] at this
    exact this
/-- append of a slice that reads as a list, nil let in, onto a row of the call's own -/
theorem wpList_appendR (hgd : o.guard = none) (s x : Operand) (t : TypeId)
    (ho : o.op = .call { callee := .builtin .append, args := #[s, x], argTypes := #[t, t] })
    (base : Nat) (e : TypeId) (i : TypeInfo) (z : Value) (bytes : Nat) (ht : P.underlying t = some (.slice e)) (hi : P.info? e = some i) (hz : i.zero = some z)
    (hsize : i.size = 1) (hby : i.bytes = bytes) (hzs : z.cells.size = 1)
    (v : Value) (xs : List Value) (hs : a.eval s = v) (hown : w.ownsRow base e 1 v xs.length xs)
    (B : Nat) (A : Option Addr) (m c : Nat) (news : List Value) (hx : a.eval x = .slice A m c) (hr : Reads w B A news) (hm : news.length = m) (h1 : ∀ u ∈ news, u.oneCell' = true)
    (h63 : xs.length + m ≤ maxLen) (hbytes : (xs.length + m) * bytes ≤ 140737488355328) (hbase : base ≤ w.heap.size)
    (h : ∀ v' w', w'.ownsRow base e 1 v' (xs ++ news).length (xs ++ news) → w.grownBy w' v.ownBlock → (v'.ownBlock = v.ownBlock ∨ v'.ownBlock = some w.heap.size) → wpList P ops Q rest (a.put o.dst v') w') : wpList P ops Q (o :: rest) a w := by
  refine wpList_plain hgd fun K hK => ?_
  have key : ∃ v' w', (Builtin.append_ #[t, t] o.type #[v, .slice A m c]).run P w = .ok v' w' ∧ w'.ownsRow base e 1 v' (xs ++ news).length (xs ++ news) ∧ w.grownBy w' v.ownBlock ∧ (v'.ownBlock = v.ownBlock ∨ v'.ownBlock = some w.heap.size) := by
    by_cases h0 : m = 0
    · subst h0
      have hn : news = [] := List.eq_nil_of_length_eq_zero hm
      subst hn
      refine ⟨v, w, ?_, by simpa using hown, World.grownBy.refl w _, .inl rfl⟩
      have hl0 : ∀ (x : Addr), (loadCells x 0).run P w = .ok #[] w := fun x => by simpa using run_loadCells_list (P := P) w x [] (by simp)
      rcases hown.2 with ⟨rfl, h2⟩ | ⟨g, cap, cur, rfl, _, _, hnc, _⟩
      · cases A <;> simp [Builtin.append_, run_underlying ht, sizeOf, typeInfo, hi, Builtin.lenOf, Builtin.firstCells, hl0]
      · cases A <;> simp [Builtin.append_, run_underlying ht, sizeOf, typeInfo, hi, Builtin.lenOf, Builtin.firstCells, hnc, storeCells, hl0]
    · obtain ⟨b, o2, rfl, hb, hc⟩ := hr (by omega)
      have hsrc : ∀ j v, news[j]? = some v → w.cell? ((⟨b, o2, none⟩ : Addr).add j) = some v := by
        intro j v hj
        have := hc j v hj
        unfold Addr.add
        split
        · rename_i e; subst e; exact this
        · exact this
      obtain ⟨v', w', hrun, h2, h3, _, h5⟩ := run_append_own_at (P := P) w base t o.type e i z 1 bytes ht hi hz hsize hby hzs (by decide) v xs.length xs hown ⟨b, o2, none⟩ m c news (by omega) hsrc h1 h63 hbytes hbase
      refine ⟨v', w', hrun, ?_, h3, h5⟩
      rw [List.length_append, hm]; exact h2
  obtain ⟨v', w', hrun, h2, h3, h4⟩ := key
  unfold Oper.wp execOp
  simp only [ho, resolve, invoke, builtin, Sem.run_bind, Sem.run_pure, Result.andThen_ok, List.map_toArray, List.map_cons, List.map_nil, hs, hx, hrun]
  exact hK _ _ (h v' w' h2 h3 h4)
end
/-- an owned row reads as its list -/
theorem Reads.of_own {w : World} {base : Nat} {e : TypeId} {A : Option Addr} {n c : Nat} {xs : List Value} (h : w.ownsRow base e 1 (.slice A n c) n xs) : Reads w w.heap.size A xs := by
  intro hx
  rcases h.2 with ⟨_, h0⟩ | ⟨g, cap, cur, hv, hb, hg, hnc, hcap, hsz, hcur⟩
  · rw [h.1, h0] at hx; simp at hx
  · injection hv with hA _ _
    subst hA
    refine ⟨g, 0, rfl, ?_, fun j u hu => ?_⟩
    · rcases Nat.lt_or_ge g w.heap.size with hlt | hge
      · exact hlt
      · rw [Array.getElem?_eq_none hge] at hg; cases hg
    · rw [Nat.zero_add, cell_of_row w g j cur e (0, 0) hg, ← hu, ← hcur, List.getElem?_take]
      have hj : j < n * 1 := by rw [← h.1]; exact (List.getElem?_eq_some_iff.1 hu).1
      rw [if_pos hj]; simp
section
variable {P : Program} {w : World} {ops : Array Oper} {rest : List Oper} {o : Oper} {a : Act} {Q : Exit → Act → World → Prop}
theorem copied_all (cs vs : Array Value) (h : vs.size = cs.size) : copied cs 0 vs.toList vs.size = vs := by
  unfold copied
  have e1 : vs.toList.take vs.size = vs.toList := List.take_of_length_le (by simp)
  rw [e1]
  have e2 : cs.toList.drop (0 + vs.toList.length) = [] := List.drop_of_length_le (by simp [h])
  rw [e2]
  simp
/-- a whole array is stored into a block (at place off) -/
theorem wpList_storeB (hgd : o.guard = none) (hdst : o.dst = none) (ty : TypeId) (x y : Operand) (ho : o.op = .store ty x y) (g off : Nat) (hx : a.eval x = .pointer (some ⟨g, off, none⟩)) (vs : Array Value) (hy : a.eval y = .agg vs)
    (t : TypeId) (cs : Array Value) (hg : Blk w g t cs) (hi : (P.info? ty).map (·.size) = some vs.size) (hfit : off + vs.size ≤ cs.size) (h1 : ∀ v ∈ vs.toList, v.oneCell' = true)
    (h : ∀ w', Blk w' g t (copied cs off vs.toList vs.size) → w.grownBy w' (some g) → wpList P ops Q rest a w') : wpList P ops Q (o :: rest) a w := by
  refine wpList_plain hgd fun K hK => ?_
  have hst := run_storeCells_at P g off t vs.toList 0 cs w hg (by simpa using hfit) h1
  have e1 : vs.toList.take vs.size = vs.toList := List.take_of_length_le (by simp)
  have hwhole : (cs.toList.take (off + 0) ++ vs.toList ++ cs.toList.drop (off + 0 + vs.toList.length)).toArray = copied cs off vs.toList vs.size := by
    unfold copied; rw [e1]; simp
  rw [hwhole] at hst
  have := h (w.setRow g (copied cs off vs.toList vs.size)) (setRow_heap w g cs _ t _ hg) (only_setRow w g _)
  unfold Oper.wp execOp
  obtain ⟨i, hi1, hi2⟩ : ∃ i, P.info? ty = some i ∧ i.size = vs.size := by
    cases hq : P.info? ty with
    | none => rw [hq] at hi; cases hi
    | some i => rw [hq] at hi; exact ⟨i, rfl, by simpa using hi⟩
  simp [ho, hx, hy, storeVar, sizeOf, typeInfo, hi1, hi2, Value.cells, hst, Instr.storeAt, Instr.sureAddr]
  have e2 : a.put o.dst undef = a := by rw [hdst]; rfl
  have h9 := hK _ _ this
  rw [← e2] at h9
  exact h9
end
theorem run_sliceAt_array_l {P : Program} {w : World} {t e : TypeId} {n : Nat} (a : Addr) (ht : P.underlying t = some (.array n e)) (hs : (P.info? e).map (·.size) = some 1) (kl : IntKind) (l : Int) (h0 : 0 ≤ l) (h1 : l < n) :
    (Instr.sliceAt t (.pointer (some a)) (some (.int kl l)) none none).run P w = .ok (.slice (some (a.add l.toNat)) (n - l.toNat) (n - l.toNat)) w := by
  obtain ⟨i, hi1, hi2⟩ : ∃ i, P.info? e = some i ∧ i.size = 1 := by
    cases hq : P.info? e with
    | none => rw [hq] at hs; cases hs
    | some i => rw [hq] at hs; exact ⟨i, rfl, by simpa using hs⟩
  have hne : ¬ n = l.toNat := by omega
  have hle : l ≤ (n : Int) := by omega
  simp [Instr.sliceAt, Instr.sureAddr, run_underlying ht, Instr.sliceBounds, run_sliceBound, hi1, hi2, sizeOf, typeInfo, h0, hle, hne]
theorem run_sliceAt_array_hh {P : Program} {w : World} {t e : TypeId} {n : Nat} (a : Addr) (ht : P.underlying t = some (.array n e)) (hs : (P.info? e).map (·.size) = some 1) (kh : IntKind) (h : Int) (h0 : 0 ≤ h) (h1 : h ≤ n) :
    (Instr.sliceAt t (.pointer (some a)) none (some (.int kh h)) none).run P w = .ok (.slice (some a) h.toNat n) w := by
  obtain ⟨i, hi1, hi2⟩ : ∃ i, P.info? e = some i ∧ i.size = 1 := by
    cases hq : P.info? e with
    | none => rw [hq] at hs; cases hs
    | some i => rw [hq] at hs; exact ⟨i, rfl, by simpa using hs⟩
  simp [Instr.sliceAt, Instr.sureAddr, run_underlying ht, Instr.sliceBounds, run_sliceBound, hi1, sizeOf, typeInfo, h0, h1, Addr.add]
theorem oneCell_v8 (bs : List UInt8) : ∀ v ∈ bs.map v8, v.oneCell' = true := by
  intro v hv
  obtain ⟨b, _, rfl⟩ := List.mem_map.1 hv
  rfl
theorem own_ge {w : World} {base : Nat} {e : TypeId} {size n : Nat} {v : Value} {xs : List Value} (h : w.ownsRow base e size v n xs) : ∀ g, v.ownBlock = some g → base ≤ g := by
  intro g hg
  rcases h.2 with ⟨rfl, _⟩ | ⟨g', cap, cur, rfl, hb, _⟩
  · cases hg
  · injection hg with hg; subst hg; exact hb
theorem below_own {w0 w w1 : World} {B : Nat} {e : TypeId} {size n : Nat} {v : Value} {xs : List Value} (hb : Below B w0 w) (h : w.ownsRow B e size v n xs) (hg : w.grownBy w1 v.ownBlock) (hB : B ≤ w.heap.size) : Below B w0 w1 :=
  hb.grown hg hB (fun k hk => own_ge h k hk)
/-- v is a slice of bytes that reads bs, below block B -/
def BSl (w : World) (B : Nat) (v : Value) (bs : List UInt8) : Prop :=
  ∃ A cap, v = .slice A bs.length cap ∧ bs.length ≤ cap ∧ cap ≤ 9223372036854775807 ∧ Reads w B A (bs.map v8)
/-- v is a slice of slices of bytes that read ls -/
def SSl (w : World) (B : Nat) (v : Value) (ls : List (List UInt8)) : Prop :=
  ∃ A cap vs, v = .slice A ls.length cap ∧ ls.length ≤ cap ∧ cap ≤ 9223372036854775807 ∧ Reads w B A vs ∧ vs.length = ls.length ∧ ∀ i, i < ls.length → BSl w B (vs.getD i undef) (ls.getD i [])
section
variable {w w' : World} {B B' : Nat} {v : Value} {bs : List UInt8} {ls : List (List UInt8)}
theorem BSl.below (h : BSl w B v bs) (hb : Below B w w') : BSl w' B v bs := by
  obtain ⟨A, cap, h1, h2, h3, h4⟩ := h
  exact ⟨A, cap, h1, h2, h3, h4.below hb⟩
theorem BSl.more (h : BSl w B v bs) (hB : B ≤ B') : BSl w B' v bs := by
  obtain ⟨A, cap, h1, h2, h3, h4⟩ := h
  exact ⟨A, cap, h1, h2, h3, h4.more hB⟩
theorem BSl.next (h : BSl w w.heap.size v bs) (hb : Below w.heap.size w w') : BSl w' w'.heap.size v bs := (h.below hb).more hb.size
theorem SSl.below (h : SSl w B v ls) (hb : Below B w w') : SSl w' B v ls := by
  obtain ⟨A, cap, vs, h1, h2, h3, h4, h5, h6⟩ := h
  exact ⟨A, cap, vs, h1, h2, h3, h4.below hb, h5, fun i hi => (h6 i hi).below hb⟩
theorem SSl.more (h : SSl w B v ls) (hB : B ≤ B') : SSl w B' v ls := by
  obtain ⟨A, cap, vs, h1, h2, h3, h4, h5, h6⟩ := h
  exact ⟨A, cap, vs, h1, h2, h3, h4.more hB, h5, fun i hi => (h6 i hi).more hB⟩
theorem SSl.next (h : SSl w w.heap.size v ls) (hb : Below w.heap.size w w') : SSl w' w'.heap.size v ls := (h.below hb).more hb.size
theorem BSl.nil_ : BSl w B (.slice none 0 0) [] := ⟨none, 0, rfl, Nat.le_refl _, by decide, Reads.nil_⟩
theorem BSl.of_own {base : Nat} {e : TypeId} {n : Nat} (h : w.ownsRow base e 1 v n (bs.map v8)) : BSl w w.heap.size v bs := by
  have hn : bs.length = n := by have := h.1; rw [List.length_map] at this; omega
  subst hn
  rcases h.2 with ⟨rfl, h0⟩ | ⟨g, cap, cur, hv, _, _, hnc, hcap, _, _⟩
  · have := List.eq_nil_of_length_eq_zero h0
    subst this
    exact BSl.nil_
  · subst hv
    exact ⟨_, cap, rfl, hnc, hcap, Reads.of_own h⟩
end
theorem own_empty (w : World) (base : Nat) (e : TypeId) (hb : base ≤ w.heap.size) : (w.alloc (.cells #[] e)).ownsRow base e 1 (.slice (some ⟨w.heap.size, 0, none⟩) 0 0) ([] : List Value).length [] :=
  ⟨rfl, .inr ⟨w.heap.size, 0, #[], rfl, hb, heap_alloc_new _ _, Nat.le_refl _, by decide, rfl, rfl⟩⟩
/-- a block of bytes, cut from its head, reads as its first bytes -/
theorem BSl.of_list {w : World} {g : Nat} {t : TypeId} {bs : List UInt8} (h : Blk w g t (bs.map v8).toArray) (B : Nat) (hB : g < B) (cap : Nat) (hcap : bs.length ≤ cap) (hc : cap ≤ 9223372036854775807) : BSl w B (.slice (some ⟨g, 0, none⟩) bs.length cap) bs :=
  ⟨_, cap, rfl, hcap, hc, by simpa using Reads.of_blk h hB 0⟩
theorem BSl.of_marked {w : World} {g : Nat} {t : TypeId} {fr : Nat × Nat} {bs : List UInt8} (h : w.heap[g]? = some (.cells (bs.map v8).toArray t fr)) (B : Nat) (hB : g < B) (hc : bs.length ≤ 9223372036854775807) : BSl w B (.slice (some ⟨g, 0, none⟩) bs.length bs.length) bs :=
  ⟨_, _, rfl, Nat.le_refl _, hc, fun _ => ⟨g, 0, rfl, hB, fun j u hu => by rw [Nat.zero_add, cell_of_row w g j _ t fr h, ← hu]; simp⟩⟩
/-- two slices in a new block -/
theorem SSl.two {w : World} {g : Nat} {t : TypeId} {u v : Value} {a b : List UInt8} (h : Blk w g t #[u, v]) (B : Nat) (hB : g < B) (ha : BSl w B u a) (hb : BSl w B v b) : SSl w B (.slice (some ⟨g, 0, none⟩) 2 2) [a, b] :=
  ⟨_, 2, [u, v], rfl, Nat.le_refl _, by decide, by simpa using Reads.of_blk h hB 0, rfl, fun i hi => by
    match i, hi with
    | 0, _ => exact ha
    | 1, _ => exact hb⟩
theorem SSl.one {w : World} {g : Nat} {t : TypeId} {u : Value} {a : List UInt8} (h : Blk w g t #[u]) (B : Nat) (hB : g < B) (ha : BSl w B u a) : SSl w B (.slice (some ⟨g, 0, none⟩) 1 1) [a] :=
  ⟨_, 1, [u], rfl, Nat.le_refl _, by decide, by simpa using Reads.of_blk h hB 0, rfl, fun i hi => by
    match i, hi with
    | 0, _ => exact ha⟩
theorem SSl.three {w : World} {g : Nat} {t : TypeId} {u v x : Value} {a b c : List UInt8} (h : Blk w g t #[u, v, x]) (B : Nat) (hB : g < B) (ha : BSl w B u a) (hb : BSl w B v b) (hc : BSl w B x c) : SSl w B (.slice (some ⟨g, 0, none⟩) 3 3) [a, b, c] :=
  ⟨_, 3, [u, v, x], rfl, Nat.le_refl _, by decide, by simpa using Reads.of_blk h hB 0, rfl, fun i hi => by
    match i, hi with
    | 0, _ => exact ha
    | 1, _ => exact hb
    | 2, _ => exact hc⟩
theorem SSl.four {w : World} {g : Nat} {t : TypeId} {u v x y : Value} {a b c d : List UInt8} (h : Blk w g t #[u, v, x, y]) (B : Nat) (hB : g < B) (ha : BSl w B u a) (hb : BSl w B v b) (hc : BSl w B x c) (hd : BSl w B y d) : SSl w B (.slice (some ⟨g, 0, none⟩) 4 4) [a, b, c, d] :=
  ⟨_, 4, [u, v, x, y], rfl, Nat.le_refl _, by decide, by simpa using Reads.of_blk h hB 0, rfl, fun i hi => by
    match i, hi with
    | 0, _ => exact ha
    | 1, _ => exact hb
    | 2, _ => exact hc
    | 3, _ => exact hd⟩
end Go.Proofs.YtbhmmoecoijojaaDoor
