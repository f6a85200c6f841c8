/- Texts that stand behind one another: Laws, ShaSum, ShaC, Quiet, ShaD. No condition. -/
import Derived.Test.YtfggbfnnibpohaaDoorQ3
import Derived.Laws.CopyOwn
import Derived.Maps.AppendAt
import Derived.OwnWalk
import Derived.Laws.Slices
import Derived.Test.YtfggbfnnibpohaaDoorQ4
import Derived.Deep.DeepCutAuto
import Derived.Deep.QuietTactic
import Derived.ChangeKeysEq
/- Laws of the walk in the words of Mem: copy and append from a slice that reads as a list. No condition. -/
namespace Go.Proofs.YtfggbfnnibpohaaDoor
open Go Go.RowKit
/-- the world behind a point of the walk, by what is known of it -/
theorem wp_at {P : Program} {c : Code} {Q : Exit → Act → World → Prop} {a : Act} {w : World} (R : World → Prop) (hR : R w) (h : ∀ W, R W → c.wp P Q a W) : c.wp P Q a w := h w hR
theorem wpl_at {P : Program} {ops : Array Oper} {Q : Exit → Act → World → Prop} {l : List Oper} {a : Act} {w : World} (R : World → Prop) (hR : R w) (h : ∀ W, R W → wpList P ops Q l a W) : wpList P ops Q l a w := h w hR
theorem only_setRow (w : World) (g : Nat) (cs : Array Value) : w.grownBy (w.setRow g cs) (some g) :=
  ⟨rfl, rfl, rfl, by simp [World.setRow], fun k _ hne => setRow_other w g k cs (fun e => hne (by rw [e]))⟩
/-- what a copy leaves -/
def copied (cs : Array Value) (off : Nat) (xs : List Value) (m : Nat) : Array Value := (cs.toList.take off ++ (xs.take m ++ cs.toList.drop (off + (xs.take m).length))).toArray
section
variable {P : Program} {w : World} {ops : Array Oper} {rest : List Oper} {o : Oper} {a : Act} {Q : Exit → Act → World → Prop}
theorem wpList_copyR (hgd : o.guard = none) (d s : Operand) (dT sT : TypeId)
    (ho : o.op = .call { callee := .builtin .copy, args := #[d, s], argTypes := #[dT, sT] }) (elem : TypeId) (hu : P.underlying dT = some (.slice elem)) (hsz : (P.info? elem).map (·.size) = some 1)
    (g off dLen dCap : Nat) (A : Option Addr) (sLen sCap : Nat) (hd : a.eval d = .slice (some ⟨g, off, none⟩) dLen dCap) (hs : a.eval s = .slice A sLen sCap)
    (t : TypeId) (cs : Array Value) (hg : Blk w g t cs) (B : Nat) (xs : List Value) (hr : Reads w B A xs) (hlen : xs.length = sLen) (hfit : off + Nat.min sLen dLen ≤ cs.size) (h1 : ∀ v ∈ xs, v.oneCell' = true)
    (h : ∀ w', Blk w' g t (copied cs off xs dLen) → w.grownBy w' (some g) → wpList P ops Q rest (a.put o.dst (goInt (Nat.min sLen dLen))) w') :
    wpList P ops Q (o :: rest) a w := by
  have hn : (xs.take dLen).length = Nat.min sLen dLen := by rw [List.length_take, hlen]; exact Nat.min_comm _ _
  have hwhole : copied cs off xs dLen = (cs.toList.take off ++ (xs.take dLen ++ cs.toList.drop (off + (xs.take dLen).length))).toArray := rfl
  by_cases h0 : Nat.min sLen dLen = 0
  · refine wpList_copy_nothing hgd d s dT sT ho elem hu hsz _ A dLen dCap sLen sCap hd hs h0 ?_
    have he : xs.take dLen = [] := List.eq_nil_of_length_eq_zero (by rw [hn, h0])
    have := h w (by rw [hwhole, he]; simpa using hg) (World.grownBy.refl w _)
    rw [h0] at this
    exact this
  · have hpos : 0 < xs.length := by
      rcases Nat.eq_zero_or_pos xs.length with h' | h'
      · rw [List.length_take, h'] at hn; omega
      · exact h'
    obtain ⟨b, o2, rfl, hb, hc⟩ := hr hpos
    have hsrc : ∀ j v, (xs.take dLen)[j]? = some v → w.cell? ((⟨b, o2, none⟩ : Addr).add j) = some v := by
      intro j v hj
      rw [List.getElem?_take] at hj
      split at hj
      · have := hc j v hj
        unfold Addr.add
        split
        · rename_i e; subst e; exact this
        · exact this
      · cases hj
    refine wpList_copy_own hgd d s dT sT ho elem hu hsz g off dLen dCap ⟨b, o2, none⟩ sLen sCap hd hs cs t hg (xs.take dLen) hn hsrc (by rw [hn]; exact hfit) (fun v hv => h1 v (List.mem_of_mem_take hv)) ?_
    rw [← hwhole]
    have := h (w.setRow g (copied cs off xs dLen)) (setRow_heap w g cs _ t _ hg) (only_setRow w g _)
    rw [← hn] at this
    exact this
/-- append of a slice that reads as a list, nil let in, onto a row of the call's own -/
theorem wpList_appendR (hgd : o.guard = none) (s x : Operand) (t : TypeId)
    (ho : o.op = .call { callee := .builtin .append, args := #[s, x], argTypes := #[t, t] })
    (base : Nat) (e : TypeId) (i : TypeInfo) (z : Value) (bytes : Nat) (ht : P.underlying t = some (.slice e)) (hi : P.info? e = some i) (hz : i.zero = some z)
    (hsize : i.size = 1) (hby : i.bytes = bytes) (hzs : z.cells.size = 1)
    (v : Value) (xs : List Value) (hs : a.eval s = v) (hown : w.ownsRow base e 1 v xs.length xs)
    (B : Nat) (A : Option Addr) (m c : Nat) (news : List Value) (hx : a.eval x = .slice A m c) (hr : Reads w B A news) (hm : news.length = m) (h1 : ∀ u ∈ news, u.oneCell' = true)
    (h63 : xs.length + m ≤ maxLen) (hbytes : (xs.length + m) * bytes ≤ 140737488355328) (hbase : base ≤ w.heap.size)
    (h : ∀ v' w', w'.ownsRow base e 1 v' (xs ++ news).length (xs ++ news) → w.grownBy w' v.ownBlock → (v'.ownBlock = v.ownBlock ∨ v'.ownBlock = some w.heap.size) → wpList P ops Q rest (a.put o.dst v') w') : wpList P ops Q (o :: rest) a w := by
  refine wpList_plain hgd fun K hK => ?_
  have key : ∃ v' w', (Builtin.append_ #[t, t] o.type #[v, .slice A m c]).run P w = .ok v' w' ∧ w'.ownsRow base e 1 v' (xs ++ news).length (xs ++ news) ∧ w.grownBy w' v.ownBlock ∧ (v'.ownBlock = v.ownBlock ∨ v'.ownBlock = some w.heap.size) := by
    by_cases h0 : m = 0
    · subst h0
      have hn : news = [] := List.eq_nil_of_length_eq_zero hm
      subst hn
      refine ⟨v, w, ?_, by simpa using hown, World.grownBy.refl w _, .inl rfl⟩
      have hl0 : ∀ (x : Addr), (loadCells x 0).run P w = .ok #[] w := fun x => by simpa using run_loadCells_list (P := P) w x [] (by simp)
      rcases hown.2 with ⟨rfl, h2⟩ | ⟨g, cap, cur, rfl, _, _, hnc, _⟩
      · cases A <;> simp [Builtin.append_, run_underlying ht, sizeOf, typeInfo, hi, Builtin.lenOf, Builtin.firstCells, hl0]
      · cases A <;> simp [Builtin.append_, run_underlying ht, sizeOf, typeInfo, hi, Builtin.lenOf, Builtin.firstCells, hnc, storeCells, hl0]
    · obtain ⟨b, o2, rfl, hb, hc⟩ := hr (by omega)
      have hsrc : ∀ j v, news[j]? = some v → w.cell? ((⟨b, o2, none⟩ : Addr).add j) = some v := by
        intro j v hj
        have := hc j v hj
        unfold Addr.add
        split
        · rename_i e; subst e; exact this
        · exact this
      obtain ⟨v', w', hrun, h2, h3, _, h5⟩ := run_append_own_at (P := P) w base t o.type e i z 1 bytes ht hi hz hsize hby hzs (by decide) v xs.length xs hown ⟨b, o2, none⟩ m c news (by omega) hsrc h1 h63 hbytes hbase
      refine ⟨v', w', hrun, ?_, h3, h5⟩
      rw [List.length_append, hm]; exact h2
  obtain ⟨v', w', hrun, h2, h3, h4⟩ := key
  unfold Oper.wp execOp
  simp only [ho, resolve, invoke, builtin, Sem.run_bind, Sem.run_pure, Result.andThen_ok, List.map_toArray, List.map_cons, List.map_nil, hs, hx, hrun]
  exact hK _ _ (h v' w' h2 h3 h4)
end
/-- an owned row reads as its list -/
theorem Reads.of_own {w : World} {base : Nat} {e : TypeId} {A : Option Addr} {n c : Nat} {xs : List Value} (h : w.ownsRow base e 1 (.slice A n c) n xs) : Reads w w.heap.size A xs := by
  intro hx
  rcases h.2 with ⟨_, h0⟩ | ⟨g, cap, cur, hv, hb, hg, hnc, hcap, hsz, hcur⟩
  · rw [h.1, h0] at hx; simp at hx
  · injection hv with hA _ _
    subst hA
    refine ⟨g, 0, rfl, ?_, fun j u hu => ?_⟩
    · rcases Nat.lt_or_ge g w.heap.size with hlt | hge
      · exact hlt
      · rw [Array.getElem?_eq_none hge] at hg; cases hg
    · rw [Nat.zero_add, cell_of_row w g j cur e (0, 0) hg, ← hu, ← hcur, List.getElem?_take]
      have hj : j < n * 1 := by rw [← h.1]; exact (List.getElem?_eq_some_iff.1 hu).1
      rw [if_pos hj]; simp
section
variable {P : Program} {w : World} {ops : Array Oper} {rest : List Oper} {o : Oper} {a : Act} {Q : Exit → Act → World → Prop}
theorem copied_all (cs vs : Array Value) (h : vs.size = cs.size) : copied cs 0 vs.toList vs.size = vs := by
  unfold copied
  have e1 : vs.toList.take vs.size = vs.toList := List.take_of_length_le (by simp)
  rw [e1]
  have e2 : cs.toList.drop (0 + vs.toList.length) = [] := List.drop_of_length_le (by simp [h])
  rw [e2]
  simp
/-- a whole array is stored into a block (at place off) -/
theorem wpList_storeB (hgd : o.guard = none) (hdst : o.dst = none) (ty : TypeId) (x y : Operand) (ho : o.op = .store ty x y) (g off : Nat) (hx : a.eval x = .pointer (some ⟨g, off, none⟩)) (vs : Array Value) (hy : a.eval y = .agg vs)
    (t : TypeId) (cs : Array Value) (hg : Blk w g t cs) (hi : (P.info? ty).map (·.size) = some vs.size) (hfit : off + vs.size ≤ cs.size) (h1 : ∀ v ∈ vs.toList, v.oneCell' = true)
    (h : ∀ w', Blk w' g t (copied cs off vs.toList vs.size) → w.grownBy w' (some g) → wpList P ops Q rest a w') : wpList P ops Q (o :: rest) a w := by
  refine wpList_plain hgd fun K hK => ?_
  have hst := run_storeCells_at P g off t vs.toList 0 cs w hg (by simpa using hfit) h1
  have e1 : vs.toList.take vs.size = vs.toList := List.take_of_length_le (by simp)
  have hwhole : (cs.toList.take (off + 0) ++ vs.toList ++ cs.toList.drop (off + 0 + vs.toList.length)).toArray = copied cs off vs.toList vs.size := by
    unfold copied; rw [e1]; simp
  rw [hwhole] at hst
  have := h (w.setRow g (copied cs off vs.toList vs.size)) (setRow_heap w g cs _ t _ hg) (only_setRow w g _)
  unfold Oper.wp execOp
  obtain ⟨i, hi1, hi2⟩ : ∃ i, P.info? ty = some i ∧ i.size = vs.size := by
    cases hq : P.info? ty with
    | none => rw [hq] at hi; cases hi
    | some i => rw [hq] at hi; exact ⟨i, rfl, by simpa using hi⟩
  simp [ho, hx, hy, storeVar, sizeOf, typeInfo, hi1, hi2, Value.cells, hst, Instr.storeAt, Instr.sureAddr]
  have e2 : a.put o.dst undef = a := by rw [hdst]; rfl
  have h9 := hK _ _ this
  rw [← e2] at h9
  exact h9
end
theorem run_sliceAt_array_l {P : Program} {w : World} {t e : TypeId} {n : Nat} (a : Addr) (ht : P.underlying t = some (.array n e)) (hs : (P.info? e).map (·.size) = some 1) (kl : IntKind) (l : Int) (h0 : 0 ≤ l) (h1 : l < n) :
    (Instr.sliceAt t (.pointer (some a)) (some (.int kl l)) none none).run P w = .ok (.slice (some (a.add l.toNat)) (n - l.toNat) (n - l.toNat)) w := by
  obtain ⟨i, hi1, hi2⟩ : ∃ i, P.info? e = some i ∧ i.size = 1 := by
    cases hq : P.info? e with
    | none => rw [hq] at hs; cases hs
    | some i => rw [hq] at hs; exact ⟨i, rfl, by simpa using hs⟩
  have hne : ¬ n = l.toNat := by omega
  have hle : l ≤ (n : Int) := by omega
  simp [Instr.sliceAt, Instr.sureAddr, run_underlying ht, Instr.sliceBounds, run_sliceBound, hi1, hi2, sizeOf, typeInfo, h0, hle, hne]
theorem run_sliceAt_array_hh {P : Program} {w : World} {t e : TypeId} {n : Nat} (a : Addr) (ht : P.underlying t = some (.array n e)) (hs : (P.info? e).map (·.size) = some 1) (kh : IntKind) (h : Int) (h0 : 0 ≤ h) (h1 : h ≤ n) :
    (Instr.sliceAt t (.pointer (some a)) none (some (.int kh h)) none).run P w = .ok (.slice (some a) h.toNat n) w := by
  obtain ⟨i, hi1, hi2⟩ : ∃ i, P.info? e = some i ∧ i.size = 1 := by
    cases hq : P.info? e with
    | none => rw [hq] at hs; cases hs
    | some i => rw [hq] at hs; exact ⟨i, rfl, by simpa using hs⟩
  simp [Instr.sliceAt, Instr.sureAddr, run_underlying ht, Instr.sliceBounds, run_sliceBound, hi1, sizeOf, typeInfo, h0, h1, Addr.add]
theorem oneCell_v8 (bs : List UInt8) : ∀ v ∈ bs.map v8, v.oneCell' = true := by
  intro v hv
  obtain ⟨b, _, rfl⟩ := List.mem_map.1 hv
  rfl
theorem own_ge {w : World} {base : Nat} {e : TypeId} {size n : Nat} {v : Value} {xs : List Value} (h : w.ownsRow base e size v n xs) : ∀ g, v.ownBlock = some g → base ≤ g := by
  intro g hg
  rcases h.2 with ⟨rfl, _⟩ | ⟨g', cap, cur, rfl, hb, _⟩
  · cases hg
  · injection hg with hg; subst hg; exact hb
theorem below_own {w0 w w1 : World} {B : Nat} {e : TypeId} {size n : Nat} {v : Value} {xs : List Value} (hb : Below B w0 w) (h : w.ownsRow B e size v n xs) (hg : w.grownBy w1 v.ownBlock) (hB : B ≤ w.heap.size) : Below B w0 w1 :=
  hb.grown hg hB (fun k hk => own_ge h k hk)
/-- v is a slice of bytes that reads bs, below block B -/
def BSl (w : World) (B : Nat) (v : Value) (bs : List UInt8) : Prop :=
  ∃ A cap, v = .slice A bs.length cap ∧ bs.length ≤ cap ∧ cap ≤ 9223372036854775807 ∧ Reads w B A (bs.map v8)
/-- v is a slice of slices of bytes that read ls -/
def SSl (w : World) (B : Nat) (v : Value) (ls : List (List UInt8)) : Prop :=
  ∃ A cap vs, v = .slice A ls.length cap ∧ ls.length ≤ cap ∧ cap ≤ 9223372036854775807 ∧ Reads w B A vs ∧ vs.length = ls.length ∧ ∀ i, i < ls.length → BSl w B (vs.getD i undef) (ls.getD i [])
section
variable {w w' : World} {B B' : Nat} {v : Value} {bs : List UInt8} {ls : List (List UInt8)}
theorem BSl.below (h : BSl w B v bs) (hb : Below B w w') : BSl w' B v bs := by
  obtain ⟨A, cap, h1, h2, h3, h4⟩ := h
  exact ⟨A, cap, h1, h2, h3, h4.below hb⟩
theorem BSl.more (h : BSl w B v bs) (hB : B ≤ B') : BSl w B' v bs := by
  obtain ⟨A, cap, h1, h2, h3, h4⟩ := h
  exact ⟨A, cap, h1, h2, h3, h4.more hB⟩
theorem BSl.next (h : BSl w w.heap.size v bs) (hb : Below w.heap.size w w') : BSl w' w'.heap.size v bs := (h.below hb).more hb.size
theorem SSl.below (h : SSl w B v ls) (hb : Below B w w') : SSl w' B v ls := by
  obtain ⟨A, cap, vs, h1, h2, h3, h4, h5, h6⟩ := h
  exact ⟨A, cap, vs, h1, h2, h3, h4.below hb, h5, fun i hi => (h6 i hi).below hb⟩
theorem SSl.more (h : SSl w B v ls) (hB : B ≤ B') : SSl w B' v ls := by
  obtain ⟨A, cap, vs, h1, h2, h3, h4, h5, h6⟩ := h
  exact ⟨A, cap, vs, h1, h2, h3, h4.more hB, h5, fun i hi => (h6 i hi).more hB⟩
theorem SSl.next (h : SSl w w.heap.size v ls) (hb : Below w.heap.size w w') : SSl w' w'.heap.size v ls := (h.below hb).more hb.size
theorem BSl.nil_ : BSl w B (.slice none 0 0) [] := ⟨none, 0, rfl, Nat.le_refl _, by decide, Reads.nil_⟩
theorem BSl.of_own {base : Nat} {e : TypeId} {n : Nat} (h : w.ownsRow base e 1 v n (bs.map v8)) : BSl w w.heap.size v bs := by
  have hn : bs.length = n := by have := h.1; rw [List.length_map] at this; omega
  subst hn
  rcases h.2 with ⟨rfl, h0⟩ | ⟨g, cap, cur, hv, _, _, hnc, hcap, _, _⟩
  · have := List.eq_nil_of_length_eq_zero h0
    subst this
    exact BSl.nil_
  · subst hv
    exact ⟨_, cap, rfl, hnc, hcap, Reads.of_own h⟩
end
theorem own_empty (w : World) (base : Nat) (e : TypeId) (hb : base ≤ w.heap.size) : (w.alloc (.cells #[] e)).ownsRow base e 1 (.slice (some ⟨w.heap.size, 0, none⟩) 0 0) ([] : List Value).length [] :=
  ⟨rfl, .inr ⟨w.heap.size, 0, #[], rfl, hb, heap_alloc_new _ _, Nat.le_refl _, by decide, rfl, rfl⟩⟩
/-- a block of bytes, cut from its head, reads as its first bytes -/
theorem BSl.of_list {w : World} {g : Nat} {t : TypeId} {bs : List UInt8} (h : Blk w g t (bs.map v8).toArray) (B : Nat) (hB : g < B) (cap : Nat) (hcap : bs.length ≤ cap) (hc : cap ≤ 9223372036854775807) : BSl w B (.slice (some ⟨g, 0, none⟩) bs.length cap) bs :=
  ⟨_, cap, rfl, hcap, hc, by simpa using Reads.of_blk h hB 0⟩
theorem BSl.of_marked {w : World} {g : Nat} {t : TypeId} {fr : Nat × Nat} {bs : List UInt8} (h : w.heap[g]? = some (.cells (bs.map v8).toArray t fr)) (B : Nat) (hB : g < B) (hc : bs.length ≤ 9223372036854775807) : BSl w B (.slice (some ⟨g, 0, none⟩) bs.length bs.length) bs :=
  ⟨_, _, rfl, Nat.le_refl _, hc, fun _ => ⟨g, 0, rfl, hB, fun j u hu => by rw [Nat.zero_add, cell_of_row w g j _ t fr h, ← hu]; simp⟩⟩
/-- two slices in a new block -/
theorem SSl.two {w : World} {g : Nat} {t : TypeId} {u v : Value} {a b : List UInt8} (h : Blk w g t #[u, v]) (B : Nat) (hB : g < B) (ha : BSl w B u a) (hb : BSl w B v b) : SSl w B (.slice (some ⟨g, 0, none⟩) 2 2) [a, b] :=
  ⟨_, 2, [u, v], rfl, Nat.le_refl _, by decide, by simpa using Reads.of_blk h hB 0, rfl, fun i hi => by
    match i, hi with
    | 0, _ => exact ha
    | 1, _ => exact hb⟩
theorem SSl.one {w : World} {g : Nat} {t : TypeId} {u : Value} {a : List UInt8} (h : Blk w g t #[u]) (B : Nat) (hB : g < B) (ha : BSl w B u a) : SSl w B (.slice (some ⟨g, 0, none⟩) 1 1) [a] :=
  ⟨_, 1, [u], rfl, Nat.le_refl _, by decide, by simpa using Reads.of_blk h hB 0, rfl, fun i hi => by
    match i, hi with
    | 0, _ => exact ha⟩
theorem SSl.three {w : World} {g : Nat} {t : TypeId} {u v x : Value} {a b c : List UInt8} (h : Blk w g t #[u, v, x]) (B : Nat) (hB : g < B) (ha : BSl w B u a) (hb : BSl w B v b) (hc : BSl w B x c) : SSl w B (.slice (some ⟨g, 0, none⟩) 3 3) [a, b, c] :=
  ⟨_, 3, [u, v, x], rfl, Nat.le_refl _, by decide, by simpa using Reads.of_blk h hB 0, rfl, fun i hi => by
    match i, hi with
    | 0, _ => exact ha
    | 1, _ => exact hb
    | 2, _ => exact hc⟩
theorem SSl.four {w : World} {g : Nat} {t : TypeId} {u v x y : Value} {a b c d : List UInt8} (h : Blk w g t #[u, v, x, y]) (B : Nat) (hB : g < B) (ha : BSl w B u a) (hb : BSl w B v b) (hc : BSl w B x c) (hd : BSl w B y d) : SSl w B (.slice (some ⟨g, 0, none⟩) 4 4) [a, b, c, d] :=
  ⟨_, 4, [u, v, x, y], rfl, Nat.le_refl _, by decide, by simpa using Reads.of_blk h hB 0, rfl, fun i hi => by
    match i, hi with
    | 0, _ => exact ha
    | 1, _ => exact hb
    | 2, _ => exact hc
    | 3, _ => exact hd⟩
end Go.Proofs.YtfggbfnnibpohaaDoor

/- SHA-256 of a text, in plain Lean: what the program reckons block by block is the hash of the padded text. No condition. -/
namespace Go.Proofs.YtfggbfnnibpohaaDoor
open Go
/-- bytes as an array of values, place by place -/
def arr (n : Nat) (f : Nat → UInt8) : Array Value := ((List.range n).map fun p => v8 (f p)).toArray
theorem arr_size (n : Nat) (f : Nat → UInt8) : (arr n f).size = n := by simp [arr]
theorem arr_at (n : Nat) (f : Nat → UInt8) (i : Nat) (hi : i < n) : (arr n f)[i]? = some (.int .u8 (n8 (f i))) := by
  simp [arr, hi, v8]
theorem arr_congr (n : Nat) (f g : Nat → UInt8) (h : ∀ p, p < n → f p = g p) : arr n f = arr n g := by
  unfold arr; congr 1; apply List.map_congr_left; intro p hp; rw [h p (List.mem_range.1 hp)]
theorem arr_set (n : Nat) (f : Nat → UInt8) (i : Nat) (x : UInt8) : (arr n f).setIfInBounds i (v8 x) = arr n (fun p => if p = i then x else f p) := by
  apply Array.ext_getElem?
  intro j
  unfold arr
  rw [Array.getElem?_setIfInBounds]
  by_cases hj : j < n
  · by_cases h : i = j
    · subst h; simp [hj]
    · have h' : ¬ j = i := fun e => h e.symm
      simp [hj, h, h']
  · have h1 : n ≤ j := by omega
    by_cases h : i = j
    · subst h; simp [h1]
    · simp [h1, h]
theorem arr_list (bs : List UInt8) : (bs.map v8).toArray = arr bs.length (fun p => bs.getD p 0) := by
  apply Array.ext_getElem?
  intro j
  unfold arr
  by_cases hj : j < bs.length
  · simp [hj]
  · have h1 : bs.length ≤ j := by omega
    simp [h1]
theorem arr_one (n : Nat) (f : Nat → UInt8) : ∀ v ∈ (arr n f).toList, v.oneCell' = true := by
  intro v hv
  obtain ⟨b, _, rfl⟩ := List.mem_map.1 (show v ∈ (List.range n).map fun p => v8 (f p) from hv)
  rfl
/-- an array of bytes is stored into a block of its size -/
theorem wpList_storeArr {P : Program} {w : World} {ops : Array Oper} {rest : List Oper} {o : Oper} {a : Act} {Q : Exit → Act → World → Prop} (hgd : o.guard = none) (hdst : o.dst = none) (ty : TypeId) (x y : Operand) (ho : o.op = .store ty x y) (g : Nat) (hx : a.eval x = .pointer (some ⟨g, 0, none⟩)) (n : Nat) (f f0 : Nat → UInt8) (hy : a.eval y = .agg (arr n f))
    (t : TypeId) (hg : Blk w g t (arr n f0)) (hi : (P.info? ty).map (·.size) = some n)
    (h : ∀ w', Blk w' g t (arr n f) → w.grownBy w' (some g) → wpList P ops Q rest a w') : wpList P ops Q (o :: rest) a w := by
  refine wpList_storeB hgd hdst ty x y ho g 0 hx (arr n f) hy t (arr n f0) hg (by rw [arr_size]; exact hi) (by rw [arr_size, arr_size]; omega) (arr_one n f) fun w' hw hon => ?_
  rw [copied_all _ _ (by rw [arr_size, arr_size])] at hw
  exact h w' hw hon
/-- a digest's cells -/
def dat (d : List UInt8) : Array Value := arr 32 (fun p => d.getD p 0)
theorem dat_eq (d : List UInt8) (h : d.length = 32) : dat d = (d.map v8).toArray := by rw [arr_list, h]; rfl
theorem dat_size (d : List UInt8) : (dat d).size = 32 := arr_size _ _
/-- an array of bytes, cut from its head, reads as bytes -/
theorem BSl.of_arr {w : World} {g : Nat} {t : TypeId} {n : Nat} {f : Nat → UInt8} (h : Blk w g t (arr n f)) (B : Nat) (hB : g < B) (bs : List UInt8) (hl : bs.length = n) (hf : ∀ p, p < n → f p = bs.getD p 0) (hc : n ≤ 9223372036854775807) : BSl w B (.slice (some ⟨g, 0, none⟩) n n) bs := by
  subst hl
  rw [arr_congr bs.length f _ hf, ← arr_list] at h
  exact BSl.of_list h B hB _ (Nat.le_refl _) hc
theorem wpList_storeDat {P : Program} {w : World} {ops : Array Oper} {rest : List Oper} {o : Oper} {a : Act} {Q : Exit → Act → World → Prop} (hgd : o.guard = none) (hdst : o.dst = none) (ty : TypeId) (x y : Operand) (ho : o.op = .store ty x y) (g : Nat) (hx : a.eval x = .pointer (some ⟨g, 0, none⟩)) (d : List UInt8) (f0 : Nat → UInt8) (hy : a.eval y = .agg (dat d))
    (t : TypeId) (hg : Blk w g t (arr 32 f0)) (hi : (P.info? ty).map (·.size) = some 32)
    (h : ∀ w', Blk w' g t (dat d) → w.grownBy w' (some g) → wpList P ops Q rest a w') : wpList P ops Q (o :: rest) a w :=
  wpList_storeArr hgd hdst ty x y ho g hx 32 _ f0 hy t hg hi h
theorem BSl.of_dat {w : World} {g : Nat} {t : TypeId} {d : List UInt8} (h : Blk w g t (dat d)) (B : Nat) (hB : g < B) (hl : d.length = 32) : BSl w B (.slice (some ⟨g, 0, none⟩) 32 32) d :=
  BSl.of_arr h B hB d hl (fun _ _ => rfl) (by decide)
/-- byte number i (of 8, the greatest first) of the count of bits -/
def lenByte (n i : Nat) : UInt8 := UInt8.ofNat (n * 8 / 2 ^ (8 * (7 - i)))
def zeros (n : Nat) : Nat := (119 - n % 64) % 64
/-- the padded text -/
def pad (bs : List UInt8) : List UInt8 := bs ++ (0x80 :: (List.replicate (zeros bs.length) 0 ++ (List.range 8).map (lenByte bs.length)))
/-- the state after k blocks -/
def hashN (K : List UInt32) (s : S8) (x : List UInt8) : Nat → S8
  | 0 => s
  | k + 1 => mixed K (hashN K s x k) (x.drop (64 * k))
def outBytes (s : S8) : List UInt8 := (List.range 32).map fun i => UInt8.ofNat ((s.list.getD (i / 4) 0).toNat / 2 ^ (24 - 8 * (i % 4)))
def sumOf (K : List UInt32) (s : S8) (bs : List UInt8) : List UInt8 := outBytes (hashN K s (pad bs) ((pad bs).length / 64))
theorem pad_length (bs : List UInt8) : (pad bs).length = bs.length + 9 + zeros bs.length := by
  simp [pad]; omega
theorem pad_mod (bs : List UInt8) : (pad bs).length % 64 = 0 := by rw [pad_length]; unfold zeros; omega
theorem wat_congr {b c : List UInt8} (h : ∀ j, j < 64 → b.getD j 0 = c.getD j 0) (k : Nat) : wat b k = wat c k := by
  induction k with
  | zero => rfl
  | succ k ih =>
    have e : ∀ L, nextW b L k = nextW c L k := by
      intro L
      unfold nextW be32
      by_cases hk : k < 16
      · rw [if_pos hk, if_pos hk, h _ (by omega), h _ (by omega), h _ (by omega), h _ (by omega)]
      · rw [if_neg hk, if_neg hk]
    show wat b k ++ [nextW b (wat b k) k] = wat c k ++ [nextW c (wat c k) k]
    rw [ih, e]
theorem mixed_congr {K : List UInt32} {s : S8} {b c : List UInt8} (h : ∀ j, j < 64 → b.getD j 0 = c.getD j 0) : mixed K s b = mixed K s c := by
  unfold mixed; rw [wat_congr h]
theorem getD_drop (x : List UInt8) (i j : Nat) : (x.drop i).getD j 0 = x.getD (i + j) 0 := by
  simp [List.getD_eq_getElem?_getD]
theorem hashN_congr {K : List UInt32} {s : S8} {x y : List UInt8} (k : Nat) (h : ∀ j, j < 64 * k → x.getD j 0 = y.getD j 0) : hashN K s x k = hashN K s y k := by
  induction k with
  | zero => rfl
  | succ k ih =>
    show mixed K (hashN K s x k) (x.drop (64 * k)) = mixed K (hashN K s y k) (y.drop (64 * k))
    rw [ih fun j hj => h j (by omega)]
    apply mixed_congr
    intro j hj
    rw [getD_drop, getD_drop]
    exact h _ (by omega)
theorem hashN_add (K : List UInt32) (s : S8) (x : List UInt8) (a b : Nat) : hashN K s x (a + b) = hashN K (hashN K s x a) (x.drop (64 * a)) b := by
  induction b with
  | zero => rfl
  | succ b ih =>
    show mixed K (hashN K s x (a + b)) (x.drop (64 * (a + b))) = mixed K (hashN K (hashN K s x a) (x.drop (64 * a)) b) ((x.drop (64 * a)).drop (64 * b))
    rw [ih, List.drop_drop, Nat.mul_add]
/-- the tail that the program lays: what is left of a text of n bytes (r of them), one bit, noughts, i of the bytes of its length; e: its end -/
def tailB (r : List UInt8) (n e i p : Nat) : UInt8 := if p < r.length then r.getD p 0 else if p = r.length then 0x80 else if p < e ∧ e ≤ p + i then lenByte n (7 - (e - 1 - p)) else 0
def tailEnd (n : Nat) : Nat := if n % 64 + 9 > 64 then 128 else 64
theorem pad_at (bs : List UInt8) (p : Nat) : (pad bs).getD p 0 =
    if p < bs.length then bs.getD p 0 else if p = bs.length then 0x80 else if p < bs.length + 1 + zeros bs.length then 0 else if p < bs.length + 9 + zeros bs.length then lenByte bs.length (p - (bs.length + 1 + zeros bs.length)) else 0 := by
  unfold pad
  simp only [List.getD_eq_getElem?_getD]
  by_cases h1 : p < bs.length
  · rw [List.getElem?_append_left h1, if_pos h1]
  · rw [List.getElem?_append_right (by omega), if_neg h1]
    by_cases h2 : p = bs.length
    · rw [if_pos h2, h2, Nat.sub_self]; rfl
    · rw [if_neg h2]
      obtain ⟨d, hd⟩ : ∃ d, p - bs.length = d + 1 := ⟨p - bs.length - 1, by omega⟩
      rw [hd, List.getElem?_cons_succ]
      by_cases h3 : p < bs.length + 1 + zeros bs.length
      · rw [if_pos h3, List.getElem?_append_left (by rw [List.length_replicate]; omega), List.getElem?_replicate, if_pos (by omega)]; rfl
      · rw [if_neg h3, List.getElem?_append_right (by rw [List.length_replicate]; omega), List.length_replicate]
        by_cases h4 : p < bs.length + 9 + zeros bs.length
        · rw [if_pos h4, List.getElem?_map, List.getElem?_range (by omega)]
          show lenByte _ _ = _
          congr 1; omega
        · rw [if_neg h4, List.getElem?_eq_none (by rw [List.length_map, List.length_range]; omega)]; rfl
theorem tail_at (bs : List UInt8) (p : Nat) (hp : p < tailEnd bs.length) :
    ((pad bs).drop (64 * (bs.length / 64))).getD p 0 = tailB (bs.drop (64 * (bs.length / 64))) bs.length (tailEnd bs.length) 8 p := by
  have hz : zeros bs.length = tailEnd bs.length - (bs.length % 64 + 9) := by unfold zeros tailEnd; split <;> omega
  have hte : bs.length % 64 + 9 ≤ tailEnd bs.length := by unfold tailEnd; split <;> omega
  rw [getD_drop, pad_at]
  unfold tailB
  rw [List.length_drop, getD_drop]
  by_cases h1 : 64 * (bs.length / 64) + p < bs.length
  · rw [if_pos h1, if_pos (show p < bs.length - 64 * (bs.length / 64) by omega)]
  · rw [if_neg h1, if_neg (show ¬ p < bs.length - 64 * (bs.length / 64) by omega)]
    by_cases h2 : 64 * (bs.length / 64) + p = bs.length
    · rw [if_pos h2, if_pos (show p = bs.length - 64 * (bs.length / 64) by omega)]
    · rw [if_neg h2, if_neg (show ¬ p = bs.length - 64 * (bs.length / 64) by omega)]
      by_cases h3 : 64 * (bs.length / 64) + p < bs.length + 1 + zeros bs.length
      · rw [if_pos h3, if_neg (show ¬ (p < tailEnd bs.length ∧ tailEnd bs.length ≤ p + 8) by omega)]
      · rw [if_neg h3, if_pos (show 64 * (bs.length / 64) + p < bs.length + 9 + zeros bs.length by omega), if_pos (show p < tailEnd bs.length ∧ tailEnd bs.length ≤ p + 8 by omega)]
        congr 1; omega
theorem pad_blocks (bs : List UInt8) : (pad bs).length / 64 = bs.length / 64 + tailEnd bs.length / 64 := by
  rw [pad_length]; unfold zeros tailEnd; split <;> omega
/-- the hash, as the program reckons it: whole blocks of the text first, then the tail -/
theorem sumOf_tail (K : List UInt32) (s : S8) (bs tail : List UInt8) (ht : ∀ p, p < tailEnd bs.length → tail.getD p 0 = tailB (bs.drop (64 * (bs.length / 64))) bs.length (tailEnd bs.length) 8 p) :
    outBytes (hashN K (hashN K s bs (bs.length / 64)) tail (tailEnd bs.length / 64)) = sumOf K s bs := by
  unfold sumOf
  have he : tailEnd bs.length % 64 = 0 := by unfold tailEnd; split <;> rfl
  rw [pad_blocks, hashN_add]
  congr 1
  have h1 : hashN K s (pad bs) (bs.length / 64) = hashN K s bs (bs.length / 64) := hashN_congr _ fun j hj => by rw [pad_at, if_pos (by omega)]
  rw [h1]
  apply hashN_congr
  intro j hj
  rw [ht j (by omega), tail_at bs j (by omega)]
theorem copied_arr (n : Nat) (f : Nat → UInt8) (off : Nat) (xs : List UInt8) (m : Nat) (h : off + Nat.min xs.length m ≤ n) :
    copied (arr n f) off (xs.map v8) m = arr n (fun p => if off ≤ p ∧ p < off + Nat.min xs.length m then xs.getD (p - off) 0 else f p) := by
  have hmin : (xs.take m).length = Nat.min xs.length m := by rw [List.length_take]; exact Nat.min_comm _ _
  have hk1 : Nat.min xs.length m ≤ xs.length := Nat.min_le_left xs.length m
  have hk2 : Nat.min xs.length m ≤ m := Nat.min_le_right xs.length m
  unfold copied
  rw [← List.map_take, List.length_map, hmin]
  generalize Nat.min xs.length m = q at hmin hk1 hk2 h ⊢
  apply Array.ext_getElem?
  intro j
  have e1 : (arr n f).toList = (List.range n).map fun p => v8 (f p) := rfl
  rw [e1, List.getElem?_toArray]
  by_cases h1 : j < off
  · rw [List.getElem?_append_left (by rw [List.length_take, List.length_map, List.length_range]; omega), List.getElem?_take, if_pos h1]
    unfold arr
    rw [List.getElem?_toArray, List.getElem?_map, List.getElem?_map, List.getElem?_range (by omega)]
    simp [show ¬ off ≤ j by omega]
  · have hlt : ((List.map (fun p => v8 (f p)) (List.range n)).take off).length = off := by rw [List.length_take, List.length_map, List.length_range]; omega
    rw [List.getElem?_append_right (by omega), hlt]
    by_cases h2 : j < off + q
    · rw [List.getElem?_append_left (by rw [List.length_map, hmin]; omega), List.getElem?_map, List.getElem?_take, if_pos (by omega)]
      have h3 : j - off < xs.length := by omega
      rw [List.getElem?_eq_getElem h3, arr_at _ _ _ (by omega), if_pos (⟨by omega, h2⟩ : off ≤ j ∧ j < off + q)]
      simp [h3, v8]
    · rw [List.getElem?_append_right (by rw [List.length_map, hmin]; omega), List.length_map, hmin, List.getElem?_drop]
      have e2 : off + q + (j - off - q) = j := by omega
      rw [e2]
      unfold arr
      rw [List.getElem?_toArray, List.getElem?_map, List.getElem?_map]
      by_cases h4 : j < n
      · rw [List.getElem?_range h4]
        simp only [Option.map_some, if_neg (show ¬ (off ≤ j ∧ j < off + q) by omega)]
      · rw [List.getElem?_eq_none (by rw [List.length_range]; omega)]; rfl
theorem n8_ofNat (m : Nat) : n8 (UInt8.ofNat m) = (m : Int) % 256 := by
  unfold n8; rw [UInt8.toNat_ofNat']; simp
theorem lenByte_val (n j : Nat) (hj : j < 8) : (n : Int) * 8 / 2 ^ (8 * j) % 256 = n8 (lenByte n (7 - j)) := by
  unfold lenByte
  rw [n8_ofNat, show 7 - (7 - j) = j by omega]; simp
theorem tailB_step (r : List UInt8) (n E j : Nat) (hj : j < 8) (hE : r.length + 9 ≤ E) :
    (fun p => if p = E - 1 - j then lenByte n (7 - j) else tailB r n E j p) = tailB r n E (j + 1) := by
  funext p
  unfold tailB
  by_cases h0 : p = E - 1 - j
  · rw [if_pos h0, if_neg (show ¬ p < r.length by omega), if_neg (show ¬ p = r.length by omega), if_pos (show p < E ∧ E ≤ p + (j + 1) by omega)]
    congr 1; omega
  · rw [if_neg h0]
    by_cases h1 : p < E ∧ E ≤ p + j
    · rw [if_pos h1, if_pos (show p < E ∧ E ≤ p + (j + 1) by omega)]
    · rw [if_neg h1, if_neg (show ¬ (p < E ∧ E ≤ p + (j + 1)) by omega)]
def outB (s : S8) (i : Nat) : UInt8 := UInt8.ofNat ((s.list.getD (i / 4) 0).toNat / 2 ^ (24 - 8 * (i % 4)))
theorem outBytes_dat (s : S8) : dat (outBytes s) = arr 32 (outB s) := by
  apply arr_congr
  intro p hp
  unfold outBytes outB
  simp [hp]
theorem outBytes_arr (s : S8) : ((outBytes s).map v8).toArray = arr 32 (outB s) := by
  unfold outBytes arr outB; rw [List.map_map]; rfl
theorem outB_val (s : S8) (i : Nat) : n32 (s.list.getD (i / 4) 0) / 2 ^ (24 - 8 * (i % 4)) % 256 = n8 (outB s i) := by
  unfold outB n32
  rw [n8_ofNat]; simp
end Go.Proofs.YtfggbfnnibpohaaDoor

/- The walk of sha's Sum. No condition. -/
namespace Go.Proofs.YtfggbfnnibpohaaDoor
open Go.RowKit
attribute [local go_sem] n32_lo n32_hi n8_lo n8_hi u32_signed
def K0 : List UInt32 := [0x428a2f98, 0x71374491, 0xb5c0fbcf, 0xe9b5dba5, 0x3956c25b, 0x59f111f1, 0x923f82a4, 0xab1c5ed5, 0xd807aa98, 0x12835b01, 0x243185be, 0x550c7dc3, 0x72be5d74, 0x80deb1fe, 0x9bdc06a7, 0xc19bf174, 0xe49b69c1, 0xefbe4786, 0x0fc19dc6, 0x240ca1cc, 0x2de92c6f, 0x4a7484aa, 0x5cb0a9dc, 0x76f988da, 0x983e5152, 0xa831c66d, 0xb00327c8, 0xbf597fc7, 0xc6e00bf3, 0xd5a79147, 0x06ca6351, 0x14292967, 0x27b70a85, 0x2e1b2138, 0x4d2c6dfc, 0x53380d13, 0x650a7354, 0x766a0abb, 0x81c2c92e, 0x92722c85, 0xa2bfe8a1, 0xa81a664b, 0xc24b8b70, 0xc76c51a3, 0xd192e819, 0xd6990624, 0xf40e3585, 0x106aa070, 0x19a4c116, 0x1e376c08, 0x2748774c, 0x34b0bcb5, 0x391c0cb3, 0x4ed8aa4a, 0x5b9cca4f, 0x682e6ff3, 0x748f82ee, 0x78a5636f, 0x84c87814, 0x8cc70208, 0x90befffa, 0xa4506ceb, 0xbef9a3f7, 0xc67178f2]
def H0 : S8 := ⟨0x6a09e667, 0xbb67ae85, 0x3c6ef372, 0xa54ff53a, 0x510e527f, 0x9b05688c, 0x1f83d9ab, 0x5be0cd19⟩
/-- the hash of a text -/
def sha (bs : List UInt8) : List UInt8 := sumOf K0 H0 bs
/-- the two tables of package sha stand as the text lays them -/
structure Glob (w : World) : Prop where
  start : ∀ j, j < 8 → w.cell? ⟨0, j, none⟩ = some (.int .u32 (n32 (H0.list.getD j 0)))
  words : ∀ j, j < 64 → w.cell? ⟨2, j, none⟩ = some (.int .u32 (n32 (K0.getD j 0)))
  b0 : 0 < w.heap.size
  b1 : 2 < w.heap.size
theorem Glob.below {B : Nat} {w w' : World} (h : Glob w) (hb : Below B w w') (h0 : 0 < B) (h1 : 2 < B) : Glob w' :=
  ⟨fun j hj => (hb.cell (p := ⟨_, _, none⟩) h0).trans (h.start j hj), fun j hj => (hb.cell (p := ⟨_, _, none⟩) h1).trans (h.words j hj), Nat.lt_of_lt_of_le h.b0 hb.size, Nat.lt_of_lt_of_le h.b1 hb.size⟩
theorem Glob.next {w w' : World} (h : Glob w) (hb : Below w.heap.size w w') : Glob w' := h.below hb h.b0 h.b1
theorem zero128 (w : World) : (zeroValue 245).run Tryd.prog w = .ok (.agg (arr 128 fun _ => 0)) w := by kernel_rfl
set_option maxRecDepth 100000 in
theorem sum_any (A : Option Addr) (cap : Nat) (bs : List UInt8) (w : World) (hr : Reads w w.heap.size A (bs.map v8)) (hcap : bs.length ≤ cap) (hcm : cap ≤ 9223372036854775807) (hlm : bs.length ≤ 1152921504606846976) (hG : Glob w) :
    Calls Tryd.prog 126 #[.slice A bs.length cap] w fun e w' => e = .returned (.agg (dat (sha bs))) ∧ Below w.heap.size w w' := by
  have g0 : w.cell? ⟨0, 0, none⟩ = some (.int .u32 (n32 H0.a)) := hG.start 0 (by decide)
  have g1 : w.cell? ⟨0, 1, none⟩ = some (.int .u32 (n32 H0.b)) := hG.start 1 (by decide)
  have g2 : w.cell? ⟨0, 2, none⟩ = some (.int .u32 (n32 H0.c)) := hG.start 2 (by decide)
  have g3 : w.cell? ⟨0, 3, none⟩ = some (.int .u32 (n32 H0.d)) := hG.start 3 (by decide)
  have g4 : w.cell? ⟨0, 4, none⟩ = some (.int .u32 (n32 H0.e)) := hG.start 4 (by decide)
  have g5 : w.cell? ⟨0, 5, none⟩ = some (.int .u32 (n32 H0.f)) := hG.start 5 (by decide)
  have g6 : w.cell? ⟨0, 6, none⟩ = some (.int .u32 (n32 H0.g)) := hG.start 6 (by decide)
  have g7 : w.cell? ⟨0, 7, none⟩ = some (.int .u32 (n32 H0.h)) := hG.start 7 (by decide)
  have b0 := hG.b0
  have b1 := hG.b1
  go_enter Tryd.func126, Tryd.ntmps126
  go_wp2
  clear g0 g1 g2 g3 g4 g5 g6 g7
  go_loopw [5] (fun i wr => ∃ k : Nat, k ≤ bs.length / 64 ∧ i = .int .i64 ((64 * k : Nat) : Int) ∧ Blk wr (w.heap.size + 1) 125 ((hashN K0 H0 bs k).list.map v32).toArray ∧ Blk wr w.heap.size 35 (arr 32 fun _ => 0) ∧ Below w.heap.size w wr) (fun i _ => bs.length - (intOf i).toNat)
  case atStart =>
    refine ⟨0, by omega, rfl, ?_, ?_, ((Below.refl _ _).alloc (Nat.le_refl _) _).alloc (by simp) _⟩
    · have := Blk.new (w.alloc (Obj.cells (arr 32 fun _ => 0) 35)) 125 (H0.list.map v32).toArray
      rw [show (w.alloc (Obj.cells (arr 32 fun _ => 0) 35)).heap.size = w.heap.size + 1 from by simp] at this
      exact this
    · exact (Blk.new w 35 (arr 32 fun _ => 0)).alloc _
  case round =>
    obtain ⟨k, hk, rfl, hS, hR, hbel⟩ := hrel
    have hGr := hG.next hbel
    have hSl := hS.lt
    by_cases hlt : k < bs.length / 64
    · obtain ⟨b, off, rfl, hb, hc⟩ := hr (by rw [List.length_map]; omega)
      have hne : ¬ cap = 64 * k := by omega
      have h64 : 64 * k + 64 ≤ bs.length := by omega
      have hb1 : Hid (b < w.heap.size) := hb
      go_wp2_with fail
      refine (mix_any _ (hashN K0 H0 bs k) K0 _ _ _ _ (bs.drop (64 * k)) _ hS ?h1 ?h2 ?h3 ?h4 ?h5 ?h6 ?h7 ?h8 ?h9 ?h10).mono ?_
      case h1 => rw [List.length_drop]; omega
      case h2 => rw [List.length_drop]; omega
      case h3 => omega
      case h4 => omega
      case h5 =>
        intro j hj
        rw [getD_drop]
        have hj2 : 64 * k + j < bs.length := by omega
        have := (hbel.cell (p := ⟨b, off + (64 * k + j), none⟩) hb).trans (hc (64 * k + j) (.int .u8 (n8 (bs.getD (64 * k + j) 0))) (by simp [hj2, v8]))
        rw [← Nat.add_assoc] at this
        exact this
      case h6 => omega
      case h7 => omega
      case h8 => exact hGr.words
      case h9 => omega
      case h10 => exact hGr.b1
      rintro e w' ⟨rfl, hS', hon⟩
      go_wp2
      go_roundw
      case rel =>
        refine ⟨k + 1, by omega, by go_num, hS', hR.grown hon (by simp), below_only hbel hon (by omega) hbel.size⟩
      case measure => simp [intOf]; omega
    · have ek : k = bs.length / 64 := by omega
      rw [ek] at hS
      have hz := zero128
      have hcut := hr.cut (k := 64 * (bs.length / 64)) (cap := cap) (by rw [List.length_map]; omega) (by rw [List.length_map]; exact hcap)
      go_wp2
      have hT := Blk.new wr 245 (arr 128 fun _ => 0)
      have hS2 := hS.alloc (Obj.cells (arr 128 fun _ => 0) 245)
      have hR2 := hR.alloc (Obj.cells (arr 128 fun _ => 0) 245)
      have hbel2 := hbel.alloc hbel.size (Obj.cells (arr 128 fun _ => 0) 245)
      have hrc := (hcut.below hbel).alloc hbel.size (Obj.cells (arr 128 fun _ => 0) 245)
      generalize wr.alloc (Obj.cells (arr 128 fun _ => 0) 245) = w2 at hT hS2 hR2 hbel2 hrc ⊢
      have hTl := hT.lt
      clear hcut hS hR hz
      obtain ⟨T, eT⟩ : ∃ T, T = wr.heap.size := ⟨_, rfl⟩
      rw [← eT] at hT hSl hTl ⊢
      have hTw : w.heap.size + 1 < T := hSl
      clear hSl
      have HeT := Lib.hid eT
      clear eT
      have hi0 : (0 : Int) ≤ (bs.length : Int) / 64 * 64 := by omega
      have hi1 : ((bs.length : Int) / 64 * 64).toNat = 64 * (bs.length / 64) := by omega
      refine wp_region_quiet_tail 4 (fun W => ∃ n, W = w2.drewN n) (by kernel_rfl) (by kernel_rfl) ⟨1, rfl⟩ ?_
      simp only [List.take_succ_cons, List.take_zero, List.drop_succ_cons, List.drop_zero]
      repeat (go_big_quiet_step (fail))
      refine wpQuiet_nil ?_
      intro W hW
      obtain ⟨nq, rfl⟩ := hW
      generalize (if cap = 64 * (bs.length / 64) then A else Option.map (fun x => x.add (64 * (bs.length / 64))) A) = AA at hrc ⊢
      obtain ⟨R, eR⟩ : ∃ R, R = bs.length - 64 * (bs.length / 64) := ⟨_, rfl⟩
      have hR64 : R < 64 := by omega
      have hRl : (bs.drop (64 * (bs.length / 64))).length = R := by rw [List.length_drop, eR]
      have e1 := copied_arr 128 (fun _ => 0) 0 (bs.drop (64 * (bs.length / 64))) 128 (by rw [hRl]; show 0 + min R 128 ≤ 128; omega)
      rw [hRl, List.map_drop] at e1
      refine wpList_copyR rfl (.tmp 27) (.tmp 30) _ _ rfl 5 Tryd.underlying22 (by kernel_rfl) T 0 128 128 _ _ _ rfl rfl _ _ (hT.drewN nq) _ _ (hrc.drewN nq) (by rw [List.length_drop, List.length_map]) (by rw [arr_size, ← eR]; show 0 + min R 128 ≤ 128; omega) (by rw [← List.map_drop]; exact oneCell_v8 _) ?_
      intro w3 hT3 hon3
      rw [e1] at hT3
      rw [← eR]
      have hmin : Nat.min R 128 = R := by show min R 128 = R; omega
      have hS3 := (hS2.drewN nq).grown hon3 (by simp; omega)
      have hR3 := (hR2.drewN nq).grown hon3 (by simp; omega)
      have hbel3 := below_only (below_drewN hbel2 nq) hon3 (by omega) hbel2.size
      have hRlH := Lib.hid hRl
      have HeR := Lib.hid eR
      rw [hmin] at hT3 ⊢
      clear e1 eR hRl hmin hT hS2 hR2 hbel2 hrc hon3 HeT hi0 hi1
      have cT := hT3.cell R
      rw [arr_at _ _ _ (by omega)] at cT
      have fT := hT3.frozen R
      go_upto_if 36 with fail
      go_cut [8] (fun s8 wx => s8 = .int .i64 ((tailEnd bs.length : Nat) : Int) ∧ Blk wx T 245 (arr 128 (tailB (bs.drop (64 * (bs.length / 64))) bs.length (tailEnd bs.length) 0)) ∧ Blk wx (w.heap.size + 1) 125 ((hashN K0 H0 bs (bs.length / 64)).list.map v32).toArray ∧ Blk wx w.heap.size 35 (arr 32 fun _ => 0) ∧ Below w.heap.size w wx)
      case first =>
        have hE : tailEnd bs.length = if R + 9 > 64 then 128 else 64 := by unfold tailEnd; rw [show bs.length % 64 = R by rw [HeR.out]; omega]
        by_cases h9 : 55 < R
        all_goals
          go_wp2_with fail
          go_meet
          have hfin : arr 128 (fun p => if p = R then 0x80 else if 0 ≤ p ∧ p < 0 + R then (bs.drop (64 * (bs.length / 64))).getD (p - 0) 0 else 0) = arr 128 (tailB (bs.drop (64 * (bs.length / 64))) bs.length (tailEnd bs.length) 0) := by
            apply arr_congr
            intro p hp
            unfold tailB
            rw [hRlH.out]
            by_cases h1 : p < R
            · rw [if_neg (show ¬ p = R by omega), if_pos (show 0 ≤ p ∧ p < 0 + R by omega), if_pos h1]; rfl
            · rw [if_neg (show ¬ (0 ≤ p ∧ p < 0 + R) by omega), if_neg h1, if_neg (show ¬ (p < tailEnd bs.length ∧ tailEnd bs.length ≤ p + 0) by omega)]
          have hT4 := hT3.set R (v8 0x80)
          rw [arr_set, hfin] at hT4
          refine ⟨?_, hT4, hS3.far (p := ⟨T, R, none⟩) (by show _ ≠ T; omega) _, hR3.far (p := ⟨T, R, none⟩) (by show _ ≠ T; omega) _, hbel3.setCell (p := ⟨T, R, none⟩) (by show _ ≤ T; omega) _⟩
          rw [hE]
          first | (rw [if_pos (by omega)]; rfl) | (rw [if_neg (by omega)]; rfl)
      case rest =>
        obtain ⟨rfl, hT4, hS4, hR4, hbel4⟩ := hcut
        have hRE : R + 9 ≤ tailEnd bs.length := by
          unfold tailEnd
          rw [show bs.length % 64 = R by rw [HeR.out]; omega]
          split <;> omega
        have hE1 : 64 ≤ tailEnd bs.length ∧ tailEnd bs.length ≤ 128 ∧ tailEnd bs.length % 64 = 0 := by unfold tailEnd; split <;> decide
        have HE := Lib.hid (rfl : tailEnd bs.length = tailEnd bs.length)
        generalize hEq : tailEnd bs.length = E at hT4 hE1 hRE ⊢
        have HEq := Lib.hid hEq
        clear hEq HE
        obtain ⟨hE1, hE2, hE3⟩ := hE1
        have HE3 := Lib.hid hE3
        clear hE3
        generalize hrr : bs.drop (64 * (bs.length / 64)) = r at hT4
        have Hrr := Lib.hid hrr
        have hrl : r.length = R := by rw [← hrr]; exact hRlH.out
        have Hrl := Lib.hid hrl
        clear hrr hrl hT3 hS3 hR3 hbel3 cT fT
        go_wp2
        go_loopw [9, 37] (fun _ i wr => ∃ j : Nat, j ≤ 8 ∧ i = .int .i64 j ∧ Blk wr T 245 (arr 128 (tailB r bs.length E j)) ∧ Blk wr (w.heap.size + 1) 125 ((hashN K0 H0 bs (bs.length / 64)).list.map v32).toArray ∧ Blk wr w.heap.size 35 (arr 32 fun _ => 0) ∧ Below w.heap.size w wr) (fun _ i _ => 8 - (intOf i).toNat)
        case atStart => exact ⟨0, by omega, rfl, hT4, hS4, hR4, hbel4⟩
        case round =>
          clear hT4 hS4 hR4 hbel4
          obtain ⟨j, hj, rfl, hT4, hS4, hR4, hbel4⟩ := hrel
          by_cases hj8 : j < 8
          · have cT := hT4.cell (E - 1 - j)
            rw [arr_at _ _ _ (by omega)] at cT
            have fT := hT4.frozen (E - 1 - j)
            have ei : ((E : Int) - 1 - j).toNat = E - 1 - j := by omega
            go_wp2
            go_roundw
            case rel =>
              have hstep := hT4.set (E - 1 - j) (v8 (lenByte bs.length (7 - j)))
              rw [arr_set, tailB_step r bs.length E j hj8 (by rw [Hrl.out]; omega)] at hstep
              refine ⟨j + 1, by omega, by go_num, ?_, hS4.far (p := ⟨T, _, none⟩) (by show _ ≠ T; omega) _, hR4.far (p := ⟨T, _, none⟩) (by show _ ≠ T; omega) _, hbel4.setCell (p := ⟨T, _, none⟩) (by show _ ≤ T; omega) _⟩
              rw [lenByte_val _ _ hj8]
              exact hstep
            case measure => simp [intOf]; omega
          · have ej : j = 8 := by omega
            rw [ej] at hT4
            clear ej
            obtain ⟨TL, hTL⟩ : ∃ TL : List UInt8, TL = (List.range 128).map (tailB r bs.length E 8) := ⟨_, rfl⟩
            have hTLl : TL.length = 128 := by rw [hTL]; simp
            have hTLa : ∀ p, p < 128 → tailB r bs.length E 8 p = TL.getD p 0 := fun p hp => by rw [hTL]; simp [hp]
            have HTLl := Lib.hid hTLl
            have HTLa := Lib.hid hTLa
            clear hTL hTLl hTLa
            have hcT : ∀ p, p < 128 → Hid (∀ wx, Blk wx T 245 (arr 128 (tailB r bs.length E 8)) → wx.cell? ⟨T, p, none⟩ = some (.int .u8 (n8 (TL.getD p 0)))) := fun p hp wx hx => by
              rw [hx.cell, arr_at _ _ _ hp, HTLa.out p hp]
            go_wp2
            go_loopw [10] (fun i wr => ∃ m : Nat, m ≤ E / 64 ∧ i = .int .i64 ((64 * m : Nat) : Int) ∧ Blk wr T 245 (arr 128 (tailB r bs.length E 8)) ∧ Blk wr (w.heap.size + 1) 125 ((hashN K0 (hashN K0 H0 bs (bs.length / 64)) TL m).list.map v32).toArray ∧ Blk wr w.heap.size 35 (arr 32 fun _ => 0) ∧ Below w.heap.size w wr) (fun i _ => E - (intOf i).toNat)
            case atStart => exact ⟨0, by omega, rfl, hT4, hS4, hR4, hbel4⟩
            case round =>
              clear hT4 hS4 hR4 hbel4
              obtain ⟨m, hm, rfl, hT4, hS4, hR4, hbel4⟩ := hrel
              have hGr := hG.next hbel4
              have hSl := hS4.lt
              have hTl4 := hT4.lt
              by_cases hmE : m < E / 64
              · have hm64 : 64 * m + 64 ≤ E := by omega
                have hsl : ∀ wx, (Instr.sliceAt 245 (.pointer (some ⟨T, 0, none⟩)) (some (.int .i64 (64 * (m : Int)))) none none).run Tryd.prog wx = .ok (.slice (some ⟨T, 64 * m, none⟩) (128 - 64 * m) (128 - 64 * m)) wx := fun wx => by
                  rw [run_sliceAt_array_l (P := Tryd.prog) (w := wx) ⟨T, 0, none⟩ Tryd.underlying245 (by kernel_rfl) .i64 (64 * (m : Int)) (by omega) (by omega), show (64 * (m : Int)).toNat = 64 * m by omega]
                  unfold Addr.add
                  by_cases h0 : 64 * m = 0
                  · rw [if_pos h0, h0]
                  · rw [if_neg h0]; simp
                go_wp2_with fail
                refine (mix_any _ (hashN K0 (hashN K0 H0 bs (bs.length / 64)) TL m) K0 _ _ _ _ (TL.drop (64 * m)) _ hS4 ?h1 ?h2 ?h3 ?h4 ?h5 ?h6 ?h7 ?h8 ?h9 ?h10).mono ?_
                case h1 => rw [List.length_drop, HTLl.out]; omega
                case h2 => rw [List.length_drop, HTLl.out]; omega
                case h3 => omega
                case h4 => omega
                case h5 =>
                  intro q hq
                  rw [getD_drop]
                  have := (hcT (64 * m + q) (by omega)) _ hT4
                  simpa using this
                case h6 => omega
                case h7 => omega
                case h8 => exact hGr.words
                case h9 => omega
                case h10 => exact hGr.b1
                rintro e w' ⟨rfl, hS', hon⟩
                go_wp2
                go_roundw
                case rel => exact ⟨m + 1, by omega, by go_num, hT4.grown hon (by simp; omega), hS', hR4.grown hon (by simp), below_only hbel4 hon (by omega) hbel4.size⟩
                case measure => simp [intOf]; omega
              · have em : m = E / 64 := by omega
                rw [em] at hS4
                clear em
                have hge : E ≤ 64 * m := by have := HE3.out; omega
                go_wp2
                have hD := Blk.new wr 35 (arr 32 fun _ => 0)
                have hS5 := hS4.alloc (Obj.cells (arr 32 fun _ => 0) 35)
                have hR5 := hR4.alloc (Obj.cells (arr 32 fun _ => 0) 35)
                have hbel5 := hbel4.alloc hbel4.size (Obj.cells (arr 32 fun _ => 0) 35)
                change Code.wp _ _ _ _ (wr.alloc (Obj.cells (arr 32 fun _ => 0) 35))
                generalize wr.alloc (Obj.cells (arr 32 fun _ => 0) 35) = w5 at hD hS5 hR5 hbel5 ⊢
                obtain ⟨D, eD⟩ : ∃ D, D = wr.heap.size := ⟨_, rfl⟩
                rw [← eD] at hD hSl hTl4 ⊢
                have HeD := Lib.hid eD
                clear eD hT4 hS4 hR4 hbel4 hGr
                have hfinal : sha bs = outBytes (hashN K0 (hashN K0 H0 bs (bs.length / 64)) TL (E / 64)) := by
                  rw [← HEq.out]
                  exact (sumOf_tail K0 H0 bs TL fun p hp => by rw [← HTLa.out p (by have := HEq.out; omega), HEq.out, Hrr.out]).symm
                have Hfin := Lib.hid hfinal
                clear hfinal
                generalize hq : hashN K0 (hashN K0 H0 bs (bs.length / 64)) TL (E / 64) = q at hS5 Hfin
                have Hq := Lib.hid hq
                clear hq
                go_loopw [12, 62] (fun _ i wr => ∃ j : Nat, j ≤ 32 ∧ i = .int .i64 j ∧ Blk wr D 35 (arr 32 fun p => if p < j then outB q p else 0) ∧ Blk wr (w.heap.size + 1) 125 (q.list.map v32).toArray ∧ Blk wr w.heap.size 35 (arr 32 fun _ => 0) ∧ Below w.heap.size w wr) (fun _ i _ => 32 - (intOf i).toNat)
                case atStart => exact ⟨0, by omega, rfl, hD, hS5, hR5, hbel5⟩
                case round =>
                  clear hD hS5 hR5 hbel5
                  obtain ⟨l, hl, rfl, hD, hS5, hR5, hbel5⟩ := hrel
                  by_cases hl32 : l < 32
                  · have cS := hS5.cell (l / 4)
                    rw [list_at q (l / 4) (by omega)] at cS
                    have cD := hD.cell l
                    rw [arr_at _ _ _ hl32] at cD
                    have fD := hD.frozen l
                    have ei : ((l : Int) / 4).toNat = l / 4 := by omega
                    go_wp2
                    go_roundw
                    case rel =>
                      have hstep := hD.set l (v8 (outB q l))
                      rw [arr_set, arr_congr 32 _ (fun p => if p < l + 1 then outB q p else 0) (fun p _ => by
                        by_cases h1 : p = l
                        · rw [if_pos h1, if_pos (by omega), h1]
                        · rw [if_neg h1]
                          by_cases h2 : p < l
                          · rw [if_pos h2, if_pos (by omega)]
                          · rw [if_neg h2, if_neg (by omega)])] at hstep
                      refine ⟨l + 1, by omega, by go_num, ?_, hS5.far (p := ⟨D, _, none⟩) (by show _ ≠ D; omega) _, hR5.far (p := ⟨D, _, none⟩) (by show _ ≠ D; omega) _, hbel5.setCell (p := ⟨D, _, none⟩) (by show _ ≤ D; omega) _⟩
                      rw [show (q.list[l / 4]?.getD 0) = q.list.getD (l / 4) 0 from rfl, outB_val]
                      exact hstep
                    case measure => simp [intOf]; omega
                  · have el : l = 32 := by omega
                    rw [el] at hD
                    clear el
                    have hDf : arr 32 (fun p => if p < 32 then outB q p else 0) = arr 32 (outB q) := arr_congr 32 _ _ fun p hp => if_pos hp
                    rw [hDf] at hD
                    clear hDf
                    go_wp2_with (first
                      | (refine wpList_load_row rfl 35 (.tmp 11) rfl D rfl _ _ _ _ hD Tryd.underlying35 rfl (by kernel_rfl) ?_)
                      | (refine wpList_storeArr rfl rfl 35 (.tmp 2) (.tmp 78) rfl w.heap.size rfl 32 (outB q) _ rfl _ hR5 (by kernel_rfl) ?_; intro w6 hR6 hon6))
                    have hb6 := below_only hbel5 hon6 (Nat.le_refl _) hbel5.size
                    refine bodyPost_ret (results_cell_row (p := 2) (ty := 35) rfl _ _ w.heap.size _ _ _ _ rfl hR6 Tryd.underlying35 rfl (by kernel_rfl)) rfl ⟨?_, hb6⟩
                    rw [Hfin.out, outBytes_dat]
theorem sum_b (v : Value) (bs : List UInt8) (w : World) (h : BSl w w.heap.size v bs) (hlm : bs.length ≤ 1152921504606846976) (hG : Glob w) :
    Calls Tryd.prog 126 #[v] w fun e w' => e = .returned (.agg (dat (sha bs))) ∧ Below w.heap.size w w' := by
  obtain ⟨A, cap, rfl, h1, h2, h3⟩ := h
  exact sum_any A cap bs w h3 h1 h2 hlm hG
theorem sha_length (bs : List UInt8) : (sha bs).length = 32 := by simp [sha, sumOf, outBytes]
attribute [irreducible] sha
end Go.Proofs.YtfggbfnnibpohaaDoor

/- A class of worlds: w with new blocks behind it, and draws. Quiet laws over it; equality of arrays of bytes. No condition. -/
namespace Go.Proofs.YtfggbfnnibpohaaDoor
open Go Go.RowKit
/-- What a call may have added. -/
structure Ext where
  blocks : Array Obj
  draws : Nat
instance : Nonempty Ext := ⟨⟨#[], 0⟩⟩
/-- w, with new blocks behind its own, and the count of draws set. -/
def plus (w : World) (e : Ext) : World := { w with heap := w.heap ++ e.blocks, drawn := e.draws }
theorem plus_block (w : World) (e : Ext) (k : Nat) (hk : k < w.heap.size) : (plus w e).heap[k]? = w.heap[k]? := by
  show (w.heap ++ e.blocks)[k]? = _
  rw [Array.getElem?_append_left hk]
theorem plus_size (w : World) (e : Ext) : (plus w e).heap.size = w.heap.size + e.blocks.size := by simp [plus]
theorem plus_le (w : World) (e : Ext) : w.heap.size ≤ (plus w e).heap.size := by rw [plus_size]; omega
theorem plus_cell (w : World) (e : Ext) (a : Addr) (h : a.block < w.heap.size) : (plus w e).cell? a = w.cell? a := World.cell?_of_block (plus_block w e _ h)
theorem plus_frozen (w : World) (e : Ext) (a : Addr) (h : a.block < w.heap.size) : (plus w e).frozen? a = w.frozen? a := World.frozen?_of_block (plus_block w e _ h)
theorem plus_below (w : World) (e : Ext) : Below w.heap.size w (plus w e) := ⟨rfl, rfl, rfl, plus_le w e, fun k hk => plus_block w e k hk⟩
theorem below_plus {w w' : World} (h : Below w.heap.size w w') : ∃ e, w' = plus w e := by
  refine ⟨⟨w'.heap.extract w.heap.size w'.heap.size, w'.drawn⟩, ?_⟩
  obtain ⟨hp, tp, dr, os, out⟩ := w'
  obtain ⟨hp0, tp0, dr0, os0, out0⟩ := w
  have h1 := h.os
  have h2 := h.tape
  have h3 := h.output
  have h4 := h.size
  have h5 := h.block
  simp only at h1 h2 h3 h4 h5
  subst h1; subst h2; subst h3
  unfold plus
  congr 1
  apply Array.ext_getElem?
  intro i
  by_cases hi : i < hp0.size
  · rw [Array.getElem?_append_left (show i < hp0.size from hi), h5 i hi]
  · rw [Array.getElem?_append_right (show hp0.size ≤ i by omega), Array.getElem?_extract]
    simp only
    by_cases h6 : i < hp.size
    · rw [if_pos (by omega)]; congr 1; omega
    · rw [if_neg (by omega), Array.getElem?_eq_none (by omega)]
theorem plus_drawn (w : World) (n : Nat) : ∃ e, { w with drawn := n } = plus w e := ⟨⟨#[], n⟩, by simp [plus]⟩
theorem plus_plus (w : World) (e : Ext) {w' : World} (h : Below (plus w e).heap.size (plus w e) w') : ∃ e', w' = plus w e' :=
  below_plus ((plus_below w e).trans (h.mono (plus_le w e)))
theorem Blk.plus {w : World} {g : Nat} {t : TypeId} {cs : Array Value} (h : Blk w g t cs) (e : Ext) : Blk (plus w e) g t cs := h.below (plus_below w e) h.lt
section
variable {P : Program} {ops : Array Oper} {C : World → Prop} {Q : Act → Prop} {a : Act} {o : Oper} {rest : List Oper}
theorem wpQuiet_wanted (hw : Region.wanted o (yielded ops a.tmps) = true) (v : Value) (h1 : ∀ w, C w → o.quietAt P a C w v) (h : wpQuiet P ops C Q rest (a.put o.dst v)) : wpQuiet P ops C Q (o :: rest) a := by
  unfold wpQuiet; rw [if_pos hw]; exact ⟨v, h1, h⟩
theorem wpQuiet_unwanted (hw : Region.wanted o (yielded ops a.tmps) = false) (h : wpQuiet P ops C Q rest (a.put o.dst undef)) : wpQuiet P ops C Q (o :: rest) a := by
  unfold wpQuiet; rw [if_neg (by rw [hw]; exact Bool.false_ne_true)]; exact h
/-- a call of a Go function whose answer is one value in every world of the class -/
theorem wpQuiet_call (hw : Region.wanted o (yielded ops a.tmps) = true) (f : FuncId) (args : Array Value) (v : Value) (hop : ∀ w, (execOp a.eval o).run P w = .ok (.enter f args) w)
    (h1 : ∀ w, C w → Calls P f args w fun e w' => e = .returned v ∧ C w') (h : wpQuiet P ops C Q rest (a.put o.dst v)) : wpQuiet P ops C Q (o :: rest) a :=
  wpQuiet_wanted hw v (fun w hC => by unfold Oper.quietAt; rw [hop]; exact ⟨rfl, h1 w hC⟩) h
/-- a whole array is loaded out of a block -/
theorem wpQuiet_load (hw : Region.wanted o (yielded ops a.tmps) = true) (ty : TypeId) (x : Operand) (ho : o.op = .load ty x) (g : Nat) (hx : a.eval x = .pointer (some ⟨g, 0, none⟩)) (t : TypeId) (cs : Array Value) (fr : Nat × Nat) (d : TypeDesc)
    (hg : ∀ w, C w → w.heap[g]? = some (.cells cs t fr)) (hu : P.underlying ty = some d) (hd : (match d with | .struct _ | .array _ _ => true | _ => false) = true) (hi : (P.info? ty).map (·.size) = some cs.size)
    (h : wpQuiet P ops C Q rest (a.put o.dst (.agg cs))) : wpQuiet P ops C Q (o :: rest) a :=
  wpQuiet_wanted hw (.agg cs) (fun w hC => by
    unfold Oper.quietAt execOp
    simp only [ho, hx, Instr.loadAt, Instr.sureAddr, Sem.run_bind, Sem.run_pure, Result.andThen_ok, run_loadVar_row w g t ty cs fr d (hg w hC) hu hd hi]
    exact ⟨rfl, rfl⟩) h
end
theorem wp_region_quiet_plus {P : Program} {id : Nat} {Q : Exit → Act → World → Prop} {a : Act} {w : World} {l : List Oper} (hm : P.follows .mixedOrders = true) (hB : Region.lexB .any l.toArray = true)
    (h : wpQuiet P l.toArray (fun w' => ∃ e, w' = plus w e) (fun a' => ∀ w', (∃ e, w' = plus w e) → Q .normal a' w') l a) : (Code.region id l.toArray true).wp P Q a w :=
  wp_region_quiet (C := fun w' => ∃ e, w' = plus w e) hm hB (plus_drawn w _) (by simpa using h)
theorem wp_region_quiet_tail_plus {P : Program} {id : Nat} {Q : Exit → Act → World → Prop} {a : Act} {w : World} {l : List Oper} (n : Nat) (hm : P.follows .mixedOrders = true) (hB : Region.lexTailB .any l.toArray n = true)
    (h : wpQuiet P l.toArray (fun w' => ∃ e, w' = plus w e) (fun a' => ∀ w', (∃ e, w' = plus w e) → wpList P l.toArray Q (l.drop n) a' w') (l.take n) a) : (Code.region id l.toArray true).wp P Q a w :=
  wp_region_quiet_tail n (fun w' => ∃ e, w' = plus w e) hm hB (plus_drawn w _) h
theorem calls_plus {P : Program} {f : FuncId} {args : Array Value} {w : World} {e : Ext} {v : Value}
    (h : Calls P f args (plus w e) fun en w' => en = .returned v ∧ Below (plus w e).heap.size (plus w e) w') : Calls P f args (plus w e) fun en w' => en = .returned v ∧ ∃ e', w' = plus w e' :=
  h.mono fun _ _ h => ⟨h.1, plus_plus w e h.2⟩
/-- '==' on two arrays of bytes -/
theorem run_part_byte {P : Program} (w : World) {e : TypeId} {k : IntKind} (he : P.underlying e = some (.int k)) (cs : Array Value) (i : Nat) (v : Value) (h : cs[i]? = some v) : (part e cs i).run P w = .ok v w := by
  simp [part, isAgg, run_underlying he, h]
theorem run_eqItems_bytes {P : Program} (w : World) (d : Nat) {e : TypeId} (he : P.underlying e = some (.int .u8)) (hc : P.cellsOf e = 1) (xs ys : List UInt8) : ∀ (m k : Nat), k + m = xs.length → k + m = ys.length →
    (Op.eqItems (d + 1) e (P.cellsOf e) (xs.map v8).toArray (ys.map v8).toArray (List.range' k m)).run P w = .ok (decide (xs.drop k = ys.drop k)) w
  | 0, k, h1, h2 => by
    have e1 : xs.drop k = [] := List.drop_of_length_le (by omega)
    have e2 : ys.drop k = [] := List.drop_of_length_le (by omega)
    rw [e1, e2]
    simp [Op.eqItems]
  | m + 1, k, h1, h2 => by
    have hx : k < xs.length := by omega
    have hy : k < ys.length := by omega
    have ih := run_eqItems_bytes w d he hc xs ys m (k + 1) (by omega) (by omega)
    rw [hc] at ih ⊢
    rw [List.range'_succ]
    simp only [Op.eqItems, Sem.run_bind, Nat.mul_one]
    rw [run_part_byte w he _ k (v8 xs[k]) (by simp [hx]), Result.andThen_ok, run_part_byte w he _ k (v8 ys[k]) (by simp [hy]), Result.andThen_ok]
    have hq : (Op.equalIn (d + 1) e (v8 xs[k]) (v8 ys[k])).run P w = .ok (n8 xs[k] == n8 ys[k]) w := by
      simp [v8, Op.equalIn, run_underlying he]
    rw [hq, Result.andThen_ok, List.drop_eq_getElem_cons hx, List.drop_eq_getElem_cons hy]
    by_cases hb : xs[k] = ys[k]
    · rw [hb]
      simp only [beq_self_eq_true, Bool.not_true, Bool.false_eq_true, if_false, List.cons.injEq, true_and]
      exact ih
    · have hn : (n8 xs[k] == n8 ys[k]) = false := by rw [beq_eq_false_iff_ne]; exact fun e => hb (n8_inj e)
      rw [hn]
      have hne : ¬ (xs[k] :: xs.drop (k + 1) = ys[k] :: ys.drop (k + 1)) := fun e => hb (List.cons.inj e).1
      rw [decide_eq_false hne]
      simp
theorem run_eql_bytes {P : Program} (w : World) (t e : TypeId) (n : Nat) (i : TypeInfo) (hu : P.underlying t = some (.array n e)) (hi : P.info? e = some i) (he : P.underlying e = some (.int .u8)) (hc : P.cellsOf e = 1)
    (xs ys : List UInt8) (hx : xs.length = n) (hy : ys.length = n) : (binOp .eql t (.agg (xs.map v8).toArray) (.agg (ys.map v8).toArray)).run P w = .ok (.bool (decide (xs = ys))) w := by
  rw [run_eql_struct, run_equalIn_array w 9999 _ _ hu hi, List.range_eq_range', run_eqItems_bytes w 9998 he hc xs ys n 0 (by omega) (by omega)]
  simp
theorem run_eqi_bytes {P : Program} (w : World) (t e : TypeId) (n : Nat) (i : TypeInfo) (hu : P.underlying t = some (.array n e)) (hi : P.info? e = some i) (he : P.underlying e = some (.int .u8)) (hc : P.cellsOf e = 1)
    (xs ys : List UInt8) (hx : xs.length = n) (hy : ys.length = n) : (Op.equalIn 10000 t (.agg (xs.map v8).toArray) (.agg (ys.map v8).toArray)).run P w = .ok (decide (xs = ys)) w := by
  rw [run_equalIn_array w 9999 _ _ hu hi, List.range_eq_range', run_eqItems_bytes w 9998 he hc xs ys n 0 (by omega) (by omega)]
  simp
theorem run_neq_bytes {P : Program} (w : World) (t e : TypeId) (n : Nat) (i : TypeInfo) (hu : P.underlying t = some (.array n e)) (hi : P.info? e = some i) (he : P.underlying e = some (.int .u8)) (hc : P.cellsOf e = 1)
    (xs ys : List UInt8) (hx : xs.length = n) (hy : ys.length = n) : (binOp .neq t (.agg (xs.map v8).toArray) (.agg (ys.map v8).toArray)).run P w = .ok (.bool (!decide (xs = ys))) w := by
  rw [run_neq_struct, run_equalIn_array w 9999 _ _ hu hi, List.range_eq_range', run_eqItems_bytes w 9998 he hc xs ys n 0 (by omega) (by omega)]
  simp
end Go.Proofs.YtfggbfnnibpohaaDoor

/- The walks of sha's Cut and Join. No condition. -/
namespace Go.Proofs.YtfggbfnnibpohaaDoor
open Go.RowKit
def cutL (d : List UInt8) (n : Int) : List UInt8 := d.take n.toNat ++ List.replicate (32 - n.toNat) 0
theorem cutL_length (d : List UInt8) (n : Int) (hd : d.length = 32) : (cutL d n).length = 32 := by
  unfold cutL; rw [List.length_append, List.length_take, List.length_replicate, hd]; omega
theorem cutL_arr (d : List UInt8) (n : Int) (hd : d.length = 32) : ((cutL d n).map v8).toArray = arr 32 (fun p => if (p : Int) < n then d.getD p 0 else 0) := by
  rw [arr_list, cutL_length d n hd]
  apply arr_congr
  intro p hp
  unfold cutL
  rw [List.getD_eq_getElem?_getD]
  by_cases h : (p : Int) < n
  · rw [if_pos h, List.getElem?_append_left (by rw [List.length_take]; omega), List.getElem?_take, if_pos (by omega)]; rfl
  · rw [if_neg h, List.getElem?_append_right (by rw [List.length_take]; omega), List.getElem?_replicate]
    split <;> rfl
theorem cutL_map (d : List UInt8) (n : Int) (hd : d.length = 32) : cutL d n = (List.range 32).map (fun p : Nat => if (p : Int) < n then d.getD p 0 else 0) := by
  apply List.ext_getElem?
  intro p
  unfold cutL
  by_cases hp : p < 32
  · rw [List.getElem?_map, List.getElem?_range hp]
    by_cases h : (p : Int) < n
    · rw [List.getElem?_append_left (by rw [List.length_take]; omega), List.getElem?_take, if_pos (by omega)]
      simp [h, hd, hp]
    · rw [List.getElem?_append_right (by rw [List.length_take]; omega), List.getElem?_replicate, if_pos (by rw [List.length_take]; omega)]
      simp [h]
  · rw [List.getElem?_eq_none (by rw [List.length_append, List.length_take, List.length_replicate]; omega), List.getElem?_eq_none (by simp; omega)]
theorem cutL_cutL (d : List UInt8) (m n : Int) (hd : d.length = 32) : cutL (cutL d m) n = cutL d (min m n) := by
  rw [cutL_map (cutL d m) n (cutL_length d m hd), cutL_map d (min m n) hd]
  apply List.map_congr_left
  intro p hp
  have hp := List.mem_range.1 hp
  rw [cutL_map d m hd]
  by_cases h1 : (p : Int) < n
  · by_cases h2 : (p : Int) < m
    · rw [if_pos h1, if_pos (show (p : Int) < min m n by omega)]; simp [hp, h2]
    · rw [if_pos h1, if_neg (show ¬ (p : Int) < min m n by omega)]; simp [hp, h2]
  · rw [if_neg h1, if_neg (show ¬ (p : Int) < min m n by omega)]
/-- '==' on digests -/
theorem eql_dat (X Y : List UInt8) (hX : X.length = 32) (hY : Y.length = 32) (W : World) : (binOp .eql 35 (.agg (dat X)) (.agg (dat Y))).run Tryd.prog W = .ok (.bool (decide (X = Y))) W := by
  rw [dat_eq X hX, dat_eq Y hY]
  obtain ⟨i0, hi, _⟩ := info_parts (by kernel_rfl : (Tryd.prog.info? 5).map (fun i => (i.zero, i.size, i.bytes)) = some (some (.int .u8 0), 1, 1))
  exact run_eql_bytes W 35 5 32 i0 Tryd.underlying35 hi Tryd.underlying5 (by kernel_rfl) X Y hX hY
/-- the same, as the walk opens '==' and '!=' -/
theorem eqi_dat (X Y : List UInt8) (hX : X.length = 32) (hY : Y.length = 32) (W : World) : (Op.equalIn 10000 35 (.agg (dat X)) (.agg (dat Y))).run Tryd.prog W = .ok (decide (X = Y)) W := by
  rw [dat_eq X hX, dat_eq Y hY]
  obtain ⟨i0, hi, _⟩ := info_parts (by kernel_rfl : (Tryd.prog.info? 5).map (fun i => (i.zero, i.size, i.bytes)) = some (some (.int .u8 0), 1, 1))
  exact run_eqi_bytes W 35 5 32 i0 Tryd.underlying35 hi Tryd.underlying5 (by kernel_rfl) X Y hX hY
theorem eqi_true (X Y : List UInt8) (hX : X.length = 32) (hY : Y.length = 32) (h : X = Y) (W : World) : (Op.equalIn 10000 35 (.agg (dat X)) (.agg (dat Y))).run Tryd.prog W = .ok true W := by
  rw [eqi_dat X Y hX hY, decide_eq_true h]
theorem eqi_false (X Y : List UInt8) (hX : X.length = 32) (hY : Y.length = 32) (h : X ≠ Y) (W : World) : (Op.equalIn 10000 35 (.agg (dat X)) (.agg (dat Y))).run Tryd.prog W = .ok false W := by
  rw [eqi_dat X Y hX hY, decide_eq_false h]
theorem neq_dat (X Y : List UInt8) (hX : X.length = 32) (hY : Y.length = 32) (W : World) : (binOp .neq 35 (.agg (dat X)) (.agg (dat Y))).run Tryd.prog W = .ok (.bool (!decide (X = Y))) W := by
  rw [dat_eq X hX, dat_eq Y hY]
  obtain ⟨i0, hi, _⟩ := info_parts (by kernel_rfl : (Tryd.prog.info? 5).map (fun i => (i.zero, i.size, i.bytes)) = some (some (.int .u8 0), 1, 1))
  exact run_neq_bytes W 35 5 32 i0 Tryd.underlying35 hi Tryd.underlying5 (by kernel_rfl) X Y hX hY
section
variable {ops : Array Oper} {C : World → Prop} {Q : Act → Prop} {a : Act} {o : Oper} {rest : List Oper}
theorem eqGuard_dat (op : BinOp) (x y : Operand) (X Y : Array Value) (W : World) : (eqGuard op 35 x y (.agg X) (.agg Y)).run Tryd.prog W = .ok () W := run_eqGuard_agg W op 35 x y X Y (by kernel_rfl)
/-- '==' on digests in a quiet region -/
theorem wpQuiet_eqD (hw : Region.wanted o (yielded ops a.tmps) = true) (x y : Operand) (yt : TypeId) (ho : o.op = .binOp .eql 35 x y yt) (X Y : List UInt8) (hx : a.eval x = .agg (dat X)) (hy : a.eval y = .agg (dat Y)) (hX : X.length = 32) (hY : Y.length = 32)
    (b : Bool) (hb : decide (X = Y) = b) (h : wpQuiet Tryd.prog ops C Q rest (a.put o.dst (.bool b))) : wpQuiet Tryd.prog ops C Q (o :: rest) a :=
  wpQuiet_wanted hw (.bool b) (fun w _ => by
    unfold Oper.quietAt execOp
    simp only [ho, hx, hy, Sem.run_bind, Sem.run_pure, Result.andThen_ok, eqGuard_dat, eql_dat X Y hX hY, hb]
    exact ⟨rfl, rfl⟩) h
theorem wpQuiet_neD (hw : Region.wanted o (yielded ops a.tmps) = true) (x y : Operand) (yt : TypeId) (ho : o.op = .binOp .neq 35 x y yt) (X Y : List UInt8) (hx : a.eval x = .agg (dat X)) (hy : a.eval y = .agg (dat Y)) (hX : X.length = 32) (hY : Y.length = 32)
    (b : Bool) (hb : decide (X = Y) = b) (h : wpQuiet Tryd.prog ops C Q rest (a.put o.dst (.bool (!b)))) : wpQuiet Tryd.prog ops C Q (o :: rest) a :=
  wpQuiet_wanted hw (.bool (!b)) (fun w _ => by
    unfold Oper.quietAt execOp
    simp only [ho, hx, hy, Sem.run_bind, Sem.run_pure, Result.andThen_ok, eqGuard_dat, neq_dat X Y hX hY, hb]
    exact ⟨rfl, rfl⟩) h
/-- .. and in a plain region -/
theorem wpList_eqD {w : World} {Q : Exit → Act → World → Prop} (hgd : o.guard = none) (x y : Operand) (yt : TypeId) (ho : o.op = .binOp .eql 35 x y yt) (X Y : List UInt8) (hx : a.eval x = .agg (dat X)) (hy : a.eval y = .agg (dat Y)) (hX : X.length = 32) (hY : Y.length = 32)
    (b : Bool) (hb : decide (X = Y) = b) (h : wpList Tryd.prog ops Q rest (a.put o.dst (.bool b)) w) : wpList Tryd.prog ops Q (o :: rest) a w :=
  wpList_plain hgd fun K hK => by
    unfold Oper.wp execOp
    simp only [ho, hx, hy, Sem.run_bind, Sem.run_pure, Result.andThen_ok, eqGuard_dat, eql_dat X Y hX hY, hb]
    exact hK _ _ h
theorem wpList_neD {w : World} {Q : Exit → Act → World → Prop} (hgd : o.guard = none) (x y : Operand) (yt : TypeId) (ho : o.op = .binOp .neq 35 x y yt) (X Y : List UInt8) (hx : a.eval x = .agg (dat X)) (hy : a.eval y = .agg (dat Y)) (hX : X.length = 32) (hY : Y.length = 32)
    (b : Bool) (hb : decide (X = Y) = b) (h : wpList Tryd.prog ops Q rest (a.put o.dst (.bool (!b))) w) : wpList Tryd.prog ops Q (o :: rest) a w :=
  wpList_plain hgd fun K hK => by
    unfold Oper.wp execOp
    simp only [ho, hx, hy, Sem.run_bind, Sem.run_pure, Result.andThen_ok, eqGuard_dat, neq_dat X Y hX hY, hb]
    exact hK _ _ h
end
set_option maxRecDepth 100000 in
theorem cut_any (d : List UInt8) (hd : d.length = 32) (n : Int) (w : World) :
    Calls Tryd.prog 137 #[.agg (dat d), .int .i64 n] w fun e w' => e = .returned (.agg (dat (cutL d n))) ∧ Below w.heap.size w w' := by
  have ed : (d.map v8).toArray = arr 32 (fun p => d.getD p 0) := by rw [arr_list, hd]
  show Calls _ _ #[.agg (arr 32 fun p => d.getD p 0), .int .i64 n] _ _
  go_enter Tryd.func137, Tryd.ntmps137
  go_wp2
  refine wp_at (fun W => Blk W w.heap.size 35 (arr 32 fun p => d.getD p 0) ∧ Blk W (w.heap.size + 1) 35 (arr 32 fun _ => 0) ∧ Blk W (w.heap.size + 2) 35 (arr 32 fun _ => 0) ∧ Below w.heap.size w W)
    ⟨((Blk.new w _ _).alloc _).alloc _, ?_, ?_, (((Below.refl _ _).alloc (Nat.le_refl _) _).alloc (by simp) _).alloc (by simp; omega) _⟩ ?_
  · refine Blk.alloc ?_ _
    rw [show w.heap.size + 1 = (w.alloc (Obj.cells (arr 32 fun p => d.getD p 0) 35)).heap.size by simp]
    exact Blk.new _ _ _
  · rw [show w.heap.size + 2 = ((w.alloc (Obj.cells (arr 32 fun p => d.getD p 0) 35)).alloc (Obj.cells (arr 32 fun _ => 0) 35)).heap.size by simp]
    exact Blk.new _ _ _
  intro W ⟨hA, hB, hC, hbel⟩
  refine wp_region_quiet_tail 5 (fun W' => ∃ n, W' = W.drewN n) (by kernel_rfl) (by kernel_rfl) ⟨1, rfl⟩ ?_
  simp only [List.take_succ_cons, List.take_zero, List.drop_succ_cons, List.drop_zero]
  repeat (go_big_quiet_step (fail))
  obtain ⟨m, hm⟩ : ∃ m : Nat, m = min n.toNat 32 := ⟨_, rfl⟩
  have hm32 : m ≤ 32 := by omega
  rw [show (if 32 < if n < 0 then 0 else n then 32 else if n < 0 then 0 else n) = (m : Int) by split <;> (try split) <;> omega]
  have Hm := Lib.hid hm
  clear hm
  generalize (if n < 0 then 0 else n) = n8'
  have hsl : ∀ wx, (Instr.sliceAt 35 (.pointer (some ⟨w.heap.size, 0, none⟩)) none (some (.int .i64 (m : Int))) none).run Tryd.prog wx = .ok (.slice (some ⟨w.heap.size, 0, none⟩) m 32) wx := fun wx =>
    run_sliceAt_array_hh (P := Tryd.prog) (w := wx) ⟨w.heap.size, 0, none⟩ Tryd.underlying35 (by kernel_rfl) .i64 (m : Int) (by omega) (by omega)
  repeat (go_big_quiet_step (fail))
  refine wpQuiet_nil ?_
  intro W' hW'
  obtain ⟨nq, rfl⟩ := hW'
  have e1 := copied_arr 32 (fun _ => 0) 0 (d.take m) 32 (by rw [List.length_take, hd]; show 0 + min (min m 32) 32 ≤ 32; omega)
  have e2 : (d.take m).length = m := by rw [List.length_take, hd]; omega
  rw [e2] at e1
  have hrd : Reads (W.drewN nq) (w.heap.size + 1) (some ⟨w.heap.size, 0, none⟩) ((d.take m).map v8) := by
    have := (Reads.of_blk (hA.drewN nq) (by omega : w.heap.size < w.heap.size + 1) 0).take m
    rw [List.map_take]
    rw [← ed] at this
    simpa using this
  refine wpList_copyR rfl (.tmp 6) (.tmp 10) _ _ rfl 5 Tryd.underlying22 (by kernel_rfl) (w.heap.size + 2) 0 32 32 _ _ _ rfl rfl _ _ (hC.drewN nq) _ _ hrd (by rw [List.length_map, e2]) (by rw [arr_size]; show 0 + min m 32 ≤ 32; omega) (oneCell_v8 _) ?_
  intro W2 hC2 hon2
  rw [e1] at hC2
  have hB2 := (hB.drewN nq).grown hon2 (by simp)
  have hb2 := below_only (below_drewN hbel nq) hon2 (by omega) hbel.size
  go_wp2_with (first
    | (refine wpList_load_row rfl 35 (.tmp 5) rfl (w.heap.size + 2) rfl _ _ _ _ hC2 Tryd.underlying35 rfl (by kernel_rfl) ?_)
    | (refine wpList_storeArr rfl rfl 35 (.tmp 4) (.tmp 12) rfl (w.heap.size + 1) rfl 32 _ _ rfl _ hB2 (by kernel_rfl) ?_; intro w6 hR6 hon6))
  have hb6 := below_only hb2 hon6 (by omega) hb2.size
  refine bodyPost_ret (results_cell_row (p := 4) (ty := 35) rfl _ _ (w.heap.size + 1) _ _ _ _ rfl hR6 Tryd.underlying35 rfl (by kernel_rfl)) rfl ⟨?_, hb6⟩
  rw [dat_eq _ (cutL_length d n hd), cutL_arr d n hd]
  congr 2
  apply arr_congr
  intro p hp
  have := Hm.out
  show (if 0 ≤ p ∧ p < 0 + min m 32 then (d.take m).getD (p - 0) 0 else 0) = _
  by_cases h : (p : Int) < n
  · rw [if_pos h, if_pos (show 0 ≤ p ∧ p < 0 + min m 32 by omega), Nat.sub_zero, List.getD_eq_getElem?_getD, List.getElem?_take, if_pos (by omega)]; rfl
  · rw [if_neg h, if_neg (show ¬ (0 ≤ p ∧ p < 0 + min m 32) by omega)]
theorem take_flat (ls : List (List UInt8)) (k : Nat) (hk : k < ls.length) : (ls.take (k + 1)).flatten = (ls.take k).flatten ++ ls.getD k [] := by
  rw [List.take_succ_eq_append_getElem hk, List.flatten_append]
  simp [hk]
theorem flat_le (ls : List (List UInt8)) (k : Nat) : (ls.take k).flatten.length ≤ ls.flatten.length := by
  conv => rhs; rw [← List.take_append_drop k ls]
  rw [List.flatten_append, List.length_append]; omega
theorem join_any (v : Value) (ls : List (List UInt8)) (w : World) (h : SSl w w.heap.size v ls) (hlen : ls.flatten.length ≤ 140737488355328) :
    Calls Tryd.prog 115 #[v] w fun e w' => ∃ u, e = .returned u ∧ w'.ownsRow w.heap.size 5 1 u ls.flatten.length (ls.flatten.map v8) ∧ Below w.heap.size w w' := by
  obtain ⟨i0, hi, hz0, hz1, hz2⟩ := info_parts (by kernel_rfl : (Tryd.prog.info? 5).map (fun i => (i.zero, i.size, i.bytes)) = some (some (.int .u8 0), 1, 1))
  obtain ⟨A, cap, vs, rfl, hc1, hc2, hr, hvl, hel⟩ := h
  go_enter Tryd.func115, Tryd.ntmps115
  go_wp2
  go_loopw [3, 5, 8] (fun u _ i wr => ∃ k : Nat, k ≤ ls.length ∧ i = .int .i64 k ∧ wr.ownsRow w.heap.size 5 1 u ((ls.take k).flatten.map v8).length ((ls.take k).flatten.map v8) ∧ Below w.heap.size w wr) (fun _ _ i _ => ls.length - (intOf i).toNat)
  case atStart => exact ⟨0, by omega, rfl, by simpa using World.ownsRow_nil _ _ _ _, Below.refl _ _⟩
  case round =>
    obtain ⟨k, hk, rfl, hown, hbel⟩ := hrel
    by_cases hlt : k < ls.length
    · obtain ⟨b, off, rfl, hb, hc⟩ := hr (by omega)
      have hvk : vs[k]? = some (vs.getD k undef) := by rw [List.getD_eq_getElem?_getD, List.getElem?_eq_getElem (by omega)]; rfl
      obtain ⟨A2, cap2, e2, hc21, hc22, hr2⟩ := hel k hlt
      rw [e2] at hvk
      have cv : wr.cell? ⟨b, off + k, none⟩ = some (.slice A2 (ls.getD k []).length cap2) := (hbel.cell (p := ⟨b, off + k, none⟩) hb).trans (hc k _ hvk)
      have hr3 := hr2.below hbel
      have hL1 := flat_le ls (k + 1)
      rw [take_flat ls k hlt, List.length_append] at hL1
      obtain ⟨x, hx⟩ : ∃ x, x = ls.getD k [] := ⟨_, rfl⟩
      rw [← hx] at cv hr3 hL1
      have Hx := Lib.hid hx
      have He2 := Lib.hid e2
      clear hx hvk hr2 hc21 e2
      have hlx : ((ls.take k).flatten.map v8).length = (ls.take k).flatten.length := List.length_map ..
      go_wp2_with (first
        | (at_builtin; refine wpList_appendR rfl (.tmp 12) (.tmp 13) _ rfl w.heap.size 5 i0 _ 1 Tryd.underlying22 hi hz0 hz1 hz2 rfl _ _ rfl hown _ A2 _ _ _ rfl hr3 (by rw [List.length_map]) (oneCell_v8 _) (by unfold maxLen; omega) (by omega) hbel.size ?_; intro u1 w1 hown1 hg1 hat1))
      have hg2 : wr.grownBy w1 u3.ownBlock := hg1
      go_roundw
      case rel =>
        refine ⟨k + 1, by omega, by go_num, ?_, below_own hbel hown hg2 hbel.size⟩
        rw [take_flat ls k hlt, List.map_append, ← Hx.out]
        exact hown1
      case measure => simp [intOf]; omega
    · have ek : k = ls.length := by omega
      rw [ek, List.take_length] at hown
      clear ek
      go_wp2
      go_ret
      rw [List.length_map] at hown
      exact ⟨u3, rfl, hown, hbel⟩
end Go.Proofs.YtfggbfnnibpohaaDoor
