/- Texts that stand behind one another: RdP, Rd, RdT, RdN, RdB. No condition. -/
import Derived.Test.YteonmcconpfkjaaDoorQ2
import Derived.Test.YteonmcconpfkjaaDoorQ9
import Derived.Test.YteonmcconpfkjaaDoorQ8
/- A reader in plain Lean: what is read, and what is refused where. No condition. -/
namespace Go.Proofs.YteonmcconpfkjaaDoor
open Go.RowKit
/-- the number that some bytes are -/
def numF (bs : List UInt8) : Nat := bs.foldl (fun n c => n * 256 + c.toNat) 0
theorem numF_snoc (bs : List UInt8) (c : UInt8) : numF (bs ++ [c]) = numF bs * 256 + c.toNat := by simp [numF]
theorem numF_lt (bs : List UInt8) : numF bs < 256 ^ bs.length := by
  have key : ∀ (n : Nat) (l : List UInt8), l.length = n → numF l < 256 ^ n := by
    intro n
    induction n with
    | zero => intro l hl; rw [List.eq_nil_of_length_eq_zero hl]; simp [numF]
    | succ n ih =>
      intro l hl
      obtain ⟨m, c, rfl⟩ : ∃ m c, l = m ++ [c] := ⟨l.dropLast, l.getLast (by intro h; rw [h] at hl; simp at hl), (List.dropLast_concat_getLast (by intro h; rw [h] at hl; simp at hl)).symm⟩
      have := ih m (by simpa using hl)
      have hc := c.toNat_lt
      rw [numF_snoc, Nat.pow_succ]
      omega
  exact key _ bs rfl
theorem numF_small (bs : List UInt8) (h : bs.length ≤ 8) : numF bs < 18446744073709551616 := by
  have h1 := numF_lt bs
  have h2 : 256 ^ bs.length ≤ 256 ^ 8 := Nat.pow_le_pow_right (by decide) h
  have h3 : (256 : Nat) ^ 8 = 18446744073709551616 := by decide
  omega
theorem numF_step (bs : List UInt8) (j : Nat) (h : j < bs.length) : numF (bs.take (j + 1)) = numF (bs.take j) * 256 + (bs.getD j 0).toNat := by
  rw [List.take_succ_eq_append_getElem h, numF_snoc, List.getD_eq_getElem?_getD, List.getElem?_eq_getElem h]; rfl
theorem or_step (x c : Nat) (hc : c < 256) (hx : x * 256 < 18446744073709551616) : Go.bits .or .u64 ((x : Int) * 256) (c : Int) = (x : Int) * 256 + (c : Int) := by
  have h1 : ((x : Int) * 256) = n64 (UInt64.ofNat (x * 256)) := by unfold n64; rw [UInt64.toNat_ofNat_of_lt' (by show _ < 18446744073709551616; omega)]; omega
  have h2 : (c : Int) = n64 (UInt64.ofNat c) := by unfold n64; rw [UInt64.toNat_ofNat_of_lt' (by show _ < 18446744073709551616; omega)]
  rw [h1, h2, bits_or64]
  unfold n64
  rw [UInt64.toNat_or, UInt64.toNat_ofNat_of_lt' (by show _ < 18446744073709551616; omega), UInt64.toNat_ofNat_of_lt' (by show _ < 18446744073709551616; omega)]
  have h3 := Nat.shiftLeft_add_eq_or_of_lt (b := c) (i := 8) (by omega) x
  rw [Nat.shiftLeft_eq, show (2 : Nat) ^ 8 = 256 from rfl] at h3
  omega
/-- a reader: its bytes, how far it has come, where and why it refused -/
structure RdL where
  bs : List UInt8
  pos : Nat
  no : Option (Nat × Nat)
def RdL.refuse (s : RdL) (at' why : Nat) : RdL := if s.no.isSome then s else if why = 0 then s else { s with no := some (at', why) }
def RdL.take (s : RdL) (n : Nat) : List UInt8 × RdL := if s.no.isSome then ([], s) else if s.bs.length < s.pos + n then ([], { s with no := some (s.bs.length, 10) }) else ((s.bs.drop s.pos).take n, { s with pos := s.pos + n })
def RdL.number (s : RdL) (k : Int) : Nat × RdL := (numF (s.take (clamp8 k)).1, (s.take (clamp8 k)).2)
def RdL.bytes (s : RdL) (most : Int) : List UInt8 × RdL :=
  if (s.number 2).2.no.isSome then ([], (s.number 2).2)
  else if most < ((s.number 2).1 : Int) then ([], { (s.number 2).2 with pos := s.pos, no := some (s.pos, 3) })
  else (s.number 2).2.take (s.number 2).1
/-- 32 bytes, noughts where there are none -/
def RdL.digest (s : RdL) : List UInt8 × RdL := (if (s.take 32).1 = [] then List.replicate 32 0 else (s.take 32).1, (s.take 32).2)
def RdL.stop (s : RdL) : Option (Nat × Nat) := match s.no with
  | some x => some x
  | none => if s.pos < s.bs.length then some (s.pos, 11) else none
theorem RdL.take_len (s : RdL) (n : Nat) : (s.take n).1 = [] ∨ (s.take n).1.length = n := by
  unfold RdL.take
  split
  · exact .inl rfl
  · split
    · exact .inl rfl
    · right; rw [List.length_take, List.length_drop]; omega
theorem RdL.take_le (s : RdL) (n : Nat) : (s.take n).1.length ≤ n := by
  rcases s.take_len n with h | h
  · rw [h]; exact Nat.zero_le _
  · omega
theorem RdL.take_bs (s : RdL) (n : Nat) : (s.take n).2.bs = s.bs := by
  unfold RdL.take
  split
  · rfl
  · split <;> rfl
theorem RdL.number_lt (s : RdL) (k : Int) : (s.number k).1 < 18446744073709551616 := numF_small _ (Nat.le_trans (s.take_le _) (clamp8_hi k))
theorem RdL.number2_lt (s : RdL) : (s.number 2).1 < 65536 := by
  have h1 := numF_lt (s.take (clamp8 2)).1
  have h2 : (s.take (clamp8 2)).1.length ≤ 2 := s.take_le 2
  have h3 : 256 ^ (s.take (clamp8 2)).1.length ≤ 256 ^ 2 := Nat.pow_le_pow_right (by decide) h2
  have h4 : (256 : Nat) ^ 2 = 65536 := by decide
  show numF _ < 65536
  omega
theorem RdL.number_bs (s : RdL) (k : Int) : (s.number k).2.bs = s.bs := s.take_bs _
theorem RdL.bytes_bs (s : RdL) (m : Int) : (s.bytes m).2.bs = s.bs := by
  unfold RdL.bytes
  split
  · exact s.number_bs 2
  · split
    · exact s.number_bs 2
    · rw [RdL.take_bs]; exact s.number_bs 2
theorem RdL.bytes_len (s : RdL) (m : Int) : (s.bytes m).1.length ≤ 65535 := by
  have h := s.number2_lt
  unfold RdL.bytes
  split
  · exact Nat.zero_le _
  · split
    · exact Nat.zero_le _
    · exact Nat.le_trans ((s.number 2).2.take_le _) (by omega)
theorem RdL.digest_len (s : RdL) : s.digest.1.length = 32 := by
  unfold RdL.digest
  simp only
  split
  · simp
  · rcases s.take_len 32 with h | h
    · exact absurd h ‹_›
    · exact h
end Go.Proofs.YteonmcconpfkjaaDoor

/- The walks of codec's Reader: refuse, take. No condition. -/
namespace Go.Proofs.YteonmcconpfkjaaDoor
open Go Go.RowKit
attribute [local irreducible] mixW
attribute [local go_sem] n8_lo n8_hi n64_lo n64_hi
/-- the refusal that a reader keeps -/
def RefQ (w : World) (B : Nat) (q : Value) : Option (Nat × Nat) → Prop
  | none => q = .pointer none
  | some x => ∃ h, q = .pointer (some ⟨h, 0, none⟩) ∧ B ≤ h ∧ Blk w h 236 #[.int .i64 (x.1 : Int), .int .i64 (x.2 : Int)]
/-- a Reader of the call's own, in block g, its bytes in an older block -/
def Rdr (w : World) (B g : Nat) (s : RdL) : Prop :=
  ∃ A c q, (B ≤ g ∧ ∀ k, (Value.slice A s.bs.length c).ownBlock = some k → k < g) ∧ Blk w g 233 #[.slice A s.bs.length c, .int .i64 (s.pos : Int), q] ∧ w.ownsRow B 5 1 (.slice A s.bs.length c) s.bs.length (s.bs.map v8) ∧ s.pos ≤ s.bs.length ∧ s.bs.length ≤ 140737488355328 ∧ RefQ w B q s.no
section
variable {w w' : World} {B g : Nat} {s : RdL}
theorem RefQ.below {q : Value} {o : Option (Nat × Nat)} (h : RefQ w B q o) (hb : Below w.heap.size w w') : RefQ w' B q o := by
  cases o with
  | none => exact h
  | some x => obtain ⟨k, e, hB, hk⟩ := h; exact ⟨k, e, hB, hk.below hb hk.lt⟩
theorem RefQ.grown {q : Value} {o : Option (Nat × Nat)} {k : Nat} {t : TypeId} {cs : Array Value} (h : RefQ w B q o) (hg : w.grownBy w' (some k)) (hk : Blk w k t cs) (ht : t ≠ 236) : RefQ w' B q o := by
  cases o with
  | none => exact h
  | some x =>
    obtain ⟨j, e, hB, hj⟩ := h
    refine ⟨j, e, hB, hj.grown hg (fun e2 => ?_)⟩
    injection e2 with e2
    subst e2
    have : some (Obj.cells _ _ _) = some (Obj.cells _ _ _) := hj.symm.trans hk
    injection this with this
    injection this with _ h3 _
    exact ht h3.symm
theorem Rdr.below (h : Rdr w B g s) (hb : Below w.heap.size w w') : Rdr w' B g s := by
  obtain ⟨A, c, q, h1, h2, h3, h4, h5, h6⟩ := h
  exact ⟨A, c, q, h1, h2.below hb h2.lt, own_below h3 hb, h4, h5, h6.below hb⟩
theorem own_typed {base k : Nat} {e t : TypeId} {size n : Nat} {v : Value} {xs : List Value} {cs : Array Value} (h : w.ownsRow base e size v n xs) (hg : w.grownBy w' (some k)) (hk : Blk w k t cs) (ht : t ≠ e) : w'.ownsRow base e size v n xs := by
  refine own_grown h hg (fun q hq e2 => ?_)
  injection e2 with e2
  subst e2
  rcases h.2 with ⟨rfl, _⟩ | ⟨g', cap, cur, rfl, _, hh, _⟩
  · cases hq
  · cases hq
    have : some (Obj.cells _ _ _) = some (Obj.cells _ _ _) := hk.symm.trans hh
    injection this with this
    injection this with _ h3 _
    exact ht h3
/-- another block is written -/
theorem Rdr.grown {k : Nat} {t : TypeId} {cs : Array Value} (h : Rdr w B g s) (hg : w.grownBy w' (some k)) (hk : Blk w k t cs) (h1 : t ≠ 5) (h2 : t ≠ 236) (hne : g ≠ k) : Rdr w' B g s := by
  obtain ⟨A, c, q, b1, b2, b3, b4, b5, b6⟩ := h
  exact ⟨A, c, q, b1, b2.grown hg (fun e => hne (by injection e)), own_typed b3 hg hk h1, b4, b5, b6.grown hg hk h2⟩
/-- the reader's own cells are written -/
theorem Rdr.put {A : Option Addr} {c : Nat} {q q' : Value} {p' : Nat} {no' : Option (Nat × Nat)} (hB : B ≤ g ∧ ∀ k, (Value.slice A s.bs.length c).ownBlock = some k → k < g) (h2 : Blk w g 233 #[.slice A s.bs.length c, .int .i64 (s.pos : Int), q]) (h3 : w.ownsRow B 5 1 (.slice A s.bs.length c) s.bs.length (s.bs.map v8)) (h5 : s.bs.length ≤ 140737488355328)
    (hg : w.grownBy w' (some g)) (hb : Blk w' g 233 #[.slice A s.bs.length c, .int .i64 (p' : Int), q']) (hp : p' ≤ s.bs.length) (hq : RefQ w B q' no') : Rdr w' B g { s with pos := p', no := no' } :=
  ⟨A, c, q', hB, hb, own_typed h3 hg h2 (by decide), hp, h5, hq.grown hg h2 (by decide)⟩
theorem below_grown {w w' : World} (row : Option Nat) (h : Below w.heap.size w w') : w.grownBy w' row := Only.of_below h row
theorem grown_trans {a b c : World} {k : Nat} (h : a.grownBy b (some k)) (h' : b.grownBy c (some k)) : a.grownBy c (some k) := Only.trans h h'
end
set_option maxRecDepth 100000 in
theorem refuse_any (w : World) (B g : Nat) (s : RdL) (at' why : Nat) (hat : at' ≤ 9223372036854775807) (hwhy : why ≤ 1000) (hR : Rdr w B g s) (hB : B ≤ w.heap.size) :
    Calls Tryd.prog 144 #[.pointer (some ⟨g, 0, none⟩), .int .i64 (at' : Int), .int .i64 (why : Int)] w fun e w' => e = .returned (.tuple #[]) ∧ Rdr w' B g (s.refuse at' why) ∧ w.grownBy w' (some g) := by
  obtain ⟨A, c, q, b1, b2, b3, b4, b5, b6⟩ := hR
  have hR : Rdr w B g s := ⟨A, c, q, b1, b2, b3, b4, b5, b6⟩
  have hk2 : w.cell? ⟨g, 2, none⟩ = some q := b2.cell 2
  obtain ⟨y, hy⟩ : ∃ y, s.refuse at' why = y := ⟨_, rfl⟩
  rw [hy]
  unfold RdL.refuse at hy
  cases hn : s.no with
  | some x =>
    rw [hn] at hy b6
    simp only [Option.isSome_some, if_true] at hy
    subst hy
    obtain ⟨h, rfl, _, _⟩ := b6
    have HR := Lib.hid hR
    clear b1 b2 b3 b4 b5 hR hn
    go_enter Tryd.func144, Tryd.ntmps144
    go_wp2_with fail
    exact bodyPost_end (results_none rfl _ _ _) rfl ⟨rfl, HR.out, World.grownBy.refl w _⟩
  | none =>
    rw [hn] at hy b6
    simp only [Option.isSome_none, Bool.false_eq_true, if_false] at hy
    have b6 : q = .pointer none := b6
    subst b6
    by_cases h0 : why = 0
    · rw [if_pos h0] at hy
      subst hy
      subst h0
      have HR := Lib.hid hR
      clear b1 b2 b3 b4 b5 hR hn
      go_enter Tryd.func144, Tryd.ntmps144
      go_wp2_with fail
      exact bodyPost_end (results_none rfl _ _ _) rfl ⟨rfl, HR.out, World.grownBy.refl w _⟩
    · rw [if_neg h0] at hy
      subst hy
      have h0' : ((why : Int) != 0) = true := by simp; omega
      have hn1 := below_new1 w (Obj.cells #[.int .i64 (at' : Int), .int .i64 (why : Int)] 236)
      have b2' := b2.below hn1 b2.lt
      have hq : RefQ (w.alloc (Obj.cells #[.int .i64 (at' : Int), .int .i64 (why : Int)] 236)) B (.pointer (some ⟨w.heap.size, 0, none⟩)) (some (at', why)) := ⟨w.heap.size, rfl, hB, Blk.new w _ _⟩
      have HF := Lib.hid (And.intro b1 (And.intro (own_below b3 hn1) (And.intro b5 (And.intro b4 (And.intro hq hn1)))))
      clear b1 b2 b3 b4 b5 hR hn h0 hq hn1
      go_enter Tryd.func144, Tryd.ntmps144
      go_wp2_with (first
        | (refine wpList_store1 rfl rfl _ (.tmp 21) (.tmp 19) rfl g 2 rfl _ rfl 233 _ b2' (by kernel_rfl) (show 2 < 3 by decide) rfl rfl ?_; intro w1 hb1 hg1))
      have hR1 := Rdr.put HF.out.1 b2' HF.out.2.1 HF.out.2.2.1 hg1 (show Blk w1 g 233 #[.slice A s.bs.length c, .int .i64 (s.pos : Int), .pointer (some ⟨w.heap.size, 0, none⟩)] from hb1) HF.out.2.2.2.1 HF.out.2.2.2.2.1
      exact bodyPost_end (results_none rfl _ _ _) rfl ⟨rfl, hR1, grown_trans (below_grown _ HF.out.2.2.2.2.2) hg1⟩
end Go.Proofs.YteonmcconpfkjaaDoor

/- The walk of codec's Reader.take. No condition. -/
namespace Go.Proofs.YteonmcconpfkjaaDoor
open Go Go.RowKit
attribute [local irreducible] mixW
attribute [local go_sem] n8_lo n8_hi n64_lo n64_hi
theorem own_cap {w : World} {base s n c : Nat} {A : Option Addr} {e : TypeId} {xs : List Value} (h : w.ownsRow base e s (.slice A n c) n xs) : n ≤ c := by
  rcases h.2 with ⟨e, h0⟩ | ⟨g, cap, cur, e, _, _, h1, _⟩
  · rw [h0]; exact Nat.zero_le _
  · injection e with _ _ e; subst e; exact h1
set_option maxHeartbeats 1000000 in
set_option maxRecDepth 100000 in
theorem take_any (w : World) (B g : Nat) (s : RdL) (n : Nat) (hn : n ≤ 1000000) (hR : Rdr w B g s) (hB : B ≤ w.heap.size) :
    Calls Tryd.prog 145 #[.pointer (some ⟨g, 0, none⟩), .int .i64 (n : Int)] w fun e w' => ∃ v, e = .returned v ∧ BSl w' w'.heap.size v (s.take n).1 ∧ Rdr w' B g (s.take n).2 ∧ w.grownBy w' (some g) := by
  obtain ⟨A, c, q, b1, b2, b3, b4, b5, b6⟩ := hR
  have hR : Rdr w B g s := ⟨A, c, q, b1, b2, b3, b4, b5, b6⟩
  have hk2 : w.cell? ⟨g, 2, none⟩ = some q := b2.cell 2
  obtain ⟨y, hy⟩ : ∃ y, s.take n = y := ⟨_, rfl⟩
  rw [hy]
  unfold RdL.take at hy
  cases hno : s.no with
  | some x =>
    rw [hno] at hy b6
    simp only [Option.isSome_some, if_true] at hy
    subst hy
    obtain ⟨h, rfl, _, _⟩ := b6
    have HR := Lib.hid hR
    clear b1 b2 b3 b4 b5 hR hno
    go_enter Tryd.func145, Tryd.ntmps145
    go_wp2_with fail
    go_ret
    exact ⟨_, rfl, BSl.nil_, HR.out, World.grownBy.refl w _⟩
  | none =>
    rw [hno] at hy b6
    simp only [Option.isSome_none, Bool.false_eq_true, if_false] at hy
    have b6 : q = .pointer none := b6
    subst b6
    have hk0 : w.cell? ⟨g, 0, none⟩ = some (.slice A s.bs.length c) := b2.cell 0
    have hk1 : w.cell? ⟨g, 1, none⟩ = some (.int .i64 (s.pos : Int)) := b2.cell 1
    have hs := Lib.hid (And.intro hno hy)
    have HF := Lib.hid (And.intro b1 (And.intro b2 (And.intro b3 (And.intro b4 (And.intro b5 hR)))))
    obtain ⟨L, hL⟩ : ∃ L, s.bs.length = L := ⟨_, rfl⟩
    obtain ⟨p, hp⟩ : ∃ p, s.pos = p := ⟨_, rfl⟩
    rw [hL] at hk0 b4 b5
    rw [hp] at hk1 b4
    have HLp := Lib.hid (And.intro hL hp)
    have HF1 : Hid (Blk w g 233 #[.slice A L c, .int .i64 (p : Int), .pointer none]) := Lib.hid (by rw [← hL, ← hp]; exact b2)
    have hcap : L ≤ c := by rw [← hL]; exact own_cap b3
    clear b1 b2 b3 hR hno hy hL hp
    go_enter Tryd.func145, Tryd.ntmps145
    go_upto_region 3 with fail
    refine wp_region_mixP (.plain 0 <| .plain 1 <| .plain 2 <| .plain 3 <| .plain 4 <| .plain 5 <| .plain 6 <| .plain 7 <| .plain 8 <| .plain 9 <| .plain 10 <| .plain 11 <| .done) (by kernel_rfl) (by kernel_rfl) (fun W1 hb1 => ?_)
    have hbk1 := HF1.out.below hb1 HF1.out.lt
    have d0 : ∀ z, (plus W1 z).cell? ⟨g, 0, none⟩ = some (.slice A L c) := fun z => (hbk1.plus z).cell 0
    have d1 : ∀ z, (plus W1 z).cell? ⟨g, 1, none⟩ = some (.int .i64 (p : Int)) := fun z => (hbk1.plus z).cell 1
    iterate 12 (refine mix_plain rfl ?_; go_big_quiet_step (fail); refine wpQuiet_nil ?_)
    clear d0 d1 hk0 hk1
    refine mix_done ?_
    have hk0 : W1.cell? ⟨g, 0, none⟩ = some (.slice A L c) := hbk1.cell 0
    have hk1 : W1.cell? ⟨g, 1, none⟩ = some (.int .i64 (p : Int)) := hbk1.cell 1
    by_cases hlt : L < p + n
    · have hlt' : (L : Int) - (p : Int) < (n : Int) := by omega
      have hy := hs.out.2
      rw [HLp.out.1, HLp.out.2, if_pos hlt] at hy
      subst hy
      clear hlt
      go_wp2_with fail
      refine (refuse_any W1 B g s L 10 (by omega) (by decide) (HF.out.2.2.2.2.2.below hb1) (Nat.le_trans hB hb1.size)).mono ?_
      rintro e W2 ⟨rfl, hR2, hg2⟩
      have hR3 : Rdr W2 B g { s with no := some (L, 10) } := by
        have : s.refuse L 10 = { s with no := some (L, 10) } := by unfold RdL.refuse; rw [hs.out.1]; rfl
        rw [← this]; exact hR2
      have HR := Lib.hid (And.intro hR3 (grown_trans (below_grown (some g) hb1) hg2))
      clear hR2 hR3 hg2
      go_wp2_with fail
      go_ret
      exact ⟨_, rfl, BSl.nil_, by rw [← HLp.out.2]; exact HR.out.1, HR.out.2⟩
    · have hge' : (n : Int) ≤ (L : Int) - (p : Int) := by omega
      have hy := hs.out.2
      rw [HLp.out.1, HLp.out.2, if_neg hlt] at hy
      subst hy
      have hadd : IntKind.i64.wrap ((p : Int) + (n : Int)) = ((p + n : Nat) : Int) := by rw [IntWalk.i64_in _ (by omega)]; omega
      have hpn : p + n ≤ L := by omega
      clear hlt
      go_upto_region 7 with (first
        | (refine wpList_store1 rfl rfl _ (.tmp 36) (.tmp 34) rfl g 1 rfl _ rfl 233 _ hbk1 (by kernel_rfl) (show 1 < 3 by decide) rfl rfl ?_; intro W2 hb2 hg2))
      have hb2 : Blk W2 g 233 #[.slice A L c, .int .i64 ((p : Int) + (n : Int)), .pointer none] := hb2
      have HP := Lib.hid (And.intro hb2 (And.intro hg2 hbk1))
      clear hk0 hk1 hk2 hadd hg2 hbk1
      refine wp_region_mixP (.plain 0 <| .plain 1 <| .plain 2 <| .plain 3 <| .plain 4 <| .plain 5 <| .plain 6 <| .plain 7 <| .plain 8 <| .plain 9 <| .plain 10 <| .plain 11 <| .plain 12 <| .plain 13 <| .plain 14 <| .plain 15 <| .done) (by kernel_rfl) (by kernel_rfl) (fun W3 hb3 => ?_)
      have hbk3 := HP.out.1.below hb3 HP.out.1.lt
      have d0 : ∀ z, (plus W3 z).cell? ⟨g, 0, none⟩ = some (.slice A L c) := fun z => (hbk3.plus z).cell 0
      have d1 : ∀ z, (plus W3 z).cell? ⟨g, 1, none⟩ = some (.int .i64 ((p : Int) + (n : Int))) := fun z => (hbk3.plus z).cell 1
      have hsub : (p : Int) + (n : Int) - (n : Int) = (p : Int) := by omega
      iterate 16 (refine mix_plain rfl ?_; (first
        | (refine wpQuiet_cutLH rfl 22 (.tmp 40) (.tmp 46) (.tmp 50) rfl 5 Tryd.underlying22 (by kernel_rfl) A L c p (p + n) rfl rfl rfl (by omega) (by omega) ?_; simp only [Act.put, List.setIfInBounds_toArray, List.set_cons_zero, List.set_cons_succ])
        | go_big_quiet_step (fail)); refine wpQuiet_nil ?_)
      clear d0 d1
      refine mix_done ?_
      go_wp2_with fail
      go_ret
      have hbb := BSl.of_own HF.out.2.2.1
      have hg13 := grown_trans (grown_trans (below_grown (some g) hb1) HP.out.2.1) (below_grown (some g) hb3)
      have hR3 := (Rdr.put (q' := .pointer none) (no' := none) (p' := p + n) (s := s) HF.out.1 HF.out.2.1 HF.out.2.2.1 HF.out.2.2.2.2.1 hg13 (show Blk W3 g 233 #[.slice A s.bs.length c, .int .i64 ((p + n : Nat) : Int), .pointer none] by rw [HLp.out.1]; exact hbk3) (by rw [HLp.out.1]; exact hpn) rfl)
      have hbs := BSl.of_own (own_typed HF.out.2.2.1 hg13 HF.out.2.1 (by decide))
      rw [HLp.out.1] at hbs
      have hcut := cut_b (A := A) (len := L) (cap := c) (bs := s.bs) (by rw [← HLp.out.1] at hbs ⊢; exact hbs) p (p + n) (Nat.le_add_right _ _) hpn
      rw [show (s.bs.take (p + n)).drop p = (s.bs.drop p).take n by rw [List.drop_take, Nat.add_sub_cancel_left]] at hcut
      exact ⟨_, rfl, hcut, hR3, hg13⟩
end Go.Proofs.YteonmcconpfkjaaDoor

/- The walks of codec's Reader: NewReader, Number, Fail. No condition. -/
namespace Go.Proofs.YteonmcconpfkjaaDoor
open Go Go.RowKit
attribute [local irreducible] mixW
attribute [local go_sem] n8_lo n8_hi n64_lo n64_hi
set_option maxRecDepth 100000 in
theorem newReader_any (u : Value) (bs : List UInt8) (w : World) (hu : BSl w w.heap.size u bs) (hl : bs.length ≤ 140737488355328) :
    Calls Tryd.prog 67 #[u] w fun e w' => ∃ g, e = .returned (.pointer (some ⟨g, 0, none⟩)) ∧ Rdr w' w.heap.size g ⟨bs, 0, none⟩ ∧ Below w.heap.size w w' := by
  go_enter Tryd.func67, Tryd.ntmps67
  go_wp2_with fail
  refine (clone_any u bs w hu hl).mono ?_
  rintro e w1 ⟨v, rfl, hown, hb1⟩
  rw [List.length_map] at hown
  obtain ⟨A, c, rfl⟩ := own_slice hown
  have hn1 := below_new1 w1 (Obj.cells #[.slice A bs.length c, .int .i64 0, .pointer none] 233)
  have HF := Lib.hid (And.intro (own_below hown hn1) (hb1.trans (hn1.mono hb1.size)))
  have hsz := hb1.size
  have hlt := Lib.hid (own_lt hown)
  clear hown hb1 hn1
  go_wp2_with fail
  go_ret
  exact ⟨_, rfl, ⟨A, c, .pointer none, ⟨hsz, hlt.out⟩, Blk.new w1 _ _, HF.out.1, Nat.zero_le _, hl, rfl⟩, HF.out.2⟩
set_option maxRecDepth 100000 in
theorem fail_any (w : World) (B g : Nat) (s : RdL) (why : Nat) (hwhy : why ≤ 1000) (hR : Rdr w B g s) (hB : B ≤ w.heap.size) :
    Calls Tryd.prog 73 #[.pointer (some ⟨g, 0, none⟩), .int .i64 (why : Int)] w fun e w' => e = .returned (.tuple #[]) ∧ Rdr w' B g (s.refuse s.pos why) ∧ w.grownBy w' (some g) := by
  obtain ⟨A, c, q, b1, b2, b3, b4, b5, b6⟩ := id hR
  have hk1 : w.cell? ⟨g, 1, none⟩ = some (.int .i64 (s.pos : Int)) := b2.cell 1
  have HR := Lib.hid hR
  clear b1 b2 b3 b6 hR
  go_enter Tryd.func73, Tryd.ntmps73
  go_wp2_with fail
  refine (refuse_any w B g s s.pos why (by omega) hwhy HR.out hB).mono ?_
  rintro e w1 ⟨rfl, hR1, hg1⟩
  have H1 := Lib.hid (And.intro hR1 hg1)
  clear hR1 hg1
  go_wp2_with fail
  exact bodyPost_end (results_none rfl _ _ _) rfl ⟨rfl, H1.out.1, H1.out.2⟩
theorem BSl.cell0 {w : World} {A : Option Addr} {n cap : Nat} {bs : List UInt8} (h : BSl w w.heap.size (.slice A n cap) bs) (k : Nat) (hk : k < n) :
    ∃ b off, A = some ⟨b, off, none⟩ ∧ b < w.heap.size ∧ ∀ j, j < n → w.cell? ⟨b, off + j, none⟩ = some (.int .u8 (n8 (bs.getD j 0))) := by
  obtain ⟨A', cap', e1, hc1, hc2, hr⟩ := h
  injection e1 with e1 e2 e3
  subst e1; subst e3; subst e2
  obtain ⟨b, off, rfl, hb, hc⟩ := hr (by rw [List.length_map]; omega)
  refine ⟨b, off, rfl, hb, fun j hj => hc j _ ?_⟩
  rw [List.getElem?_map, List.getElem?_eq_getElem hj, List.getD_eq_getElem?_getD, List.getElem?_eq_getElem hj]; rfl
set_option maxHeartbeats 1000000 in
set_option maxRecDepth 100000 in
theorem rdNumber_any (w : World) (B g : Nat) (s : RdL) (k : Int) (hk : -9223372036854775808 ≤ k ∧ k ≤ 9223372036854775807) (hR : Rdr w B g s) (hB : B ≤ w.heap.size) :
    Calls Tryd.prog 71 #[.pointer (some ⟨g, 0, none⟩), .int .i64 k] w fun e w' => e = .returned (.int .u64 (((s.number k).1 : Nat) : Int)) ∧ Rdr w' B g (s.number k).2 ∧ w.grownBy w' (some g) := by
  obtain ⟨y, hy⟩ : ∃ y, s.number k = y := ⟨_, rfl⟩
  rw [hy]
  unfold RdL.number at hy
  have HR := Lib.hid hR
  clear hR
  go_enter Tryd.func71, Tryd.ntmps71
  go_wp2_with fail
  refine (size_any k hk w).mono ?_
  rintro e _ ⟨rfl, rfl⟩
  have h8 := clamp8_hi k
  have h1 := clamp8_lo k
  generalize clamp8 k = m at hy h8 h1 ⊢
  go_wp2_with fail
  refine (take_any w B g s m (by omega) HR.out hB).mono ?_
  rintro e w1 ⟨v, rfl, hv, hR1, hg1⟩
  have hle := s.take_le m
  obtain ⟨bs, hbs⟩ : ∃ bs, (s.take m).1 = bs := ⟨_, rfl⟩
  rw [hbs] at hv hle hy
  obtain ⟨A, c, rfl, hc1, hc2, hrd⟩ := hv
  have hv : BSl w1 w1.heap.size (.slice A bs.length c) bs := ⟨A, c, rfl, hc1, hc2, hrd⟩
  have HS : Hid (y = (numF bs, (s.take m).2)) := Lib.hid hy.symm
  have HF := Lib.hid (And.intro hv (And.intro hR1 hg1))
  clear hv hrd hR1 hg1 hbs hy
  have hb8 : bs.length ≤ 8 := by omega
  go_wp2_with fail
  go_loopw [5, 7, 13] (fun nv _ jv wr => ∃ j : Nat, j ≤ bs.length ∧ jv = .int .i64 j ∧ nv = .int .u64 ((numF (bs.take j) : Nat) : Int) ∧ wr = w1) (fun _ _ jv _ => bs.length - (intOf jv).toNat)
  case atStart => exact ⟨0, Nat.zero_le _, rfl, rfl, rfl⟩
  case round =>
    obtain ⟨j, hj, rfl, rfl, rfl⟩ := hrel
    by_cases hlt : j < bs.length
    · have hlt' : (j : Int) < (bs.length : Int) := by omega
      obtain ⟨b, off, rfl, hbb, hcell⟩ := HF.out.1.cell0 j hlt
      have hcj := hcell j hlt
      have hst := Lib.hid (numF_step bs j hlt)
      have hsm := numF_lt (bs.take j)
      have hl7 : (bs.take j).length ≤ 7 := by rw [List.length_take]; omega
      have hp : 256 ^ (bs.take j).length ≤ 256 ^ 7 := Nat.pow_le_pow_right (by decide) hl7
      have hp7 : (256 : Nat) ^ 7 = 72057594037927936 := by decide
      have hc8 := (bs.getD j 0).toNat_lt
      obtain ⟨x, hx⟩ : ∃ x, numF (bs.take j) = x := ⟨_, rfl⟩
      obtain ⟨cc, hcc⟩ : ∃ cc : Nat, n8 (bs.getD j 0) = (cc : Int) := ⟨(bs.getD j 0).toNat, rfl⟩
      have hcc2 : cc < 256 := by have : (cc : Int) = ((bs.getD j 0).toNat : Int) := hcc.symm; omega
      have hx2 : x < 72057594037927936 := by rw [← hx]; omega
      have Hx := Lib.hid (And.intro hx (show (bs.getD j 0).toNat = cc by have : (cc : Int) = ((bs.getD j 0).toNat : Int) := hcc.symm; omega))
      rw [hcc] at hcj
      rw [hx]
      have hor := or_step x cc hcc2 (by omega)
      have hsh : ((x : Int) * 256) % 18446744073709551616 = (x : Int) * 256 := by omega
      clear hcell hsm hl7 hp hp7 hc8 hx hcc hlt
      go_wp2_with fail
      refine ⟨⟨j + 1, by omega, by go_num, ?_, trivial⟩, by simp [intOf]; omega⟩
      rw [hst.out, Hx.out.1, Hx.out.2]
      congr 1
    · have ej : j = bs.length := by omega
      have hge : (bs.length : Int) ≤ (j : Int) := by omega
      have hfin : numF (bs.take j) = numF bs := by rw [ej, List.take_length]
      rw [hfin]
      clear hlt ej hfin
      go_wp2_with fail
      go_ret
      rw [HS.out]
      exact ⟨rfl, HF.out.2.1, HF.out.2.2⟩
end Go.Proofs.YteonmcconpfkjaaDoor

/- The walks of codec's Reader: Bytes, Digest, End. No condition. -/
namespace Go.Proofs.YteonmcconpfkjaaDoor
open Go Go.RowKit
attribute [local irreducible] mixW
attribute [local go_sem] n8_lo n8_hi n64_lo n64_hi
theorem own_baseR {w : World} {b b' s n : Nat} {e : TypeId} {v : Value} {xs : List Value} (h : w.ownsRow b' e s v n xs) (hb : b ≤ b') : w.ownsRow b e s v n xs := by
  refine ⟨h.1, ?_⟩
  rcases h.2 with h0 | ⟨g', cap, cur, h1, h2, h3⟩
  · exact .inl h0
  · exact .inr ⟨g', cap, cur, h1, Nat.le_trans hb h2, h3⟩
theorem RdL.take_no (s : RdL) (n : Nat) (h : s.no.isSome = true) : s.take n = ([], s) := by unfold RdL.take; rw [if_pos h]
theorem BSl.len {w : World} {B : Nat} {v : Value} {bs : List UInt8} (h : BSl w B v bs) : ∃ A c, v = .slice A bs.length c := by
  obtain ⟨A, c, h, _⟩ := h
  exact ⟨A, c, h⟩
set_option maxHeartbeats 1000000 in
set_option maxRecDepth 100000 in
theorem rdBytes_any (w : World) (B g : Nat) (s : RdL) (most : Int) (_hm : -9223372036854775808 ≤ most ∧ most ≤ 9223372036854775807) (hR : Rdr w B g s) (hB : B ≤ w.heap.size) :
    Calls Tryd.prog 68 #[.pointer (some ⟨g, 0, none⟩), .int .i64 most] w fun e w' => ∃ v, e = .returned v ∧ w'.ownsRow w.heap.size 5 1 v (s.bytes most).1.length ((s.bytes most).1.map v8) ∧ Rdr w' B g (s.bytes most).2 ∧ w.grownBy w' (some g) := by
  obtain ⟨y, hy⟩ : ∃ y, s.bytes most = y := ⟨_, rfl⟩
  rw [hy]
  unfold RdL.bytes at hy
  obtain ⟨A, c, q, b1, b2, b3, b4, b5, b6⟩ := id hR
  have hk1 : w.cell? ⟨g, 1, none⟩ = some (.int .i64 (s.pos : Int)) := b2.cell 1
  have HR := Lib.hid hR
  have hpos : s.pos ≤ 140737488355328 := by omega
  have Hpos := Lib.hid b4
  clear b1 b2 b3 b4 b5 b6 hR
  have hN := s.number2_lt
  have hsb := Lib.hid (s.number_bs 2)
  go_enter Tryd.func68, Tryd.ntmps68
  go_wp2_with fail
  refine (rdNumber_any w B g s 2 (by decide) HR.out hB).mono ?_
  rintro e w1 ⟨rfl, hR1, hg1⟩
  obtain ⟨N, hNN⟩ : ∃ N, (s.number 2).1 = N := ⟨_, rfl⟩
  obtain ⟨s1, hs1⟩ : ∃ t, (s.number 2).2 = t := ⟨_, rfl⟩
  rw [hNN] at hy hN ⊢
  rw [hs1] at hy hR1 hsb
  clear hNN hs1 hk1
  have hB1 : B ≤ w1.heap.size := Nat.le_trans hB hg1.size
  have hsz1 : w.heap.size ≤ w1.heap.size := hg1.size
  obtain ⟨A, c, q, b1, b2, b3, b4, b5, b6⟩ := id hR1
  have hk2 : w1.cell? ⟨g, 2, none⟩ = some q := b2.cell 2
  have HF := Lib.hid (And.intro b1 (And.intro b2 (And.intro b3 (And.intro b4 (And.intro b5 (And.intro hR1 hg1))))))
  clear b1 b3 b4 b5 hR1 hg1
  cases hno : s1.no with
  | some x =>
    rw [hno] at b6
    rw [if_pos (by rw [hno]; rfl)] at hy
    subst hy
    obtain ⟨h, rfl, _, _⟩ := b6
    have hT := Lib.hid (s1.take_no N (by rw [hno]; rfl))
    clear hno b2
    go_wp2_with fail
    refine (take_any w1 B g s1 N (by omega) HF.out.2.2.2.2.2.1 hB1).mono ?_
    rintro e w2 ⟨v, rfl, hv, hR2, hg2⟩
    rw [hT.out] at hv hR2
    have H2 := Lib.hid (And.intro hR2 (grown_trans HF.out.2.2.2.2.2.2 hg2))
    have Hv := Lib.hid hv
    obtain ⟨A', c', rfl⟩ := hv.len
    have hsz2 : w.heap.size ≤ w2.heap.size := Nat.le_trans hsz1 hg2.size
    clear hv hR2 hg2
    go_wp2_with fail
    refine (clone_any _ [] w2 Hv.out (by simp)).mono ?_
    rintro e w3 ⟨u, rfl, hown, hb3⟩
    have H3 := Lib.hid (And.intro (own_baseR hown hsz2) (And.intro (H2.out.1.below hb3) (grown_trans H2.out.2 (below_grown _ hb3))))
    clear hown hb3
    go_wp2_with fail
    go_ret
    exact ⟨_, rfl, H3.out.1, H3.out.2⟩
  | none =>
    rw [hno] at b6
    rw [if_neg (by rw [hno]; decide)] at hy
    have b6 : q = .pointer none := b6
    subst b6
    by_cases hlt : most < (N : Int)
    · rw [if_pos hlt] at hy
      subst hy
      clear hno
      go_wp2_with (first
        | (refine wpList_store1 rfl rfl _ (.tmp 27) (.tmp 25) rfl g 1 rfl _ rfl 233 _ b2 (by kernel_rfl) (show 1 < 3 by decide) rfl rfl ?_; intro w2 hb2 hg2))
      have hR2 := Rdr.put (s := s1) (p' := s.pos) (no' := none) HF.out.1 b2 HF.out.2.2.1 HF.out.2.2.2.2.1 hg2 (show Blk w2 g 233 #[.slice A s1.bs.length c, .int .i64 (s.pos : Int), .pointer none] from hb2) (by rw [hsb.out]; exact Hpos.out) rfl
      have H2 := Lib.hid (And.intro hR2 (grown_trans HF.out.2.2.2.2.2.2 hg2))
      have hB2 := Nat.le_trans hB1 hg2.size
      have hsz2 := Nat.le_trans hsz1 hg2.size
      clear hR2 hb2 hg2 b2
      refine (refuse_any w2 B g _ s.pos 3 (by omega) (by decide) H2.out.1 hB2).mono ?_
      rintro e w3 ⟨rfl, hR3, hg3⟩
      have hR3 : Rdr w3 B g { s1 with pos := s.pos, no := some (s.pos, 3) } := hR3
      have H3 := Lib.hid (And.intro hR3 (grown_trans H2.out.2 hg3))
      have hB3 := Nat.le_trans hB2 hg3.size
      have hsz3 := Nat.le_trans hsz2 hg3.size
      clear hR3 hg3
      go_wp2_with fail
      refine (take_any w3 B g _ N (by omega) H3.out.1 hB3).mono ?_
      rintro e w4 ⟨v, rfl, hv, hR4, hg4⟩
      rw [RdL.take_no _ _ rfl] at hv hR4
      have H4 := Lib.hid (And.intro hR4 (grown_trans H3.out.2 hg4))
      have Hv := Lib.hid hv
      obtain ⟨A', c', rfl⟩ := hv.len
      have hsz4 : w.heap.size ≤ w4.heap.size := Nat.le_trans hsz3 hg4.size
      clear hv hR4 hg4
      go_wp2_with fail
      refine (clone_any _ [] w4 Hv.out (by simp)).mono ?_
      rintro e w5 ⟨u, rfl, hown, hb5⟩
      have H5 := Lib.hid (And.intro (own_baseR hown hsz4) (And.intro (H4.out.1.below hb5) (grown_trans H4.out.2 (below_grown _ hb5))))
      clear hown hb5
      go_wp2_with fail
      go_ret
      exact ⟨_, rfl, H5.out.1, H5.out.2⟩
    · rw [if_neg hlt] at hy
      have hge : (N : Int) ≤ most := by omega
      clear hno hlt b2
      go_wp2_with fail
      refine (take_any w1 B g s1 N (by omega) HF.out.2.2.2.2.2.1 hB1).mono ?_
      rintro e w2 ⟨v, rfl, hv, hR2, hg2⟩
      rw [hy] at hv hR2
      have hle : y.1.length ≤ 1000000 := by rw [← hy]; exact Nat.le_trans (s1.take_le N) (by omega)
      have H2 := Lib.hid (And.intro hR2 (grown_trans HF.out.2.2.2.2.2.2 hg2))
      have Hv := Lib.hid hv
      obtain ⟨A', c', rfl⟩ := hv.len
      have hsz2 : w.heap.size ≤ w2.heap.size := Nat.le_trans hsz1 hg2.size
      clear hv hR2 hg2 hy
      go_wp2_with fail
      refine (clone_any _ y.1 w2 Hv.out (by omega)).mono ?_
      rintro e w3 ⟨u, rfl, hown, hb3⟩
      rw [List.length_map] at hown
      have H3 := Lib.hid (And.intro (own_baseR hown hsz2) (And.intro (H2.out.1.below hb3) (grown_trans H2.out.2 (below_grown _ hb3))))
      clear hown hb3
      go_wp2_with fail
      go_ret
      exact ⟨_, rfl, H3.out.1, H3.out.2⟩
end Go.Proofs.YteonmcconpfkjaaDoor
