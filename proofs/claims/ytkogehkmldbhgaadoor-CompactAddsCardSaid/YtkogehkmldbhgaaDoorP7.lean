/- Texts that stand behind one another: CmpA, CmpB, CmpC, MerkR, Dig. No condition. -/
import Derived.Test.YtkogehkmldbhgaaDoorP5
import Derived.Test.YtkogehkmldbhgaaDoorP3
import Derived.Test.YtkogehkmldbhgaaDoorP6
import Derived.Shelf.Spec.TrailingZeros
import Derived.Test.YtkogehkmldbhgaaDoorP4
import Derived.Maps.AppendAt
import Derived.Deep.MidRow
/- Slices of 64-bit words; the walk of the library's count of trailing noughts. Condition: the library's own table stands as its text lays it. -/
namespace Go.Proofs.YtkogehkmldbhgaaDoor
open Go Go.RowKit
def nU (n : Nat) : Value := .int .u64 (n : Int)
theorem nU_one (ns : List Nat) : ∀ u ∈ ns.map nU, u.oneCell' = true := fun u hu => by
  rw [List.mem_map] at hu
  obtain ⟨n, _, rfl⟩ := hu
  rfl
/-- v is a slice of 64-bit words that reads ns -/
def NSl (w : World) (B : Nat) (v : Value) (ns : List Nat) : Prop :=
  ∃ A cap, v = .slice A ns.length cap ∧ ns.length ≤ cap ∧ cap ≤ 9223372036854775807 ∧ Reads w B A (ns.map nU)
theorem NSl.next {w w' : World} {v : Value} {ns : List Nat} (h : NSl w w.heap.size v ns) (hb : Below w.heap.size w w') : NSl w' w'.heap.size v ns := by
  obtain ⟨A, cap, h1, h2, h3, h4⟩ := h
  exact ⟨A, cap, h1, h2, h3, (h4.below hb).more hb.size⟩
/-- a row of 64-bit words of the call's own -/
def OwnU (w : World) (base : Nat) (v : Value) (ns : List Nat) : Prop := w.ownsRow base 22 1 v (ns.map nU).length (ns.map nU)
theorem OwnU.nil (w : World) (base : Nat) : OwnU w base (.slice none 0 0) [] := World.ownsRow_nil _ _ _ _
theorem OwnU.nsl {w : World} {base : Nat} {v : Value} {ns : List Nat} (h : OwnU w base v ns) : NSl w w.heap.size v ns := by
  have hl : (ns.map nU).length = ns.length := List.length_map _
  rcases h.2 with ⟨rfl, h0⟩ | ⟨b, cap, cur, rfl, hbs, hb, hc1, hc2, hsz, hcur⟩
  · have : ns = [] := List.eq_nil_of_length_eq_zero (by omega)
    subst this
    exact ⟨none, 0, rfl, Nat.le_refl _, by decide, Reads.nil_⟩
  · refine ⟨some ⟨b, 0, none⟩, cap, by rw [hl], by omega, hc2, fun _ => ⟨b, 0, rfl, Blk.lt (show Blk w b _ cur from hb), fun j u hj => ?_⟩⟩
    have hj2 := (List.getElem?_eq_some_iff.1 hj).1
    rw [cell_of_row w b (0 + j) cur _ (0, 0) hb, ← hj, ← hcur, List.getElem?_take, if_pos (by omega), Nat.zero_add]
    simp
/-- append of one word, out of a slice literal, onto a row of the call's own -/
theorem wpList_appendU {wr : World} {ops : Array Oper} {rest : List Oper} {o : Oper} {a : Act} {Q : Exit → Act → World → Prop} (hgd : o.guard = none) (s x : Operand)
    (ho : o.op = .call { callee := .builtin .append, args := #[s, x], argTypes := #[23, 23] })
    (base : Nat) (v : Value) (ns : List Nat) (hs : a.eval s = v) (hown : OwnU wr base v ns) (n : Nat)
    (hx : a.eval x = .slice (some ⟨wr.heap.size, 0, none⟩) 1 1) (hlen : ns.length + 1 ≤ 100000000000) (hbase : base ≤ wr.heap.size) (w0 : World) (hbel : Below base w0 wr)
    (h : ∀ v' w', OwnU w' base v' (ns ++ [n]) → Below base w0 w' → wpList Tryd.prog ops Q rest (a.put o.dst v') w') :
    wpList Tryd.prog ops Q (o :: rest) a (wr.alloc (Obj.cells #[nU n] 22)) := by
  obtain ⟨i0, hi, hz0, hz1, hz2⟩ := info_parts (by kernel_rfl : (Tryd.prog.info? 22).map (fun i => (i.zero, i.size, i.bytes)) = some (some (.int .u64 0), 1, 8))
  have hbt : base ≤ (wr.alloc (Obj.cells #[nU n] 22)).heap.size := Nat.le_trans hbase (below_new1 wr _).size
  have hl : (ns.map nU).length = ns.length := List.length_map _
  refine wpList_appendR hgd s x _ ho base 22 i0 _ 8 Tryd.underlying23 hi hz0 hz1 hz2 rfl v (ns.map nU) hs (own_below hown (below_new1 wr _)) (wr.heap.size + 1) (some ⟨wr.heap.size, 0, none⟩) 1 1 [nU n] hx (show Reads (wr.alloc (Obj.cells #[nU n] 22)) (wr.heap.size + 1) (some ⟨wr.heap.size, 0, none⟩) [nU n] from Reads.of_blk (Blk.new wr 22 #[nU n]) (by omega) 0) rfl (fun u' hu' => by rw [List.mem_singleton] at hu'; subst hu'; rfl) (by unfold maxLen; omega) (by omega) hbt ?_
  intro v' w' hown' hg hat
  have e : ns.map nU ++ [nU n] = (ns ++ [n]).map nU := by simp
  rw [e] at hown'
  exact h v' w' hown' (below_own (hbel.trans ((below_new1 wr _).mono hbase)) (own_below hown (below_new1 wr _)) hg hbt)
/-- the library's table of de Bruijn's -/
structure Tz (w : World) : Prop where
  tab : TabAt 0 Lib.deBruijn64tab w
  b0 : 0 < w.heap.size
theorem Tz.next {w w' : World} (h : Tz w) (hb : Below w.heap.size w w') : Tz w' :=
  ⟨fun j hj => (hb.cell (p := ⟨_, _, none⟩) h.b0).trans (h.tab j hj), Nat.lt_of_lt_of_le h.b0 hb.size⟩
theorem tz_zero (w : World) : Calls Tryd.prog 36 #[.int .u64 0] w fun e w' => e = .returned (.int .i64 64) ∧ w = w' := by
  go_enter Tryd.func36, Tryd.ntmps36
  go_wp2
  go_ret
  exact ⟨rfl, rfl⟩
theorem tz_core (x k idx : Nat) (w : World) (hx0 : ((x : Int) == 0) = false)
    (key : IntKind.u64.wrap (bits BinOp.and IntKind.u64 (x : Int) (IntKind.u64.wrap (-(x : Int))) * 285870213051353865) / 288230376151711744 = (idx : Int))
    (hi : idx < 64) (hk : k < 64) (hcell : w.cell? ⟨0, idx, none⟩ = some (.int .u8 k)) :
    Calls Tryd.prog 36 #[.int .u64 x] w fun e w' => e = .returned (.int .i64 k) ∧ w = w' := by
  go_enter Tryd.func36, Tryd.ntmps36
  go_wp2_with (simp only [key])
  go_ret
  exact ⟨rfl, rfl⟩
theorem odd_dvd {c m i : Nat} (h : 2 ^ i ∣ 2 ^ c * (2 * m + 1)) : i ≤ c := Nat.le_of_not_lt fun hlt => by
  have h1 : 2 ^ (c + 1) ∣ 2 ^ c * (2 * m + 1) := Nat.dvd_trans (p2_dvd hlt) h
  rw [Nat.pow_succ] at h1
  have h2 := Nat.dvd_of_mul_dvd_mul_left (p2_pos c) h1
  omega
/-- the count of trailing noughts -/
theorem tz_any (x : Nat) (hx : x < 18446744073709551616) (w : World) (hT : Tz w) :
    Calls Tryd.prog 36 #[.int .u64 x] w fun e w' => ∃ k : Nat, e = .returned (.int .i64 k) ∧ w = w' ∧ k ≤ 64 ∧ 2 ^ k ∣ x ∧ ∀ i, i ≤ 64 → 2 ^ i ∣ x → i ≤ k := by
  by_cases hx0 : x = 0
  · subst hx0
    exact (tz_zero w).mono fun e w' ⟨h1, h2⟩ => ⟨64, h1, h2, Nat.le_refl _, Nat.dvd_zero _, fun i hi _ => hi⟩
  · obtain ⟨hlow, hk⟩ := Lib.lowest_bit 64 x hx0 hx
    obtain ⟨hi, htab⟩ := Lib.deBruijn64_at _ hk
    have hcell := hT.tab _ hi
    rw [htab] at hcell
    have hspec := Lib.ctzFrom_spec 64 x (by omega) hx
    have hc : Lib.ctz 64 x = Lib.ctzFrom 64 x := if_neg hx0
    obtain ⟨m, hm, _⟩ := hspec
    rw [← hc] at hm
    exact (tz_core x _ _ w (by simp; omega) (tz64_key x _ hx hx0 hlow) hi hk hcell).mono fun e w' ⟨h1, h2⟩ =>
      ⟨_, h1, h2, by omega, ⟨2 * m + 1, hm⟩, fun i _ hd => odd_dvd (m := m) (Eq.mp (congrArg (2 ^ i ∣ ·) hm) hd)⟩
end Go.Proofs.YtkogehkmldbhgaaDoor

/- The walks of compact.Blocks and of the reference's Blocks. Condition: the library's table. -/
namespace Go.Proofs.YtkogehkmldbhgaaDoor
open Go Go.RowKit
attribute [local go_sem] n8_lo n8_hi n64_lo n64_hi n32_lo n32_hi
/-- the blocks that are told -/
def toldL (a e : Nat) : List Nat := if e ≤ 4294967296 then blocksL a e else []
theorem toldL_nil {a e : Nat} (h : e ≤ a ∨ 4294967296 < e) : toldL a e = [] := by
  unfold toldL
  split
  · exact blocksL_nil (by omega)
  · rfl
theorem toldL_le (a e : Nat) : (toldL a e).length ≤ 64 := by
  unfold toldL
  split
  · exact blocks_many 32 (by decide) (by omega)
  · exact Nat.zero_le _
theorem p2_int (j : Nat) : ((2 : Int) ^ j) = ((2 ^ j : Nat) : Int) := by simp
theorem p2_half (j : Nat) : 2 ^ (j + 1) / 2 = 2 ^ j := by rw [p2_succ]; omega
set_option maxHeartbeats 400000 in
set_option maxRecDepth 100000 in
theorem blocks_any (b e : Nat) (hb : b < 18446744073709551616) (he : e < 18446744073709551616) (w : World) (hT : Tz w) :
    Calls Tryd.prog 10 #[.int .u64 b, .int .u64 e] w fun x w' => ∃ v, x = .returned v ∧ OwnU w' w.heap.size v (toldL b e) ∧ Below w.heap.size w w' := by
  by_cases hno : e ≤ b ∨ 4294967296 < e
  · rw [toldL_nil hno]
    by_cases h1 : e ≤ b
    · have h1' : (e : Int) ≤ (b : Int) := by omega
      clear hno
      go_enter Tryd.func10, Tryd.ntmps10
      go_wp2_with fail
      go_step3
      go_wp2_with fail
      try rw [Exit.noGoto_ret]
      go_ret
      exact ⟨_, rfl, OwnU.nil _ _, Below.refl _ _⟩
    · have h1' : ¬ ((e : Int) ≤ (b : Int)) := by omega
      have h2' : (4294967296 : Int) < (e : Int) := by omega
      clear hno
      go_enter Tryd.func10, Tryd.ntmps10
      go_wp2_with fail
      go_step3
      go_wp2_with fail
      try rw [Exit.noGoto_ret]
      go_ret
      exact ⟨_, rfl, OwnU.nil _ _, Below.refl _ _⟩
  · have h1' : ¬ ((e : Int) ≤ (b : Int)) := by omega
    have h2' : ¬ ((4294967296 : Int) < (e : Int)) := by omega
    have hbe : b < e := by omega
    have hE : e ≤ 4294967296 := by omega
    have ht : toldL b e = blocksL b e := if_pos hE
    rw [ht]
    clear hno ht
    go_enter Tryd.func10, Tryd.ntmps10
    go_wp2_with fail
    go_step3
    go_wp2_with fail
    go_step3
    go_wp2_with fail
    clear h1' h2'
    go_loopw [0, 5, 6] (fun va v _ wr => ∃ (a : Nat) (ns : List Nat), va = .int .u64 a ∧ b ≤ a ∧ a ≤ e ∧ ns ++ blocksL a e = blocksL b e ∧ OwnU wr w.heap.size v ns ∧ Below w.heap.size w wr) (fun va _ _ _ => e - (intOf va).toNat)
    case atStart => exact ⟨b, [], rfl, Nat.le_refl _, Nat.le_of_lt hbe, rfl, OwnU.nil _ _, Below.refl _ _⟩
    case round =>
      obtain ⟨a, ns, rfl, hba, hae, hns, hown, hbel⟩ := hrel
      by_cases hlt : a < e
      case neg =>
        have hlt' : ¬ ((a : Int) < (e : Int)) := by omega
        obtain rfl : a = e := by omega
        rw [blocksL_nil (Nat.le_refl _), List.append_nil] at hns
        subst hns
        go_wp2_with fail
        try rw [Exit.noGoto_ret]
        go_ret
        exact ⟨_, rfl, hown, hbel⟩
      have hlt' : (a : Int) < (e : Int) := by omega
      go_wp2_with fail
      refine (tz_any a (by omega) _ (hT.next hbel)).mono ?_
      rintro x _ ⟨k, rfl, rfl, hk, hkd, hkm⟩
      have hm : min (k : Int) 32 = ((min k 32 : Nat) : Int) := by omega
      have hj : min k 32 ≤ 32 := by omega
      obtain ⟨hj1, hj2⟩ : 2 ^ (min k 32) ∣ a ∧ ∀ i, i ≤ 32 → 2 ^ i ∣ a → i ≤ min k 32 := ⟨Nat.dvd_trans (p2_dvd (by omega)) hkd, fun i hi hd => by have := hkm i (by omega) hd; omega⟩
      generalize min k 32 = j at hm hj hj1 hj2
      clear hkd hkm
      have hj64 : 2 ^ j ≤ 2 ^ 32 := Nat.pow_le_pow_right (by decide) hj
      have hsh : IntKind.u64.wrap ((2 : Int) ^ j) = ((2 ^ j : Nat) : Int) := by
        rw [p2_int]; exact IntWalk.u64_in _ (by omega)
      have hjm : ∀ i, 2 ^ i ∣ a → a + 2 ^ i ≤ e → i ≤ j := fun i h1 h2 => hj2 i (p2_le (by omega)) h1
      obtain ⟨N0, hN0⟩ : ∃ N, 2 ^ j = N := ⟨_, rfl⟩
      rw [hN0] at hsh
      go_wp2_with fail
      have HF := Lib.hid (And.intro hown (And.intro hns (And.intro hj1 (And.intro hjm hN0))))
      have hj64' : N0 ≤ 4294967296 := by omega
      clear hsh hm hj hj64 hown hns hj2 hj1 hjm hN0
      obtain ⟨wa, rfl⟩ : ∃ wa, wa = wr := ⟨_, rfl⟩
      go_loopw [6] (fun v wr => ∃ i N : Nat, v = .int .u64 N ∧ N ≤ 4294967296 ∧ 2 ^ i = N ∧ 2 ^ i ∣ a ∧ (∀ n, 2 ^ n ∣ a → a + 2 ^ n ≤ e → n ≤ i) ∧ wa = wr) (fun v _ => (intOf v).toNat)
      case atStart => exact ⟨j, N0, rfl, hj64', HF.out.2.2.2.2, HF.out.2.2.1, HF.out.2.2.2.1, rfl⟩
      case round =>
        obtain ⟨i, N, rfl, hNle, hN, hi1, hi2, rfl⟩ := hrel
        have hNp : 1 ≤ N := by rw [← hN]; exact p2_pos i
        have hsub : IntKind.u64.wrap ((e : Int) - (a : Int)) = (e : Int) - a := IntWalk.u64_in _ (by omega)
        by_cases hgt : e - a < N
        · have hgt' : (e : Int) - a < N := by omega
          have hi0 : 1 ≤ i := by
            rcases Nat.eq_zero_or_pos i with h0 | h0
            · subst h0; simp at hN; omega
            · exact h0
          have hN2 : 2 ^ (i - 1) = N / 2 := by rw [← hN, ← p2_half, Nat.sub_add_cancel hi0]
          have hi3 : 2 ^ (i - 1) ∣ a := Nat.dvd_trans (p2_dvd (Nat.sub_le i 1)) hi1
          have hi4 : ∀ n, 2 ^ n ∣ a → a + 2 ^ n ≤ e → n ≤ i - 1 := fun n h1 h2 => by
            have h3 := hi2 n h1 h2
            rcases Nat.lt_or_ge n i with h4 | h4
            · omega
            · have : n = i := by omega
              subst this; omega
          have HG := Lib.hid (And.intro hN2 (And.intro hi3 hi4))
          have hshr : (N : Int).fdiv (2 ^ min (Int.toNat 1) IntKind.u64.bits) = ((N / 2 : Nat) : Int) := by
            rw [show (2 : Int) ^ min (Int.toNat 1) IntKind.u64.bits = 2 from rfl, Int.fdiv_eq_ediv_of_nonneg _ (by decide)]; omega
          clear hN hi1 hi2 hN2 hi3 hi4 hi0
          go_wp2_with (simp only [hshr])
          go_roundw
          case rel => exact ⟨i - 1, N / 2, rfl, by omega, HG.out.1, HG.out.2.1, HG.out.2.2, trivial⟩
          case measure => simp [intOf]; omega
        · have hgt' : ¬ ((e : Int) - a < N) := by omega
          have hb : IsBlk a e i := ⟨hi1, by omega, hi2⟩
          have HG := Lib.hid (And.intro hN hb)
          have hNe : a + N ≤ e := by omega
          have hadd : IntKind.u64.wrap ((a : Int) + N) = ((a + N : Nat) : Int) := by
            rw [IntWalk.u64_in _ (by omega)]; omega
          have hns64 := HF.out.2.1
          have hlen : ns.length ≤ 64 := by
            have h1 := blocks_many 32 (by decide) (a := b) (e := e) (by omega)
            rw [← hns64, List.length_append] at h1
            omega
          have hown := HF.out.1
          have hbs := hbel.size
          clear hN hi1 hi2 hb hns64 hgt
          go_wp2_with (first
            | (at_builtin; go_loud (refine wpList_appendU rfl (.tmp 28) (.tmp 30) rfl w.heap.size _ ns rfl hown N rfl (by omega) hbs w hbel ?_); intro u9 w9 hown9 hb9))
          refine ⟨⟨a + N, by omega, by omega, by omega, ns ++ [N], ?_, hown9⟩, by simp only [intOf]; omega⟩
          rw [← HF.out.2.1, blocksL_cons HG.out.2, HG.out.1, List.append_assoc]
          rfl
set_option maxHeartbeats 400000 in
set_option maxRecDepth 100000 in
theorem rblocks_any (b e : Nat) (hb : b < 18446744073709551616) (he : e < 18446744073709551616) (w : World) :
    Calls Tryd.prog 26 #[.int .u64 b, .int .u64 e] w fun x w' => ∃ v, x = .returned v ∧ OwnU w' w.heap.size v (toldL b e) ∧ Below w.heap.size w w' := by
  by_cases h2 : 4294967296 < e
  · rw [toldL_nil (.inr h2)]
    have h2' : (4294967296 : Int) < (e : Int) := by omega
    go_enter Tryd.func26, Tryd.ntmps26
    go_wp2_with fail
    go_ret
    exact ⟨_, rfl, OwnU.nil _ _, Below.refl _ _⟩
  · have h2' : ¬ ((4294967296 : Int) < (e : Int)) := by omega
    have hE : e ≤ 4294967296 := by omega
    have ht : toldL b e = blocksL b e := if_pos hE
    rw [ht]
    clear h2 ht
    go_enter Tryd.func26, Tryd.ntmps26
    go_wp2_with fail
    clear h2'
    go_loopw [5, 6, 7] (fun v va _ wr => ∃ (a : Nat) (ns : List Nat), va = .int .u64 a ∧ b ≤ a ∧ (a ≤ e ∨ a = b) ∧ ns ++ blocksL a e = blocksL b e ∧ OwnU wr w.heap.size v ns ∧ Below w.heap.size w wr) (fun _ va _ _ => e - (intOf va).toNat)
    case atStart => exact ⟨b, [], rfl, Nat.le_refl _, .inr rfl, rfl, OwnU.nil _ _, Below.refl _ _⟩
    case round =>
      obtain ⟨a, ns, rfl, hba, hae, hns, hown, hbel⟩ := hrel
      by_cases hlt : a < e
      case neg =>
        have hlt' : ¬ ((a : Int) < (e : Int)) := by omega
        rw [blocksL_nil (by omega), List.append_nil] at hns
        subst hns
        go_wp2_with fail
        go_ret
        exact ⟨_, rfl, hown, hbel⟩
      have hlt' : (a : Int) < (e : Int) := by omega
      clear hae
      go_wp2_with fail
      have HF := Lib.hid (And.intro hown hns)
      clear hown hns
      obtain ⟨wa, rfl⟩ : ∃ wa, wa = wr := ⟨_, rfl⟩
      go_loopw [7] (fun v wr => ∃ i N : Nat, v = .int .u64 N ∧ N ≤ 4294967296 ∧ 2 ^ i = N ∧ 2 ^ i ∣ a ∧ a + N ≤ e ∧ wa = wr) (fun v _ => e - (intOf v).toNat)
      case atStart => exact ⟨0, 1, rfl, by omega, rfl, Nat.one_dvd _, by omega, rfl⟩
      case round =>
        obtain ⟨i, N, rfl, hNle, hN, hi1, hi2, rfl⟩ := hrel
        have hNp : 1 ≤ N := by rw [← hN]; exact p2_pos i
        have hmul : IntKind.u64.wrap (2 * (N : Int)) = 2 * (N : Int) := IntWalk.u64_in _ (by omega)
        have hne : ((2 * (N : Int)) == 0) = false := by simp; omega
        have hrem : (a : Int).tmod (2 * (N : Int)) = ((a % (2 * N) : Nat) : Int) := by
          rw [show 2 * (N : Int) = ((2 * N : Nat) : Int) by omega, Int.tmod_eq_emod_of_nonneg (by omega)]; rfl
        have hadd : IntKind.u64.wrap ((a : Int) + 2 * (N : Int)) = (a : Int) + 2 * (N : Int) := IntWalk.u64_in _ (by omega)
        by_cases hmore : 2 * N ∣ a ∧ a + 2 * N ≤ e
        · have hr0 : a % (2 * N) = 0 := Nat.mod_eq_zero_of_dvd hmore.1
          have hle' : (a : Int) + 2 * (N : Int) ≤ (e : Int) := by have := hmore.2; omega
          have hp : 2 ^ (i + 1) = 2 * N := by rw [p2_succ, hN]
          have HG := Lib.hid (And.intro hp hmore)
          rw [hr0] at hrem
          have hN64 : 2 * N ≤ 4294967296 := by have := hmore.2; omega
          clear hN hi1 hi2 hmore hp
          go_wp2_with fail
          exact ⟨⟨i + 1, 2 * N, by go_num, hN64, HG.out.1, by rw [HG.out.1]; exact HG.out.2.1, HG.out.2.2, trivial⟩, by simp only [intOf]; omega⟩
        · have hb : IsBlk a e i := IsBlk.mk' hi1 (by rw [hN]; exact hi2) (by rw [hN]; exact hmore)
          have HG := Lib.hid (And.intro hN hb)
          have haddN : IntKind.u64.wrap ((a : Int) + N) = ((a + N : Nat) : Int) := by
            rw [IntWalk.u64_in _ (by omega)]; omega
          have hlen : ns.length ≤ 64 := by
            have h1 := blocks_many 32 (by decide) (a := b) (e := e) (by omega)
            rw [← HF.out.2, List.length_append] at h1
            omega
          have hown := HF.out.1
          have hbs := hbel.size
          have hcase : (¬ ((a % (2 * N) : Nat) : Int) = 0) ∨ (((a % (2 * N) : Nat) : Int) = 0 ∧ ¬ ((a : Int) + 2 * (N : Int) ≤ (e : Int))) := by
            by_cases hd : a % (2 * N) = 0
            · exact .inr ⟨by omega, fun hle => hmore ⟨Nat.dvd_of_mod_eq_zero hd, by omega⟩⟩
            · exact .inl (by omega)
          generalize ((a % (2 * N) : Nat) : Int) = r at hrem hcase
          clear hN hi1 hb hmore
          rcases hcase with hr | ⟨rfl, hr⟩
          all_goals
            go_wp2_with (first
              | (at_builtin; refine wpList_appendU rfl (.tmp 29) (.tmp 31) rfl w.heap.size _ ns rfl hown N rfl (by omega) hbs w hbel ?_; intro u9 w9 hown9 hb9))
            refine ⟨⟨a + N, ns ++ [N], by go_num, by omega, by omega, ?_, hown9, hb9⟩, by simp only [intOf]; omega⟩
            rw [← HF.out.2, blocksL_cons HG.out.2, HG.out.1]
            simp
end Go.Proofs.YtkogehkmldbhgaaDoor

/- The walks of compact's right and of the reference's Right; Empty, plain. Condition: the library's table. -/
namespace Go.Proofs.YtkogehkmldbhgaaDoor
open Go Go.RowKit
attribute [local irreducible] mixW
attribute [local go_sem] n8_lo n8_hi n64_lo n64_hi n32_lo n32_hi
/-- a range's cells -/
def rgC (b e : Nat) (h : Value) : Array Value := #[nU b, nU e, h]
def rightB (b e n : Nat) : Bool := decide (b ≤ e ∧ e ≤ 4294967296 ∧ n = (blocksL b e).length)
theorem natEq (n m : Nat) : ((n : Int) == (m : Int)) = decide (n = m) := by
  by_cases h : n = m
  · subst h; simp
  · simp [h]; omega
theorem OwnU.slice {w : World} {base : Nat} {v : Value} {ns : List Nat} (h : OwnU w base v ns) : ∃ A c, v = .slice A ns.length c := by
  obtain ⟨A, c, h1, _⟩ := h.nsl
  exact ⟨A, c, h1⟩
set_option maxHeartbeats 1000000 in
set_option maxRecDepth 100000 in
theorem right_any (b e : Nat) (hb : b < 18446744073709551616) (he : e < 18446744073709551616) (A : Option Addr) (n c : Nat) (w : World) (hT : Tz w) :
    Calls Tryd.prog 41 #[.agg (rgC b e (.slice A n c))] w fun x w' => x = .returned (.bool (rightB b e n)) ∧ Below w.heap.size w w' := by
  obtain ⟨wr, hwr⟩ : ∃ wr, wr = w.alloc (.cells #[.int .u64 (b : Int), .int .u64 (e : Int), .slice A n c] 31) := ⟨_, rfl⟩
  have hB : Blk wr w.heap.size 31 #[.int .u64 (b : Int), .int .u64 (e : Int), .slice A n c] := by rw [hwr]; exact Blk.new w _ _
  have hbel : Below w.heap.size w wr := by rw [hwr]; exact below_new1 w _
  unfold rgC
  simp only [nU]
  have HB := Lib.hid hB
  clear hB
  go_enter Tryd.func41, Tryd.ntmps41
  go_wp2_with fail
  rw [← hwr]
  have Hwr := Lib.hid hwr
  clear hwr
  refine wp_region_mixP (.plain 0 <| .plain 1 <| .plain 2 <| .plain 3 <| .plain 4 <| .plain 5 <| .plain 6 <| .plain 7 <| .plain 8 <| .plain 9 <| .plain 10 <| .plain 11 <| .plain 12 <| .plain 13 <| .plain 14 <| .plain 15 <| .plain 16 <| .plain 17 <| .only 18 <| .plain 19 <| .plain 20 <| .plain 21 <| .plain 22 <| .done) (by kernel_rfl) (by kernel_rfl) (fun W1 hb1 => ?_)
  have hB1 := HB.out.below hb1 HB.out.lt
  replace hbel := hbel.trans (hb1.mono hbel.size)
  have c0 : ∀ x, (plus W1 x).cell? ⟨w.heap.size, 0, none⟩ = some (.int .u64 (b : Int)) := fun x => (hB1.plus x).cell 0
  have c1 : ∀ x, (plus W1 x).cell? ⟨w.heap.size, 1, none⟩ = some (.int .u64 (e : Int)) := fun x => (hB1.plus x).cell 1
  have c2 : ∀ x, (plus W1 x).cell? ⟨w.heap.size, 2, none⟩ = some (.slice A n c) := fun x => (hB1.plus x).cell 2
  clear hb1 HB hB1
  by_cases hbe : b ≤ e
  case neg =>
    have hr : rightB b e n = false := decide_eq_false (fun h => hbe h.1)
    have Hr := Lib.hid hr
    clear hr
    have hbe' : ¬ ((b : Int) ≤ (e : Int)) := by omega
    iterate 6 (refine mix_plain rfl ?_; go_big_quiet_step (fail); refine wpQuiet_nil ?_)
    iterate 3 (refine mix_skip rfl rfl ?_; simp only [Act.put, List.setIfInBounds_toArray, List.set_cons_zero, List.set_cons_succ])
    iterate 2 (refine mix_plain rfl ?_; go_big_quiet_step (fail); refine wpQuiet_nil ?_)
    iterate 7 (refine mix_skip rfl rfl ?_; simp only [Act.put, List.setIfInBounds_toArray, List.set_cons_zero, List.set_cons_succ])
    refine mix_only rfl (fun K hK => ?_)
    go_wp2_with fail
    refine hK _ _ (Below.refl _ _) ?_
    clear hK K
    iterate 2 (refine mix_skip rfl rfl ?_; simp only [Act.put, List.setIfInBounds_toArray, List.set_cons_zero, List.set_cons_succ])
    iterate 2 (refine mix_plain rfl ?_; go_big_quiet_step (fail); refine wpQuiet_nil ?_)
    refine mix_done ?_
    go_wp2_with fail
    go_ret
    exact ⟨by rw [Hr.out]; rfl, hbel⟩
  have hbe' : (b : Int) ≤ (e : Int) := by omega
  by_cases hE : e ≤ 4294967296
  case neg =>
    have hr : rightB b e n = false := decide_eq_false (fun h => hE h.2.1)
    have Hr := Lib.hid hr
    clear hr
    have hE' : ¬ ((e : Int) ≤ 4294967296) := by omega
    iterate 11 (refine mix_plain rfl ?_; go_big_quiet_step (fail); refine wpQuiet_nil ?_)
    iterate 7 (refine mix_skip rfl rfl ?_; simp only [Act.put, List.setIfInBounds_toArray, List.set_cons_zero, List.set_cons_succ])
    refine mix_only rfl (fun K hK => ?_)
    go_wp2_with fail
    refine hK _ _ (Below.refl _ _) ?_
    clear hK K
    iterate 2 (refine mix_skip rfl rfl ?_; simp only [Act.put, List.setIfInBounds_toArray, List.set_cons_zero, List.set_cons_succ])
    iterate 2 (refine mix_plain rfl ?_; go_big_quiet_step (fail); refine wpQuiet_nil ?_)
    refine mix_done ?_
    go_wp2_with fail
    go_ret
    exact ⟨by rw [Hr.out]; rfl, hbel⟩
  have hE' : (e : Int) ≤ 4294967296 := by omega
  iterate 18 (refine mix_plain rfl ?_; go_big_quiet_step (fail); refine wpQuiet_nil ?_)
  clear c0 c1 c2
  refine mix_only rfl (fun K hK => ?_)
  go_wp2_with fail
  refine (blocks_any b e hb he _ (hT.next hbel)).mono ?_
  rintro x w2 ⟨v, rfl, hown, hb2⟩
  have ht : toldL b e = blocksL b e := if_pos hE
  rw [ht] at hown
  obtain ⟨A2, c2, rfl⟩ := hown.slice
  have hr : rightB b e n = ((n : Int) == ((blocksL b e).length : Int)) := by
    rw [natEq]; unfold rightB; simp [hbe, hE]
  have Hr := Lib.hid hr
  clear hr
  generalize (blocksL b e).length = m at Hr ⊢
  clear ht hown
  go_wp2_with fail
  refine hK _ _ hb2 ?_
  clear hK K
  replace hbel := hbel.trans (hb2.mono hbel.size)
  iterate 4 (refine mix_plain rfl ?_; go_big_quiet_step (fail); refine wpQuiet_nil ?_)
  refine mix_done ?_
  go_wp2_with fail
  go_ret
  exact ⟨by rw [Hr.out]; rfl, hbel⟩
set_option maxHeartbeats 1000000 in
set_option maxRecDepth 100000 in
theorem rright_any (b e : Nat) (hb : b < 18446744073709551616) (he : e < 18446744073709551616) (A : Option Addr) (n c : Nat) (w : World) :
    Calls Tryd.prog 43 #[.agg (rgC b e (.slice A n c))] w fun x w' => x = .returned (.bool (rightB b e n)) ∧ Below w.heap.size w w' := by
  obtain ⟨wr, hwr⟩ : ∃ wr, wr = w.alloc (.cells #[.int .u64 (b : Int), .int .u64 (e : Int), .slice A n c] 35) := ⟨_, rfl⟩
  have hB : Blk wr w.heap.size 35 #[.int .u64 (b : Int), .int .u64 (e : Int), .slice A n c] := by rw [hwr]; exact Blk.new w _ _
  have hbel : Below w.heap.size w wr := by rw [hwr]; exact below_new1 w _
  unfold rgC
  simp only [nU]
  have HB := Lib.hid hB
  clear hB
  go_enter Tryd.func43, Tryd.ntmps43
  go_wp2_with fail
  rw [← hwr]
  have Hwr := Lib.hid hwr
  clear hwr
  refine wp_region_mixP (.plain 0 <| .plain 1 <| .plain 2 <| .plain 3 <| .plain 4 <| .plain 5 <| .plain 6 <| .plain 7 <| .plain 8 <| .plain 9 <| .plain 10 <| .plain 11 <| .plain 12 <| .plain 13 <| .plain 14 <| .plain 15 <| .plain 16 <| .plain 17 <| .only 18 <| .plain 19 <| .plain 20 <| .plain 21 <| .plain 22 <| .done) (by kernel_rfl) (by kernel_rfl) (fun W1 hb1 => ?_)
  have hB1 := HB.out.below hb1 HB.out.lt
  replace hbel := hbel.trans (hb1.mono hbel.size)
  have c0 : ∀ x, (plus W1 x).cell? ⟨w.heap.size, 0, none⟩ = some (.int .u64 (b : Int)) := fun x => (hB1.plus x).cell 0
  have c1 : ∀ x, (plus W1 x).cell? ⟨w.heap.size, 1, none⟩ = some (.int .u64 (e : Int)) := fun x => (hB1.plus x).cell 1
  have c2 : ∀ x, (plus W1 x).cell? ⟨w.heap.size, 2, none⟩ = some (.slice A n c) := fun x => (hB1.plus x).cell 2
  clear hb1 HB hB1
  by_cases hbe : b ≤ e
  case neg =>
    have hr : rightB b e n = false := decide_eq_false (fun h => hbe h.1)
    have Hr := Lib.hid hr
    clear hr
    have hbe' : ¬ ((b : Int) ≤ (e : Int)) := by omega
    iterate 6 (refine mix_plain rfl ?_; go_big_quiet_step (fail); refine wpQuiet_nil ?_)
    iterate 3 (refine mix_skip rfl rfl ?_; simp only [Act.put, List.setIfInBounds_toArray, List.set_cons_zero, List.set_cons_succ])
    iterate 2 (refine mix_plain rfl ?_; go_big_quiet_step (fail); refine wpQuiet_nil ?_)
    iterate 7 (refine mix_skip rfl rfl ?_; simp only [Act.put, List.setIfInBounds_toArray, List.set_cons_zero, List.set_cons_succ])
    refine mix_only rfl (fun K hK => ?_)
    go_wp2_with fail
    refine hK _ _ (Below.refl _ _) ?_
    clear hK K
    iterate 2 (refine mix_skip rfl rfl ?_; simp only [Act.put, List.setIfInBounds_toArray, List.set_cons_zero, List.set_cons_succ])
    iterate 2 (refine mix_plain rfl ?_; go_big_quiet_step (fail); refine wpQuiet_nil ?_)
    refine mix_done ?_
    go_wp2_with fail
    go_ret
    exact ⟨by rw [Hr.out]; rfl, hbel⟩
  have hbe' : (b : Int) ≤ (e : Int) := by omega
  by_cases hE : e ≤ 4294967296
  case neg =>
    have hr : rightB b e n = false := decide_eq_false (fun h => hE h.2.1)
    have Hr := Lib.hid hr
    clear hr
    have hE' : ¬ ((e : Int) ≤ 4294967296) := by omega
    iterate 11 (refine mix_plain rfl ?_; go_big_quiet_step (fail); refine wpQuiet_nil ?_)
    iterate 7 (refine mix_skip rfl rfl ?_; simp only [Act.put, List.setIfInBounds_toArray, List.set_cons_zero, List.set_cons_succ])
    refine mix_only rfl (fun K hK => ?_)
    go_wp2_with fail
    refine hK _ _ (Below.refl _ _) ?_
    clear hK K
    iterate 2 (refine mix_skip rfl rfl ?_; simp only [Act.put, List.setIfInBounds_toArray, List.set_cons_zero, List.set_cons_succ])
    iterate 2 (refine mix_plain rfl ?_; go_big_quiet_step (fail); refine wpQuiet_nil ?_)
    refine mix_done ?_
    go_wp2_with fail
    go_ret
    exact ⟨by rw [Hr.out]; rfl, hbel⟩
  have hE' : (e : Int) ≤ 4294967296 := by omega
  iterate 18 (refine mix_plain rfl ?_; go_big_quiet_step (fail); refine wpQuiet_nil ?_)
  clear c0 c1 c2
  refine mix_only rfl (fun K hK => ?_)
  go_wp2_with fail
  refine (rblocks_any b e hb he _).mono ?_
  rintro x w2 ⟨v, rfl, hown, hb2⟩
  have ht : toldL b e = blocksL b e := if_pos hE
  rw [ht] at hown
  obtain ⟨A2, c2, rfl⟩ := hown.slice
  have hr : rightB b e n = ((n : Int) == ((blocksL b e).length : Int)) := by
    rw [natEq]; unfold rightB; simp [hbe, hE]
  have Hr := Lib.hid hr
  clear hr
  generalize (blocksL b e).length = m at Hr ⊢
  clear ht hown
  go_wp2_with fail
  refine hK _ _ hb2 ?_
  clear hK K
  replace hbel := hbel.trans (hb2.mono hbel.size)
  iterate 4 (refine mix_plain rfl ?_; go_big_quiet_step (fail); refine wpQuiet_nil ?_)
  refine mix_done ?_
  go_wp2_with fail
  go_ret
  exact ⟨by rw [Hr.out]; rfl, hbel⟩
theorem results_cell_two {P : Program} {fn : Func} {p q : Tmp} {ty : TypeId} (h : fn.results = #[.cell p ty, .tmp q]) (tmps : Array Value) (w : World) (g : Nat) (t : TypeId) (cs : Array Value) (fr : Nat × Nat) (d : TypeDesc)
    (hp : tmps.getD p undef = .pointer (some ⟨g, 0, none⟩)) (hg : w.heap[g]? = some (.cells cs t fr))
    (hu : P.underlying ty = some d) (hd : (match d with | .struct _ | .array _ _ => true | _ => false) = true) (hi : (P.info? ty).map (·.size) = some cs.size) :
    (results fn tmps).run P w = .ok (.tuple #[.agg cs, tmps.getD q undef]) w := by
  have hp' : tmps[p]?.getD undef = .pointer (some ⟨g, 0, none⟩) := by simpa using hp
  simp [results, h, hp', asAddr, run_loadVar_row w g t ty cs fr d hg hu hd hi, Sem.run_bind, Result.andThen]
theorem empty_any (n : Nat) (w : World) : Calls Tryd.prog 30 #[.int .u64 n] w fun x w' => x = .returned (.agg (rgC n n (.slice none 0 0))) ∧ Below w.heap.size w w' := by
  have hB := Blk.new w 31 #[.int .u64 (n : Int), .int .u64 (n : Int), .slice none 0 0]
  have hb := below_new1 w (.cells #[.int .u64 (n : Int), .int .u64 (n : Int), .slice none 0 0] 31)
  go_enter Tryd.func30, Tryd.ntmps30
  go_wp2
  exact bodyPost_ret (results_cell_row (p := 2) (ty := 31) rfl _ _ w.heap.size _ _ _ _ rfl hB Tryd.underlying31 rfl (by kernel_rfl)) rfl ⟨rfl, hb⟩
theorem plain_any (b e : Nat) (A : Option Addr) (n c : Nat) (w : World) : Calls Tryd.prog 20 #[.agg (rgC b e (.slice A n c))] w fun x w' => x = .returned (.agg (rgC b e (.slice A n c))) ∧ Below w.heap.size w w' := by
  have hb1 := below_new1 w (.cells #[.int .u64 (b : Int), .int .u64 (e : Int), .slice A n c] 31)
  have hb := hb1.alloc hb1.size (.cells #[.int .u64 (b : Int), .int .u64 (e : Int), .slice A n c] 35)
  have hB := Blk.new2 w (.cells #[.int .u64 (b : Int), .int .u64 (e : Int), .slice A n c] 31) 35 #[.int .u64 (b : Int), .int .u64 (e : Int), .slice A n c]
  unfold rgC
  simp only [nU]
  go_enter Tryd.func20, Tryd.ntmps20
  go_wp2
  exact bodyPost_ret (results_cell_row (p := 2) (ty := 35) rfl _ _ (w.heap.size + 1) _ _ _ _ rfl hB Tryd.underlying35 rfl (by kernel_rfl)) rfl ⟨rfl, hb⟩
end Go.Proofs.YtkogehkmldbhgaaDoor

/- The walks of merkle's Root and its inner function. No condition. -/
namespace Go.Proofs.YtkogehkmldbhgaaDoor
open Go.RowKit
attribute [local irreducible] mixW
attribute [local go_sem] n8_lo n8_hi n64_lo n64_hi n32_lo n32_hi
section
variable {w : World} {B : Nat} {A : Option Addr} {n cap : Nat} {ls : List (List UInt8)}
theorem SSl.lens (h : SSl w B (.slice A n cap) ls) : n = ls.length ∧ ls.length ≤ cap := by
  obtain ⟨A', cap', vs, e1, h1, h2, _⟩ := h
  injection e1 with _ e1 e2
  exact ⟨e1, by omega⟩
theorem SSl.take (h : SSl w B (.slice A n cap) ls) (k : Nat) (hk : k ≤ n) : SSl w B (.slice A k cap) (ls.take k) := by
  obtain ⟨A', cap', vs, e1, h1, h2, h3, h4, h5⟩ := h
  injection e1 with e1 e2 e3
  subst e1; subst e3; subst e2
  have hl : (ls.take k).length = k := by rw [List.length_take]; omega
  refine ⟨A, cap, vs.take k, by rw [hl], by omega, h2, h3.take k, by rw [List.length_take, hl]; omega, fun i hi => ?_⟩
  rw [hl] at hi
  have := h5 i (by omega)
  rw [List.getD_eq_getElem?_getD, List.getD_eq_getElem?_getD] at this ⊢
  rw [List.getElem?_take, if_pos hi, List.getElem?_take, if_pos hi]
  exact this
theorem SSl.drop (h : SSl w B (.slice A n cap) ls) (k : Nat) (hk : k ≤ n) : SSl w B (cutV A cap k n) (ls.drop k) := by
  obtain ⟨A', cap', vs, e1, h1, h2, h3, h4, h5⟩ := h
  injection e1 with e1 e2 e3
  subst e1; subst e3; subst e2
  have hl : (ls.drop k).length = ls.length - k := by rw [List.length_drop]
  refine ⟨_, cap - k, vs.drop k, by unfold cutV; rw [hl], by omega, by omega, h3.cut (k := k) (cap := cap) (by omega) (by omega), by rw [List.length_drop, hl]; omega, fun i hi => ?_⟩
  rw [hl] at hi
  have := h5 (k + i) (by omega)
  rw [List.getD_eq_getElem?_getD, List.getD_eq_getElem?_getD] at this ⊢
  rw [List.getElem?_drop, List.getElem?_drop]
  exact this
/-- an element of a slice of slices -/
theorem SSl.cellAt (h : SSl w B (.slice A n cap) ls) (k : Nat) (hk : k < ls.length) : ∃ b off u, A = some ⟨b, off, none⟩ ∧ b < B ∧ w.cell? ⟨b, off + k, none⟩ = some u ∧ BSl w B u (ls.getD k []) := by
  obtain ⟨A', cap', vs, e1, h1, h2, h3, h4, h5⟩ := h
  injection e1 with e1 e2 e3
  subst e1
  obtain ⟨b, off, e, hb, hc⟩ := h3 (by omega)
  refine ⟨b, off, vs.getD k undef, e, hb, hc k _ ?_, h5 k hk⟩
  rw [List.getD_eq_getElem?_getD, List.getElem?_eq_getElem (show k < vs.length by omega)]; rfl
end
set_option maxHeartbeats 1000000 in
set_option maxRecDepth 100000 in
theorem mroot1_any (x : Int) (wb fb : Nat) (ft : TypeId) : ∀ (N : Nat) (ls : List (List UInt8)), ls.length ≤ N → 1 ≤ ls.length → ls.length ≤ 4611686018427387904 → (∀ b ∈ ls, b.length ≤ 140737488355200) → ∀ (v : Value) (w : World), SSl w w.heap.size v ls → Glob w →
    Blk w wb 3 #[.int .i64 x] → Blk w fb ft #[.func (.func 49) #[] #[.pointer (some ⟨wb, 0, none⟩), .pointer (some ⟨fb, 0, none⟩)]] →
    Calls Tryd.prog 49 #[v, .pointer (some ⟨wb, 0, none⟩), .pointer (some ⟨fb, 0, none⟩)] w fun e w' => e = .returned (.agg (dat (rootM (cutW x) ls))) ∧ Below w.heap.size w w' := by
  intro N
  induction N with
  | zero => intro ls h1 h2; omega
  | succ N ih =>
    intro ls hN h1 h62 hall v w hv hG hW hF
    have IH := Lib.hid ih
    have Hall := Lib.hid hall
    clear ih hall
    have hD := Blk.new w 43 (arr 32 fun _ => 0)
    have hb0 := below_new1 w (Obj.cells (arr 32 fun _ => 0) 43)
    obtain ⟨A, cap, vs, rfl, h2, h3, h4, h5, h6⟩ := hv
    have hv : SSl w w.heap.size (.slice A ls.length cap) ls := ⟨A, cap, vs, rfl, h2, h3, h4, h5, h6⟩
    clear h4 h5 h6 vs
    go_enter Tryd.func49, Tryd.ntmps49
    by_cases hone : ls.length = 1
    · have e1 : ((ls.length : Int) == 1) = true := by rw [beq_iff_eq]; omega
      go_upto_region 2 with fail
      refine wp_at (fun W => Blk W w.heap.size 43 (arr 32 fun _ => 0) ∧ Below w.heap.size w W) ⟨hD, hb0⟩ ?_
      clear hD hb0
      rintro W ⟨hD, hbel⟩
      have Hr := Lib.hid (rootM_single (cutW x) ls hone)
      have hlt : (0 : Int) < (ls.length : Int) := by omega
      refine wp_region_mixT 5 (.plain 0 <| .plain 1 <| .plain 2 <| .plain 3 <| .only 4 <| .done) (by kernel_rfl) (by kernel_rfl) (fun W1 hb1 => ?_)
      replace hD := hD.below hb1 hD.lt
      replace hbel := hbel.trans (hb1.mono hbel.size)
      clear hb1
      obtain ⟨b0, off, u, rfl, hb0, hcu, hu⟩ := (hv.next hbel).cellAt 0 (by omega)
      have Hlb : Hid ((ls.getD 0 []).length ≤ 140737488355200) := Lib.hid (Hall.out _ (by rw [List.getD_eq_getElem?_getD, List.getElem?_eq_getElem (show 0 < ls.length by omega)]; exact List.getElem_mem _))
      have cW : W1.cell? ⟨wb, 0, none⟩ = some (.int .i64 x) := by
        have := (hW.below hbel hW.lt).cell 0
        simpa using this
      have hwl : wb < W1.heap.size := (hW.below hbel hW.lt).lt
      rw [Nat.add_zero] at hcu
      clear hone e1 hv hN h1 h62 h2 h3
      iterate 4 (refine mix_plain rfl ?_; (first
        | (refine wpQuiet_load1 rfl _ (.tmp 1) rfl _ rfl _ Tryd.underlying3 rfl _ (fun _ ⟨e, he⟩ => by rw [he, plus_cell _ _ _ hwl]; exact cW) ?_; simp only [Act.put, List.setIfInBounds_toArray, List.set_cons_zero, List.set_cons_succ])
        | (refine wpQuiet_load1 rfl _ (.tmp 11) rfl _ rfl _ Tryd.underlying62 rfl _ (fun _ ⟨e, he⟩ => by rw [he, plus_cell _ _ _ hb0]; exact hcu) ?_; simp only [Act.put, List.setIfInBounds_toArray, List.set_cons_zero, List.set_cons_succ])
        | go_big_quiet_step (fail)); refine wpQuiet_nil ?_)
      refine mix_only rfl (fun K hK => ?_)
      go_wp2_with fail
      refine (mleaf_any x u (ls.getD 0 []) W1 hu Hlb.out (hG.next hbel)).mono ?_
      rintro e W2 ⟨rfl, hb1⟩
      go_wp2_with fail
      refine hK _ _ hb1 ?_
      clear hK K hcu cW hu
      replace hD := hD.below hb1 hD.lt
      replace hbel := hbel.trans (hb1.mono hbel.size)
      clear hb1
      refine mix_done ?_
      simp only [List.drop_succ_cons, List.drop_zero]
      refine wpList_storeDat rfl rfl 43 (.tmp 4) (.tmp 13) rfl w.heap.size rfl _ _ rfl _ hD (by kernel_rfl) ?_
      intro w10 hD10 hon10
      have hb10 := below_only hbel hon10 (Nat.le_refl _) hbel.size
      go_wp2
      refine bodyPost_ret (results_cell_row (p := 4) (ty := 43) rfl _ _ w.heap.size _ _ _ _ rfl hD10 Tryd.underlying43 rfl (by rw [dat_size]; kernel_rfl)) rfl ⟨?_, hb10⟩
      rw [Hr.out]; rfl
    · have e1 : ((ls.length : Int) == 1) = false := by rw [beq_eq_false_iff_ne]; omega
      go_wp2_with fail
      refine calls_at (fun W => Blk W w.heap.size 43 (arr 32 fun _ => 0) ∧ Below w.heap.size w W) ⟨hD, hb0⟩ ?_
      clear hD hb0
      rintro W ⟨hD, hbel⟩
      have h2l : 2 ≤ ls.length := by omega
      refine (half_any ls.length h2l h62 W).mono ?_
      rintro e _ ⟨rfl, rfl⟩
      have Hp := Lib.hid (half_parts ls h2l)
      have Hr := Lib.hid (rootM_node (cutW x) ls h2l)
      obtain ⟨p, hp⟩ : ∃ p, rootM (cutW x) (ls.take (halfN ls.length)) = p := ⟨_, rfl⟩
      obtain ⟨q, hq⟩ : ∃ q, rootM (cutW x) (ls.drop (halfN ls.length)) = q := ⟨_, rfl⟩
      have Hpq : Hid (p.length = 32 ∧ q.length = 32 ∧ rootM (cutW x) ls = nodeM (cutW x) p q) := Lib.hid ⟨by rw [← hp]; exact rootM_length _ _, by rw [← hq]; exact rootM_length _ _, by rw [Hr.out, hp, hq]⟩
      have Hp0 := Lib.hid hp
      have Hq0 := Lib.hid hq
      clear hp hq Hr e1 hone h2l
      obtain ⟨k, hk⟩ : ∃ k, halfN ls.length = k := ⟨_, rfl⟩
      rw [hk] at Hp Hp0 Hq0 ⊢
      clear hk
      have hkl : (k : Int) ≤ (ls.length : Int) := by have := Hp.out; omega
      have hk0 : (0 : Int) ≤ (k : Int) := by omega
      have hkc : (k : Int) ≤ (cap : Int) := by omega
      go_wp2_with fail
      refine wp_region_mixT 12 (.plain 0 <| .plain 1 <| .plain 2 <| .plain 3 <| .plain 4 <| .plain 6 <| .plain 7 <| .plain 8 <| .plain 9 <| .only 5 <| .only 10 <| .only 11 <| .done) (by kernel_rfl) (by kernel_rfl) (fun W1 hb1 => ?_)
      replace hD := hD.below hb1 hD.lt
      replace hbel := hbel.trans (hb1.mono hbel.size)
      clear hb1
      have cW : W1.cell? ⟨wb, 0, none⟩ = some (.int .i64 x) := by
        have := (hW.below hbel hW.lt).cell 0
        simpa using this
      have cF : W1.cell? ⟨fb, 0, none⟩ = some (.func (.func 49) #[] #[.pointer (some ⟨wb, 0, none⟩), .pointer (some ⟨fb, 0, none⟩)]) := by
        have := (hF.below hbel hF.lt).cell 0
        simpa using this
      have hwl : wb < W1.heap.size := (hW.below hbel hW.lt).lt
      have hfl : fb < W1.heap.size := (hF.below hbel hF.lt).lt
      have hv1 := hv.next hbel
      have hT := hv1.take k (by omega)
      have hR := hv1.drop k (by omega)
      clear hv hv1
      iterate 9 (refine mix_plain rfl ?_; (first
        | (refine wpQuiet_load1 rfl _ (.tmp 1) rfl _ rfl _ Tryd.underlying3 rfl _ (fun _ ⟨e, he⟩ => by rw [he, plus_cell _ _ _ hwl]; exact cW) ?_; simp only [Act.put, List.setIfInBounds_toArray, List.set_cons_zero, List.set_cons_succ])
        | (refine wpQuiet_load1 rfl _ (.tmp 2) rfl _ rfl _ Tryd.underlying73 rfl _ (fun _ ⟨e, he⟩ => by rw [he, plus_cell _ _ _ hfl]; exact cF) ?_; simp only [Act.put, List.setIfInBounds_toArray, List.set_cons_zero, List.set_cons_succ])
        | (refine wpQuiet_cutL rfl _ (.tmp 24) (.tmp 25) rfl 62 Tryd.underlying27 (by kernel_rfl) A ls.length cap k rfl rfl (by omega) ?_; simp only [Act.put, List.setIfInBounds_toArray, List.set_cons_zero, List.set_cons_succ])
        | go_big_quiet_step (fail)); refine wpQuiet_nil ?_)
      have hW1 := hW.below hbel hW.lt
      have hF1 := hF.below hbel hF.lt
      clear cW cF hwl hfl hW hF
      refine mix_only rfl (fun K hK => ?_)
      go_wp2_with fail
      refine (IH.out (ls.take k) (by have := Hp.out; omega) (by have := Hp.out; omega) (by have := Hp.out; omega) (fun b hb => Hall.out b (List.mem_of_mem_take hb)) _ W1 hT (hG.next hbel) hW1 hF1).mono ?_
      rintro e W2 ⟨rfl, hb1⟩
      rw [Hp0.out]
      go_wp2_with fail
      refine hK _ _ hb1 ?_
      clear hK K hT
      replace hD := hD.below hb1 hD.lt
      replace hR := hR.next hb1
      replace hW1 := hW1.below hb1 hW1.lt
      replace hF1 := hF1.below hb1 hF1.lt
      replace hbel := hbel.trans (hb1.mono hbel.size)
      clear hb1
      refine mix_only rfl (fun K hK => ?_)
      go_wp2_with fail
      refine (IH.out (ls.drop k) (by have := Hp.out; omega) (by have := Hp.out; omega) (by have := Hp.out; omega) (fun b hb => Hall.out b (List.mem_of_mem_drop hb)) _ W2 hR (hG.next hbel) hW1 hF1).mono ?_
      rintro e W3 ⟨rfl, hb1⟩
      rw [Hq0.out]
      go_wp2_with fail
      refine hK _ _ hb1 ?_
      clear hK K hR hW1 hF1
      replace hD := hD.below hb1 hD.lt
      replace hbel := hbel.trans (hb1.mono hbel.size)
      clear hb1
      refine mix_only rfl (fun K hK => ?_)
      go_wp2_with fail
      refine (mnode_any x p q Hpq.out.1 Hpq.out.2.1 W3 (hG.next hbel)).mono ?_
      rintro e W4 ⟨rfl, hb1⟩
      go_wp2_with fail
      refine hK _ _ hb1 ?_
      clear hK K
      replace hD := hD.below hb1 hD.lt
      replace hbel := hbel.trans (hb1.mono hbel.size)
      clear hb1
      refine mix_done ?_
      simp only [List.drop_succ_cons, List.drop_zero]
      refine wpList_storeDat rfl rfl 43 (.tmp 4) (.tmp 28) rfl w.heap.size rfl _ _ rfl _ hD (by kernel_rfl) ?_
      intro w10 hD10 hon10
      have hb10 := below_only hbel hon10 (Nat.le_refl _) hbel.size
      go_wp2
      refine bodyPost_ret (results_cell_row (p := 4) (ty := 43) rfl _ _ w.heap.size _ _ _ _ rfl hD10 Tryd.underlying43 rfl (by rw [dat_size]; kernel_rfl)) rfl ⟨?_, hb10⟩
      rw [Hpq.out.2.2]
set_option maxHeartbeats 400000 in
set_option maxRecDepth 100000 in
theorem mroot_any (x : Int) (v : Value) (ls : List (List UInt8)) (w : World) (hv : SSl w w.heap.size v ls) (h62 : ls.length ≤ 4611686018427387904) (hall : ∀ b ∈ ls, b.length ≤ 140737488355200) (hG : Glob w) :
    Calls Tryd.prog 32 #[.int .i64 x, v] w fun e w' => e = .returned (.agg (dat (rootM (cutW x) ls))) ∧ Below w.heap.size w w' := by
  have Hall := Lib.hid hall
  clear hall
  obtain ⟨A, cap, vs, rfl, h2, h3, h4, h5, h6⟩ := hv
  have hv : SSl w w.heap.size (.slice A ls.length cap) ls := ⟨A, cap, vs, rfl, h2, h3, h4, h5, h6⟩
  clear h4 h5 h6 vs
  have hX := (Blk.new w 3 #[.int .i64 x]).alloc (Obj.cells (arr 32 fun _ => 0) 43)
  have hD := Blk.new2 w (Obj.cells #[.int .i64 x] 3) 43 (arr 32 fun _ => 0)
  have hb2 := (below_new1 w (Obj.cells #[.int .i64 x] 3)).alloc (by simp) (Obj.cells (arr 32 fun _ => 0) 43)
  go_enter Tryd.func32, Tryd.ntmps32
  by_cases h0 : ls.length = 0
  · have hnil : ls = [] := List.eq_nil_of_length_eq_zero h0
    subst hnil
    go_wp2_with fail
    refine calls_at (fun W => Blk W (w.heap.size + 1) 43 (arr 32 fun _ => 0) ∧ Below w.heap.size w W) ⟨hD, hb2⟩ ?_
    clear hX hD hb2
    rintro W ⟨hD, hbel⟩
    refine (msum_any x _ [] W BSl.nil_ (by simp) (hG.next hbel)).mono ?_
    rintro e w1 ⟨rfl, hb1⟩
    replace hD := hD.below hb1 hD.lt
    replace hbel := hbel.trans (hb1.mono hbel.size)
    clear hb1
    go_wp2_with (first
      | (refine wpList_storeDat rfl rfl 43 (.tmp 4) (.tmp 10) rfl (w.heap.size + 1) rfl _ _ rfl _ hD (by kernel_rfl) ?_; intro w10 hD10 hon10))
    have hb10 := below_only hbel hon10 (by omega) hbel.size
    exact bodyPost_ret (results_cell_row (p := 4) (ty := 43) rfl _ _ (w.heap.size + 1) _ _ _ _ rfl hD10 Tryd.underlying43 rfl (by rw [dat_size]; kernel_rfl)) rfl ⟨rfl, hb10⟩
  · have e1 : ((ls.length : Int) == 0) = false := by rw [beq_eq_false_iff_ne]; omega
    have hmf : ∀ (fn : Fn) (first cap : Array Value) (w : World), (Instr.makeFunc fn first cap).run Tryd.prog w = .ok (.func fn first cap) w := fun _ _ _ _ => rfl
    have hF := Blk.new3 w (Obj.cells #[.int .i64 x] 3) (Obj.cells (arr 32 fun _ => 0) 43) 73 #[.nilFunc]
    have hX3 := hX.alloc (Obj.cells #[.nilFunc] 73)
    have hD3 := hD.alloc (Obj.cells #[.nilFunc] 73)
    have hb3 := hb2.alloc hb2.size (Obj.cells #[.nilFunc] 73)
    clear hX hD hb2
    go_upto_region 5 with (first
      | (refine wpList_store1 rfl rfl _ (.tmp 5) (.tmp 11) rfl (w.heap.size + 2) 0 rfl (.func (.func 49) #[] #[.pointer (some ⟨w.heap.size, 0, none⟩), .pointer (some ⟨w.heap.size + 2, 0, none⟩)]) rfl _ _ hF (by kernel_rfl) (by simp) rfl rfl ?_; intro w4 hF4 hon4))
    have hb4 := below_only hb3 hon4 (by omega) hb3.size
    have hX4 := hX3.grown hon4 (by simp)
    have hD4 := hD3.grown hon4 (by simp)
    clear hF hX3 hD3 hb3 hon4 hmf e1
    have cF := hF4.cell 0
    have hf0 : (#[Value.nilFunc].setIfInBounds 0 (.func (.func 49) #[] #[.pointer (some ⟨w.heap.size, 0, none⟩), .pointer (some ⟨w.heap.size + 2, 0, none⟩)])) = #[Value.func (.func 49) #[] #[.pointer (some ⟨w.heap.size, 0, none⟩), .pointer (some ⟨w.heap.size + 2, 0, none⟩)]] := rfl
    rw [hf0] at hF4 cF
    have cF : w4.cell? ⟨w.heap.size + 2, 0, none⟩ = some (.func (.func 49) #[] #[.pointer (some ⟨w.heap.size, 0, none⟩), .pointer (some ⟨w.heap.size + 2, 0, none⟩)]) := by simpa using cF
    clear hf0
    go_wp2_with fail
    refine (mroot1_any x w.heap.size (w.heap.size + 2) 73 ls.length ls (Nat.le_refl _) (by omega) h62 Hall.out _ w4 (hv.next hb4) (hG.next hb4) hX4 hF4).mono ?_
    rintro e w5 ⟨rfl, hb1⟩
    replace hD4 := hD4.below hb1 hD4.lt
    have hbel := hb4.trans (hb1.mono hb4.size)
    clear hb1 hF4 hX4 cF hb4
    go_wp2_with (first
      | (refine wpList_storeDat rfl rfl 43 (.tmp 4) (.tmp 14) rfl (w.heap.size + 1) rfl _ _ rfl _ hD4 (by kernel_rfl) ?_; intro w10 hD10 hon10))
    have hb10 := below_only hbel hon10 (by omega) hbel.size
    exact bodyPost_ret (results_cell_row (p := 4) (ty := 43) rfl _ _ (w.heap.size + 1) _ _ _ _ rfl hD10 Tryd.underlying43 rfl (by rw [dat_size]; kernel_rfl)) rfl ⟨rfl, hb10⟩
end Go.Proofs.YtkogehkmldbhgaaDoor

/- Lists of digests: their cells, a literal of one, append of one onto a row of the call's own. No condition. -/
namespace Go.Proofs.YtkogehkmldbhgaaDoor
open Go Go.RowKit
/-- the cells of a list of digests -/
def dcells (l : List (List UInt8)) : List Value := (l.map fun d => (dat d).toList).flatten
theorem dcells_snoc (l : List (List UInt8)) (d : List UInt8) : dcells (l ++ [d]) = dcells l ++ (dat d).toList := by simp [dcells]
theorem dcells_length (l : List (List UInt8)) : (dcells l).length = l.length * 32 := by
  unfold dcells
  induction l with
  | nil => rfl
  | cons d l ih => simp only [List.map_cons, List.flatten_cons, List.length_append, ih]; rw [show (dat d).toList.length = 32 by rw [Array.length_toList, dat_size]]; simp; omega
theorem dcells_at (l : List (List UInt8)) (k : Nat) (hk : k < l.length) (j : Nat) (hj : j < 32) : (dcells l)[k * 32 + j]? = (dat (l.getD k []))[j]? := by
  induction l generalizing k with
  | nil => simp at hk
  | cons d l ih =>
    have hd : (dat d).toList.length = 32 := by rw [Array.length_toList, dat_size]
    have e : dcells (d :: l) = (dat d).toList ++ dcells l := by simp [dcells]
    rw [e]
    cases k with
    | zero => rw [List.getElem?_append_left (by omega)]; simp
    | succ k =>
      rw [List.getElem?_append_right (by omega), hd, show (k + 1) * 32 + j - 32 = k * 32 + j by omega, ih k (by simpa using hk)]; simp
set_option maxRecDepth 100000 in
theorem build_digest (d : List UInt8) (w : World) : (Instr.buildSlice 29 1 #[(0, .agg (dat d))]).run Tryd.prog w = .ok (.slice (some ⟨w.heap.size, 0, none⟩) 1 1) (w.alloc (.cells (dat d) 43)) := by kernel_rfl
theorem wpList_buildD {w : World} {ops : Array Oper} {rest : List Oper} {o : Oper} {a : Act} {Q : Exit → Act → World → Prop} (hgd : o.guard = none) (x : Operand) (ho : o.op = .buildSlice 29 1 #[(0, x)]) (d : List UInt8) (hx : a.eval x = .agg (dat d))
    (h : wpList Tryd.prog ops Q rest (a.put o.dst (.slice (some ⟨w.heap.size, 0, none⟩) 1 1)) (w.alloc (.cells (dat d) 43))) : wpList Tryd.prog ops Q (o :: rest) a w :=
  wpList_plain hgd fun K hK => by
    unfold Oper.wp execOp
    simp only [ho, List.map_toArray, List.map_cons, List.map_nil, hx, Sem.run_bind, build_digest d, Result.andThen_ok, Sem.run_pure]
    exact hK _ _ h
theorem own_oneD (w : World) (base : Nat) (hb : base ≤ w.heap.size) (d : List UInt8) : (w.alloc (.cells (dat d) 43)).ownsRow base 43 32 (.slice (some ⟨w.heap.size, 0, none⟩) 1 1) ([d] : List (List UInt8)).length (dcells [d]) := by
  have hl : (dcells [d]) = (dat d).toList := by simp [dcells]
  refine ⟨by rw [hl, Array.length_toList, dat_size]; rfl, .inr ⟨w.heap.size, 1, dat d, rfl, hb, heap_alloc_new w _, Nat.le_refl _, by decide, by rw [dat_size], ?_⟩⟩
  rw [hl, List.take_of_length_le (by rw [Array.length_toList, dat_size]; show 32 ≤ 1 * 32; decide)]
theorem range_plus {w : World} {b off : Nat} {cs : List Value} (h : w.rangeAt b off cs) (e : Ext) : (plus w e).rangeAt b off cs := fun j v hj => by
  have h1 := h j v hj
  rw [plus_cell w e ⟨b, off + j, none⟩ (block_lt_of_cell h1)]; exact h1
section
variable {ops : Array Oper} {Q : Act → Prop} {a : Act} {o : Oper} {rest : List Oper}
theorem wpQuiet_loadMid {P : Program} {C : World → Prop} (hw : Region.wanted o (yielded ops a.tmps) = true) (ty : TypeId) (x : Operand) (ho : o.op = .load ty x) (b off : Nat) (hx : a.eval x = .pointer (some ⟨b, off, none⟩)) (cs : Array Value) (d : TypeDesc) (hS : ∀ w, C w → w.rangeAt b off cs.toList)
    (hu : P.underlying ty = some d) (hd : d.isRow = true) (hi : (P.info? ty).map (·.size) = some cs.size) (hk : wpQuiet P ops C Q rest (a.put o.dst (.agg cs))) : wpQuiet P ops C Q (o :: rest) a :=
  wpQuiet_wanted hw _ (fun w hC => by
    unfold Oper.quietAt execOp
    simp only [ho, hx, Instr.loadAt, Instr.sureAddr, Sem.run_bind, Sem.run_pure, Result.andThen_ok, run_loadVar_mid w b off ty cs.toList d (hS w hC) hu hd (by simpa using hi)]
    exact ⟨rfl, by simp⟩) hk
end
theorem wpList_loadMid {P : Program} {w : World} {ops : Array Oper} {rest : List Oper} {o : Oper} {a : Act} {Q : Exit → Act → World → Prop} (hw : Region.wanted o (yielded ops a.tmps) = true) (ty : TypeId) (x : Operand) (ho : o.op = .load ty x) (b off : Nat) (hx : a.eval x = .pointer (some ⟨b, off, none⟩)) (cs : Array Value) (d : TypeDesc)
    (hS : w.rangeAt b off cs.toList) (hu : P.underlying ty = some d) (hd : d.isRow = true) (hi : (P.info? ty).map (·.size) = some cs.size)
    (h : wpList P ops Q rest (a.put o.dst (.agg cs)) w) : wpList P ops Q (o :: rest) a w :=
  wpList_step fun K hK => by
    simp only [hw, if_true]
    unfold Oper.wp execOp
    simp only [ho, hx, Instr.loadAt, Instr.sureAddr, Sem.run_bind, Sem.run_pure, Result.andThen_ok, run_loadVar_mid w b off ty cs.toList d hS hu hd (by simpa using hi)]
    exact hK _ _ h
/-- append of one digest onto a row of digests of the call's own -/
theorem wpList_appendDig {w : World} {ops : Array Oper} {rest : List Oper} {o : Oper} {a : Act} {Q : Exit → Act → World → Prop} (hgd : o.guard = none) (s x : Operand)
    (ho : o.op = .call { callee := .builtin .append, args := #[s, x], argTypes := #[29, 29] })
    (base : Nat) (v : Value) (ds : List (List UInt8)) (hs : a.eval s = v) (hown : w.ownsRow base 43 32 v ds.length (dcells ds))
    (g : Nat) (d : List UInt8) (hx : a.eval x = .slice (some ⟨g, 0, none⟩) 1 1) (hX : Blk w g 43 (dat d)) (hl : ds.length ≤ 1000000000) (hbase : base ≤ w.heap.size)
    (h : ∀ v' w', w'.ownsRow base 43 32 v' (ds ++ [d]).length (dcells (ds ++ [d])) → w.grownBy w' v.ownBlock → wpList Tryd.prog ops Q rest (a.put o.dst v') w') : wpList Tryd.prog ops Q (o :: rest) a w := by
  obtain ⟨i0, hi, hz0, hz1, hz2⟩ := info_parts (by kernel_rfl : (Tryd.prog.info? 43).map (fun i => (i.zero, i.size, i.bytes)) = some (some (.agg (arr 32 fun _ => 0)), 32, 32))
  refine wpList_append_own_at _ hgd s x _ ho base 43 i0 _ 32 32 Tryd.underlying29 hi hz0 hz1 hz2 (by show (arr 32 fun _ => 0).size = 32; exact arr_size _ _) (by decide) v _ _ hs hown ⟨g, 0, none⟩ 1 1 (dat d).toList hx (by rw [Array.length_toList, dat_size]) (fun j u hj => by
      have e : (⟨g, 0, none⟩ : Addr).add j = ⟨g, j, none⟩ := by unfold Addr.add; split <;> simp_all
      rw [e, hX.cell, ← hj]; simp) (arr_one _ _) (by unfold maxLen; omega) (by omega) hbase ?_
  intro v' w' hown' hg _ _
  rw [← dcells_snoc] at hown'
  exact h v' w' (by rw [List.length_append]; exact hown') hg
end Go.Proofs.YtkogehkmldbhgaaDoor
