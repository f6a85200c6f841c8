/- Texts that stand behind one another: CmpB. No condition. -/
import Derived.Test.YtkogehkmldbhgaaDoorP7
/- The walks of compact.Blocks and of the reference's Blocks. Condition: the library's table. -/
namespace Go.Proofs.YtkogehkmldbhgaaDoor
open Go Go.RowKit
attribute [local go_sem] n8_lo n8_hi n64_lo n64_hi n32_lo n32_hi
/-- the blocks that are told -/
def toldL (a e : Nat) : List Nat := if e ≤ 4294967296 then blocksL a e else []
theorem toldL_nil {a e : Nat} (h : e ≤ a ∨ 4294967296 < e) : toldL a e = [] := by
  unfold toldL
  split
  · exact blocksL_nil (by omega)
  · rfl
theorem toldL_le (a e : Nat) : (toldL a e).length ≤ 64 := by
  unfold toldL
  split
  · exact blocks_many 32 (by decide) (by omega)
  · exact Nat.zero_le _
theorem p2_int (j : Nat) : ((2 : Int) ^ j) = ((2 ^ j : Nat) : Int) := by simp
theorem p2_half (j : Nat) : 2 ^ (j + 1) / 2 = 2 ^ j := by rw [p2_succ]; omega
set_option maxHeartbeats 400000 in
set_option maxRecDepth 100000 in
theorem blocks_any (b e : Nat) (hb : b < 18446744073709551616) (he : e < 18446744073709551616) (w : World) (hT : Tz w) :
    Calls Tryd.prog 10 #[.int .u64 b, .int .u64 e] w fun x w' => ∃ v, x = .returned v ∧ OwnU w' w.heap.size v (toldL b e) ∧ Below w.heap.size w w' := by
  by_cases hno : e ≤ b ∨ 4294967296 < e
  · rw [toldL_nil hno]
    by_cases h1 : e ≤ b
    · have h1' : (e : Int) ≤ (b : Int) := by omega
      clear hno
      go_enter Tryd.func10, Tryd.ntmps10
      go_wp2_with fail
      go_step3
      go_wp2_with fail
      try rw [Exit.noGoto_ret]
      go_ret
      exact ⟨_, rfl, OwnU.nil _ _, Below.refl _ _⟩
    · have h1' : ¬ ((e : Int) ≤ (b : Int)) := by omega
      have h2' : (4294967296 : Int) < (e : Int) := by omega
      clear hno
      go_enter Tryd.func10, Tryd.ntmps10
      go_wp2_with fail
      go_step3
      go_wp2_with fail
      try rw [Exit.noGoto_ret]
      go_ret
      exact ⟨_, rfl, OwnU.nil _ _, Below.refl _ _⟩
  · have h1' : ¬ ((e : Int) ≤ (b : Int)) := by omega
    have h2' : ¬ ((4294967296 : Int) < (e : Int)) := by omega
    have hbe : b < e := by omega
    have hE : e ≤ 4294967296 := by omega
    have ht : toldL b e = blocksL b e := if_pos hE
    rw [ht]
    clear hno ht
    go_enter Tryd.func10, Tryd.ntmps10
    go_wp2_with fail
    go_step3
    go_wp2_with fail
    go_step3
    go_wp2_with fail
    clear h1' h2'
    go_loopw [0, 5, 6] (fun va v _ wr => ∃ (a : Nat) (ns : List Nat), va = .int .u64 a ∧ b ≤ a ∧ a ≤ e ∧ ns ++ blocksL a e = blocksL b e ∧ OwnU wr w.heap.size v ns ∧ Below w.heap.size w wr) (fun va _ _ _ => e - (intOf va).toNat)
    case atStart => exact ⟨b, [], rfl, Nat.le_refl _, Nat.le_of_lt hbe, rfl, OwnU.nil _ _, Below.refl _ _⟩
    case round =>
      obtain ⟨a, ns, rfl, hba, hae, hns, hown, hbel⟩ := hrel
      by_cases hlt : a < e
      case neg =>
        have hlt' : ¬ ((a : Int) < (e : Int)) := by omega
        obtain rfl : a = e := by omega
        rw [blocksL_nil (Nat.le_refl _), List.append_nil] at hns
        subst hns
        go_wp2_with fail
        try rw [Exit.noGoto_ret]
        go_ret
        exact ⟨_, rfl, hown, hbel⟩
      have hlt' : (a : Int) < (e : Int) := by omega
      go_wp2_with fail
      refine (tz_any a (by omega) _ (hT.next hbel)).mono ?_
      rintro x _ ⟨k, rfl, rfl, hk, hkd, hkm⟩
      have hm : min (k : Int) 32 = ((min k 32 : Nat) : Int) := by omega
      have hj : min k 32 ≤ 32 := by omega
      obtain ⟨hj1, hj2⟩ : 2 ^ (min k 32) ∣ a ∧ ∀ i, i ≤ 32 → 2 ^ i ∣ a → i ≤ min k 32 := ⟨Nat.dvd_trans (p2_dvd (by omega)) hkd, fun i hi hd => by have := hkm i (by omega) hd; omega⟩
      generalize min k 32 = j at hm hj hj1 hj2
      clear hkd hkm
      have hj64 : 2 ^ j ≤ 2 ^ 32 := Nat.pow_le_pow_right (by decide) hj
      have hsh : IntKind.u64.wrap ((2 : Int) ^ j) = ((2 ^ j : Nat) : Int) := by
        rw [p2_int]; exact IntWalk.u64_in _ (by omega)
      have hjm : ∀ i, 2 ^ i ∣ a → a + 2 ^ i ≤ e → i ≤ j := fun i h1 h2 => hj2 i (p2_le (by omega)) h1
      obtain ⟨N0, hN0⟩ : ∃ N, 2 ^ j = N := ⟨_, rfl⟩
      rw [hN0] at hsh
      go_wp2_with fail
      have HF := Lib.hid (And.intro hown (And.intro hns (And.intro hj1 (And.intro hjm hN0))))
      have hj64' : N0 ≤ 4294967296 := by omega
      clear hsh hm hj hj64 hown hns hj2 hj1 hjm hN0
      obtain ⟨wa, rfl⟩ : ∃ wa, wa = wr := ⟨_, rfl⟩
      go_loopw [6] (fun v wr => ∃ i N : Nat, v = .int .u64 N ∧ N ≤ 4294967296 ∧ 2 ^ i = N ∧ 2 ^ i ∣ a ∧ (∀ n, 2 ^ n ∣ a → a + 2 ^ n ≤ e → n ≤ i) ∧ wa = wr) (fun v _ => (intOf v).toNat)
      case atStart => exact ⟨j, N0, rfl, hj64', HF.out.2.2.2.2, HF.out.2.2.1, HF.out.2.2.2.1, rfl⟩
      case round =>
        obtain ⟨i, N, rfl, hNle, hN, hi1, hi2, rfl⟩ := hrel
        have hNp : 1 ≤ N := by rw [← hN]; exact p2_pos i
        have hsub : IntKind.u64.wrap ((e : Int) - (a : Int)) = (e : Int) - a := IntWalk.u64_in _ (by omega)
        by_cases hgt : e - a < N
        · have hgt' : (e : Int) - a < N := by omega
          have hi0 : 1 ≤ i := by
            rcases Nat.eq_zero_or_pos i with h0 | h0
            · subst h0; simp at hN; omega
            · exact h0
          have hN2 : 2 ^ (i - 1) = N / 2 := by rw [← hN, ← p2_half, Nat.sub_add_cancel hi0]
          have hi3 : 2 ^ (i - 1) ∣ a := Nat.dvd_trans (p2_dvd (Nat.sub_le i 1)) hi1
          have hi4 : ∀ n, 2 ^ n ∣ a → a + 2 ^ n ≤ e → n ≤ i - 1 := fun n h1 h2 => by
            have h3 := hi2 n h1 h2
            rcases Nat.lt_or_ge n i with h4 | h4
            · omega
            · have : n = i := by omega
              subst this; omega
          have HG := Lib.hid (And.intro hN2 (And.intro hi3 hi4))
          have hshr : (N : Int).fdiv (2 ^ min (Int.toNat 1) IntKind.u64.bits) = ((N / 2 : Nat) : Int) := by
            rw [show (2 : Int) ^ min (Int.toNat 1) IntKind.u64.bits = 2 from rfl, Int.fdiv_eq_ediv_of_nonneg _ (by decide)]; omega
          clear hN hi1 hi2 hN2 hi3 hi4 hi0
          go_wp2_with (simp only [hshr])
          go_roundw
          case rel => exact ⟨i - 1, N / 2, rfl, by omega, HG.out.1, HG.out.2.1, HG.out.2.2, trivial⟩
          case measure => simp [intOf]; omega
        · have hgt' : ¬ ((e : Int) - a < N) := by omega
          have hb : IsBlk a e i := ⟨hi1, by omega, hi2⟩
          have HG := Lib.hid (And.intro hN hb)
          have hNe : a + N ≤ e := by omega
          have hadd : IntKind.u64.wrap ((a : Int) + N) = ((a + N : Nat) : Int) := by
            rw [IntWalk.u64_in _ (by omega)]; omega
          have hns64 := HF.out.2.1
          have hlen : ns.length ≤ 64 := by
            have h1 := blocks_many 32 (by decide) (a := b) (e := e) (by omega)
            rw [← hns64, List.length_append] at h1
            omega
          have hown := HF.out.1
          have hbs := hbel.size
          clear hN hi1 hi2 hb hns64 hgt
          go_wp2_with (first
            | (at_builtin; go_loud (refine wpList_appendU rfl (.tmp 28) (.tmp 30) rfl w.heap.size _ ns rfl hown N rfl (by omega) hbs w hbel ?_); intro u9 w9 hown9 hb9))
          refine ⟨⟨a + N, by omega, by omega, by omega, ns ++ [N], ?_, hown9⟩, by simp only [intOf]; omega⟩
          rw [← HF.out.2.1, blocksL_cons HG.out.2, HG.out.1, List.append_assoc]
          rfl
set_option maxHeartbeats 400000 in
set_option maxRecDepth 100000 in
theorem rblocks_any (b e : Nat) (hb : b < 18446744073709551616) (he : e < 18446744073709551616) (w : World) :
    Calls Tryd.prog 26 #[.int .u64 b, .int .u64 e] w fun x w' => ∃ v, x = .returned v ∧ OwnU w' w.heap.size v (toldL b e) ∧ Below w.heap.size w w' := by
  by_cases h2 : 4294967296 < e
  · rw [toldL_nil (.inr h2)]
    have h2' : (4294967296 : Int) < (e : Int) := by omega
    go_enter Tryd.func26, Tryd.ntmps26
    go_wp2_with fail
    go_ret
    exact ⟨_, rfl, OwnU.nil _ _, Below.refl _ _⟩
  · have h2' : ¬ ((4294967296 : Int) < (e : Int)) := by omega
    have hE : e ≤ 4294967296 := by omega
    have ht : toldL b e = blocksL b e := if_pos hE
    rw [ht]
    clear h2 ht
    go_enter Tryd.func26, Tryd.ntmps26
    go_wp2_with fail
    clear h2'
    go_loopw [5, 6, 7] (fun v va _ wr => ∃ (a : Nat) (ns : List Nat), va = .int .u64 a ∧ b ≤ a ∧ (a ≤ e ∨ a = b) ∧ ns ++ blocksL a e = blocksL b e ∧ OwnU wr w.heap.size v ns ∧ Below w.heap.size w wr) (fun _ va _ _ => e - (intOf va).toNat)
    case atStart => exact ⟨b, [], rfl, Nat.le_refl _, .inr rfl, rfl, OwnU.nil _ _, Below.refl _ _⟩
    case round =>
      obtain ⟨a, ns, rfl, hba, hae, hns, hown, hbel⟩ := hrel
      by_cases hlt : a < e
      case neg =>
        have hlt' : ¬ ((a : Int) < (e : Int)) := by omega
        rw [blocksL_nil (by omega), List.append_nil] at hns
        subst hns
        go_wp2_with fail
        go_ret
        exact ⟨_, rfl, hown, hbel⟩
      have hlt' : (a : Int) < (e : Int) := by omega
      clear hae
      go_wp2_with fail
      have HF := Lib.hid (And.intro hown hns)
      clear hown hns
      obtain ⟨wa, rfl⟩ : ∃ wa, wa = wr := ⟨_, rfl⟩
      go_loopw [7] (fun v wr => ∃ i N : Nat, v = .int .u64 N ∧ N ≤ 4294967296 ∧ 2 ^ i = N ∧ 2 ^ i ∣ a ∧ a + N ≤ e ∧ wa = wr) (fun v _ => e - (intOf v).toNat)
      case atStart => exact ⟨0, 1, rfl, by omega, rfl, Nat.one_dvd _, by omega, rfl⟩
      case round =>
        obtain ⟨i, N, rfl, hNle, hN, hi1, hi2, rfl⟩ := hrel
        have hNp : 1 ≤ N := by rw [← hN]; exact p2_pos i
        have hmul : IntKind.u64.wrap (2 * (N : Int)) = 2 * (N : Int) := IntWalk.u64_in _ (by omega)
        have hne : ((2 * (N : Int)) == 0) = false := by simp; omega
        have hrem : (a : Int).tmod (2 * (N : Int)) = ((a % (2 * N) : Nat) : Int) := by
          rw [show 2 * (N : Int) = ((2 * N : Nat) : Int) by omega, Int.tmod_eq_emod_of_nonneg (by omega)]; rfl
        have hadd : IntKind.u64.wrap ((a : Int) + 2 * (N : Int)) = (a : Int) + 2 * (N : Int) := IntWalk.u64_in _ (by omega)
        by_cases hmore : 2 * N ∣ a ∧ a + 2 * N ≤ e
        · have hr0 : a % (2 * N) = 0 := Nat.mod_eq_zero_of_dvd hmore.1
          have hle' : (a : Int) + 2 * (N : Int) ≤ (e : Int) := by have := hmore.2; omega
          have hp : 2 ^ (i + 1) = 2 * N := by rw [p2_succ, hN]
          have HG := Lib.hid (And.intro hp hmore)
          rw [hr0] at hrem
          have hN64 : 2 * N ≤ 4294967296 := by have := hmore.2; omega
          clear hN hi1 hi2 hmore hp
          go_wp2_with fail
          exact ⟨⟨i + 1, 2 * N, by go_num, hN64, HG.out.1, by rw [HG.out.1]; exact HG.out.2.1, HG.out.2.2, trivial⟩, by simp only [intOf]; omega⟩
        · have hb : IsBlk a e i := IsBlk.mk' hi1 (by rw [hN]; exact hi2) (by rw [hN]; exact hmore)
          have HG := Lib.hid (And.intro hN hb)
          have haddN : IntKind.u64.wrap ((a : Int) + N) = ((a + N : Nat) : Int) := by
            rw [IntWalk.u64_in _ (by omega)]; omega
          have hlen : ns.length ≤ 64 := by
            have h1 := blocks_many 32 (by decide) (a := b) (e := e) (by omega)
            rw [← HF.out.2, List.length_append] at h1
            omega
          have hown := HF.out.1
          have hbs := hbel.size
          have hcase : (¬ ((a % (2 * N) : Nat) : Int) = 0) ∨ (((a % (2 * N) : Nat) : Int) = 0 ∧ ¬ ((a : Int) + 2 * (N : Int) ≤ (e : Int))) := by
            by_cases hd : a % (2 * N) = 0
            · exact .inr ⟨by omega, fun hle => hmore ⟨Nat.dvd_of_mod_eq_zero hd, by omega⟩⟩
            · exact .inl (by omega)
          generalize ((a % (2 * N) : Nat) : Int) = r at hrem hcase
          clear hN hi1 hb hmore
          rcases hcase with hr | ⟨rfl, hr⟩
          all_goals
            go_wp2_with (first
              | (at_builtin; refine wpList_appendU rfl (.tmp 29) (.tmp 31) rfl w.heap.size _ ns rfl hown N rfl (by omega) hbs w hbel ?_; intro u9 w9 hown9 hb9))
            refine ⟨⟨a + N, ns ++ [N], by go_num, by omega, by omega, ?_, hown9, hb9⟩, by simp only [intOf]; omega⟩
            rw [← HF.out.2, blocksL_cons HG.out.2, HG.out.1]
            simp
end Go.Proofs.YtkogehkmldbhgaaDoor
