/- Texts that stand behind one another: RdS. No condition. -/
import Derived.Test.YteonmcconpfkjaaDoorQ11
import Derived.Test.YteonmcconpfkjaaDoorItoa
import Derived.Lib.LaidTab
import Derived.Stop.Asserts
/- The walks of codec's Refusal and of errors.Is at it. Condition: the table of strconv. -/
namespace Go.Proofs.YteonmcconpfkjaaDoor
open Go Go.RowKit
attribute [local irreducible] mixW
attribute [local go_sem] n8_lo n8_hi n64_lo n64_hi
/-- strconv's table -/
def Pz (w : World) : Prop := Lib.TabIs Tryd.prog w "internal/strconv.uint64pow10" .u64 Lib.pow10Tab
/-- a text that is not empty -/
def Txt (v : Value) : Prop := ∃ l : List UInt8, v = strV l ∧ 0 < l.length ∧ l.length ≤ 1000
theorem txt_const (l : List UInt8) (h : 0 < l.length) (h2 : l.length ≤ 1000) : Txt (.string ⟨l.toArray⟩) := ⟨l, rfl, h, h2⟩
theorem own_nilRow (w : World) (base : Nat) : w.ownsRow base 5 1 (.slice none 0 0) ([] : List Value).length [] := World.ownsRow_nil _ _ _ _
set_option maxHeartbeats 2000000 in
set_option maxRecDepth 100000 in
theorem errnoText_any (k : Nat) (hk : k ≤ 30) (w : World) : Calls Tryd.prog 166 #[.int .i64 (k : Int)] w fun e w' => ∃ v, e = .returned v ∧ Txt v ∧ Below w.heap.size w w' := by
  obtain ⟨i0, hi, hz0, hz1, hz2⟩ := info_parts (by kernel_rfl : (Tryd.prog.info? 5).map (fun i => (i.zero, i.size, i.bytes)) = some (some (.int .u8 0), 1, 1))
  by_cases h0 : k = 0
  · subst h0
    go_enter Tryd.func166, Tryd.ntmps166
    go_wp2_with fail
    go_ret
    exact ⟨_, rfl, txt_const _ (by decide) (by decide), Below.refl _ _⟩
  by_cases h1 : k = 1
  · subst h1
    go_enter Tryd.func166, Tryd.ntmps166
    go_wp2_with fail
    go_ret
    exact ⟨_, rfl, txt_const _ (by decide) (by decide), Below.refl _ _⟩
  by_cases h20 : k = 20
  · subst h20
    go_enter Tryd.func166, Tryd.ntmps166
    go_wp2_with fail
    go_ret
    exact ⟨_, rfl, txt_const _ (by decide) (by decide), Below.refl _ _⟩
  by_cases h21 : k = 21
  · subst h21
    go_enter Tryd.func166, Tryd.ntmps166
    go_wp2_with fail
    go_ret
    exact ⟨_, rfl, txt_const _ (by decide) (by decide), Below.refl _ _⟩
  by_cases h22 : k = 22
  · subst h22
    go_enter Tryd.func166, Tryd.ntmps166
    go_wp2_with fail
    go_ret
    exact ⟨_, rfl, txt_const _ (by decide) (by decide), Below.refl _ _⟩
  have e0 : ((k : Int) == 0) = false := by simp; omega
  have e1 : ((k : Int) == 1) = false := by simp; omega
  have e20 : ((k : Int) == 20) = false := by simp; omega
  have e21 : ((k : Int) == 21) = false := by simp; omega
  have e22 : ((k : Int) == 22) = false := by simp; omega
  clear h0 h1 h20 h21 h22
  go_enter Tryd.func166, Tryd.ntmps166
  go_wp2_with fail
  go_loopg [3, 4] 40 (fun gk nv bv wr => ∃ (n : Nat) (bs : List UInt8), n + bs.length ≤ 31 ∧ n + (if bs.length = 0 then 1 else 0) ≤ gk ∧ nv = .int .i64 n ∧ wr.ownsRow w.heap.size 5 1 bv (bs.map v8).length (bs.map v8) ∧ Below w.heap.size w wr)
  case atStart => exact ⟨k, [], by simp; omega, by simp; omega, rfl, own_nilRow _ _, Below.refl _ _⟩
  case round =>
    obtain ⟨n, bs, hnb, hgk, rfl, hown, hb⟩ := hrel
    rw [List.length_map] at hown
    obtain ⟨A, c, rfl⟩ := own_slice hown
    obtain ⟨x, hx⟩ : ∃ x : UInt8, n8 x = 48 + (n : Int) % 10 := ⟨UInt8.ofNat (48 + n % 10), by unfold n8; rw [UInt8.toNat_ofNat']; omega⟩
    have hn1 := below_new1 wr (Obj.cells #[.int .u8 (n8 x)] 5)
    have hlit : (wr.alloc (Obj.cells #[.int .u8 (n8 x)] 5)).ownsRow wr.heap.size 5 1 (.slice (some ⟨wr.heap.size, 0, none⟩) 1 1) ([v8 x] : List Value).length [v8 x] := ⟨rfl, .inr ⟨wr.heap.size, 1, #[v8 x], rfl, Nat.le_refl _, heap_alloc_new wr _, Nat.le_refl _, by decide, rfl, rfl⟩⟩
    have hrd := Reads.of_own (own_below hown hn1)
    have HF := Lib.hid (And.intro hown (And.intro hb (And.intro hlit (And.intro hrd hn1))))
    have hsz := hb.size
    have hsz1 := hn1.size
    clear hown hb hlit hrd hn1
    by_cases hgo : 0 < n ∨ bs.length = 0
    · have hm : n / 10 < n + (if bs.length = 0 then 1 else 0) := by
        rcases hgo with h | h
        · omega
        · rw [if_pos h]; omega
      have hgk' := hgk
      have HM := Lib.hid (And.intro hm hgk)
      have Hs1 := Lib.hid (show ([v8 x] : List Value).length + bs.length ≤ maxLen by unfold maxLen; simp only [List.length_cons, List.length_nil]; omega)
      have Hs2 := Lib.hid (show (([v8 x] : List Value).length + bs.length) * 1 ≤ 140737488355328 by simp only [List.length_cons, List.length_nil]; omega)
      have Hs3 := Lib.hid hnb
      have e10 : (n : Int) % 10 = ((n % 10 : Nat) : Int) := by omega
      clear hgk hm hgk'
      by_cases hn : n = 0
      · subst hn
        have hmm : 0 + bs.length ≤ 31 := hnb
        have hl1 : ((bs.length : Int) == 0) = true := by rw [beq_iff_eq]; omega
        have Hs4 := Lib.hid (show bs.length = 0 by omega)
        have hx0 : n8 x = 48 := by rw [hx]; rfl
        rw [hx0] at HF
        clear hgo
        go_upto_region 17 with fail
        go_wp2_with (first | (at_builtin; refine wpList_appendR rfl (.tmp 30) (.tmp 31) _ rfl wr.heap.size 5 i0 _ 1 Tryd.underlying22 hi hz0 hz1 hz2 rfl _ [v8 x] rfl HF.out.2.2.1 _ A bs.length c (bs.map v8) rfl HF.out.2.2.2.1 (by simp) (oneCell_v8 bs) Hs1.out Hs2.out HF.out.2.2.2.2.size ?_; intro v' w2 hown2 hg2 hat2))
        have hrel2 : ∃ (n' : Nat) (bs' : List UInt8), n' + bs'.length ≤ 31 ∧ n' + (if bs'.length = 0 then 1 else 0) ≤ gk - 1 ∧ Value.int .i64 0 = .int .i64 n' ∧ w2.ownsRow w.heap.size 5 1 v' (bs'.map v8).length (bs'.map v8) ∧ Below w.heap.size w w2 := by
          refine ⟨0, x :: bs, by have := Hs4.out; simp only [List.length_cons]; omega, ?_, rfl, own_baseR hown2 hsz, ?_⟩
          · have := HM.out
            simp only [List.length_cons, Nat.succ_ne_zero, if_false]
            omega
          · exact HF.out.2.1.trans ((below_own HF.out.2.2.2.2 HF.out.2.2.1 hg2 HF.out.2.2.2.2.size).mono hsz)
        have HR := Lib.hid hrel2
        have hgk : 0 < gk := by have := HM.out; omega
        clear hrel2 hown2 hg2 hat2 HF HM
        go_roundg (gk - 1)
        case measure => omega
        case rel => exact HR.out
      · have hn0 : decide ((0:Int) < (n : Int)) = true := by simp; omega
        clear hgo
        go_upto_region 17 with fail
        have hq0 : (0:Int) ≤ (n : Int) % 10 ∧ (n : Int) % 10 < 10 := by omega
        clear e10
        rw [hx] at HF
        go_wp2_with (first | (at_builtin; refine wpList_appendR rfl (.tmp 30) (.tmp 31) _ rfl wr.heap.size 5 i0 _ 1 Tryd.underlying22 hi hz0 hz1 hz2 rfl _ [v8 x] rfl HF.out.2.2.1 _ A bs.length c (bs.map v8) rfl HF.out.2.2.2.1 (by simp) (oneCell_v8 bs) Hs1.out Hs2.out HF.out.2.2.2.2.size ?_; intro v' w2 hown2 hg2 hat2))
        have hrel2 : ∃ (n' : Nat) (bs' : List UInt8), n' + bs'.length ≤ 31 ∧ n' + (if bs'.length = 0 then 1 else 0) ≤ gk - 1 ∧ Value.int .i64 ((n : Int) / 10) = .int .i64 n' ∧ w2.ownsRow w.heap.size 5 1 v' (bs'.map v8).length (bs'.map v8) ∧ Below w.heap.size w w2 := by
          refine ⟨n / 10, x :: bs, by have := Hs3.out; simp only [List.length_cons]; omega, ?_, by congr 1, own_baseR hown2 hsz, ?_⟩
          · have := HM.out
            simp only [List.length_cons, Nat.succ_ne_zero, if_false]
            omega
          · exact HF.out.2.1.trans ((below_own HF.out.2.2.2.2 HF.out.2.2.1 hg2 HF.out.2.2.2.2.size).mono hsz)
        have HR := Lib.hid hrel2
        have hgk : 0 < gk := by have := HM.out; omega
        clear hrel2 hown2 hg2 hat2 HF HM
        go_roundg (gk - 1)
        case measure => omega
        case rel => exact HR.out
    · have hz : n = 0 ∧ bs.length ≠ 0 := by omega
      obtain ⟨rfl, hl0⟩ := hz
      have hl1 : ((bs.length : Int) == 0) = false := by rw [beq_eq_false_iff_ne]; omega
      have hbs : bs.length ≤ 31 := by omega
      clear hgo hgk hl0
      go_wp2_with (first
        | (refine wpList_strA rfl (.tmp 35) rfl _ bs _ rfl (BSl.of_own HF.out.1) ?_)
        | (refine wpList_addStr rfl (.const (.string _)) (.tmp 36) _ rfl [114, 101, 102, 117, 115, 97, 108, 32] bs rfl rfl (by simp; omega) ?_))
      go_ret
      exact ⟨_, rfl, txt_const _ (by simp) (by simp; omega), HF.out.2.1⟩
end Go.Proofs.YteonmcconpfkjaaDoor
