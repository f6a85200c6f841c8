/- Texts that stand behind one another: RefK, Merkle, Bits, MerkP, MerkR. No condition. -/
import Derived.Test.YtcdkadidkkbhpaaDoorS13
import Derived.ArgAppend
import Derived.Test.YtcdkadidkkbhpaaDoorS8
import Derived.Test.YtcdkadidkkbhpaaDoorS2
import Derived.Test.YtcdkadidkkbhpaaDoorS12
import Derived.Test.YtcdkadidkkbhpaaDoorS1
import Derived.Test.YtcdkadidkkbhpaaDoorChecked
import Derived.WalkKit
import Derived.Lib.Hide
import Derived.Lib.Strings
import Derived.Lib.Slices
import Derived.Lib.Small
import Derived.Lib.Walk
import Derived.Lib.BitFns
import Derived.Deep.Light
import Derived.Test.YtcdkadidkkbhpaaDoorS5
/- The walks of the references deponentref2 (Number) and deponentref11. No condition. -/
namespace Go.Proofs.YtcdkadidkkbhpaaDoor
open Go.RowKit
attribute [local go_sem] n8_lo n8_hi n64_lo n64_hi n32_lo n32_hi
theorem width_any (k : Int) (hk : -9223372036854775808 ≤ k ∧ k ≤ 9223372036854775807) (w : World) : Calls Tryd.prog 64 #[.int .i64 k] w fun e w' => e = .returned (.int .i64 (clamp8 k)) ∧ w = w' := by
  obtain ⟨h1, h2⟩ := hk
  have hc : clamp8 k = if k < 1 then 1 else if k > 8 then 8 else k.toNat := rfl
  by_cases a : k < 1
  · rw [if_pos a] at hc
    have Hc := Lib.hid hc
    clear hc
    go_enter Tryd.func64, Tryd.ntmps64
    go_wp2
    go_ret
    exact ⟨by rw [Hc.out]; rfl, rfl⟩
  · rw [if_neg a] at hc
    by_cases b : k > 8
    · rw [if_pos b] at hc
      have Hc := Lib.hid hc
      clear hc
      go_enter Tryd.func64, Tryd.ntmps64
      go_wp2
      go_ret
      exact ⟨by rw [Hc.out]; rfl, rfl⟩
    · rw [if_neg b] at hc
      have Hc := Lib.hid hc
      clear hc
      go_enter Tryd.func64, Tryd.ntmps64
      go_wp2
      go_ret
      exact ⟨by rw [Hc.out, Int.toNat_of_nonneg (by omega)]; rfl, rfl⟩
set_option maxHeartbeats 1000000 in
set_option maxRecDepth 100000 in
theorem rnumber_any (u : Value) (bs : List UInt8) (n : UInt64) (k : Int) (hk : -9223372036854775808 ≤ k ∧ k ≤ 9223372036854775807) (w : World) (hu : BSl w w.heap.size u bs) (hl : bs.length ≤ 140737488355264) :
    Calls Tryd.prog 46 #[u, .int .u64 (n64 n), .int .i64 k] w fun e w' => ∃ v, e = .returned v ∧ w'.ownsRow w.heap.size 5 1 v ((bs ++ numB n (clamp8 k)).map v8).length ((bs ++ numB n (clamp8 k)).map v8) ∧ Below w.heap.size w w' := by
  obtain ⟨A, c, rfl, h1, h2, hr⟩ := hu
  have s1 := clamp8_lo k
  have s8 := clamp8_hi k
  have hoe := own_emptyB w w.heap.size (Nat.le_refl _)
  have hb1 := below_new1 w (Obj.cells #[] 5)
  go_enter Tryd.func46, Tryd.ntmps46
  go_wp2_with (first
    | (at_builtin; refine wpList_appendS rfl (.tmp 9) (.tmp 10) rfl w.heap.size _ [] bs rfl hoe _ _ _ _ rfl rfl (hr.below hb1) (by simp; omega) hb1.size w hb1 ?_; intro u1 w1 hown1 hb2; simp only [List.nil_append] at hown1))
  clear hoe hb1
  refine (width_any k hk _).mono ?_
  rintro e w' ⟨rfl, rfl⟩
  obtain ⟨s, hs⟩ : ∃ s, clamp8 k = s := ⟨_, rfl⟩
  rw [hs] at s1 s8
  have Hs := Lib.hid hs
  rw [hs]
  clear hs
  have h0 := numTo_0 n s
  have hE := Lib.hid (numTo_end n s)
  have hS := Lib.hid (numTo_step n s)
  have hb0 := Lib.hid (byte_val n)
  go_wp2_with fail
  go_loopw [7, 8] (fun o iv wr => ∃ j : Nat, j ≤ s ∧ iv = .int .i64 ((j : Int) - 1) ∧ wr.ownsRow w.heap.size 5 1 o ((bs ++ numTo n s j).map v8).length ((bs ++ numTo n s j).map v8) ∧ Below w.heap.size w wr) (fun _ iv _ => ((intOf iv) + 1).toNat)
  case atStart => exact ⟨s, Nat.le_refl _, rfl, by rw [h0, List.append_nil]; exact hown1, hb2⟩
  case round =>
    clear hown1 hb2 h0 hr
    obtain ⟨j, hj, rfl, hown, hbel⟩ := hrel
    by_cases h0 : j = 0
    · subst h0
      have hd : decide ((0 : Int) ≤ ((0 : Nat) : Int) - 1) = false := by decide
      rw [hE.out] at hown
      go_wp2
      go_ret
      exact ⟨_, rfl, by rw [Hs.out]; exact hown, hbel⟩
    · obtain ⟨i, rfl⟩ : ∃ i, j = i + 1 := ⟨j - 1, by omega⟩
      have hi8 : i < 8 := by omega
      have hst := Lib.hid (hS.out i (by omega))
      have hbv := hb0.out i
      have hlt : (numTo n s (i + 1)).length ≤ 8 := by unfold numTo; rw [List.length_take, numB_length]; omega
      have hlen : ((bs ++ numTo n s (i + 1)).map v8).length + 1 ≤ 140737488355328 := by simp; omega
      have e8 : IntKind.i64.wrap (8 * (i : Int)) = ((8 * i : Nat) : Int) := by rw [IntWalk.i64_in _ (by omega)]; omega
      rw [show (((i + 1 : Nat) : Int) - 1) = (i : Int) by omega]
      have Hlen := Lib.hid hlen
      clear hlen
      have hsz := hbel.size
      go_wp2_with (first
        | (at_builtin; refine wpList_append1 rfl (.tmp 19) (.tmp 26) rfl w.heap.size _ _ rfl hown (.int .u8 (n8 (byteAt n i))) rfl rfl Hlen.out hsz w hbel ?_; intro u9 w9 hown9 hb9))
      rw [show (bs ++ numTo n s (i + 1)).map v8 ++ [Value.int .u8 (n8 (byteAt n i))] = (bs ++ numTo n s i).map v8 by rw [hst.out, ← List.append_assoc, List.map_append (l₁ := bs ++ numTo n s (i + 1))]; rfl] at hown9
      go_roundw
      case rel => exact ⟨i, by omega, rfl, hown9, hb9⟩
      case measure => simp [intOf]
theorem byte_of (x : Int) : [UInt8.ofNat (x % 256).toNat] = numB (i64u x) 1 := by
  unfold numB
  simp only [List.range_succ, List.range_zero, List.nil_append, List.map_cons, List.map_nil, byteAt]
  congr 1
  unfold i64u
  rw [UInt64.toNat_ofNat_of_lt' (by show _ < 18446744073709551616; omega)]
  apply UInt8.toNat_inj.1
  simp only [UInt8.toNat_ofNat']
  omega
theorem n8_of (x : Int) : x % 256 = n8 (UInt8.ofNat (x % 256).toNat) := by
  unfold n8; rw [UInt8.toNat_ofNat']; omega
theorem freeze_blk {V : World} {g : Nat} {t : TypeId} {cs : Array Value} (h : Blk V g t cs) (a : Addr) (hne : g ≠ a.block) (n : Nat) : Blk (V.freeze a n) g t cs := by
  unfold Blk at *
  unfold World.freeze
  split
  · exact h
  · rw [Array.getElem?_modify, if_neg (fun e => hne e.symm)]; exact h
/-- append of one byte, out of a slice literal, onto a full slice of marked bytes -/
theorem wpList_appendFull {wr : World} {ops : Array Oper} {rest : List Oper} {o : Oper} {a : Act} {Q : Exit → Act → World → Prop} (hgd : o.guard = none) (s x : Operand)
    (ho : o.op = .call { callee := .builtin .append, args := #[s, x], argTypes := #[23, 23] })
    (g n : Nat) (bs : List UInt8) (hn : bs.length = n) (hg : Lit wr g bs) (hs : a.eval s = .slice (some ⟨g, 0, none⟩) n n) (b : UInt8)
    (hx : a.eval x = .slice (some ⟨wr.heap.size, 0, none⟩) 1 1) (hl : n ≤ 140737488355264)
    (h : ∀ v' w', w'.ownsRow wr.heap.size 5 1 v' ((bs ++ [b]).map v8).length ((bs ++ [b]).map v8) → Below wr.heap.size wr w' → wpList Tryd.prog ops Q rest (a.put o.dst v') w') :
    wpList Tryd.prog ops Q (o :: rest) a (wr.alloc (Obj.cells #[.int .u8 (n8 b)] 5)) := by
  subst hn
  obtain ⟨i0, hi, hz0, hz1, hz2⟩ := info_parts (by kernel_rfl : (Tryd.prog.info? 5).map (fun i => (i.zero, i.size, i.bytes)) = some (some (.int .u8 0), 1, 1))
  have hg1 := hg.alloc (Obj.cells #[.int .u8 (n8 b)] 5)
  obtain ⟨t, fr, hg1⟩ := hg1
  refine wpList_append_arg _ hgd s x _ ho 5 i0 _ 1 1 Tryd.underlying23 hi hz0 hz1 hz2 rfl (by decide) g 0 bs.length bs.length (bs.map v8) hs (by simp) (fun j u hu => by rw [Nat.zero_add, cell_of_row _ g j _ t fr hg1, ← hu]; simp) ⟨wr.heap.size, 0, none⟩ 1 1 [.int .u8 (n8 b)] hx rfl ?_ ?_ (fun hh => by omega) (by unfold maxLen; omega) (by omega) (fun hh => by omega) ?_
  · intro j u hj
    have hB := Blk.new wr 5 #[.int .u8 (n8 b)]
    have : j = 0 := by cases j with
      | zero => rfl
      | succ j => simp at hj
    subst this
    have e : (⟨wr.heap.size, 0, none⟩ : Addr).add 0 = ⟨wr.heap.size, 0, none⟩ := by simp [Addr.add]
    rw [e, hB.cell, ← hj]; simp
  · intro u hu; rw [List.mem_singleton] at hu; subst hu; rfl
  · intro _ v' w' hown hgr
    have hb : Below wr.heap.size wr w' := by
      have h1 := below_new1 wr (Obj.cells #[.int .u8 (n8 b)] 5)
      exact ⟨hgr.os.trans h1.os, hgr.tape.trans h1.tape, hgr.output.trans h1.output, Nat.le_trans h1.size hgr.size, fun k hk => (hgr.block k (Nat.lt_of_lt_of_le hk h1.size) (by simp)).trans (h1.block k hk)⟩
    have e1 : bs.map v8 ++ [Value.int .u8 (n8 b)] = (bs ++ [b]).map v8 := by rw [List.map_append]; rfl
    have e2 : bs.length + 1 = ((bs ++ [b]).map v8).length := by simp
    rw [e1, e2] at hown
    refine h v' w' ⟨hown.1, ?_⟩ hb
    rcases hown.2 with h0 | ⟨g', cap, cur, h1, h2, h3⟩
    · exact .inl h0
    · exact .inr ⟨g', cap, cur, h1, Nat.le_trans (below_new1 wr _).size h2, h3⟩
set_option maxHeartbeats 400000 in
set_option maxRecDepth 100000 in
theorem rkey_any (t u : Value) (seed : List UInt8) (tree epoch : Int) (draw : UInt32) (w : World) (hT : Tbl w w.heap.size t) (hu : BSl w w.heap.size u seed) (hl : seed.length ≤ 140737488355128)
    (ht : -9223372036854775808 ≤ tree ∧ tree ≤ 9223372036854775807) (he : -9223372036854775808 ≤ epoch ∧ epoch ≤ 9223372036854775807) :
    Calls Tryd.prog 69 #[t, u, .int .i64 tree, .int .i64 epoch, .int .u32 (n32 draw)] w fun e w' => e = .returned (.agg (dat (keyL' seed tree epoch draw))) ∧ Below w.heap.size w w' := by
  obtain ⟨ht1, ht2⟩ := ht
  obtain ⟨he1, he2⟩ := he
  obtain ⟨tb, v1, htb⟩ : ∃ tb : UInt8, tree % 256 = n8 tb ∧ Hid ([tb] = numB (i64u tree) 1) := ⟨UInt8.ofNat (tree % 256).toNat, n8_of tree, Lib.hid (byte_of tree)⟩
  have v1' : IntKind.u8.wrap tree = n8 tb := (IntKind.wrap_u8 tree).trans v1
  have v2 := Lib.hid ((wrap_u64' epoch).trans (i64u_val epoch))
  have hD := Blk.new w 38 (arr 32 fun _ => 0)
  have hb0 := below_new1 w (Obj.cells (arr 32 fun _ => 0) 38)
  have hL : Lit ((w.alloc (Obj.cells (arr 32 fun _ => 0) 38)).alloc (Obj.cells #[.int .u8 107, .int .u8 101, .int .u8 121] 5)) (w.heap.size + 1) keyTxt := by
    have := Lit.new (w.alloc (Obj.cells (arr 32 fun _ => 0) 38)) keyTxt 5
    rwa [show (w.alloc (Obj.cells (arr 32 fun _ => 0) 38)).heap.size = w.heap.size + 1 by simp] at this
  have hD2 := hD.alloc (Obj.cells #[.int .u8 107, .int .u8 101, .int .u8 121] 5)
  have hb2 := hb0.alloc hb0.size (Obj.cells #[.int .u8 107, .int .u8 101, .int .u8 121] 5)
  clear hD hb0
  go_enter Tryd.func69, Tryd.ntmps69
  go_wp2_with (first
    | (refine wpList_convSelf rfl _ 5 (.tmp 12) rfl Tryd.underlying23 Tryd.underlying5 (w.heap.size + 1) 3 3 rfl keyTxt hL ?_; intro kk; have hL := hL.freeze ⟨w.heap.size + 1, kk, none⟩ 1; have hD3 := freeze_blk hD2 ⟨w.heap.size + 1, kk, none⟩ (by show _ ≠ w.heap.size + 1; omega) 1; have hb3 := below_freeze hb2 ⟨w.heap.size + 1, kk, none⟩ (by show _ ≤ w.heap.size + 1; omega) 1; refine wpl_at (fun W => Blk W w.heap.size 38 (arr 32 fun _ => 0) ∧ Lit W (w.heap.size + 1) keyTxt ∧ Below w.heap.size w W) ⟨hD3, hL, hb3⟩ ?_; clear hD2 hL hb2 hD3 hb3; rintro W ⟨hD, hL, hbel⟩)
    | (at_builtin; refine wpList_appendFull rfl (.tmp 13) (.tmp 16) rfl (w.heap.size + 1) 3 keyTxt rfl hL rfl tb rfl (by decide) ?_; intro u1 w1 hown1 hb1))
  have hD1 := hD.below hb1 hD.lt
  have hbel1 := hbel.trans (hb1.mono hbel.size)
  have hB1 := BSl.of_own hown1
  clear hown1 hb1 hL hD hbel
  rw [v2.out]
  refine (rnumber_any u1 (keyTxt ++ [tb]) (i64u epoch) 4 (by decide) w1 hB1 (by simp [keyTxt])).mono ?_
  rintro e w2 ⟨u2, rfl, hown2, hb2⟩
  rw [show clamp8 4 = 4 from rfl] at hown2
  have hD2 := hD1.below hb2 hD1.lt
  have hbel2 := hbel1.trans (hb2.mono hbel1.size)
  have hB2 := BSl.of_own hown2
  clear hown2 hb2 hB1 hD1 hbel1
  go_wp2_with fail
  rw [show IntKind.u64.wrap (n32 draw) = n64 draw.toUInt64 from (wrap_u64' _).trans (cv32_64 draw)]
  refine (rnumber_any u2 _ draw.toUInt64 4 (by decide) w2 hB2 (by simp [keyTxt, numB_length])).mono ?_
  rintro e w3 ⟨u3, rfl, hown3, hb3⟩
  rw [show clamp8 4 = 4 from rfl] at hown3
  have hD3 := hD2.below hb3 hD2.lt
  have hbel3 := hbel2.trans (hb3.mono hbel2.size)
  have hB3 := BSl.of_own hown3
  clear hown3 hb3 hB2 hD2 hbel2
  have hkd : keyTxt ++ [tb] ++ numB (i64u epoch) 4 ++ numB draw.toUInt64 4 = keyB tree epoch draw := by rw [htb.out]; simp [keyB]
  rw [hkd] at hB3
  have Hkl := Lib.hid (keyB_length tree epoch draw)
  clear hkd
  go_wp2_with fail
  refine (rmac_any t u u3 seed (keyB tree epoch draw) w3 (by obtain ⟨g, rfl, hg, hT⟩ := hT; exact ⟨g, rfl, Nat.lt_of_lt_of_le hg hbel3.size, hT.below hbel3 hg⟩) (hu.next hbel3) hB3 hl (by rw [Hkl.out]; decide)).mono ?_
  rintro e w4 ⟨rfl, hb4⟩
  have hD4 := hD3.below hb4 hD3.lt
  have hbel4 := hbel3.trans (hb4.mono hbel3.size)
  clear hb4 hB3 hD3 hbel3
  go_wp2_with (first
    | (refine wpList_storeDat rfl rfl 38 (.tmp 10) (.tmp 28) rfl w.heap.size rfl _ _ rfl _ hD4 (by kernel_rfl) ?_; intro w10 hD10 hon10))
  have hb10 := below_only hbel4 hon10 (Nat.le_refl _) hbel4.size
  exact bodyPost_ret (results_cell_row (p := 10) (ty := 38) rfl _ _ w.heap.size _ _ _ _ rfl hD10 Tryd.underlying38 rfl (by rw [dat_size]; kernel_rfl)) rfl ⟨rfl, hb10⟩
theorem head_root_reads {w : World} {g : Nat} {t : TypeId} {h : HeadL} (hB : Blk w g t (headC h)) (hr : h.root.length = 32) : Reads w w.heap.size (some ⟨g, 4, none⟩) (h.root.map v8) :=
  fun _ => ⟨g, 4, rfl, hB.lt, fun j u hu => head_range hB hr j u hu⟩
set_option maxHeartbeats 400000 in
set_option maxRecDepth 100000 in
theorem rbytes_any (h : HeadL) (hok : h.ok) (w : World) :
    Calls Tryd.prog 81 #[.agg (headC h)] w fun e w' => ∃ v, e = .returned v ∧ BSl w' w'.heap.size v (headB h) ∧ Below w.heap.size w w' := by
  obtain ⟨hr, ⟨ht1, ht2⟩, he1, he2⟩ := hok
  obtain ⟨tb, v1, htb⟩ : ∃ tb : UInt8, h.tree % 256 = n8 tb ∧ Hid ([tb] = numB (i64u h.tree) 1) := ⟨UInt8.ofNat (h.tree % 256).toNat, n8_of h.tree, Lib.hid (byte_of h.tree)⟩
  have v1' : IntKind.u8.wrap h.tree = n8 tb := (IntKind.wrap_u8 h.tree).trans v1
  have v2 := Lib.hid ((wrap_u64' h.epoch).trans (i64u_val h.epoch))
  have Hr := Lib.hid hr
  clear hr
  have hD := Blk.new w 40 (headC h)
  have hb0 := below_new1 w (Obj.cells (headC h) 40)
  have hL : Lit ((w.alloc (Obj.cells (headC h) 40)).alloc (Obj.cells #[.int .u8 104, .int .u8 101, .int .u8 97, .int .u8 100] 5)) (w.heap.size + 1) headTxt := by
    have := Lit.new (w.alloc (Obj.cells (headC h) 40)) headTxt 5
    rwa [show (w.alloc (Obj.cells (headC h) 40)).heap.size = w.heap.size + 1 by simp] at this
  have hD2 := hD.alloc (Obj.cells #[.int .u8 104, .int .u8 101, .int .u8 97, .int .u8 100] 5)
  have hb2 := hb0.alloc hb0.size (Obj.cells #[.int .u8 104, .int .u8 101, .int .u8 97, .int .u8 100] 5)
  clear hD hb0
  go_enter Tryd.func81, Tryd.ntmps81
  go_wp2_with (first
    | (refine wpList_convSelf rfl _ 5 (.tmp 4) rfl Tryd.underlying23 Tryd.underlying5 (w.heap.size + 1) 4 4 rfl headTxt hL ?_; intro kk; have hL := hL.freeze ⟨w.heap.size + 1, kk, none⟩ 1; have hD3 := freeze_blk hD2 ⟨w.heap.size + 1, kk, none⟩ (by show _ ≠ w.heap.size + 1; omega) 1; have hb3 := below_freeze hb2 ⟨w.heap.size + 1, kk, none⟩ (by show _ ≤ w.heap.size + 1; omega) 1; refine wpl_at (fun W => Blk W w.heap.size 40 (headC h) ∧ Lit W (w.heap.size + 1) headTxt ∧ Below w.heap.size w W ∧ W.cell? ⟨w.heap.size, 0, none⟩ = some (.int .i64 h.tree)) ⟨hD3, hL, hb3, by rw [hD3.cell]; exact headC_0 h⟩ ?_; clear hD2 hL hb2 hD3 hb3; rintro W ⟨hD, hL, hbel, c0⟩)
    | (at_builtin; refine wpList_appendFull rfl (.tmp 5) (.tmp 9) rfl (w.heap.size + 1) 4 headTxt rfl hL rfl tb rfl (by decide) ?_; intro u1 w1 hown1 hb1; have hD1 := hD.below hb1 hD.lt; have hbel1 := hbel.trans (hb1.mono hbel.size); have hB1 := BSl.of_own hown1; clear hown1 hb1 hL hD hbel c0; have c1 : w1.cell? ⟨w.heap.size, 1, none⟩ = some (.int .i64 h.epoch) := (by rw [hD1.cell]; exact headC_1 h)))
  rw [v2.out]
  refine (rnumber_any u1 _ (i64u h.epoch) 4 (by decide) w1 hB1 (by simp [headTxt, numB_length])).mono ?_
  rintro e w2 ⟨u2, rfl, hown2, hb2⟩
  rw [show clamp8 4 = 4 from rfl] at hown2
  have hD2 := hD1.below hb2 hD1.lt
  have hbel2 := hbel1.trans (hb2.mono hbel1.size)
  have hbz2 := hb2.size
  have hB2 := BSl.of_own hown2
  clear hb2 hB1 hD1 hbel1 c1
  have c2 : w2.cell? ⟨w.heap.size, 2, none⟩ = some (.int .u64 (n64 h.size)) := by rw [hD2.cell]; exact headC_2 h
  go_wp2_with fail
  refine (rnumber_any u2 _ (h.size) 8 (by decide) w2 hB2 (by simp [headTxt, numB_length])).mono ?_
  rintro e w3 ⟨u3, rfl, hown3, hb3⟩
  rw [show clamp8 8 = 8 from rfl] at hown3
  have hD3 := hD2.below hb3 hD2.lt
  have hbel3 := hbel2.trans (hb3.mono hbel2.size)
  have hbz3 := hb3.size
  have hz3 := hbel3.size
  have hB3 := BSl.of_own hown3
  clear hb3 hB2 hD2 hbel2 c2 hown2 hbz2
  have c3 : w3.cell? ⟨w.heap.size, 3, none⟩ = some (.int .u64 (n64 h.clock)) := by rw [hD3.cell]; exact headC_3 h
  go_wp2_with fail
  refine (rnumber_any u3 _ (h.clock) 8 (by decide) w3 hB3 (by simp [headTxt, numB_length])).mono ?_
  rintro e w4 ⟨u4, rfl, hown4, hb4⟩
  rw [show clamp8 8 = 8 from rfl] at hown4
  have hD4 := hD3.below hb4 hD3.lt
  have hbel4 := hbel3.trans (hb4.mono hbel3.size)
  have hbz4 := hb4.size
  have hB4 := BSl.of_own hown4
  clear hb4 hB3 hD3 hbel3 c3 hown3 hbz3
  have hrd := head_root_reads hD4 Hr.out
  go_wp2_with (first
    | (at_builtin; refine wpList_appendS rfl (.tmp 24) (.tmp 26) rfl w3.heap.size _ _ h.root rfl hown4 _ _ _ _ rfl Hr.out hrd (by rw [Hr.out]; simp [headTxt, numB_length]) hbz4 w4 ((Below.refl w4.heap.size w4).mono hbz4) ?_; intro u5 w5 hown5 hb5))
  go_ret
  have hbel5 := hbel4.trans (hb5.mono hz3)
  have hB5 := BSl.of_own hown5
  have hkd : headTxt ++ [tb] ++ numB (i64u h.epoch) 4 ++ numB h.size 8 ++ numB h.clock 8 ++ h.root = headB h := by rw [htb.out]; simp [headB]
  rw [hkd] at hB5
  exact ⟨_, rfl, hB5, hbel5⟩
set_option maxHeartbeats 400000 in
set_option maxRecDepth 100000 in
theorem rsign_any (t : Value) (key : List UInt8) (hkl : key.length = 32) (h : HeadL) (hok : h.ok) (w : World) (hT : Tbl w w.heap.size t) :
    Calls Tryd.prog 68 #[t, .agg (dat key), .agg (headC h)] w fun e w' => e = .returned (.agg (sigC h (tagL key h))) ∧ Below w.heap.size w w' := by
  have Hk := Lib.hid hkl
  clear hkl
  have Hb57 := Lib.hid (headB_length h hok.1)
  have hzv := zero_sig
  go_enter Tryd.func68, Tryd.ntmps68
  go_wp2
  clear hzv
  refine wp_at (fun W => Blk W w.heap.size 38 (dat key) ∧ Blk W (w.heap.size + 1) 40 (headC h) ∧ Blk W (w.heap.size + 2) 42 (sigC zeroHead []) ∧ Below w.heap.size w W)
    ⟨((Blk.new w _ _).alloc _).alloc _, (Blk.new2 _ _ _ _).alloc _, Blk.new3 _ _ _ _ _, below_new3 _ _ _ _⟩ ?_
  rintro W ⟨hK, hH, hS, hbel⟩
  refine wp_region_mixT 7 (.plain 0 <| .plain 1 <| .plain 2 <| .plain 3 <| .only 4 <| .only 5 <| .plain 6 <| .done) (by kernel_rfl) (by kernel_rfl) (fun W1 hb1 => ?_)
  have hK1 := hK.below hb1 hK.lt
  have hH1 := hH.below hb1 hH.lt
  have hS1 := hS.below hb1 hS.lt
  have hbel1 := hbel.trans (hb1.mono hbel.size)
  clear hK hH hS hbel hb1
  repeat (refine mix_plain rfl ?_; (first
    | (refine wpQuiet_load rfl 40 (.tmp 5) rfl (w.heap.size + 1) rfl _ _ _ _ (fun _ ⟨e, he⟩ => by rw [he]; exact hH1.plus e) Tryd.underlying40 rfl (by rw [headC_size]; kernel_rfl) ?_; simp only [Act.put, List.setIfInBounds_toArray, List.set_cons_zero, List.set_cons_succ])
    | go_big_quiet_step (fail)); refine wpQuiet_nil ?_)
  refine mix_only rfl (fun K hK => ?_)
  go_wp2_with fail
  refine (rbytes_any h hok W1).mono ?_
  rintro e W2 ⟨v2, rfl, hv2, hb2⟩
  go_wp2_with fail
  refine hK _ _ hb2 ?_
  clear hK K
  have hK2 := hK1.below hb2 hK1.lt
  have hS2 := hS1.below hb2 hS1.lt
  have hbel2 := hbel1.trans (hb2.mono hbel1.size)
  clear hK1 hH1 hS1 hbel1 hb2
  refine mix_only rfl (fun K hK => ?_)
  go_wp2_with fail
  refine (rmac_any t _ v2 key (headB h) W2 (by obtain ⟨g, rfl, hg, hT⟩ := hT; exact ⟨g, rfl, Nat.lt_of_lt_of_le hg hbel2.size, hT.below hbel2 hg⟩) (BSl.of_dat hK2 _ hK2.lt Hk.out) hv2 (by rw [Hk.out]; decide) (by rw [Hb57.out]; decide)).mono ?_
  rintro e W3 ⟨rfl, hb3⟩
  go_wp2_with fail
  refine hK _ _ hb3 ?_
  clear hK K
  have hS3 := hS2.below hb3 hS2.lt
  have hbel3 := hbel2.trans (hb3.mono hbel2.size)
  clear hK2 hS2 hbel2 hb3 hv2
  refine mix_plain rfl ?_
  refine wpQuiet_build2 rfl 42 (.tmp 7) (.tmp 12) rfl _ _ rfl rfl (sigC h (mac key (headB h))) (built_sig h (mac key (headB h))) ?_
  simp only [Act.put, List.setIfInBounds_toArray, List.set_cons_zero, List.set_cons_succ]
  refine wpQuiet_nil ?_
  refine mix_done ?_
  simp only [List.drop_succ_cons, List.drop_zero]
  refine wpList_storeB rfl rfl 42 (.tmp 6) (.tmp 13) rfl (w.heap.size + 2) 0 rfl (sigC h (mac key (headB h))) rfl _ _ hS3 (by rw [sigC_size]; kernel_rfl) (by rw [sigC_size, sigC_size]; omega) (sigC_one _ _) ?_
  intro W4 hS4 hon4
  rw [copied_all _ _ (by rw [sigC_size, sigC_size])] at hS4
  have hb4 := below_only hbel3 hon4 (by omega) hbel3.size
  go_wp2
  exact bodyPost_ret (results_cell_row (p := 6) (ty := 42) rfl _ _ (w.heap.size + 2) _ _ _ _ rfl hS4 Tryd.underlying42 rfl (by rw [sigC_size]; kernel_rfl)) rfl ⟨rfl, hb4⟩
end Go.Proofs.YtcdkadidkkbhpaaDoor

/- The walks of merkle's cut, sum, Leaf and Node. No condition. -/
namespace Go.Proofs.YtcdkadidkkbhpaaDoor
open Go.RowKit
attribute [local irreducible] mixW
attribute [local go_sem] n8_lo n8_hi n64_lo n64_hi n32_lo n32_hi
/-- a width that may be -/
def cutW (w : Int) : Nat := if w < 1 ∨ 32 < w then 32 else w.toNat
theorem cutW_lo (w : Int) : 1 ≤ cutW w := by unfold cutW; split <;> omega
theorem cutW_hi (w : Int) : cutW w ≤ 32 := by unfold cutW; split <;> omega
theorem cutm_any (x : Int) (w : World) : Calls Tryd.prog 73 #[.int .i64 x] w fun e w' => e = .returned (.int .i64 (cutW x)) ∧ w = w' := by
  by_cases h1 : x < 1
  · have Hd := Lib.hid (show cutW x = 32 from if_pos (.inl h1))
    go_enter Tryd.func73, Tryd.ntmps73
    go_wp2
    go_ret
    exact ⟨by rw [Hd.out]; rfl, rfl⟩
  · by_cases h2 : 32 < x
    · have Hd := Lib.hid (show cutW x = 32 from if_pos (.inr h2))
      go_enter Tryd.func73, Tryd.ntmps73
      go_wp2
      go_ret
      exact ⟨by rw [Hd.out]; rfl, rfl⟩
    · have h3 : (cutW x : Int) = x := by unfold cutW; rw [if_neg (by omega)]; omega
      have Hd := Lib.hid h3
      clear h3
      go_enter Tryd.func73, Tryd.ntmps73
      go_wp2
      go_ret
      exact ⟨by rw [Hd.out]; rfl, rfl⟩
/-- a text's hash, cut -/
def sumM (n : Nat) (b : List UInt8) : List UInt8 := cutL (sha b) (n : Int)
theorem sumM_length (n : Nat) (b : List UInt8) : (sumM n b).length = 32 := cutL_length _ _ (sha_length b)
def leafM (n : Nat) (b : List UInt8) : List UInt8 := sumM n (0 :: b)
def nodeM (n : Nat) (x y : List UInt8) : List UInt8 := sumM n (1 :: (x.take n ++ y.take n))
set_option maxRecDepth 100000 in
theorem msum_any (x : Int) (v : Value) (b : List UInt8) (w : World) (hv : BSl w w.heap.size v b) (hl : b.length ≤ 140737488355264) (hG : Glob w) :
    Calls Tryd.prog 54 #[.int .i64 x, v] w fun e w' => e = .returned (.agg (dat (sumM (cutW x) b))) ∧ Below w.heap.size w w' := by
  have hD := Blk.new w 38 (arr 32 fun _ => 0)
  have hb0 := below_new1 w (Obj.cells (arr 32 fun _ => 0) 38)
  go_enter Tryd.func54, Tryd.ntmps54
  go_wp2_with fail
  refine calls_at (fun W => Blk W w.heap.size 38 (arr 32 fun _ => 0) ∧ Below w.heap.size w W) ⟨hD, hb0⟩ ?_
  clear hD hb0
  rintro W ⟨hD, hbel⟩
  refine (sum_b v b W (hv.next hbel) (by omega) (hG.next hbel)).mono ?_
  rintro e w1 ⟨rfl, hb1⟩
  replace hD := hD.below hb1 hD.lt
  replace hbel := hbel.trans (hb1.mono hbel.size)
  clear hb1
  go_wp2_with fail
  refine (cutm_any x w1).mono ?_
  rintro e _ ⟨rfl, rfl⟩
  go_wp2_with fail
  refine (cut_any (sha b) (sha_length b) (cutW x) w1).mono ?_
  rintro e w2 ⟨rfl, hb1⟩
  replace hD := hD.below hb1 hD.lt
  replace hbel := hbel.trans (hb1.mono hbel.size)
  clear hb1
  go_wp2_with (first
    | (refine wpList_storeDat rfl rfl 38 (.tmp 4) (.tmp 9) rfl w.heap.size rfl _ _ rfl _ hD (by kernel_rfl) ?_; intro w10 hD10 hon10))
  have hb10 := below_only hbel hon10 (Nat.le_refl _) hbel.size
  exact bodyPost_ret (results_cell_row (p := 4) (ty := 38) rfl _ _ w.heap.size _ _ _ _ rfl hD10 Tryd.underlying38 rfl (by rw [dat_size]; kernel_rfl)) rfl ⟨rfl, hb10⟩
set_option maxRecDepth 100000 in
theorem mleaf_any (x : Int) (v : Value) (b : List UInt8) (w : World) (hv : BSl w w.heap.size v b) (hl : b.length ≤ 140737488355200) (hG : Glob w) :
    Calls Tryd.prog 56 #[.int .i64 x, v] w fun e w' => e = .returned (.agg (dat (leafM (cutW x) b))) ∧ Below w.heap.size w w' := by
  obtain ⟨A, c, rfl, h1, h2, hrd⟩ := hv
  have hv : BSl w w.heap.size (.slice A b.length c) b := ⟨A, c, rfl, h1, h2, hrd⟩
  clear hrd h1 h2
  obtain ⟨m, hm⟩ : ∃ m, b.length = m := ⟨_, rfl⟩
  have Hm := Lib.hid hm
  rw [hm] at hv hl ⊢
  clear hm
  have hD := (Blk.new w 38 (arr 32 fun _ => 0)).alloc (Obj.cells #[.int .u8 0] 5)
  have hK := Blk.new2 w (Obj.cells (arr 32 fun _ => 0) 38) 5 #[.int .u8 0]
  have hb2 := (below_new1 w (Obj.cells (arr 32 fun _ => 0) 38)).alloc (by simp) (Obj.cells #[.int .u8 0] 5)
  have hS0 := Blk.new3 w (Obj.cells (arr 32 fun _ => 0) 38) (Obj.cells #[.int .u8 0] 5) 23 #[.slice (some ⟨w.heap.size + 1, 0, none⟩) 1 1, .slice A m c]
  have hD3 := hD.alloc (Obj.cells #[.slice (some ⟨w.heap.size + 1, 0, none⟩) 1 1, .slice A m c] 23)
  have hK3 := hK.alloc (Obj.cells #[.slice (some ⟨w.heap.size + 1, 0, none⟩) 1 1, .slice A m c] 23)
  have hb3 := hb2.alloc hb2.size (Obj.cells #[.slice (some ⟨w.heap.size + 1, 0, none⟩) 1 1, .slice A m c] 23)
  clear hD hK hb2
  go_enter Tryd.func56, Tryd.ntmps56
  go_wp2_with fail
  refine calls_at (fun W => Blk W w.heap.size 38 (arr 32 fun _ => 0) ∧ Blk W (w.heap.size + 1) 5 #[.int .u8 0] ∧ Blk W (w.heap.size + 2) 23 #[.slice (some ⟨w.heap.size + 1, 0, none⟩) 1 1, .slice A m c] ∧ Below w.heap.size w W) ⟨hD3, hK3, hS0, hb3⟩ ?_
  clear hD3 hK3 hS0 hb3
  rintro W ⟨hD, hK, hS, hbel⟩
  have hk : BSl W W.heap.size (.slice (some ⟨w.heap.size + 1, 0, none⟩) 1 1) [0] := ⟨_, 1, rfl, by decide, by decide, (by have h0 := Reads.of_blk hK hK.lt 0; simpa using h0 : Reads W W.heap.size (some ⟨w.heap.size + 1, 0, none⟩) [Value.int .u8 0])⟩
  have hSS := SSl.two hS _ hS.lt hk (hv.next hbel)
  refine (join_any _ _ W hSS (by have := Hm.out; simp; omega)).mono ?_
  rintro e w1 ⟨u, rfl, hown, hb1⟩
  have hfl : ([[(0 : UInt8)], b] : List (List UInt8)).flatten = 0 :: b := by simp
  rw [hfl] at hown
  have hB := BSl.of_own hown
  replace hD := hD.below hb1 hD.lt
  replace hbel := hbel.trans (hb1.mono hbel.size)
  clear hb1 hown hS hK hk hSS hfl
  go_wp2_with fail
  refine (msum_any x u (0 :: b) w1 hB (by have := Hm.out; simp; omega) (hG.next hbel)).mono ?_
  rintro e w2 ⟨rfl, hb1⟩
  replace hD := hD.below hb1 hD.lt
  replace hbel := hbel.trans (hb1.mono hbel.size)
  clear hb1 hB
  go_wp2_with (first
    | (refine wpList_storeDat rfl rfl 38 (.tmp 4) (.tmp 10) rfl w.heap.size rfl _ _ rfl _ hD (by kernel_rfl) ?_; intro w10 hD10 hon10))
  have hb10 := below_only hbel hon10 (Nat.le_refl _) hbel.size
  exact bodyPost_ret (results_cell_row (p := 4) (ty := 38) rfl _ _ w.heap.size _ _ _ _ rfl hD10 Tryd.underlying38 rfl (by rw [dat_size]; kernel_rfl)) rfl ⟨rfl, hb10⟩
theorem dat_take {w : World} {g n : Nat} {d : List UInt8} (h : Blk w g 38 (dat d)) (hl : d.length = 32) (hn : n ≤ 32) : BSl w w.heap.size (.slice (some ⟨g, 0, none⟩) n 32) (d.take n) :=
  head_b (BSl.of_dat h w.heap.size h.lt hl) n hn
set_option maxHeartbeats 400000 in
set_option maxRecDepth 100000 in
theorem mnode_any (x : Int) (p q : List UInt8) (hp : p.length = 32) (hq : q.length = 32) (w : World) (hG : Glob w) :
    Calls Tryd.prog 58 #[.int .i64 x, .agg (dat p), .agg (dat q)] w fun e w' => e = .returned (.agg (dat (nodeM (cutW x) p q))) ∧ Below w.heap.size w w' := by
  have hP := ((Blk.new w 38 (dat p)).alloc (Obj.cells (dat q) 38)).alloc (Obj.cells (arr 32 fun _ => 0) 38)
  have hQ := (Blk.new2 w (Obj.cells (dat p) 38) 38 (dat q)).alloc (Obj.cells (arr 32 fun _ => 0) 38)
  have hD := Blk.new3 w (Obj.cells (dat p) 38) (Obj.cells (dat q) 38) 38 (arr 32 fun _ => 0)
  have hb3 := below_new3 w (Obj.cells (dat p) 38) (Obj.cells (dat q) 38) (Obj.cells (arr 32 fun _ => 0) 38)
  have Hp := Lib.hid hp
  have Hq := Lib.hid hq
  clear hp hq
  go_enter Tryd.func58, Tryd.ntmps58
  go_wp2_with fail
  refine calls_at (fun W => Blk W w.heap.size 38 (dat p) ∧ Blk W (w.heap.size + 1) 38 (dat q) ∧ Blk W (w.heap.size + 2) 38 (arr 32 fun _ => 0) ∧ Below w.heap.size w W) ⟨hP, hQ, hD, hb3⟩ ?_
  clear hP hQ hD hb3
  rintro W ⟨hP, hQ, hD, hbel⟩
  refine (cutm_any x W).mono ?_
  rintro e _ ⟨rfl, rfl⟩
  have hn1 := cutW_lo x
  have hn2 := cutW_hi x
  obtain ⟨n, hn⟩ : ∃ n, cutW x = n := ⟨_, rfl⟩
  rw [hn] at hn1 hn2 ⊢
  have Hn := Lib.hid hn
  clear hn
  go_wp2_with fail
  have i1 : (n : Int) ≤ 32 := by omega
  refine wp_region_mixT 9 (.plain 0 <| .plain 2 <| .plain 3 <| .plain 4 <| .plain 5 <| .only 1 <| .only 6 <| .only 7 <| .only 8 <| .done) (by kernel_rfl) (by kernel_rfl) (fun W1 hb1 => ?_)
  replace hP := hP.below hb1 hP.lt
  replace hQ := hQ.below hb1 hQ.lt
  replace hD := hD.below hb1 hD.lt
  replace hbel := hbel.trans (hb1.mono hbel.size)
  clear hb1
  iterate 5 (refine mix_plain rfl ?_; go_big_quiet_step (fail); refine wpQuiet_nil ?_)
  refine mix_only rfl (fun K hK => ?_)
  go_wp2_with fail
  refine hK _ _ (below_new1 W1 _) ?_
  clear hK K
  have hb1 := below_new1 W1 (Obj.cells #[.int .u8 1] 5)
  refine mix_at (fun W => Blk W W1.heap.size 5 #[.int .u8 1] ∧ Blk W w.heap.size 38 (dat p) ∧ Blk W (w.heap.size + 1) 38 (dat q) ∧ Blk W (w.heap.size + 2) 38 (arr 32 fun _ => 0) ∧ Below w.heap.size w W) ⟨Blk.new W1 5 #[.int .u8 1], hP.below hb1 hP.lt, hQ.below hb1 hQ.lt, hD.below hb1 hD.lt, hbel.trans (hb1.mono hbel.size)⟩ ?_
  clear hb1 hP hQ hD hbel
  rintro W2 ⟨hK1, hP, hQ, hD, hbel⟩
  generalize W1.heap.size = g1 at hK1 ⊢
  refine mix_only rfl (fun K hK => ?_)
  go_wp2_with fail
  refine hK _ _ (below_new1 W2 _) ?_
  clear hK K
  have hb1 := below_new1 W2 (Obj.cells #[.slice (some ⟨g1, 0, none⟩) 1 1, .slice (some ⟨w.heap.size, 0, none⟩) n 32, .slice (some ⟨w.heap.size + 1, 0, none⟩) n 32] 23)
  refine mix_at (fun W => Blk W W2.heap.size 23 #[.slice (some ⟨g1, 0, none⟩) 1 1, .slice (some ⟨w.heap.size, 0, none⟩) n 32, .slice (some ⟨w.heap.size + 1, 0, none⟩) n 32] ∧ Blk W g1 5 #[.int .u8 1] ∧ Blk W w.heap.size 38 (dat p) ∧ Blk W (w.heap.size + 1) 38 (dat q) ∧ Blk W (w.heap.size + 2) 38 (arr 32 fun _ => 0) ∧ Below w.heap.size w W) ⟨Blk.new W2 _ _, hK1.below hb1 hK1.lt, hP.below hb1 hP.lt, hQ.below hb1 hQ.lt, hD.below hb1 hD.lt, hbel.trans (hb1.mono hbel.size)⟩ ?_
  clear hb1 hK1 hP hQ hD hbel
  rintro W3 ⟨hS, hK1, hP, hQ, hD, hbel⟩
  generalize W2.heap.size = g2 at hS ⊢
  have hk : BSl W3 W3.heap.size (.slice (some ⟨g1, 0, none⟩) 1 1) [1] := ⟨_, 1, rfl, by decide, by decide, (by have h0 := Reads.of_blk hK1 hK1.lt 0; simpa using h0 : Reads W3 W3.heap.size (some ⟨g1, 0, none⟩) [Value.int .u8 1])⟩
  have hSS := SSl.three hS _ hS.lt hk (dat_take hP Hp.out hn2) (dat_take hQ Hq.out hn2)
  have hll : (p.take n).length ≤ 32 ∧ (q.take n).length ≤ 32 := by rw [List.length_take, List.length_take]; omega
  refine mix_only rfl (fun K hK => ?_)
  go_wp2_with fail
  refine (join_any _ _ W3 hSS (by simp only [List.flatten_cons, List.flatten_nil, List.append_nil, List.length_append, List.length_cons, List.length_nil]; omega)).mono ?_
  rintro e W4 ⟨u, rfl, hown, hb1⟩
  have hfl : ([[(1 : UInt8)], p.take n, q.take n] : List (List UInt8)).flatten = 1 :: (p.take n ++ q.take n) := by simp
  rw [hfl] at hown
  have hB := BSl.of_own hown
  go_wp2_with fail
  refine hK _ _ hb1 ?_
  clear hK K hown hfl
  replace hD := hD.below hb1 hD.lt
  replace hbel := hbel.trans (hb1.mono hbel.size)
  clear hb1 hS hK1 hP hQ hk hSS
  refine mix_only rfl (fun K hK => ?_)
  go_wp2_with fail
  refine (msum_any x u _ W4 hB (by simp only [List.length_cons, List.length_append]; omega) (hG.next hbel)).mono ?_
  rintro e W5 ⟨rfl, hb1⟩
  go_wp2_with fail
  refine hK _ _ hb1 ?_
  clear hK K
  replace hD := hD.below hb1 hD.lt
  replace hbel := hbel.trans (hb1.mono hbel.size)
  clear hb1 hB
  refine mix_done ?_
  simp only [List.drop_succ_cons, List.drop_zero]
  refine wpList_storeDat rfl rfl 38 (.tmp 6) (.tmp 18) rfl (w.heap.size + 2) rfl _ _ rfl _ hD (by kernel_rfl) ?_
  intro w10 hD10 hon10
  have hb10 := below_only hbel hon10 (by omega) hbel.size
  go_wp2
  refine bodyPost_ret (results_cell_row (p := 6) (ty := 38) rfl _ _ (w.heap.size + 2) _ _ _ _ rfl hD10 Tryd.underlying38 rfl (by rw [dat_size]; kernel_rfl)) rfl ⟨?_, hb10⟩
  rw [Hn.out]; rfl
end Go.Proofs.YtcdkadidkkbhpaaDoor

/- The walks of math/bits' Len64 and Len, and of merkle's half. No condition. -/
namespace Go.Proofs.YtcdkadidkkbhpaaDoor
open Go Go.RowKit
theorem len8s : (Lib.len8tab.size : Int) = 256 := by
  have : Lib.len8tab.size = 256 := by kernel_rfl
  omega
theorem wrapA (k a b : Nat) (hk : k ≤ 56) (ha : a ≤ 8) (hb : b = k + a) : RowKit.wrap64 ((k : Int) + RowKit.wrap64 (a : Int)) = (b : Int) := by
  unfold RowKit.wrap64
  omega
theorem wrapW (a : Nat) (ha : a ≤ 8) : RowKit.wrap64 (RowKit.wrap64 (a : Int)) = (a : Int) := by
  unfold RowKit.wrap64
  omega
theorem wrapO (a : Nat) (ha : a ≤ 8) : RowKit.wrap64 (a : Int) = (a : Int) := by
  unfold RowKit.wrap64
  omega
theorem len8g (y : Int) (h : y.toNat < Lib.len8tab.size) : ((Lib.len8tab[y.toNat]'h).toNat : Int) = Lib.len8 y := by
  unfold Lib.len8
  rw [getElem?_pos Lib.len8tab y.toNat h]
  rfl
set_option maxHeartbeats 8000000 in
set_option maxRecDepth 1000000 in
theorem len64_any (x : Int) (w : World) (h0 : 0 ≤ x) (h1 : x ≤ 18446744073709551615) :
    Calls Tryd.prog 85 #[.int .u64 x] w fun e w' => e = .returned (.int .i64 (Lib.bitLen x.toNat)) ∧ w' = w := by
  go_enter Tryd.func85, Tryd.ntmps85
  go_wp2
  all_goals first
    | (go_ret; refine ⟨congrArg Ending.returned (congrArg (Value.int IntKind.i64) ?_), rfl⟩; go_light)
    | (exfalso
       go_light
       have hs := len8s
       omega)
  all_goals first
    | (rw [len8g (x / 4294967296 / 65536 / 256) _, Lib.len8_of (x / 4294967296 / 65536 / 256) (by omega) (by omega)]
       have e : (x / 4294967296 / 65536 / 256).toNat = x.toNat / 72057594037927936 := by omega
       have l := Lib.bitLen_le8' (x / 4294967296 / 65536 / 256) (by omega) (by omega)
       have s := Lib.bitLen_shift56 x.toNat (by omega) (by omega)
       rw [e] at l ⊢
       exact wrapA 56 _ _ (by decide) l s)
    | (rw [len8g (x / 4294967296 / 65536) _, Lib.len8_of (x / 4294967296 / 65536) (by omega) (by omega)]
       have e : (x / 4294967296 / 65536).toNat = x.toNat / 281474976710656 := by omega
       have l := Lib.bitLen_le8' (x / 4294967296 / 65536) (by omega) (by omega)
       have s := Lib.bitLen_shift48 x.toNat (by omega) (by omega)
       rw [e] at l ⊢
       exact wrapA 48 _ _ (by decide) l s)
    | (rw [len8g (x / 4294967296 / 256) _, Lib.len8_of (x / 4294967296 / 256) (by omega) (by omega)]
       have e : (x / 4294967296 / 256).toNat = x.toNat / 1099511627776 := by omega
       have l := Lib.bitLen_le8' (x / 4294967296 / 256) (by omega) (by omega)
       have s := Lib.bitLen_shift40 x.toNat (by omega) (by omega)
       rw [e] at l ⊢
       exact wrapA 40 _ _ (by decide) l s)
    | (rw [len8g (x / 4294967296) _, Lib.len8_of (x / 4294967296) (by omega) (by omega)]
       have e : (x / 4294967296).toNat = x.toNat / 4294967296 := by omega
       have l := Lib.bitLen_le8' (x / 4294967296) (by omega) (by omega)
       have s := Lib.bitLen_shift32 x.toNat (by omega) (by omega)
       rw [e] at l ⊢
       exact wrapA 32 _ _ (by decide) l s)
    | (rw [len8g (x / 65536 / 256) _, Lib.len8_of (x / 65536 / 256) (by omega) (by omega)]
       have e : (x / 65536 / 256).toNat = x.toNat / 16777216 := by omega
       have l := Lib.bitLen_le8' (x / 65536 / 256) (by omega) (by omega)
       have s := Lib.bitLen_shift24 x.toNat (by omega) (by omega)
       rw [e] at l ⊢
       exact wrapA 24 _ _ (by decide) l s)
    | (rw [len8g (x / 65536) _, Lib.len8_of (x / 65536) (by omega) (by omega)]
       have e : (x / 65536).toNat = x.toNat / 65536 := by omega
       have l := Lib.bitLen_le8' (x / 65536) (by omega) (by omega)
       have s := Lib.bitLen_shift16 x.toNat (by omega) (by omega)
       rw [e] at l ⊢
       exact wrapA 16 _ _ (by decide) l s)
    | (rw [len8g (x / 256) _, Lib.len8_of (x / 256) (by omega) (by omega)]
       have e : (x / 256).toNat = x.toNat / 256 := by omega
       have l := Lib.bitLen_le8' (x / 256) (by omega) (by omega)
       have s := Lib.bitLen_shift8 x.toNat (by omega) (by omega)
       rw [e] at l ⊢
       exact wrapA 8 _ _ (by decide) l s)
    | (rw [len8g (x) _, Lib.len8_of (x) (by omega) (by omega)]
       have e : (x).toNat = x.toNat := by omega
       have l := Lib.bitLen_le8' (x) (by omega) (by omega)
       rw [e] at l ⊢
       first | exact wrapW _ l | exact wrapA 0 _ _ (by decide) l (by omega) | exact wrapO _ l)
theorem bitLen_log : ∀ x : Nat, x ≠ 0 → x < 2 ^ 64 → Lib.bitLen x = x.log2 + 1 := by
  intro x
  induction x using Nat.strongRecOn with
  | _ x ih =>
    intro h0 h1
    rw [Lib.bitLen_half x h0 h1]
    by_cases h2 : x = 1
    · subst h2; decide
    · have h3 : x / 2 ≠ 0 := by omega
      rw [ih (x / 2) (by omega) h3 (by omega)]
      rw [show x.log2 = (x / 2).log2 + 1 by rw [Nat.log2_def, if_pos (by omega)]]
      omega
theorem len_any (x : Int) (w : World) (h0 : 0 ≤ x) (h1 : x ≤ 18446744073709551615) :
    Calls Tryd.prog 74 #[.int .u64 x] w fun e w' => e = .returned (.int .i64 (Lib.bitLen x.toNat)) ∧ w' = w := by
  go_enter Tryd.func74, Tryd.ntmps74
  go_wp2_with fail
  refine (len64_any x w h0 h1).mono ?_
  rintro e w' ⟨rfl, rfl⟩
  go_wp2_with fail
  go_ret
  exact ⟨rfl, rfl⟩
/-- the greatest power of two below a number -/
def halfN (n : Nat) : Nat := 2 ^ (n - 1).log2
theorem halfN_le (n : Nat) (h : 2 ≤ n) : halfN n ≤ n - 1 := Nat.log2_self_le (by omega)
theorem halfN_pos (n : Nat) : 1 ≤ halfN n := Nat.one_le_two_pow
theorem halfN_twice (n : Nat) (h : 2 ≤ n) : n ≤ 2 * halfN n := by
  have := Nat.lt_log2_self (n := n - 1)
  unfold halfN
  rw [Nat.pow_succ] at this
  omega
set_option maxRecDepth 100000 in
theorem half_any (n : Nat) (h : 2 ≤ n) (hn : n ≤ 4611686018427387904) (w : World) :
    Calls Tryd.prog 57 #[.int .i64 n] w fun e w' => e = .returned (.int .i64 (halfN n)) ∧ w = w' := by
  have hb := bitLen_log (n - 1) (by omega) (by omega)
  obtain ⟨k, hk⟩ : ∃ k, (n - 1).log2 = k := ⟨_, rfl⟩
  have hk61 : k ≤ 61 := by
    have h1 := Nat.log2_self_le (n := n - 1) (by omega)
    rw [hk] at h1
    rcases Nat.lt_or_ge 61 k with h2 | h2
    · have := Nat.pow_le_pow_right (show 0 < 2 by decide) (show 62 ≤ k by omega)
      omega
    · exact h2
  have hh : halfN n = 2 ^ k := by unfold halfN; rw [hk]
  rw [hk] at hb
  obtain ⟨m, hm⟩ : ∃ m : Nat, m = n - 1 := ⟨_, rfl⟩
  have em : (n : Int) - 1 = (m : Int) := by omega
  have hm0 : (0 : Int) ≤ (m : Int) := by omega
  have hm1 : (m : Int) ≤ 18446744073709551615 := by omega
  rw [← hm] at hb
  have Hb := Lib.hid hb
  have Hh := Lib.hid hh
  clear hb hh hm hk h
  go_enter Tryd.func57, Tryd.ntmps57
  go_wp2_with fail
  refine (len_any (m : Int) w hm0 hm1).mono ?_
  rintro e w' ⟨rfl, rfl⟩
  rw [Int.toNat_natCast, Hb.out]
  have e1 : ((k + 1 : Nat) : Int) - 1 = (k : Int) := by omega
  go_wp2_with fail
  go_ret
  refine ⟨?_, rfl⟩
  rw [Hh.out]
  have e2 : ((2 : Int) ^ k) = ((2 ^ k : Nat) : Int) := by simp
  have h61 : 2 ^ k ≤ 2 ^ 61 := Nat.pow_le_pow_right (by decide) hk61
  have e3 : wrap64 ((2 : Int) ^ k) = ((2 ^ k : Nat) : Int) := by
    rw [e2]
    generalize (2 ^ k : Nat) = z at h61
    unfold wrap64
    omega
  rw [e3]; rfl
end Go.Proofs.YtcdkadidkkbhpaaDoor

/- Plain Lean: the root of a list of texts. No condition. -/
namespace Go.Proofs.YtcdkadidkkbhpaaDoor
def rootF (n : Nat) : Nat → List (List UInt8) → List UInt8
  | 0, _ => []
  | f + 1, l => if l.length ≤ 1 then leafM n (l.headD []) else nodeM n (rootF n f (l.take (halfN l.length))) (rootF n f (l.drop (halfN l.length)))
def rootM (n : Nat) (l : List (List UInt8)) : List UInt8 := if l.length = 0 then sumM n [] else rootF n l.length l
theorem half_parts (l : List (List UInt8)) (h : 2 ≤ l.length) : (l.take (halfN l.length)).length = halfN l.length ∧ (l.drop (halfN l.length)).length = l.length - halfN l.length ∧ 1 ≤ halfN l.length ∧ halfN l.length < l.length := by
  have h1 := halfN_le l.length h
  have h2 := halfN_pos l.length
  refine ⟨by rw [List.length_take]; omega, List.length_drop, h2, by omega⟩
theorem rootF_fuel (n : Nat) : ∀ (f : Nat) (l : List (List UInt8)), 1 ≤ l.length → l.length ≤ f → ∀ g, l.length ≤ g → rootF n f l = rootF n g l := by
  intro f
  induction f with
  | zero => intro l h1 h2; omega
  | succ f ih =>
    intro l h1 h2 g hg
    cases g with
    | zero => omega
    | succ g =>
      unfold rootF
      by_cases h : l.length ≤ 1
      · rw [if_pos h, if_pos h]
      · rw [if_neg h, if_neg h]
        obtain ⟨e1, e2, e3, e4⟩ := half_parts l (by omega)
        rw [ih (l.take (halfN l.length)) (by omega) (by omega) g (by omega), ih (l.drop (halfN l.length)) (by omega) (by omega) g (by omega)]
theorem rootM_one (n : Nat) (b : List UInt8) : rootM n [b] = leafM n b := rfl
theorem rootM_single (n : Nat) (l : List (List UInt8)) (h : l.length = 1) : rootM n l = leafM n (l.getD 0 []) := by
  match l, h with
  | [b], _ => rfl
theorem rootM_nil (n : Nat) : rootM n [] = sumM n [] := rfl
theorem rootM_node (n : Nat) (l : List (List UInt8)) (h : 2 ≤ l.length) : rootM n l = nodeM n (rootM n (l.take (halfN l.length))) (rootM n (l.drop (halfN l.length))) := by
  obtain ⟨e1, e2, e3, e4⟩ := half_parts l h
  have hl : rootM n l = rootF n ((l.length - 1) + 1) l := by unfold rootM; rw [if_neg (by omega), show l.length - 1 + 1 = l.length by omega]
  rw [hl]
  unfold rootF
  rw [if_neg (by omega)]
  unfold rootM
  rw [if_neg (by omega), if_neg (by omega)]
  rw [rootF_fuel n (l.length - 1) (l.take (halfN l.length)) (by omega) (by omega) _ (Nat.le_refl _), rootF_fuel n (l.length - 1) (l.drop (halfN l.length)) (by omega) (by omega) _ (Nat.le_refl _)]
/-- a leaf's path -/
def pathF (n : Nat) : Nat → List (List UInt8) → Nat → List (List UInt8)
  | 0, _, _ => []
  | f + 1, l, i => if l.length ≤ 1 then [] else if i < halfN l.length then pathF n f (l.take (halfN l.length)) i ++ [rootM n (l.drop (halfN l.length))] else pathF n f (l.drop (halfN l.length)) (i - halfN l.length) ++ [rootM n (l.take (halfN l.length))]
def pathM (n : Nat) (l : List (List UInt8)) (i : Nat) : List (List UInt8) := pathF n l.length l i
theorem pathF_fuel (n : Nat) : ∀ (f : Nat) (l : List (List UInt8)) (i : Nat), l.length ≤ f → ∀ g, l.length ≤ g → pathF n f l i = pathF n g l i := by
  intro f
  induction f with
  | zero =>
    intro l i h g hg
    cases g with
    | zero => rfl
    | succ g => unfold pathF; rw [if_pos (by omega)]
  | succ f ih =>
    intro l i h g hg
    cases g with
    | zero => unfold pathF; rw [if_pos (by omega)]
    | succ g =>
      unfold pathF
      by_cases h1 : l.length ≤ 1
      · rw [if_pos h1, if_pos h1]
      · rw [if_neg h1, if_neg h1]
        obtain ⟨e1, e2, e3, e4⟩ := half_parts l (by omega)
        rw [ih (l.take (halfN l.length)) i (by omega) g (by omega), ih (l.drop (halfN l.length)) (i - halfN l.length) (by omega) g (by omega)]
theorem pathM_one (n : Nat) (l : List (List UInt8)) (i : Nat) (h : l.length ≤ 1) : pathM n l i = [] := by
  unfold pathM
  match l, h with
  | [], _ => rfl
  | [b], _ => rfl
  | _ :: _ :: _, h => simp at h
theorem pathM_node (n : Nat) (l : List (List UInt8)) (i : Nat) (h : 2 ≤ l.length) : pathM n l i = if i < halfN l.length then pathM n (l.take (halfN l.length)) i ++ [rootM n (l.drop (halfN l.length))] else pathM n (l.drop (halfN l.length)) (i - halfN l.length) ++ [rootM n (l.take (halfN l.length))] := by
  obtain ⟨e1, e2, e3, e4⟩ := half_parts l h
  have hl : pathM n l i = pathF n ((l.length - 1) + 1) l i := by unfold pathM; rw [show l.length - 1 + 1 = l.length by omega]
  rw [hl]
  unfold pathF
  rw [if_neg (by omega)]
  unfold pathM
  rw [pathF_fuel n (l.length - 1) (l.take (halfN l.length)) i (by omega) _ (Nat.le_refl _), pathF_fuel n (l.length - 1) (l.drop (halfN l.length)) (i - halfN l.length) (by omega) _ (Nat.le_refl _)]
theorem leafM_length (n : Nat) (b : List UInt8) : (leafM n b).length = 32 := sumM_length _ _
theorem nodeM_length (n : Nat) (x y : List UInt8) : (nodeM n x y).length = 32 := sumM_length _ _
theorem rootM_length (n : Nat) (l : List (List UInt8)) : (rootM n l).length = 32 := by
  by_cases h : 2 ≤ l.length
  · rw [rootM_node n l h]; exact nodeM_length _ _ _
  · match l, h with
    | [], _ => exact sumM_length _ _
    | [b], _ => exact leafM_length _ _
    | _ :: _ :: _, h => simp at h
theorem pathM_mem (n : Nat) : ∀ (N : Nat) (l : List (List UInt8)) (i : Nat), l.length ≤ N → ∀ d ∈ pathM n l i, d.length = 32 := by
  intro N
  induction N with
  | zero => intro l i h d hd; rw [pathM_one n l i (by omega)] at hd; cases hd
  | succ N ih =>
    intro l i h d hd
    by_cases h1 : l.length ≤ 1
    · rw [pathM_one n l i h1] at hd; cases hd
    · obtain ⟨e1, e2, e3, e4⟩ := half_parts l (by omega)
      rw [pathM_node n l i (by omega)] at hd
      split at hd
      · rcases List.mem_append.1 hd with hd | hd
        · exact ih _ _ (by omega) d hd
        · rw [List.mem_singleton.1 hd]; exact rootM_length _ _
      · rcases List.mem_append.1 hd with hd | hd
        · exact ih _ _ (by omega) d hd
        · rw [List.mem_singleton.1 hd]; exact rootM_length _ _
/-- a path is no longer than the tree is deep -/
theorem pathM_depth (n : Nat) : ∀ (k : Nat) (l : List (List UInt8)) (i : Nat), l.length ≤ 2 ^ k → (pathM n l i).length ≤ k := by
  intro k
  induction k with
  | zero => intro l i h; rw [pathM_one n l i (by simpa using h)]; exact Nat.zero_le _
  | succ k ih =>
    intro l i h
    by_cases h1 : l.length ≤ 1
    · rw [pathM_one n l i h1]; exact Nat.zero_le _
    · obtain ⟨e1, e2, e3, e4⟩ := half_parts l (by omega)
      have h2 := halfN_twice l.length (by omega)
      have h3 : halfN l.length ≤ 2 ^ k := by
        unfold halfN
        have hlt : (l.length - 1).log2 < k + 1 := (Nat.log2_lt (by omega)).2 (by omega)
        exact Nat.pow_le_pow_right (by decide) (by omega)
      rw [pathM_node n l i (by omega)]
      split
      · have := ih (l.take (halfN l.length)) i (by omega)
        rw [List.length_append]; simp; omega
      · have := ih (l.drop (halfN l.length)) (i - halfN l.length) (by omega)
        rw [List.length_append]; simp; omega
/-- that a list begins with its first leaves -/
def subF (n : Nat) : Nat → List (List UInt8) → Nat → Bool → List (List UInt8)
  | 0, _, _, _ => []
  | f + 1, l, m, b => if m = l.length then (if b then [] else [rootM n l]) else if l.length ≤ 1 then [] else if m ≤ halfN l.length then subF n f (l.take (halfN l.length)) m b ++ [rootM n (l.drop (halfN l.length))] else subF n f (l.drop (halfN l.length)) (m - halfN l.length) false ++ [rootM n (l.take (halfN l.length))]
def subM (n : Nat) (l : List (List UInt8)) (m : Nat) (b : Bool) : List (List UInt8) := subF n (l.length + 1) l m b
theorem subF_fuel (n : Nat) : ∀ (f : Nat) (l : List (List UInt8)) (m : Nat) (b : Bool), l.length < f → ∀ g, l.length < g → subF n f l m b = subF n g l m b := by
  intro f
  induction f with
  | zero => intro l m b h; omega
  | succ f ih =>
    intro l m b h g hg
    cases g with
    | zero => omega
    | succ g =>
      unfold subF
      by_cases h0 : m = l.length
      · rw [if_pos h0, if_pos h0]
      · rw [if_neg h0, if_neg h0]
        by_cases h1 : l.length ≤ 1
        · rw [if_pos h1, if_pos h1]
        · rw [if_neg h1, if_neg h1]
          obtain ⟨e1, e2, e3, e4⟩ := half_parts l (by omega)
          rw [ih (l.take (halfN l.length)) m b (by omega) g (by omega), ih (l.drop (halfN l.length)) (m - halfN l.length) false (by omega) g (by omega)]
theorem subM_all (n : Nat) (l : List (List UInt8)) (m : Nat) (b : Bool) (h : m = l.length) : subM n l m b = if b then [] else [rootM n l] := by
  unfold subM subF; rw [if_pos h]
theorem subM_node (n : Nat) (l : List (List UInt8)) (m : Nat) (b : Bool) (h0 : m ≠ l.length) (h : 2 ≤ l.length) : subM n l m b = if m ≤ halfN l.length then subM n (l.take (halfN l.length)) m b ++ [rootM n (l.drop (halfN l.length))] else subM n (l.drop (halfN l.length)) (m - halfN l.length) false ++ [rootM n (l.take (halfN l.length))] := by
  obtain ⟨e1, e2, e3, e4⟩ := half_parts l h
  have hl : subM n l m b = if m ≤ halfN l.length then subF n l.length (l.take (halfN l.length)) m b ++ [rootM n (l.drop (halfN l.length))] else subF n l.length (l.drop (halfN l.length)) (m - halfN l.length) false ++ [rootM n (l.take (halfN l.length))] := by
    unfold subM
    rw [subF, if_neg h0, if_neg (by omega)]
  rw [hl]
  unfold subM
  rw [subF_fuel n l.length (l.take (halfN l.length)) m b (by omega) ((l.take (halfN l.length)).length + 1) (by omega), subF_fuel n l.length (l.drop (halfN l.length)) (m - halfN l.length) false (by omega) ((l.drop (halfN l.length)).length + 1) (by omega)]
theorem subM_depth (n : Nat) : ∀ (k : Nat) (l : List (List UInt8)) (m : Nat) (b : Bool), 1 ≤ m → m ≤ l.length → l.length ≤ 2 ^ k → (subM n l m b).length ≤ k + 1 := by
  intro k
  induction k with
  | zero =>
    intro l m b h1 h2 h
    rw [subM_all n l m b (by simp at h; omega)]
    split <;> simp
  | succ k ih =>
    intro l m b h1 h2 h
    by_cases h0 : m = l.length
    · rw [subM_all n l m b h0]
      split <;> simp
    · obtain ⟨e1, e2, e3, e4⟩ := half_parts l (by omega)
      have h2' := halfN_twice l.length (by omega)
      have h3 : halfN l.length ≤ 2 ^ k := by
        unfold halfN
        have hlt : (l.length - 1).log2 < k + 1 := (Nat.log2_lt (by omega)).2 (by omega)
        exact Nat.pow_le_pow_right (by decide) (by omega)
      rw [subM_node n l m b h0 (by omega)]
      split
      · have := ih (l.take (halfN l.length)) m b h1 (by omega) (by omega)
        rw [List.length_append]; simp; omega
      · have := ih (l.drop (halfN l.length)) (m - halfN l.length) false (by omega) (by omega) (by omega)
        rw [List.length_append]; simp; omega
theorem subM_mem (n : Nat) : ∀ (N : Nat) (l : List (List UInt8)) (m : Nat) (b : Bool), l.length ≤ N → ∀ d ∈ subM n l m b, d.length = 32 := by
  intro N
  induction N with
  | zero =>
    intro l m b h d hd
    by_cases h0 : m = l.length
    · rw [subM_all n l m b h0] at hd
      split at hd
      · cases hd
      · rw [List.mem_singleton.1 hd]; exact rootM_length _ _
    · unfold subM subF at hd
      rw [if_neg h0, if_pos (by omega)] at hd; cases hd
  | succ N ih =>
    intro l m b h d hd
    by_cases h0 : m = l.length
    · rw [subM_all n l m b h0] at hd
      split at hd
      · cases hd
      · rw [List.mem_singleton.1 hd]; exact rootM_length _ _
    · by_cases h1 : l.length ≤ 1
      · unfold subM subF at hd
        rw [if_neg h0, if_pos h1] at hd; cases hd
      · obtain ⟨e1, e2, e3, e4⟩ := half_parts l (by omega)
        rw [subM_node n l m b h0 (by omega)] at hd
        split at hd
        · rcases List.mem_append.1 hd with hd | hd
          · exact ih _ _ _ (by omega) d hd
          · rw [List.mem_singleton.1 hd]; exact rootM_length _ _
        · rcases List.mem_append.1 hd with hd | hd
          · exact ih _ _ _ (by omega) d hd
          · rw [List.mem_singleton.1 hd]; exact rootM_length _ _
end Go.Proofs.YtcdkadidkkbhpaaDoor

/- The walks of merkle's Root and its inner function. No condition. -/
namespace Go.Proofs.YtcdkadidkkbhpaaDoor
open Go.RowKit
attribute [local irreducible] mixW
attribute [local go_sem] n8_lo n8_hi n64_lo n64_hi n32_lo n32_hi
section
variable {w : World} {B : Nat} {A : Option Addr} {n cap : Nat} {ls : List (List UInt8)}
theorem SSl.lens (h : SSl w B (.slice A n cap) ls) : n = ls.length ∧ ls.length ≤ cap := by
  obtain ⟨A', cap', vs, e1, h1, h2, _⟩ := h
  injection e1 with _ e1 e2
  exact ⟨e1, by omega⟩
theorem SSl.take (h : SSl w B (.slice A n cap) ls) (k : Nat) (hk : k ≤ n) : SSl w B (.slice A k cap) (ls.take k) := by
  obtain ⟨A', cap', vs, e1, h1, h2, h3, h4, h5⟩ := h
  injection e1 with e1 e2 e3
  subst e1; subst e3; subst e2
  have hl : (ls.take k).length = k := by rw [List.length_take]; omega
  refine ⟨A, cap, vs.take k, by rw [hl], by omega, h2, h3.take k, by rw [List.length_take, hl]; omega, fun i hi => ?_⟩
  rw [hl] at hi
  have := h5 i (by omega)
  rw [List.getD_eq_getElem?_getD, List.getD_eq_getElem?_getD] at this ⊢
  rw [List.getElem?_take, if_pos hi, List.getElem?_take, if_pos hi]
  exact this
theorem SSl.drop (h : SSl w B (.slice A n cap) ls) (k : Nat) (hk : k ≤ n) : SSl w B (cutV A cap k n) (ls.drop k) := by
  obtain ⟨A', cap', vs, e1, h1, h2, h3, h4, h5⟩ := h
  injection e1 with e1 e2 e3
  subst e1; subst e3; subst e2
  have hl : (ls.drop k).length = ls.length - k := by rw [List.length_drop]
  refine ⟨_, cap - k, vs.drop k, by unfold cutV; rw [hl], by omega, by omega, h3.cut (k := k) (cap := cap) (by omega) (by omega), by rw [List.length_drop, hl]; omega, fun i hi => ?_⟩
  rw [hl] at hi
  have := h5 (k + i) (by omega)
  rw [List.getD_eq_getElem?_getD, List.getD_eq_getElem?_getD] at this ⊢
  rw [List.getElem?_drop, List.getElem?_drop]
  exact this
/-- an element of a slice of slices -/
theorem SSl.cellAt (h : SSl w B (.slice A n cap) ls) (k : Nat) (hk : k < ls.length) : ∃ b off u, A = some ⟨b, off, none⟩ ∧ b < B ∧ w.cell? ⟨b, off + k, none⟩ = some u ∧ BSl w B u (ls.getD k []) := by
  obtain ⟨A', cap', vs, e1, h1, h2, h3, h4, h5⟩ := h
  injection e1 with e1 e2 e3
  subst e1
  obtain ⟨b, off, e, hb, hc⟩ := h3 (by omega)
  refine ⟨b, off, vs.getD k undef, e, hb, hc k _ ?_, h5 k hk⟩
  rw [List.getD_eq_getElem?_getD, List.getElem?_eq_getElem (show k < vs.length by omega)]; rfl
end
set_option maxHeartbeats 1000000 in
set_option maxRecDepth 100000 in
theorem mroot1_any (x : Int) (wb fb : Nat) (ft : TypeId) : ∀ (N : Nat) (ls : List (List UInt8)), ls.length ≤ N → 1 ≤ ls.length → ls.length ≤ 4611686018427387904 → (∀ b ∈ ls, b.length ≤ 140737488355200) → ∀ (v : Value) (w : World), SSl w w.heap.size v ls → Glob w →
    Blk w wb 3 #[.int .i64 x] → Blk w fb ft #[.func (.func 55) #[] #[.pointer (some ⟨wb, 0, none⟩), .pointer (some ⟨fb, 0, none⟩)]] →
    Calls Tryd.prog 55 #[v, .pointer (some ⟨wb, 0, none⟩), .pointer (some ⟨fb, 0, none⟩)] w fun e w' => e = .returned (.agg (dat (rootM (cutW x) ls))) ∧ Below w.heap.size w w' := by
  intro N
  induction N with
  | zero => intro ls h1 h2; omega
  | succ N ih =>
    intro ls hN h1 h62 hall v w hv hG hW hF
    have IH := Lib.hid ih
    have Hall := Lib.hid hall
    clear ih hall
    have hD := Blk.new w 38 (arr 32 fun _ => 0)
    have hb0 := below_new1 w (Obj.cells (arr 32 fun _ => 0) 38)
    obtain ⟨A, cap, vs, rfl, h2, h3, h4, h5, h6⟩ := hv
    have hv : SSl w w.heap.size (.slice A ls.length cap) ls := ⟨A, cap, vs, rfl, h2, h3, h4, h5, h6⟩
    clear h4 h5 h6 vs
    go_enter Tryd.func55, Tryd.ntmps55
    by_cases hone : ls.length = 1
    · have e1 : ((ls.length : Int) == 1) = true := by rw [beq_iff_eq]; omega
      go_upto_region 2 with fail
      refine wp_at (fun W => Blk W w.heap.size 38 (arr 32 fun _ => 0) ∧ Below w.heap.size w W) ⟨hD, hb0⟩ ?_
      clear hD hb0
      rintro W ⟨hD, hbel⟩
      have Hr := Lib.hid (rootM_single (cutW x) ls hone)
      have hlt : (0 : Int) < (ls.length : Int) := by omega
      refine wp_region_mixT 5 (.plain 0 <| .plain 1 <| .plain 2 <| .plain 3 <| .only 4 <| .done) (by kernel_rfl) (by kernel_rfl) (fun W1 hb1 => ?_)
      replace hD := hD.below hb1 hD.lt
      replace hbel := hbel.trans (hb1.mono hbel.size)
      clear hb1
      obtain ⟨b0, off, u, rfl, hb0, hcu, hu⟩ := (hv.next hbel).cellAt 0 (by omega)
      have Hlb : Hid ((ls.getD 0 []).length ≤ 140737488355200) := Lib.hid (Hall.out _ (by rw [List.getD_eq_getElem?_getD, List.getElem?_eq_getElem (show 0 < ls.length by omega)]; exact List.getElem_mem _))
      have cW : W1.cell? ⟨wb, 0, none⟩ = some (.int .i64 x) := by
        have := (hW.below hbel hW.lt).cell 0
        simpa using this
      have hwl : wb < W1.heap.size := (hW.below hbel hW.lt).lt
      rw [Nat.add_zero] at hcu
      clear hone e1 hv hN h1 h62 h2 h3
      iterate 4 (refine mix_plain rfl ?_; (first
        | (refine wpQuiet_load1 rfl _ (.tmp 1) rfl _ rfl _ Tryd.underlying3 rfl _ (fun _ ⟨e, he⟩ => by rw [he, plus_cell _ _ _ hwl]; exact cW) ?_; simp only [Act.put, List.setIfInBounds_toArray, List.set_cons_zero, List.set_cons_succ])
        | (refine wpQuiet_load1 rfl _ (.tmp 11) rfl _ rfl _ Tryd.underlying23 rfl _ (fun _ ⟨e, he⟩ => by rw [he, plus_cell _ _ _ hb0]; exact hcu) ?_; simp only [Act.put, List.setIfInBounds_toArray, List.set_cons_zero, List.set_cons_succ])
        | go_big_quiet_step (fail)); refine wpQuiet_nil ?_)
      refine mix_only rfl (fun K hK => ?_)
      go_wp2_with fail
      refine (mleaf_any x u (ls.getD 0 []) W1 hu Hlb.out (hG.next hbel)).mono ?_
      rintro e W2 ⟨rfl, hb1⟩
      go_wp2_with fail
      refine hK _ _ hb1 ?_
      clear hK K hcu cW hu
      replace hD := hD.below hb1 hD.lt
      replace hbel := hbel.trans (hb1.mono hbel.size)
      clear hb1
      refine mix_done ?_
      simp only [List.drop_succ_cons, List.drop_zero]
      refine wpList_storeDat rfl rfl 38 (.tmp 4) (.tmp 13) rfl w.heap.size rfl _ _ rfl _ hD (by kernel_rfl) ?_
      intro w10 hD10 hon10
      have hb10 := below_only hbel hon10 (Nat.le_refl _) hbel.size
      go_wp2
      refine bodyPost_ret (results_cell_row (p := 4) (ty := 38) rfl _ _ w.heap.size _ _ _ _ rfl hD10 Tryd.underlying38 rfl (by rw [dat_size]; kernel_rfl)) rfl ⟨?_, hb10⟩
      rw [Hr.out]; rfl
    · have e1 : ((ls.length : Int) == 1) = false := by rw [beq_eq_false_iff_ne]; omega
      go_wp2_with fail
      refine calls_at (fun W => Blk W w.heap.size 38 (arr 32 fun _ => 0) ∧ Below w.heap.size w W) ⟨hD, hb0⟩ ?_
      clear hD hb0
      rintro W ⟨hD, hbel⟩
      have h2l : 2 ≤ ls.length := by omega
      refine (half_any ls.length h2l h62 W).mono ?_
      rintro e _ ⟨rfl, rfl⟩
      have Hp := Lib.hid (half_parts ls h2l)
      have Hr := Lib.hid (rootM_node (cutW x) ls h2l)
      obtain ⟨p, hp⟩ : ∃ p, rootM (cutW x) (ls.take (halfN ls.length)) = p := ⟨_, rfl⟩
      obtain ⟨q, hq⟩ : ∃ q, rootM (cutW x) (ls.drop (halfN ls.length)) = q := ⟨_, rfl⟩
      have Hpq : Hid (p.length = 32 ∧ q.length = 32 ∧ rootM (cutW x) ls = nodeM (cutW x) p q) := Lib.hid ⟨by rw [← hp]; exact rootM_length _ _, by rw [← hq]; exact rootM_length _ _, by rw [Hr.out, hp, hq]⟩
      have Hp0 := Lib.hid hp
      have Hq0 := Lib.hid hq
      clear hp hq Hr e1 hone h2l
      obtain ⟨k, hk⟩ : ∃ k, halfN ls.length = k := ⟨_, rfl⟩
      rw [hk] at Hp Hp0 Hq0 ⊢
      clear hk
      have hkl : (k : Int) ≤ (ls.length : Int) := by have := Hp.out; omega
      have hk0 : (0 : Int) ≤ (k : Int) := by omega
      have hkc : (k : Int) ≤ (cap : Int) := by omega
      go_wp2_with fail
      refine wp_region_mixT 12 (.plain 0 <| .plain 1 <| .plain 2 <| .plain 3 <| .plain 4 <| .plain 6 <| .plain 7 <| .plain 8 <| .plain 9 <| .only 5 <| .only 10 <| .only 11 <| .done) (by kernel_rfl) (by kernel_rfl) (fun W1 hb1 => ?_)
      replace hD := hD.below hb1 hD.lt
      replace hbel := hbel.trans (hb1.mono hbel.size)
      clear hb1
      have cW : W1.cell? ⟨wb, 0, none⟩ = some (.int .i64 x) := by
        have := (hW.below hbel hW.lt).cell 0
        simpa using this
      have cF : W1.cell? ⟨fb, 0, none⟩ = some (.func (.func 55) #[] #[.pointer (some ⟨wb, 0, none⟩), .pointer (some ⟨fb, 0, none⟩)]) := by
        have := (hF.below hbel hF.lt).cell 0
        simpa using this
      have hwl : wb < W1.heap.size := (hW.below hbel hW.lt).lt
      have hfl : fb < W1.heap.size := (hF.below hbel hF.lt).lt
      have hv1 := hv.next hbel
      have hT := hv1.take k (by omega)
      have hR := hv1.drop k (by omega)
      clear hv hv1
      iterate 9 (refine mix_plain rfl ?_; (first
        | (refine wpQuiet_load1 rfl _ (.tmp 1) rfl _ rfl _ Tryd.underlying3 rfl _ (fun _ ⟨e, he⟩ => by rw [he, plus_cell _ _ _ hwl]; exact cW) ?_; simp only [Act.put, List.setIfInBounds_toArray, List.set_cons_zero, List.set_cons_succ])
        | (refine wpQuiet_load1 rfl _ (.tmp 2) rfl _ rfl _ Tryd.underlying118 rfl _ (fun _ ⟨e, he⟩ => by rw [he, plus_cell _ _ _ hfl]; exact cF) ?_; simp only [Act.put, List.setIfInBounds_toArray, List.set_cons_zero, List.set_cons_succ])
        | (refine wpQuiet_cutL rfl _ (.tmp 24) (.tmp 25) rfl 23 Tryd.underlying46 (by kernel_rfl) A ls.length cap k rfl rfl (by omega) ?_; simp only [Act.put, List.setIfInBounds_toArray, List.set_cons_zero, List.set_cons_succ])
        | go_big_quiet_step (fail)); refine wpQuiet_nil ?_)
      have hW1 := hW.below hbel hW.lt
      have hF1 := hF.below hbel hF.lt
      clear cW cF hwl hfl hW hF
      refine mix_only rfl (fun K hK => ?_)
      go_wp2_with fail
      refine (IH.out (ls.take k) (by have := Hp.out; omega) (by have := Hp.out; omega) (by have := Hp.out; omega) (fun b hb => Hall.out b (List.mem_of_mem_take hb)) _ W1 hT (hG.next hbel) hW1 hF1).mono ?_
      rintro e W2 ⟨rfl, hb1⟩
      rw [Hp0.out]
      go_wp2_with fail
      refine hK _ _ hb1 ?_
      clear hK K hT
      replace hD := hD.below hb1 hD.lt
      replace hR := hR.next hb1
      replace hW1 := hW1.below hb1 hW1.lt
      replace hF1 := hF1.below hb1 hF1.lt
      replace hbel := hbel.trans (hb1.mono hbel.size)
      clear hb1
      refine mix_only rfl (fun K hK => ?_)
      go_wp2_with fail
      refine (IH.out (ls.drop k) (by have := Hp.out; omega) (by have := Hp.out; omega) (by have := Hp.out; omega) (fun b hb => Hall.out b (List.mem_of_mem_drop hb)) _ W2 hR (hG.next hbel) hW1 hF1).mono ?_
      rintro e W3 ⟨rfl, hb1⟩
      rw [Hq0.out]
      go_wp2_with fail
      refine hK _ _ hb1 ?_
      clear hK K hR hW1 hF1
      replace hD := hD.below hb1 hD.lt
      replace hbel := hbel.trans (hb1.mono hbel.size)
      clear hb1
      refine mix_only rfl (fun K hK => ?_)
      go_wp2_with fail
      refine (mnode_any x p q Hpq.out.1 Hpq.out.2.1 W3 (hG.next hbel)).mono ?_
      rintro e W4 ⟨rfl, hb1⟩
      go_wp2_with fail
      refine hK _ _ hb1 ?_
      clear hK K
      replace hD := hD.below hb1 hD.lt
      replace hbel := hbel.trans (hb1.mono hbel.size)
      clear hb1
      refine mix_done ?_
      simp only [List.drop_succ_cons, List.drop_zero]
      refine wpList_storeDat rfl rfl 38 (.tmp 4) (.tmp 28) rfl w.heap.size rfl _ _ rfl _ hD (by kernel_rfl) ?_
      intro w10 hD10 hon10
      have hb10 := below_only hbel hon10 (Nat.le_refl _) hbel.size
      go_wp2
      refine bodyPost_ret (results_cell_row (p := 4) (ty := 38) rfl _ _ w.heap.size _ _ _ _ rfl hD10 Tryd.underlying38 rfl (by rw [dat_size]; kernel_rfl)) rfl ⟨?_, hb10⟩
      rw [Hpq.out.2.2]
set_option maxHeartbeats 400000 in
set_option maxRecDepth 100000 in
theorem mroot_any (x : Int) (v : Value) (ls : List (List UInt8)) (w : World) (hv : SSl w w.heap.size v ls) (h62 : ls.length ≤ 4611686018427387904) (hall : ∀ b ∈ ls, b.length ≤ 140737488355200) (hG : Glob w) :
    Calls Tryd.prog 20 #[.int .i64 x, v] w fun e w' => e = .returned (.agg (dat (rootM (cutW x) ls))) ∧ Below w.heap.size w w' := by
  have Hall := Lib.hid hall
  clear hall
  obtain ⟨A, cap, vs, rfl, h2, h3, h4, h5, h6⟩ := hv
  have hv : SSl w w.heap.size (.slice A ls.length cap) ls := ⟨A, cap, vs, rfl, h2, h3, h4, h5, h6⟩
  clear h4 h5 h6 vs
  have hX := (Blk.new w 3 #[.int .i64 x]).alloc (Obj.cells (arr 32 fun _ => 0) 38)
  have hD := Blk.new2 w (Obj.cells #[.int .i64 x] 3) 38 (arr 32 fun _ => 0)
  have hb2 := (below_new1 w (Obj.cells #[.int .i64 x] 3)).alloc (by simp) (Obj.cells (arr 32 fun _ => 0) 38)
  go_enter Tryd.func20, Tryd.ntmps20
  by_cases h0 : ls.length = 0
  · have hnil : ls = [] := List.eq_nil_of_length_eq_zero h0
    subst hnil
    go_wp2_with fail
    refine calls_at (fun W => Blk W (w.heap.size + 1) 38 (arr 32 fun _ => 0) ∧ Below w.heap.size w W) ⟨hD, hb2⟩ ?_
    clear hX hD hb2
    rintro W ⟨hD, hbel⟩
    refine (msum_any x _ [] W BSl.nil_ (by simp) (hG.next hbel)).mono ?_
    rintro e w1 ⟨rfl, hb1⟩
    replace hD := hD.below hb1 hD.lt
    replace hbel := hbel.trans (hb1.mono hbel.size)
    clear hb1
    go_wp2_with (first
      | (refine wpList_storeDat rfl rfl 38 (.tmp 4) (.tmp 10) rfl (w.heap.size + 1) rfl _ _ rfl _ hD (by kernel_rfl) ?_; intro w10 hD10 hon10))
    have hb10 := below_only hbel hon10 (by omega) hbel.size
    exact bodyPost_ret (results_cell_row (p := 4) (ty := 38) rfl _ _ (w.heap.size + 1) _ _ _ _ rfl hD10 Tryd.underlying38 rfl (by rw [dat_size]; kernel_rfl)) rfl ⟨rfl, hb10⟩
  · have e1 : ((ls.length : Int) == 0) = false := by rw [beq_eq_false_iff_ne]; omega
    have hmf : ∀ (fn : Fn) (first cap : Array Value) (w : World), (Instr.makeFunc fn first cap).run Tryd.prog w = .ok (.func fn first cap) w := fun _ _ _ _ => rfl
    have hF := Blk.new3 w (Obj.cells #[.int .i64 x] 3) (Obj.cells (arr 32 fun _ => 0) 38) 118 #[.nilFunc]
    have hX3 := hX.alloc (Obj.cells #[.nilFunc] 118)
    have hD3 := hD.alloc (Obj.cells #[.nilFunc] 118)
    have hb3 := hb2.alloc hb2.size (Obj.cells #[.nilFunc] 118)
    clear hX hD hb2
    go_upto_region 5 with (first
      | (refine wpList_store1 rfl rfl _ (.tmp 5) (.tmp 11) rfl (w.heap.size + 2) 0 rfl (.func (.func 55) #[] #[.pointer (some ⟨w.heap.size, 0, none⟩), .pointer (some ⟨w.heap.size + 2, 0, none⟩)]) rfl _ _ hF (by kernel_rfl) (by simp) rfl rfl ?_; intro w4 hF4 hon4))
    have hb4 := below_only hb3 hon4 (by omega) hb3.size
    have hX4 := hX3.grown hon4 (by simp)
    have hD4 := hD3.grown hon4 (by simp)
    clear hF hX3 hD3 hb3 hon4 hmf e1
    have cF := hF4.cell 0
    have hf0 : (#[Value.nilFunc].setIfInBounds 0 (.func (.func 55) #[] #[.pointer (some ⟨w.heap.size, 0, none⟩), .pointer (some ⟨w.heap.size + 2, 0, none⟩)])) = #[Value.func (.func 55) #[] #[.pointer (some ⟨w.heap.size, 0, none⟩), .pointer (some ⟨w.heap.size + 2, 0, none⟩)]] := rfl
    rw [hf0] at hF4 cF
    have cF : w4.cell? ⟨w.heap.size + 2, 0, none⟩ = some (.func (.func 55) #[] #[.pointer (some ⟨w.heap.size, 0, none⟩), .pointer (some ⟨w.heap.size + 2, 0, none⟩)]) := by simpa using cF
    clear hf0
    go_wp2_with fail
    refine (mroot1_any x w.heap.size (w.heap.size + 2) 118 ls.length ls (Nat.le_refl _) (by omega) h62 Hall.out _ w4 (hv.next hb4) (hG.next hb4) hX4 hF4).mono ?_
    rintro e w5 ⟨rfl, hb1⟩
    replace hD4 := hD4.below hb1 hD4.lt
    have hbel := hb4.trans (hb1.mono hb4.size)
    clear hb1 hF4 hX4 cF hb4
    go_wp2_with (first
      | (refine wpList_storeDat rfl rfl 38 (.tmp 4) (.tmp 14) rfl (w.heap.size + 1) rfl _ _ rfl _ hD4 (by kernel_rfl) ?_; intro w10 hD10 hon10))
    have hb10 := below_only hbel hon10 (by omega) hbel.size
    exact bodyPost_ret (results_cell_row (p := 4) (ty := 38) rfl _ _ (w.heap.size + 1) _ _ _ _ rfl hD10 Tryd.underlying38 rfl (by rw [dat_size]; kernel_rfl)) rfl ⟨rfl, hb10⟩
end Go.Proofs.YtcdkadidkkbhpaaDoor
