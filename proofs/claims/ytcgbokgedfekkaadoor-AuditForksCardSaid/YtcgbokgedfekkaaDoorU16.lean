/- Texts that stand behind one another: RefK, Ring, RingR, Tbl. No condition. -/
import Derived.Test.YtcgbokgedfekkaaDoorU15
import Derived.ArgAppend
import Derived.Maps.AppendAt
import Derived.Test.YtcgbokgedfekkaaDoorU11
import Derived.Test.YtcgbokgedfekkaaDoorU7
/- The walks of the references deponentref2 (Number) and deponentref11. No condition. -/
namespace Go.Proofs.YtcgbokgedfekkaaDoor
open Go.RowKit
attribute [local go_sem] n8_lo n8_hi n64_lo n64_hi n32_lo n32_hi
theorem width_any (k : Int) (hk : -9223372036854775808 ≤ k ∧ k ≤ 9223372036854775807) (w : World) : Calls Tryd.prog 122 #[.int .i64 k] w fun e w' => e = .returned (.int .i64 (clamp8 k)) ∧ w = w' := by
  obtain ⟨h1, h2⟩ := hk
  have hc : clamp8 k = if k < 1 then 1 else if k > 8 then 8 else k.toNat := rfl
  by_cases a : k < 1
  · rw [if_pos a] at hc
    have Hc := Lib.hid hc
    clear hc
    go_enter Tryd.func122, Tryd.ntmps122
    go_wp2
    go_ret
    exact ⟨by rw [Hc.out]; rfl, rfl⟩
  · rw [if_neg a] at hc
    by_cases b : k > 8
    · rw [if_pos b] at hc
      have Hc := Lib.hid hc
      clear hc
      go_enter Tryd.func122, Tryd.ntmps122
      go_wp2
      go_ret
      exact ⟨by rw [Hc.out]; rfl, rfl⟩
    · rw [if_neg b] at hc
      have Hc := Lib.hid hc
      clear hc
      go_enter Tryd.func122, Tryd.ntmps122
      go_wp2
      go_ret
      exact ⟨by rw [Hc.out, Int.toNat_of_nonneg (by omega)]; rfl, rfl⟩
set_option maxHeartbeats 1000000 in
set_option maxRecDepth 100000 in
theorem rnumber_any (u : Value) (bs : List UInt8) (n : UInt64) (k : Int) (hk : -9223372036854775808 ≤ k ∧ k ≤ 9223372036854775807) (w : World) (hu : BSl w w.heap.size u bs) (hl : bs.length ≤ 140737488355264) :
    Calls Tryd.prog 94 #[u, .int .u64 (n64 n), .int .i64 k] w fun e w' => ∃ v, e = .returned v ∧ w'.ownsRow w.heap.size 5 1 v ((bs ++ numB n (clamp8 k)).map v8).length ((bs ++ numB n (clamp8 k)).map v8) ∧ Below w.heap.size w w' := by
  obtain ⟨A, c, rfl, h1, h2, hr⟩ := hu
  have s1 := clamp8_lo k
  have s8 := clamp8_hi k
  have hoe := own_emptyB w w.heap.size (Nat.le_refl _)
  have hb1 := below_new1 w (Obj.cells #[] 5)
  go_enter Tryd.func94, Tryd.ntmps94
  go_wp2_with (first
    | (at_builtin; refine wpList_appendS rfl (.tmp 9) (.tmp 10) rfl w.heap.size _ [] bs rfl hoe _ _ _ _ rfl rfl (hr.below hb1) (by simp; omega) hb1.size w hb1 ?_; intro u1 w1 hown1 hb2; simp only [List.nil_append] at hown1))
  clear hoe hb1
  refine (width_any k hk _).mono ?_
  rintro e w' ⟨rfl, rfl⟩
  obtain ⟨s, hs⟩ : ∃ s, clamp8 k = s := ⟨_, rfl⟩
  rw [hs] at s1 s8
  have Hs := Lib.hid hs
  rw [hs]
  clear hs
  have h0 := numTo_0 n s
  have hE := Lib.hid (numTo_end n s)
  have hS := Lib.hid (numTo_step n s)
  have hb0 := Lib.hid (byte_val n)
  go_wp2_with fail
  go_loopw [7, 8] (fun o iv wr => ∃ j : Nat, j ≤ s ∧ iv = .int .i64 ((j : Int) - 1) ∧ wr.ownsRow w.heap.size 5 1 o ((bs ++ numTo n s j).map v8).length ((bs ++ numTo n s j).map v8) ∧ Below w.heap.size w wr) (fun _ iv _ => ((intOf iv) + 1).toNat)
  case atStart => exact ⟨s, Nat.le_refl _, rfl, by rw [h0, List.append_nil]; exact hown1, hb2⟩
  case round =>
    clear hown1 hb2 h0 hr
    obtain ⟨j, hj, rfl, hown, hbel⟩ := hrel
    by_cases h0 : j = 0
    · subst h0
      have hd : decide ((0 : Int) ≤ ((0 : Nat) : Int) - 1) = false := by decide
      rw [hE.out] at hown
      go_wp2
      go_ret
      exact ⟨_, rfl, by rw [Hs.out]; exact hown, hbel⟩
    · obtain ⟨i, rfl⟩ : ∃ i, j = i + 1 := ⟨j - 1, by omega⟩
      have hi8 : i < 8 := by omega
      have hst := Lib.hid (hS.out i (by omega))
      have hbv := hb0.out i
      have hlt : (numTo n s (i + 1)).length ≤ 8 := by unfold numTo; rw [List.length_take, numB_length]; omega
      have hlen : ((bs ++ numTo n s (i + 1)).map v8).length + 1 ≤ 140737488355328 := by simp; omega
      have e8 : IntKind.i64.wrap (8 * (i : Int)) = ((8 * i : Nat) : Int) := by rw [IntWalk.i64_in _ (by omega)]; omega
      rw [show (((i + 1 : Nat) : Int) - 1) = (i : Int) by omega]
      have Hlen := Lib.hid hlen
      clear hlen
      have hsz := hbel.size
      go_wp2_with (first
        | (at_builtin; refine wpList_append1 rfl (.tmp 19) (.tmp 26) rfl w.heap.size _ _ rfl hown (.int .u8 (n8 (byteAt n i))) rfl rfl Hlen.out hsz w hbel ?_; intro u9 w9 hown9 hb9))
      rw [show (bs ++ numTo n s (i + 1)).map v8 ++ [Value.int .u8 (n8 (byteAt n i))] = (bs ++ numTo n s i).map v8 by rw [hst.out, ← List.append_assoc, List.map_append (l₁ := bs ++ numTo n s (i + 1))]; rfl] at hown9
      go_roundw
      case rel => exact ⟨i, by omega, rfl, hown9, hb9⟩
      case measure => simp [intOf]
theorem byte_of (x : Int) : [UInt8.ofNat (x % 256).toNat] = numB (i64u x) 1 := by
  unfold numB
  simp only [List.range_succ, List.range_zero, List.nil_append, List.map_cons, List.map_nil, byteAt]
  congr 1
  unfold i64u
  rw [UInt64.toNat_ofNat_of_lt' (by show _ < 18446744073709551616; omega)]
  apply UInt8.toNat_inj.1
  simp only [UInt8.toNat_ofNat']
  omega
theorem n8_of (x : Int) : x % 256 = n8 (UInt8.ofNat (x % 256).toNat) := by
  unfold n8; rw [UInt8.toNat_ofNat']; omega
theorem freeze_blk {V : World} {g : Nat} {t : TypeId} {cs : Array Value} (h : Blk V g t cs) (a : Addr) (hne : g ≠ a.block) (n : Nat) : Blk (V.freeze a n) g t cs := by
  unfold Blk at *
  unfold World.freeze
  split
  · exact h
  · rw [Array.getElem?_modify, if_neg (fun e => hne e.symm)]; exact h
/-- append of one byte, out of a slice literal, onto a full slice of marked bytes -/
theorem wpList_appendFull {wr : World} {ops : Array Oper} {rest : List Oper} {o : Oper} {a : Act} {Q : Exit → Act → World → Prop} (hgd : o.guard = none) (s x : Operand)
    (ho : o.op = .call { callee := .builtin .append, args := #[s, x], argTypes := #[46, 46] })
    (g n : Nat) (bs : List UInt8) (hn : bs.length = n) (hg : Lit wr g bs) (hs : a.eval s = .slice (some ⟨g, 0, none⟩) n n) (b : UInt8)
    (hx : a.eval x = .slice (some ⟨wr.heap.size, 0, none⟩) 1 1) (hl : n ≤ 140737488355264)
    (h : ∀ v' w', w'.ownsRow wr.heap.size 5 1 v' ((bs ++ [b]).map v8).length ((bs ++ [b]).map v8) → Below wr.heap.size wr w' → wpList Tryd.prog ops Q rest (a.put o.dst v') w') :
    wpList Tryd.prog ops Q (o :: rest) a (wr.alloc (Obj.cells #[.int .u8 (n8 b)] 5)) := by
  subst hn
  obtain ⟨i0, hi, hz0, hz1, hz2⟩ := info_parts (by kernel_rfl : (Tryd.prog.info? 5).map (fun i => (i.zero, i.size, i.bytes)) = some (some (.int .u8 0), 1, 1))
  have hg1 := hg.alloc (Obj.cells #[.int .u8 (n8 b)] 5)
  obtain ⟨t, fr, hg1⟩ := hg1
  refine wpList_append_arg _ hgd s x _ ho 5 i0 _ 1 1 Tryd.underlying46 hi hz0 hz1 hz2 rfl (by decide) g 0 bs.length bs.length (bs.map v8) hs (by simp) (fun j u hu => by rw [Nat.zero_add, cell_of_row _ g j _ t fr hg1, ← hu]; simp) ⟨wr.heap.size, 0, none⟩ 1 1 [.int .u8 (n8 b)] hx rfl ?_ ?_ (fun hh => by omega) (by unfold maxLen; omega) (by omega) (fun hh => by omega) ?_
  · intro j u hj
    have hB := Blk.new wr 5 #[.int .u8 (n8 b)]
    have : j = 0 := by cases j with
      | zero => rfl
      | succ j => simp at hj
    subst this
    have e : (⟨wr.heap.size, 0, none⟩ : Addr).add 0 = ⟨wr.heap.size, 0, none⟩ := by simp [Addr.add]
    rw [e, hB.cell, ← hj]; simp
  · intro u hu; rw [List.mem_singleton] at hu; subst hu; rfl
  · intro _ v' w' hown hgr
    have hb : Below wr.heap.size wr w' := by
      have h1 := below_new1 wr (Obj.cells #[.int .u8 (n8 b)] 5)
      exact ⟨hgr.os.trans h1.os, hgr.tape.trans h1.tape, hgr.output.trans h1.output, Nat.le_trans h1.size hgr.size, fun k hk => (hgr.block k (Nat.lt_of_lt_of_le hk h1.size) (by simp)).trans (h1.block k hk)⟩
    have e1 : bs.map v8 ++ [Value.int .u8 (n8 b)] = (bs ++ [b]).map v8 := by rw [List.map_append]; rfl
    have e2 : bs.length + 1 = ((bs ++ [b]).map v8).length := by simp
    rw [e1, e2] at hown
    refine h v' w' ⟨hown.1, ?_⟩ hb
    rcases hown.2 with h0 | ⟨g', cap, cur, h1, h2, h3⟩
    · exact .inl h0
    · exact .inr ⟨g', cap, cur, h1, Nat.le_trans (below_new1 wr _).size h2, h3⟩
set_option maxHeartbeats 400000 in
set_option maxRecDepth 100000 in
theorem rkey_any (t u : Value) (seed : List UInt8) (tree epoch : Int) (draw : UInt32) (w : World) (hT : Tbl w w.heap.size t) (hu : BSl w w.heap.size u seed) (hl : seed.length ≤ 140737488355128)
    (ht : -9223372036854775808 ≤ tree ∧ tree ≤ 9223372036854775807) (he : -9223372036854775808 ≤ epoch ∧ epoch ≤ 9223372036854775807) :
    Calls Tryd.prog 107 #[t, u, .int .i64 tree, .int .i64 epoch, .int .u32 (n32 draw)] w fun e w' => e = .returned (.agg (dat (keyL' seed tree epoch draw))) ∧ Below w.heap.size w w' := by
  obtain ⟨ht1, ht2⟩ := ht
  obtain ⟨he1, he2⟩ := he
  obtain ⟨tb, v1, htb⟩ : ∃ tb : UInt8, tree % 256 = n8 tb ∧ Hid ([tb] = numB (i64u tree) 1) := ⟨UInt8.ofNat (tree % 256).toNat, n8_of tree, Lib.hid (byte_of tree)⟩
  have v1' : IntKind.u8.wrap tree = n8 tb := (IntKind.wrap_u8 tree).trans v1
  have v2 := Lib.hid ((wrap_u64' epoch).trans (i64u_val epoch))
  have hD := Blk.new w 35 (arr 32 fun _ => 0)
  have hb0 := below_new1 w (Obj.cells (arr 32 fun _ => 0) 35)
  have hL : Lit ((w.alloc (Obj.cells (arr 32 fun _ => 0) 35)).alloc (Obj.cells #[.int .u8 107, .int .u8 101, .int .u8 121] 5)) (w.heap.size + 1) keyTxt := by
    have := Lit.new (w.alloc (Obj.cells (arr 32 fun _ => 0) 35)) keyTxt 5
    rwa [show (w.alloc (Obj.cells (arr 32 fun _ => 0) 35)).heap.size = w.heap.size + 1 by simp] at this
  have hD2 := hD.alloc (Obj.cells #[.int .u8 107, .int .u8 101, .int .u8 121] 5)
  have hb2 := hb0.alloc hb0.size (Obj.cells #[.int .u8 107, .int .u8 101, .int .u8 121] 5)
  clear hD hb0
  go_enter Tryd.func107, Tryd.ntmps107
  go_wp2_with (first
    | (refine wpList_convSelf rfl _ 5 (.tmp 12) rfl Tryd.underlying46 Tryd.underlying5 (w.heap.size + 1) 3 3 rfl keyTxt hL ?_; intro kk; have hL := hL.freeze ⟨w.heap.size + 1, kk, none⟩ 1; have hD3 := freeze_blk hD2 ⟨w.heap.size + 1, kk, none⟩ (by show _ ≠ w.heap.size + 1; omega) 1; have hb3 := below_freeze hb2 ⟨w.heap.size + 1, kk, none⟩ (by show _ ≤ w.heap.size + 1; omega) 1; refine wpl_at (fun W => Blk W w.heap.size 35 (arr 32 fun _ => 0) ∧ Lit W (w.heap.size + 1) keyTxt ∧ Below w.heap.size w W) ⟨hD3, hL, hb3⟩ ?_; clear hD2 hL hb2 hD3 hb3; rintro W ⟨hD, hL, hbel⟩)
    | (at_builtin; refine wpList_appendFull rfl (.tmp 13) (.tmp 16) rfl (w.heap.size + 1) 3 keyTxt rfl hL rfl tb rfl (by decide) ?_; intro u1 w1 hown1 hb1))
  have hD1 := hD.below hb1 hD.lt
  have hbel1 := hbel.trans (hb1.mono hbel.size)
  have hB1 := BSl.of_own hown1
  clear hown1 hb1 hL hD hbel
  rw [v2.out]
  refine (rnumber_any u1 (keyTxt ++ [tb]) (i64u epoch) 4 (by decide) w1 hB1 (by simp [keyTxt])).mono ?_
  rintro e w2 ⟨u2, rfl, hown2, hb2⟩
  rw [show clamp8 4 = 4 from rfl] at hown2
  have hD2 := hD1.below hb2 hD1.lt
  have hbel2 := hbel1.trans (hb2.mono hbel1.size)
  have hB2 := BSl.of_own hown2
  clear hown2 hb2 hB1 hD1 hbel1
  go_wp2_with fail
  rw [show IntKind.u64.wrap (n32 draw) = n64 draw.toUInt64 from (wrap_u64' _).trans (cv32_64 draw)]
  refine (rnumber_any u2 _ draw.toUInt64 4 (by decide) w2 hB2 (by simp [keyTxt, numB_length])).mono ?_
  rintro e w3 ⟨u3, rfl, hown3, hb3⟩
  rw [show clamp8 4 = 4 from rfl] at hown3
  have hD3 := hD2.below hb3 hD2.lt
  have hbel3 := hbel2.trans (hb3.mono hbel2.size)
  have hB3 := BSl.of_own hown3
  clear hown3 hb3 hB2 hD2 hbel2
  have hkd : keyTxt ++ [tb] ++ numB (i64u epoch) 4 ++ numB draw.toUInt64 4 = keyB tree epoch draw := by rw [htb.out]; simp [keyB]
  rw [hkd] at hB3
  have Hkl := Lib.hid (keyB_length tree epoch draw)
  clear hkd
  go_wp2_with fail
  refine (rmac_any t u u3 seed (keyB tree epoch draw) w3 (by obtain ⟨g, rfl, hg, hT⟩ := hT; exact ⟨g, rfl, Nat.lt_of_lt_of_le hg hbel3.size, hT.below hbel3 hg⟩) (hu.next hbel3) hB3 hl (by rw [Hkl.out]; decide)).mono ?_
  rintro e w4 ⟨rfl, hb4⟩
  have hD4 := hD3.below hb4 hD3.lt
  have hbel4 := hbel3.trans (hb4.mono hbel3.size)
  clear hb4 hB3 hD3 hbel3
  go_wp2_with (first
    | (refine wpList_storeDat rfl rfl 35 (.tmp 10) (.tmp 28) rfl w.heap.size rfl _ _ rfl _ hD4 (by kernel_rfl) ?_; intro w10 hD10 hon10))
  have hb10 := below_only hbel4 hon10 (Nat.le_refl _) hbel4.size
  exact bodyPost_ret (results_cell_row (p := 10) (ty := 35) rfl _ _ w.heap.size _ _ _ _ rfl hD10 Tryd.underlying35 rfl (by rw [dat_size]; kernel_rfl)) rfl ⟨rfl, hb10⟩
theorem head_root_reads {w : World} {g : Nat} {t : TypeId} {h : HeadL} (hB : Blk w g t (headC h)) (hr : h.root.length = 32) : Reads w w.heap.size (some ⟨g, 4, none⟩) (h.root.map v8) :=
  fun _ => ⟨g, 4, rfl, hB.lt, fun j u hu => head_range hB hr j u hu⟩
set_option maxHeartbeats 400000 in
set_option maxRecDepth 100000 in
theorem rbytes_any (h : HeadL) (hok : h.ok) (w : World) :
    Calls Tryd.prog 127 #[.agg (headC h)] w fun e w' => ∃ v, e = .returned v ∧ BSl w' w'.heap.size v (headB h) ∧ Below w.heap.size w w' := by
  obtain ⟨hr, ⟨ht1, ht2⟩, he1, he2⟩ := hok
  obtain ⟨tb, v1, htb⟩ : ∃ tb : UInt8, h.tree % 256 = n8 tb ∧ Hid ([tb] = numB (i64u h.tree) 1) := ⟨UInt8.ofNat (h.tree % 256).toNat, n8_of h.tree, Lib.hid (byte_of h.tree)⟩
  have v1' : IntKind.u8.wrap h.tree = n8 tb := (IntKind.wrap_u8 h.tree).trans v1
  have v2 := Lib.hid ((wrap_u64' h.epoch).trans (i64u_val h.epoch))
  have Hr := Lib.hid hr
  clear hr
  have hD := Blk.new w 64 (headC h)
  have hb0 := below_new1 w (Obj.cells (headC h) 64)
  have hL : Lit ((w.alloc (Obj.cells (headC h) 64)).alloc (Obj.cells #[.int .u8 104, .int .u8 101, .int .u8 97, .int .u8 100] 5)) (w.heap.size + 1) headTxt := by
    have := Lit.new (w.alloc (Obj.cells (headC h) 64)) headTxt 5
    rwa [show (w.alloc (Obj.cells (headC h) 64)).heap.size = w.heap.size + 1 by simp] at this
  have hD2 := hD.alloc (Obj.cells #[.int .u8 104, .int .u8 101, .int .u8 97, .int .u8 100] 5)
  have hb2 := hb0.alloc hb0.size (Obj.cells #[.int .u8 104, .int .u8 101, .int .u8 97, .int .u8 100] 5)
  clear hD hb0
  go_enter Tryd.func127, Tryd.ntmps127
  go_wp2_with (first
    | (refine wpList_convSelf rfl _ 5 (.tmp 4) rfl Tryd.underlying46 Tryd.underlying5 (w.heap.size + 1) 4 4 rfl headTxt hL ?_; intro kk; have hL := hL.freeze ⟨w.heap.size + 1, kk, none⟩ 1; have hD3 := freeze_blk hD2 ⟨w.heap.size + 1, kk, none⟩ (by show _ ≠ w.heap.size + 1; omega) 1; have hb3 := below_freeze hb2 ⟨w.heap.size + 1, kk, none⟩ (by show _ ≤ w.heap.size + 1; omega) 1; refine wpl_at (fun W => Blk W w.heap.size 64 (headC h) ∧ Lit W (w.heap.size + 1) headTxt ∧ Below w.heap.size w W ∧ W.cell? ⟨w.heap.size, 0, none⟩ = some (.int .i64 h.tree)) ⟨hD3, hL, hb3, by rw [hD3.cell]; exact headC_0 h⟩ ?_; clear hD2 hL hb2 hD3 hb3; rintro W ⟨hD, hL, hbel, c0⟩)
    | (at_builtin; refine wpList_appendFull rfl (.tmp 5) (.tmp 9) rfl (w.heap.size + 1) 4 headTxt rfl hL rfl tb rfl (by decide) ?_; intro u1 w1 hown1 hb1; have hD1 := hD.below hb1 hD.lt; have hbel1 := hbel.trans (hb1.mono hbel.size); have hB1 := BSl.of_own hown1; clear hown1 hb1 hL hD hbel c0; have c1 : w1.cell? ⟨w.heap.size, 1, none⟩ = some (.int .i64 h.epoch) := (by rw [hD1.cell]; exact headC_1 h)))
  rw [v2.out]
  refine (rnumber_any u1 _ (i64u h.epoch) 4 (by decide) w1 hB1 (by simp [headTxt, numB_length])).mono ?_
  rintro e w2 ⟨u2, rfl, hown2, hb2⟩
  rw [show clamp8 4 = 4 from rfl] at hown2
  have hD2 := hD1.below hb2 hD1.lt
  have hbel2 := hbel1.trans (hb2.mono hbel1.size)
  have hbz2 := hb2.size
  have hB2 := BSl.of_own hown2
  clear hb2 hB1 hD1 hbel1 c1
  have c2 : w2.cell? ⟨w.heap.size, 2, none⟩ = some (.int .u64 (n64 h.size)) := by rw [hD2.cell]; exact headC_2 h
  go_wp2_with fail
  refine (rnumber_any u2 _ (h.size) 8 (by decide) w2 hB2 (by simp [headTxt, numB_length])).mono ?_
  rintro e w3 ⟨u3, rfl, hown3, hb3⟩
  rw [show clamp8 8 = 8 from rfl] at hown3
  have hD3 := hD2.below hb3 hD2.lt
  have hbel3 := hbel2.trans (hb3.mono hbel2.size)
  have hbz3 := hb3.size
  have hz3 := hbel3.size
  have hB3 := BSl.of_own hown3
  clear hb3 hB2 hD2 hbel2 c2 hown2 hbz2
  have c3 : w3.cell? ⟨w.heap.size, 3, none⟩ = some (.int .u64 (n64 h.clock)) := by rw [hD3.cell]; exact headC_3 h
  go_wp2_with fail
  refine (rnumber_any u3 _ (h.clock) 8 (by decide) w3 hB3 (by simp [headTxt, numB_length])).mono ?_
  rintro e w4 ⟨u4, rfl, hown4, hb4⟩
  rw [show clamp8 8 = 8 from rfl] at hown4
  have hD4 := hD3.below hb4 hD3.lt
  have hbel4 := hbel3.trans (hb4.mono hbel3.size)
  have hbz4 := hb4.size
  have hB4 := BSl.of_own hown4
  clear hb4 hB3 hD3 hbel3 c3 hown3 hbz3
  have hrd := head_root_reads hD4 Hr.out
  go_wp2_with (first
    | (at_builtin; refine wpList_appendS rfl (.tmp 24) (.tmp 26) rfl w3.heap.size _ _ h.root rfl hown4 _ _ _ _ rfl Hr.out hrd (by rw [Hr.out]; simp [headTxt, numB_length]) hbz4 w4 ((Below.refl w4.heap.size w4).mono hbz4) ?_; intro u5 w5 hown5 hb5))
  go_ret
  have hbel5 := hbel4.trans (hb5.mono hz3)
  have hB5 := BSl.of_own hown5
  have hkd : headTxt ++ [tb] ++ numB (i64u h.epoch) 4 ++ numB h.size 8 ++ numB h.clock 8 ++ h.root = headB h := by rw [htb.out]; simp [headB]
  rw [hkd] at hB5
  exact ⟨_, rfl, hB5, hbel5⟩
set_option maxHeartbeats 400000 in
set_option maxRecDepth 100000 in
theorem rsign_any (t : Value) (key : List UInt8) (hkl : key.length = 32) (h : HeadL) (hok : h.ok) (w : World) (hT : Tbl w w.heap.size t) :
    Calls Tryd.prog 106 #[t, .agg (dat key), .agg (headC h)] w fun e w' => e = .returned (.agg (sigC h (tagL key h))) ∧ Below w.heap.size w w' := by
  have Hk := Lib.hid hkl
  clear hkl
  have Hb57 := Lib.hid (headB_length h hok.1)
  have hzv := zero_sig
  go_enter Tryd.func106, Tryd.ntmps106
  go_wp2
  clear hzv
  refine wp_at (fun W => Blk W w.heap.size 35 (dat key) ∧ Blk W (w.heap.size + 1) 64 (headC h) ∧ Blk W (w.heap.size + 2) 66 (sigC zeroHead []) ∧ Below w.heap.size w W)
    ⟨((Blk.new w _ _).alloc _).alloc _, (Blk.new2 _ _ _ _).alloc _, Blk.new3 _ _ _ _ _, below_new3 _ _ _ _⟩ ?_
  rintro W ⟨hK, hH, hS, hbel⟩
  refine wp_region_mixT 7 (.plain 0 <| .plain 1 <| .plain 2 <| .plain 3 <| .only 4 <| .only 5 <| .plain 6 <| .done) (by kernel_rfl) (by kernel_rfl) (fun W1 hb1 => ?_)
  have hK1 := hK.below hb1 hK.lt
  have hH1 := hH.below hb1 hH.lt
  have hS1 := hS.below hb1 hS.lt
  have hbel1 := hbel.trans (hb1.mono hbel.size)
  clear hK hH hS hbel hb1
  repeat (refine mix_plain rfl ?_; (first
    | (refine wpQuiet_load rfl 64 (.tmp 5) rfl (w.heap.size + 1) rfl _ _ _ _ (fun _ ⟨e, he⟩ => by rw [he]; exact hH1.plus e) Tryd.underlying64 rfl (by rw [headC_size]; kernel_rfl) ?_; simp only [Act.put, List.setIfInBounds_toArray, List.set_cons_zero, List.set_cons_succ])
    | go_big_quiet_step (fail)); refine wpQuiet_nil ?_)
  refine mix_only rfl (fun K hK => ?_)
  go_wp2_with fail
  refine (rbytes_any h hok W1).mono ?_
  rintro e W2 ⟨v2, rfl, hv2, hb2⟩
  go_wp2_with fail
  refine hK _ _ hb2 ?_
  clear hK K
  have hK2 := hK1.below hb2 hK1.lt
  have hS2 := hS1.below hb2 hS1.lt
  have hbel2 := hbel1.trans (hb2.mono hbel1.size)
  clear hK1 hH1 hS1 hbel1 hb2
  refine mix_only rfl (fun K hK => ?_)
  go_wp2_with fail
  refine (rmac_any t _ v2 key (headB h) W2 (by obtain ⟨g, rfl, hg, hT⟩ := hT; exact ⟨g, rfl, Nat.lt_of_lt_of_le hg hbel2.size, hT.below hbel2 hg⟩) (BSl.of_dat hK2 _ hK2.lt Hk.out) hv2 (by rw [Hk.out]; decide) (by rw [Hb57.out]; decide)).mono ?_
  rintro e W3 ⟨rfl, hb3⟩
  go_wp2_with fail
  refine hK _ _ hb3 ?_
  clear hK K
  have hS3 := hS2.below hb3 hS2.lt
  have hbel3 := hbel2.trans (hb3.mono hbel2.size)
  clear hK2 hS2 hbel2 hb3 hv2
  refine mix_plain rfl ?_
  refine wpQuiet_build2 rfl 66 (.tmp 7) (.tmp 12) rfl _ _ rfl rfl (sigC h (mac key (headB h))) (built_sig h (mac key (headB h))) ?_
  simp only [Act.put, List.setIfInBounds_toArray, List.set_cons_zero, List.set_cons_succ]
  refine wpQuiet_nil ?_
  refine mix_done ?_
  simp only [List.drop_succ_cons, List.drop_zero]
  refine wpList_storeB rfl rfl 66 (.tmp 6) (.tmp 13) rfl (w.heap.size + 2) 0 rfl (sigC h (mac key (headB h))) rfl _ _ hS3 (by rw [sigC_size]; kernel_rfl) (by rw [sigC_size, sigC_size]; omega) (sigC_one _ _) ?_
  intro W4 hS4 hon4
  rw [copied_all _ _ (by rw [sigC_size, sigC_size])] at hS4
  have hb4 := below_only hbel3 hon4 (by omega) hbel3.size
  go_wp2
  exact bodyPost_ret (results_cell_row (p := 6) (ty := 66) rfl _ _ (w.heap.size + 2) _ _ _ _ rfl hS4 Tryd.underlying66 rfl (by rw [sigC_size]; kernel_rfl)) rfl ⟨rfl, hb4⟩
end Go.Proofs.YtcgbokgedfekkaaDoor

/- The walks of keys' Ring. No condition. -/
namespace Go.Proofs.YtcgbokgedfekkaaDoor
open Go.RowKit
attribute [local go_sem] n8_lo n8_hi n64_lo n64_hi n32_lo n32_hi
theorem results_cell_tmp {P : Program} {fn : Func} {p q : Tmp} {ty : TypeId} (h : fn.results = #[.cell p ty, .tmp q]) (tmps : Array Value) (w : World) (g : Nat) (t : TypeId) (cs : Array Value) (fr : Nat × Nat) (d : TypeDesc)
    (hp : tmps.getD p undef = .pointer (some ⟨g, 0, none⟩)) (hg : w.heap[g]? = some (.cells cs t fr))
    (hu : P.underlying ty = some d) (hd : (match d with | .struct _ | .array _ _ => true | _ => false) = true) (hi : (P.info? ty).map (·.size) = some cs.size) :
    (results fn tmps).run P w = .ok (.tuple #[.agg cs, tmps.getD q undef]) w := by
  have hp' : tmps[p]?.getD undef = .pointer (some ⟨g, 0, none⟩) := by simpa using hp
  simp [results, h, hp', asAddr, run_loadVar_row w g t ty cs fr d hg hu hd hi]
theorem headC_epoch (h : HeadL) (t k : Int) (ht : h.tree = t) : (headC h).setIfInBounds 1 (.int .i64 k) = headC ⟨t, k, h.size, h.clock, h.root⟩ := by
  subst ht
  unfold headC
  apply Array.toList_inj.1
  rw [Array.toList_setIfInBounds, Array.toList_append, Array.toList_append]
  rfl
theorem sigC_0 (h : HeadL) (tag : List UInt8) : (sigC h tag)[0]? = some (.int .i64 h.tree) := by unfold sigC; rw [Array.getElem?_append_left (by rw [headC_size]; omega)]; exact headC_0 h
theorem sigC_1 (h : HeadL) (tag : List UInt8) : (sigC h tag)[1]? = some (.int .i64 h.epoch) := by unfold sigC; rw [Array.getElem?_append_left (by rw [headC_size]; omega)]; exact headC_1 h
end Go.Proofs.YtcgbokgedfekkaaDoor

/- The refusals of keys' Ring. No condition. -/
namespace Go.Proofs.YtcgbokgedfekkaaDoor
open Go.RowKit
attribute [local irreducible] mixW
attribute [local go_sem] n8_lo n8_hi n64_lo n64_hi n32_lo n32_hi
theorem built_S0 : Tryd.prog.built 66 [] = some (sigC zeroHead []) := by kernel_rfl
theorem wpList_build {P : Program} {w : World} {ops : Array Oper} {rest : List Oper} {o : Oper} {a : Act} {Q : Exit → Act → World → Prop} (hg : o.guard = none) (t : TypeId) (parts : Array (Nat × Operand)) (ho : o.op = .build t parts) (cells : Array Value) (hb : P.built t (parts.map fun (i, x) => (i, a.eval x)).toList = some cells)
    (hk : wpList P ops Q rest (a.put o.dst (.agg cells)) w) : wpList P ops Q (o :: rest) a w :=
  wpList_plain hg fun K hK => by
    unfold Oper.wp execOp
    simp only [ho, Sem.run_bind, run_build w t _ cells hb, Result.andThen_ok, Sem.run_pure]
    exact hK _ _ hk
end Go.Proofs.YtcgbokgedfekkaaDoor

/- The reference's table stays in later worlds. No condition. -/
namespace Go.Proofs.YtcgbokgedfekkaaDoor
open Go.RowKit
theorem Tbl.nxt {w w' : World} {t : Value} (h : Tbl w w.heap.size t) (hb : Below w.heap.size w w') : Tbl w' w'.heap.size t := by
  obtain ⟨g, rfl, hg, hT⟩ := h; exact ⟨g, rfl, Nat.lt_of_lt_of_le hg hb.size, hT.below hb hg⟩
end Go.Proofs.YtcgbokgedfekkaaDoor
