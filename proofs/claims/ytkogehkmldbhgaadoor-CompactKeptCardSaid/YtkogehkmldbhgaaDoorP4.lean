/- Texts that stand behind one another: Make, RefA, RefB, Quiet, ShaD. No condition. -/
import Derived.Test.YtkogehkmldbhgaaDoorP3
import Derived.Deep.DeepMust
import Derived.Deep.DeepCutAuto
import Derived.Test.YtkogehkmldbhgaaDoorP1
import Derived.Deep.QuietTactic
import Derived.ChangeKeysEq
/- make([]T, n) as an exact law of the walk; slices of uint64. No condition. -/
namespace Go.Proofs.YtkogehkmldbhgaaDoor
open Go Go.RowKit
theorem madeCells_one (z : Value) (hz : z.cells = #[z]) (n : Nat) : madeCells z.cells n = (List.replicate n z).toArray := by
  rw [hz]
  apply Array.ext
  · simp [madeCells]
  · intro i h1 h2
    simp [madeCells, Nat.mod_one]
theorem wpList_makeB {P : Program} {w : World} {ops : Array Oper} {rest : List Oper} {o : Oper} {a : Act} {Q : Exit → Act → World → Prop} (hgd : o.guard = none) (l c : Operand) (t : TypeId) (ho : o.op = Op.makeSlice t l c)
    (e : TypeId) (i : TypeInfo) (z : Value) (ht : P.underlying t = some (.slice e)) (hi : P.info? e = some i) (hz : i.zero = some z) (hs : i.size = 1) (hzc : z.cells = #[z])
    (kl kc : IntKind) (n : Nat) (hl : a.eval l = .int kl (n : Int)) (hc : a.eval c = .int kc (n : Int)) (hbytes : i.bytes * n ≤ 281474976710656) (h63 : n ≤ 9223372036854775807)
    (h : wpList P ops Q rest (a.put o.dst (.slice (some ⟨w.heap.size, 0, none⟩) n n)) (w.alloc (.cells (List.replicate n z).toArray e))) : wpList P ops Q (o :: rest) a w := by
  refine wpList_plain hgd fun K hK => ?_
  have hb : (i.bytes : Int) * (n : Int) ≤ 281474976710656 := by
    have h : ((i.bytes * n : Nat) : Int) ≤ 281474976710656 := by omega
    rwa [Int.natCast_mul] at h
  have hr := run_make (P := P) w t e i z ht hi hz kl kc n n (by omega) (by omega) hb (by omega)
  rw [Int.toNat_natCast, hs, Nat.mul_one, madeCells_one z hzc] at hr
  unfold Oper.wp
  simp [execOp, ho, hl, hc, hr, Result.andThen]
  exact hK _ _ h
theorem wpList_store1 {P : Program} {w : World} {ops : Array Oper} {rest : List Oper} {o : Oper} {a : Act} {Q : Exit → Act → World → Prop} (hgd : o.guard = none) (hdst : o.dst = none) (ty : TypeId) (x y : Operand) (ho : o.op = .store ty x y) (g off : Nat) (hx : a.eval x = .pointer (some ⟨g, off, none⟩)) (v : Value) (hy : a.eval y = v)
    (t : TypeId) (cs : Array Value) (hg : Blk w g t cs) (hi : (P.info? ty).map (·.size) = some 1) (hfit : off < cs.size) (hv : v.cells = #[v]) (h1 : v.oneCell' = true)
    (h : ∀ w', Blk w' g t (cs.setIfInBounds off v) → w.grownBy w' (some g) → wpList P ops Q rest a w') : wpList P ops Q (o :: rest) a w := by
  refine wpList_plain hgd fun K hK => ?_
  have hst := run_storeCells_at P g off t [v] 0 cs w hg (by simp; omega) (by simpa using h1)
  have hwhole : (cs.toList.take (off + 0) ++ [v] ++ cs.toList.drop (off + 0 + [v].length)).toArray = cs.setIfInBounds off v := by
    apply Array.toList_inj.1
    rw [Array.toList_setIfInBounds, List.set_eq_take_append_cons_drop, if_pos (by simpa using hfit)]
    simp
  rw [hwhole] at hst
  have := h (w.setRow g (cs.setIfInBounds off v)) (setRow_heap w g cs _ t _ hg) (only_setRow w g _)
  unfold Oper.wp execOp
  obtain ⟨i, hi1, hi2⟩ : ∃ i, P.info? ty = some i ∧ i.size = 1 := by
    cases hq : P.info? ty with
    | none => rw [hq] at hi; cases hi
    | some i => rw [hq] at hi; exact ⟨i, rfl, by simpa using hi⟩
  simp [ho, hx, hy, storeVar, sizeOf, typeInfo, hi1, hi2, hv, hst, Instr.storeAt, Instr.sureAddr]
  have e2 : a.put o.dst undef = a := by rw [hdst]; rfl
  have h9 := hK _ _ this
  rw [← e2] at h9
  exact h9
/-- v is a slice of words that reads xs, below block B -/
def USl (w : World) (B : Nat) (v : Value) (xs : List UInt64) : Prop :=
  ∃ A cap, v = .slice A xs.length cap ∧ xs.length ≤ cap ∧ cap ≤ 9223372036854775807 ∧ Reads w B A (xs.map v64)
section
variable {w w' : World} {B B' : Nat} {v : Value} {xs : List UInt64}
theorem USl.below (h : USl w B v xs) (hb : Below B w w') : USl w' B v xs := by
  obtain ⟨A, cap, h1, h2, h3, h4⟩ := h
  exact ⟨A, cap, h1, h2, h3, h4.below hb⟩
theorem USl.more (h : USl w B v xs) (hB : B ≤ B') : USl w B' v xs := by
  obtain ⟨A, cap, h1, h2, h3, h4⟩ := h
  exact ⟨A, cap, h1, h2, h3, h4.more hB⟩
theorem USl.next (h : USl w w.heap.size v xs) (hb : Below w.heap.size w w') : USl w' w'.heap.size v xs := (h.below hb).more hb.size
theorem USl.of_blk {w : World} {g : Nat} {t : TypeId} {xs : List UInt64} (h : Blk w g t (xs.map v64).toArray) (B : Nat) (hB : g < B) (cap : Nat) (hcap : xs.length ≤ cap) (hc : cap ≤ 9223372036854775807) : USl w B (.slice (some ⟨g, 0, none⟩) xs.length cap) xs :=
  ⟨_, cap, rfl, hcap, hc, by simpa using Reads.of_blk h hB 0⟩
end
theorem map_v64_set (l : List UInt64) (i : Nat) (v : UInt64) : (l.map v64).set i (v64 v) = (l.set i v).map v64 := by rw [List.map_set]
theorem v64_at (l : List UInt64) (i : Nat) (h : i < l.length) : (l.map v64)[i]? = some (.int .u64 (n64 (l.getD i 0))) := by
  rw [List.getElem?_map, List.getElem?_eq_getElem h, List.getD_eq_getElem?_getD, List.getElem?_eq_getElem h]; rfl
theorem mul64 (x y : UInt64) : (n64 x * n64 y) % 18446744073709551616 = n64 (x * y) := by
  unfold n64; rw [UInt64.toNat_mul]; omega
theorem sub64 (x y : UInt64) : (n64 x - n64 y) % 18446744073709551616 = n64 (x - y) := by
  unfold n64; rw [UInt64.toNat_sub]; have := x.toNat_lt; have := y.toNat_lt; omega
theorem wrap_n64 (x : UInt64) : IntKind.u64.wrap (n64 x) = n64 x := by rw [wrap_u64']; have := n64_lo x; have := n64_hi x; omega
theorem wrap_mul64 (x y : UInt64) : IntKind.u64.wrap (n64 x * n64 y) = n64 (x * y) := by rw [wrap_u64', mul64]
theorem wrap_add64 (x y : UInt64) : IntKind.u64.wrap (n64 x + n64 y) = n64 (x + y) := by rw [wrap_u64', add64]
theorem wrap_sub64 (x y : UInt64) : IntKind.u64.wrap (n64 x - n64 y) = n64 (x - y) := by rw [wrap_u64', sub64]
theorem and64_c (x : UInt64) : bits .and .u64 (n64 x) 65535 = n64 (x &&& 65535) := bits_and64 x 65535
theorem shr64 (x y : UInt64) (r : Nat) (hy : y.toNat = r) (hr : r < 64) : n64 x / 2 ^ r = n64 (x >>> y) := by
  unfold n64; rw [UInt64.toNat_shiftRight, hy, Nat.mod_eq_of_lt hr, Nat.shiftRight_eq_div_pow]; simp
theorem shr64_16 (x : UInt64) : n64 x / (65536 : Int) = n64 (x >>> 16) := shr64 x 16 16 rfl (by decide)
theorem shr64_32 (x : UInt64) : n64 x / (4294967296 : Int) = n64 (x >>> 32) := shr64 x 32 32 rfl (by decide)
theorem shr64_48 (x : UInt64) : n64 x / (281474976710656 : Int) = n64 (x >>> 48) := shr64 x 48 48 rfl (by decide)
end Go.Proofs.YtkogehkmldbhgaaDoor

/- The walks of the reference's limbs, times, below, root. No condition. -/
namespace Go.Proofs.YtkogehkmldbhgaaDoor
open Go.RowKit
attribute [local go_sem] and64_c shr64_16 shr64_32 shr64_48 wrap_mul64 wrap_add64 n64_lo n64_hi
theorem limbs_any (x : UInt64) (w : World) : Calls Tryd.prog 72 #[.int .u64 (n64 x)] w fun e w' => ∃ v, e = .returned v ∧ USl w' w'.heap.size v (limbsU x) ∧ Below w.heap.size w w' := by
  go_enter Tryd.func72, Tryd.ntmps72
  go_wp2
  go_ret
  have hb := Blk.new w 22 ((limbsU x).map v64).toArray
  exact ⟨_, rfl, USl.of_blk hb _ hb.lt 4 (by simp [limbsU]) (by decide), below_new1 w _⟩
set_option maxRecDepth 100000 in
theorem times_any (u v : Value) (a b : List UInt64) (w : World) (ha : USl w w.heap.size u a) (hb : USl w w.heap.size v b) (hla : a.length ≤ 16) (hlb : b.length ≤ 16) (hpa : 0 < a.length) (hpb : 0 < b.length) :
    Calls Tryd.prog 73 #[u, v] w fun e w' => ∃ v', e = .returned v' ∧ USl w' w'.heap.size v' (timesU a b) ∧ Below w.heap.size w w' := by
  obtain ⟨A, cap, rfl, hc1, hc2, hr⟩ := ha
  obtain ⟨Ab, capb, rfl, hd1, hd2, hrb⟩ := hb
  obtain ⟨ba, offa, rfl, hba, hca⟩ := hr (by rw [List.length_map]; exact hpa)
  obtain ⟨bb, offb, rfl, hbb, hcb⟩ := hrb (by rw [List.length_map]; exact hpb)
  obtain ⟨i0, hi, hz0, hz1, hz2⟩ := info_parts (by kernel_rfl : (Tryd.prog.info? 22).map (fun i => (i.zero, i.size, i.bytes)) = some (some (.int .u64 0), 1, 8))
  clear hr hrb
  go_enter Tryd.func73, Tryd.ntmps73
  go_wp2_with (first
    | (refine wpList_makeB rfl _ _ _ rfl 22 i0 _ Tryd.underlying23 hi hz0 hz1 rfl _ _ (a.length + b.length) rfl rfl (by rw [hz2]; omega) (by omega) ?_))
  go_loopw [6] (fun iv wr => ∃ i : Nat, i ≤ a.length ∧ iv = .int .i64 i ∧ Blk wr w.heap.size 22 ((tOut a b i).map v64).toArray ∧ Below w.heap.size w wr) (fun iv _ => a.length - (intOf iv).toNat)
  case atStart => exact ⟨0, by omega, rfl, by rw [tOut, List.map_replicate]; exact Blk.new _ _ _, below_new1 w _⟩
  case round =>
    obtain ⟨i, hil, rfl, hblk, hbel⟩ := hrel
    by_cases hlt : i < a.length
    · go_wp2
      go_loopw [7, 8] (fun c kv wr => ∃ k : Nat, k ≤ b.length ∧ kv = .int .i64 k ∧ c = v64 (tIn i (a.getD i 0) b (tOut a b i) k).2 ∧ Blk wr w.heap.size 22 ((tIn i (a.getD i 0) b (tOut a b i) k).1.map v64).toArray ∧ Below w.heap.size w wr) (fun _ kv _ => b.length - (intOf kv).toNat)
      case atStart => exact ⟨0, by omega, rfl, rfl, hblk, hbel⟩
      case round =>
        clear hblk hbel
        obtain ⟨k, hk, rfl, rfl, hblk, hbel⟩ := hrel
        by_cases hlk : k < b.length
        · have hOl : (tIn i (a.getD i 0) b (tOut a b i) k).1.length = a.length + b.length := by rw [tIn_length, tOut_length]
          have cO : wr.cell? ⟨w.heap.size, i + k, none⟩ = some (.int .u64 (n64 ((tIn i (a.getD i 0) b (tOut a b i) k).1.getD (i + k) 0))) := by
            rw [hblk.cell]; simpa using v64_at (tIn i (a.getD i 0) b (tOut a b i) k).1 (i + k) (by omega)
          have cA : wr.cell? ⟨ba, offa + i, none⟩ = some (.int .u64 (n64 (a.getD i 0))) := (hbel.cell (p := ⟨ba, _, none⟩) hba).trans (hca i _ (v64_at a i hlt))
          have cB : wr.cell? ⟨bb, offb + k, none⟩ = some (.int .u64 (n64 (b.getD k 0))) := (hbel.cell (p := ⟨bb, _, none⟩) hbb).trans (hcb k _ (v64_at b k hlk))
          have fO := hblk.frozen (i + k)
          have e1 := tIn_succ i (a.getD i 0) b (tOut a b i) k
          clear hca hcb
          generalize tIn i (a.getD i 0) b (tOut a b i) k = O at *
          generalize hai : a.getD i 0 = ai at *
          generalize hbk : b.getD k 0 = bk at *
          generalize hok : O.1.getD (i + k) 0 = ok at *
          have He := Lib.hid e1
          have H1 := Lib.hid (And.intro hai (And.intro hbk hok))
          clear e1 hai hbk hok
          simp only [v64]
          go_wp2
          go_quiet (fail)
          go_wp2
          go_roundw
          case rel =>
            refine ⟨k + 1, by omega, by go_num, ?_, ?_, (below_drewN hbel nq).setCell (Nat.le_refl _) _⟩
            · rw [He.out]
            · rw [He.out, List.map_set]
              have := (hblk.drewN nq).set (i + k) (v64 (ok + ai * bk + O.2 &&& 65535))
              simpa [v64] using this
          case measure => simp [intOf]; omega
        · have ek : k = b.length := by omega
          subst ek
          have hOl : (tIn i (a.getD i 0) b (tOut a b i) b.length).1.length = a.length + b.length := by rw [tIn_length, tOut_length]
          have cO : wr.cell? ⟨w.heap.size, i + b.length, none⟩ = some (.int .u64 (n64 ((tIn i (a.getD i 0) b (tOut a b i) b.length).1.getD (i + b.length) 0))) := by
            rw [hblk.cell]; simpa using v64_at (tIn i (a.getD i 0) b (tOut a b i) b.length).1 (i + b.length) (by omega)
          have fO := hblk.frozen (i + b.length)
          have e1 := tOut_succ a b i
          generalize tIn i (a.getD i 0) b (tOut a b i) b.length = O at *
          generalize hok : O.1.getD (i + b.length) 0 = ok at *
          have He := Lib.hid e1
          clear e1 hok hca hcb
          simp only [v64]
          go_wp2
          go_roundw
          case rel =>
            refine ⟨i + 1, by omega, by go_num, ?_, (hbel).setCell (Nat.le_refl _) _⟩
            rw [He.out, List.map_set]
            have := hblk.set (i + b.length) (v64 (ok + O.2))
            simpa [v64] using this
          case measure => simp [intOf]; omega
    · have ei : i = a.length := by omega
      subst ei
      have hOl := tOut_length a b a.length
      go_wp2
      go_ret
      have hU := USl.of_blk hblk wr.heap.size hblk.lt (a.length + b.length) (by omega) (by omega)
      rw [hOl] at hU
      exact ⟨_, rfl, hU, hbel⟩
end Go.Proofs.YtkogehkmldbhgaaDoor

/- The walks of the reference's below, root. No condition. -/
namespace Go.Proofs.YtkogehkmldbhgaaDoor
open Go.RowKit
attribute [local go_sem] and64_c shr64_16 shr64_32 shr64_48 wrap_mul64 wrap_add64 wrap_sub64 n64_lo n64_hi
theorem n64_ne (x y : UInt64) : decide (n64 x = n64 y) = decide (x = y) := decide_eq_decide.2 ⟨n64_inj, fun h => by rw [h]⟩
theorem n64_lt (x y : UInt64) : decide (n64 x < n64 y) = decide (x < y) := decide_eq_decide.2 (by rw [UInt64.lt_iff_toNat_lt]; unfold n64; omega)
set_option maxRecDepth 100000 in
theorem below_any (x p : UInt64) (c : Bool) (hp : p.toNat < 4294967296) (w : World) :
    Calls Tryd.prog 67 #[.int .u64 (n64 x), .int .u64 (n64 p), .bool c] w fun e w' => e = .returned (.bool (belowU x p c)) ∧ Below w.heap.size w w' := by
  obtain ⟨i0, hi, hz0, hz1, hz2⟩ := info_parts (by kernel_rfl : (Tryd.prog.info? 22).map (fun i => (i.zero, i.size, i.bytes)) = some (some (.int .u64 0), 1, 8))
  have q2 := Lib.hid (below_sq x p hp)
  have q3 := Lib.hid (below_cb x p hp)
  have hll : (limbsU x).length = 4 := rfl
  have htl : (timesU (limbsU x) (limbsU x)).length = 8 := tOut_length _ _ _
  go_enter Tryd.func67, Tryd.ntmps67
  go_wp2_with fail
  refine (limbs_any x w).mono ?_
  rintro e w1 ⟨v1, rfl, hU1, hb1⟩
  go_wp2_with fail
  refine (times_any _ _ _ _ _ hU1 hU1 (by omega) (by omega) (by omega) (by omega)).mono ?_
  rintro e w2 ⟨v2, rfl, hU2, hb2⟩
  have hb2' := hb1.trans (hb2.mono hb1.size)
  have hU1' := hU1.next hb2
  generalize timesU (limbsU x) (limbsU x) = T2 at *
  generalize limbsU x = L at *
  clear hU1 hb1 hb2
  go_upto_if 17 with fail
  go_cut [8, 9] (fun s8 s9 wx => ∃ (B : List UInt64) (n m : Nat), USl wx wx.heap.size s8 B ∧ B.length = m ∧ s9 = .int .i64 n ∧ n + 1 < m ∧ m ≤ 12 ∧ Hid (cmpU B (wantU n m p) m = belowU x p c) ∧ Below w.heap.size w wx)
  case first =>
    by_cases hc : c = true
    · subst hc
      go_wp2_with fail
      refine (times_any _ _ _ _ _ hU2 hU1' (by omega) (by omega) (by omega) (by omega)).mono ?_
      rintro e w3 ⟨v3, rfl, hU3, hb3⟩
      go_wp2_with fail
      go_meet
      exact ⟨_, 6, 12, hU3, (by rw [timesU, tOut_length]; omega), rfl, by decide, by decide, q3, hb2'.trans (hb3.mono hb2'.size)⟩
    · have hc' : c = false := by simpa using hc
      subst hc'
      clear hc
      go_wp2_with fail
      go_meet
      exact ⟨_, 4, 8, hU2, htl, rfl, by decide, by decide, q2, hb2'⟩
  case rest =>
    obtain ⟨B, n, m, hUB, hBl, rfl, hn, hm, hq, hbel⟩ := hcut
    clear q2 q3 hU2 hb2' hU1' htl hll
    obtain ⟨A, cap, rfl, hc1, hc2, hr⟩ := hUB
    obtain ⟨bb, off, rfl, hbb, hcb⟩ := hr (by rw [List.length_map]; omega)
    clear hr
    subst hBl
    go_wp2_with (first
      | (refine wpList_makeB rfl _ _ _ rfl 22 i0 _ Tryd.underlying23 hi hz0 hz1 rfl _ _ B.length rfl rfl (by rw [hz2]; omega) (by omega) ?_; refine wpl_at (fun W => Blk W wc.heap.size 22 ((List.replicate B.length (0 : UInt64)).map v64).toArray ∧ Below wc.heap.size wc W) ⟨(by rw [List.map_replicate]; exact Blk.new _ _ _), below_new1 wc _⟩ ?_; rintro w4 ⟨hB4, hb4⟩)
      | (refine wpList_store1 rfl rfl 22 (.tmp 28) (.tmp 27) rfl wc.heap.size n rfl (v64 (p &&& 65535)) rfl _ _ hB4 (by kernel_rfl) (by simp; omega) rfl rfl ?_; intro w5 hB5 hon5; have hb5 := below_only hb4 hon5 (Nat.le_refl _) hb4.size)
      | (refine wpList_store1 rfl rfl 22 (.tmp 39) (.tmp 38) rfl wc.heap.size (n + 1) rfl (v64 (p >>> 16)) rfl _ _ hB5 (by kernel_rfl) (by simp; omega) rfl rfl ?_; intro w6 hB6 hon6; have hb6 := below_only hb5 hon6 (Nat.le_refl _) hb5.size))
    have hW : Blk w6 wc.heap.size 22 ((wantU n B.length p).map v64).toArray := by
      rw [wantU, List.map_set, List.map_set]; rw [List.setIfInBounds_toArray, List.setIfInBounds_toArray] at hB6; exact hB6
    have hWl : (wantU n B.length p).length = B.length := by simp [wantU]
    generalize wantU n B.length p = Wt at *
    have hbb6 : bb < w6.heap.size := Nat.lt_of_lt_of_le hbb hb6.size
    have hcb6 : ∀ j, j < B.length → w6.cell? ⟨bb, off + j, none⟩ = some (.int .u64 (n64 (B.getD j 0))) := fun j hj => (hb6.cell (p := ⟨bb, _, none⟩) hbb).trans (hcb j _ (v64_at B j hj))
    have hbel6 := hbel.trans (hb6.mono hbel.size)
    clear hB4 hb4 hB5 hon5 hb5 hB6 hon6 hb6 hcb
    go_loopw [11] (fun iv wr => ∃ i : Nat, i ≤ B.length ∧ iv = .int .i64 ((i : Int) - 1) ∧ Hid (cmpU B Wt i = belowU x p c) ∧ Below w6.heap.size w6 wr) (fun iv _ => (intOf iv + 1).toNat)
    case atStart => exact ⟨B.length, Nat.le_refl _, rfl, hq, Below.refl _ _⟩
    case round =>
      obtain ⟨i, hil, rfl, hqi, hbw⟩ := hrel
      obtain rfl | ⟨j, rfl⟩ : i = 0 ∨ ∃ j, i = j + 1 := by cases i with | zero => exact .inl rfl | succ j => exact .inr ⟨j, rfl⟩
      · go_wp2
        go_ret
        exact ⟨by rw [← hqi.out]; rfl, hbel6.trans (hbw.mono hbel6.size)⟩
      · rw [show ((j + 1 : Nat) : Int) - 1 = (j : Int) by omega]
        have cB : wr.cell? ⟨bb, off + j, none⟩ = some (.int .u64 (n64 (B.getD j 0))) := (hbw.cell (p := ⟨bb, _, none⟩) hbb6).trans (hcb6 j (by omega))
        have cW : wr.cell? ⟨wc.heap.size, j, none⟩ = some (.int .u64 (n64 (Wt.getD j 0))) := by
          rw [(hW.below hbw hW.lt).cell]; simpa using v64_at Wt j (by omega)
        have e1 : cmpU B Wt (j + 1) = if B.getD j 0 = Wt.getD j 0 then cmpU B Wt j else decide (B.getD j 0 < Wt.getD j 0) := rfl
        have e2 := hqi.out
        clear hqi hq
        rw [e1] at e2
        generalize B.getD j 0 = bj at *
        generalize Wt.getD j 0 = wj at *
        by_cases he : bj = wj
        · rw [if_pos he] at e2
          subst he
          have H2 := Lib.hid e2
          clear e1 e2
          go_wp2
          go_quiet (fail)
          go_wp2
          go_roundw
          case rel => exact ⟨j, by omega, by go_num, H2, below_drewN hbw nq⟩
          case measure => simp [intOf]
        · rw [if_neg he] at e2
          have hne : ¬ (n64 bj = n64 wj) := fun h => he (n64_inj h)
          have H2 := Lib.hid e2
          clear e1 e2 he
          go_wp2
          go_quiet (fail)
          go_wp2
          go_quiet (fail)
          go_wp2
          go_ret
          refine ⟨?_, hbel6.trans ((below_drewN (below_drewN hbw _) _).mono hbel6.size)⟩
          rw [← H2.out, ← n64_lt]
          rfl
theorem root_mid (lo hi : UInt64) (h : lo.toNat + 1 < hi.toNat) (hh : hi.toNat ≤ 171798691840) : ∃ m : UInt64, m.toNat = (lo.toNat + hi.toNat) / 2 ∧ IntKind.u64.wrap ((n64 (lo + hi)).tdiv 2) = n64 m := by
  have e : (lo + hi).toNat = lo.toNat + hi.toNat := by rw [UInt64.toNat_add]; omega
  have e2 : (UInt64.ofNat ((lo.toNat + hi.toNat) / 2)).toNat = (lo.toNat + hi.toNat) / 2 := UInt64.toNat_ofNat_of_lt' (by show _ < 18446744073709551616; omega)
  exact ⟨_, e2, by rw [wrap_u64', Int.tdiv_eq_ediv_of_nonneg (n64_lo _)]; unfold n64; rw [e, e2]; omega⟩
set_option maxRecDepth 100000 in
theorem root_any (p : UInt64) (c : Bool) (hp : p.toNat < 1600) (w : World) :
    Calls Tryd.prog 56 #[.int .u64 (n64 p), .bool c] w fun e w' => ∃ r : Nat, e = .returned (.int .u32 (n32 (UInt32.ofNat r))) ∧ IsRoot p c r ∧ Below w.heap.size w w' := by
  have hlo0 : Hid (belowU 0 p c = true) := Lib.hid (by unfold belowU; cases c <;> simp)
  have hhi0 : Hid (belowU 171798691840 p c = false) := Lib.hid (by
    unfold belowU
    have e : (171798691840 : UInt64).toNat = 171798691840 := rfl
    rw [e]
    cases c
    · simp; omega
    · simp; omega)
  go_enter Tryd.func56, Tryd.ntmps56
  go_wp2
  go_loopw [5, 6] (fun l h wr => ∃ lo hi : UInt64, l = .int .u64 (n64 lo) ∧ h = .int .u64 (n64 hi) ∧ lo.toNat < hi.toNat ∧ hi.toNat ≤ 171798691840 ∧ Hid (belowU lo p c = true) ∧ Hid (belowU hi p c = false) ∧ Below w.heap.size w wr) (fun l h _ => (intOf h).toNat - (intOf l).toNat)
  case atStart => exact ⟨0, 171798691840, rfl, rfl, by decide, by decide, hlo0, hhi0, Below.refl _ _⟩
  case round =>
    obtain ⟨lo, hi, rfl, rfl, hlt, hle, h1, h2, hbel⟩ := hrel
    clear hlo0 hhi0
    have es : n64 (hi - lo) = (hi.toNat : Int) - lo.toNat := by unfold n64; rw [UInt64.toNat_sub_of_le _ _ (by rw [UInt64.le_iff_toNat_le]; omega)]; omega
    by_cases hg : lo.toNat + 1 < hi.toNat
    · obtain ⟨m, hm, em⟩ := root_mid lo hi hg hle
      have hgt : 1 < n64 (hi - lo) := by omega
      clear es
      go_wp2_with fail
      clear em hgt
      refine (below_any m p c (by omega) wr).mono ?_
      rintro e w1 ⟨rfl, hb1⟩
      have hbel1 := hbel.trans (hb1.mono hbel.size)
      cases hq : belowU m p c with
      | true =>
        have Hq := Lib.hid hq
        clear hq
        go_wp2_with fail
        go_roundw
        case rel => exact ⟨m, hi, rfl, rfl, by omega, hle, Hq, h2, hbel1⟩
        case measure => simp only [intOf, n64]; omega
      | false =>
        have Hq := Lib.hid hq
        clear hq
        go_wp2_with fail
        go_roundw
        case rel => exact ⟨lo, m, rfl, rfl, by omega, by omega, h1, Hq, hbel1⟩
        case measure => simp only [intOf, n64]; omega
    · have hgt : ¬ 1 < n64 (hi - lo) := by omega
      clear es
      go_wp2_with fail
      go_ret
      have ee : n64 lo % 4294967296 = n32 (UInt32.ofNat lo.toNat) := by unfold n64 n32; rw [UInt32.toNat_ofNat']; omega
      refine ⟨lo.toNat, ?_, ⟨of_decide_eq_true h1.out, ?_⟩, hbel⟩
      · rw [← ee]; rfl
      · have := of_decide_eq_false h2.out
        rw [show hi.toNat = lo.toNat + 1 by omega] at this
        omega
theorem root_K (i : Nat) (hi : i < 64) (w : World) : Calls Tryd.prog 56 #[.int .u64 (n64 (primeL.getD i 0)), .bool true] w fun e w' => e = .returned (.int .u32 (n32 (K0.getD i 0))) ∧ Below w.heap.size w w' := by
  refine (root_any _ true ((by decide +kernel : ∀ i, i < 64 → (primeL.getD i 0).toNat < 1600) i hi) w).mono ?_
  rintro e w' ⟨r, rfl, hr, hb⟩
  rw [hr.unique (cubeL_ok i hi), cubeL_K i hi]
  exact ⟨rfl, hb⟩
theorem root_H (i : Nat) (hi : i < 8) (w : World) : Calls Tryd.prog 56 #[.int .u64 (n64 (primeL.getD i 0)), .bool false] w fun e w' => e = .returned (.int .u32 (n32 (H0.list.getD i 0))) ∧ Below w.heap.size w w' := by
  refine (root_any _ false ((by decide +kernel : ∀ i, i < 64 → (primeL.getD i 0).toNat < 1600) i (by omega)) w).mono ?_
  rintro e w' ⟨r, rfl, hr, hb⟩
  rw [hr.unique (squareL_ok i hi), squareL_H i hi]
  exact ⟨rfl, hb⟩
end Go.Proofs.YtkogehkmldbhgaaDoor

/- A class of worlds: w with new blocks behind it, and draws. Quiet laws over it; equality of arrays of bytes. No condition. -/
namespace Go.Proofs.YtkogehkmldbhgaaDoor
open Go Go.RowKit
/-- What a call may have added. -/
structure Ext where
  blocks : Array Obj
  draws : Nat
instance : Nonempty Ext := ⟨⟨#[], 0⟩⟩
/-- w, with new blocks behind its own, and the count of draws set. -/
def plus (w : World) (e : Ext) : World := { w with heap := w.heap ++ e.blocks, drawn := e.draws }
theorem plus_block (w : World) (e : Ext) (k : Nat) (hk : k < w.heap.size) : (plus w e).heap[k]? = w.heap[k]? := by
  show (w.heap ++ e.blocks)[k]? = _
  rw [Array.getElem?_append_left hk]
theorem plus_size (w : World) (e : Ext) : (plus w e).heap.size = w.heap.size + e.blocks.size := by simp [plus]
theorem plus_le (w : World) (e : Ext) : w.heap.size ≤ (plus w e).heap.size := by rw [plus_size]; omega
theorem plus_cell (w : World) (e : Ext) (a : Addr) (h : a.block < w.heap.size) : (plus w e).cell? a = w.cell? a := World.cell?_of_block (plus_block w e _ h)
theorem plus_frozen (w : World) (e : Ext) (a : Addr) (h : a.block < w.heap.size) : (plus w e).frozen? a = w.frozen? a := World.frozen?_of_block (plus_block w e _ h)
theorem plus_below (w : World) (e : Ext) : Below w.heap.size w (plus w e) := ⟨rfl, rfl, rfl, plus_le w e, fun k hk => plus_block w e k hk⟩
theorem below_plus {w w' : World} (h : Below w.heap.size w w') : ∃ e, w' = plus w e := by
  refine ⟨⟨w'.heap.extract w.heap.size w'.heap.size, w'.drawn⟩, ?_⟩
  obtain ⟨hp, tp, dr, os, out⟩ := w'
  obtain ⟨hp0, tp0, dr0, os0, out0⟩ := w
  have h1 := h.os
  have h2 := h.tape
  have h3 := h.output
  have h4 := h.size
  have h5 := h.block
  simp only at h1 h2 h3 h4 h5
  subst h1; subst h2; subst h3
  unfold plus
  congr 1
  apply Array.ext_getElem?
  intro i
  by_cases hi : i < hp0.size
  · rw [Array.getElem?_append_left (show i < hp0.size from hi), h5 i hi]
  · rw [Array.getElem?_append_right (show hp0.size ≤ i by omega), Array.getElem?_extract]
    simp only
    by_cases h6 : i < hp.size
    · rw [if_pos (by omega)]; congr 1; omega
    · rw [if_neg (by omega), Array.getElem?_eq_none (by omega)]
theorem plus_drawn (w : World) (n : Nat) : ∃ e, { w with drawn := n } = plus w e := ⟨⟨#[], n⟩, by simp [plus]⟩
theorem plus_plus (w : World) (e : Ext) {w' : World} (h : Below (plus w e).heap.size (plus w e) w') : ∃ e', w' = plus w e' :=
  below_plus ((plus_below w e).trans (h.mono (plus_le w e)))
theorem Blk.plus {w : World} {g : Nat} {t : TypeId} {cs : Array Value} (h : Blk w g t cs) (e : Ext) : Blk (plus w e) g t cs := h.below (plus_below w e) h.lt
section
variable {P : Program} {ops : Array Oper} {C : World → Prop} {Q : Act → Prop} {a : Act} {o : Oper} {rest : List Oper}
theorem wpQuiet_wanted (hw : Region.wanted o (yielded ops a.tmps) = true) (v : Value) (h1 : ∀ w, C w → o.quietAt P a C w v) (h : wpQuiet P ops C Q rest (a.put o.dst v)) : wpQuiet P ops C Q (o :: rest) a := by
  unfold wpQuiet; rw [if_pos hw]; exact ⟨v, h1, h⟩
theorem wpQuiet_unwanted (hw : Region.wanted o (yielded ops a.tmps) = false) (h : wpQuiet P ops C Q rest (a.put o.dst undef)) : wpQuiet P ops C Q (o :: rest) a := by
  unfold wpQuiet; rw [if_neg (by rw [hw]; exact Bool.false_ne_true)]; exact h
/-- a call of a Go function whose answer is one value in every world of the class -/
theorem wpQuiet_call (hw : Region.wanted o (yielded ops a.tmps) = true) (f : FuncId) (args : Array Value) (v : Value) (hop : ∀ w, (execOp a.eval o).run P w = .ok (.enter f args) w)
    (h1 : ∀ w, C w → Calls P f args w fun e w' => e = .returned v ∧ C w') (h : wpQuiet P ops C Q rest (a.put o.dst v)) : wpQuiet P ops C Q (o :: rest) a :=
  wpQuiet_wanted hw v (fun w hC => by unfold Oper.quietAt; rw [hop]; exact ⟨rfl, h1 w hC⟩) h
/-- a whole array is loaded out of a block -/
theorem wpQuiet_load (hw : Region.wanted o (yielded ops a.tmps) = true) (ty : TypeId) (x : Operand) (ho : o.op = .load ty x) (g : Nat) (hx : a.eval x = .pointer (some ⟨g, 0, none⟩)) (t : TypeId) (cs : Array Value) (fr : Nat × Nat) (d : TypeDesc)
    (hg : ∀ w, C w → w.heap[g]? = some (.cells cs t fr)) (hu : P.underlying ty = some d) (hd : (match d with | .struct _ | .array _ _ => true | _ => false) = true) (hi : (P.info? ty).map (·.size) = some cs.size)
    (h : wpQuiet P ops C Q rest (a.put o.dst (.agg cs))) : wpQuiet P ops C Q (o :: rest) a :=
  wpQuiet_wanted hw (.agg cs) (fun w hC => by
    unfold Oper.quietAt execOp
    simp only [ho, hx, Instr.loadAt, Instr.sureAddr, Sem.run_bind, Sem.run_pure, Result.andThen_ok, run_loadVar_row w g t ty cs fr d (hg w hC) hu hd hi]
    exact ⟨rfl, rfl⟩) h
end
theorem wp_region_quiet_plus {P : Program} {id : Nat} {Q : Exit → Act → World → Prop} {a : Act} {w : World} {l : List Oper} (hm : P.follows .mixedOrders = true) (hB : Region.lexB .any l.toArray = true)
    (h : wpQuiet P l.toArray (fun w' => ∃ e, w' = plus w e) (fun a' => ∀ w', (∃ e, w' = plus w e) → Q .normal a' w') l a) : (Code.region id l.toArray true).wp P Q a w :=
  wp_region_quiet (C := fun w' => ∃ e, w' = plus w e) hm hB (plus_drawn w _) (by simpa using h)
theorem wp_region_quiet_tail_plus {P : Program} {id : Nat} {Q : Exit → Act → World → Prop} {a : Act} {w : World} {l : List Oper} (n : Nat) (hm : P.follows .mixedOrders = true) (hB : Region.lexTailB .any l.toArray n = true)
    (h : wpQuiet P l.toArray (fun w' => ∃ e, w' = plus w e) (fun a' => ∀ w', (∃ e, w' = plus w e) → wpList P l.toArray Q (l.drop n) a' w') (l.take n) a) : (Code.region id l.toArray true).wp P Q a w :=
  wp_region_quiet_tail n (fun w' => ∃ e, w' = plus w e) hm hB (plus_drawn w _) h
theorem calls_plus {P : Program} {f : FuncId} {args : Array Value} {w : World} {e : Ext} {v : Value}
    (h : Calls P f args (plus w e) fun en w' => en = .returned v ∧ Below (plus w e).heap.size (plus w e) w') : Calls P f args (plus w e) fun en w' => en = .returned v ∧ ∃ e', w' = plus w e' :=
  h.mono fun _ _ h => ⟨h.1, plus_plus w e h.2⟩
/-- '==' on two arrays of bytes -/
theorem run_part_byte {P : Program} (w : World) {e : TypeId} {k : IntKind} (he : P.underlying e = some (.int k)) (cs : Array Value) (i : Nat) (v : Value) (h : cs[i]? = some v) : (part e cs i).run P w = .ok v w := by
  simp [part, isAgg, run_underlying he, h]
theorem run_eqItems_bytes {P : Program} (w : World) (d : Nat) {e : TypeId} (he : P.underlying e = some (.int .u8)) (hc : P.cellsOf e = 1) (xs ys : List UInt8) : ∀ (m k : Nat), k + m = xs.length → k + m = ys.length →
    (Op.eqItems (d + 1) e (P.cellsOf e) (xs.map v8).toArray (ys.map v8).toArray (List.range' k m)).run P w = .ok (decide (xs.drop k = ys.drop k)) w
  | 0, k, h1, h2 => by
    have e1 : xs.drop k = [] := List.drop_of_length_le (by omega)
    have e2 : ys.drop k = [] := List.drop_of_length_le (by omega)
    rw [e1, e2]
    simp [Op.eqItems]
  | m + 1, k, h1, h2 => by
    have hx : k < xs.length := by omega
    have hy : k < ys.length := by omega
    have ih := run_eqItems_bytes w d he hc xs ys m (k + 1) (by omega) (by omega)
    rw [hc] at ih ⊢
    rw [List.range'_succ]
    simp only [Op.eqItems, Sem.run_bind, Nat.mul_one]
    rw [run_part_byte w he _ k (v8 xs[k]) (by simp [hx]), Result.andThen_ok, run_part_byte w he _ k (v8 ys[k]) (by simp [hy]), Result.andThen_ok]
    have hq : (Op.equalIn (d + 1) e (v8 xs[k]) (v8 ys[k])).run P w = .ok (n8 xs[k] == n8 ys[k]) w := by
      simp [v8, Op.equalIn, run_underlying he]
    rw [hq, Result.andThen_ok, List.drop_eq_getElem_cons hx, List.drop_eq_getElem_cons hy]
    by_cases hb : xs[k] = ys[k]
    · rw [hb]
      simp only [beq_self_eq_true, Bool.not_true, Bool.false_eq_true, if_false, List.cons.injEq, true_and]
      exact ih
    · have hn : (n8 xs[k] == n8 ys[k]) = false := by rw [beq_eq_false_iff_ne]; exact fun e => hb (n8_inj e)
      rw [hn]
      have hne : ¬ (xs[k] :: xs.drop (k + 1) = ys[k] :: ys.drop (k + 1)) := fun e => hb (List.cons.inj e).1
      rw [decide_eq_false hne]
      simp
theorem run_eql_bytes {P : Program} (w : World) (t e : TypeId) (n : Nat) (i : TypeInfo) (hu : P.underlying t = some (.array n e)) (hi : P.info? e = some i) (he : P.underlying e = some (.int .u8)) (hc : P.cellsOf e = 1)
    (xs ys : List UInt8) (hx : xs.length = n) (hy : ys.length = n) : (binOp .eql t (.agg (xs.map v8).toArray) (.agg (ys.map v8).toArray)).run P w = .ok (.bool (decide (xs = ys))) w := by
  rw [run_eql_struct, run_equalIn_array w 9999 _ _ hu hi, List.range_eq_range', run_eqItems_bytes w 9998 he hc xs ys n 0 (by omega) (by omega)]
  simp
theorem run_eqi_bytes {P : Program} (w : World) (t e : TypeId) (n : Nat) (i : TypeInfo) (hu : P.underlying t = some (.array n e)) (hi : P.info? e = some i) (he : P.underlying e = some (.int .u8)) (hc : P.cellsOf e = 1)
    (xs ys : List UInt8) (hx : xs.length = n) (hy : ys.length = n) : (Op.equalIn 10000 t (.agg (xs.map v8).toArray) (.agg (ys.map v8).toArray)).run P w = .ok (decide (xs = ys)) w := by
  rw [run_equalIn_array w 9999 _ _ hu hi, List.range_eq_range', run_eqItems_bytes w 9998 he hc xs ys n 0 (by omega) (by omega)]
  simp
theorem run_neq_bytes {P : Program} (w : World) (t e : TypeId) (n : Nat) (i : TypeInfo) (hu : P.underlying t = some (.array n e)) (hi : P.info? e = some i) (he : P.underlying e = some (.int .u8)) (hc : P.cellsOf e = 1)
    (xs ys : List UInt8) (hx : xs.length = n) (hy : ys.length = n) : (binOp .neq t (.agg (xs.map v8).toArray) (.agg (ys.map v8).toArray)).run P w = .ok (.bool (!decide (xs = ys))) w := by
  rw [run_neq_struct, run_equalIn_array w 9999 _ _ hu hi, List.range_eq_range', run_eqItems_bytes w 9998 he hc xs ys n 0 (by omega) (by omega)]
  simp
end Go.Proofs.YtkogehkmldbhgaaDoor

/- The walks of sha's Cut and Join. No condition. -/
namespace Go.Proofs.YtkogehkmldbhgaaDoor
open Go.RowKit
def cutL (d : List UInt8) (n : Int) : List UInt8 := d.take n.toNat ++ List.replicate (32 - n.toNat) 0
theorem cutL_length (d : List UInt8) (n : Int) (hd : d.length = 32) : (cutL d n).length = 32 := by
  unfold cutL; rw [List.length_append, List.length_take, List.length_replicate, hd]; omega
theorem cutL_arr (d : List UInt8) (n : Int) (hd : d.length = 32) : ((cutL d n).map v8).toArray = arr 32 (fun p => if (p : Int) < n then d.getD p 0 else 0) := by
  rw [arr_list, cutL_length d n hd]
  apply arr_congr
  intro p hp
  unfold cutL
  rw [List.getD_eq_getElem?_getD]
  by_cases h : (p : Int) < n
  · rw [if_pos h, List.getElem?_append_left (by rw [List.length_take]; omega), List.getElem?_take, if_pos (by omega)]; rfl
  · rw [if_neg h, List.getElem?_append_right (by rw [List.length_take]; omega), List.getElem?_replicate]
    split <;> rfl
theorem cutL_map (d : List UInt8) (n : Int) (hd : d.length = 32) : cutL d n = (List.range 32).map (fun p : Nat => if (p : Int) < n then d.getD p 0 else 0) := by
  apply List.ext_getElem?
  intro p
  unfold cutL
  by_cases hp : p < 32
  · rw [List.getElem?_map, List.getElem?_range hp]
    by_cases h : (p : Int) < n
    · rw [List.getElem?_append_left (by rw [List.length_take]; omega), List.getElem?_take, if_pos (by omega)]
      simp [h, hd, hp]
    · rw [List.getElem?_append_right (by rw [List.length_take]; omega), List.getElem?_replicate, if_pos (by rw [List.length_take]; omega)]
      simp [h]
  · rw [List.getElem?_eq_none (by rw [List.length_append, List.length_take, List.length_replicate]; omega), List.getElem?_eq_none (by simp; omega)]
theorem cutL_cutL (d : List UInt8) (m n : Int) (hd : d.length = 32) : cutL (cutL d m) n = cutL d (min m n) := by
  rw [cutL_map (cutL d m) n (cutL_length d m hd), cutL_map d (min m n) hd]
  apply List.map_congr_left
  intro p hp
  have hp := List.mem_range.1 hp
  rw [cutL_map d m hd]
  by_cases h1 : (p : Int) < n
  · by_cases h2 : (p : Int) < m
    · rw [if_pos h1, if_pos (show (p : Int) < min m n by omega)]; simp [hp, h2]
    · rw [if_pos h1, if_neg (show ¬ (p : Int) < min m n by omega)]; simp [hp, h2]
  · rw [if_neg h1, if_neg (show ¬ (p : Int) < min m n by omega)]
/-- '==' on digests -/
theorem eql_dat (X Y : List UInt8) (hX : X.length = 32) (hY : Y.length = 32) (W : World) : (binOp .eql 43 (.agg (dat X)) (.agg (dat Y))).run Tryd.prog W = .ok (.bool (decide (X = Y))) W := by
  rw [dat_eq X hX, dat_eq Y hY]
  obtain ⟨i0, hi, _⟩ := info_parts (by kernel_rfl : (Tryd.prog.info? 5).map (fun i => (i.zero, i.size, i.bytes)) = some (some (.int .u8 0), 1, 1))
  exact run_eql_bytes W 43 5 32 i0 Tryd.underlying43 hi Tryd.underlying5 (by kernel_rfl) X Y hX hY
/-- the same, as the walk opens '==' and '!=' -/
theorem eqi_dat (X Y : List UInt8) (hX : X.length = 32) (hY : Y.length = 32) (W : World) : (Op.equalIn 10000 43 (.agg (dat X)) (.agg (dat Y))).run Tryd.prog W = .ok (decide (X = Y)) W := by
  rw [dat_eq X hX, dat_eq Y hY]
  obtain ⟨i0, hi, _⟩ := info_parts (by kernel_rfl : (Tryd.prog.info? 5).map (fun i => (i.zero, i.size, i.bytes)) = some (some (.int .u8 0), 1, 1))
  exact run_eqi_bytes W 43 5 32 i0 Tryd.underlying43 hi Tryd.underlying5 (by kernel_rfl) X Y hX hY
theorem eqi_true (X Y : List UInt8) (hX : X.length = 32) (hY : Y.length = 32) (h : X = Y) (W : World) : (Op.equalIn 10000 43 (.agg (dat X)) (.agg (dat Y))).run Tryd.prog W = .ok true W := by
  rw [eqi_dat X Y hX hY, decide_eq_true h]
theorem eqi_false (X Y : List UInt8) (hX : X.length = 32) (hY : Y.length = 32) (h : X ≠ Y) (W : World) : (Op.equalIn 10000 43 (.agg (dat X)) (.agg (dat Y))).run Tryd.prog W = .ok false W := by
  rw [eqi_dat X Y hX hY, decide_eq_false h]
theorem neq_dat (X Y : List UInt8) (hX : X.length = 32) (hY : Y.length = 32) (W : World) : (binOp .neq 43 (.agg (dat X)) (.agg (dat Y))).run Tryd.prog W = .ok (.bool (!decide (X = Y))) W := by
  rw [dat_eq X hX, dat_eq Y hY]
  obtain ⟨i0, hi, _⟩ := info_parts (by kernel_rfl : (Tryd.prog.info? 5).map (fun i => (i.zero, i.size, i.bytes)) = some (some (.int .u8 0), 1, 1))
  exact run_neq_bytes W 43 5 32 i0 Tryd.underlying43 hi Tryd.underlying5 (by kernel_rfl) X Y hX hY
section
variable {ops : Array Oper} {C : World → Prop} {Q : Act → Prop} {a : Act} {o : Oper} {rest : List Oper}
theorem eqGuard_dat (op : BinOp) (x y : Operand) (X Y : Array Value) (W : World) : (eqGuard op 43 x y (.agg X) (.agg Y)).run Tryd.prog W = .ok () W := run_eqGuard_agg W op 43 x y X Y (by kernel_rfl)
/-- '==' on digests in a quiet region -/
theorem wpQuiet_eqD (hw : Region.wanted o (yielded ops a.tmps) = true) (x y : Operand) (yt : TypeId) (ho : o.op = .binOp .eql 43 x y yt) (X Y : List UInt8) (hx : a.eval x = .agg (dat X)) (hy : a.eval y = .agg (dat Y)) (hX : X.length = 32) (hY : Y.length = 32)
    (b : Bool) (hb : decide (X = Y) = b) (h : wpQuiet Tryd.prog ops C Q rest (a.put o.dst (.bool b))) : wpQuiet Tryd.prog ops C Q (o :: rest) a :=
  wpQuiet_wanted hw (.bool b) (fun w _ => by
    unfold Oper.quietAt execOp
    simp only [ho, hx, hy, Sem.run_bind, Sem.run_pure, Result.andThen_ok, eqGuard_dat, eql_dat X Y hX hY, hb]
    exact ⟨rfl, rfl⟩) h
theorem wpQuiet_neD (hw : Region.wanted o (yielded ops a.tmps) = true) (x y : Operand) (yt : TypeId) (ho : o.op = .binOp .neq 43 x y yt) (X Y : List UInt8) (hx : a.eval x = .agg (dat X)) (hy : a.eval y = .agg (dat Y)) (hX : X.length = 32) (hY : Y.length = 32)
    (b : Bool) (hb : decide (X = Y) = b) (h : wpQuiet Tryd.prog ops C Q rest (a.put o.dst (.bool (!b)))) : wpQuiet Tryd.prog ops C Q (o :: rest) a :=
  wpQuiet_wanted hw (.bool (!b)) (fun w _ => by
    unfold Oper.quietAt execOp
    simp only [ho, hx, hy, Sem.run_bind, Sem.run_pure, Result.andThen_ok, eqGuard_dat, neq_dat X Y hX hY, hb]
    exact ⟨rfl, rfl⟩) h
/-- .. and in a plain region -/
theorem wpList_eqD {w : World} {Q : Exit → Act → World → Prop} (hgd : o.guard = none) (x y : Operand) (yt : TypeId) (ho : o.op = .binOp .eql 43 x y yt) (X Y : List UInt8) (hx : a.eval x = .agg (dat X)) (hy : a.eval y = .agg (dat Y)) (hX : X.length = 32) (hY : Y.length = 32)
    (b : Bool) (hb : decide (X = Y) = b) (h : wpList Tryd.prog ops Q rest (a.put o.dst (.bool b)) w) : wpList Tryd.prog ops Q (o :: rest) a w :=
  wpList_plain hgd fun K hK => by
    unfold Oper.wp execOp
    simp only [ho, hx, hy, Sem.run_bind, Sem.run_pure, Result.andThen_ok, eqGuard_dat, eql_dat X Y hX hY, hb]
    exact hK _ _ h
theorem wpList_neD {w : World} {Q : Exit → Act → World → Prop} (hgd : o.guard = none) (x y : Operand) (yt : TypeId) (ho : o.op = .binOp .neq 43 x y yt) (X Y : List UInt8) (hx : a.eval x = .agg (dat X)) (hy : a.eval y = .agg (dat Y)) (hX : X.length = 32) (hY : Y.length = 32)
    (b : Bool) (hb : decide (X = Y) = b) (h : wpList Tryd.prog ops Q rest (a.put o.dst (.bool (!b))) w) : wpList Tryd.prog ops Q (o :: rest) a w :=
  wpList_plain hgd fun K hK => by
    unfold Oper.wp execOp
    simp only [ho, hx, hy, Sem.run_bind, Sem.run_pure, Result.andThen_ok, eqGuard_dat, neq_dat X Y hX hY, hb]
    exact hK _ _ h
end
set_option maxRecDepth 100000 in
theorem cut_any (d : List UInt8) (hd : d.length = 32) (n : Int) (w : World) :
    Calls Tryd.prog 61 #[.agg (dat d), .int .i64 n] w fun e w' => e = .returned (.agg (dat (cutL d n))) ∧ Below w.heap.size w w' := by
  have ed : (d.map v8).toArray = arr 32 (fun p => d.getD p 0) := by rw [arr_list, hd]
  show Calls _ _ #[.agg (arr 32 fun p => d.getD p 0), .int .i64 n] _ _
  go_enter Tryd.func61, Tryd.ntmps61
  go_wp2
  refine wp_at (fun W => Blk W w.heap.size 43 (arr 32 fun p => d.getD p 0) ∧ Blk W (w.heap.size + 1) 43 (arr 32 fun _ => 0) ∧ Blk W (w.heap.size + 2) 43 (arr 32 fun _ => 0) ∧ Below w.heap.size w W)
    ⟨((Blk.new w _ _).alloc _).alloc _, ?_, ?_, (((Below.refl _ _).alloc (Nat.le_refl _) _).alloc (by simp) _).alloc (by simp; omega) _⟩ ?_
  · refine Blk.alloc ?_ _
    rw [show w.heap.size + 1 = (w.alloc (Obj.cells (arr 32 fun p => d.getD p 0) 43)).heap.size by simp]
    exact Blk.new _ _ _
  · rw [show w.heap.size + 2 = ((w.alloc (Obj.cells (arr 32 fun p => d.getD p 0) 43)).alloc (Obj.cells (arr 32 fun _ => 0) 43)).heap.size by simp]
    exact Blk.new _ _ _
  intro W ⟨hA, hB, hC, hbel⟩
  refine wp_region_quiet_tail 5 (fun W' => ∃ n, W' = W.drewN n) (by kernel_rfl) (by kernel_rfl) ⟨1, rfl⟩ ?_
  simp only [List.take_succ_cons, List.take_zero, List.drop_succ_cons, List.drop_zero]
  repeat (go_big_quiet_step (fail))
  obtain ⟨m, hm⟩ : ∃ m : Nat, m = min n.toNat 32 := ⟨_, rfl⟩
  have hm32 : m ≤ 32 := by omega
  rw [show (if 32 < if n < 0 then 0 else n then 32 else if n < 0 then 0 else n) = (m : Int) by split <;> (try split) <;> omega]
  have Hm := Lib.hid hm
  clear hm
  generalize (if n < 0 then 0 else n) = n8'
  have hsl : ∀ wx, (Instr.sliceAt 43 (.pointer (some ⟨w.heap.size, 0, none⟩)) none (some (.int .i64 (m : Int))) none).run Tryd.prog wx = .ok (.slice (some ⟨w.heap.size, 0, none⟩) m 32) wx := fun wx =>
    run_sliceAt_array_hh (P := Tryd.prog) (w := wx) ⟨w.heap.size, 0, none⟩ Tryd.underlying43 (by kernel_rfl) .i64 (m : Int) (by omega) (by omega)
  repeat (go_big_quiet_step (fail))
  refine wpQuiet_nil ?_
  intro W' hW'
  obtain ⟨nq, rfl⟩ := hW'
  have e1 := copied_arr 32 (fun _ => 0) 0 (d.take m) 32 (by rw [List.length_take, hd]; show 0 + min (min m 32) 32 ≤ 32; omega)
  have e2 : (d.take m).length = m := by rw [List.length_take, hd]; omega
  rw [e2] at e1
  have hrd : Reads (W.drewN nq) (w.heap.size + 1) (some ⟨w.heap.size, 0, none⟩) ((d.take m).map v8) := by
    have := (Reads.of_blk (hA.drewN nq) (by omega : w.heap.size < w.heap.size + 1) 0).take m
    rw [List.map_take]
    rw [← ed] at this
    simpa using this
  refine wpList_copyR rfl (.tmp 6) (.tmp 10) _ _ rfl 5 Tryd.underlying62 (by kernel_rfl) (w.heap.size + 2) 0 32 32 _ _ _ rfl rfl _ _ (hC.drewN nq) _ _ hrd (by rw [List.length_map, e2]) (by rw [arr_size]; show 0 + min m 32 ≤ 32; omega) (oneCell_v8 _) ?_
  intro W2 hC2 hon2
  rw [e1] at hC2
  have hB2 := (hB.drewN nq).grown hon2 (by simp)
  have hb2 := below_only (below_drewN hbel nq) hon2 (by omega) hbel.size
  go_wp2_with (first
    | (refine wpList_load_row rfl 43 (.tmp 5) rfl (w.heap.size + 2) rfl _ _ _ _ hC2 Tryd.underlying43 rfl (by kernel_rfl) ?_)
    | (refine wpList_storeArr rfl rfl 43 (.tmp 4) (.tmp 12) rfl (w.heap.size + 1) rfl 32 _ _ rfl _ hB2 (by kernel_rfl) ?_; intro w6 hR6 hon6))
  have hb6 := below_only hb2 hon6 (by omega) hb2.size
  refine bodyPost_ret (results_cell_row (p := 4) (ty := 43) rfl _ _ (w.heap.size + 1) _ _ _ _ rfl hR6 Tryd.underlying43 rfl (by kernel_rfl)) rfl ⟨?_, hb6⟩
  rw [dat_eq _ (cutL_length d n hd), cutL_arr d n hd]
  congr 2
  apply arr_congr
  intro p hp
  have := Hm.out
  show (if 0 ≤ p ∧ p < 0 + min m 32 then (d.take m).getD (p - 0) 0 else 0) = _
  by_cases h : (p : Int) < n
  · rw [if_pos h, if_pos (show 0 ≤ p ∧ p < 0 + min m 32 by omega), Nat.sub_zero, List.getD_eq_getElem?_getD, List.getElem?_take, if_pos (by omega)]; rfl
  · rw [if_neg h, if_neg (show ¬ (0 ≤ p ∧ p < 0 + min m 32) by omega)]
theorem take_flat (ls : List (List UInt8)) (k : Nat) (hk : k < ls.length) : (ls.take (k + 1)).flatten = (ls.take k).flatten ++ ls.getD k [] := by
  rw [List.take_succ_eq_append_getElem hk, List.flatten_append]
  simp [hk]
theorem flat_le (ls : List (List UInt8)) (k : Nat) : (ls.take k).flatten.length ≤ ls.flatten.length := by
  conv => rhs; rw [← List.take_append_drop k ls]
  rw [List.flatten_append, List.length_append]; omega
theorem join_any (v : Value) (ls : List (List UInt8)) (w : World) (h : SSl w w.heap.size v ls) (hlen : ls.flatten.length ≤ 140737488355328) :
    Calls Tryd.prog 48 #[v] w fun e w' => ∃ u, e = .returned u ∧ w'.ownsRow w.heap.size 5 1 u ls.flatten.length (ls.flatten.map v8) ∧ Below w.heap.size w w' := by
  obtain ⟨i0, hi, hz0, hz1, hz2⟩ := info_parts (by kernel_rfl : (Tryd.prog.info? 5).map (fun i => (i.zero, i.size, i.bytes)) = some (some (.int .u8 0), 1, 1))
  obtain ⟨A, cap, vs, rfl, hc1, hc2, hr, hvl, hel⟩ := h
  go_enter Tryd.func48, Tryd.ntmps48
  go_wp2
  go_loopw [3, 5, 8] (fun u _ i wr => ∃ k : Nat, k ≤ ls.length ∧ i = .int .i64 k ∧ wr.ownsRow w.heap.size 5 1 u ((ls.take k).flatten.map v8).length ((ls.take k).flatten.map v8) ∧ Below w.heap.size w wr) (fun _ _ i _ => ls.length - (intOf i).toNat)
  case atStart => exact ⟨0, by omega, rfl, by simpa using World.ownsRow_nil _ _ _ _, Below.refl _ _⟩
  case round =>
    obtain ⟨k, hk, rfl, hown, hbel⟩ := hrel
    by_cases hlt : k < ls.length
    · obtain ⟨b, off, rfl, hb, hc⟩ := hr (by omega)
      have hvk : vs[k]? = some (vs.getD k undef) := by rw [List.getD_eq_getElem?_getD, List.getElem?_eq_getElem (by omega)]; rfl
      obtain ⟨A2, cap2, e2, hc21, hc22, hr2⟩ := hel k hlt
      rw [e2] at hvk
      have cv : wr.cell? ⟨b, off + k, none⟩ = some (.slice A2 (ls.getD k []).length cap2) := (hbel.cell (p := ⟨b, off + k, none⟩) hb).trans (hc k _ hvk)
      have hr3 := hr2.below hbel
      have hL1 := flat_le ls (k + 1)
      rw [take_flat ls k hlt, List.length_append] at hL1
      obtain ⟨x, hx⟩ : ∃ x, x = ls.getD k [] := ⟨_, rfl⟩
      rw [← hx] at cv hr3 hL1
      have Hx := Lib.hid hx
      have He2 := Lib.hid e2
      clear hx hvk hr2 hc21 e2
      have hlx : ((ls.take k).flatten.map v8).length = (ls.take k).flatten.length := List.length_map ..
      go_wp2_with (first
        | (at_builtin; refine wpList_appendR rfl (.tmp 12) (.tmp 13) _ rfl w.heap.size 5 i0 _ 1 Tryd.underlying62 hi hz0 hz1 hz2 rfl _ _ rfl hown _ A2 _ _ _ rfl hr3 (by rw [List.length_map]) (oneCell_v8 _) (by unfold maxLen; omega) (by omega) hbel.size ?_; intro u1 w1 hown1 hg1 hat1))
      have hg2 : wr.grownBy w1 u3.ownBlock := hg1
      go_roundw
      case rel =>
        refine ⟨k + 1, by omega, by go_num, ?_, below_own hbel hown hg2 hbel.size⟩
        rw [take_flat ls k hlt, List.map_append, ← Hx.out]
        exact hown1
      case measure => simp [intOf]; omega
    · have ek : k = ls.length := by omega
      rw [ek, List.take_length] at hown
      clear ek
      go_wp2
      go_ret
      rw [List.length_map] at hown
      exact ⟨u3, rfl, hown, hbel⟩
end Go.Proofs.YtkogehkmldbhgaaDoor
