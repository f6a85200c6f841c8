/- Texts that stand behind one another: SamA. No condition. -/
import Derived.Test.YtcdkadidkkbhpaaDoorS15
import Derived.Test.YtcdkadidkkbhpaaDoorS25
import Derived.Test.YtcdkadidkkbhpaaDoorS23
import Derived.Test.YtcdkadidkkbhpaaDoorS26
/- Lists compared, in plain Lean; the walks of slices.Equal at tenants, grants and numbers. No condition. -/
namespace Go.Proofs.YtcdkadidkkbhpaaDoor
open Go Go.RowKit
attribute [local irreducible] mixW
attribute [local go_sem] n8_lo n8_hi n64_lo n64_hi n32_lo n32_hi
def sameL {α : Type} (f : α → α → Bool) : List α → List α → Bool
  | [], [] => true
  | a :: l, b :: m => f a b && sameL f l m
  | _, _ => false
theorem sameL_len {α : Type} (f : α → α → Bool) : ∀ (xs ys : List α), xs.length ≠ ys.length → sameL f xs ys = false
  | [], [], h => absurd rfl h
  | [], _ :: _, _ => rfl
  | _ :: _, [], _ => rfl
  | a :: l, b :: m, h => by
    have := sameL_len f l m (fun e => h (by simp [e]))
    simp [sameL, this]
theorem sameL_no {α : Type} (f : α → α → Bool) (d : α) : ∀ (xs ys : List α) (k : Nat), k < xs.length → k < ys.length → f (xs.getD k d) (ys.getD k d) = false → sameL f xs ys = false
  | [], _, k, h, _, _ => by simp at h
  | _ :: _, [], k, _, h, _ => by simp at h
  | a :: l, b :: m, 0, _, _, h => by
    have h' : f a b = false := by simpa using h
    simp [sameL, h']
  | a :: l, b :: m, k + 1, h1, h2, h => by
    have := sameL_no f d l m k (by simpa using h1) (by simpa using h2) (by simpa using h)
    simp [sameL, this]
theorem sameL_yes {α : Type} (f : α → α → Bool) (d : α) : ∀ (xs ys : List α), xs.length = ys.length → (∀ k, k < xs.length → f (xs.getD k d) (ys.getD k d) = true) → sameL f xs ys = true
  | [], [], _, _ => rfl
  | [], _ :: _, h, _ => by simp at h
  | _ :: _, [], h, _ => by simp at h
  | a :: l, b :: m, h, hk => by
    have h0 : f a b = true := by simpa using hk 0 (by simp)
    have h1 := sameL_yes f d l m (by simpa using h) (fun k hk' => by simpa using hk (k + 1) (by simpa using hk'))
    simp [sameL, h0, h1]
theorem sameL_iff {α : Type} (f : α → α → Bool) (hf : ∀ a b, f a b = true ↔ a = b) : ∀ (xs ys : List α), sameL f xs ys = true ↔ xs = ys
  | [], [] => by simp [sameL]
  | [], _ :: _ => by simp [sameL]
  | _ :: _, [] => by simp [sameL]
  | a :: l, b :: m => by simp [sameL, hf a b, sameL_iff f hf l m]
theorem n32_inj' {a b : UInt32} (h : n32 a = n32 b) : a = b := by
  unfold n32 at h
  exact UInt32.toNat_inj.1 (by omega)
theorem n64_inj' {a b : UInt64} (h : n64 a = n64 b) : a = b := by
  unfold n64 at h
  exact UInt64.toNat_inj.1 (by omega)
def eqW (a b : UInt32) : Bool := n32 a == n32 b
theorem eqW_iff (a b : UInt32) : eqW a b = true ↔ a = b := by
  unfold eqW
  rw [beq_iff_eq]
  exact ⟨n32_inj', fun e => by rw [e]⟩
def bucC (t : TenL) : Array Value := #[.int .u32 (n32 t.rate), .int .u32 (n32 t.burst), .int .u32 (n32 t.tokens)]
def eqBuc (a b : TenL) : Bool := (n32 a.rate == n32 b.rate) && (n32 a.burst == n32 b.burst) && (n32 a.tokens == n32 b.tokens)
def eqTen (a b : TenL) : Bool := (a.on == b.on) && eqBuc a b && (n32 a.store == n32 b.store) && (n32 a.used == n32 b.used)
theorem eqTen_iff (a b : TenL) : eqTen a b = true ↔ a = b := by
  constructor
  · intro h
    simp only [eqTen, eqBuc, Bool.and_eq_true, beq_iff_eq] at h
    obtain ⟨⟨⟨h1, ⟨h2, h3⟩, h4⟩, h5⟩, h6⟩ := h
    obtain ⟨a1, a2, a3, a4, a5, a6⟩ := a
    obtain ⟨b1, b2, b3, b4, b5, b6⟩ := b
    simp only at h1 h2 h3 h4 h5 h6
    rw [h1, n32_inj' h2, n32_inj' h3, n32_inj' h4, n32_inj' h5, n32_inj' h6]
  · rintro rfl
    simp [eqTen, eqBuc]
def eqGra (a b : GraL) : Bool := (a.tenant == b.tenant) && (a.role == b.role) && (n64 a.expires == n64 b.expires) && (a.revoked == b.revoked)
theorem eqGra_iff (a b : GraL) : eqGra a b = true ↔ a = b := by
  constructor
  · intro h
    simp only [eqGra, Bool.and_eq_true, beq_iff_eq] at h
    obtain ⟨⟨⟨h1, h2⟩, h3⟩, h4⟩ := h
    obtain ⟨a1, a2, a3, a4⟩ := a
    obtain ⟨b1, b2, b3, b4⟩ := b
    simp only at h1 h2 h3 h4
    rw [h1, h2, n64_inj' h3, h4]
  · rintro rfl
    simp [eqGra]
theorem run_part_boolS (w : World) (cs : Array Value) (i : Nat) (v : Value) (h : cs[i]? = some v) : (part 4 cs i).run Tryd.prog w = .ok v w := by
  simp [part, isAgg, run_underlying Tryd.underlying4, h]
theorem eqi_boolS (d : Nat) (w : World) (a b : Bool) : (Op.equalIn (d + 1) 4 (.bool a) (.bool b)).run Tryd.prog w = .ok (a == b) w := by
  simp [Op.equalIn, run_underlying Tryd.underlying4]
theorem run_part_buc (w : World) (t : TenL) : (part 69 (tenC t) 1).run Tryd.prog w = .ok (.agg (bucC t)) w := by
  have hs : (sizeOf 69).run Tryd.prog w = .ok 3 w := by kernel_rfl
  have ha : (isAgg 69).run Tryd.prog w = .ok true w := by kernel_rfl
  have he : (tenC t).extract 1 4 = bucC t := rfl
  simp [part, ha, hs, he]
set_option maxRecDepth 100000 in
theorem eqi_buc (d : Nat) (a b : TenL) (w : World) : (Op.equalIn (d + 2) 69 (.agg (bucC a)) (.agg (bucC b))).run Tryd.prog w = .ok (eqBuc a b) w := by
  rw [run_equalIn_struct w (d + 1) _ _ _ (by kernel_rfl) (by kernel_rfl)]
  have p0 := run_part_int w Tryd.underlying22 (bucC a) 0 _ rfl
  have p1 := run_part_int w Tryd.underlying22 (bucC a) 1 _ rfl
  have p2 := run_part_int w Tryd.underlying22 (bucC a) 2 _ rfl
  have q0 := run_part_int w Tryd.underlying22 (bucC b) 0 _ rfl
  have q1 := run_part_int w Tryd.underlying22 (bucC b) 1 _ rfl
  have q2 := run_part_int w Tryd.underlying22 (bucC b) 2 _ rfl
  have e0 := eqi_int d w Tryd.underlying22 (n32 a.rate) (n32 b.rate)
  have e1 := eqi_int d w Tryd.underlying22 (n32 a.burst) (n32 b.burst)
  have e2 := eqi_int d w Tryd.underlying22 (n32 a.tokens) (n32 b.tokens)
  simp only [Program.fieldsOf, Tryd.underlying69]
  rw [eqField_step (by simp) p0 q0 e0, eqField_step (by simp) p1 q1 e1, eqField_step (by simp) p2 q2 e2, eqFields_end]
  unfold eqBuc
  clear p0 p1 p2 q0 q1 q2 e0 e1 e2
  generalize (n32 a.rate == n32 b.rate) = b0
  generalize (n32 a.burst == n32 b.burst) = b1
  generalize (n32 a.tokens == n32 b.tokens) = b2
  cases b0 <;> cases b1 <;> cases b2 <;> rfl
set_option maxRecDepth 100000 in
theorem eqi_ten (d : Nat) (a b : TenL) (w : World) : (Op.equalIn (d + 3) 73 (.agg (tenC a)) (.agg (tenC b))).run Tryd.prog w = .ok (eqTen a b) w := by
  rw [run_equalIn_struct w (d + 2) _ _ _ (by kernel_rfl) (by kernel_rfl)]
  have p0 := run_part_boolS w (tenC a) 0 _ rfl
  have p1 := run_part_buc w a
  have p2 := run_part_int w Tryd.underlying22 (tenC a) 4 _ rfl
  have p3 := run_part_int w Tryd.underlying22 (tenC a) 5 _ rfl
  have q0 := run_part_boolS w (tenC b) 0 _ rfl
  have q1 := run_part_buc w b
  have q2 := run_part_int w Tryd.underlying22 (tenC b) 4 _ rfl
  have q3 := run_part_int w Tryd.underlying22 (tenC b) 5 _ rfl
  have e0 := eqi_boolS (d + 1) w a.on b.on
  have e1 := eqi_buc d a b w
  have e2 := eqi_int (d + 1) w Tryd.underlying22 (n32 a.store) (n32 b.store)
  have e3 := eqi_int (d + 1) w Tryd.underlying22 (n32 a.used) (n32 b.used)
  simp only [Program.fieldsOf, Tryd.underlying73]
  rw [eqField_step (by simp) p0 q0 e0, eqField_step (by simp) p1 q1 e1, eqField_step (by simp) p2 q2 e2, eqField_step (by simp) p3 q3 e3, eqFields_end]
  unfold eqTen
  clear p0 p1 p2 p3 q0 q1 q2 q3 e0 e1 e2 e3
  generalize (a.on == b.on) = b0
  generalize eqBuc a b = b1
  generalize (n32 a.store == n32 b.store) = b2
  generalize (n32 a.used == n32 b.used) = b3
  cases b0 <;> cases b1 <;> cases b2 <;> cases b3 <;> rfl
set_option maxRecDepth 100000 in
theorem eqi_gra (d : Nat) (a b : GraL) (w : World) : (Op.equalIn (d + 2) 67 (.agg (graC a)) (.agg (graC b))).run Tryd.prog w = .ok (eqGra a b) w := by
  rw [run_equalIn_struct w (d + 1) _ _ _ (by kernel_rfl) (by kernel_rfl)]
  have p0 := run_part_int w Tryd.underlying3 (graC a) 0 _ rfl
  have p1 := run_part_int w Tryd.underlying3 (graC a) 1 _ rfl
  have p2 := run_part_int w Tryd.underlying27 (graC a) 2 _ rfl
  have p3 := run_part_boolS w (graC a) 3 _ rfl
  have q0 := run_part_int w Tryd.underlying3 (graC b) 0 _ rfl
  have q1 := run_part_int w Tryd.underlying3 (graC b) 1 _ rfl
  have q2 := run_part_int w Tryd.underlying27 (graC b) 2 _ rfl
  have q3 := run_part_boolS w (graC b) 3 _ rfl
  have e0 := eqi_int d w Tryd.underlying3 a.tenant b.tenant
  have e1 := eqi_int d w Tryd.underlying3 a.role b.role
  have e2 := eqi_int d w Tryd.underlying27 (n64 a.expires) (n64 b.expires)
  have e3 := eqi_boolS d w a.revoked b.revoked
  simp only [Program.fieldsOf, Tryd.underlying67]
  rw [eqField_step (by simp) p0 q0 e0, eqField_step (by simp) p1 q1 e1, eqField_step (by simp) p2 q2 e2, eqField_step (by simp) p3 q3 e3, eqFields_end]
  unfold eqGra
  clear p0 p1 p2 p3 q0 q1 q2 q3 e0 e1 e2 e3
  generalize (a.tenant == b.tenant) = b0
  generalize (a.role == b.role) = b1
  generalize (n64 a.expires == n64 b.expires) = b2
  generalize (a.revoked == b.revoked) = b3
  cases b0 <;> cases b1 <;> cases b2 <;> cases b3 <;> rfl
section
variable {ops : Array Oper} {C : World → Prop} {Q : Act → Prop} {a : Act} {o : Oper} {rest : List Oper}
theorem wpQuiet_neTen (hw : Region.wanted o (yielded ops a.tmps) = true) (x y : Operand) (yt : TypeId) (ho : o.op = .binOp .neq 73 x y yt) (t u : TenL) (hx : a.eval x = .agg (tenC t)) (hy : a.eval y = .agg (tenC u))
    (b : Bool) (hb : (!(eqTen t u)) = b) (hk : wpQuiet Tryd.prog ops C Q rest (a.put o.dst (.bool b))) : wpQuiet Tryd.prog ops C Q (o :: rest) a :=
  wpQuiet_wanted hw (.bool b) (fun w _ => by
    have hr : (binOp .neq 73 (.agg (tenC t)) (.agg (tenC u))).run Tryd.prog w = .ok (.bool (!(eqTen t u))) w := by rw [run_neq_struct, eqi_ten 9997]; rfl
    unfold Oper.quietAt execOp
    simp only [ho, hx, hy, Sem.run_bind, Sem.run_pure, Result.andThen_ok, run_eqGuard_agg (P := Tryd.prog) w .neq 73 x y _ _ (by kernel_rfl), hr, hb]
    exact ⟨rfl, rfl⟩) hk
theorem wpQuiet_neGra (hw : Region.wanted o (yielded ops a.tmps) = true) (x y : Operand) (yt : TypeId) (ho : o.op = .binOp .neq 67 x y yt) (t u : GraL) (hx : a.eval x = .agg (graC t)) (hy : a.eval y = .agg (graC u))
    (b : Bool) (hb : (!(eqGra t u)) = b) (hk : wpQuiet Tryd.prog ops C Q rest (a.put o.dst (.bool b))) : wpQuiet Tryd.prog ops C Q (o :: rest) a :=
  wpQuiet_wanted hw (.bool b) (fun w _ => by
    have hr : (binOp .neq 67 (.agg (graC t)) (.agg (graC u))).run Tryd.prog w = .ok (.bool (!(eqGra t u))) w := by rw [run_neq_struct, eqi_gra 9998]; rfl
    unfold Oper.quietAt execOp
    simp only [ho, hx, hy, Sem.run_bind, Sem.run_pure, Result.andThen_ok, run_eqGuard_agg (P := Tryd.prog) w .neq 67 x y _ _ (by kernel_rfl), hr, hb]
    exact ⟨rfl, rfl⟩) hk
end
theorem RX.rowAt {α : Type} {w : World} {B sz : Nat} {A : Option Addr} {n c : Nat} (f : α → Array Value) {xs : List α} (d : α) (h : RX w B sz (.slice A n c) (xs.map f)) (h0 : 0 < sz) (k : Nat) (hk : k < xs.length) : ∃ g o, A = some ⟨g, o, none⟩ ∧ g < B ∧ w.rangeAt g (o + k * sz) (f (xs.getD k d)).toList := by
  obtain ⟨g, o, e, hg, hr⟩ := h.range h0 k (by rw [List.length_map]; exact hk)
  refine ⟨g, o, e, hg, ?_⟩
  have e1 : (xs.map f).getD k #[] = f (xs.getD k d) := by
    rw [List.getD_eq_getElem?_getD, List.getD_eq_getElem?_getD, List.getElem?_map, List.getElem?_eq_getElem hk]; rfl
  rw [← e1]; exact hr
set_option maxHeartbeats 1000000 in
set_option maxRecDepth 100000 in
theorem eqTens_any (u v : Value) (xs ys : List TenL) (w : World) (hu : RX w w.heap.size 6 u (xs.map tenC)) (hv : RX w w.heap.size 6 v (ys.map tenC)) (hx : xs.length ≤ 1000000) (hy : ys.length ≤ 1000000) :
    Calls Tryd.prog 35 #[u, v] w fun e w' => e = .returned (.bool (sameL eqTen xs ys)) ∧ Below w.heap.size w w' := by
  obtain ⟨Au, cu, e1⟩ := hu.shape
  obtain ⟨Av, cv, e2⟩ := hv.shape
  rw [List.length_map] at e1 e2
  subst e1; subst e2
  obtain ⟨r, hr⟩ : ∃ r, sameL eqTen xs ys = r := ⟨_, rfl⟩
  rw [hr]
  by_cases hl : xs.length = ys.length
  · have HS := Lib.hid (And.intro hu (And.intro hv (And.intro hr hl)))
    obtain ⟨n, hn⟩ : ∃ n, ys.length = n := ⟨_, rfl⟩
    rw [hl, hn]
    rw [hn] at hy
    have HN := Lib.hid hn
    have HN1 := Lib.hid (show xs.length = n by rw [hl, hn])
    clear hu hv hr hl hn hx
    go_enter Tryd.func35, Tryd.ntmps35
    go_wp2_with fail
    go_loopg [5, 13] (n + 1) (fun gk iv jv wr => ∃ k : Nat, n + 1 ≤ k + gk ∧ k ≤ n ∧ jv = .int .i64 (k : Int) ∧ Below w.heap.size w wr ∧ ∀ i, i < k → eqTen (xs.getD i zeroTen) (ys.getD i zeroTen) = true)
    case atStart => exact ⟨0, by omega, by omega, rfl, Below.refl _ _, fun i hi => absurd hi (Nat.not_lt_zero _)⟩
    case round =>
      obtain ⟨k, hk, hkn, rfl, hb, hall⟩ := hrel
      have HX := Lib.hid (And.intro hk (And.intro hb hall))
      clear hk hb hall
      by_cases hlt : k < n
      · have hki : (k : Int) < (n : Int) := by omega
        have hgk : 0 < gk := by have := HX.out.1; omega
        obtain ⟨gu, ou, eu, hgu, hru⟩ := HS.out.1.rowAt tenC zeroTen (by decide) k (by rw [HN1.out]; exact hlt)
        obtain ⟨gv, ov, ev, hgv, hrv⟩ := HS.out.2.1.rowAt tenC zeroTen (by decide) k (by rw [HN.out]; exact hlt)
        subst eu; subst ev
        have HR := Lib.hid (show ∀ V, Below w.heap.size w V → V.rangeAt gu (ou + k * 6) (tenC (xs.getD k zeroTen)).toList ∧ V.rangeAt gv (ov + k * 6) (tenC (ys.getD k zeroTen)).toList from fun V hV =>
          ⟨fun j v hj => (hV.cell (p := ⟨gu, ou + k * 6 + j, none⟩) hgu).trans (hru j v hj), fun j v hj => (hV.cell (p := ⟨gv, ov + k * 6 + j, none⟩) hgv).trans (hrv j v hj)⟩)
        obtain ⟨b, hb⟩ : ∃ b, eqTen (xs.getD k zeroTen) (ys.getD k zeroTen) = b := ⟨_, rfl⟩
        have HB := Lib.hid (show (!(eqTen (xs.getD k zeroTen) (ys.getD k zeroTen))) = !b by rw [hb])
        have HB1 := Lib.hid hb
        clear hru hrv hb hgu hgv
        have HE := HB1
        generalize xs.getD k zeroTen = t1 at HR HB
        generalize ys.getD k zeroTen = t2 at HR HB
        clear HB1
        go_upto_region 6 with fail
        refine wp_region_mixP (.plain 0 <| .plain 1 <| .plain 2 <| .plain 3 <| .plain 4 <| .plain 5 <| .plain 6 <| .plain 7 <| .plain 8 <| .done) (by kernel_rfl) (by kernel_rfl) (fun W2 hbW => ?_)
        have hb2 := HX.out.2.1.trans (hbW.mono HX.out.2.1.size)
        have HP := Lib.hid (show ∀ e, Below w.heap.size w (plus W2 e) from fun e => hb2.trans ((plus_below W2 e).mono hb2.size))
        iterate 9 (refine mix_plain rfl ?_; (first
          | (refine wpQuiet_loadMid rfl 73 (.tmp 18) rfl gu (ou + k * 6) rfl (tenC t1) _ (fun V hV => by obtain ⟨e, rfl⟩ := hV; exact (HR.out _ (HP.out e)).1) Tryd.underlying73 rfl (by kernel_rfl) ?_; simp only [Act.put, List.setIfInBounds_toArray, List.set_cons_zero, List.set_cons_succ])
          | (refine wpQuiet_loadMid rfl 73 (.tmp 22) rfl gv (ov + k * 6) rfl (tenC t2) _ (fun V hV => by obtain ⟨e, rfl⟩ := hV; exact (HR.out _ (HP.out e)).2) Tryd.underlying73 rfl (by kernel_rfl) ?_; simp only [Act.put, List.setIfInBounds_toArray, List.set_cons_zero, List.set_cons_succ])
          | (refine wpQuiet_neTen rfl (.tmp 19) (.tmp 23) _ rfl t1 t2 rfl rfl _ HB.out ?_; simp only [Act.put, List.setIfInBounds_toArray, List.set_cons_zero, List.set_cons_succ])
          | go_big_quiet_step (fail)); refine wpQuiet_nil ?_)
        refine mix_done ?_
        have Hb2 := Lib.hid hb2
        clear hb2 hbW
        cases b
        · try simp only [Bool.not_false]
          go_wp2_with fail
          go_ret
          refine ⟨?_, Hb2.out⟩
          have := sameL_no eqTen zeroTen xs ys k (by rw [HN1.out]; exact hlt) (by rw [HN.out]; exact hlt) (HE.out)
          rw [← HS.out.2.2.1, this] <;> rfl
        · try simp only [Bool.not_true]
          go_wp2_with fail
          go_roundg (gk - 1)
          case measure => omega
          case rel => exact ⟨k + 1, by have := HX.out.1; omega, by omega, by go_num, Hb2.out, fun i hi => by
            by_cases hik : i = k
            · subst hik; exact HE.out
            · exact HX.out.2.2 i (by omega)⟩
      · obtain rfl : k = n := by omega
        clear hlt hkn
        go_wp2_with fail
        go_ret
        refine ⟨?_, HX.out.2.1⟩
        have := sameL_yes eqTen zeroTen xs ys HS.out.2.2.2 (fun i hi => HX.out.2.2 i (by have := HN1.out; omega))
        rw [← HS.out.2.2.1, this] <;> rfl
  · have HS := Lib.hid (show r = false from by rw [← hr]; exact sameL_len eqTen xs ys hl)
    have hne : ((xs.length : Int) == (ys.length : Int)) = false := by rw [beq_eq_false_iff_ne]; omega
    have hne2 : ((xs.length : Int) != (ys.length : Int)) = true := by rw [bne, hne]; rfl
    clear hr hu hv
    go_enter Tryd.func35, Tryd.ntmps35
    go_wp2_with fail
    go_ret
    exact ⟨by rw [HS.out] <;> rfl, Below.refl _ _⟩
set_option maxHeartbeats 1000000 in
set_option maxRecDepth 100000 in
theorem eqGras_any (u v : Value) (xs ys : List GraL) (w : World) (hu : RX w w.heap.size 4 u (xs.map graC)) (hv : RX w w.heap.size 4 v (ys.map graC)) (hx : xs.length ≤ 1000000) (hy : ys.length ≤ 1000000) :
    Calls Tryd.prog 36 #[u, v] w fun e w' => e = .returned (.bool (sameL eqGra xs ys)) ∧ Below w.heap.size w w' := by
  obtain ⟨Au, cu, e1⟩ := hu.shape
  obtain ⟨Av, cv, e2⟩ := hv.shape
  rw [List.length_map] at e1 e2
  subst e1; subst e2
  obtain ⟨r, hr⟩ : ∃ r, sameL eqGra xs ys = r := ⟨_, rfl⟩
  rw [hr]
  by_cases hl : xs.length = ys.length
  · have HS := Lib.hid (And.intro hu (And.intro hv (And.intro hr hl)))
    obtain ⟨n, hn⟩ : ∃ n, ys.length = n := ⟨_, rfl⟩
    rw [hl, hn]
    rw [hn] at hy
    have HN := Lib.hid hn
    have HN1 := Lib.hid (show xs.length = n by rw [hl, hn])
    clear hu hv hr hl hn hx
    go_enter Tryd.func36, Tryd.ntmps36
    go_wp2_with fail
    go_loopg [5, 13] (n + 1) (fun gk iv jv wr => ∃ k : Nat, n + 1 ≤ k + gk ∧ k ≤ n ∧ jv = .int .i64 (k : Int) ∧ Below w.heap.size w wr ∧ ∀ i, i < k → eqGra (xs.getD i (⟨0, 0, 0, false⟩ : GraL)) (ys.getD i (⟨0, 0, 0, false⟩ : GraL)) = true)
    case atStart => exact ⟨0, by omega, by omega, rfl, Below.refl _ _, fun i hi => absurd hi (Nat.not_lt_zero _)⟩
    case round =>
      obtain ⟨k, hk, hkn, rfl, hb, hall⟩ := hrel
      have HX := Lib.hid (And.intro hk (And.intro hb hall))
      clear hk hb hall
      by_cases hlt : k < n
      · have hki : (k : Int) < (n : Int) := by omega
        have hgk : 0 < gk := by have := HX.out.1; omega
        obtain ⟨gu, ou, eu, hgu, hru⟩ := HS.out.1.rowAt graC (⟨0, 0, 0, false⟩ : GraL) (by decide) k (by rw [HN1.out]; exact hlt)
        obtain ⟨gv, ov, ev, hgv, hrv⟩ := HS.out.2.1.rowAt graC (⟨0, 0, 0, false⟩ : GraL) (by decide) k (by rw [HN.out]; exact hlt)
        subst eu; subst ev
        have HR := Lib.hid (show ∀ V, Below w.heap.size w V → V.rangeAt gu (ou + k * 4) (graC (xs.getD k (⟨0, 0, 0, false⟩ : GraL))).toList ∧ V.rangeAt gv (ov + k * 4) (graC (ys.getD k (⟨0, 0, 0, false⟩ : GraL))).toList from fun V hV =>
          ⟨fun j v hj => (hV.cell (p := ⟨gu, ou + k * 4 + j, none⟩) hgu).trans (hru j v hj), fun j v hj => (hV.cell (p := ⟨gv, ov + k * 4 + j, none⟩) hgv).trans (hrv j v hj)⟩)
        obtain ⟨b, hb⟩ : ∃ b, eqGra (xs.getD k (⟨0, 0, 0, false⟩ : GraL)) (ys.getD k (⟨0, 0, 0, false⟩ : GraL)) = b := ⟨_, rfl⟩
        have HB := Lib.hid (show (!(eqGra (xs.getD k (⟨0, 0, 0, false⟩ : GraL)) (ys.getD k (⟨0, 0, 0, false⟩ : GraL)))) = !b by rw [hb])
        have HB1 := Lib.hid hb
        clear hru hrv hb hgu hgv
        have HE := HB1
        generalize xs.getD k (⟨0, 0, 0, false⟩ : GraL) = t1 at HR HB
        generalize ys.getD k (⟨0, 0, 0, false⟩ : GraL) = t2 at HR HB
        clear HB1
        go_upto_region 6 with fail
        refine wp_region_mixP (.plain 0 <| .plain 1 <| .plain 2 <| .plain 3 <| .plain 4 <| .plain 5 <| .plain 6 <| .plain 7 <| .plain 8 <| .done) (by kernel_rfl) (by kernel_rfl) (fun W2 hbW => ?_)
        have hb2 := HX.out.2.1.trans (hbW.mono HX.out.2.1.size)
        have HP := Lib.hid (show ∀ e, Below w.heap.size w (plus W2 e) from fun e => hb2.trans ((plus_below W2 e).mono hb2.size))
        iterate 9 (refine mix_plain rfl ?_; (first
          | (refine wpQuiet_loadMid rfl 67 (.tmp 18) rfl gu (ou + k * 4) rfl (graC t1) _ (fun V hV => by obtain ⟨e, rfl⟩ := hV; exact (HR.out _ (HP.out e)).1) Tryd.underlying67 rfl (by kernel_rfl) ?_; simp only [Act.put, List.setIfInBounds_toArray, List.set_cons_zero, List.set_cons_succ])
          | (refine wpQuiet_loadMid rfl 67 (.tmp 22) rfl gv (ov + k * 4) rfl (graC t2) _ (fun V hV => by obtain ⟨e, rfl⟩ := hV; exact (HR.out _ (HP.out e)).2) Tryd.underlying67 rfl (by kernel_rfl) ?_; simp only [Act.put, List.setIfInBounds_toArray, List.set_cons_zero, List.set_cons_succ])
          | (refine wpQuiet_neGra rfl (.tmp 19) (.tmp 23) _ rfl t1 t2 rfl rfl _ HB.out ?_; simp only [Act.put, List.setIfInBounds_toArray, List.set_cons_zero, List.set_cons_succ])
          | go_big_quiet_step (fail)); refine wpQuiet_nil ?_)
        refine mix_done ?_
        have Hb2 := Lib.hid hb2
        clear hb2 hbW
        cases b
        · try simp only [Bool.not_false]
          go_wp2_with fail
          go_ret
          refine ⟨?_, Hb2.out⟩
          have := sameL_no eqGra (⟨0, 0, 0, false⟩ : GraL) xs ys k (by rw [HN1.out]; exact hlt) (by rw [HN.out]; exact hlt) (HE.out)
          rw [← HS.out.2.2.1, this] <;> rfl
        · try simp only [Bool.not_true]
          go_wp2_with fail
          go_roundg (gk - 1)
          case measure => omega
          case rel => exact ⟨k + 1, by have := HX.out.1; omega, by omega, by go_num, Hb2.out, fun i hi => by
            by_cases hik : i = k
            · subst hik; exact HE.out
            · exact HX.out.2.2 i (by omega)⟩
      · obtain rfl : k = n := by omega
        clear hlt hkn
        go_wp2_with fail
        go_ret
        refine ⟨?_, HX.out.2.1⟩
        have := sameL_yes eqGra (⟨0, 0, 0, false⟩ : GraL) xs ys HS.out.2.2.2 (fun i hi => HX.out.2.2 i (by have := HN1.out; omega))
        rw [← HS.out.2.2.1, this] <;> rfl
  · have HS := Lib.hid (show r = false from by rw [← hr]; exact sameL_len eqGra xs ys hl)
    have hne : ((xs.length : Int) == (ys.length : Int)) = false := by rw [beq_eq_false_iff_ne]; omega
    have hne2 : ((xs.length : Int) != (ys.length : Int)) = true := by rw [bne, hne]; rfl
    clear hr hu hv
    go_enter Tryd.func36, Tryd.ntmps36
    go_wp2_with fail
    go_ret
    exact ⟨by rw [HS.out] <;> rfl, Below.refl _ _⟩
set_option maxHeartbeats 1000000 in
set_option maxRecDepth 100000 in
theorem eqWs_any (u v : Value) (xs ys : List UInt32) (w : World) (hu : WSl w w.heap.size u xs) (hv : WSl w w.heap.size v ys) (hx : xs.length ≤ 1000000) (hy : ys.length ≤ 1000000) :
    Calls Tryd.prog 34 #[u, v] w fun e w' => e = .returned (.bool (sameL eqW xs ys)) ∧ Below w.heap.size w w' := by
  obtain ⟨Au, cu, e1⟩ := hu.shape
  obtain ⟨Av, cv, e2⟩ := hv.shape
  subst e1; subst e2
  obtain ⟨r, hr⟩ : ∃ r, sameL eqW xs ys = r := ⟨_, rfl⟩
  rw [hr]
  by_cases hl : xs.length = ys.length
  · have HS := Lib.hid (And.intro hu (And.intro hv (And.intro hr hl)))
    obtain ⟨n, hn⟩ : ∃ n, ys.length = n := ⟨_, rfl⟩
    rw [hl, hn]
    rw [hn] at hy
    have HN := Lib.hid hn
    have HN1 := Lib.hid (show xs.length = n by rw [hl, hn])
    clear hu hv hr hl hn hx
    go_enter Tryd.func34, Tryd.ntmps34
    go_wp2_with fail
    go_loopg [5, 13] (n + 1) (fun gk iv jv wr => ∃ k : Nat, n + 1 ≤ k + gk ∧ k ≤ n ∧ jv = .int .i64 (k : Int) ∧ Below w.heap.size w wr ∧ ∀ i, i < k → eqW (xs.getD i 0) (ys.getD i 0) = true)
    case atStart => exact ⟨0, by omega, by omega, rfl, Below.refl _ _, fun i hi => absurd hi (Nat.not_lt_zero _)⟩
    case round =>
      obtain ⟨k, hk, hkn, rfl, hb, hall⟩ := hrel
      have HX := Lib.hid (And.intro hk (And.intro hb hall))
      clear hk hb hall
      by_cases hlt : k < n
      · have hki : (k : Int) < (n : Int) := by omega
        have hgk : 0 < gk := by have := HX.out.1; omega
        obtain ⟨gu, ou, eu, hgu, hru⟩ := HS.out.1.cellAt k (by rw [HN1.out]; exact hlt)
        obtain ⟨gv, ov, ev, hgv, hrv⟩ := HS.out.2.1.cellAt k (by rw [HN.out]; exact hlt)
        subst eu; subst ev
        have HR := Lib.hid (show ∀ V, Below w.heap.size w V → V.cell? ⟨gu, ou + k, none⟩ = some (.int .u32 (n32 (xs.getD k 0))) ∧ V.cell? ⟨gv, ov + k, none⟩ = some (.int .u32 (n32 (ys.getD k 0))) from fun V hV =>
          ⟨(hV.cell (p := ⟨gu, ou + k, none⟩) hgu).trans hru, (hV.cell (p := ⟨gv, ov + k, none⟩) hgv).trans hrv⟩)
        obtain ⟨b, hb⟩ : ∃ b, eqW (xs.getD k 0) (ys.getD k 0) = b := ⟨_, rfl⟩
        have HE := Lib.hid hb
        have HB := Lib.hid (show (n32 (xs.getD k 0) == n32 (ys.getD k 0)) = b from hb)
        clear hru hrv hb hgu hgv
        generalize xs.getD k 0 = t1 at HR HB
        generalize ys.getD k 0 = t2 at HR HB
        go_upto_region 6 with fail
        refine wp_region_mixP (.plain 0 <| .plain 1 <| .plain 2 <| .plain 3 <| .plain 4 <| .plain 5 <| .plain 6 <| .plain 7 <| .plain 8 <| .done) (by kernel_rfl) (by kernel_rfl) (fun W2 hbW => ?_)
        have hb2 := HX.out.2.1.trans (hbW.mono HX.out.2.1.size)
        have d1 : ∀ e, (plus W2 e).cell? ⟨gu, ou + k, none⟩ = some (.int .u32 (n32 t1)) := fun e => (HR.out _ (hb2.trans ((plus_below W2 e).mono hb2.size))).1
        have d2 : ∀ e, (plus W2 e).cell? ⟨gv, ov + k, none⟩ = some (.int .u32 (n32 t2)) := fun e => (HR.out _ (hb2.trans ((plus_below W2 e).mono hb2.size))).2
        iterate 8 (refine mix_plain rfl ?_; go_big_quiet_step (fail); refine wpQuiet_nil ?_)
        clear d1 d2
        have Hb2 := Lib.hid hb2
        clear hb2 hbW
        cases b
        · have h1 := HB.out
          have h2 : ¬ n32 t1 = n32 t2 := by simpa using h1
          have h3 : (n32 t1 != n32 t2) = true := by rw [bne, h1]; rfl
          refine mix_plain rfl ?_
          go_big_quiet_step (fail)
          refine wpQuiet_nil ?_
          refine mix_done ?_
          go_wp2_with fail
          go_ret
          refine ⟨?_, Hb2.out⟩
          have := sameL_no eqW 0 xs ys k (by rw [HN1.out]; exact hlt) (by rw [HN.out]; exact hlt) HE.out
          rw [← HS.out.2.2.1, this] <;> rfl
        · have h1 : n32 t1 = n32 t2 := by have := HB.out; simpa using this
          rw [h1]
          clear h1
          refine mix_plain rfl ?_
          go_big_quiet_step (fail)
          refine wpQuiet_nil ?_
          refine mix_done ?_
          go_wp2_with fail
          go_roundg (gk - 1)
          case measure => omega
          case rel => exact ⟨k + 1, by have := HX.out.1; omega, by omega, by go_num, Hb2.out, fun i hi => by
            by_cases hik : i = k
            · subst hik; exact HE.out
            · exact HX.out.2.2 i (by omega)⟩
      · obtain rfl : k = n := by omega
        clear hlt hkn
        go_wp2_with fail
        go_ret
        refine ⟨?_, HX.out.2.1⟩
        have := sameL_yes eqW 0 xs ys HS.out.2.2.2 (fun i hi => HX.out.2.2 i (by have := HN1.out; omega))
        rw [← HS.out.2.2.1, this] <;> rfl
  · have HS := Lib.hid (show r = false from by rw [← hr]; exact sameL_len eqW xs ys hl)
    have hne : ((xs.length : Int) == (ys.length : Int)) = false := by rw [beq_eq_false_iff_ne]; omega
    have hne2 : ((xs.length : Int) != (ys.length : Int)) = true := by rw [bne, hne]; rfl
    clear hr hu hv
    go_enter Tryd.func34, Tryd.ntmps34
    go_wp2_with fail
    go_ret
    exact ⟨by rw [HS.out] <;> rfl, Below.refl _ _⟩
def eqTx (a b : List UInt8) : Bool := decide (a = b)
theorem eqTx_iff (a b : List UInt8) : eqTx a b = true ↔ a = b := by simp [eqTx]
set_option maxHeartbeats 1000000 in
set_option maxRecDepth 100000 in
theorem eqTxs_any (u v : Value) (xs ys : List (List UInt8)) (w : World) (hu : SSl w w.heap.size u xs) (hv : SSl w w.heap.size v ys) (hx : xs.length ≤ 1000000) (hy : ys.length ≤ 1000000) :
    Calls Tryd.prog 31 #[u, v, .func (Fn.func 32) #[] #[]] w fun e w' => e = .returned (.bool (sameL eqTx xs ys)) ∧ Below w.heap.size w w' := by
  obtain ⟨Au, cu, e1⟩ : ∃ A c, u = .slice A xs.length c := by obtain ⟨A, c, _, e, _⟩ := hu; exact ⟨A, c, e⟩
  obtain ⟨Av, cv, e2⟩ : ∃ A c, v = .slice A ys.length c := by obtain ⟨A, c, _, e, _⟩ := hv; exact ⟨A, c, e⟩
  subst e1; subst e2
  obtain ⟨r, hr⟩ : ∃ r, sameL eqTx xs ys = r := ⟨_, rfl⟩
  rw [hr]
  by_cases hl : xs.length = ys.length
  · have HS := Lib.hid (And.intro hu (And.intro hv (And.intro hr hl)))
    obtain ⟨n, hn⟩ : ∃ n, ys.length = n := ⟨_, rfl⟩
    rw [hl, hn]
    rw [hn] at hy
    have HN := Lib.hid hn
    have HN1 := Lib.hid (show xs.length = n by rw [hl, hn])
    clear hu hv hr hl hn hx
    go_enter Tryd.func31, Tryd.ntmps31
    go_wp2_with fail
    go_loopg [7, 8, 9, 17] (n + 1) (fun gk iv xv yv jv wr => ∃ k : Nat, n + 1 ≤ k + gk ∧ k ≤ n ∧ jv = .int .i64 (k : Int) ∧ Below w.heap.size w wr ∧ ∀ i, i < k → eqTx (xs.getD i []) (ys.getD i []) = true)
    case atStart => exact ⟨0, by omega, by omega, rfl, Below.refl _ _, fun i hi => absurd hi (Nat.not_lt_zero _)⟩
    case round =>
      obtain ⟨k, hk, hkn, rfl, hb, hall⟩ := hrel
      have HX := Lib.hid (And.intro hk (And.intro hb hall))
      clear hk hb hall
      by_cases hlt : k < n
      · have hki : (k : Int) < (n : Int) := by omega
        have hgk : 0 < gk := by have := HX.out.1; omega
        obtain ⟨gu, ou, x, eu, hgu, hcu, hxu⟩ := (HS.out.1.below HX.out.2.1).cellAt k (by rw [HN1.out]; exact hlt)
        obtain ⟨gv, ov, y, ev, hgv, hcv, hyv⟩ := (HS.out.2.1.below HX.out.2.1).cellAt k (by rw [HN.out]; exact hlt)
        subst eu; subst ev
        obtain ⟨b, hb⟩ : ∃ b, eqTx (xs.getD k []) (ys.getD k []) = b := ⟨_, rfl⟩
        have HE := Lib.hid hb
        have m := equal_any x y (xs.getD k []) (ys.getD k []) wr (BSl.more hxu HX.out.2.1.size) (BSl.more hyv HX.out.2.1.size) b hb
        obtain ⟨Ax, cx, ex⟩ : ∃ A c, x = .slice A (xs.getD k []).length c := by obtain ⟨A, c, e, _⟩ := hxu; exact ⟨A, c, e⟩
        obtain ⟨Ay, cy, ey⟩ : ∃ A c, y = .slice A (ys.getD k []).length c := by obtain ⟨A, c, e, _⟩ := hyv; exact ⟨A, c, e⟩
        subst ex; subst ey
        clear hb hgu hgv hxu hyv
        generalize (xs.getD k []).length = lx at hcu m
        generalize (ys.getD k []).length = ly at hcv m
        cases b
        · go_wp2_with (first
            | (refine m.mono ?_; clear m; rintro e W2 ⟨rfl, rfl⟩))
          go_ret
          refine ⟨?_, HX.out.2.1⟩
          have := sameL_no eqTx [] xs ys k (by rw [HN1.out]; exact hlt) (by rw [HN.out]; exact hlt) HE.out
          rw [← HS.out.2.2.1, this] <;> rfl
        · go_wp2_with (first
            | (refine m.mono ?_; clear m; rintro e W2 ⟨rfl, rfl⟩))
          go_roundg (gk - 1)
          case measure => omega
          case rel => exact ⟨k + 1, by have := HX.out.1; omega, by omega, by go_num, HX.out.2.1, fun i hi => by
            by_cases hik : i = k
            · subst hik; exact HE.out
            · exact HX.out.2.2 i (by omega)⟩
      · obtain rfl : k = n := by omega
        clear hlt hkn
        go_wp2_with fail
        go_ret
        refine ⟨?_, HX.out.2.1⟩
        have := sameL_yes eqTx [] xs ys HS.out.2.2.2 (fun i hi => HX.out.2.2 i (by have := HN1.out; omega))
        rw [← HS.out.2.2.1, this] <;> rfl
  · have HS := Lib.hid (show r = false from by rw [← hr]; exact sameL_len eqTx xs ys hl)
    have hne : ((xs.length : Int) == (ys.length : Int)) = false := by rw [beq_eq_false_iff_ne]; omega
    have hne2 : ((xs.length : Int) != (ys.length : Int)) = true := by rw [bne, hne]; rfl
    clear hr hu hv
    go_enter Tryd.func31, Tryd.ntmps31
    go_wp2_with fail
    go_ret
    exact ⟨by rw [HS.out] <;> rfl, Below.refl _ _⟩
set_option maxRecDepth 100000 in
theorem same1_any (u v : Value) (xs ys : List (List UInt8)) (w : World) (hu : SSl w w.heap.size u xs) (hv : SSl w w.heap.size v ys) (hx : xs.length ≤ 1000000) (hy : ys.length ≤ 1000000) :
    Calls Tryd.prog 30 #[u, v] w fun e w' => e = .returned (.bool (sameL eqTx xs ys)) ∧ Below w.heap.size w w' := by
  have m := eqTxs_any u v xs ys w hu hv hx hy
  clear hu hv
  go_enter Tryd.func30, Tryd.ntmps30
  go_wp2_with (first
    | (refine m.mono ?_; clear m; rintro e W2 ⟨rfl, hb⟩))
  go_ret
  exact ⟨rfl, hb⟩
end Go.Proofs.YtcdkadidkkbhpaaDoor
