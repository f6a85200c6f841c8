/- Texts that stand behind one another: Enc. No condition. -/
import Derived.Test.YtcdkadidkkbhpaaDoorS22
import Derived.Test.YtcdkadidkkbhpaaDoorS17
import Derived.Test.YtcdkadidkkbhpaaDoorS18
/- The walk of state.Encode. No condition. -/
namespace Go.Proofs.YtcdkadidkkbhpaaDoor
open Go Go.RowKit
attribute [local irreducible] mixW
attribute [local go_sem] n8_lo n8_hi n64_lo n64_hi n32_lo n32_hi
/-- what the walk of Encode holds: the Writer with its bytes, the pointer to it, the state -/
def EncF (w : World) (B g pb : Nat) (sC : Array Value) (W : World) (bs : List UInt8) : Prop := WrE W B g bs ∧ Blk W pb 97 #[.pointer (some ⟨g, 0, none⟩)] ∧ Blk W w.heap.size 32 sC ∧ Below w.heap.size w W ∧ B ≤ W.heap.size
section
variable {w W W' : World} {B g pb : Nat} {sC : Array Value} {bs bs' : List UInt8}
theorem EncF.step (h : EncF w B g pb sC W bs) (hB : w.heap.size ≤ B) (hK : KW B W W') (hW : WrE W' B g bs') : EncF w B g pb sC W' bs' :=
  ⟨hW, hK.2 _ _ _ h.2.1 (by decide) (by decide), hK.2 _ _ _ h.2.2.1 (by decide) (by decide), h.2.2.2.1.trans (hK.1.mono hB), Nat.le_trans h.2.2.2.2 hK.1.size⟩
theorem EncF.next (h : EncF w B g pb sC W bs) (hb : Below W.heap.size W W') : EncF w B g pb sC W' bs :=
  ⟨h.1.below hb, h.2.1.below hb h.2.1.lt, h.2.2.1.below hb h.2.2.1.lt, h.2.2.2.1.trans (hb.mono h.2.2.2.1.size), Nat.le_trans h.2.2.2.2 hb.size⟩
end
theorem treC_0 (t : TreL) (d l q : Value) : (treC t d l q)[0]? = some (.int .i64 t.state) := by unfold treC; rw [Array.getElem?_append_left (by simp)]; rfl
theorem treC_1 (t : TreL) (d l q : Value) : (treC t d l q)[1]? = some (.int .i64 t.tenant) := by unfold treC; rw [Array.getElem?_append_left (by simp)]; rfl
theorem treC_2 (t : TreL) (d l q : Value) : (treC t d l q)[2]? = some (.int .i64 t.weight) := by unfold treC; rw [Array.getElem?_append_left (by simp)]; rfl
theorem treC_3 (t : TreL) (d l q : Value) : (treC t d l q)[3]? = some (.int .i64 t.deficit) := by unfold treC; rw [Array.getElem?_append_left (by simp)]; rfl
theorem flatMap_okle : ∀ (l : List TreL), (∀ t ∈ l, t.ok) → (l.flatMap encTre).length ≤ l.length * 131080000000
  | [], _ => by simp
  | x :: l, h => by
    have h1 := flatMap_okle l (fun t ht => h t (List.mem_cons_of_mem _ ht))
    have h2 := encTre_len x (h x List.mem_cons_self)
    rw [List.flatMap_cons, List.length_append, List.length_cons, Nat.add_mul]; omega
theorem treC_sig (t : TreL) (d l q : Value) (j : Nat) : (treC t d l q)[7 + j]? = (sigC t.head t.tag)[j]? := by
  unfold treC
  rw [Array.getElem?_append_right (by simp)]
  congr 1
  simp
theorem tre_head_range {W : World} {b : Nat} {ty : TypeId} {t : TreL} {d l q : Value} (h : Blk W b ty (treC t d l q)) : W.rangeAt b 7 (headC t.head).toList := fun j v hj => by
  have hj36 : j < 36 := by
    have := (List.getElem?_eq_some_iff.1 hj).1
    rwa [Array.length_toList, headC_size] at this
  rw [h.cell, treC_sig]
  unfold sigC
  rw [Array.getElem?_append_left (by rw [headC_size]; exact hj36), ← hj]
  simp
theorem tre_tag_range {W : World} {b : Nat} {ty : TypeId} {t : TreL} {d l q : Value} (h : Blk W b ty (treC t d l q)) : W.rangeAt b 43 (dat t.tag).toList := fun j v hj => by
  rw [h.cell, show 43 + j = 7 + (36 + j) by omega, treC_sig]
  unfold sigC
  rw [Array.getElem?_append_right (by rw [headC_size]; omega), headC_size, show 36 + j - 36 = j by omega, ← hj]
  simp
theorem zero_tenant (w : World) : (zeroValue 73).run Tryd.prog w = .ok (.agg (tenC zeroTen)) w := by kernel_rfl
theorem zero_grant (w : World) : (zeroValue 67).run Tryd.prog w = .ok (.agg (graC ⟨0, 0, 0, false⟩)) w := by kernel_rfl
theorem tenC_oneE (t : TenL) : ∀ v ∈ (tenC t).toList, v.oneCell' = true := by
  intro v hv
  simp only [tenC, List.mem_cons, List.not_mem_nil, or_false] at hv
  rcases hv with rfl | rfl | rfl | rfl | rfl | rfl <;> rfl
theorem graC_oneE (t : GraL) : ∀ v ∈ (graC t).toList, v.oneCell' = true := by
  intro v hv
  simp only [graC, List.mem_cons, List.not_mem_nil, or_false] at hv
  rcases hv with rfl | rfl | rfl | rfl <;> rfl
set_option maxHeartbeats 3000000 in
set_option maxRecDepth 100000 in
theorem encode_any (v : Value) (s : StaL) (w : World) (hS : Sta w w.heap.size v s) (hok : s.ok) :
    Calls Tryd.prog 14 #[v] w fun e w' => ∃ u, e = .returned u ∧ BSl w' w'.heap.size u (encS s) ∧ Below w.heap.size w w' := by
  obtain ⟨tv, rv, gv, rfl, hT, hR, hG⟩ := hS
  obtain ⟨At, ct, e⟩ := hT.shape
  rw [List.length_map] at e
  subst e
  obtain ⟨Ar, cr, rfl⟩ := hR.shape
  obtain ⟨Ag, cg, e⟩ := hG.shape
  rw [List.length_map] at e
  subst e
  obtain ⟨k0, k1, k2, k3, k4, k5⟩ := hok
  have HF := Lib.hid (And.intro hT (And.intro hR (And.intro hG (And.intro k4 k5))))
  have HE := Lib.hid (show s.lane % 18446744073709551616 = n64 (i64u s.lane) ∧ n32 s.draw % 18446744073709551616 = n64 s.draw.toUInt64 ∧ n64 (UInt64.ofNat s.tenants.length) = (s.tenants.length : Int) ∧ n64 (UInt64.ofNat s.trees.length) = (s.trees.length : Int) ∧ n64 (UInt64.ofNat s.grants.length) = (s.grants.length : Int) from ⟨i64u_val s.lane, cv32_64 s.draw, n64_ofNatE _ (by omega), n64_ofNatE _ (by omega), n64_ofNatE _ (by omega)⟩)
  have et : (s.tenants.length : Int) % 18446744073709551616 = (s.tenants.length : Int) := by omega
  have er : (s.trees.length : Int) % 18446744073709551616 = (s.trees.length : Int) := by omega
  have eg : (s.grants.length : Int) % 18446744073709551616 = (s.grants.length : Int) := by omega
  clear hT hR hG k4 k5 k0
  go_enter Tryd.func14, Tryd.ntmps14
  go_upto_region 1 with fail
  refine wp_at (fun W => Blk W w.heap.size 32 (staC s (.slice At s.tenants.length ct) (.slice Ar s.trees.length cr) (.slice Ag s.grants.length cg)) ∧ Below w.heap.size w W) ⟨Blk.new w _ _, below_new1 _ _⟩ ?_
  rintro W1 ⟨hS1, hb1⟩
  have H1 := Lib.hid (And.intro hS1 hb1)
  have hlt := hS1.lt
  clear hS1 hb1
  have mw := newWriter_any W1
  go_upto_region 2 with (first
    | (go_at_call 39; refine mw.mono ?_; clear mw; rintro e W2 ⟨p, rfl, hW2, hb2⟩; obtain ⟨g, v2, rfl, hWr⟩ := Wr.of_new hW2; have hD2 := Blk.new W2 97 #[.pointer none]; have hn2 := below_new1 W2 (Obj.cells #[.pointer none] 97))
    | (refine wpList_store1 rfl rfl _ (.tmp 3) (.tmp 16) rfl W2.heap.size 0 rfl (.pointer (some ⟨g, 0, none⟩)) rfl _ _ hD2 (by kernel_rfl) (by decide) rfl rfl ?_; intro W3 hP3 hg3))
  replace hP3 : Blk W3 W2.heap.size 97 #[.pointer (some ⟨g, 0, none⟩)] := hP3
  have hb23 := below_only hn2 hg3 (Nat.le_refl _) hn2.size
  have hb13 := hb2.trans (hb23.mono hb2.size)
  have F3 := Lib.hid (show EncF w W1.heap.size g W2.heap.size (staC s (.slice At s.tenants.length ct) (.slice Ar s.trees.length cr) (.slice Ag s.grants.length cg)) W3 [] from ⟨⟨v2, hWr.below hb23⟩, hP3, H1.out.1.below hb13 hlt, H1.out.2.trans (hb13.mono H1.out.2.size), hb13.size⟩)
  have hlo : w.heap.size ≤ W1.heap.size := Nat.le_of_lt hlt
  clear hW2 hWr hD2 hn2 hP3 hg3 hb2 hb23 hb13 H1 hlt
  generalize W1.heap.size = B at F3 hlo
  generalize W2.heap.size = pb at F3 ⊢
  have cp : W3.cell? ⟨pb, 0, none⟩ = some (.pointer (some ⟨g, 0, none⟩)) := F3.out.2.1.cell 0; have c0 : W3.cell? ⟨w.heap.size, 0, none⟩ = some (.int .u64 (n64 s.clock)) := F3.out.2.2.1.cell 0
  have m := numK g ([]) s.clock 8 (by decide) W3 B F3.out.1 F3.out.2.2.2.2 (by simp [numB_length])
  rw [show clamp8 8 = 8 by decide, List.nil_append] at m
  go_upto_region 4 with (first
    | (go_at_call 41; refine m.mono ?_; clear m; rintro e W4 ⟨rfl, hW, hK⟩; have F4 := Lib.hid (F3.out.step hlo hK hW); clear hW hK))
  clear cp c0 F3
  have cp : W4.cell? ⟨pb, 0, none⟩ = some (.pointer (some ⟨g, 0, none⟩)) := F4.out.2.1.cell 0; have c1 : W4.cell? ⟨w.heap.size, 1, none⟩ = some (.int .u32 (n32 s.draw)) := F4.out.2.2.1.cell 1
  have m := numK g (numB s.clock 8) s.draw.toUInt64 4 (by decide) W4 B F4.out.1 F4.out.2.2.2.2 (by simp [numB_length])
  rw [show clamp8 4 = 4 by decide] at m
  rw [← (show IntKind.u64.wrap (n32 s.draw) = n64 s.draw.toUInt64 from (wrap_u64' _).trans (cv32_64 s.draw))] at m
  go_upto_region 5 with (first
    | (go_at_call 41; refine m.mono ?_; clear m; rintro e W5 ⟨rfl, hW, hK⟩; have F5 := Lib.hid (F4.out.step hlo hK hW); clear hW hK))
  clear cp c1 F4
  have cp : W5.cell? ⟨pb, 0, none⟩ = some (.pointer (some ⟨g, 0, none⟩)) := F5.out.2.1.cell 0; have c2 : W5.cell? ⟨w.heap.size, 2, none⟩ = some (.int .i64 s.lane) := F5.out.2.2.1.cell 2
  have m := numK g (numB s.clock 8 ++ numB s.draw.toUInt64 4) (i64u s.lane) 4 (by decide) W5 B F5.out.1 F5.out.2.2.2.2 (by simp [numB_length])
  rw [show clamp8 4 = 4 by decide] at m
  rw [← (show IntKind.u64.wrap s.lane = n64 (i64u s.lane) from (wrap_u64' _).trans (i64u_val s.lane))] at m
  go_upto_region 6 with (first
    | (go_at_call 41; refine m.mono ?_; clear m; rintro e W6 ⟨rfl, hW, hK⟩; have F6 := Lib.hid (F5.out.step hlo hK hW); clear hW hK))
  clear cp c2 F5
  have cp : W6.cell? ⟨pb, 0, none⟩ = some (.pointer (some ⟨g, 0, none⟩)) := F6.out.2.1.cell 0; have c3 : W6.cell? ⟨w.heap.size, 3, none⟩ = some (.slice At s.tenants.length ct) := F6.out.2.2.1.cell 3
  have m := numK g (numB s.clock 8 ++ numB s.draw.toUInt64 4 ++ numB (i64u s.lane) 4) (UInt64.ofNat s.tenants.length) 2 (by decide) W6 B F6.out.1 F6.out.2.2.2.2 (by simp [numB_length])
  rw [show clamp8 2 = 2 by decide] at m
  rw [HE.out.2.2.1] at m
  go_upto_region 7 with (first
    | (go_at_call 41; refine m.mono ?_; clear m; rintro e W7 ⟨rfl, hW, hK⟩; have F7 := Lib.hid (F6.out.step hlo hK hW); clear hW hK))
  clear cp c3 F6
  have cp : W7.cell? ⟨pb, 0, none⟩ = some (.pointer (some ⟨g, 0, none⟩)) := F7.out.2.1.cell 0; have c4 : W7.cell? ⟨w.heap.size, 4, none⟩ = some (.slice Ar s.trees.length cr) := F7.out.2.2.1.cell 4
  have m := numK g (numB s.clock 8 ++ numB s.draw.toUInt64 4 ++ numB (i64u s.lane) 4 ++ numB (UInt64.ofNat s.tenants.length) 2) (UInt64.ofNat s.trees.length) 2 (by decide) W7 B F7.out.1 F7.out.2.2.2.2 (by simp [numB_length])
  rw [show clamp8 2 = 2 by decide] at m
  rw [HE.out.2.2.2.1] at m
  go_upto_region 8 with (first
    | (go_at_call 41; refine m.mono ?_; clear m; rintro e W8 ⟨rfl, hW, hK⟩; have F8 := Lib.hid (F7.out.step hlo hK hW); clear hW hK))
  clear cp c4 F7
  have cp : W8.cell? ⟨pb, 0, none⟩ = some (.pointer (some ⟨g, 0, none⟩)) := F8.out.2.1.cell 0; have c5 : W8.cell? ⟨w.heap.size, 5, none⟩ = some (.slice Ag s.grants.length cg) := F8.out.2.2.1.cell 5
  have m := numK g (numB s.clock 8 ++ numB s.draw.toUInt64 4 ++ numB (i64u s.lane) 4 ++ numB (UInt64.ofNat s.tenants.length) 2 ++ numB (UInt64.ofNat s.trees.length) 2) (UInt64.ofNat s.grants.length) 2 (by decide) W8 B F8.out.1 F8.out.2.2.2.2 (by simp [numB_length])
  rw [show clamp8 2 = 2 by decide] at m
  rw [HE.out.2.2.2.2] at m
  go_upto_region 9 with (first
    | (go_at_call 41; refine m.mono ?_; clear m; rintro e W9 ⟨rfl, hW, hK⟩; have F9 := Lib.hid (F8.out.step hlo hK hW); clear hW hK))
  clear cp c5 F8
  obtain ⟨sC, hsC⟩ : ∃ sC, sC = (staC s (.slice At s.tenants.length ct) (.slice Ar s.trees.length cr) (.slice Ag s.grants.length cg)) := ⟨_, rfl⟩
  have FA : Hid (EncF w B g pb sC W9 (encA s)) := by rw [hsC]; exact F9
  have HSC := Lib.hid hsC
  clear F9 et er eg HE hsC
  have c3 : W9.cell? ⟨w.heap.size, 3, none⟩ = some (.slice At s.tenants.length ct) := by rw [FA.out.2.2.1.cell, HSC.out]; rfl
  go_upto_region 10 with fail
  clear c3
  go_loopg [6, 8, 53] (s.tenants.length + 1) (fun gk pv nv iv wr => ∃ k : Nat, s.tenants.length + 1 ≤ k + gk ∧ k ≤ s.tenants.length ∧ iv = .int .i64 (k : Int) ∧ EncF w B g pb sC wr (encA s ++ (s.tenants.take k).flatMap encTen))
  case atStart => exact ⟨0, by omega, by omega, rfl, by rw [List.take_zero, List.flatMap_nil, List.append_nil]; exact FA.out⟩
  case round =>
    clear FA
    obtain ⟨k, hk, hkn, rfl, hF⟩ := hrel
    have HX := Lib.hid (And.intro hk hF)
    clear hk hF
    by_cases hlt : k < s.tenants.length
    · have hki : (k : Int) < (s.tenants.length : Int) := by omega
      have hgk : 0 < gk := by have := HX.out.1; omega
      have hkg := Lib.hid HX.out.1
      obtain ⟨gt, ot, eA, hgt, hra⟩ := HF.out.1.range (by decide) k (by rw [List.length_map]; exact hlt)
      subst eA
      have hra2 : w.rangeAt gt (ot + k * 6) (tenC (s.tenants.getD k zeroTen)).toList := by
        have e1 : (s.tenants.map tenC).getD k #[] = tenC (s.tenants.getD k zeroTen) := by
          rw [List.getD_eq_getElem?_getD, List.getD_eq_getElem?_getD, List.getElem?_map, List.getElem?_eq_getElem hlt]; rfl
        rw [← e1]; exact hra
      have HT := Lib.hid (flatMap_take encTen s.tenants k zeroTen hlt)
      obtain ⟨pre, hpre⟩ : ∃ pre, encA s ++ (s.tenants.take k).flatMap encTen = pre := ⟨_, rfl⟩
      have hpl : pre.length ≤ 100000 := by
        rw [← hpre, List.length_append, encA_len]
        have h1 := flatMap_le encTen 21 (fun x => Nat.le_of_eq (encTen_len x)) (s.tenants.take k)
        have h2 : (s.tenants.take k).length ≤ 1000 := by rw [List.length_take]; omega
        have h3 := Nat.mul_le_mul_right 21 h2
        omega
      have HP := Lib.hid hpre
      generalize s.tenants.getD k zeroTen = t at hra2 HT
      have HR := Lib.hid (show wr.rangeAt gt (ot + k * 6) (tenC t).toList from fun j u hj => (HX.out.2.2.2.2.1.cell (p := ⟨gt, ot + k * 6 + j, none⟩) hgt).trans (hra2 j u hj))
      have F0 := Lib.hid (show EncF w B g pb sC wr pre from by rw [← hpre]; exact HX.out.2)
      clear hra hra2 hpre HX
      have hD := Blk.new wr 73 (tenC zeroTen)
      have hn := below_new1 wr (Obj.cells (tenC zeroTen) 73)
      have hz := zero_tenant
      go_upto_region 12 with (first
        | (refine wpList_loadR 73 (.tmp 55) rfl gt (ot + k * 6) rfl (tenC t) _ HR.out Tryd.underlying73 rfl (by kernel_rfl) rfl ?_)
        | (refine wpList_storeB rfl rfl 73 (.tmp 6) (.tmp 56) rfl wr.heap.size 0 rfl (tenC t) rfl _ _ hD (by kernel_rfl) (by rw [tenC_size, tenC_size]; omega) (tenC_oneE _) ?_; intro wa hTa hga))
      rw [copied_all _ _ (by rw [tenC_size, tenC_size])] at hTa
      have F1 := Lib.hid (F0.out.next (below_only hn hga (Nat.le_refl _) hn.size))
      have HTa := Lib.hid hTa
      clear hD hn hz hTa hga HR F0
      obtain ⟨tb, htb⟩ : ∃ tb, wr.heap.size = tb := ⟨_, rfl⟩
      rw [htb] at HTa
      rw [htb]
      clear htb
      have ct0 : wa.cell? ⟨tb, 0, none⟩ = some (.bool t.on) := HTa.out.cell 0
      have cp : wa.cell? ⟨pb, 0, none⟩ = some (.pointer (some ⟨g, 0, none⟩)) := F1.out.2.1.cell 0
      have m := flagK g pre t.on wa B F1.out.1 F1.out.2.2.2.2 (by omega)
      go_upto_region 13 with (first
        | (go_at_call 43; refine m.mono ?_; clear m; rintro e wb ⟨rfl, hW, hK⟩; have F2 := Lib.hid (F1.out.step hlo hK hW); have HTb := hK.2 _ _ _ HTa.out (by decide) (by decide); clear hW hK))
      clear ct0 cp F1 HTa
      have ct1 : wb.cell? ⟨tb, 1, none⟩ = some (.int .u32 (n32 t.rate)) := HTb.cell 1
      have ct2 : wb.cell? ⟨tb, 2, none⟩ = some (.int .u32 (n32 t.burst)) := HTb.cell 2
      have ct3 : wb.cell? ⟨tb, 3, none⟩ = some (.int .u32 (n32 t.tokens)) := HTb.cell 3
      have ct4 : wb.cell? ⟨tb, 4, none⟩ = some (.int .u32 (n32 t.store)) := HTb.cell 4
      have ct5 : wb.cell? ⟨tb, 5, none⟩ = some (.int .u32 (n32 t.used)) := HTb.cell 5
      clear HTb
      go_upto_region 14 with fail
      clear ct1 ct2 ct3 ct4 ct5
      refine wp_at (fun W => Blk W wb.heap.size 22 ((tenN t).map v32).toArray ∧ EncF w B g pb sC W (pre ++ flagB t.on)) ⟨Blk.new wb _ _, F2.out.next (below_new1 _ _)⟩ ?_
      clear F2
      rintro wc ⟨hLb, hFc⟩
      have HC := Lib.hid (And.intro hLb hFc)
      clear hLb hFc
      generalize wb.heap.size = lb at HC ⊢
      obtain ⟨gk0, hgk0⟩ : ∃ n, n = gk := ⟨_, rfl⟩
      go_loopg [8, 76] 6 (fun gi nv jv wq => ∃ j : Nat, 6 ≤ j + gi ∧ j ≤ 5 ∧ jv = .int .i64 (j : Int) ∧ Blk wq lb 22 ((tenN t).map v32).toArray ∧ EncF w B g pb sC wq (pre ++ flagB t.on ++ ((tenN t).take j).flatMap num4))
      case atStart => exact ⟨0, by omega, by omega, rfl, HC.out.1, by rw [List.take_zero, List.flatMap_nil, List.append_nil]; exact HC.out.2⟩
      case round =>
        obtain ⟨j, hj, hj5, rfl, hLq, hFq⟩ := hrel
        have HQ := Lib.hid (And.intro hj (And.intro hLq hFq))
        clear hj hLq hFq HC
        by_cases hj4 : j < 5
        · have hji : (j : Int) < 5 := by omega
          have hFM := Lib.hid (flatMap_take num4 (tenN t) j 0 hj4)
          have cl := HQ.out.2.1.cell j
          have el : ((tenN t).map v32).toArray[j]? = some (v32 ((tenN t).getD j 0)) := by
            rw [List.getElem?_toArray, List.getElem?_map, List.getD_eq_getElem?_getD, List.getElem?_eq_getElem (show j < (tenN t).length from hj4)]; rfl
          rw [el] at cl
          clear el
          generalize (tenN t).getD j 0 = d at cl hFM
          have cp : wr.cell? ⟨pb, 0, none⟩ = some (.pointer (some ⟨g, 0, none⟩)) := HQ.out.2.2.2.1.cell 0
          have m := numK g (pre ++ flagB t.on ++ ((tenN t).take j).flatMap num4) d.toUInt64 4 (by decide) wr B HQ.out.2.2.1 HQ.out.2.2.2.2.2.2 (by
            rw [List.length_append, List.length_append, num4s_len, List.length_take]
            have : (flagB t.on).length = 1 := rfl
            have : (tenN t).length = 5 := rfl
            omega)
          rw [show clamp8 4 = 4 by decide, ← (show IntKind.u64.wrap (n32 d) = n64 d.toUInt64 from (wrap_u64' _).trans (cv32_64 d)), List.append_assoc, show numB d.toUInt64 4 = num4 d from rfl, ← hFM.out] at m
          have cl' : wr.cell? ⟨lb, j, none⟩ = some (.int .u32 (n32 d)) := cl
          clear cl hFM
          go_wp2_with (first
            | (go_at_call 41; refine m.mono ?_; clear m; rintro e wy ⟨rfl, hW, hK⟩; have HY := Lib.hid (And.intro (hK.2 _ _ _ HQ.out.2.1 (by decide) (by decide)) (HQ.out.2.2.step hlo hK hW)); clear hW hK))
          clear cl' cp
          go_roundg (gk - 1)
          case measure => have := HQ.out.1; omega
          case rel => exact ⟨j + 1, by have := HQ.out.1; omega, by omega, by go_num, HY.out.1, HY.out.2⟩
        · obtain rfl : j = 5 := by omega
          have HY := Lib.hid (show EncF w B g pb sC wr (encA s ++ (s.tenants.take (k + 1)).flatMap encTen) from by
            have h1 := HQ.out.2.2
            rw [show (tenN t).take 5 = tenN t from rfl] at h1
            rw [HT.out, ← List.append_assoc, HP.out]
            show EncF w B g pb sC wr (pre ++ (flagB t.on ++ (tenN t).flatMap num4))
            rw [← List.append_assoc]
            exact h1)
          clear HQ
          go_wp2_with fail
          go_roundg (gk0 - 1)
          case measure => omega
          case rel => exact ⟨k + 1, by have := hkg.out; omega, by omega, by go_num, HY.out⟩
    · obtain rfl : k = s.tenants.length := by omega
      have FB : Hid (EncF w B g pb sC wr (encA s ++ s.tenants.flatMap encTen)) := by
        have h1 := HX.out.2
        rw [List.take_length] at h1
        exact Lib.hid h1
      clear HX hlt hkn
      obtain ⟨A1, hA1⟩ : ∃ A1, encA s ++ s.tenants.flatMap encTen = A1 := ⟨_, rfl⟩
      have HA1 := Lib.hid (show encA s ++ s.tenants.flatMap encTen = A1 ∧ A1.length ≤ 100000 from ⟨hA1, by
        rw [← hA1, List.length_append, encA_len]
        have h1 := flatMap_le encTen 21 (fun x => Nat.le_of_eq (encTen_len x)) s.tenants
        have h3 := Nat.mul_le_mul_right 21 k1
        omega⟩)
      rw [hA1] at FB
      clear hA1
      have c4 : wr.cell? ⟨w.heap.size, 4, none⟩ = some (.slice Ar s.trees.length cr) := by rw [FB.out.2.2.1.cell, HSC.out]; rfl
      go_upto_region 20 with fail
      clear c4
      go_loopg [10, 12, 13, 89] (s.trees.length + 1) (fun gk pv nv hv iv wr => ∃ k : Nat, s.trees.length + 1 ≤ k + gk ∧ k ≤ s.trees.length ∧ iv = .int .i64 (k : Int) ∧ EncF w B g pb sC wr (A1 ++ (s.trees.take k).flatMap encTre))
      case atStart => exact ⟨0, by omega, by omega, rfl, by rw [List.take_zero, List.flatMap_nil, List.append_nil]; exact FB.out⟩
      case round =>
        clear FB
        obtain ⟨k, hk, hkn, rfl, hF⟩ := hrel
        have HX := Lib.hid (And.intro hk hF)
        clear hk hF
        by_cases hlt : k < s.trees.length
        · have hki : (k : Int) < (s.trees.length : Int) := by omega
          have hgk : 0 < gk := by have := HX.out.1; omega
          have hkg := Lib.hid HX.out.1
          obtain ⟨gr, or_, d, l, q, eA, hgr, hra, hd, hl, hq⟩ := HF.out.2.1.at_ k hlt
          subst eA
          have hok : (s.trees.getD k zeroTre).ok := HF.out.2.2.2.1 _ (by rw [List.getD_eq_getElem?_getD, List.getElem?_eq_getElem hlt]; exact List.getElem_mem _)
          have HT := Lib.hid (flatMap_take encTre s.trees k zeroTre hlt)
          obtain ⟨pre, hpre⟩ : ∃ pre, A1 ++ (s.trees.take k).flatMap encTre = pre := ⟨_, rfl⟩
          have hpl : pre.length ≤ 131090000000000 := by
            rw [← hpre, List.length_append]
            have h1 := flatMap_okle (s.trees.take k) (fun t ht => HF.out.2.2.2.1 t (List.mem_of_mem_take ht))
            have h2 : (s.trees.take k).length ≤ 1000 := by rw [List.length_take]; omega
            have h3 := Nat.mul_le_mul_right 131080000000 h2
            have h4 := HA1.out.2
            omega
          have HP := Lib.hid hpre
          generalize s.trees.getD k zeroTre = t at hra hd hl hq hok HT
          obtain ⟨Ad, cd, rfl⟩ := hd.shape
          obtain ⟨Al, cl, rfl⟩ : ∃ A c, l = .slice A t.leaves.length c := by obtain ⟨A, c, _, e, _⟩ := hl; exact ⟨A, c, e⟩
          obtain ⟨Aq, cq, rfl⟩ : ∃ A c, q = .slice A t.queue.length c := by obtain ⟨A, c, _, e, _⟩ := hq; exact ⟨A, c, e⟩
          have HR := Lib.hid (show wr.rangeAt gr (or_ + k * 75) (treC t (.slice Ad t.draws.length cd) (.slice Al t.leaves.length cl) (.slice Aq t.queue.length cq)).toList from fun j u hj => (HX.out.2.2.2.2.1.cell (p := ⟨gr, or_ + k * 75 + j, none⟩) hgr).trans (hra j u hj))
          have F0 := Lib.hid (show EncF w B g pb sC wr pre from by rw [← hpre]; exact HX.out.2)
          have HL := Lib.hid (And.intro hd (And.intro hl (And.intro hq hok)))
          have hndr : t.draws.length ≤ 1000000 := hok.2.2.2.2.2.2.1
          clear hra hpre HX hd hl hq hok
          have hD := Blk.new wr 49 (treC ⟨0, 0, 0, 0, [], [], [], zeroHead, []⟩ (.slice none 0 0) (.slice none 0 0) (.slice none 0 0))
          have hn := below_new1 wr (Obj.cells (treC ⟨0, 0, 0, 0, [], [], [], zeroHead, []⟩ (.slice none 0 0) (.slice none 0 0) (.slice none 0 0)) 49)
          have hz := zero_tree
          go_upto_region 22 with (first
            | (refine wpList_loadR 49 (.tmp 91) rfl gr (or_ + k * 75) rfl (treC t (.slice Ad t.draws.length cd) (.slice Al t.leaves.length cl) (.slice Aq t.queue.length cq)) _ HR.out Tryd.underlying49 rfl (by rw [treC_size]; kernel_rfl) rfl ?_)
            | (refine wpList_storeB rfl rfl 49 (.tmp 10) (.tmp 92) rfl wr.heap.size 0 rfl (treC t (.slice Ad t.draws.length cd) (.slice Al t.leaves.length cl) (.slice Aq t.queue.length cq)) rfl _ _ hD (by rw [treC_size]; kernel_rfl) (by rw [treC_size, treC_size]; omega) (treC_one _ _ _ _ rfl rfl rfl) ?_; intro wa hTa hga))
          rw [copied_all _ _ (by rw [treC_size, treC_size])] at hTa
          have F1 := Lib.hid (And.intro (F0.out.next (below_only hn hga (Nat.le_refl _) hn.size)) hTa)
          clear hD hn hz hTa hga HR F0
          obtain ⟨tb, htb⟩ : ∃ tb, wr.heap.size = tb := ⟨_, rfl⟩
          rw [htb] at F1
          rw [htb]
          clear htb
          have cp : wa.cell? ⟨pb, 0, none⟩ = some (.pointer (some ⟨g, 0, none⟩)) := F1.out.1.2.1.cell 0
          have cx : wa.cell? ⟨tb, 0, none⟩ = some (.int .i64 t.state) := by rw [F1.out.2.cell, treC_0]
          have m := numK g (pre) (i64u t.state) 1 (by decide) wa B F1.out.1.1 F1.out.1.2.2.2.2 (by (try simp only [List.length_append, numB_length]); omega)
          rw [show clamp8 1 = 1 by decide, ← (show IntKind.u64.wrap t.state = n64 (i64u t.state) from (wrap_u64' _).trans (i64u_val t.state))] at m
          go_upto_region 23 with (first
            | (go_at_call 41; refine m.mono ?_; clear m; rintro e wn0 ⟨rfl, hW, hK⟩; have F2 := Lib.hid (And.intro (F1.out.1.step hlo hK hW) (hK.2 _ _ _ F1.out.2 (by decide) (by decide))); clear hW hK))
          clear cp cx F1
          have cp : wn0.cell? ⟨pb, 0, none⟩ = some (.pointer (some ⟨g, 0, none⟩)) := F2.out.1.2.1.cell 0
          have cx : wn0.cell? ⟨tb, 1, none⟩ = some (.int .i64 t.tenant) := by rw [F2.out.2.cell, treC_1]
          have m := numK g (pre ++ numB (i64u t.state) 1) (i64u t.tenant) 1 (by decide) wn0 B F2.out.1.1 F2.out.1.2.2.2.2 (by (try simp only [List.length_append, numB_length]); omega)
          rw [show clamp8 1 = 1 by decide, ← (show IntKind.u64.wrap t.tenant = n64 (i64u t.tenant) from (wrap_u64' _).trans (i64u_val t.tenant))] at m
          go_upto_region 24 with (first
            | (go_at_call 41; refine m.mono ?_; clear m; rintro e wn1 ⟨rfl, hW, hK⟩; have F3 := Lib.hid (And.intro (F2.out.1.step hlo hK hW) (hK.2 _ _ _ F2.out.2 (by decide) (by decide))); clear hW hK))
          clear cp cx F2
          have cp : wn1.cell? ⟨pb, 0, none⟩ = some (.pointer (some ⟨g, 0, none⟩)) := F3.out.1.2.1.cell 0
          have cx : wn1.cell? ⟨tb, 2, none⟩ = some (.int .i64 t.weight) := by rw [F3.out.2.cell, treC_2]
          have m := numK g (pre ++ numB (i64u t.state) 1 ++ numB (i64u t.tenant) 1) (i64u t.weight) 1 (by decide) wn1 B F3.out.1.1 F3.out.1.2.2.2.2 (by (try simp only [List.length_append, numB_length]); omega)
          rw [show clamp8 1 = 1 by decide, ← (show IntKind.u64.wrap t.weight = n64 (i64u t.weight) from (wrap_u64' _).trans (i64u_val t.weight))] at m
          go_upto_region 25 with (first
            | (go_at_call 41; refine m.mono ?_; clear m; rintro e wn2 ⟨rfl, hW, hK⟩; have F4 := Lib.hid (And.intro (F3.out.1.step hlo hK hW) (hK.2 _ _ _ F3.out.2 (by decide) (by decide))); clear hW hK))
          clear cp cx F3
          have cp : wn2.cell? ⟨pb, 0, none⟩ = some (.pointer (some ⟨g, 0, none⟩)) := F4.out.1.2.1.cell 0
          have cx : wn2.cell? ⟨tb, 3, none⟩ = some (.int .i64 t.deficit) := by rw [F4.out.2.cell, treC_3]
          have m := numK g (pre ++ numB (i64u t.state) 1 ++ numB (i64u t.tenant) 1 ++ numB (i64u t.weight) 1) (i64u t.deficit) 4 (by decide) wn2 B F4.out.1.1 F4.out.1.2.2.2.2 (by (try simp only [List.length_append, numB_length]); omega)
          rw [show clamp8 4 = 4 by decide, ← (show IntKind.u64.wrap t.deficit = n64 (i64u t.deficit) from (wrap_u64' _).trans (i64u_val t.deficit))] at m
          go_upto_region 26 with (first
            | (go_at_call 41; refine m.mono ?_; clear m; rintro e wn3 ⟨rfl, hW, hK⟩; have F5 := Lib.hid (And.intro (F4.out.1.step hlo hK hW) (hK.2 _ _ _ F4.out.2 (by decide) (by decide))); clear hW hK))
          clear cp cx F4
          have cp : wn3.cell? ⟨pb, 0, none⟩ = some (.pointer (some ⟨g, 0, none⟩)) := F5.out.1.2.1.cell 0
          have cx : wn3.cell? ⟨tb, 4, none⟩ = some (.slice Ad t.draws.length cd) := by rw [F5.out.2.cell, treC_4]
          have e64 : (t.draws.length : Int) % 18446744073709551616 = (t.draws.length : Int) := by omega
          have m := numK g (pre ++ numB (i64u t.state) 1 ++ numB (i64u t.tenant) 1 ++ numB (i64u t.weight) 1 ++ numB (i64u t.deficit) 4) (UInt64.ofNat t.draws.length) 2 (by decide) wn3 B F5.out.1.1 F5.out.1.2.2.2.2 (by (try simp only [List.length_append, numB_length]); omega)
          rw [show clamp8 2 = 2 by decide, n64_ofNatE _ (by omega)] at m
          go_upto_region 27 with (first
            | (go_at_call 41; refine m.mono ?_; clear m; rintro e wn4 ⟨rfl, hW, hK⟩; have F6 := Lib.hid (And.intro (F5.out.1.step hlo hK hW) (hK.2 _ _ _ F5.out.2 (by decide) (by decide))); clear hW hK))
          clear cp cx F5 e64
          obtain ⟨P1, hP1⟩ : ∃ P1, pre ++ encTreA t = P1 := ⟨_, rfl⟩
          have F7 := Lib.hid (show EncF w B g pb sC wn4 P1 ∧ Blk wn4 tb 49 (treC t (.slice Ad t.draws.length cd) (.slice Al t.leaves.length cl) (.slice Aq t.queue.length cq)) from ⟨by rw [← hP1, show pre ++ encTreA t = pre ++ numB (i64u t.state) 1 ++ numB (i64u t.tenant) 1 ++ numB (i64u t.weight) 1 ++ numB (i64u t.deficit) 4 ++ numB (UInt64.ofNat t.draws.length) 2 from by simp only [encTreA, List.append_assoc]]; exact F6.out.1, F6.out.2⟩)
          have HP1 := Lib.hid (show pre ++ encTreA t = P1 ∧ P1.length ≤ 131090000000009 from ⟨hP1, by rw [← hP1, List.length_append, encTreA_len]; omega⟩)
          clear F6 hP1
          have c4 : wn4.cell? ⟨tb, 4, none⟩ = some (.slice Ad t.draws.length cd) := by rw [F7.out.2.cell, treC_4]
          go_upto_region 28 with fail
          clear c4
          obtain ⟨gk0, hgk0⟩ : ∃ n, n = gk := ⟨_, rfl⟩
          go_loopg [12, 122] (t.draws.length + 1) (fun gi nv jv wq => ∃ j : Nat, t.draws.length + 1 ≤ j + gi ∧ j ≤ t.draws.length ∧ jv = .int .i64 (j : Int) ∧ Blk wq tb 49 (treC t (.slice Ad t.draws.length cd) (.slice Al t.leaves.length cl) (.slice Aq t.queue.length cq)) ∧ EncF w B g pb sC wq (P1 ++ (t.draws.take j).flatMap num4))
          case atStart => exact ⟨0, by omega, by omega, rfl, F7.out.2, by rw [List.take_zero, List.flatMap_nil, List.append_nil]; exact F7.out.1⟩
          case round =>
            clear F7
            obtain ⟨j, hj, hjn, rfl, hTq, hFq⟩ := hrel
            have HQ := Lib.hid (And.intro hj (And.intro hTq hFq))
            clear hj hTq hFq
            by_cases hjl : j < t.draws.length
            · have hji : (j : Int) < (t.draws.length : Int) := by omega
              have hFM := Lib.hid (flatMap_take num4 t.draws j 0 hjl)
              obtain ⟨gd, od, eD, hgd, hcd⟩ := (HL.out.1.below HQ.out.2.2.2.2.2.1).cellAt j hjl
              subst eD
              generalize t.draws.getD j 0 = d at hcd hFM
              have cl' : wr.cell? ⟨gd, od + j, none⟩ = some (.int .u32 (n32 d)) := hcd
              clear hcd
              have cp : wr.cell? ⟨pb, 0, none⟩ = some (.pointer (some ⟨g, 0, none⟩)) := HQ.out.2.2.2.1.cell 0
              have m := numK g (P1 ++ (t.draws.take j).flatMap num4) d.toUInt64 4 (by decide) wr B HQ.out.2.2.1 HQ.out.2.2.2.2.2.2 (by
                rw [List.length_append, num4s_len, List.length_take]
                have := HP1.out.2
                omega)
              rw [show clamp8 4 = 4 by decide, ← (show IntKind.u64.wrap (n32 d) = n64 d.toUInt64 from (wrap_u64' _).trans (cv32_64 d)), List.append_assoc, show numB d.toUInt64 4 = num4 d from rfl, ← hFM.out] at m
              clear hFM
              go_wp2_with (first
                | (go_at_call 41; refine m.mono ?_; clear m; rintro e wy ⟨rfl, hW, hK⟩; have HY := Lib.hid (And.intro (hK.2 _ _ _ HQ.out.2.1 (by decide) (by decide)) (HQ.out.2.2.step hlo hK hW)); clear hW hK))
              clear cl' cp
              go_roundg (gk - 1)
              case measure => have := HQ.out.1; omega
              case rel => exact ⟨j + 1, by have := HQ.out.1; omega, by omega, by go_num, HY.out.1, HY.out.2⟩
            · obtain rfl : j = t.draws.length := by omega
              obtain ⟨P2, hP2⟩ : ∃ P2, P1 ++ t.draws.flatMap num4 = P2 := ⟨_, rfl⟩
              have F8 := Lib.hid (show EncF w B g pb sC wr P2 ∧ Blk wr tb 49 (treC t (.slice Ad t.draws.length cd) (.slice Al t.leaves.length cl) (.slice Aq t.queue.length cq)) from ⟨by rw [← hP2]; have h1 := HQ.out.2.2; rw [List.take_length] at h1; exact h1, HQ.out.2.1⟩)
              have HP2 := Lib.hid (show P1 ++ t.draws.flatMap num4 = P2 ∧ P2.length ≤ 131090004000009 from ⟨hP2, by rw [← hP2, List.length_append, num4s_len]; have := HP1.out.2; omega⟩)
              clear HQ hP2 hjl hjn
              have c5 : wr.cell? ⟨tb, 5, none⟩ = some (.slice Al t.leaves.length cl) := by rw [F8.out.2.cell, treC_5]
              have m := enc1_any g pb P2 (.slice Al t.leaves.length cl) t.leaves wr B F8.out.1.2.1 F8.out.1.1 F8.out.1.2.2.2.2 ((HL.out.2.1.below F8.out.1.2.2.2.1).more hlo) HL.out.2.2.2.2.2.2.2.2.2.2.1 (by have := HP2.out.2; omega)
              go_upto_region 33 with (first
                | (go_at_call 40; refine m.mono ?_; clear m; rintro e wp ⟨rfl, hW, hK⟩; have F9 := Lib.hid (And.intro (F8.out.1.step hlo hK hW) (hK.2 _ _ _ F8.out.2 (by decide) (by decide))); clear hW hK))
              clear c5 F8
              have c6 : wp.cell? ⟨tb, 6, none⟩ = some (.slice Aq t.queue.length cq) := by rw [F9.out.2.cell, treC_6]
              have hLl := encL_len t.leaves HL.out.2.2.2.2.2.2.2.2.2.2.1
              have hLq := encL_len t.queue HL.out.2.2.2.2.2.2.2.2.2.2.2.1
              have m := enc1_any g pb (P2 ++ encL t.leaves) (.slice Aq t.queue.length cq) t.queue wp B F9.out.1.2.1 F9.out.1.1 F9.out.1.2.2.2.2 ((HL.out.2.2.1.below F9.out.1.2.2.2.1).more hlo) HL.out.2.2.2.2.2.2.2.2.2.2.2.1 (by rw [List.length_append]; have := HP2.out.2; omega)
              go_upto_region 34 with (first
                | (go_at_call 40; refine m.mono ?_; clear m; rintro e wq ⟨rfl, hW, hK⟩; have F10 := Lib.hid (And.intro (F9.out.1.step hlo hK hW) (hK.2 _ _ _ F9.out.2 (by decide) (by decide))); clear hW hK))
              clear c6 F9
              obtain ⟨P4, hP4⟩ : ∃ P4, P2 ++ encL t.leaves ++ encL t.queue = P4 := ⟨_, rfl⟩
              have HP4 := Lib.hid (show P2 ++ encL t.leaves ++ encL t.queue = P4 ∧ P4.length ≤ 131300000000000 from ⟨hP4, by rw [← hP4, List.length_append, List.length_append]; have := HP2.out.2; omega⟩)
              rw [hP4] at F10
              clear hP4 hLl hLq
              have hz := zero_headS
              have HR := Lib.hid (tre_head_range F10.out.2)
              have hD := Blk.new wq 40 (headC zeroHead)
              have hn := below_new1 wq (Obj.cells (headC zeroHead) 40)
              go_upto_region 35 with (first
                | (refine wpList_loadR 40 (.tmp 140) rfl tb 7 rfl (headC t.head) _ HR.out Tryd.underlying40 rfl (by rw [headC_size]; kernel_rfl) rfl ?_)
                | (refine wpList_storeB rfl rfl 40 (.tmp 13) (.tmp 141) rfl wq.heap.size 0 rfl (headC t.head) rfl _ _ hD (by rw [headC_size]; kernel_rfl) (by rw [headC_size, headC_size]; omega) (headC_one _) ?_; intro wh hHh hgh))
              rw [copied_all _ _ (by rw [headC_size, headC_size])] at hHh
              have hbh := below_only hn hgh (Nat.le_refl _) hn.size
              have G0 := Lib.hid (And.intro (F10.out.1.next hbh) (And.intro (F10.out.2.below hbh F10.out.2.lt) hHh))
              clear hz HR hD hn hHh hgh hbh F10
              obtain ⟨hb, hhb⟩ : ∃ hb, wq.heap.size = hb := ⟨_, rfl⟩
              rw [hhb] at G0
              rw [hhb]
              clear hhb
              have hrl : t.head.root.length = 32 := HL.out.2.2.2.2.2.2.2.1.1
              have htl : t.tag.length = 32 := HL.out.2.2.2.2.2.2.2.2.1
              have cp : wh.cell? ⟨pb, 0, none⟩ = some (.pointer (some ⟨g, 0, none⟩)) := G0.out.1.2.1.cell 0
              have cx : wh.cell? ⟨hb, 0, none⟩ = some (.int .i64 t.head.tree) := by rw [G0.out.2.2.cell, headC_0]
              have m := numK g (P4) (i64u t.head.tree) 1 (by decide) wh B G0.out.1.1 G0.out.1.2.2.2.2 (by (try simp only [List.length_append, numB_length]); have := HP4.out.2; omega)
              rw [show clamp8 1 = 1 by decide, ← (show IntKind.u64.wrap t.head.tree = n64 (i64u t.head.tree) from (wrap_u64' _).trans (i64u_val t.head.tree))] at m
              go_upto_region 36 with (first
                | (go_at_call 41; refine m.mono ?_; clear m; rintro e wg0 ⟨rfl, hW, hK⟩; have G1 := Lib.hid (And.intro (G0.out.1.step hlo hK hW) (And.intro (hK.2 _ _ _ G0.out.2.1 (by decide) (by decide)) (hK.2 _ _ _ G0.out.2.2 (by decide) (by decide)))); clear hW hK))
              clear cp cx G0
              have cp : wg0.cell? ⟨pb, 0, none⟩ = some (.pointer (some ⟨g, 0, none⟩)) := G1.out.1.2.1.cell 0
              have cx : wg0.cell? ⟨hb, 1, none⟩ = some (.int .i64 t.head.epoch) := by rw [G1.out.2.2.cell, headC_1]
              have m := numK g (P4 ++ numB (i64u t.head.tree) 1) (i64u t.head.epoch) 4 (by decide) wg0 B G1.out.1.1 G1.out.1.2.2.2.2 (by (try simp only [List.length_append, numB_length]); have := HP4.out.2; omega)
              rw [show clamp8 4 = 4 by decide, ← (show IntKind.u64.wrap t.head.epoch = n64 (i64u t.head.epoch) from (wrap_u64' _).trans (i64u_val t.head.epoch))] at m
              go_upto_region 37 with (first
                | (go_at_call 41; refine m.mono ?_; clear m; rintro e wg1 ⟨rfl, hW, hK⟩; have G2 := Lib.hid (And.intro (G1.out.1.step hlo hK hW) (And.intro (hK.2 _ _ _ G1.out.2.1 (by decide) (by decide)) (hK.2 _ _ _ G1.out.2.2 (by decide) (by decide)))); clear hW hK))
              clear cp cx G1
              have cp : wg1.cell? ⟨pb, 0, none⟩ = some (.pointer (some ⟨g, 0, none⟩)) := G2.out.1.2.1.cell 0
              have cx : wg1.cell? ⟨hb, 2, none⟩ = some (.int .u64 (n64 t.head.size)) := by rw [G2.out.2.2.cell, headC_2]
              have m := numK g (P4 ++ numB (i64u t.head.tree) 1 ++ numB (i64u t.head.epoch) 4) t.head.size 8 (by decide) wg1 B G2.out.1.1 G2.out.1.2.2.2.2 (by (try simp only [List.length_append, numB_length]); have := HP4.out.2; omega)
              rw [show clamp8 8 = 8 by decide] at m
              go_upto_region 38 with (first
                | (go_at_call 41; refine m.mono ?_; clear m; rintro e wg2 ⟨rfl, hW, hK⟩; have G3 := Lib.hid (And.intro (G2.out.1.step hlo hK hW) (And.intro (hK.2 _ _ _ G2.out.2.1 (by decide) (by decide)) (hK.2 _ _ _ G2.out.2.2 (by decide) (by decide)))); clear hW hK))
              clear cp cx G2
              have cp : wg2.cell? ⟨pb, 0, none⟩ = some (.pointer (some ⟨g, 0, none⟩)) := G3.out.1.2.1.cell 0
              have cx : wg2.cell? ⟨hb, 3, none⟩ = some (.int .u64 (n64 t.head.clock)) := by rw [G3.out.2.2.cell, headC_3]
              have m := numK g (P4 ++ numB (i64u t.head.tree) 1 ++ numB (i64u t.head.epoch) 4 ++ numB t.head.size 8) t.head.clock 8 (by decide) wg2 B G3.out.1.1 G3.out.1.2.2.2.2 (by (try simp only [List.length_append, numB_length]); have := HP4.out.2; omega)
              rw [show clamp8 8 = 8 by decide] at m
              go_upto_region 39 with (first
                | (go_at_call 41; refine m.mono ?_; clear m; rintro e wg3 ⟨rfl, hW, hK⟩; have G4 := Lib.hid (And.intro (G3.out.1.step hlo hK hW) (And.intro (hK.2 _ _ _ G3.out.2.1 (by decide) (by decide)) (hK.2 _ _ _ G3.out.2.2 (by decide) (by decide)))); clear hW hK))
              clear cp cx G3
              have cp : wg3.cell? ⟨pb, 0, none⟩ = some (.pointer (some ⟨g, 0, none⟩)) := G4.out.1.2.1.cell 0
              have HR := Lib.hid (root_range G4.out.2.2)
              have m := digK g (P4 ++ numB (i64u t.head.tree) 1 ++ numB (i64u t.head.epoch) 4 ++ numB t.head.size 8 ++ numB t.head.clock 8) t.head.root hrl wg3 B G4.out.1.1 G4.out.1.2.2.2.2 (by (try simp only [List.length_append, numB_length]); have := HP4.out.2; omega)
              go_upto_region 40 with (first
                | (refine wpList_loadR 38 (.tmp 161) rfl hb 4 rfl (dat t.head.root) _ HR.out Tryd.underlying38 rfl (by rw [dat_size]; kernel_rfl) rfl ?_)
                | (go_at_call 44; refine m.mono ?_; clear m; rintro e wg4 ⟨rfl, hW, hK⟩; have G5 := Lib.hid (And.intro (G4.out.1.step hlo hK hW) (hK.2 _ _ _ G4.out.2.1 (by decide) (by decide))); clear hW hK))
              clear cp HR G4
              have cp : wg4.cell? ⟨pb, 0, none⟩ = some (.pointer (some ⟨g, 0, none⟩)) := G5.out.1.2.1.cell 0
              have HR := Lib.hid (tre_tag_range G5.out.2)
              have m := digK g (P4 ++ numB (i64u t.head.tree) 1 ++ numB (i64u t.head.epoch) 4 ++ numB t.head.size 8 ++ numB t.head.clock 8 ++ t.head.root) t.tag htl wg4 B G5.out.1.1 G5.out.1.2.2.2.2 (by (try simp only [List.length_append, numB_length]); have := HP4.out.2; omega)
              go_upto_region 41 with (first
                | (refine wpList_loadR 38 (.tmp 166) rfl tb 43 rfl (dat t.tag) _ HR.out Tryd.underlying38 rfl (by rw [dat_size]; kernel_rfl) rfl ?_)
                | (go_at_call 44; refine m.mono ?_; clear m; rintro e wg5 ⟨rfl, hW, hK⟩; have G6 := Lib.hid (G5.out.1.step hlo hK hW); clear hW hK))
              clear cp HR G5
              have HY := Lib.hid (show EncF w B g pb sC wg5 (A1 ++ (s.trees.take (k + 1)).flatMap encTre) from by
                rw [HT.out, ← List.append_assoc, HP.out]
                have e1 : pre ++ encTre t = P4 ++ numB (i64u t.head.tree) 1 ++ numB (i64u t.head.epoch) 4 ++ numB t.head.size 8 ++ numB t.head.clock 8 ++ t.head.root ++ t.tag := by
                  rw [← HP4.out.1, ← HP2.out.1, ← HP1.out.1]
                  simp only [encTre, encHd, List.append_assoc]
                rw [e1]
                exact G6.out)
              clear G6
              go_wp2_with fail
              go_roundg (gk0 - 1)
              case measure => omega
              case rel => exact ⟨k + 1, by have := hkg.out; omega, by omega, by go_num, HY.out⟩
        · obtain rfl : k = s.trees.length := by omega
          have FC : Hid (EncF w B g pb sC wr (A1 ++ s.trees.flatMap encTre)) := by
            have h1 := HX.out.2
            rw [List.take_length] at h1
            exact Lib.hid h1
          clear HX hlt hkn
          obtain ⟨A2, hA2⟩ : ∃ A2, A1 ++ s.trees.flatMap encTre = A2 := ⟨_, rfl⟩
          have HA2 := Lib.hid (show A1 ++ s.trees.flatMap encTre = A2 ∧ A2.length ≤ 131090000000000 from ⟨hA2, by
            rw [← hA2, List.length_append]
            have h1 := flatMap_okle s.trees HF.out.2.2.2.1
            have h3 := Nat.mul_le_mul_right 131080000000 k2
            have := HA1.out.2
            omega⟩)
          rw [hA2] at FC
          clear hA2
          have c5 : wr.cell? ⟨w.heap.size, 5, none⟩ = some (.slice Ag s.grants.length cg) := by rw [FC.out.2.2.1.cell, HSC.out]; rfl
          go_upto_region 43 with fail
          clear c5
          go_loopg [15, 173] (s.grants.length + 1) (fun gk pv iv wr => ∃ k : Nat, s.grants.length + 1 ≤ k + gk ∧ k ≤ s.grants.length ∧ iv = .int .i64 (k : Int) ∧ EncF w B g pb sC wr (A2 ++ (s.grants.take k).flatMap encGra))
          case atStart => exact ⟨0, by omega, by omega, rfl, by rw [List.take_zero, List.flatMap_nil, List.append_nil]; exact FC.out⟩
          case round =>
            clear FC
            obtain ⟨k, hk, hkn, rfl, hF⟩ := hrel
            have HX := Lib.hid (And.intro hk hF)
            clear hk hF
            have hpl : (A2 ++ (s.grants.take k).flatMap encGra).length ≤ 131090000100000 := by
              rw [List.length_append]
              have h1 := flatMap_le encGra 11 (fun x => Nat.le_of_eq (encGra_len x)) (s.grants.take k)
              have h2 : (s.grants.take k).length ≤ 1000 := by rw [List.length_take]; omega
              have h3 := Nat.mul_le_mul_right 11 h2
              have h4 := HA2.out.2
              omega
            by_cases hlt : k < s.grants.length
            · have hki : (k : Int) < (s.grants.length : Int) := by omega
              have hgk : 0 < gk := by have := HX.out.1; omega
              obtain ⟨gt, ot, eA, hgt, hra⟩ := HF.out.2.2.1.range (by decide) k (by rw [List.length_map]; exact hlt)
              subst eA
              have hra2 : w.rangeAt gt (ot + k * 4) (graC (s.grants.getD k ⟨0, 0, 0, false⟩)).toList := by
                have e1 : (s.grants.map graC).getD k #[] = graC (s.grants.getD k ⟨0, 0, 0, false⟩) := by
                  rw [List.getD_eq_getElem?_getD, List.getD_eq_getElem?_getD, List.getElem?_map, List.getElem?_eq_getElem hlt]; rfl
                rw [← e1]; exact hra
              have HT := Lib.hid (flatMap_take encGra s.grants k ⟨0, 0, 0, false⟩ hlt)
              obtain ⟨pre, hpre⟩ : ∃ pre, A2 ++ (s.grants.take k).flatMap encGra = pre := ⟨_, rfl⟩
              rw [hpre] at hpl
              have HP := Lib.hid hpre
              generalize s.grants.getD k ⟨0, 0, 0, false⟩ = t at hra2 HT
              have HR := Lib.hid (show wr.rangeAt gt (ot + k * 4) (graC t).toList from fun j u hj => (HX.out.2.2.2.2.1.cell (p := ⟨gt, ot + k * 4 + j, none⟩) hgt).trans (hra2 j u hj))
              have F0 := Lib.hid (show EncF w B g pb sC wr pre from by rw [← hpre]; exact HX.out.2)
              have hkg := Lib.hid HX.out.1
              clear hra hra2 hpre HX
              have hD := Blk.new wr 67 (graC ⟨0, 0, 0, false⟩)
              have hn := below_new1 wr (Obj.cells (graC ⟨0, 0, 0, false⟩) 67)
              have hz := zero_grant
              go_upto_region 45 with (first
                | (refine wpList_loadR 67 (.tmp 175) rfl gt (ot + k * 4) rfl (graC t) _ HR.out Tryd.underlying67 rfl (by kernel_rfl) rfl ?_)
                | (refine wpList_storeB rfl rfl 67 (.tmp 15) (.tmp 176) rfl wr.heap.size 0 rfl (graC t) rfl _ _ hD (by kernel_rfl) (by rw [graC_size, graC_size]; omega) (graC_oneE _) ?_; intro wa hTa hga))
              rw [copied_all _ _ (by rw [graC_size, graC_size])] at hTa
              have F1 := Lib.hid (And.intro (F0.out.next (below_only hn hga (Nat.le_refl _) hn.size)) hTa)
              clear hD hn hz hTa hga HR F0
              obtain ⟨tb, htb⟩ : ∃ tb, wr.heap.size = tb := ⟨_, rfl⟩
              rw [htb] at F1
              rw [htb]
              clear htb
              have cp : wa.cell? ⟨pb, 0, none⟩ = some (.pointer (some ⟨g, 0, none⟩)) := F1.out.1.2.1.cell 0
              have cx : wa.cell? ⟨tb, 0, none⟩ = some (.int .i64 t.tenant) := F1.out.2.cell 0
              have m := numK g (pre) (i64u t.tenant) 1 (by decide) wa B F1.out.1.1 F1.out.1.2.2.2.2 (by (try simp only [List.length_append, numB_length]); omega)
              rw [show clamp8 1 = 1 by decide, ← (show IntKind.u64.wrap t.tenant = n64 (i64u t.tenant) from (wrap_u64' _).trans (i64u_val t.tenant))] at m
              go_upto_region 46 with (first
                | (go_at_call 41; refine m.mono ?_; clear m; rintro e wg0 ⟨rfl, hW, hK⟩; have F2 := Lib.hid (And.intro (F1.out.1.step hlo hK hW) (hK.2 _ _ _ F1.out.2 (by decide) (by decide))); clear hW hK))
              clear cp cx F1
              have cp : wg0.cell? ⟨pb, 0, none⟩ = some (.pointer (some ⟨g, 0, none⟩)) := F2.out.1.2.1.cell 0
              have cx : wg0.cell? ⟨tb, 1, none⟩ = some (.int .i64 t.role) := F2.out.2.cell 1
              have m := numK g (pre ++ numB (i64u t.tenant) 1) (i64u t.role) 1 (by decide) wg0 B F2.out.1.1 F2.out.1.2.2.2.2 (by (try simp only [List.length_append, numB_length]); omega)
              rw [show clamp8 1 = 1 by decide, ← (show IntKind.u64.wrap t.role = n64 (i64u t.role) from (wrap_u64' _).trans (i64u_val t.role))] at m
              go_upto_region 47 with (first
                | (go_at_call 41; refine m.mono ?_; clear m; rintro e wg1 ⟨rfl, hW, hK⟩; have F3 := Lib.hid (And.intro (F2.out.1.step hlo hK hW) (hK.2 _ _ _ F2.out.2 (by decide) (by decide))); clear hW hK))
              clear cp cx F2
              have cp : wg1.cell? ⟨pb, 0, none⟩ = some (.pointer (some ⟨g, 0, none⟩)) := F3.out.1.2.1.cell 0
              have cx : wg1.cell? ⟨tb, 2, none⟩ = some (.int .u64 (n64 t.expires)) := F3.out.2.cell 2
              have m := numK g (pre ++ numB (i64u t.tenant) 1 ++ numB (i64u t.role) 1) t.expires 8 (by decide) wg1 B F3.out.1.1 F3.out.1.2.2.2.2 (by (try simp only [List.length_append, numB_length]); omega)
              rw [show clamp8 8 = 8 by decide] at m
              go_upto_region 48 with (first
                | (go_at_call 41; refine m.mono ?_; clear m; rintro e wg2 ⟨rfl, hW, hK⟩; have F4 := Lib.hid (And.intro (F3.out.1.step hlo hK hW) (hK.2 _ _ _ F3.out.2 (by decide) (by decide))); clear hW hK))
              clear cp cx F3
              have cp : wg2.cell? ⟨pb, 0, none⟩ = some (.pointer (some ⟨g, 0, none⟩)) := F4.out.1.2.1.cell 0
              have cx : wg2.cell? ⟨tb, 3, none⟩ = some (.bool t.revoked) := F4.out.2.cell 3
              have m := flagK g (pre ++ numB (i64u t.tenant) 1 ++ numB (i64u t.role) 1 ++ numB t.expires 8) t.revoked wg2 B F4.out.1.1 F4.out.1.2.2.2.2 (by (try simp only [List.length_append, numB_length]); omega)
              go_upto_region 49 with (first
                | (go_at_call 43; refine m.mono ?_; clear m; rintro e wg3 ⟨rfl, hW, hK⟩; have F5 := Lib.hid (F4.out.1.step hlo hK hW); clear hW hK))
              clear cp cx F4
              have HY := Lib.hid (show EncF w B g pb sC wg3 (A2 ++ (s.grants.take (k + 1)).flatMap encGra) from by
                rw [HT.out, ← List.append_assoc, HP.out]
                have e1 : pre ++ encGra t = pre ++ numB (i64u t.tenant) 1 ++ numB (i64u t.role) 1 ++ numB t.expires 8 ++ flagB t.revoked := by simp only [encGra, List.append_assoc]
                rw [e1]
                exact F5.out)
              clear F5
              go_wp2_with fail
              go_roundg (gk - 1)
              case measure => omega
              case rel => exact ⟨k + 1, by have := hkg.out; omega, by omega, by go_num, HY.out⟩
            · obtain rfl : k = s.grants.length := by omega
              have hE : encS s = A2 ++ s.grants.flatMap encGra := by rw [← HA2.out.1, ← HA1.out.1]; rfl
              have FD : Hid (EncF w B g pb sC wr (encS s) ∧ (encS s).length ≤ 131090000100000) := by
                have h1 := HX.out.2
                rw [List.take_length] at h1 hpl
                rw [hE]
                exact Lib.hid ⟨h1, hpl⟩
              clear HX hlt hkn hE hpl
              have cp : wr.cell? ⟨pb, 0, none⟩ = some (.pointer (some ⟨g, 0, none⟩)) := FD.out.1.2.1.cell 0
              obtain ⟨vv, hWr⟩ := FD.out.1.1
              have m := done_any (.pointer (some ⟨g, 0, none⟩)) (encS s) wr B hWr.wrt (by have := FD.out.2; omega)
              go_wp2_with (first
                | (go_at_call 45; refine m.mono ?_; clear m; rintro e wz ⟨u, rfl, hu, hou, hbz⟩; have HZ := Lib.hid (And.intro hu (FD.out.1.2.2.2.1.trans (hbz.mono FD.out.1.2.2.2.1.size))); clear hu hou hbz))
              go_ret
              exact ⟨_, rfl, HZ.out.1, HZ.out.2⟩
end Go.Proofs.YtcdkadidkkbhpaaDoor
