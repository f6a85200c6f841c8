/- Texts that stand behind one another: ShaSum, ShaC, RefP, Zeros, Make. No condition. -/
import Derived.Test.YtcdkadidkkbhpaaDoorS2
import Derived.Test.YtcdkadidkkbhpaaDoorS1
import Derived.Test.YtcdkadidkkbhpaaDoorS4
import Derived.Deep.DeepCutAuto
/- SHA-256 of a text, in plain Lean: what the program reckons block by block is the hash of the padded text. No condition. -/
namespace Go.Proofs.YtcdkadidkkbhpaaDoor
open Go
/-- bytes as an array of values, place by place -/
def arr (n : Nat) (f : Nat → UInt8) : Array Value := ((List.range n).map fun p => v8 (f p)).toArray
theorem arr_size (n : Nat) (f : Nat → UInt8) : (arr n f).size = n := by simp [arr]
theorem arr_at (n : Nat) (f : Nat → UInt8) (i : Nat) (hi : i < n) : (arr n f)[i]? = some (.int .u8 (n8 (f i))) := by
  simp [arr, hi, v8]
theorem arr_congr (n : Nat) (f g : Nat → UInt8) (h : ∀ p, p < n → f p = g p) : arr n f = arr n g := by
  unfold arr; congr 1; apply List.map_congr_left; intro p hp; rw [h p (List.mem_range.1 hp)]
theorem arr_set (n : Nat) (f : Nat → UInt8) (i : Nat) (x : UInt8) : (arr n f).setIfInBounds i (v8 x) = arr n (fun p => if p = i then x else f p) := by
  apply Array.ext_getElem?
  intro j
  unfold arr
  rw [Array.getElem?_setIfInBounds]
  by_cases hj : j < n
  · by_cases h : i = j
    · subst h; simp [hj]
    · have h' : ¬ j = i := fun e => h e.symm
      simp [hj, h, h']
  · have h1 : n ≤ j := by omega
    by_cases h : i = j
    · subst h; simp [h1]
    · simp [h1, h]
theorem arr_list (bs : List UInt8) : (bs.map v8).toArray = arr bs.length (fun p => bs.getD p 0) := by
  apply Array.ext_getElem?
  intro j
  unfold arr
  by_cases hj : j < bs.length
  · simp [hj]
  · have h1 : bs.length ≤ j := by omega
    simp [h1]
theorem arr_one (n : Nat) (f : Nat → UInt8) : ∀ v ∈ (arr n f).toList, v.oneCell' = true := by
  intro v hv
  obtain ⟨b, _, rfl⟩ := List.mem_map.1 (show v ∈ (List.range n).map fun p => v8 (f p) from hv)
  rfl
/-- an array of bytes is stored into a block of its size -/
theorem wpList_storeArr {P : Program} {w : World} {ops : Array Oper} {rest : List Oper} {o : Oper} {a : Act} {Q : Exit → Act → World → Prop} (hgd : o.guard = none) (hdst : o.dst = none) (ty : TypeId) (x y : Operand) (ho : o.op = .store ty x y) (g : Nat) (hx : a.eval x = .pointer (some ⟨g, 0, none⟩)) (n : Nat) (f f0 : Nat → UInt8) (hy : a.eval y = .agg (arr n f))
    (t : TypeId) (hg : Blk w g t (arr n f0)) (hi : (P.info? ty).map (·.size) = some n)
    (h : ∀ w', Blk w' g t (arr n f) → w.grownBy w' (some g) → wpList P ops Q rest a w') : wpList P ops Q (o :: rest) a w := by
  refine wpList_storeB hgd hdst ty x y ho g 0 hx (arr n f) hy t (arr n f0) hg (by rw [arr_size]; exact hi) (by rw [arr_size, arr_size]; omega) (arr_one n f) fun w' hw hon => ?_
  rw [copied_all _ _ (by rw [arr_size, arr_size])] at hw
  exact h w' hw hon
/-- a digest's cells -/
def dat (d : List UInt8) : Array Value := arr 32 (fun p => d.getD p 0)
theorem dat_eq (d : List UInt8) (h : d.length = 32) : dat d = (d.map v8).toArray := by rw [arr_list, h]; rfl
theorem dat_size (d : List UInt8) : (dat d).size = 32 := arr_size _ _
/-- an array of bytes, cut from its head, reads as bytes -/
theorem BSl.of_arr {w : World} {g : Nat} {t : TypeId} {n : Nat} {f : Nat → UInt8} (h : Blk w g t (arr n f)) (B : Nat) (hB : g < B) (bs : List UInt8) (hl : bs.length = n) (hf : ∀ p, p < n → f p = bs.getD p 0) (hc : n ≤ 9223372036854775807) : BSl w B (.slice (some ⟨g, 0, none⟩) n n) bs := by
  subst hl
  rw [arr_congr bs.length f _ hf, ← arr_list] at h
  exact BSl.of_list h B hB _ (Nat.le_refl _) hc
theorem wpList_storeDat {P : Program} {w : World} {ops : Array Oper} {rest : List Oper} {o : Oper} {a : Act} {Q : Exit → Act → World → Prop} (hgd : o.guard = none) (hdst : o.dst = none) (ty : TypeId) (x y : Operand) (ho : o.op = .store ty x y) (g : Nat) (hx : a.eval x = .pointer (some ⟨g, 0, none⟩)) (d : List UInt8) (f0 : Nat → UInt8) (hy : a.eval y = .agg (dat d))
    (t : TypeId) (hg : Blk w g t (arr 32 f0)) (hi : (P.info? ty).map (·.size) = some 32)
    (h : ∀ w', Blk w' g t (dat d) → w.grownBy w' (some g) → wpList P ops Q rest a w') : wpList P ops Q (o :: rest) a w :=
  wpList_storeArr hgd hdst ty x y ho g hx 32 _ f0 hy t hg hi h
theorem BSl.of_dat {w : World} {g : Nat} {t : TypeId} {d : List UInt8} (h : Blk w g t (dat d)) (B : Nat) (hB : g < B) (hl : d.length = 32) : BSl w B (.slice (some ⟨g, 0, none⟩) 32 32) d :=
  BSl.of_arr h B hB d hl (fun _ _ => rfl) (by decide)
/-- byte number i (of 8, the greatest first) of the count of bits -/
def lenByte (n i : Nat) : UInt8 := UInt8.ofNat (n * 8 / 2 ^ (8 * (7 - i)))
def zeros (n : Nat) : Nat := (119 - n % 64) % 64
/-- the padded text -/
def pad (bs : List UInt8) : List UInt8 := bs ++ (0x80 :: (List.replicate (zeros bs.length) 0 ++ (List.range 8).map (lenByte bs.length)))
/-- the state after k blocks -/
def hashN (K : List UInt32) (s : S8) (x : List UInt8) : Nat → S8
  | 0 => s
  | k + 1 => mixed K (hashN K s x k) (x.drop (64 * k))
def outBytes (s : S8) : List UInt8 := (List.range 32).map fun i => UInt8.ofNat ((s.list.getD (i / 4) 0).toNat / 2 ^ (24 - 8 * (i % 4)))
def sumOf (K : List UInt32) (s : S8) (bs : List UInt8) : List UInt8 := outBytes (hashN K s (pad bs) ((pad bs).length / 64))
theorem pad_length (bs : List UInt8) : (pad bs).length = bs.length + 9 + zeros bs.length := by
  simp [pad]; omega
theorem pad_mod (bs : List UInt8) : (pad bs).length % 64 = 0 := by rw [pad_length]; unfold zeros; omega
theorem wat_congr {b c : List UInt8} (h : ∀ j, j < 64 → b.getD j 0 = c.getD j 0) (k : Nat) : wat b k = wat c k := by
  induction k with
  | zero => rfl
  | succ k ih =>
    have e : ∀ L, nextW b L k = nextW c L k := by
      intro L
      unfold nextW be32
      by_cases hk : k < 16
      · rw [if_pos hk, if_pos hk, h _ (by omega), h _ (by omega), h _ (by omega), h _ (by omega)]
      · rw [if_neg hk, if_neg hk]
    show wat b k ++ [nextW b (wat b k) k] = wat c k ++ [nextW c (wat c k) k]
    rw [ih, e]
theorem mixed_congr {K : List UInt32} {s : S8} {b c : List UInt8} (h : ∀ j, j < 64 → b.getD j 0 = c.getD j 0) : mixed K s b = mixed K s c := by
  unfold mixed; rw [wat_congr h]
theorem getD_drop (x : List UInt8) (i j : Nat) : (x.drop i).getD j 0 = x.getD (i + j) 0 := by
  simp [List.getD_eq_getElem?_getD]
theorem hashN_congr {K : List UInt32} {s : S8} {x y : List UInt8} (k : Nat) (h : ∀ j, j < 64 * k → x.getD j 0 = y.getD j 0) : hashN K s x k = hashN K s y k := by
  induction k with
  | zero => rfl
  | succ k ih =>
    show mixed K (hashN K s x k) (x.drop (64 * k)) = mixed K (hashN K s y k) (y.drop (64 * k))
    rw [ih fun j hj => h j (by omega)]
    apply mixed_congr
    intro j hj
    rw [getD_drop, getD_drop]
    exact h _ (by omega)
theorem hashN_add (K : List UInt32) (s : S8) (x : List UInt8) (a b : Nat) : hashN K s x (a + b) = hashN K (hashN K s x a) (x.drop (64 * a)) b := by
  induction b with
  | zero => rfl
  | succ b ih =>
    show mixed K (hashN K s x (a + b)) (x.drop (64 * (a + b))) = mixed K (hashN K (hashN K s x a) (x.drop (64 * a)) b) ((x.drop (64 * a)).drop (64 * b))
    rw [ih, List.drop_drop, Nat.mul_add]
/-- the tail that the program lays: what is left of a text of n bytes (r of them), one bit, noughts, i of the bytes of its length; e: its end -/
def tailB (r : List UInt8) (n e i p : Nat) : UInt8 := if p < r.length then r.getD p 0 else if p = r.length then 0x80 else if p < e ∧ e ≤ p + i then lenByte n (7 - (e - 1 - p)) else 0
def tailEnd (n : Nat) : Nat := if n % 64 + 9 > 64 then 128 else 64
theorem pad_at (bs : List UInt8) (p : Nat) : (pad bs).getD p 0 =
    if p < bs.length then bs.getD p 0 else if p = bs.length then 0x80 else if p < bs.length + 1 + zeros bs.length then 0 else if p < bs.length + 9 + zeros bs.length then lenByte bs.length (p - (bs.length + 1 + zeros bs.length)) else 0 := by
  unfold pad
  simp only [List.getD_eq_getElem?_getD]
  by_cases h1 : p < bs.length
  · rw [List.getElem?_append_left h1, if_pos h1]
  · rw [List.getElem?_append_right (by omega), if_neg h1]
    by_cases h2 : p = bs.length
    · rw [if_pos h2, h2, Nat.sub_self]; rfl
    · rw [if_neg h2]
      obtain ⟨d, hd⟩ : ∃ d, p - bs.length = d + 1 := ⟨p - bs.length - 1, by omega⟩
      rw [hd, List.getElem?_cons_succ]
      by_cases h3 : p < bs.length + 1 + zeros bs.length
      · rw [if_pos h3, List.getElem?_append_left (by rw [List.length_replicate]; omega), List.getElem?_replicate, if_pos (by omega)]; rfl
      · rw [if_neg h3, List.getElem?_append_right (by rw [List.length_replicate]; omega), List.length_replicate]
        by_cases h4 : p < bs.length + 9 + zeros bs.length
        · rw [if_pos h4, List.getElem?_map, List.getElem?_range (by omega)]
          show lenByte _ _ = _
          congr 1; omega
        · rw [if_neg h4, List.getElem?_eq_none (by rw [List.length_map, List.length_range]; omega)]; rfl
theorem tail_at (bs : List UInt8) (p : Nat) (hp : p < tailEnd bs.length) :
    ((pad bs).drop (64 * (bs.length / 64))).getD p 0 = tailB (bs.drop (64 * (bs.length / 64))) bs.length (tailEnd bs.length) 8 p := by
  have hz : zeros bs.length = tailEnd bs.length - (bs.length % 64 + 9) := by unfold zeros tailEnd; split <;> omega
  have hte : bs.length % 64 + 9 ≤ tailEnd bs.length := by unfold tailEnd; split <;> omega
  rw [getD_drop, pad_at]
  unfold tailB
  rw [List.length_drop, getD_drop]
  by_cases h1 : 64 * (bs.length / 64) + p < bs.length
  · rw [if_pos h1, if_pos (show p < bs.length - 64 * (bs.length / 64) by omega)]
  · rw [if_neg h1, if_neg (show ¬ p < bs.length - 64 * (bs.length / 64) by omega)]
    by_cases h2 : 64 * (bs.length / 64) + p = bs.length
    · rw [if_pos h2, if_pos (show p = bs.length - 64 * (bs.length / 64) by omega)]
    · rw [if_neg h2, if_neg (show ¬ p = bs.length - 64 * (bs.length / 64) by omega)]
      by_cases h3 : 64 * (bs.length / 64) + p < bs.length + 1 + zeros bs.length
      · rw [if_pos h3, if_neg (show ¬ (p < tailEnd bs.length ∧ tailEnd bs.length ≤ p + 8) by omega)]
      · rw [if_neg h3, if_pos (show 64 * (bs.length / 64) + p < bs.length + 9 + zeros bs.length by omega), if_pos (show p < tailEnd bs.length ∧ tailEnd bs.length ≤ p + 8 by omega)]
        congr 1; omega
theorem pad_blocks (bs : List UInt8) : (pad bs).length / 64 = bs.length / 64 + tailEnd bs.length / 64 := by
  rw [pad_length]; unfold zeros tailEnd; split <;> omega
/-- the hash, as the program reckons it: whole blocks of the text first, then the tail -/
theorem sumOf_tail (K : List UInt32) (s : S8) (bs tail : List UInt8) (ht : ∀ p, p < tailEnd bs.length → tail.getD p 0 = tailB (bs.drop (64 * (bs.length / 64))) bs.length (tailEnd bs.length) 8 p) :
    outBytes (hashN K (hashN K s bs (bs.length / 64)) tail (tailEnd bs.length / 64)) = sumOf K s bs := by
  unfold sumOf
  have he : tailEnd bs.length % 64 = 0 := by unfold tailEnd; split <;> rfl
  rw [pad_blocks, hashN_add]
  congr 1
  have h1 : hashN K s (pad bs) (bs.length / 64) = hashN K s bs (bs.length / 64) := hashN_congr _ fun j hj => by rw [pad_at, if_pos (by omega)]
  rw [h1]
  apply hashN_congr
  intro j hj
  rw [ht j (by omega), tail_at bs j (by omega)]
theorem copied_arr (n : Nat) (f : Nat → UInt8) (off : Nat) (xs : List UInt8) (m : Nat) (h : off + Nat.min xs.length m ≤ n) :
    copied (arr n f) off (xs.map v8) m = arr n (fun p => if off ≤ p ∧ p < off + Nat.min xs.length m then xs.getD (p - off) 0 else f p) := by
  have hmin : (xs.take m).length = Nat.min xs.length m := by rw [List.length_take]; exact Nat.min_comm _ _
  have hk1 : Nat.min xs.length m ≤ xs.length := Nat.min_le_left xs.length m
  have hk2 : Nat.min xs.length m ≤ m := Nat.min_le_right xs.length m
  unfold copied
  rw [← List.map_take, List.length_map, hmin]
  generalize Nat.min xs.length m = q at hmin hk1 hk2 h ⊢
  apply Array.ext_getElem?
  intro j
  have e1 : (arr n f).toList = (List.range n).map fun p => v8 (f p) := rfl
  rw [e1, List.getElem?_toArray]
  by_cases h1 : j < off
  · rw [List.getElem?_append_left (by rw [List.length_take, List.length_map, List.length_range]; omega), List.getElem?_take, if_pos h1]
    unfold arr
    rw [List.getElem?_toArray, List.getElem?_map, List.getElem?_map, List.getElem?_range (by omega)]
    simp [show ¬ off ≤ j by omega]
  · have hlt : ((List.map (fun p => v8 (f p)) (List.range n)).take off).length = off := by rw [List.length_take, List.length_map, List.length_range]; omega
    rw [List.getElem?_append_right (by omega), hlt]
    by_cases h2 : j < off + q
    · rw [List.getElem?_append_left (by rw [List.length_map, hmin]; omega), List.getElem?_map, List.getElem?_take, if_pos (by omega)]
      have h3 : j - off < xs.length := by omega
      rw [List.getElem?_eq_getElem h3, arr_at _ _ _ (by omega), if_pos (⟨by omega, h2⟩ : off ≤ j ∧ j < off + q)]
      simp [h3, v8]
    · rw [List.getElem?_append_right (by rw [List.length_map, hmin]; omega), List.length_map, hmin, List.getElem?_drop]
      have e2 : off + q + (j - off - q) = j := by omega
      rw [e2]
      unfold arr
      rw [List.getElem?_toArray, List.getElem?_map, List.getElem?_map]
      by_cases h4 : j < n
      · rw [List.getElem?_range h4]
        simp only [Option.map_some, if_neg (show ¬ (off ≤ j ∧ j < off + q) by omega)]
      · rw [List.getElem?_eq_none (by rw [List.length_range]; omega)]; rfl
theorem n8_ofNat (m : Nat) : n8 (UInt8.ofNat m) = (m : Int) % 256 := by
  unfold n8; rw [UInt8.toNat_ofNat']; simp
theorem lenByte_val (n j : Nat) (hj : j < 8) : (n : Int) * 8 / 2 ^ (8 * j) % 256 = n8 (lenByte n (7 - j)) := by
  unfold lenByte
  rw [n8_ofNat, show 7 - (7 - j) = j by omega]; simp
theorem tailB_step (r : List UInt8) (n E j : Nat) (hj : j < 8) (hE : r.length + 9 ≤ E) :
    (fun p => if p = E - 1 - j then lenByte n (7 - j) else tailB r n E j p) = tailB r n E (j + 1) := by
  funext p
  unfold tailB
  by_cases h0 : p = E - 1 - j
  · rw [if_pos h0, if_neg (show ¬ p < r.length by omega), if_neg (show ¬ p = r.length by omega), if_pos (show p < E ∧ E ≤ p + (j + 1) by omega)]
    congr 1; omega
  · rw [if_neg h0]
    by_cases h1 : p < E ∧ E ≤ p + j
    · rw [if_pos h1, if_pos (show p < E ∧ E ≤ p + (j + 1) by omega)]
    · rw [if_neg h1, if_neg (show ¬ (p < E ∧ E ≤ p + (j + 1)) by omega)]
def outB (s : S8) (i : Nat) : UInt8 := UInt8.ofNat ((s.list.getD (i / 4) 0).toNat / 2 ^ (24 - 8 * (i % 4)))
theorem outBytes_dat (s : S8) : dat (outBytes s) = arr 32 (outB s) := by
  apply arr_congr
  intro p hp
  unfold outBytes outB
  simp [hp]
theorem outBytes_arr (s : S8) : ((outBytes s).map v8).toArray = arr 32 (outB s) := by
  unfold outBytes arr outB; rw [List.map_map]; rfl
theorem outB_val (s : S8) (i : Nat) : n32 (s.list.getD (i / 4) 0) / 2 ^ (24 - 8 * (i % 4)) % 256 = n8 (outB s i) := by
  unfold outB n32
  rw [n8_ofNat]; simp
end Go.Proofs.YtcdkadidkkbhpaaDoor

/- The walk of sha's Sum. No condition. -/
namespace Go.Proofs.YtcdkadidkkbhpaaDoor
open Go.RowKit
attribute [local go_sem] n32_lo n32_hi n8_lo n8_hi u32_signed
def K0 : List UInt32 := [0x428a2f98, 0x71374491, 0xb5c0fbcf, 0xe9b5dba5, 0x3956c25b, 0x59f111f1, 0x923f82a4, 0xab1c5ed5, 0xd807aa98, 0x12835b01, 0x243185be, 0x550c7dc3, 0x72be5d74, 0x80deb1fe, 0x9bdc06a7, 0xc19bf174, 0xe49b69c1, 0xefbe4786, 0x0fc19dc6, 0x240ca1cc, 0x2de92c6f, 0x4a7484aa, 0x5cb0a9dc, 0x76f988da, 0x983e5152, 0xa831c66d, 0xb00327c8, 0xbf597fc7, 0xc6e00bf3, 0xd5a79147, 0x06ca6351, 0x14292967, 0x27b70a85, 0x2e1b2138, 0x4d2c6dfc, 0x53380d13, 0x650a7354, 0x766a0abb, 0x81c2c92e, 0x92722c85, 0xa2bfe8a1, 0xa81a664b, 0xc24b8b70, 0xc76c51a3, 0xd192e819, 0xd6990624, 0xf40e3585, 0x106aa070, 0x19a4c116, 0x1e376c08, 0x2748774c, 0x34b0bcb5, 0x391c0cb3, 0x4ed8aa4a, 0x5b9cca4f, 0x682e6ff3, 0x748f82ee, 0x78a5636f, 0x84c87814, 0x8cc70208, 0x90befffa, 0xa4506ceb, 0xbef9a3f7, 0xc67178f2]
def H0 : S8 := ⟨0x6a09e667, 0xbb67ae85, 0x3c6ef372, 0xa54ff53a, 0x510e527f, 0x9b05688c, 0x1f83d9ab, 0x5be0cd19⟩
/-- the hash of a text -/
def sha (bs : List UInt8) : List UInt8 := sumOf K0 H0 bs
/-- the two tables of package sha stand as the text lays them -/
structure Glob (w : World) : Prop where
  start : ∀ j, j < 8 → w.cell? ⟨0, j, none⟩ = some (.int .u32 (n32 (H0.list.getD j 0)))
  words : ∀ j, j < 64 → w.cell? ⟨1, j, none⟩ = some (.int .u32 (n32 (K0.getD j 0)))
  b0 : 0 < w.heap.size
  b1 : 1 < w.heap.size
theorem Glob.below {B : Nat} {w w' : World} (h : Glob w) (hb : Below B w w') (h0 : 0 < B) (h1 : 1 < B) : Glob w' :=
  ⟨fun j hj => (hb.cell (p := ⟨_, _, none⟩) h0).trans (h.start j hj), fun j hj => (hb.cell (p := ⟨_, _, none⟩) h1).trans (h.words j hj), Nat.lt_of_lt_of_le h.b0 hb.size, Nat.lt_of_lt_of_le h.b1 hb.size⟩
theorem Glob.next {w w' : World} (h : Glob w) (hb : Below w.heap.size w w') : Glob w' := h.below hb h.b0 h.b1
theorem zero128 (w : World) : (zeroValue 147).run Tryd.prog w = .ok (.agg (arr 128 fun _ => 0)) w := by kernel_rfl
set_option maxRecDepth 100000 in
theorem sum_any (A : Option Addr) (cap : Nat) (bs : List UInt8) (w : World) (hr : Reads w w.heap.size A (bs.map v8)) (hcap : bs.length ≤ cap) (hcm : cap ≤ 9223372036854775807) (hlm : bs.length ≤ 1152921504606846976) (hG : Glob w) :
    Calls Tryd.prog 70 #[.slice A bs.length cap] w fun e w' => e = .returned (.agg (dat (sha bs))) ∧ Below w.heap.size w w' := by
  have g0 : w.cell? ⟨0, 0, none⟩ = some (.int .u32 (n32 H0.a)) := hG.start 0 (by decide)
  have g1 : w.cell? ⟨0, 1, none⟩ = some (.int .u32 (n32 H0.b)) := hG.start 1 (by decide)
  have g2 : w.cell? ⟨0, 2, none⟩ = some (.int .u32 (n32 H0.c)) := hG.start 2 (by decide)
  have g3 : w.cell? ⟨0, 3, none⟩ = some (.int .u32 (n32 H0.d)) := hG.start 3 (by decide)
  have g4 : w.cell? ⟨0, 4, none⟩ = some (.int .u32 (n32 H0.e)) := hG.start 4 (by decide)
  have g5 : w.cell? ⟨0, 5, none⟩ = some (.int .u32 (n32 H0.f)) := hG.start 5 (by decide)
  have g6 : w.cell? ⟨0, 6, none⟩ = some (.int .u32 (n32 H0.g)) := hG.start 6 (by decide)
  have g7 : w.cell? ⟨0, 7, none⟩ = some (.int .u32 (n32 H0.h)) := hG.start 7 (by decide)
  have b0 := hG.b0
  have b1 := hG.b1
  go_enter Tryd.func70, Tryd.ntmps70
  go_wp2
  clear g0 g1 g2 g3 g4 g5 g6 g7
  go_loopw [5] (fun i wr => ∃ k : Nat, k ≤ bs.length / 64 ∧ i = .int .i64 ((64 * k : Nat) : Int) ∧ Blk wr (w.heap.size + 1) 124 ((hashN K0 H0 bs k).list.map v32).toArray ∧ Blk wr w.heap.size 38 (arr 32 fun _ => 0) ∧ Below w.heap.size w wr) (fun i _ => bs.length - (intOf i).toNat)
  case atStart =>
    refine ⟨0, by omega, rfl, ?_, ?_, ((Below.refl _ _).alloc (Nat.le_refl _) _).alloc (by simp) _⟩
    · have := Blk.new (w.alloc (Obj.cells (arr 32 fun _ => 0) 38)) 124 (H0.list.map v32).toArray
      rw [show (w.alloc (Obj.cells (arr 32 fun _ => 0) 38)).heap.size = w.heap.size + 1 from by simp] at this
      exact this
    · exact (Blk.new w 38 (arr 32 fun _ => 0)).alloc _
  case round =>
    obtain ⟨k, hk, rfl, hS, hR, hbel⟩ := hrel
    have hGr := hG.next hbel
    have hSl := hS.lt
    by_cases hlt : k < bs.length / 64
    · obtain ⟨b, off, rfl, hb, hc⟩ := hr (by rw [List.length_map]; omega)
      have hne : ¬ cap = 64 * k := by omega
      have h64 : 64 * k + 64 ≤ bs.length := by omega
      have hb1 : Hid (b < w.heap.size) := hb
      go_wp2_with fail
      refine (mix_any _ (hashN K0 H0 bs k) K0 _ _ _ _ (bs.drop (64 * k)) _ hS ?h1 ?h2 ?h3 ?h4 ?h5 ?h6 ?h7 ?h8 ?h9 ?h10).mono ?_
      case h1 => rw [List.length_drop]; omega
      case h2 => rw [List.length_drop]; omega
      case h3 => omega
      case h4 => omega
      case h5 =>
        intro j hj
        rw [getD_drop]
        have hj2 : 64 * k + j < bs.length := by omega
        have := (hbel.cell (p := ⟨b, off + (64 * k + j), none⟩) hb).trans (hc (64 * k + j) (.int .u8 (n8 (bs.getD (64 * k + j) 0))) (by simp [hj2, v8]))
        rw [← Nat.add_assoc] at this
        exact this
      case h6 => omega
      case h7 => omega
      case h8 => exact hGr.words
      case h9 => omega
      case h10 => exact hGr.b1
      rintro e w' ⟨rfl, hS', hon⟩
      go_wp2
      go_roundw
      case rel =>
        refine ⟨k + 1, by omega, by go_num, hS', hR.grown hon (by simp), below_only hbel hon (by omega) hbel.size⟩
      case measure => simp [intOf]; omega
    · have ek : k = bs.length / 64 := by omega
      rw [ek] at hS
      have hz := zero128
      have hcut := hr.cut (k := 64 * (bs.length / 64)) (cap := cap) (by rw [List.length_map]; omega) (by rw [List.length_map]; exact hcap)
      go_wp2
      have hT := Blk.new wr 147 (arr 128 fun _ => 0)
      have hS2 := hS.alloc (Obj.cells (arr 128 fun _ => 0) 147)
      have hR2 := hR.alloc (Obj.cells (arr 128 fun _ => 0) 147)
      have hbel2 := hbel.alloc hbel.size (Obj.cells (arr 128 fun _ => 0) 147)
      have hrc := (hcut.below hbel).alloc hbel.size (Obj.cells (arr 128 fun _ => 0) 147)
      generalize wr.alloc (Obj.cells (arr 128 fun _ => 0) 147) = w2 at hT hS2 hR2 hbel2 hrc ⊢
      have hTl := hT.lt
      clear hcut hS hR hz
      obtain ⟨T, eT⟩ : ∃ T, T = wr.heap.size := ⟨_, rfl⟩
      rw [← eT] at hT hSl hTl ⊢
      have hTw : w.heap.size + 1 < T := hSl
      clear hSl
      have HeT := Lib.hid eT
      clear eT
      have hi0 : (0 : Int) ≤ (bs.length : Int) / 64 * 64 := by omega
      have hi1 : ((bs.length : Int) / 64 * 64).toNat = 64 * (bs.length / 64) := by omega
      refine wp_region_quiet_tail 4 (fun W => ∃ n, W = w2.drewN n) (by kernel_rfl) (by kernel_rfl) ⟨1, rfl⟩ ?_
      simp only [List.take_succ_cons, List.take_zero, List.drop_succ_cons, List.drop_zero]
      repeat (go_big_quiet_step (fail))
      refine wpQuiet_nil ?_
      intro W hW
      obtain ⟨nq, rfl⟩ := hW
      generalize (if cap = 64 * (bs.length / 64) then A else Option.map (fun x => x.add (64 * (bs.length / 64))) A) = AA at hrc ⊢
      obtain ⟨R, eR⟩ : ∃ R, R = bs.length - 64 * (bs.length / 64) := ⟨_, rfl⟩
      have hR64 : R < 64 := by omega
      have hRl : (bs.drop (64 * (bs.length / 64))).length = R := by rw [List.length_drop, eR]
      have e1 := copied_arr 128 (fun _ => 0) 0 (bs.drop (64 * (bs.length / 64))) 128 (by rw [hRl]; show 0 + min R 128 ≤ 128; omega)
      rw [hRl, List.map_drop] at e1
      refine wpList_copyR rfl (.tmp 27) (.tmp 30) _ _ rfl 5 Tryd.underlying23 (by kernel_rfl) T 0 128 128 _ _ _ rfl rfl _ _ (hT.drewN nq) _ _ (hrc.drewN nq) (by rw [List.length_drop, List.length_map]) (by rw [arr_size, ← eR]; show 0 + min R 128 ≤ 128; omega) (by rw [← List.map_drop]; exact oneCell_v8 _) ?_
      intro w3 hT3 hon3
      rw [e1] at hT3
      rw [← eR]
      have hmin : Nat.min R 128 = R := by show min R 128 = R; omega
      have hS3 := (hS2.drewN nq).grown hon3 (by simp; omega)
      have hR3 := (hR2.drewN nq).grown hon3 (by simp; omega)
      have hbel3 := below_only (below_drewN hbel2 nq) hon3 (by omega) hbel2.size
      have hRlH := Lib.hid hRl
      have HeR := Lib.hid eR
      rw [hmin] at hT3 ⊢
      clear e1 eR hRl hmin hT hS2 hR2 hbel2 hrc hon3 HeT hi0 hi1
      have cT := hT3.cell R
      rw [arr_at _ _ _ (by omega)] at cT
      have fT := hT3.frozen R
      go_upto_if 36 with fail
      go_cut [8] (fun s8 wx => s8 = .int .i64 ((tailEnd bs.length : Nat) : Int) ∧ Blk wx T 147 (arr 128 (tailB (bs.drop (64 * (bs.length / 64))) bs.length (tailEnd bs.length) 0)) ∧ Blk wx (w.heap.size + 1) 124 ((hashN K0 H0 bs (bs.length / 64)).list.map v32).toArray ∧ Blk wx w.heap.size 38 (arr 32 fun _ => 0) ∧ Below w.heap.size w wx)
      case first =>
        have hE : tailEnd bs.length = if R + 9 > 64 then 128 else 64 := by unfold tailEnd; rw [show bs.length % 64 = R by rw [HeR.out]; omega]
        by_cases h9 : 55 < R
        all_goals
          go_wp2_with fail
          go_meet
          have hfin : arr 128 (fun p => if p = R then 0x80 else if 0 ≤ p ∧ p < 0 + R then (bs.drop (64 * (bs.length / 64))).getD (p - 0) 0 else 0) = arr 128 (tailB (bs.drop (64 * (bs.length / 64))) bs.length (tailEnd bs.length) 0) := by
            apply arr_congr
            intro p hp
            unfold tailB
            rw [hRlH.out]
            by_cases h1 : p < R
            · rw [if_neg (show ¬ p = R by omega), if_pos (show 0 ≤ p ∧ p < 0 + R by omega), if_pos h1]; rfl
            · rw [if_neg (show ¬ (0 ≤ p ∧ p < 0 + R) by omega), if_neg h1, if_neg (show ¬ (p < tailEnd bs.length ∧ tailEnd bs.length ≤ p + 0) by omega)]
          have hT4 := hT3.set R (v8 0x80)
          rw [arr_set, hfin] at hT4
          refine ⟨?_, hT4, hS3.far (p := ⟨T, R, none⟩) (by show _ ≠ T; omega) _, hR3.far (p := ⟨T, R, none⟩) (by show _ ≠ T; omega) _, hbel3.setCell (p := ⟨T, R, none⟩) (by show _ ≤ T; omega) _⟩
          rw [hE]
          first | (rw [if_pos (by omega)]; rfl) | (rw [if_neg (by omega)]; rfl)
      case rest =>
        obtain ⟨rfl, hT4, hS4, hR4, hbel4⟩ := hcut
        have hRE : R + 9 ≤ tailEnd bs.length := by
          unfold tailEnd
          rw [show bs.length % 64 = R by rw [HeR.out]; omega]
          split <;> omega
        have hE1 : 64 ≤ tailEnd bs.length ∧ tailEnd bs.length ≤ 128 ∧ tailEnd bs.length % 64 = 0 := by unfold tailEnd; split <;> decide
        have HE := Lib.hid (rfl : tailEnd bs.length = tailEnd bs.length)
        generalize hEq : tailEnd bs.length = E at hT4 hE1 hRE ⊢
        have HEq := Lib.hid hEq
        clear hEq HE
        obtain ⟨hE1, hE2, hE3⟩ := hE1
        have HE3 := Lib.hid hE3
        clear hE3
        generalize hrr : bs.drop (64 * (bs.length / 64)) = r at hT4
        have Hrr := Lib.hid hrr
        have hrl : r.length = R := by rw [← hrr]; exact hRlH.out
        have Hrl := Lib.hid hrl
        clear hrr hrl hT3 hS3 hR3 hbel3 cT fT
        go_wp2
        go_loopw [9, 37] (fun _ i wr => ∃ j : Nat, j ≤ 8 ∧ i = .int .i64 j ∧ Blk wr T 147 (arr 128 (tailB r bs.length E j)) ∧ Blk wr (w.heap.size + 1) 124 ((hashN K0 H0 bs (bs.length / 64)).list.map v32).toArray ∧ Blk wr w.heap.size 38 (arr 32 fun _ => 0) ∧ Below w.heap.size w wr) (fun _ i _ => 8 - (intOf i).toNat)
        case atStart => exact ⟨0, by omega, rfl, hT4, hS4, hR4, hbel4⟩
        case round =>
          clear hT4 hS4 hR4 hbel4
          obtain ⟨j, hj, rfl, hT4, hS4, hR4, hbel4⟩ := hrel
          by_cases hj8 : j < 8
          · have cT := hT4.cell (E - 1 - j)
            rw [arr_at _ _ _ (by omega)] at cT
            have fT := hT4.frozen (E - 1 - j)
            have ei : ((E : Int) - 1 - j).toNat = E - 1 - j := by omega
            go_wp2
            go_roundw
            case rel =>
              have hstep := hT4.set (E - 1 - j) (v8 (lenByte bs.length (7 - j)))
              rw [arr_set, tailB_step r bs.length E j hj8 (by rw [Hrl.out]; omega)] at hstep
              refine ⟨j + 1, by omega, by go_num, ?_, hS4.far (p := ⟨T, _, none⟩) (by show _ ≠ T; omega) _, hR4.far (p := ⟨T, _, none⟩) (by show _ ≠ T; omega) _, hbel4.setCell (p := ⟨T, _, none⟩) (by show _ ≤ T; omega) _⟩
              rw [lenByte_val _ _ hj8]
              exact hstep
            case measure => simp [intOf]; omega
          · have ej : j = 8 := by omega
            rw [ej] at hT4
            clear ej
            obtain ⟨TL, hTL⟩ : ∃ TL : List UInt8, TL = (List.range 128).map (tailB r bs.length E 8) := ⟨_, rfl⟩
            have hTLl : TL.length = 128 := by rw [hTL]; simp
            have hTLa : ∀ p, p < 128 → tailB r bs.length E 8 p = TL.getD p 0 := fun p hp => by rw [hTL]; simp [hp]
            have HTLl := Lib.hid hTLl
            have HTLa := Lib.hid hTLa
            clear hTL hTLl hTLa
            have hcT : ∀ p, p < 128 → Hid (∀ wx, Blk wx T 147 (arr 128 (tailB r bs.length E 8)) → wx.cell? ⟨T, p, none⟩ = some (.int .u8 (n8 (TL.getD p 0)))) := fun p hp wx hx => by
              rw [hx.cell, arr_at _ _ _ hp, HTLa.out p hp]
            go_wp2
            go_loopw [10] (fun i wr => ∃ m : Nat, m ≤ E / 64 ∧ i = .int .i64 ((64 * m : Nat) : Int) ∧ Blk wr T 147 (arr 128 (tailB r bs.length E 8)) ∧ Blk wr (w.heap.size + 1) 124 ((hashN K0 (hashN K0 H0 bs (bs.length / 64)) TL m).list.map v32).toArray ∧ Blk wr w.heap.size 38 (arr 32 fun _ => 0) ∧ Below w.heap.size w wr) (fun i _ => E - (intOf i).toNat)
            case atStart => exact ⟨0, by omega, rfl, hT4, hS4, hR4, hbel4⟩
            case round =>
              clear hT4 hS4 hR4 hbel4
              obtain ⟨m, hm, rfl, hT4, hS4, hR4, hbel4⟩ := hrel
              have hGr := hG.next hbel4
              have hSl := hS4.lt
              have hTl4 := hT4.lt
              by_cases hmE : m < E / 64
              · have hm64 : 64 * m + 64 ≤ E := by omega
                have hsl : ∀ wx, (Instr.sliceAt 147 (.pointer (some ⟨T, 0, none⟩)) (some (.int .i64 (64 * (m : Int)))) none none).run Tryd.prog wx = .ok (.slice (some ⟨T, 64 * m, none⟩) (128 - 64 * m) (128 - 64 * m)) wx := fun wx => by
                  rw [run_sliceAt_array_l (P := Tryd.prog) (w := wx) ⟨T, 0, none⟩ Tryd.underlying147 (by kernel_rfl) .i64 (64 * (m : Int)) (by omega) (by omega), show (64 * (m : Int)).toNat = 64 * m by omega]
                  unfold Addr.add
                  by_cases h0 : 64 * m = 0
                  · rw [if_pos h0, h0]
                  · rw [if_neg h0]; simp
                go_wp2_with fail
                refine (mix_any _ (hashN K0 (hashN K0 H0 bs (bs.length / 64)) TL m) K0 _ _ _ _ (TL.drop (64 * m)) _ hS4 ?h1 ?h2 ?h3 ?h4 ?h5 ?h6 ?h7 ?h8 ?h9 ?h10).mono ?_
                case h1 => rw [List.length_drop, HTLl.out]; omega
                case h2 => rw [List.length_drop, HTLl.out]; omega
                case h3 => omega
                case h4 => omega
                case h5 =>
                  intro q hq
                  rw [getD_drop]
                  have := (hcT (64 * m + q) (by omega)) _ hT4
                  simpa using this
                case h6 => omega
                case h7 => omega
                case h8 => exact hGr.words
                case h9 => omega
                case h10 => exact hGr.b1
                rintro e w' ⟨rfl, hS', hon⟩
                go_wp2
                go_roundw
                case rel => exact ⟨m + 1, by omega, by go_num, hT4.grown hon (by simp; omega), hS', hR4.grown hon (by simp), below_only hbel4 hon (by omega) hbel4.size⟩
                case measure => simp [intOf]; omega
              · have em : m = E / 64 := by omega
                rw [em] at hS4
                clear em
                have hge : E ≤ 64 * m := by have := HE3.out; omega
                go_wp2
                have hD := Blk.new wr 38 (arr 32 fun _ => 0)
                have hS5 := hS4.alloc (Obj.cells (arr 32 fun _ => 0) 38)
                have hR5 := hR4.alloc (Obj.cells (arr 32 fun _ => 0) 38)
                have hbel5 := hbel4.alloc hbel4.size (Obj.cells (arr 32 fun _ => 0) 38)
                change Code.wp _ _ _ _ (wr.alloc (Obj.cells (arr 32 fun _ => 0) 38))
                generalize wr.alloc (Obj.cells (arr 32 fun _ => 0) 38) = w5 at hD hS5 hR5 hbel5 ⊢
                obtain ⟨D, eD⟩ : ∃ D, D = wr.heap.size := ⟨_, rfl⟩
                rw [← eD] at hD hSl hTl4 ⊢
                have HeD := Lib.hid eD
                clear eD hT4 hS4 hR4 hbel4 hGr
                have hfinal : sha bs = outBytes (hashN K0 (hashN K0 H0 bs (bs.length / 64)) TL (E / 64)) := by
                  rw [← HEq.out]
                  exact (sumOf_tail K0 H0 bs TL fun p hp => by rw [← HTLa.out p (by have := HEq.out; omega), HEq.out, Hrr.out]).symm
                have Hfin := Lib.hid hfinal
                clear hfinal
                generalize hq : hashN K0 (hashN K0 H0 bs (bs.length / 64)) TL (E / 64) = q at hS5 Hfin
                have Hq := Lib.hid hq
                clear hq
                go_loopw [12, 62] (fun _ i wr => ∃ j : Nat, j ≤ 32 ∧ i = .int .i64 j ∧ Blk wr D 38 (arr 32 fun p => if p < j then outB q p else 0) ∧ Blk wr (w.heap.size + 1) 124 (q.list.map v32).toArray ∧ Blk wr w.heap.size 38 (arr 32 fun _ => 0) ∧ Below w.heap.size w wr) (fun _ i _ => 32 - (intOf i).toNat)
                case atStart => exact ⟨0, by omega, rfl, hD, hS5, hR5, hbel5⟩
                case round =>
                  clear hD hS5 hR5 hbel5
                  obtain ⟨l, hl, rfl, hD, hS5, hR5, hbel5⟩ := hrel
                  by_cases hl32 : l < 32
                  · have cS := hS5.cell (l / 4)
                    rw [list_at q (l / 4) (by omega)] at cS
                    have cD := hD.cell l
                    rw [arr_at _ _ _ hl32] at cD
                    have fD := hD.frozen l
                    have ei : ((l : Int) / 4).toNat = l / 4 := by omega
                    go_wp2
                    go_roundw
                    case rel =>
                      have hstep := hD.set l (v8 (outB q l))
                      rw [arr_set, arr_congr 32 _ (fun p => if p < l + 1 then outB q p else 0) (fun p _ => by
                        by_cases h1 : p = l
                        · rw [if_pos h1, if_pos (by omega), h1]
                        · rw [if_neg h1]
                          by_cases h2 : p < l
                          · rw [if_pos h2, if_pos (by omega)]
                          · rw [if_neg h2, if_neg (by omega)])] at hstep
                      refine ⟨l + 1, by omega, by go_num, ?_, hS5.far (p := ⟨D, _, none⟩) (by show _ ≠ D; omega) _, hR5.far (p := ⟨D, _, none⟩) (by show _ ≠ D; omega) _, hbel5.setCell (p := ⟨D, _, none⟩) (by show _ ≤ D; omega) _⟩
                      rw [show (q.list[l / 4]?.getD 0) = q.list.getD (l / 4) 0 from rfl, outB_val]
                      exact hstep
                    case measure => simp [intOf]; omega
                  · have el : l = 32 := by omega
                    rw [el] at hD
                    clear el
                    have hDf : arr 32 (fun p => if p < 32 then outB q p else 0) = arr 32 (outB q) := arr_congr 32 _ _ fun p hp => if_pos hp
                    rw [hDf] at hD
                    clear hDf
                    go_wp2_with (first
                      | (refine wpList_load_row rfl 38 (.tmp 11) rfl D rfl _ _ _ _ hD Tryd.underlying38 rfl (by kernel_rfl) ?_)
                      | (refine wpList_storeArr rfl rfl 38 (.tmp 2) (.tmp 78) rfl w.heap.size rfl 32 (outB q) _ rfl _ hR5 (by kernel_rfl) ?_; intro w6 hR6 hon6))
                    have hb6 := below_only hbel5 hon6 (Nat.le_refl _) hbel5.size
                    refine bodyPost_ret (results_cell_row (p := 2) (ty := 38) rfl _ _ w.heap.size _ _ _ _ rfl hR6 Tryd.underlying38 rfl (by kernel_rfl)) rfl ⟨?_, hb6⟩
                    rw [Hfin.out, outBytes_dat]
theorem sum_b (v : Value) (bs : List UInt8) (w : World) (h : BSl w w.heap.size v bs) (hlm : bs.length ≤ 1152921504606846976) (hG : Glob w) :
    Calls Tryd.prog 70 #[v] w fun e w' => e = .returned (.agg (dat (sha bs))) ∧ Below w.heap.size w w' := by
  obtain ⟨A, cap, rfl, h1, h2, h3⟩ := h
  exact sum_any A cap bs w h3 h1 h2 hlm hG
theorem sha_length (bs : List UInt8) : (sha bs).length = 32 := by simp [sha, sumOf, outBytes]
attribute [irreducible] sha
end Go.Proofs.YtcdkadidkkbhpaaDoor

/- The reference's arithmetic in plain Lean: limbs, their product, the roots. No condition. -/
namespace Go.Proofs.YtcdkadidkkbhpaaDoor
def limbsU (x : UInt64) : List UInt64 := [x &&& 65535, x >>> 16 &&& 65535, x >>> 32 &&& 65535, x >>> 48]
def tIn (i : Nat) (ai : UInt64) (b out : List UInt64) : Nat → List UInt64 × UInt64
  | 0 => (out, 0)
  | k + 1 => ((tIn i ai b out k).1.set (i + k) (((tIn i ai b out k).1.getD (i + k) 0 + ai * b.getD k 0 + (tIn i ai b out k).2) &&& 65535), ((tIn i ai b out k).1.getD (i + k) 0 + ai * b.getD k 0 + (tIn i ai b out k).2) >>> 16)
def tOut (a b : List UInt64) : Nat → List UInt64
  | 0 => List.replicate (a.length + b.length) 0
  | i + 1 => (tIn i (a.getD i 0) b (tOut a b i) b.length).1.set (i + b.length) ((tIn i (a.getD i 0) b (tOut a b i) b.length).1.getD (i + b.length) 0 + (tIn i (a.getD i 0) b (tOut a b i) b.length).2)
def val : List UInt64 → Nat
  | [] => 0
  | x :: l => x.toNat + 65536 * val l
def Small (l : List UInt64) : Prop := ∀ i, (l.getD i 0).toNat < 65536
theorem getD_set (l : List UInt64) (i j : Nat) (v : UInt64) (hi : i < l.length) : (l.set i v).getD j 0 = if j = i then v else l.getD j 0 := by
  rw [List.getD_eq_getElem?_getD, List.getD_eq_getElem?_getD, List.getElem?_set]
  by_cases h : i = j
  · subst h; simp [hi]
  · rw [if_neg h, if_neg (fun e => h e.symm)]
theorem Small.set {l : List UInt64} (h : Small l) (i : Nat) (v : UInt64) (hi : i < l.length) (hv : v.toNat < 65536) : Small (l.set i v) := fun j => by
  rw [getD_set l i j v hi]; split
  · exact hv
  · exact h j
theorem pow_step (n i : Nat) : n * 65536 ^ (i + 1) = 65536 * (n * 65536 ^ i) := by rw [Nat.pow_succ, ← Nat.mul_assoc, Nat.mul_comm]
theorem val_set : ∀ (l : List UInt64) (i : Nat) (v : UInt64), i < l.length → val (l.set i v) + (l.getD i 0).toNat * 65536 ^ i = val l + v.toNat * 65536 ^ i
  | [], i, _, h => absurd h (Nat.not_lt_zero _)
  | x :: l, 0, v, _ => by simp [val]; omega
  | x :: l, i + 1, v, h => by
    have ih := val_set l i v (by simpa using h)
    simp only [List.set_cons_succ, val, List.getD_cons_succ]
    rw [pow_step, pow_step]; omega
theorem val_take_succ : ∀ (l : List UInt64) (k : Nat), k < l.length → val (l.take (k + 1)) = val (l.take k) + (l.getD k 0).toNat * 65536 ^ k
  | [], k, h => absurd h (Nat.not_lt_zero _)
  | x :: l, 0, _ => by simp [val]
  | x :: l, k + 1, h => by
    have ih := val_take_succ l k (by simpa using h)
    rw [List.take_succ_cons, List.take_succ_cons, val, val, ih, List.getD_cons_succ, pow_step]; omega
theorem val_replicate : ∀ n, val (List.replicate n 0) = 0
  | 0 => rfl
  | n + 1 => by rw [List.replicate_succ]; simp [val, val_replicate n]
theorem getD_zeros (n j : Nat) : (List.replicate n (0 : UInt64)).getD j 0 = 0 := by
  rw [List.getD_eq_getElem?_getD, List.getElem?_replicate]; split <;> rfl
theorem small_replicate (n : Nat) : Small (List.replicate n 0) := fun i => by rw [getD_zeros]; decide
theorem step_val (s a b c : UInt64) (hs : s.toNat < 65536) (ha : a.toNat < 65536) (hb : b.toNat < 65536) (hc : c.toNat < 65536) :
    ((s + a * b + c) &&& 65535).toNat = (s.toNat + a.toNat * b.toNat + c.toNat) % 65536 ∧ ((s + a * b + c) >>> 16).toNat = (s.toNat + a.toNat * b.toNat + c.toNat) / 65536 ∧ s.toNat + a.toNat * b.toNat + c.toNat < 65536 * 65536 := by
  have hab : a.toNat * b.toNat ≤ 65535 * 65535 := Nat.mul_le_mul (by omega) (by omega)
  have e : (s + a * b + c).toNat = s.toNat + a.toNat * b.toNat + c.toNat := by
    rw [UInt64.toNat_add, UInt64.toNat_add, UInt64.toNat_mul]; omega
  refine ⟨?_, ?_, by omega⟩
  · rw [UInt64.toNat_and, e]; exact Nat.and_two_pow_sub_one_eq_mod _ 16
  · rw [UInt64.toNat_shiftRight, e]; exact Nat.shiftRight_eq_div_pow _ 16
theorem tIn_ok (i : Nat) (ai : UInt64) (b out : List UInt64) (hai : ai.toNat < 65536) (hb : Small b) (ho : Small out) (hl : i + b.length ≤ out.length) : ∀ k, k ≤ b.length →
    (tIn i ai b out k).1.length = out.length ∧ Small (tIn i ai b out k).1 ∧ (tIn i ai b out k).2.toNat < 65536 ∧
    val (tIn i ai b out k).1 + (tIn i ai b out k).2.toNat * 65536 ^ (i + k) = val out + ai.toNat * val (b.take k) * 65536 ^ i ∧ ∀ j, i + k ≤ j → (tIn i ai b out k).1.getD j 0 = out.getD j 0
  | 0, _ => ⟨rfl, ho, (by decide : (0 : UInt64).toNat < 65536), by simp [tIn, val], fun _ _ => rfl⟩
  | k + 1, hk => by
    obtain ⟨h1, h2, h3, h4, h5⟩ := tIn_ok i ai b out hai hb ho hl k (by omega)
    rw [tIn]
    generalize tIn i ai b out k = s at *
    obtain ⟨e1, e2, e3⟩ := step_val _ ai _ _ (h2 (i + k)) hai (hb k) h3
    have hik : i + k < s.1.length := by omega
    have hv := val_set s.1 (i + k) ((s.1.getD (i + k) 0 + ai * b.getD k 0 + s.2) &&& 65535) hik
    refine ⟨by rw [List.length_set]; exact h1, h2.set _ _ hik (by rw [e1]; exact Nat.mod_lt _ (by decide)), by rw [e2]; omega, ?_, fun j hj => ?_⟩
    · rw [e1] at hv
      rw [e2, val_take_succ b k (by omega)]
      have hp : 65536 ^ (i + (k + 1)) = 65536 * 65536 ^ (i + k) := by rw [← Nat.add_assoc, Nat.pow_succ, Nat.mul_comm]
      have hq : ai.toNat * (val (b.take k) + (b.getD k 0).toNat * 65536 ^ k) * 65536 ^ i = ai.toNat * val (b.take k) * 65536 ^ i + ai.toNat * (b.getD k 0).toNat * 65536 ^ (i + k) := by
        rw [Nat.mul_add, Nat.add_mul, Nat.pow_add, ← Nat.mul_assoc, Nat.mul_assoc _ (65536 ^ k) (65536 ^ i), Nat.mul_comm (65536 ^ k)]
      rw [hp, hq]
      generalize 65536 ^ (i + k) = P at *
      generalize ai.toNat * (b.getD k 0).toNat = ab at *
      generalize hx : (s.1.getD (i + k) 0).toNat + ab + s.2.toNat = x at *
      have hm : x % 65536 * P + x / 65536 * (65536 * P) = x * P := by
        rw [← Nat.mul_assoc, ← Nat.add_mul]; congr 1; omega
      have hs : x * P = (s.1.getD (i + k) 0).toNat * P + ab * P + s.2.toNat * P := by rw [← hx, Nat.add_mul, Nat.add_mul]
      generalize x % 65536 * P = t1 at *
      generalize x / 65536 * (65536 * P) = t2 at *
      show val (s.1.set (i + k) ((s.1.getD (i + k) 0 + ai * b.getD k 0 + s.2) &&& 65535)) + t2 = _
      omega
    · rw [getD_set _ _ _ _ hik, if_neg (by omega)]; exact h5 j (by omega)
theorem tIn_succ (i : Nat) (ai : UInt64) (b out : List UInt64) (k : Nat) : tIn i ai b out (k + 1) = ((tIn i ai b out k).1.set (i + k) (((tIn i ai b out k).1.getD (i + k) 0 + ai * b.getD k 0 + (tIn i ai b out k).2) &&& 65535), ((tIn i ai b out k).1.getD (i + k) 0 + ai * b.getD k 0 + (tIn i ai b out k).2) >>> 16) := rfl
theorem tOut_succ (a b : List UInt64) (i : Nat) : tOut a b (i + 1) = (tIn i (a.getD i 0) b (tOut a b i) b.length).1.set (i + b.length) ((tIn i (a.getD i 0) b (tOut a b i) b.length).1.getD (i + b.length) 0 + (tIn i (a.getD i 0) b (tOut a b i) b.length).2) := rfl
theorem tIn_length (i : Nat) (ai : UInt64) (b out : List UInt64) : ∀ k, (tIn i ai b out k).1.length = out.length
  | 0 => rfl
  | k + 1 => by rw [tIn, List.length_set]; exact tIn_length i ai b out k
theorem tOut_length (a b : List UInt64) : ∀ i, (tOut a b i).length = a.length + b.length
  | 0 => by simp [tOut]
  | i + 1 => by rw [tOut, List.length_set, tIn_length]; exact tOut_length a b i
theorem tOut_ok (a b : List UInt64) (ha : Small a) (hb : Small b) : ∀ i, i ≤ a.length →
    (tOut a b i).length = a.length + b.length ∧ Small (tOut a b i) ∧ (∀ j, i + b.length ≤ j → (tOut a b i).getD j 0 = 0) ∧ val (tOut a b i) = val (a.take i) * val b
  | 0, _ => ⟨by simp [tOut], small_replicate _, fun j _ => getD_zeros _ _, by simp [tOut, val_replicate, val]⟩
  | i + 1, hi => by
    obtain ⟨h1, h2, h3, h4⟩ := tOut_ok a b ha hb i (by omega)
    obtain ⟨g1, g2, g3, g4, g5⟩ := tIn_ok i (a.getD i 0) b (tOut a b i) (ha i) hb h2 (by omega) b.length (Nat.le_refl _)
    rw [tOut]
    generalize tIn i (a.getD i 0) b (tOut a b i) b.length = s at *
    have hik : i + b.length < s.1.length := by omega
    have hz : s.1.getD (i + b.length) 0 = 0 := (g5 _ (Nat.le_refl _)).trans (h3 _ (Nat.le_refl _))
    have hv := val_set s.1 (i + b.length) (s.1.getD (i + b.length) 0 + s.2) hik
    rw [hz, UInt64.zero_add] at hv ⊢
    refine ⟨by rw [List.length_set]; omega, g2.set _ _ hik g3, fun j hj => ?_, ?_⟩
    · rw [getD_set _ _ _ _ hik, if_neg (by omega), g5 _ (by omega)]; exact h3 j (by omega)
    · rw [val_take_succ a i (by omega), Nat.add_mul, ← h4]
      rw [List.take_length] at g4
      have e : (a.getD i 0).toNat * 65536 ^ i * val b = (a.getD i 0).toNat * val b * 65536 ^ i := by rw [Nat.mul_assoc, Nat.mul_comm (65536 ^ i), ← Nat.mul_assoc]
      rw [e]
      have h0 : (0 : UInt64).toNat = 0 := rfl
      rw [h0, Nat.zero_mul] at hv
      omega
def timesU (a b : List UInt64) : List UInt64 := tOut a b a.length
theorem timesU_ok (a b : List UInt64) (ha : Small a) (hb : Small b) : (timesU a b).length = a.length + b.length ∧ Small (timesU a b) ∧ val (timesU a b) = val a * val b := by
  obtain ⟨h1, h2, _, h4⟩ := tOut_ok a b ha hb a.length (Nat.le_refl _)
  rw [List.take_length] at h4
  exact ⟨h1, h2, h4⟩
theorem and_mod (x : UInt64) : (x &&& 65535).toNat = x.toNat % 65536 := by rw [UInt64.toNat_and]; exact Nat.and_two_pow_sub_one_eq_mod _ 16
theorem shr_div16 (x : UInt64) : (x >>> 16).toNat = x.toNat / 65536 := by rw [UInt64.toNat_shiftRight]; exact Nat.shiftRight_eq_div_pow _ 16
theorem shr_div32 (x : UInt64) : (x >>> 32).toNat = x.toNat / 4294967296 := by rw [UInt64.toNat_shiftRight]; exact Nat.shiftRight_eq_div_pow _ 32
theorem shr_div48 (x : UInt64) : (x >>> 48).toNat = x.toNat / 281474976710656 := by rw [UInt64.toNat_shiftRight]; exact Nat.shiftRight_eq_div_pow _ 48
theorem small_cons {x : UInt64} {l : List UInt64} (hx : x.toNat < 65536) (h : Small l) : Small (x :: l)
  | 0 => by simpa using hx
  | i + 1 => by simpa using h i
theorem small_nil : Small [] := fun i => by simp
theorem limbsU_small (x : UInt64) : Small (limbsU x) :=
  small_cons (by rw [and_mod]; omega) (small_cons (by rw [and_mod]; omega) (small_cons (by rw [and_mod]; omega) (small_cons (by rw [shr_div48]; have := x.toNat_lt; omega) small_nil)))
theorem limbsU_val (x : UInt64) : val (limbsU x) = x.toNat := by
  have := x.toNat_lt
  simp only [limbsU, val, and_mod, shr_div16, shr_div32, shr_div48]; omega
/-- the comparison from the top -/
def cmpU (b w : List UInt64) : Nat → Bool
  | 0 => true
  | i + 1 => if b.getD i 0 = w.getD i 0 then cmpU b w i else decide (b.getD i 0 < w.getD i 0)
theorem val_take_lt (l : List UInt64) (h : Small l) : ∀ k, k ≤ l.length → val (l.take k) < 65536 ^ k
  | 0, _ => by simp [val]
  | k + 1, hk => by
    have ih := val_take_lt l h k (by omega)
    have hk2 := h k
    rw [val_take_succ l k (by omega), Nat.pow_succ]
    have : ((l.getD k 0).toNat + 1) * 65536 ^ k ≤ 65536 * 65536 ^ k := Nat.mul_le_mul_right _ (by omega)
    rw [Nat.add_mul] at this; omega
theorem cmpU_ok (b w : List UInt64) (hb : Small b) (hw : Small w) : ∀ i, i ≤ b.length → i ≤ w.length → cmpU b w i = decide (val (b.take i) ≤ val (w.take i))
  | 0, _, _ => by simp [cmpU, val]
  | i + 1, h1, h2 => by
    have ih := cmpU_ok b w hb hw i (by omega) (by omega)
    have l1 := val_take_lt b hb i (by omega)
    have l2 := val_take_lt w hw i (by omega)
    rw [cmpU, val_take_succ b i (by omega), val_take_succ w i (by omega)]
    split
    · rename_i h
      rw [ih, h]; simp
    · rename_i h
      have hne : (b.getD i 0).toNat ≠ (w.getD i 0).toNat := fun e => h (UInt64.toNat_inj.1 e)
      apply decide_eq_decide.2
      rw [UInt64.lt_iff_toNat_lt]
      generalize 65536 ^ i = P at *
      constructor
      · intro hlt
        have : ((b.getD i 0).toNat + 1) * P ≤ (w.getD i 0).toNat * P := Nat.mul_le_mul_right _ hlt
        rw [Nat.add_mul] at this; omega
      · intro hle
        apply Classical.byContradiction
        intro hn
        have : ((w.getD i 0).toNat + 1) * P ≤ (b.getD i 0).toNat * P := Nat.mul_le_mul_right _ (by omega)
        rw [Nat.add_mul] at this; omega
/-- what the walk of 'below' compares with -/
def wantU (n m : Nat) (p : UInt64) : List UInt64 := ((List.replicate m 0).set n (p &&& 65535)).set (n + 1) (p >>> 16)
theorem wantU_ok (n m : Nat) (p : UInt64) (hn : n + 1 < m) (hp : p.toNat < 4294967296) : (wantU n m p).length = m ∧ Small (wantU n m p) ∧ val (wantU n m p) = p.toNat * 65536 ^ n := by
  have l1 : n < (List.replicate m (0 : UInt64)).length := by simp; omega
  have s1 : Small ((List.replicate m 0).set n (p &&& 65535)) := (small_replicate m).set n _ l1 (by rw [and_mod]; omega)
  have l2 : n + 1 < ((List.replicate m (0 : UInt64)).set n (p &&& 65535)).length := by simpa using hn
  have v1 := val_set (List.replicate m 0) n (p &&& 65535) l1
  have v2 := val_set ((List.replicate m 0).set n (p &&& 65535)) (n + 1) (p >>> 16) l2
  rw [getD_set _ _ _ _ l1, if_neg (by omega), getD_zeros] at v2
  rw [getD_zeros, val_replicate, and_mod] at v1
  refine ⟨by simp [wantU], s1.set _ _ l2 (by rw [shr_div16]; omega), ?_⟩
  unfold wantU
  have hz : (0 : UInt64).toNat = 0 := rfl
  rw [shr_div16, hz, Nat.zero_mul, Nat.add_zero, pow_step] at v2
  rw [hz, Nat.zero_mul, Nat.add_zero, Nat.zero_add] at v1
  rw [v2, v1, ← Nat.mul_assoc, ← Nat.add_mul]
  congr 1; omega
def belowU (x p : UInt64) (cube : Bool) : Bool := decide (x.toNat ^ (if cube then 3 else 2) ≤ p.toNat * 65536 ^ (if cube then 6 else 4))
theorem below_sq (x p : UInt64) (hp : p.toNat < 4294967296) : cmpU (timesU (limbsU x) (limbsU x)) (wantU 4 8 p) 8 = belowU x p false := by
  obtain ⟨h1, h2, h3⟩ := timesU_ok _ _ (limbsU_small x) (limbsU_small x)
  obtain ⟨g1, g2, g3⟩ := wantU_ok 4 8 p (by decide) hp
  have e1 : (timesU (limbsU x) (limbsU x)).length = 8 := h1
  rw [cmpU_ok _ _ h2 g2 8 (by omega) (by omega), List.take_of_length_le (by omega), List.take_of_length_le (by omega), h3, g3, limbsU_val]
  simp [belowU, Nat.pow_succ]
theorem below_cb (x p : UInt64) (hp : p.toNat < 4294967296) : cmpU (timesU (timesU (limbsU x) (limbsU x)) (limbsU x)) (wantU 6 12 p) 12 = belowU x p true := by
  obtain ⟨h1, h2, h3⟩ := timesU_ok _ _ (limbsU_small x) (limbsU_small x)
  obtain ⟨k1, k2, k3⟩ := timesU_ok _ _ h2 (limbsU_small x)
  obtain ⟨g1, g2, g3⟩ := wantU_ok 6 12 p (by decide) hp
  have e1 : (timesU (timesU (limbsU x) (limbsU x)) (limbsU x)).length = 12 := by rw [k1, h1]; rfl
  rw [cmpU_ok _ _ k2 g2 12 (by omega) (by omega), List.take_of_length_le (by omega), List.take_of_length_le (by omega), k3, h3, g3, limbsU_val]
  simp [belowU, Nat.pow_succ]
/-- r is the root -/
def IsRoot (p : UInt64) (cube : Bool) (r : Nat) : Prop := r ^ (if cube then 3 else 2) ≤ p.toNat * 65536 ^ (if cube then 6 else 4) ∧ p.toNat * 65536 ^ (if cube then 6 else 4) < (r + 1) ^ (if cube then 3 else 2)
instance (p : UInt64) (c : Bool) (r : Nat) : Decidable (IsRoot p c r) := by unfold IsRoot; infer_instance
theorem IsRoot.unique {p : UInt64} {c : Bool} {r s : Nat} (h : IsRoot p c r) (g : IsRoot p c s) : r = s := by
  have hx : ∀ a b : Nat, a ^ (if c then 3 else 2) < (b + 1) ^ (if c then 3 else 2) → a ≤ b := fun a b hab => by
    apply Classical.byContradiction
    intro hn
    exact absurd (Nat.pow_le_pow_left (show b + 1 ≤ a by omega) (if c then 3 else 2)) (by omega)
  have h1 := hx r s (Nat.lt_of_le_of_lt h.1 g.2)
  have h2 := hx s r (Nat.lt_of_le_of_lt g.1 h.2)
  omega
def primeL : List UInt64 := [2, 3, 5, 7, 11, 13, 17, 19, 23, 29, 31, 37, 41, 43, 47, 53, 59, 61, 67, 71, 73, 79, 83, 89, 97, 101, 103, 107, 109, 113, 127, 131, 137, 139, 149, 151, 157, 163, 167, 173, 179, 181, 191, 193, 197, 199, 211, 223, 227, 229, 233, 239, 241, 251, 257, 263, 269, 271, 277, 281, 283, 293, 307, 311]
def cubeL : List Nat := [5411319704, 6194414737, 7344290767, 8215976869, 9551921755, 10098905585, 11043570340, 11460697813, 12214315672, 13195500289, 13492127166, 14311783875, 14809980276, 15046980094, 15499789991, 16133124468, 16720292289, 16907126662, 17444216262, 17784676812, 17950125167, 18429019306, 18734950876, 19175934170, 19734090066, 20001703533, 20132865992, 20390182855, 20516441075, 20764397895, 21588763473, 21813078375, 22141143685, 22248366392, 22769593852, 22871018771, 23170020180, 23461497531, 23651862830, 23931792517, 24205322401, 24295138891, 24734567280, 24820601251, 24990902297, 25075189284, 25569408389, 26045227120, 26200031510, 26276752392, 26428864332, 26653801653, 26727943347, 27092625994, 27306805839, 27517677555, 27725365998, 27793908591, 27997534228, 28131656200, 28198240250, 28526537963, 28973835255, 29099129074]
def squareL : List Nat := [6074000999, 7439101573, 9603838834, 11363415354, 14244795007, 15485724812, 17708603819, 18721328409]
theorem cubeL_ok : ∀ i, i < 64 → IsRoot (primeL.getD i 0) true (cubeL.getD i 0) := by decide +kernel
theorem squareL_ok : ∀ i, i < 8 → IsRoot (primeL.getD i 0) false (squareL.getD i 0) := by decide +kernel
theorem cubeL_K : ∀ i, i < 64 → UInt32.ofNat (cubeL.getD i 0) = K0.getD i 0 := by decide +kernel
theorem squareL_H : ∀ i, i < 8 → UInt32.ofNat (squareL.getD i 0) = H0.list.getD i 0 := by decide +kernel
end Go.Proofs.YtcdkadidkkbhpaaDoor

/- append(s, make([]T, n)...) as a law of the walk, onto a row of the call's own. No condition. -/
namespace Go.Proofs.YtcdkadidkkbhpaaDoor
open Go Go.RowKit
section
variable {P : Program}
theorem zeroCells_one (z : Value) (hz : z.cells = #[z]) (m : Nat) : Builtin.zeroCells z.cells m = (List.replicate m z).toArray := by
  rw [hz]
  apply Array.ext
  · simp [Builtin.zeroCells]
  · intro i h1 h2
    simp [Builtin.zeroCells, Nat.mod_one]
theorem run_append_zeros (w : World) (base : Nat) (t ty e it : TypeId) (i : TypeInfo) (z : Value) (bytes : Nat) (k kk : IntKind) (ht : P.underlying t = some (.slice e)) (hit : P.underlying it = some (.int k)) (hi : P.info? e = some i) (hz : i.zero = some z)
    (hsize : i.size = 1) (hby : i.bytes = bytes) (hzs : z.cells = #[z]) (h1z : z.oneCell' = true)
    (v : Value) (xs : List Value) (hown : w.ownsRow base e 1 v xs.length xs) (m : Nat)
    (h63 : xs.length + m ≤ maxLen) (hbytes : (xs.length + m) * bytes ≤ 140737488355328) (hbase : base ≤ w.heap.size) (hpos : 0 < bytes) :
    ∃ v' w', (Builtin.append_ #[t, it] ty #[v, .int kk (m : Int)]).run P w = .ok v' w' ∧ w'.ownsRow base e 1 v' (xs ++ List.replicate m z).length (xs ++ List.replicate m z) ∧ w.grownBy w' v.ownBlock ∧ (v'.ownBlock = v.ownBlock ∨ v'.ownBlock = some w.heap.size) := by
  subst hby
  have hsmall : xs.length + m ≤ 9223372036854775807 := by simp only [maxLen] at h63; omega
  have hwrap : IntKind.i64.wrap (m : Int) = (m : Int) := IntWalk.i64_in _ (by omega)
  have hm0 : ¬ ((m : Int) < 0) := by omega
  have hmb : ¬ ((m : Int) * (i.bytes : Int) > 2 ^ 48) := by
    have h1 : m * i.bytes ≤ (xs.length + m) * i.bytes := Nat.mul_le_mul_right _ (by omega)
    have h2 : m * i.bytes ≤ 281474976710656 := by omega
    have h3 : ((m * i.bytes : Nat) : Int) ≤ 281474976710656 := by omega
    rw [Int.natCast_mul] at h3
    omega
  have hmb' : ¬ (281474976710656 < (m : Int) * (i.bytes : Int)) := by simpa using hmb
  have hzc := zeroCells_one z hzs
  have hlen : (xs ++ List.replicate m z).length = xs.length + m := by simp
  have hfits : ∀ old, old < xs.length + m → Builtin.nextslicecap (xs.length + m) old * i.bytes ≤ 281474976710656 := fun old ho => growslice_fits ho hbytes
  have grown : ∀ (old : Nat), old < xs.length + m → ∀ (row : Option Nat),
      (w.drew.alloc (.cells (xs.toArray ++ (List.replicate m z).toArray ++ Builtin.zeroCells z.cells (grownCap w (xs.length + m) old e - (xs.length + m))) e)).ownsRow base e 1
        (.slice (some ⟨w.heap.size, 0, none⟩) (xs.length + m) (grownCap w (xs.length + m) old e)) (xs.length + m) (xs ++ List.replicate m z) ∧
      w.grownBy (w.drew.alloc (.cells (xs.toArray ++ (List.replicate m z).toArray ++ Builtin.zeroCells z.cells (grownCap w (xs.length + m) old e - (xs.length + m))) e)) row := by
    intro old ho row
    have hge := grownCap_ge w (xs.length + m) old e
    have hcm : grownCap w (xs.length + m) old e ≤ maxLen := grownCap_le_maxLen w (xs.length + m) old e h63
    refine ⟨⟨by rw [hlen, Nat.mul_one], .inr ⟨w.heap.size, _, _, rfl, hbase, heap_alloc_new w.drew _, hge, hcm, ?_, ?_⟩⟩, ⟨rfl, rfl, rfl, by simp, fun k hk _ => Below.heap_alloc w.drew _ k hk⟩⟩
    · rw [hzc]; simp; omega
    · rw [hzc]
      simp only [Array.toList_append, List.append_assoc]
      rw [← List.append_assoc, Nat.mul_one, ← hlen]
      exact List.take_left
  rcases hown.2 with ⟨rfl, hx0⟩ | ⟨g, cap, cur, rfl, hbg, hg, hnc, hcm, hcs, htake⟩
  · have hx : xs = [] := List.eq_nil_of_length_eq_zero hx0
    subst hx
    by_cases hm : m = 0
    · subst hm
      refine ⟨.slice none 0 0, w, ?_, World.ownsRow_nil w base e 1, World.grownBy.refl w _, Or.inl rfl⟩
      have hw0 : IntKind.i64.wrap 0 = 0 := by decide
      simp [Builtin.append_, asInt, asIntOf, run_underlying ht, run_underlying hit, sizeOf, typeInfo, hi, hw0]
    · have hgr := grown 0 (by simp; omega) (Value.ownBlock (.slice none 0 0))
      have hf := hfits 0 (by simp; omega)
      simp only [List.length_nil, Nat.zero_add, List.nil_append, Array.empty_append] at hgr hf ⊢
      refine ⟨_, _, ?_, by rw [List.length_replicate]; exact hgr.1, hgr.2, Or.inr rfl⟩
      have hf' : ¬ (281474976710656 < Builtin.nextslicecap m 0 * i.bytes) := by omega
      have h9 : ¬ (9223372036854775807 < (m : Int)) := by simp at hsmall; omega
      have hd := hzc m
      simp [Builtin.append_, asInt, asIntOf, run_underlying ht, run_underlying hit, sizeOf, typeInfo, zeroValue, hi, hz, hsize, hwrap, hm0, hmb', hm, h9, hf', Question.forced, run_firstCells_none, newRow, grownCap, hd]
  · by_cases hroom : xs.length + m ≤ cap
    · have hcell : ∀ (n : Nat) (xs0 : List Value), True := fun _ _ => trivial
      have hcur : cur.size = cap := by omega
      have hst := run_storeCells_at P g xs.length e (List.replicate m z) 0 cur w hg (by rw [List.length_replicate]; omega) (fun v hv => by rw [List.eq_of_mem_replicate hv]; exact h1z)
      have hadd : (⟨g, 0, none⟩ : Addr).add xs.length = ⟨g, xs.length, none⟩ := by
        unfold Addr.add; split
        · rename_i h0; rw [h0]
        · simp
      refine ⟨.slice (some ⟨g, 0, none⟩) (xs.length + m) cap, w.setRow g (cur.toList.take (xs.length + 0) ++ List.replicate m z ++ cur.toList.drop (xs.length + 0 + (List.replicate m z).length)).toArray, ?_, ⟨by rw [Nat.mul_one], .inr ⟨g, cap, _, by rw [hlen], hbg, setRow_heap w g cur _ e _ hg, by rw [hlen]; exact hroom, hcm, ?_, ?_⟩⟩, only_setRow w g _, Or.inl rfl⟩
      · by_cases hm : m = 0
        · subst hm
          have hw0 : IntKind.i64.wrap 0 = 0 := by decide
          have hroom0 : xs.length ≤ cap := by omega
          simp [Builtin.append_, asInt, asIntOf, run_underlying ht, run_underlying hit, sizeOf, typeInfo, hi, hw0, hroom0, storeCells]
          rw [setRow_self w g cur e (0, 0) hg]
        · have hd := hzc m
          rw [← hadd] at hst
          simp [Builtin.append_, asInt, asIntOf, run_underlying ht, run_underlying hit, sizeOf, typeInfo, zeroValue, hi, hz, hsize, hwrap, hm0, hmb', hm, hroom, hd, hst]
      · simp; omega
      · have ht1 : cur.toList.take xs.length = xs := by rw [Nat.mul_one] at htake; exact htake
        rw [Nat.add_zero, ht1, Nat.mul_one]
        exact List.take_left
    · have holds : ∀ j u, xs[j]? = some u → w.cell? ((⟨g, 0, none⟩ : Addr).add j) = some u := hown.cells (g := g) rfl
      have hgr := grown cap (by omega) (Value.ownBlock (.slice (some ⟨g, 0, none⟩) xs.length cap))
      have hf' : ¬ (281474976710656 < Builtin.nextslicecap (xs.length + m) cap * i.bytes) := by have := hfits cap (by omega); omega
      have h9 : ¬ (9223372036854775807 < ((xs.length : Int) + (m : Int))) := by omega
      have hfo := run_firstCells_some (P := P) w.drew i.size xs.length ⟨g, 0, none⟩ xs.length cap xs (by rw [hsize, Nat.mul_one]) (by simpa using holds)
      have hm : m ≠ 0 := by omega
      have hd := hzc m
      refine ⟨_, _, ?_, by rw [hlen]; exact hgr.1, hgr.2, Or.inr rfl⟩
      rw [hsize] at hfo
      simp [Builtin.append_, asInt, asIntOf, run_underlying ht, run_underlying hit, sizeOf, typeInfo, zeroValue, hi, hz, hsize, hwrap, hm0, hmb', hm, hroom, h9, hf', Question.forced, newRow, grownCap, hd, hfo]
theorem wpList_appendZ {w : World} {ops : Array Oper} {rest : List Oper} {o : Oper} {a : Act} {Q : Exit → Act → World → Prop} (hgd : o.guard = none) (s x : Operand) (t it : TypeId)
    (ho : o.op = .call { callee := .builtin .append, args := #[s, x], argTypes := #[t, it] })
    (base : Nat) (e : TypeId) (i : TypeInfo) (z : Value) (bytes : Nat) (k kk : IntKind) (ht : P.underlying t = some (.slice e)) (hit : P.underlying it = some (.int k)) (hi : P.info? e = some i) (hz : i.zero = some z)
    (hsize : i.size = 1) (hby : i.bytes = bytes) (hzs : z.cells = #[z]) (h1z : z.oneCell' = true)
    (v : Value) (xs : List Value) (hs : a.eval s = v) (hown : w.ownsRow base e 1 v xs.length xs) (m : Nat) (hx : a.eval x = .int kk (m : Int))
    (h63 : xs.length + m ≤ maxLen) (hbytes : (xs.length + m) * bytes ≤ 140737488355328) (hbase : base ≤ w.heap.size) (hpos : 0 < bytes)
    (h : ∀ v' w', w'.ownsRow base e 1 v' (xs ++ List.replicate m z).length (xs ++ List.replicate m z) → w.grownBy w' v.ownBlock → (v'.ownBlock = v.ownBlock ∨ v'.ownBlock = some w.heap.size) → wpList P ops Q rest (a.put o.dst v') w') : wpList P ops Q (o :: rest) a w := by
  refine wpList_plain hgd fun K hK => ?_
  obtain ⟨v', w', hrun, h2, h3, h4⟩ := run_append_zeros (P := P) w base t o.type e it i z bytes k kk ht hit hi hz hsize hby hzs h1z v xs hown m h63 hbytes hbase hpos
  unfold Oper.wp execOp
  simp only [ho, resolve, invoke, builtin, Sem.run_bind, Sem.run_pure, Result.andThen_ok, List.map_toArray, List.map_cons, List.map_nil, hs, hx, hrun]
  exact hK _ _ (h v' w' h2 h3 h4)
end
end Go.Proofs.YtcdkadidkkbhpaaDoor

/- make([]T, n) as an exact law of the walk; slices of uint64. No condition. -/
namespace Go.Proofs.YtcdkadidkkbhpaaDoor
open Go Go.RowKit
theorem madeCells_one (z : Value) (hz : z.cells = #[z]) (n : Nat) : madeCells z.cells n = (List.replicate n z).toArray := by
  rw [hz]
  apply Array.ext
  · simp [madeCells]
  · intro i h1 h2
    simp [madeCells, Nat.mod_one]
theorem wpList_makeB {P : Program} {w : World} {ops : Array Oper} {rest : List Oper} {o : Oper} {a : Act} {Q : Exit → Act → World → Prop} (hgd : o.guard = none) (l c : Operand) (t : TypeId) (ho : o.op = Op.makeSlice t l c)
    (e : TypeId) (i : TypeInfo) (z : Value) (ht : P.underlying t = some (.slice e)) (hi : P.info? e = some i) (hz : i.zero = some z) (hs : i.size = 1) (hzc : z.cells = #[z])
    (kl kc : IntKind) (n : Nat) (hl : a.eval l = .int kl (n : Int)) (hc : a.eval c = .int kc (n : Int)) (hbytes : i.bytes * n ≤ 281474976710656) (h63 : n ≤ 9223372036854775807)
    (h : wpList P ops Q rest (a.put o.dst (.slice (some ⟨w.heap.size, 0, none⟩) n n)) (w.alloc (.cells (List.replicate n z).toArray e))) : wpList P ops Q (o :: rest) a w := by
  refine wpList_plain hgd fun K hK => ?_
  have hb : (i.bytes : Int) * (n : Int) ≤ 281474976710656 := by
    have h : ((i.bytes * n : Nat) : Int) ≤ 281474976710656 := by omega
    rwa [Int.natCast_mul] at h
  have hr := run_make (P := P) w t e i z ht hi hz kl kc n n (by omega) (by omega) hb (by omega)
  rw [Int.toNat_natCast, hs, Nat.mul_one, madeCells_one z hzc] at hr
  unfold Oper.wp
  simp [execOp, ho, hl, hc, hr, Result.andThen]
  exact hK _ _ h
theorem wpList_store1 {P : Program} {w : World} {ops : Array Oper} {rest : List Oper} {o : Oper} {a : Act} {Q : Exit → Act → World → Prop} (hgd : o.guard = none) (hdst : o.dst = none) (ty : TypeId) (x y : Operand) (ho : o.op = .store ty x y) (g off : Nat) (hx : a.eval x = .pointer (some ⟨g, off, none⟩)) (v : Value) (hy : a.eval y = v)
    (t : TypeId) (cs : Array Value) (hg : Blk w g t cs) (hi : (P.info? ty).map (·.size) = some 1) (hfit : off < cs.size) (hv : v.cells = #[v]) (h1 : v.oneCell' = true)
    (h : ∀ w', Blk w' g t (cs.setIfInBounds off v) → w.grownBy w' (some g) → wpList P ops Q rest a w') : wpList P ops Q (o :: rest) a w := by
  refine wpList_plain hgd fun K hK => ?_
  have hst := run_storeCells_at P g off t [v] 0 cs w hg (by simp; omega) (by simpa using h1)
  have hwhole : (cs.toList.take (off + 0) ++ [v] ++ cs.toList.drop (off + 0 + [v].length)).toArray = cs.setIfInBounds off v := by
    apply Array.toList_inj.1
    rw [Array.toList_setIfInBounds, List.set_eq_take_append_cons_drop, if_pos (by simpa using hfit)]
    simp
  rw [hwhole] at hst
  have := h (w.setRow g (cs.setIfInBounds off v)) (setRow_heap w g cs _ t _ hg) (only_setRow w g _)
  unfold Oper.wp execOp
  obtain ⟨i, hi1, hi2⟩ : ∃ i, P.info? ty = some i ∧ i.size = 1 := by
    cases hq : P.info? ty with
    | none => rw [hq] at hi; cases hi
    | some i => rw [hq] at hi; exact ⟨i, rfl, by simpa using hi⟩
  simp [ho, hx, hy, storeVar, sizeOf, typeInfo, hi1, hi2, hv, hst, Instr.storeAt, Instr.sureAddr]
  have e2 : a.put o.dst undef = a := by rw [hdst]; rfl
  have h9 := hK _ _ this
  rw [← e2] at h9
  exact h9
/-- v is a slice of words that reads xs, below block B -/
def USl (w : World) (B : Nat) (v : Value) (xs : List UInt64) : Prop :=
  ∃ A cap, v = .slice A xs.length cap ∧ xs.length ≤ cap ∧ cap ≤ 9223372036854775807 ∧ Reads w B A (xs.map v64)
section
variable {w w' : World} {B B' : Nat} {v : Value} {xs : List UInt64}
theorem USl.below (h : USl w B v xs) (hb : Below B w w') : USl w' B v xs := by
  obtain ⟨A, cap, h1, h2, h3, h4⟩ := h
  exact ⟨A, cap, h1, h2, h3, h4.below hb⟩
theorem USl.more (h : USl w B v xs) (hB : B ≤ B') : USl w B' v xs := by
  obtain ⟨A, cap, h1, h2, h3, h4⟩ := h
  exact ⟨A, cap, h1, h2, h3, h4.more hB⟩
theorem USl.next (h : USl w w.heap.size v xs) (hb : Below w.heap.size w w') : USl w' w'.heap.size v xs := (h.below hb).more hb.size
theorem USl.of_blk {w : World} {g : Nat} {t : TypeId} {xs : List UInt64} (h : Blk w g t (xs.map v64).toArray) (B : Nat) (hB : g < B) (cap : Nat) (hcap : xs.length ≤ cap) (hc : cap ≤ 9223372036854775807) : USl w B (.slice (some ⟨g, 0, none⟩) xs.length cap) xs :=
  ⟨_, cap, rfl, hcap, hc, by simpa using Reads.of_blk h hB 0⟩
end
theorem map_v64_set (l : List UInt64) (i : Nat) (v : UInt64) : (l.map v64).set i (v64 v) = (l.set i v).map v64 := by rw [List.map_set]
theorem v64_at (l : List UInt64) (i : Nat) (h : i < l.length) : (l.map v64)[i]? = some (.int .u64 (n64 (l.getD i 0))) := by
  rw [List.getElem?_map, List.getElem?_eq_getElem h, List.getD_eq_getElem?_getD, List.getElem?_eq_getElem h]; rfl
theorem mul64 (x y : UInt64) : (n64 x * n64 y) % 18446744073709551616 = n64 (x * y) := by
  unfold n64; rw [UInt64.toNat_mul]; omega
theorem sub64 (x y : UInt64) : (n64 x - n64 y) % 18446744073709551616 = n64 (x - y) := by
  unfold n64; rw [UInt64.toNat_sub]; have := x.toNat_lt; have := y.toNat_lt; omega
theorem wrap_n64 (x : UInt64) : IntKind.u64.wrap (n64 x) = n64 x := by rw [wrap_u64']; have := n64_lo x; have := n64_hi x; omega
theorem wrap_mul64 (x y : UInt64) : IntKind.u64.wrap (n64 x * n64 y) = n64 (x * y) := by rw [wrap_u64', mul64]
theorem wrap_add64 (x y : UInt64) : IntKind.u64.wrap (n64 x + n64 y) = n64 (x + y) := by rw [wrap_u64', add64]
theorem wrap_sub64 (x y : UInt64) : IntKind.u64.wrap (n64 x - n64 y) = n64 (x - y) := by rw [wrap_u64', sub64]
theorem and64_c (x : UInt64) : bits .and .u64 (n64 x) 65535 = n64 (x &&& 65535) := bits_and64 x 65535
theorem shr64 (x y : UInt64) (r : Nat) (hy : y.toNat = r) (hr : r < 64) : n64 x / 2 ^ r = n64 (x >>> y) := by
  unfold n64; rw [UInt64.toNat_shiftRight, hy, Nat.mod_eq_of_lt hr, Nat.shiftRight_eq_div_pow]; simp
theorem shr64_16 (x : UInt64) : n64 x / (65536 : Int) = n64 (x >>> 16) := shr64 x 16 16 rfl (by decide)
theorem shr64_32 (x : UInt64) : n64 x / (4294967296 : Int) = n64 (x >>> 32) := shr64 x 32 32 rfl (by decide)
theorem shr64_48 (x : UInt64) : n64 x / (281474976710656 : Int) = n64 (x >>> 48) := shr64 x 48 48 rfl (by decide)
end Go.Proofs.YtcdkadidkkbhpaaDoor
