/- SHA-256 of a text, in plain Lean: what the program reckons block by block is the hash of the padded text. No condition. -/
import Derived.Test.YtbhmmoecoijojaaDoorShaSpec
import Derived.Test.YtbhmmoecoijojaaDoorLaws
namespace Go.Proofs.YtbhmmoecoijojaaDoor
open Go
/-- bytes as an array of values, place by place -/
def arr (n : Nat) (f : Nat → UInt8) : Array Value := ((List.range n).map fun p => v8 (f p)).toArray
theorem arr_size (n : Nat) (f : Nat → UInt8) : (arr n f).size = n := by simp [arr]
theorem arr_at (n : Nat) (f : Nat → UInt8) (i : Nat) (hi : i < n) : (arr n f)[i]? = some (.int .u8 (n8 (f i))) := by
  simp [arr, hi, v8]
theorem arr_congr (n : Nat) (f g : Nat → UInt8) (h : ∀ p, p < n → f p = g p) : arr n f = arr n g := by
  unfold arr; congr 1; apply List.map_congr_left; intro p hp; rw [h p (List.mem_range.1 hp)]
theorem arr_set (n : Nat) (f : Nat → UInt8) (i : Nat) (x : UInt8) : (arr n f).setIfInBounds i (v8 x) = arr n (fun p => if p = i then x else f p) := by
  apply Array.ext_getElem?
  intro j
  unfold arr
  rw [Array.getElem?_setIfInBounds]
  by_cases hj : j < n
  · by_cases h : i = j
    · subst h; simp [hj]
    · have h' : ¬ j = i := fun e => h e.symm
      simp [hj, h, h']
  · have h1 : n ≤ j := by omega
    by_cases h : i = j
    · subst h; simp [h1]
    · simp [h1, h]
theorem arr_list (bs : List UInt8) : (bs.map v8).toArray = arr bs.length (fun p => bs.getD p 0) := by
  apply Array.ext_getElem?
  intro j
  unfold arr
  by_cases hj : j < bs.length
  · simp [hj]
  · have h1 : bs.length ≤ j := by omega
    simp [h1]
theorem arr_one (n : Nat) (f : Nat → UInt8) : ∀ v ∈ (arr n f).toList, v.oneCell' = true := by
  intro v hv
  obtain ⟨b, _, rfl⟩ := List.mem_map.1 (show v ∈ (List.range n).map fun p => v8 (f p) from hv)
  rfl
/-- an array of bytes is stored into a block of its size -/
theorem wpList_storeArr {P : Program} {w : World} {ops : Array Oper} {rest : List Oper} {o : Oper} {a : Act} {Q : Exit → Act → World → Prop} (hgd : o.guard = none) (hdst : o.dst = none) (ty : TypeId) (x y : Operand) (ho : o.op = .store ty x y) (g : Nat) (hx : a.eval x = .pointer (some ⟨g, 0, none⟩)) (n : Nat) (f f0 : Nat → UInt8) (hy : a.eval y = .agg (arr n f))
    (t : TypeId) (hg : Blk w g t (arr n f0)) (hi : (P.info? ty).map (·.size) = some n)
    (h : ∀ w', Blk w' g t (arr n f) → w.grownBy w' (some g) → wpList P ops Q rest a w') : wpList P ops Q (o :: rest) a w := by
  refine wpList_storeB hgd hdst ty x y ho g 0 hx (arr n f) hy t (arr n f0) hg (by rw [arr_size]; exact hi) (by rw [arr_size, arr_size]; omega) (arr_one n f) fun w' hw hon => ?_
  rw [copied_all _ _ (by rw [arr_size, arr_size])] at hw
  exact h w' hw hon
/-- a digest's cells -/
def dat (d : List UInt8) : Array Value := arr 32 (fun p => d.getD p 0)
theorem dat_eq (d : List UInt8) (h : d.length = 32) : dat d = (d.map v8).toArray := by rw [arr_list, h]; rfl
theorem dat_size (d : List UInt8) : (dat d).size = 32 := arr_size _ _
/-- an array of bytes, cut from its head, reads as bytes -/
theorem BSl.of_arr {w : World} {g : Nat} {t : TypeId} {n : Nat} {f : Nat → UInt8} (h : Blk w g t (arr n f)) (B : Nat) (hB : g < B) (bs : List UInt8) (hl : bs.length = n) (hf : ∀ p, p < n → f p = bs.getD p 0) (hc : n ≤ 9223372036854775807) : BSl w B (.slice (some ⟨g, 0, none⟩) n n) bs := by
  subst hl
  rw [arr_congr bs.length f _ hf, ← arr_list] at h
  exact BSl.of_list h B hB _ (Nat.le_refl _) hc
theorem wpList_storeDat {P : Program} {w : World} {ops : Array Oper} {rest : List Oper} {o : Oper} {a : Act} {Q : Exit → Act → World → Prop} (hgd : o.guard = none) (hdst : o.dst = none) (ty : TypeId) (x y : Operand) (ho : o.op = .store ty x y) (g : Nat) (hx : a.eval x = .pointer (some ⟨g, 0, none⟩)) (d : List UInt8) (f0 : Nat → UInt8) (hy : a.eval y = .agg (dat d))
    (t : TypeId) (hg : Blk w g t (arr 32 f0)) (hi : (P.info? ty).map (·.size) = some 32)
    (h : ∀ w', Blk w' g t (dat d) → w.grownBy w' (some g) → wpList P ops Q rest a w') : wpList P ops Q (o :: rest) a w :=
  wpList_storeArr hgd hdst ty x y ho g hx 32 _ f0 hy t hg hi h
theorem BSl.of_dat {w : World} {g : Nat} {t : TypeId} {d : List UInt8} (h : Blk w g t (dat d)) (B : Nat) (hB : g < B) (hl : d.length = 32) : BSl w B (.slice (some ⟨g, 0, none⟩) 32 32) d :=
  BSl.of_arr h B hB d hl (fun _ _ => rfl) (by decide)
/-- byte number i (of 8, the greatest first) of the count of bits -/
def lenByte (n i : Nat) : UInt8 := UInt8.ofNat (n * 8 / 2 ^ (8 * (7 - i)))
def zeros (n : Nat) : Nat := (119 - n % 64) % 64
/-- the padded text -/
def pad (bs : List UInt8) : List UInt8 := bs ++ (0x80 :: (List.replicate (zeros bs.length) 0 ++ (List.range 8).map (lenByte bs.length)))
/-- the state after k blocks -/
def hashN (K : List UInt32) (s : S8) (x : List UInt8) : Nat → S8
  | 0 => s
  | k + 1 => mixed K (hashN K s x k) (x.drop (64 * k))
def outBytes (s : S8) : List UInt8 := (List.range 32).map fun i => UInt8.ofNat ((s.list.getD (i / 4) 0).toNat / 2 ^ (24 - 8 * (i % 4)))
def sumOf (K : List UInt32) (s : S8) (bs : List UInt8) : List UInt8 := outBytes (hashN K s (pad bs) ((pad bs).length / 64))
theorem pad_length (bs : List UInt8) : (pad bs).length = bs.length + 9 + zeros bs.length := by
  simp [pad]; omega
theorem pad_mod (bs : List UInt8) : (pad bs).length % 64 = 0 := by rw [pad_length]; unfold zeros; omega
theorem wat_congr {b c : List UInt8} (h : ∀ j, j < 64 → b.getD j 0 = c.getD j 0) (k : Nat) : wat b k = wat c k := by
  induction k with
  | zero => rfl
  | succ k ih =>
    have e : ∀ L, nextW b L k = nextW c L k := by
      intro L
      unfold nextW be32
      by_cases hk : k < 16
      · rw [if_pos hk, if_pos hk, h _ (by omega), h _ (by omega), h _ (by omega), h _ (by omega)]
      · rw [if_neg hk, if_neg hk]
    show wat b k ++ [nextW b (wat b k) k] = wat c k ++ [nextW c (wat c k) k]
    rw [ih, e]
theorem mixed_congr {K : List UInt32} {s : S8} {b c : List UInt8} (h : ∀ j, j < 64 → b.getD j 0 = c.getD j 0) : mixed K s b = mixed K s c := by
  unfold mixed; rw [wat_congr h]
theorem getD_drop (x : List UInt8) (i j : Nat) : (x.drop i).getD j 0 = x.getD (i + j) 0 := by
  simp [List.getD_eq_getElem?_getD]
theorem hashN_congr {K : List UInt32} {s : S8} {x y : List UInt8} (k : Nat) (h : ∀ j, j < 64 * k → x.getD j 0 = y.getD j 0) : hashN K s x k = hashN K s y k := by
  induction k with
  | zero => rfl
  | succ k ih =>
    show mixed K (hashN K s x k) (x.drop (64 * k)) = mixed K (hashN K s y k) (y.drop (64 * k))
    rw [ih fun j hj => h j (by omega)]
    apply mixed_congr
    intro j hj
    rw [getD_drop, getD_drop]
    exact h _ (by omega)
theorem hashN_add (K : List UInt32) (s : S8) (x : List UInt8) (a b : Nat) : hashN K s x (a + b) = hashN K (hashN K s x a) (x.drop (64 * a)) b := by
  induction b with
  | zero => rfl
  | succ b ih =>
    show mixed K (hashN K s x (a + b)) (x.drop (64 * (a + b))) = mixed K (hashN K (hashN K s x a) (x.drop (64 * a)) b) ((x.drop (64 * a)).drop (64 * b))
    rw [ih, List.drop_drop, Nat.mul_add]
/-- the tail that the program lays: what is left of a text of n bytes (r of them), one bit, noughts, i of the bytes of its length; e: its end -/
def tailB (r : List UInt8) (n e i p : Nat) : UInt8 := if p < r.length then r.getD p 0 else if p = r.length then 0x80 else if p < e ∧ e ≤ p + i then lenByte n (7 - (e - 1 - p)) else 0
def tailEnd (n : Nat) : Nat := if n % 64 + 9 > 64 then 128 else 64
theorem pad_at (bs : List UInt8) (p : Nat) : (pad bs).getD p 0 =
    if p < bs.length then bs.getD p 0 else if p = bs.length then 0x80 else if p < bs.length + 1 + zeros bs.length then 0 else if p < bs.length + 9 + zeros bs.length then lenByte bs.length (p - (bs.length + 1 + zeros bs.length)) else 0 := by
  unfold pad
  simp only [List.getD_eq_getElem?_getD]
  by_cases h1 : p < bs.length
  · rw [List.getElem?_append_left h1, if_pos h1]
  · rw [List.getElem?_append_right (by omega), if_neg h1]
    by_cases h2 : p = bs.length
    · rw [if_pos h2, h2, Nat.sub_self]; rfl
    · rw [if_neg h2]
      obtain ⟨d, hd⟩ : ∃ d, p - bs.length = d + 1 := ⟨p - bs.length - 1, by omega⟩
      rw [hd, List.getElem?_cons_succ]
      by_cases h3 : p < bs.length + 1 + zeros bs.length
      · rw [if_pos h3, List.getElem?_append_left (by rw [List.length_replicate]; omega), List.getElem?_replicate, if_pos (by omega)]; rfl
      · rw [if_neg h3, List.getElem?_append_right (by rw [List.length_replicate]; omega), List.length_replicate]
        by_cases h4 : p < bs.length + 9 + zeros bs.length
        · rw [if_pos h4, List.getElem?_map, List.getElem?_range (by omega)]
          show lenByte _ _ = _
          congr 1; omega
        · rw [if_neg h4, List.getElem?_eq_none (by rw [List.length_map, List.length_range]; omega)]; rfl
theorem tail_at (bs : List UInt8) (p : Nat) (hp : p < tailEnd bs.length) :
    ((pad bs).drop (64 * (bs.length / 64))).getD p 0 = tailB (bs.drop (64 * (bs.length / 64))) bs.length (tailEnd bs.length) 8 p := by
  have hz : zeros bs.length = tailEnd bs.length - (bs.length % 64 + 9) := by unfold zeros tailEnd; split <;> omega
  have hte : bs.length % 64 + 9 ≤ tailEnd bs.length := by unfold tailEnd; split <;> omega
  rw [getD_drop, pad_at]
  unfold tailB
  rw [List.length_drop, getD_drop]
  by_cases h1 : 64 * (bs.length / 64) + p < bs.length
  · rw [if_pos h1, if_pos (show p < bs.length - 64 * (bs.length / 64) by omega)]
  · rw [if_neg h1, if_neg (show ¬ p < bs.length - 64 * (bs.length / 64) by omega)]
    by_cases h2 : 64 * (bs.length / 64) + p = bs.length
    · rw [if_pos h2, if_pos (show p = bs.length - 64 * (bs.length / 64) by omega)]
    · rw [if_neg h2, if_neg (show ¬ p = bs.length - 64 * (bs.length / 64) by omega)]
      by_cases h3 : 64 * (bs.length / 64) + p < bs.length + 1 + zeros bs.length
      · rw [if_pos h3, if_neg (show ¬ (p < tailEnd bs.length ∧ tailEnd bs.length ≤ p + 8) by omega)]
      · rw [if_neg h3, if_pos (show 64 * (bs.length / 64) + p < bs.length + 9 + zeros bs.length by omega), if_pos (show p < tailEnd bs.length ∧ tailEnd bs.length ≤ p + 8 by omega)]
        congr 1; omega
theorem pad_blocks (bs : List UInt8) : (pad bs).length / 64 = bs.length / 64 + tailEnd bs.length / 64 := by
  rw [pad_length]; unfold zeros tailEnd; split <;> omega
/-- the hash, as the program reckons it: whole blocks of the text first, then the tail -/
theorem sumOf_tail (K : List UInt32) (s : S8) (bs tail : List UInt8) (ht : ∀ p, p < tailEnd bs.length → tail.getD p 0 = tailB (bs.drop (64 * (bs.length / 64))) bs.length (tailEnd bs.length) 8 p) :
    outBytes (hashN K (hashN K s bs (bs.length / 64)) tail (tailEnd bs.length / 64)) = sumOf K s bs := by
  unfold sumOf
  have he : tailEnd bs.length % 64 = 0 := by unfold tailEnd; split <;> rfl
  rw [pad_blocks, hashN_add]
  congr 1
  have h1 : hashN K s (pad bs) (bs.length / 64) = hashN K s bs (bs.length / 64) := hashN_congr _ fun j hj => by rw [pad_at, if_pos (by omega)]
  rw [h1]
  apply hashN_congr
  intro j hj
  rw [ht j (by omega), tail_at bs j (by omega)]
theorem copied_arr (n : Nat) (f : Nat → UInt8) (off : Nat) (xs : List UInt8) (m : Nat) (h : off + Nat.min xs.length m ≤ n) :
    copied (arr n f) off (xs.map v8) m = arr n (fun p => if off ≤ p ∧ p < off + Nat.min xs.length m then xs.getD (p - off) 0 else f p) := by
  have hmin : (xs.take m).length = Nat.min xs.length m := by rw [List.length_take]; exact Nat.min_comm _ _
  have hk1 : Nat.min xs.length m ≤ xs.length := Nat.min_le_left xs.length m
  have hk2 : Nat.min xs.length m ≤ m := Nat.min_le_right xs.length m
  unfold copied
  rw [← List.map_take, List.length_map, hmin]
  generalize Nat.min xs.length m = q at hmin hk1 hk2 h ⊢
  apply Array.ext_getElem?
  intro j
  have e1 : (arr n f).toList = (List.range n).map fun p => v8 (f p) := rfl
  rw [e1, List.getElem?_toArray]
  by_cases h1 : j < off
  · rw [List.getElem?_append_left (by rw [List.length_take, List.length_map, List.length_range]; omega), List.getElem?_take, if_pos h1]
    unfold arr
    rw [List.getElem?_toArray, List.getElem?_map, List.getElem?_map, List.getElem?_range (by omega)]
    simp [show ¬ off ≤ j by omega]
  · have hlt : ((List.map (fun p => v8 (f p)) (List.range n)).take off).length = off := by rw [List.length_take, List.length_map, List.length_range]; omega
    rw [List.getElem?_append_right (by omega), hlt]
    by_cases h2 : j < off + q
    · rw [List.getElem?_append_left (by rw [List.length_map, hmin]; omega), List.getElem?_map, List.getElem?_take, if_pos (by omega)]
      have h3 : j - off < xs.length := by omega
      rw [List.getElem?_eq_getElem h3, arr_at _ _ _ (by omega), if_pos (⟨by omega, h2⟩ : off ≤ j ∧ j < off + q)]
      simp [h3, v8]
    · rw [List.getElem?_append_right (by rw [List.length_map, hmin]; omega), List.length_map, hmin, List.getElem?_drop]
      have e2 : off + q + (j - off - q) = j := by omega
      rw [e2]
      unfold arr
      rw [List.getElem?_toArray, List.getElem?_map, List.getElem?_map]
      by_cases h4 : j < n
      · rw [List.getElem?_range h4]
        simp only [Option.map_some, if_neg (show ¬ (off ≤ j ∧ j < off + q) by omega)]
      · rw [List.getElem?_eq_none (by rw [List.length_range]; omega)]; rfl
theorem n8_ofNat (m : Nat) : n8 (UInt8.ofNat m) = (m : Int) % 256 := by
  unfold n8; rw [UInt8.toNat_ofNat']; simp
theorem lenByte_val (n j : Nat) (hj : j < 8) : (n : Int) * 8 / 2 ^ (8 * j) % 256 = n8 (lenByte n (7 - j)) := by
  unfold lenByte
  rw [n8_ofNat, show 7 - (7 - j) = j by omega]; simp
theorem tailB_step (r : List UInt8) (n E j : Nat) (hj : j < 8) (hE : r.length + 9 ≤ E) :
    (fun p => if p = E - 1 - j then lenByte n (7 - j) else tailB r n E j p) = tailB r n E (j + 1) := by
  funext p
  unfold tailB
  by_cases h0 : p = E - 1 - j
  · rw [if_pos h0, if_neg (show ¬ p < r.length by omega), if_neg (show ¬ p = r.length by omega), if_pos (show p < E ∧ E ≤ p + (j + 1) by omega)]
    congr 1; omega
  · rw [if_neg h0]
    by_cases h1 : p < E ∧ E ≤ p + j
    · rw [if_pos h1, if_pos (show p < E ∧ E ≤ p + (j + 1) by omega)]
    · rw [if_neg h1, if_neg (show ¬ (p < E ∧ E ≤ p + (j + 1)) by omega)]
def outB (s : S8) (i : Nat) : UInt8 := UInt8.ofNat ((s.list.getD (i / 4) 0).toNat / 2 ^ (24 - 8 * (i % 4)))
theorem outBytes_dat (s : S8) : dat (outBytes s) = arr 32 (outB s) := by
  apply arr_congr
  intro p hp
  unfold outBytes outB
  simp [hp]
theorem outBytes_arr (s : S8) : ((outBytes s).map v8).toArray = arr 32 (outB s) := by
  unfold outBytes arr outB; rw [List.map_map]; rfl
theorem outB_val (s : S8) (i : Nat) : n32 (s.list.getD (i / 4) 0) / 2 ^ (24 - 8 * (i % 4)) % 256 = n8 (outB s i) := by
  unfold outB n32
  rw [n8_ofNat]; simp
end Go.Proofs.YtbhmmoecoijojaaDoor
