/-
  Bloom filters as sets of bits. Plain lists and numbers: no program in sight.
-/
import Derived.Test.YtbkdlkhaeidhcaaDoorCrcP
namespace BloomP
open CrcP
/-- how many bits -/
def bitsOf (n : Int) : Nat := max ((10 * min (max n 0).toNat 1048576 + 7) / 8 * 8) 64
/-- a byte of bits -/
def packN (f : Nat → Bool) : Nat → Nat
  | 0 => 0
  | n + 1 => packN f n + (if f n then 2 ^ n else 0)
theorem packN_lt (f : Nat → Bool) (n : Nat) : packN f n < 2 ^ n := by
  induction n with
  | zero => simp [packN]
  | succ n ih =>
    simp only [packN, Nat.pow_succ]
    split <;> omega
theorem packN_testBit (f : Nat → Bool) (n i : Nat) : (packN f n).testBit i = (decide (i < n) && f i) := by
  induction n with
  | zero => simp [packN]
  | succ n ih =>
    have hl := packN_lt f n
    simp only [packN]
    by_cases hf : f n = true
    · rw [if_pos hf, Nat.add_comm]
      by_cases hi : i = n
      · subst hi
        rw [Nat.testBit_two_pow_add_eq, Nat.testBit_lt_two_pow hl]; simp [hf]
      · by_cases h2 : i < n
        · rw [Nat.testBit_two_pow_add_gt h2, ih]; simp [h2, show i < n + 1 by omega]
        · have h3 : 2 ^ n + packN f n < 2 ^ i := by
            have : 2 ^ (n + 1) ≤ 2 ^ i := Nat.pow_le_pow_right (by omega) (by omega)
            rw [Nat.pow_succ] at this; omega
          rw [Nat.testBit_lt_two_pow h3]; simp [show ¬ i < n + 1 by omega]
    · rw [if_neg hf, Nat.add_zero, ih]
      by_cases hi : i = n
      · subst hi; simp [hf]
      · have : (i < n + 1) ↔ (i < n) := by omega
        simp [this]
theorem packN_or (f : Nat → Bool) (t : Nat) (ht : t < 8) : packN f 8 ||| 2 ^ t = packN (fun i => f i || i == t) 8 := by
  apply Nat.eq_of_testBit_eq
  intro i
  rw [Nat.testBit_or, packN_testBit, packN_testBit, Nat.testBit_two_pow]
  by_cases h : t = i
  · subst h; simp [ht]
  · have : (i == t) = false := by simp; omega
    simp [h, this]
theorem packN_congr (f g : Nat → Bool) (n : Nat) (h : ∀ i, i < n → f i = g i) : packN f n = packN g n := by
  induction n with
  | zero => rfl
  | succ n ih => simp only [packN]; rw [ih (fun i hi => h i (by omega)), h n (by omega)]
def byteAt (S : Nat → Bool) (j : Nat) : Nat := packN (fun t => S (8 * j + t)) 8
/-- the bytes of a set of bits -/
def pack (S : Nat → Bool) (m : Nat) : List UInt8 := (List.range m).map fun j => UInt8.ofNat (packN (fun t => S (8 * j + t)) 8)
theorem pack_length (S : Nat → Bool) (m : Nat) : (pack S m).length = m := by simp [pack]
theorem pack_congr (S T : Nat → Bool) (m : Nat) (h : ∀ i, i < 8 * m → S i = T i) : pack S m = pack T m := by
  unfold pack
  apply List.map_congr_left
  intro j hj
  simp at hj
  rw [packN_congr _ _ 8 (fun i hi => h (8 * j + i) (by omega))]
theorem pack_get (S : Nat → Bool) (m j : Nat) (h : j < m) : (pack S m)[j]? = some (UInt8.ofNat (packN (fun t => S (8 * j + t)) 8)) := by
  simp [pack, h]
theorem pack_bit (S : Nat → Bool) (m p : Nat) (h : p < 8 * m) (c : UInt8) (hc : (pack S m)[p / 8]? = some c) : (c.toNat / 2 ^ (p % 8) % 2 == 1) = S p := by
  rw [pack_get S m (p / 8) (by omega)] at hc
  injection hc with hc
  subst hc
  have hl := packN_lt (fun t => S (8 * (p / 8) + t)) 8
  rw [UInt8.toNat_ofNat', Nat.mod_eq_of_lt hl]
  have := packN_testBit (fun t => S (8 * (p / 8) + t)) 8 (p % 8)
  rw [Nat.testBit_eq_decide_div_mod_eq] at this
  rw [show 8 * (p / 8) + p % 8 = p by omega] at this
  simp [show p % 8 < 8 by omega] at this
  rw [← this, Bool.eq_iff_iff]
  simp
/-- a place more -/
theorem pack_set (S : Nat → Bool) (m p : Nat) : (pack S m).set (p / 8) (UInt8.ofNat (packN (fun t => S (8 * (p / 8) + t)) 8 ||| 2 ^ (p % 8))) = pack (fun i => S i || i == p) m := by
  apply List.ext_getElem?
  intro j
  by_cases hj : j < m
  · rw [pack_get _ m j hj, List.getElem?_set, pack_length, packN_or _ _ (by omega)]
    by_cases e : p / 8 = j
    · subst e
      rw [if_pos rfl, if_pos hj]
      congr 2
      apply packN_congr
      intro i hi
      have : (i == p % 8) = (8 * (p / 8) + i == p) := by
        rw [Bool.eq_iff_iff]; simp; omega
      rw [this]
    · rw [if_neg e, pack_get _ m j hj]
      congr 2
      apply packN_congr
      intro i hi
      have : (8 * j + i == p) = false := by simp; omega
      rw [this, Bool.or_false]
  · rw [List.getElem?_eq_none (by simp [pack_length]; omega), List.getElem?_eq_none (by simp [pack_length]; omega)]
theorem pack_empty (m : Nat) : pack (fun _ => false) m = List.replicate m 0 := by
  apply List.ext_getElem?
  intro j
  by_cases hj : j < m
  · rw [pack_get _ m j hj]; simp [hj, packN]
  · rw [List.getElem?_eq_none (by simp [pack_length]; omega), List.getElem?_eq_none (by simp; omega)]
theorem byteAt_lt (S : Nat → Bool) (j : Nat) : byteAt S j < 256 := packN_lt _ 8
theorem byteAt_or (S : Nat → Bool) (p : Nat) : byteAt S (p / 8) ||| 2 ^ (p % 8) = byteAt (fun i => S i || i == p) (p / 8) := by
  unfold byteAt
  rw [packN_or _ _ (by omega)]
  apply packN_congr
  intro i hi
  have : (i == p % 8) = (8 * (p / 8) + i == p) := by
    rw [Bool.eq_iff_iff]; simp; omega
  rw [this]
theorem byteAt_other (S : Nat → Bool) (p j : Nat) (h : j ≠ p / 8) : byteAt (fun i => S i || i == p) j = byteAt S j := by
  unfold byteAt
  apply packN_congr
  intro i hi
  have : (8 * j + i == p) = false := by simp; omega
  show (S (8 * j + i) || (8 * j + i == p)) = _
  rw [this, Bool.or_false]
theorem byteAt_congr (S T : Nat → Bool) (h : ∀ i, S i = T i) (j : Nat) : byteAt S j = byteAt T j := packN_congr _ _ 8 (fun _ _ => h _)
theorem pack_bytes (S : Nat → Bool) (m : Nat) : pack S m = (List.range m).map fun j => UInt8.ofNat (byteAt S j) := rfl
theorem packN_top (f : Nat → Bool) (r d : Nat) (h : ∀ t, r ≤ t → f t = false) : packN f (r + d) = packN f r := by
  induction d with
  | zero => rfl
  | succ d ih =>
    rw [← Nat.add_assoc]
    simp only [packN]
    rw [h (r + d) (by omega), ih]; simp
/-- the bits below a place -/
def upto (S : Nat → Bool) (i : Nat) (t : Nat) : Bool := decide (t < i) && S t
theorem packN_cut (f : Nat → Bool) (r m : Nat) (hr : r ≤ m) (h : ∀ t, r ≤ t → f t = false) : packN f m = packN f r := by
  obtain ⟨d, rfl⟩ : ∃ d, m = r + d := ⟨m - r, by omega⟩
  exact packN_top f r d h
theorem upto_step (S : Nat → Bool) (i : Nat) : byteAt (upto S (i + 1)) (i / 8) = byteAt (upto S i) (i / 8) + (if S i = true then 2 ^ (i % 8) else 0) := by
  unfold byteAt
  rw [packN_cut (fun t => upto S (i + 1) (8 * (i / 8) + t)) (i % 8 + 1) 8 (by omega) (fun t ht => by unfold upto; simp; omega),
    packN_cut (fun t => upto S i (8 * (i / 8) + t)) (i % 8) 8 (by omega) (fun t ht => by unfold upto; simp; omega)]
  have e : upto S (i + 1) (8 * (i / 8) + i % 8) = S i := by
    rw [show 8 * (i / 8) + i % 8 = i by omega]; unfold upto; simp
  simp only [packN, e]
  congr 1
  apply packN_congr
  intro t ht
  unfold upto
  rw [show decide (8 * (i / 8) + t < i + 1) = true by simp; omega, show decide (8 * (i / 8) + t < i) = true by simp; omega]
theorem upto_other (S : Nat → Bool) (i j : Nat) (h : j ≠ i / 8) : byteAt (upto S (i + 1)) j = byteAt (upto S i) j := by
  unfold byteAt
  apply packN_congr
  intro t ht
  unfold upto
  rw [show decide (8 * j + t < i + 1) = decide (8 * j + t < i) by simp; omega]
theorem upto_zero (S : Nat → Bool) (j : Nat) : byteAt (upto S 0) j = 0 := by
  unfold byteAt
  have := packN_top (fun t => upto S 0 (8 * j + t)) 0 8 (fun t _ => by simp [upto])
  simpa [packN] using this
theorem upto_all (S : Nat → Bool) (n j : Nat) (h : j < n) : byteAt (upto S (8 * n)) j = byteAt S j := by
  unfold byteAt
  apply packN_congr
  intro t ht
  unfold upto
  rw [show decide (8 * j + t < 8 * n) = true by simp; omega]; simp
/-- a key's two numbers -/
def ka (key : List UInt8) : Nat := (sum key).toNat
def kb (key : List UInt8) : Nat := (more 0x9e3779b9#32 key).toNat ||| 1
def plc (key : List UInt8) (m i : Nat) : Nat := (ka key + i * kb key) % 4294967296 % m
def places (key : List UInt8) (m : Int) : List Nat := if m < 1 ∨ m > 1073741824 then [] else (List.range 6).map (plc key m.toNat)
theorem or_one (x : Nat) : x ||| 1 = if x % 2 = 0 then x + 1 else x := by
  apply Nat.eq_of_testBit_eq
  intro i
  rw [Nat.testBit_or]
  cases i with
  | zero => simp only [Nat.testBit_zero]; split <;> simp <;> omega
  | succ i =>
    rw [Nat.testBit_succ, Nat.testBit_succ, Nat.testBit_succ]
    rw [show (1 : Nat) / 2 = 0 by rfl, Nat.zero_testBit, Bool.or_false]
    split
    · rw [show (x + 1) / 2 = x / 2 by omega]
    · rfl
def setOf (keys : List (List UInt8)) (m : Nat) (i : Nat) : Bool := keys.any fun k => (places k m).contains i
theorem setOf_snoc (keys : List (List UInt8)) (k : List UInt8) (m i : Nat) : setOf (keys ++ [k]) m i = (setOf keys m i || (places k m).contains i) := by
  unfold setOf; simp
def make (keys : List (List UInt8)) : List UInt8 := pack (setOf keys (bitsOf keys.length)) (bitsOf keys.length / 8)
def bitAt (f : List UInt8) (p : Nat) : Bool := (f.getD (p / 8) 0).toNat / 2 ^ (p % 8) % 2 == 1
def has (filter key : List UInt8) : Bool := (places key (8 * filter.length : Nat)).all (bitAt filter) && !(places key (8 * filter.length : Nat)).isEmpty
theorem plc_lt (key : List UInt8) (m i : Nat) (h : 0 < m) : plc key m i < m := Nat.mod_lt _ h
theorem has_none (f key : List UInt8) (h : f.length = 0) : has f key = false := by
  unfold has places; rw [if_pos (by omega)]; rfl
theorem places_eq (key : List UInt8) (m : Nat) (h1 : 1 ≤ m) (h2 : m ≤ 1073741824) : places key m = (List.range 6).map (plc key m) := by
  unfold places; rw [if_neg (by omega)]; rfl
theorem has_some (f key : List UInt8) (h1 : 1 ≤ f.length) (h2 : f.length ≤ 134217728) : has f key = (List.range 6).all fun i => bitAt f (plc key (8 * f.length) i) := by
  unfold has
  rw [places_eq key (8 * f.length) (by omega) (by omega), List.all_map]
  have : (List.map (plc key (8 * f.length)) (List.range 6)).isEmpty = false := rfl
  rw [this]; simp [Function.comp_def]
theorem has_false (f key : List UInt8) (h1 : 1 ≤ f.length) (h2 : f.length ≤ 134217728) (k : Nat) (hk : k < 6) (h : bitAt f (plc key (8 * f.length) k) = false) : has f key = false := by
  rw [has_some f key h1 h2, List.all_eq_false]
  exact ⟨k, by simpa using hk, by rw [h]; simp⟩
theorem has_true (f key : List UInt8) (h1 : 1 ≤ f.length) (h2 : f.length ≤ 134217728) (h : ∀ k, k < 6 → bitAt f (plc key (8 * f.length) k) = true) : has f key = true := by
  rw [has_some f key h1 h2, List.all_eq_true]
  intro k hk
  exact h k (by simpa using hk)
theorem bitsOf_eq (n : Nat) : ∃ k, bitsOf n = 8 * k ∧ 8 ≤ k ∧ k ≤ 1310720 := by
  refine ⟨bitsOf n / 8, ?_⟩
  unfold bitsOf
  omega
theorem bitAt_pack (S : Nat → Bool) (n p : Nat) (h : p < 8 * n) : bitAt (pack S n) p = S p := by
  have hg := pack_get S n (p / 8) (by omega)
  have := pack_bit S n p h _ hg
  unfold bitAt
  rw [List.getD_eq_getElem?_getD, hg]
  exact this
theorem has_make (ks : List (List UInt8)) (k : List UInt8) (hk : k ∈ ks) : has (make ks) k = true := by
  obtain ⟨n, hb, h1, h2⟩ := bitsOf_eq ks.length
  have hm : make ks = pack (setOf ks (8 * n)) n := by
    unfold make; rw [hb, show 8 * n / 8 = n by omega]
  have hl : (make ks).length = n := by rw [hm, pack_length]
  refine has_true _ _ (by omega) (by omega) (fun i hi => ?_)
  rw [hl, hm, bitAt_pack _ _ _ (plc_lt _ _ _ (by omega))]
  unfold setOf
  rw [List.any_eq_true]
  refine ⟨k, hk, ?_⟩
  rw [places_eq k (8 * n) (by omega) (by omega), List.contains_iff_mem]
  exact List.mem_map.2 ⟨i, by simpa using hi, rfl⟩
theorem setOf_perm (a b : List (List UInt8)) (m i : Nat) : setOf (a ++ b) m i = setOf (b ++ a) m i := by
  unfold setOf; rw [List.any_append, List.any_append, Bool.or_comm]
theorem make_turn (a b : List (List UInt8)) : make (a ++ b) = make (b ++ a) := by
  unfold make
  rw [show (a ++ b).length = (b ++ a).length by simp; omega]
  exact pack_congr _ _ _ (fun i _ => setOf_perm a b _ i)
end BloomP
