/-
  Frames: bytes with their length and sums; bursts. Plain lists and numbers: no program in sight.
-/
import Derived.Test.YtbkdlkhaeidhcaaDoorCrcP
import Derived.Test.YtbkdlkhaeidhcaaDoorCodecP
namespace FrameP
open CrcP CodecP
def be4 (n : Nat) : List UInt8 := fixed 4 n
/-- bytes in a frame -/
def frame (s : List UInt8) : List UInt8 := be4 s.length ++ laid (be4 s.length) ++ s ++ laid s
/-- what is framed at the beginning: the bytes, how many bytes the frame has, why not (0 whole, 1 short, 2 bad) -/
def opn (s : List UInt8) : List UInt8 × Nat × Nat :=
  if s.length < 8 then ([], 0, 1)
  else if laid (s.take 4) ≠ (s.drop 4).take 4 ∨ 131072 < value (s.take 4) then ([], 0, 2)
  else if s.length < 12 + value (s.take 4) then ([], 0, 1)
  else if laid ((s.drop 8).take (value (s.take 4))) ≠ (s.drop (8 + value (s.take 4))).take 4 then ([], 0, 2)
  else ((s.drop 8).take (value (s.take 4)), 12 + value (s.take 4), 0)
theorem le4_length (v : BitVec 32) : (le4 v).length = 4 := rfl
theorem laid_length (l : List UInt8) : (laid l).length = 4 := rfl
theorem be4_length (n : Nat) : (be4 n).length = 4 := fixed_length 4 n
theorem frame_length (s : List UInt8) : (frame s).length = 12 + s.length := by simp [frame, be4_length, laid_length]; omega
theorem value_be4 (n : Nat) (h : n < 4294967296) : value (be4 n) = n := value_fixed 4 n (by simpa using h)
theorem take_app {α} (a b : List α) (n : Nat) (h : a.length = n) : (a ++ b).take n = a := by subst h; simp
theorem drop_app {α} (a b : List α) (n : Nat) (h : a.length = n) : (a ++ b).drop n = b := by subst h; simp
theorem opn_frame (s rest : List UInt8) (h : s.length ≤ 131072) : opn (frame s ++ rest) = (s, 12 + s.length, 0) := by
  have e1 : (frame s ++ rest).take 4 = be4 s.length := by
    unfold frame; simp only [List.append_assoc]; exact take_app _ _ 4 (be4_length _)
  have e2 : (frame s ++ rest).drop 4 = laid (be4 s.length) ++ (s ++ (laid s ++ rest)) := by
    unfold frame; simp only [List.append_assoc]; exact drop_app _ _ 4 (be4_length _)
  have e3 : (frame s ++ rest).drop 8 = s ++ (laid s ++ rest) := by
    rw [show 8 = 4 + 4 by rfl, ← List.drop_drop, e2]; exact drop_app _ _ 4 (laid_length _)
  have ev : value (be4 s.length) = s.length := value_be4 _ (by omega)
  have e4 : (frame s ++ rest).drop (8 + s.length) = laid s ++ rest := by
    rw [← List.drop_drop, e3]; exact drop_app _ _ _ rfl
  have el : (frame s ++ rest).length = 12 + s.length + rest.length := by rw [List.length_append, frame_length]
  unfold opn
  rw [e1, e2, ev, e3, e4, el]
  rw [if_neg (by omega), take_app _ _ 4 (laid_length _), if_neg (by simp; omega), if_neg (by omega), take_app _ _ _ rfl, take_app _ _ 4 (laid_length _), if_neg (by simp)]
/-- what is opened whole is a frame -/
theorem frame_opn (s d : List UInt8) (n : Nat) (h : opn s = (d, n, 0)) : d.length ≤ 131072 ∧ n = 12 + d.length ∧ n ≤ s.length ∧ s.take n = frame d := by
  unfold opn at h
  split at h
  · simp at h
  rename_i h1
  split at h
  · simp at h
  rename_i h2
  split at h
  · simp at h
  rename_i h3
  split at h
  · simp at h
  rename_i h4
  simp only [Prod.mk.injEq] at h
  obtain ⟨hd, hn, _⟩ := h
  have h2' : laid (s.take 4) = (s.drop 4).take 4 ∧ value (s.take 4) ≤ 131072 := by
    constructor
    · apply Decidable.byContradiction; intro e; exact h2 (Or.inl e)
    · apply Decidable.byContradiction; intro e; exact h2 (Or.inr (by omega))
  have h4' : laid ((s.drop 8).take (value (s.take 4))) = (s.drop (8 + value (s.take 4))).take 4 := Decidable.byContradiction fun e => h4 e
  have hl : d.length = value (s.take 4) := by rw [← hd]; simp; omega
  have hb : be4 d.length = s.take 4 := by
    have := fixed_value (s.take 4)
    rw [show (s.take 4).length = 4 by simp; omega] at this
    rw [hl]; exact this
  refine ⟨by omega, by omega, by omega, ?_⟩
  unfold frame
  rw [hb, h2'.1]
  rw [hd] at h4'
  rw [h4', ← hd, ← hn]
  apply List.ext_getElem?
  intro i
  have l4 : (s.take 4).length = 4 := by simp; omega
  have l4b : ((s.drop 4).take 4).length = 4 := by simp; omega
  have ld : ((s.drop 8).take (value (s.take 4))).length = value (s.take 4) := by simp; omega
  generalize value (s.take 4) = v at *
  simp only [List.getElem?_append, List.length_append, l4, l4b, ld, List.getElem?_take, List.getElem?_drop]
  by_cases a1 : i < 4
  · simp [a1, show i < 12 + v by omega, show i < 4 + 4 by omega, show i < 4 + 4 + v by omega]
  by_cases a2 : i < 8
  · simp [a1, a2, show i < 12 + v by omega, show i < 8 + v by omega, show i - 4 < 4 by omega, show 4 + (i - 4) = i by omega]
  by_cases a3 : i < 8 + v
  · simp [a2, a3, show i < 12 + v by omega, show i - 8 < v by omega, show 8 + (i - 8) = i by omega]
  by_cases a4 : i < 12 + v
  · simp [a3, a4, show i - (8 + v) < 4 by omega, show 8 + v + (i - (8 + v)) = i by omega]
  · simp [a3, a4, show ¬ i - (8 + v) < 4 by omega]
def ones : BitVec 32 := ~~~ 0#32
theorem byt_ofNat (v : BitVec 32) (x : Nat) : byt v (UInt8.ofNat (x % 256)) = bitsN 8 v x := by
  rw [← byt_bits, UInt8.toNat_ofNat', Nat.mod_eq_of_lt (by omega), bitsN_mod 8 v x]
theorem reg_le4 (v y : BitVec 32) : reg v (le4 y) = stpN 32 (v ^^^ y) := by
  have hy := y.isLt
  unfold le4
  rw [reg_cons, reg_cons, reg_cons, reg_cons]
  show byt (byt (byt (byt v _) _) _) _ = _
  rw [show y.toNat / 16777216 = y.toNat / 16777216 % 256 by omega, byt_ofNat, byt_ofNat, byt_ofNat, byt_ofNat]
  have e := bitsN_eq 32 v y.toNat hy hy
  rw [BitVec.ofNat_toNat, BitVec.setWidth_eq] at e
  have e2 : bitsN 32 v y.toNat = bitsN (8 + (8 + (8 + 8))) v y.toNat := rfl
  rw [← e, e2, bitsN_add, bitsN_add, bitsN_add]
  simp only [Nat.div_div_eq_div_mul]
theorem reg_laid (l : List UInt8) : reg ones (l ++ laid l) = stpN 32 ones := by
  rw [reg_append]
  unfold laid
  rw [reg_le4]
  congr 1
  show reg (~~~ 0#32) l ^^^ ~~~ (reg (~~~ 0#32) l) = _
  generalize reg (~~~ 0#32) l = v
  apply BitVec.eq_of_getLsbD_eq
  intro i hi
  unfold ones
  rw [BitVec.getLsbD_xor, BitVec.getLsbD_not, BitVec.getLsbD_not]
  simp only [hi, decide_true, Bool.true_and, BitVec.getLsbD_zero]
  cases v.getLsbD i <;> rfl
theorem div_burst (k b : Nat) (hb : b < 4294967296) : ∃ k' b', b' < 4294967296 ∧ 2 ^ k * b / 256 ^ 8 = 2 ^ k' * b' := by
  have h64 : 256 ^ 8 = 2 ^ 64 := by decide
  rw [h64]
  by_cases h : 64 ≤ k
  · refine ⟨k - 64, b, hb, ?_⟩
    have : 2 ^ k = 2 ^ 64 * 2 ^ (k - 64) := by rw [← Nat.pow_add]; congr 1; omega
    rw [this, Nat.mul_assoc, Nat.mul_div_cancel_left _ (by decide)]
  · refine ⟨0, b / 2 ^ (64 - k), Nat.lt_of_le_of_lt (Nat.div_le_self _ _) hb, ?_⟩
    have : 2 ^ 64 = 2 ^ k * 2 ^ (64 - k) := by rw [← Nat.pow_add]; congr 1; omega
    rw [this, Nat.mul_div_mul_left _ _ (Nat.two_pow_pos k)]; simp
/-- a frame in which a burst turned something isn't opened -/
theorem opn_burst (s : List UInt8) (k b : Nat) (hs : s.length ≤ 131072) (hb : b < 4294967296) (hne : xorNum (frame s) (2 ^ k * b) ≠ frame s) :
    (opn (xorNum (frame s) (2 ^ k * b))).2.2 ≠ 0 := by
  intro h0
  apply hne
  obtain ⟨d, n, why, hop⟩ : ∃ d n why, opn (xorNum (frame s) (2 ^ k * b)) = (d, n, why) := ⟨_, _, _, rfl⟩
  rw [hop] at h0
  obtain rfl : why = 0 := h0
  obtain ⟨hd, hn, hle, htk⟩ := frame_opn _ _ _ hop
  generalize hg : xorNum (frame s) (2 ^ k * b) = g at *
  have hgl : g.length = (frame s).length := by rw [← hg, xorNum_length]
  have f8 : (frame s).take 8 = be4 s.length ++ laid (be4 s.length) := by
    unfold frame; rw [List.append_assoc]; exact take_app _ _ 8 (by simp [be4_length, laid_length])
  have d8 : (frame d).take 8 = be4 d.length ++ laid (be4 d.length) := by
    unfold frame; rw [List.append_assoc]; exact take_app _ _ 8 (by simp [be4_length, laid_length])
  have g8 : g.take 8 = (frame d).take 8 := by rw [← htk, List.take_take]; congr 1; omega
  have r8 : reg ones (g.take 8) = reg ones ((frame s).take 8) := by rw [g8, d8, f8, reg_laid, reg_laid]
  have x8 : g.take 8 = xorNum ((frame s).take 8) (2 ^ k * b) := by rw [← hg, xorNum_take]
  rw [x8] at r8
  have s8 := reg_burst _ _ k b hb r8
  have e8 : g.take 8 = (frame s).take 8 := by rw [x8, s8]
  have hlen : d.length = s.length := by
    have : (g.take 8).take 4 = ((frame s).take 8).take 4 := by rw [e8]
    rw [g8, d8, f8, take_app _ _ 4 (be4_length _), take_app _ _ 4 (be4_length _)] at this
    have := congrArg value this
    rwa [value_be4 _ (by omega), value_be4 _ (by omega)] at this
  have gn : g = frame d := by
    rw [← htk, List.take_of_length_le]; rw [hgl, frame_length]; omega
  have fd : (frame s).drop 8 = s ++ laid s := by
    unfold frame; rw [List.append_assoc (be4 s.length ++ laid (be4 s.length))]; exact drop_app _ _ 8 (by simp [be4_length, laid_length])
  have dd : (frame d).drop 8 = d ++ laid d := by
    unfold frame; rw [List.append_assoc (be4 d.length ++ laid (be4 d.length))]; exact drop_app _ _ 8 (by simp [be4_length, laid_length])
  have r9 : reg ones (g.drop 8) = reg ones ((frame s).drop 8) := by rw [gn, dd, fd, reg_laid, reg_laid]
  obtain ⟨k', b', hb', ekb⟩ := div_burst k b hb
  have x9 : g.drop 8 = xorNum ((frame s).drop 8) (2 ^ k' * b') := by rw [← hg, xorNum_drop, ekb]
  rw [x9] at r9
  have e9 : g.drop 8 = (frame s).drop 8 := by rw [x9, reg_burst _ _ k' b' hb' r9]
  rw [← List.take_append_drop 8 g, e8, e9, List.take_append_drop]
theorem and_parts (a b c d : Nat) (ha : a < 65536) (hc : c < 65536) : (65536 * b + a) &&& (65536 * d + c) = 65536 * (b &&& d) + (a &&& c) := by
  apply Nat.eq_of_testBit_eq
  intro i
  have e : ∀ x y : Nat, 65536 * x + y = 2 ^ 16 * x + y := by intro x y; rfl
  have hac : a &&& c < 2 ^ 16 := Nat.lt_of_le_of_lt Nat.and_le_left ha
  rw [Nat.testBit_and, e b a, e d c, e (b &&& d) (a &&& c), Nat.testBit_two_pow_mul_add _ ha, Nat.testBit_two_pow_mul_add _ hc, Nat.testBit_two_pow_mul_add _ hac]
  by_cases h : i < 16
  · simp [h]
  · simp [h]
theorem or_parts (a b c d : Nat) (ha : a < 65536) (hc : c < 65536) : (65536 * b + a) ||| (65536 * d + c) = 65536 * (b ||| d) + (a ||| c) := by
  apply Nat.eq_of_testBit_eq
  intro i
  have e : ∀ x y : Nat, 65536 * x + y = 2 ^ 16 * x + y := by intro x y; rfl
  have hac : a ||| c < 2 ^ 16 := Nat.or_lt_two_pow ha hc
  rw [Nat.testBit_or, e b a, e d c, e (b ||| d) (a ||| c), Nat.testBit_two_pow_mul_add _ ha, Nat.testBit_two_pow_mul_add _ hc, Nat.testBit_two_pow_mul_add _ hac]
  by_cases h : i < 16
  · simp [h]
  · simp [h]
theorem mask_bytes (n : Nat) : n &&& 16711935 = n % 256 + 65536 * (n / 65536 % 256) := by
  have h : n = 65536 * (n / 65536) + n % 65536 := by omega
  have h2 : 16711935 = 65536 * 255 + 255 := by decide
  conv => lhs; rw [h, h2]
  rw [and_parts _ _ _ _ (by omega) (by decide)]
  have m : ∀ x : Nat, x &&& 255 = x % 256 := fun x => Nat.and_two_pow_sub_one_eq_mod x 8
  rw [m, m]; omega
/-- a number's bytes, turned round -/
def rev (x : Nat) : Nat := x % 256 * 16777216 + x / 256 % 256 * 65536 + x / 65536 % 256 * 256 + x / 16777216
theorem rev_value (v : BitVec 32) : rev v.toNat = value (le4 v) := by
  have hv := v.isLt
  unfold le4 value rev
  have m : ∀ x : Nat, x % 256 % 2 ^ 8 = x % 256 := fun x => Nat.mod_mod x 256
  have m2 : v.toNat / 16777216 % 2 ^ 8 = v.toNat / 16777216 := Nat.mod_eq_of_lt (by omega)
  simp only [List.foldl_cons, List.foldl_nil, UInt8.toNat_ofNat', m, m2]
  generalize v.toNat % 256 = a
  generalize v.toNat / 256 % 256 = b
  generalize v.toNat / 65536 % 256 = c
  generalize v.toNat / 16777216 = d
  omega
theorem fixed_rev (v : BitVec 32) : fixed 4 (rev v.toNat) = le4 v := by
  rw [rev_value]
  exact fixed_value (le4 v)
end FrameP
