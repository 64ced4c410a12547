/-
  The walk of the document's Turned, and of the law CrcTurned.
-/
import Derived.Test.YtbkdlkhaeidhcaaDoorCrcPatW
namespace Go.Proofs.YtbkdlkhaeidhcaaDoor
open Go.RowKit Go.Deep CrcP CodecP FrameP

theorem xor_pow (x n : Nat) (h : x < 2 ^ n) : x ^^^ 2 ^ n = x + 2 ^ n := by
  apply Nat.eq_of_testBit_eq
  intro i
  rw [Nat.testBit_xor, Nat.testBit_two_pow, Nat.add_comm]
  by_cases e : n = i
  · subst e
    rw [Nat.testBit_two_pow_add_eq, Nat.testBit_lt_two_pow h]; simp
  · by_cases h2 : i < n
    · rw [Nat.testBit_two_pow_add_gt h2]; simp [e]
    · have h3 : 2 ^ n + x < 2 ^ i := by
        have : 2 ^ (n + 1) ≤ 2 ^ i := Nat.pow_le_pow_right (by omega) (by omega)
        rw [Nat.pow_succ] at this; omega
      have h4 : x < 2 ^ i := by omega
      rw [Nat.testBit_lt_two_pow h3, Nat.testBit_lt_two_pow h4]; simp [e]
theorem xorNum_getD (l : List UInt8) : ∀ X j, j < l.length → (xorNum l X).getD j 0 = l.getD j 0 ^^^ UInt8.ofNat (X / 256 ^ j % 256) := by
  induction l with
  | nil => intro X j h; simp at h
  | cons c l ih =>
    intro X j h
    cases j with
    | zero => simp [xorNum]
    | succ j =>
      have := ih (X / 256) j (by simpa using h)
      rw [Nat.div_div_eq_div_mul, Nat.mul_comm 256, ← Nat.pow_succ] at this
      simpa [xorNum] using this
theorem xorNum_set (l : List UInt8) (X j t : Nat) (ht : t < 8) : (xorNum l X).set j ((xorNum l X).getD j 0 ^^^ UInt8.ofNat (2 ^ t)) = xorNum l (X ^^^ 2 ^ (8 * j + t)) := by
  apply List.ext_getElem?
  intro i
  by_cases hi : i < l.length
  · have e1 : ∀ m : List UInt8, m.length = l.length → m[i]? = some (m.getD i 0) := by
      intro m hm; rw [List.getD_eq_getElem?_getD, List.getElem?_eq_getElem (by omega)]; simp
    rw [e1 _ (by rw [List.length_set, xorNum_length]), e1 _ (xorNum_length _ _)]
    congr 1
    have hpow : 256 ^ i = 2 ^ (8 * i) := by rw [Nat.pow_mul]
    rw [xorNum_getD _ _ _ hi, hpow, Nat.xor_div_two_pow, ofNat8_xor]
    by_cases e : i = j
    · subst e
      have : ((xorNum l X).set i ((xorNum l X).getD i 0 ^^^ UInt8.ofNat (2 ^ t))).getD i 0 = (xorNum l X).getD i 0 ^^^ UInt8.ofNat (2 ^ t) := by
        simp [List.getD_eq_getElem?_getD, xorNum_length, hi]
      rw [this, xorNum_getD _ _ _ hi, hpow, UInt8.xor_assoc]
      congr 2
      have h2 : 2 ^ (8 * i + t) / 2 ^ (8 * i) = 2 ^ t := by rw [Nat.pow_add, Nat.mul_div_cancel_left _ (Nat.two_pow_pos _)]
      rw [h2, Nat.mod_eq_of_lt]
      have : 2 ^ t ≤ 2 ^ 7 := Nat.pow_le_pow_right (by omega) (by omega)
      omega
    · have : ((xorNum l X).set j ((xorNum l X).getD j 0 ^^^ UInt8.ofNat (2 ^ t))).getD i 0 = (xorNum l X).getD i 0 := by
        simp [List.getD_eq_getElem?_getD, List.getElem?_set_ne (Ne.symm e)]
      rw [this, xorNum_getD _ _ _ hi, hpow]
      have hz : 2 ^ (8 * j + t) / 2 ^ (8 * i) % 256 = 0 := by
        rcases Nat.lt_or_ge i j with h | h
        · have : 2 ^ (8 * j + t) = 2 ^ (8 * i) * (2 ^ (8 * (j - i - 1) + t) * 256) := by
            rw [show (256 : Nat) = 2 ^ 8 from rfl, ← Nat.pow_add, ← Nat.pow_add]; congr 1; omega
          rw [this, Nat.mul_div_cancel_left _ (Nat.two_pow_pos _), Nat.mul_mod_left]
        · have : 2 ^ (8 * j + t) < 2 ^ (8 * i) := Nat.pow_lt_pow_right (by omega) (by omega)
          rw [Nat.div_eq_of_lt this]
      rw [hz]; simp
  · rw [List.getElem?_eq_none (by rw [List.length_set, xorNum_length]; omega), List.getElem?_eq_none (by rw [xorNum_length]; omega)]
/-- Bytes with the first bits of a burst turned. -/
def turnTo (l : List UInt8) (k b i : Nat) : List UInt8 := xorNum l (2 ^ k * (b % 2 ^ i))
theorem turnTo_zero (l : List UInt8) (k b : Nat) : turnTo l k b 0 = l := by unfold turnTo; rw [Nat.pow_zero, Nat.mod_one, Nat.mul_zero, xorNum_zero]
theorem turnTo_length (l : List UInt8) (k b i : Nat) : (turnTo l k b i).length = l.length := xorNum_length _ _
theorem mod_succ (b i : Nat) : b % 2 ^ (i + 1) = b % 2 ^ i + 2 ^ i * (b / 2 ^ i % 2) := by
  rw [Nat.pow_succ, Nat.mod_mul]
theorem turnTo_no (l : List UInt8) (k b i : Nat) (h : b / 2 ^ i % 2 = 0) : turnTo l k b (i + 1) = turnTo l k b i := by
  unfold turnTo; rw [mod_succ, h]; simp
theorem turnTo_yes (l : List UInt8) (k b i : Nat) (h : b / 2 ^ i % 2 = 1) : turnTo l k b (i + 1) = (turnTo l k b i).set ((k + i) / 8) ((turnTo l k b i).getD ((k + i) / 8) 0 ^^^ UInt8.ofNat (2 ^ ((k + i) % 8))) := by
  unfold turnTo
  rw [xorNum_set _ _ _ _ (by omega), mod_succ, h, Nat.mul_one]
  congr 1
  have e : 8 * ((k + i) / 8) + (k + i) % 8 = k + i := by omega
  rw [e, Nat.mul_add, ← Nat.pow_add]
  refine (xor_pow _ _ ?_).symm
  rw [Nat.pow_add]
  exact Nat.mul_lt_mul_of_pos_left (Nat.mod_lt _ (Nat.two_pow_pos _)) (Nat.two_pow_pos _)
/-- All that a burst turns. -/
def turned (l : List UInt8) (k b : Nat) : List UInt8 := xorNum l (2 ^ k * b)
theorem turnTo_all (l : List UInt8) (k b i : Nat) (hb : b < 4294967296) (h : i = 32 ∨ (i ≤ 32 ∧ 8 * l.length ≤ k + i)) : turnTo l k b i = turned l k b := by
  unfold turnTo turned
  rcases h with rfl | ⟨_, h⟩
  · rw [Nat.mod_eq_of_lt (by simpa using hb)]
  · rw [xorNum_mod l (2 ^ k * (b % 2 ^ i)), xorNum_mod l (2 ^ k * b)]
    congr 1
    have e : 256 ^ l.length = 2 ^ (8 * l.length) := by rw [Nat.pow_mul]
    rw [e]
    have hd : ∃ c, 2 ^ k * 2 ^ i = 2 ^ (8 * l.length) * c := ⟨2 ^ (k + i - 8 * l.length), by rw [← Nat.pow_add, ← Nat.pow_add]; congr 1; omega⟩
    obtain ⟨c, hc⟩ := hd
    have : 2 ^ k * b = 2 ^ k * (b % 2 ^ i) + 2 ^ (8 * l.length) * (c * (b / 2 ^ i)) := by
      conv => lhs; rw [← Nat.mod_add_div b (2 ^ i)]
      rw [Nat.mul_add, ← Nat.mul_assoc (2 ^ k), hc, Nat.mul_assoc]
    rw [this, Nat.add_mul_mod_self_left]
theorem xor_shl (c : UInt8) (t : Nat) (ht : t < 8) : bits .xor .u8 (c.toNat : Int) ((2 : Int) ^ t % 256) = ((c ^^^ UInt8.ofNat (2 ^ t)).toNat : Int) := by
  have := c.toNat_lt
  have h : 2 ^ t < 256 := by
    have : 2 ^ t ≤ 2 ^ 7 := Nat.pow_le_pow_right (by omega) (by omega)
    omega
  have e : (2 : Int) ^ t % 256 = ((2 ^ t : Nat) : Int) := by
    rw [show (2 : Int) ^ t = ((2 ^ t : Nat) : Int) by simp]
    generalize 2 ^ t = q at *
    omega
  rw [e, u8_xor_nat _ _ (by omega) h, UInt8.toNat_xor, UInt8.toNat_ofNat', Nat.mod_eq_of_lt h]
theorem test5 (b i : Nat) : (((b : Int) / 2 ^ i).tmod 2 == 1) = (b / 2 ^ i % 2 == 1) := by
  have e2 : (b : Int) / 2 ^ i = ((b / 2 ^ i : Nat) : Int) := by simp
  rw [e2]
  generalize b / 2 ^ i = n
  rw [Int.tmod_eq_emod_of_nonneg (by omega), Bool.eq_iff_iff]
  simp only [beq_iff_eq]
  omega

set_option maxHeartbeats 1000000 in
theorem turned_any (s : ByteArray) (k b : Nat) (w : World) (hs : s.size ≤ 1000000) (hk : k ≤ 8 * s.size) (hb : b < 4294967296) :
    Calls Tryd.prog 32 #[.string s, .int .i64 k, .int .u32 b] w fun e w' => e = .returned (.string (str (turned (bl s) k b))) ∧ Below w.heap.size w w' := by
  have hcv := fun W => Lib.run_convert_string_bytes (P := Tryd.prog) W 9 45 5 s Tryd.underlying9 Tryd.underlying45 Tryd.underlying5
  have hlb : (bl s).length = s.size := rfl
  have HLB := Lib.hid hlb
  clear hlb
  go_enter Tryd.func32, Tryd.ntmps32
  go_wp2
  clear hcv
  have hrow0 := BRow.new (Below.refl w.heap.size w) s
  generalize Lib.bytesWorld w 5 s = W at *
  generalize grownCap w s.size 0 5 = cap at *
  go_loopw [8] (fun i wr => ∃ c : Nat, c ≤ 32 ∧ i = .int .i64 c ∧ BRow w wr w.heap.size (turnTo (bl s) k b c)) (fun i _ => 32 - (intOf i).toNat)
  case atStart => exact ⟨0, by omega, rfl, by rw [turnTo_zero]; exact hrow0⟩
  case round =>
    clear hrow0
    obtain ⟨c, hc, rfl, hrow⟩ := hrel
    by_cases hlt : c < 32 ∧ k + c < 8 * s.size
    · obtain ⟨hl1, hl2⟩ := hlt
      have hlen : (turnTo (bl s) k b c).length = s.size := by rw [turnTo_length]; exact HLB.out
      have c1 := hrow.cell ((k + c) / 8) (by omega)
      have f1 := hrow.free ((k + c) / 8) (by omega)
      have ht := test5 b c
      by_cases hbit : b / 2 ^ c % 2 = 1
      · have hx := xor_shl ((turnTo (bl s) k b c).getD ((k + c) / 8) 0) ((k + c) % 8) (by omega)
        have hset := hrow.set ((k + c) / 8) (by omega) ((turnTo (bl s) k b c).getD ((k + c) / 8) 0 ^^^ UInt8.ofNat (2 ^ ((k + c) % 8)))
        rw [← turnTo_yes (bl s) k b c hbit] at hset
        have hbb : (b / 2 ^ c % 2 == 1) = true := by rw [hbit]; rfl
        rw [hbb] at ht
        generalize (turnTo (bl s) k b c).getD ((k + c) / 8) 0 = x at *
        generalize x ^^^ UInt8.ofNat (2 ^ ((k + c) % 8)) = y at *
        have HSET := Lib.hid hset
        clear hset hrow hlen hbit hbb
        go_wp2
        go_region
        go_wp2
        go_roundw
        case rel => exact ⟨c + 1, by omega, by go_num, HSET.out.drew⟩
        case measure => simp [intOf]; omega
      · have hbb : (b / 2 ^ c % 2 == 1) = false := by simpa using hbit
        have hno := turnTo_no (bl s) k b c (by omega)
        rw [← hno] at hrow
        rw [hbb] at ht
        have HR := Lib.hid hrow
        clear hrow hno hbit hbb hlen c1 f1
        go_wp2
        go_roundw
        case rel => exact ⟨c + 1, by omega, by go_num, HR.out⟩
        case measure => simp [intOf]; omega
    · have hall := turnTo_all (bl s) k b c hb (by rw [HLB.out]; omega)
      rw [hall] at hrow
      have hlen : (turned (bl s) k b).length = s.size := by unfold turned; rw [xorNum_length]; exact HLB.out
      have hcvt := hrow.text cap
      rw [hlen] at hcvt
      have hbel := hrow.below
      clear hall hrow hlen
      by_cases h32 : c < 32
      · have h8 : ¬ k + c < 8 * s.size := by omega
        clear hlt
        go_wp2
        go_ret
        exact ⟨rfl, hbel⟩
      · clear hlt
        go_wp2
        go_ret
        exact ⟨rfl, hbel⟩

theorem crcTurned_short (s : ByteArray) (a b : Int) (w : World) (h : s.size = 0 ∨ 2000 < s.size ∨ b = 0) (hs : s.size ≤ maxLen) (hn : Nibs w) :
    Calls Tryd.prog 9 #[.string s, .int .i64 a, .int .u32 b] w fun e w' => e = .returned (.bool true) ∧ Below w.heap.size w w' := by
  have HN := Lib.hid hn
  unfold maxLen at hs
  clear hn
  by_cases h0 : s.size = 0
  · have hz : ((s.size : Int) == 0) = true := by rw [beq_iff_eq]; omega
    clear h h0 hs
    go_enter Tryd.func9, Tryd.ntmps9
    go_wp2_with fail
    refine (crcAwake_any _ HN.out).mono ?_
    rintro e w1 ⟨rfl, hb⟩
    go_wp2
    go_ret
    exact ⟨rfl, hb⟩
  · have hz : ((s.size : Int) == 0) = false := by rw [beq_eq_false_iff_ne]; omega
    by_cases h2 : 2000 < s.size
    · clear h h0
      go_enter Tryd.func9, Tryd.ntmps9
      go_wp2_with fail
      refine (crcAwake_any _ HN.out).mono ?_
      rintro e w1 ⟨rfl, hb⟩
      go_wp2
      go_ret
      exact ⟨rfl, hb⟩
    · obtain rfl : b = 0 := by omega
      clear h h0
      go_enter Tryd.func9, Tryd.ntmps9
      go_wp2_with fail
      refine (crcAwake_any _ HN.out).mono ?_
      rintro e w1 ⟨rfl, hb⟩
      go_wp2
      go_ret
      exact ⟨rfl, hb⟩

end Go.Proofs.YtbkdlkhaeidhcaaDoor
