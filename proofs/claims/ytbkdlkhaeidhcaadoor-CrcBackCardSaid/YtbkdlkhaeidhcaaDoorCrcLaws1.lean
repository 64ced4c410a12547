/-
  The walks of the laws CrcSums and CrcFrames, and of the document's own Fixed and Frame.
-/
import Derived.Test.YtbkdlkhaeidhcaaDoorCrcAwake
namespace Go.Proofs.YtbkdlkhaeidhcaaDoor
open Go.RowKit Go.Deep CrcP CodecP FrameP

theorem u_of (n : Int) (h0 : 0 ≤ n) (h1 : n < 4294967296) : ∃ v : BitVec 32, n = u v := by
  refine ⟨BitVec.ofNat 32 n.toNat, ?_⟩
  unfold u
  rw [BitVec.toNat_ofNat]; omega
theorem u32_wf {n : Int} (h : (Lit.int .u32 n).wf = true) : 0 ≤ n ∧ n < 4294967296 := by
  have : 0 ≤ n ∧ n ≤ 4294967295 := by simpa [Lit.wf, IntKind.min, IntKind.max, IntKind.signed, IntKind.bits] using h
  omega
theorem crcSums_law (s : ByteArray) (n : Int) (w : World) (hw : (Lit.int .u32 n).wf = true) (hs : s.size ≤ maxLen) (hn : Nibs w) :
    Calls Tryd.prog 7 #[.string s, .int .u32 n] w fun e w' => e = .returned (.bool true) ∧ Below w.heap.size w w' := by
  obtain ⟨v, rfl⟩ := u_of n (u32_wf hw).1 (u32_wf hw).2
  have HN := Lib.hid hn
  have HS := Lib.hid hs
  unfold maxLen at hs
  clear hn hw
  by_cases hlong : 2000 < s.size
  · go_enter Tryd.func7, Tryd.ntmps7
    go_wp2_with fail
    refine (crcAwake_any _ HN.out).mono ?_
    rintro e w1 ⟨rfl, hb⟩
    go_wp2
    go_ret
    exact ⟨rfl, hb⟩
  · go_enter Tryd.func7, Tryd.ntmps7
    go_wp2_with fail
    refine (sum_any s _ HS.out HN.out).mono ?_
    rintro e w1 ⟨rfl, rfl⟩
    go_wp2_with fail
    refine (refMore_at _ 0#32 rfl s _ HS.out).mono ?_
    rintro e w1 ⟨rfl, hb1⟩
    rw [show more 0#32 s.data.toList = CrcP.sum s.data.toList from rfl]
    go_wp2_with fail
    refine (more_any v s _ HS.out (HN.out.below hb1)).mono ?_
    rintro e w2 ⟨rfl, rfl⟩
    go_wp2_with fail
    refine (refMore_any v s _ HS.out).mono ?_
    rintro e w2 ⟨rfl, hb2⟩
    have hbel := hb1.trans (hb2.mono hb1.size)
    clear hb1 hb2
    go_wp2_with fail
    refine (laid_any s _ HS.out (HN.out.below hbel)).mono ?_
    rintro e w3 ⟨rfl, hb3⟩
    go_wp2_with fail
    refine (refLaid_any s _ HS.out).mono ?_
    rintro e w4 ⟨rfl, hb4⟩
    have hbel4 := (hbel.trans (hb3.mono hbel.size)).trans (hb4.mono (Nat.le_trans hbel.size hb3.size))
    clear hb3 hb4 hbel
    generalize str (laid (bl s)) = L
    go_wp2_with fail
    refine (crcAwake_any _ (HN.out.below hbel4)).mono ?_
    rintro e w5 ⟨rfl, hb⟩
    go_wp2
    go_ret
    exact ⟨rfl, hbel4.trans (hb.mono hbel4.size)⟩

theorem fixed_succ (k n : Nat) : ∃ l, fixed (k + 1) n = l ∧ l = fixed k (n / 256) ++ [UInt8.ofNat (n % 256)] := ⟨_, rfl, rfl⟩
/-- The document's fixed bytes: from the lowest on. -/
def low (k n : Nat) : List UInt8 := fixed k (n % 256 ^ k)
theorem fixed_mod (k : Nat) : ∀ n, fixed k n = fixed k (n % 256 ^ k) := by
  induction k with
  | zero => intro n; rfl
  | succ k ih =>
    intro n
    rw [fixed, fixed]
    have e1 : n % 256 ^ (k + 1) % 256 = n % 256 := Nat.mod_mod_of_dvd n ⟨256 ^ k, by rw [Nat.pow_succ, Nat.mul_comm]⟩
    have e2 : n % 256 ^ (k + 1) / 256 = n / 256 % 256 ^ k := by rw [Nat.pow_succ, Nat.mul_comm, Nat.mod_mul_right_div_self]
    rw [e1, e2, ← ih]
theorem fixed_high (k : Nat) : ∀ n, fixed (k + 1) n = UInt8.ofNat (n / 256 ^ k % 256) :: fixed k n := by
  induction k with
  | zero => intro n; simp [fixed]
  | succ k ih =>
    intro n
    rw [fixed, ih, Nat.div_div_eq_div_mul, List.cons_append]
    congr 2
    · rw [Nat.pow_succ, Nat.mul_comm]
theorem bl_append (a b : ByteArray) : bl (a ++ b) = bl a ++ bl b := by
  unfold bl; simp
theorem str_append (a b : List UInt8) : str a ++ str b = str (a ++ b) := by
  rw [← str_bl (str a ++ str b), bl_append, bl_str, bl_str]

set_option maxHeartbeats 400000 in
theorem refFixed_any (n size : Nat) (w : World) (h : size ≤ 8) (hn : n < 18446744073709551616) :
    Calls Tryd.prog 42 #[.int .u64 n, .int .i64 size] w fun e w' => e = .returned (.string (str (fixed size n))) ∧ Below w.heap.size w w' := by
  have hb0 := Below.refl w.heap.size w
  go_enter Tryd.func42, Tryd.ntmps42
  go_wp2
  go_loopw [0, 5, 6] (fun x t i wr => ∃ k : Nat, k ≤ size ∧ i = .int .i64 k ∧ x = .int .u64 (n / 256 ^ k : Nat) ∧ t = .string (str (fixed k n)) ∧ Below w.heap.size w wr) (fun _ _ i _ => size - (intOf i).toNat)
  case atStart => exact ⟨0, by omega, rfl, by simp, rfl, hb0⟩
  case round =>
    clear hb0
    obtain ⟨k, hk, rfl, rfl, rfl, hbel⟩ := hrel
    by_cases hlt : k < size
    · have hq : n / 256 ^ k < 18446744073709551616 := Nat.lt_of_le_of_lt (Nat.div_le_self _ _) hn
      have hst := fixed_high k n
      have hdiv : n / 256 ^ (k + 1) = n / 256 ^ k / 256 := by rw [Nat.pow_succ, Nat.div_div_eq_div_mul]
      generalize n / 256 ^ k = q at *
      have HD := Lib.hid hdiv
      have hone : strOfNums [((q : Int) % 256)] = str [UInt8.ofNat (q % 256)] := by
        unfold strOfNums str
        have : ((q : Int) % 256).toNat = q % 256 := by omega
        simp only [List.map_cons, List.map_nil, this]
      have hcv := run_convert_bytes_arg (P := Tryd.prog) (w := wr.alloc (.cells #[.int .u8 ((q : Int) % 256)] 5)) 45 5 Tryd.underlying45 Tryd.underlying5 wr.heap.size 0 1 1 [((q : Int) % 256)] rfl
        (fun i hi => by obtain rfl : i = 0 := by omega
                        simp) 9 Tryd.underlying9
      rw [hone] at hcv
      have happ := str_append [UInt8.ofNat (q % 256)] (fixed k n)
      have hbel2 := hbel.alloc hbel.size (.cells #[.int .u8 ((q : Int) % 256)] 5)
      have HST := Lib.hid hst
      have HA := Lib.hid happ
      clear hone hst happ hdiv
      have hsz : (str [UInt8.ofNat (q % 256)]).size + (str (fixed k n)).size ≤ 100 := by rw [str_size, str_size, fixed_length]; simp; omega
      generalize str [UInt8.ofNat (q % 256)] = b at *
      generalize str (fixed k n) = f at *
      go_wp2
      go_roundw
      case rel =>
        refine ⟨k + 1, by omega, by go_num, by rw [HD.out]; go_num, ?_, hbel2⟩
        rw [HST.out, ← List.singleton_append, ← HA.out]
      case measure => simp [intOf]; omega
    · obtain rfl : k = size := by omega
      go_wp2
      go_ret
      exact ⟨rfl, hbel⟩
theorem refFrame_str (s : ByteArray) : str (fixed 4 s.size) ++ str (laid (fixed 4 s.size)) ++ s ++ str (laid (bl s)) = str (frame (bl s)) := by
  conv => lhs; rw [← str_bl s]
  rw [str_append, str_append, str_append]
  rw [bl_str]
  rfl
set_option maxHeartbeats 400000 in
theorem refFrame_any (s : ByteArray) (w : World) (h : s.size ≤ 131072) :
    Calls Tryd.prog 31 #[.string s] w fun e w' => e = .returned (.string (str (frame (bl s)))) ∧ Below w.heap.size w w' := by
  have hfin := refFrame_str s
  have hsm : s.size ≤ maxLen := small _ (by omega)
  have HS := Lib.hid hsm
  have z1 : (str (fixed 4 s.size)).size = 4 := by rw [str_size, fixed_length]
  have z2 : (str (laid (fixed 4 s.size))).size = 4 := by rw [str_size, laid_length]
  have z3 : (str (laid (bl s))).size = 4 := by rw [str_size, laid_length]
  have hbs : laid (bl (str (fixed 4 s.size))) = laid (fixed 4 s.size) := by rw [bl_str]
  have HB := Lib.hid hbs
  have R1 := fun W => refFixed_any s.size 4 W (by omega) (by omega)
  have R2 := fun W => refLaid_any (str (fixed 4 s.size)) W (small _ (by omega))
  rw [hbs] at R2
  have R3 := fun W => refLaid_any s W hsm
  have HR1 := Lib.hid R1
  have HR2 := Lib.hid R2
  have HR3 := Lib.hid R3
  have y1 : (str (fixed 4 s.size)).size + (str (laid (fixed 4 s.size))).size ≤ 100 := by omega
  have y2 : (str (fixed 4 s.size) ++ str (laid (fixed 4 s.size))).size + s.size ≤ 1000000 := by rw [ByteArray.size_append]; omega
  have y3 : (str (fixed 4 s.size) ++ str (laid (fixed 4 s.size)) ++ s).size + (str (laid (bl s))).size ≤ 1000000 := by rw [ByteArray.size_append, ByteArray.size_append]; omega
  clear R1 R2 R3 z1 z2 z3 hbs hsm HB
  rw [← hfin]
  clear hfin
  generalize str (fixed 4 s.size) = f1 at *
  generalize str (laid (fixed 4 s.size)) = f2 at *
  generalize str (laid (bl s)) = f3 at *
  go_enter Tryd.func31, Tryd.ntmps31
  go_wp2_with fail
  refine (HR1.out _).mono ?_
  rintro e w1 ⟨rfl, hb1⟩
  go_wp2_with fail
  refine (HR2.out _).mono ?_
  rintro e w2 ⟨rfl, hb2⟩
  go_wp2_with fail
  refine (HR3.out _).mono ?_
  rintro e w3 ⟨rfl, hb3⟩
  have hbel := (hb1.trans (hb2.mono hb1.size)).trans (hb3.mono (Nat.le_trans hb1.size hb2.size))
  clear hb1 hb2 hb3
  go_wp2
  go_ret
  exact ⟨rfl, hbel⟩

theorem crcFrames_law (s : ByteArray) (w : World) (hs : s.size ≤ maxLen) (hn : Nibs w) :
    Calls Tryd.prog 8 #[.string s] w fun e w' => e = .returned (.bool true) ∧ Below w.heap.size w w' := by
  have HN := Lib.hid hn
  have HS := Lib.hid hs
  unfold maxLen at hs
  clear hn
  by_cases h1 : 131072 < s.size
  · go_enter Tryd.func8, Tryd.ntmps8
    go_wp2_with fail
    refine (frame_long s _ h1 HS.out).mono ?_
    rintro e w1 ⟨rfl, rfl⟩
    go_wp2_with fail
    refine (crcAwake_any _ HN.out).mono ?_
    rintro e w1 ⟨rfl, hb⟩
    go_wp2
    go_ret
    exact ⟨rfl, hb⟩
  · by_cases h2 : 2000 < s.size
    · go_enter Tryd.func8, Tryd.ntmps8
      go_wp2_with fail
      refine (crcAwake_any _ HN.out).mono ?_
      rintro e w1 ⟨rfl, hb⟩
      go_wp2
      go_ret
      exact ⟨rfl, hb⟩
    · go_enter Tryd.func8, Tryd.ntmps8
      go_wp2_with fail
      refine (frame_any s _ (by omega) HN.out).mono ?_
      rintro e w1 ⟨rfl, hb1⟩
      go_wp2_with fail
      refine (refFrame_any s _ (by omega)).mono ?_
      rintro e w2 ⟨rfl, hb2⟩
      have hbel := hb1.trans (hb2.mono hb1.size)
      clear hb1 hb2
      generalize str (frame (bl s)) = F
      go_wp2_with fail
      refine (crcAwake_any _ (HN.out.below hbel)).mono ?_
      rintro e w3 ⟨rfl, hb⟩
      go_wp2
      go_ret
      exact ⟨rfl, hbel.trans (hb.mono hbel.size)⟩
end Go.Proofs.YtbkdlkhaeidhcaaDoor
