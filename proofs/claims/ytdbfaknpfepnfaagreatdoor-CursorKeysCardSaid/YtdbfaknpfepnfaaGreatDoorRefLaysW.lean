
/-
  The walks of the document's Signed, Fixed, Text.
-/
import Derived.Test.YtdbfaknpfepnfaaGreatDoorSizesW
namespace Go.Proofs.YtdbfaknpfepnfaaGreatDoor
open Go.RowKit CodecP

theorem fixed_high (k : Nat) : ∀ n, fixed (k + 1) n = UInt8.ofNat (n / 256 ^ k % 256) :: fixed k n := by
  induction k with
  | zero => intro n; simp [fixed]
  | succ k ih =>
    intro n
    rw [fixed, ih, Nat.div_div_eq_div_mul, List.cons_append]
    congr 2
    · rw [Nat.pow_succ, Nat.mul_comm]
set_option maxHeartbeats 400000 in
theorem refFixed_any (n size : Nat) (w : World) (h : size ≤ 8) (hn : n < 18446744073709551616) :
    Calls Tryz.prog 63 #[.int .u64 n, .int .i64 size] w fun e w' => e = .returned (.string (str (fixed size n))) ∧ Below w.heap.size w w' := by
  have hb0 := Below.refl w.heap.size w
  go_enter Tryz.func63, Tryz.ntmps63
  go_wp2
  go_loopw [0, 5, 6] (fun x t i wr => ∃ k : Nat, k ≤ size ∧ i = .int .i64 k ∧ x = .int .u64 (n / 256 ^ k : Nat) ∧ t = .string (str (fixed k n)) ∧ Below w.heap.size w wr) (fun _ _ i _ => size - (intOf i).toNat)
  case atStart => exact ⟨0, by omega, rfl, by simp, rfl, hb0⟩
  case round =>
    clear hb0
    obtain ⟨k, hk, rfl, rfl, rfl, hbel⟩ := hrel
    by_cases hlt : k < size
    · have hq : n / 256 ^ k < 18446744073709551616 := Nat.lt_of_le_of_lt (Nat.div_le_self _ _) hn
      have hst := fixed_high k n
      have hdiv : n / 256 ^ (k + 1) = n / 256 ^ k / 256 := by rw [Nat.pow_succ, Nat.div_div_eq_div_mul]
      generalize n / 256 ^ k = q at *
      have HD := Lib.hid hdiv
      have hone : strOfNums [((q : Int) % 256)] = str [UInt8.ofNat (q % 256)] := by
        unfold strOfNums str
        have : ((q : Int) % 256).toNat = q % 256 := by omega
        simp only [List.map_cons, List.map_nil, this]
      have hcv := run_convert_bytes_arg (P := Tryz.prog) (w := wr.alloc (.cells #[.int .u8 ((q : Int) % 256)] 5)) 94 5 Tryz.underlying94 Tryz.underlying5 wr.heap.size 0 1 1 [((q : Int) % 256)] rfl
        (fun i hi => by obtain rfl : i = 0 := by omega
                        simp) 9 Tryz.underlying9
      rw [hone] at hcv
      have happ := str_append [UInt8.ofNat (q % 256)] (fixed k n)
      have hbel2 := hbel.alloc hbel.size (.cells #[.int .u8 ((q : Int) % 256)] 5)
      have HST := Lib.hid hst
      have HA := Lib.hid happ
      clear hone hst happ hdiv
      have hsz : (str [UInt8.ofNat (q % 256)]).size + (str (fixed k n)).size ≤ 100 := by rw [str_size, str_size, fixed_length]; simp; omega
      generalize str [UInt8.ofNat (q % 256)] = b at *
      generalize str (fixed k n) = f at *
      go_wp2
      go_roundw
      case rel =>
        refine ⟨k + 1, by omega, by go_num, by rw [HD.out]; go_num, ?_, hbel2⟩
        rw [HST.out, ← List.singleton_append, ← HA.out]
      case measure => simp [intOf]; omega
    · obtain rfl : k = size := by omega
      go_wp2
      go_ret
      exact ⟨rfl, hbel⟩
end Go.Proofs.YtdbfaknpfepnfaaGreatDoor
