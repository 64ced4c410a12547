
/-
  The walks of a writer's groups, Size, Signed, Fixed8, Text.
-/
import Derived.Test.YtdbfaknpfepnfaaDoorWriter2W
namespace Go.Proofs.YtdbfaknpfepnfaaDoor
open Go.RowKit CodecP

theorem groups_low (f n : Nat) (h : n < 128) : groups f n = [UInt8.ofNat n] := by cases f <;> simp [groups, h]
theorem groups_high (f n : Nat) (h : ¬ n < 128) : groups (f + 1) n = UInt8.ofNat (n % 128 + 128) :: groups f (n / 128) := by simp [groups, h]
theorem groups_length (f : Nat) : ∀ n, (groups f n).length ≤ f + 1 := by
  induction f with
  | zero => intro n; simp [groups]
  | succ f ih => intro n; simp only [groups]; split <;> simp; exact ih _
theorem or128 (n : Nat) : bits .or .u8 (((n : Int)) % 256) 128 = ((n % 128 + 128 : Nat) : Int) := by
  rw [show (n : Int) % 256 = ((n % 256 : Nat) : Int) by omega, show (128 : Int) = ((128 : Nat) : Int) from rfl, u8_or_nat _ _ (by omega) (by omega)]
  congr 1
  have h : n % 256 = 128 * (n / 128 % 2) + n % 128 := by omega
  rw [h]
  rcases Nat.mod_two_eq_zero_or_one (n / 128) with e | e <;> rw [e]
  · rw [show 128 * 0 + n % 128 = n % 128 by omega]
    have := Nat.two_pow_add_eq_or_of_lt (i := 7) (b := n % 128) (by omega) 1
    rw [show (2 : Nat) ^ 7 * 1 = 128 from rfl] at this
    rw [Nat.or_comm, ← this]; omega
  · have := Nat.two_pow_add_eq_or_of_lt (i := 7) (b := n % 128) (by omega) 1
    rw [show (2 : Nat) ^ 7 * 1 = 128 from rfl] at this
    rw [show 128 * 1 + n % 128 = 128 + n % 128 by omega, this, Nat.or_assoc, Nat.or_comm (n % 128) 128, ← Nat.or_assoc, Nat.or_self, ← this]
    omega
end Go.Proofs.YtdbfaknpfepnfaaDoor
