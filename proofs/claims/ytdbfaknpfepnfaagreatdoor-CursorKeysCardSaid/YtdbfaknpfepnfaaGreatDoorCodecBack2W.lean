
/-
  The walk of the law CodecBack.
-/
import Derived.Test.YtdbfaknpfepnfaaGreatDoorCodecBackW
namespace Go.Proofs.YtdbfaknpfepnfaaGreatDoor
open Go.RowKit CodecP

theorem bl_append (a b : ByteArray) : bl (a ++ b) = bl a ++ bl b := by
  unfold bl; simp
theorem str_append (a b : List UInt8) : str a ++ str b = str (a ++ b) := by
  rw [← str_bl (str a ++ str b), bl_append, bl_str, bl_str]

set_option maxHeartbeats 400000 in
theorem str_size (l : List UInt8) : (str l).size = l.length := by simp [str, ByteArray.size]
theorem bl_take (a : ByteArray) (n : Nat) : bl (a.extract 0 n) = (bl a).take n := by rw [ext_bl]; simp
theorem turn_by (by_ : Int) (n : Nat) (h : 0 < n) (h2 : n ≤ 4611686018427387904) : ∃ t : Nat, t < n ∧ wrap64 ((IntKind.u64.wrap by_).tmod (n : Int)) = (t : Int) := by
  rw [IntKind.wrap_u64]
  have h0 : 0 ≤ by_ % 18446744073709551616 := Int.emod_nonneg _ (by decide)
  rw [Int.tmod_eq_emod_of_nonneg h0]
  have h1 := Int.emod_nonneg (by_ % 18446744073709551616) (show (n : Int) ≠ 0 by omega)
  have h3 := Int.emod_lt_of_pos (by_ % 18446744073709551616) (show (0 : Int) < n by omega)
  refine ⟨(by_ % 18446744073709551616 % (n : Int)).toNat, by omega, ?_⟩
  rw [IntWalk.wrap64_in _ ⟨by omega, by omega⟩]
  omega
theorem grp_pos (n : Nat) : 1 ≤ (grp n).length := by unfold grp groups; split <;> simp
end Go.Proofs.YtdbfaknpfepnfaaGreatDoor
