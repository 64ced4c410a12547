
/-
  The walks of a writer's Size, Signed, Fixed8, Text; of a writer that there isn't.
-/
import Derived.Test.YtdbfaknpfepnfaaGreatDoorWriter3W
namespace Go.Proofs.YtdbfaknpfepnfaaGreatDoor
open Go.RowKit CodecP

theorem size_any (p o : Nat) (cs : Array Value) (t : TypeId) (g : Option Nat) (l : List UInt8) (n : Int) (w : World) (h : Wr w p o cs t g l) (h1 : -9223372036854775808 ≤ n) (h2 : n < 9223372036854775808) (hlen : l.length + 16 ≤ 1099511627776) :
    Calls Tryz.prog 111 #[.pointer (some ⟨p, o, none⟩), .int .i64 n] w fun e w' => e = .returned (.pointer (some ⟨p, o, none⟩)) ∧ WrBy w w' p o cs t g (l ++ grp n.toNat) := by
  by_cases hz : n < 0
  · rw [show n.toNat = 0 by omega]
    have RG := Lib.hid (wgroups_any p o cs t g l 0 w h (by decide) hlen)
    clear h h1 h2 hlen
    go_enter Tryz.func111, Tryz.ntmps111
    go_wp2_with fail
    refine RG.out.mono ?_
    rintro e w' ⟨rfl, hby⟩
    go_wp2
    go_ret
    exact ⟨rfl, hby⟩
  · obtain ⟨k, rfl⟩ : ∃ k : Nat, n = (k : Int) := ⟨n.toNat, by omega⟩
    rw [Int.toNat_natCast]
    have RG := Lib.hid (wgroups_any p o cs t g l k w h (by omega) hlen)
    have hw : IntKind.u64.wrap (k : Int) = (k : Int) := by rw [IntKind.wrap_u64]; omega
    clear h h1 hlen hz
    go_enter Tryz.func111, Tryz.ntmps111
    go_wp2_with fail
    refine RG.out.mono ?_
    rintro e w' ⟨rfl, hby⟩
    go_wp2
    go_ret
    exact ⟨rfl, hby⟩
theorem xor_max (a : Nat) (h : a < 18446744073709551616) : a ^^^ 18446744073709551615 = 18446744073709551615 - a := by
  have e1 : (BitVec.ofNat 64 a ^^^ BitVec.allOnes 64).toNat = a ^^^ 18446744073709551615 := by
    rw [BitVec.toNat_xor, BitVec.toNat_ofNat, Nat.mod_eq_of_lt h]; rfl
  rw [← e1, BitVec.xor_allOnes, BitVec.toNat_not, BitVec.toNat_ofNat, Nat.mod_eq_of_lt h]
theorem zig_neg (n : Int) (h1 : -9223372036854775808 ≤ n) (h2 : n < 0) : bits .xor .u64 (IntKind.u64.wrap (IntKind.u64.wrap n * 2)) (IntKind.u64.wrap (n / 9223372036854775808)) = ((zig n : Nat) : Int) := by
  have e1 : IntKind.u64.wrap (IntKind.u64.wrap n * 2) = (((2 * n + 18446744073709551616).toNat : Nat) : Int) := by
    rw [IntKind.wrap_u64, IntKind.wrap_u64]; omega
  have e2 : IntKind.u64.wrap (n / 9223372036854775808) = ((18446744073709551615 : Nat) : Int) := by
    rw [IntKind.wrap_u64]; omega
  rw [e1, e2, u64_xor_nat _ _ (by omega) (by omega), xor_max _ (by omega)]
  unfold zig
  rw [if_neg (by omega)]
  congr 1
  omega
theorem zig_pos (n : Int) (h1 : 0 ≤ n) (h2 : n < 9223372036854775808) : bits .xor .u64 (n * 2) (n / 9223372036854775808) = ((zig n : Nat) : Int) := by
  rw [show n * 2 = (((2 * n).toNat : Nat) : Int) by omega, show n / 9223372036854775808 = ((0 : Nat) : Int) by omega, u64_xor_nat _ _ (by omega) (by omega), Nat.xor_zero]
  unfold zig
  rw [if_pos h1]
theorem fixed8_any (p o : Nat) (cs : Array Value) (t : TypeId) (g : Option Nat) (l : List UInt8) (n : Nat) (w : World) (h : Wr w p o cs t g l) (hlen : l.length + 8 ≤ 1099511627776) :
    Calls Tryz.prog 61 #[.pointer (some ⟨p, o, none⟩), .int .u64 n] w fun e w' => e = .returned (.pointer (some ⟨p, o, none⟩)) ∧ WrBy w w' p o cs t g (l ++ fixed 8 n) := by
  have H := Lib.hid h
  clear h
  go_enter Tryz.func61, Tryz.ntmps61
  go_wp2_with fail
  refine (fixed_any p o cs t g l n 8 w H.out (by omega) hlen).mono ?_
  rintro e w' ⟨rfl, hby⟩
  go_wp2
  go_ret
  exact ⟨rfl, hby⟩
theorem grp_length (n : Nat) : (grp n).length ≤ 10 := groups_length 9 n
end Go.Proofs.YtdbfaknpfepnfaaGreatDoor
