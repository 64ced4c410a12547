/-
  The walks of bloom.Bits and bloom.Places, and of the document's own.
-/
import Derived.Test.YtbkdlkhaeidhcaaDoorRefCrcW
import Derived.Test.YtbkdlkhaeidhcaaDoorBloomP
import Derived.Handy
namespace Go.Proofs.YtbkdlkhaeidhcaaDoor
open Go.RowKit Go.Deep CrcP BloomP

theorem ret_i64 {a b : Int} (h : a = b) : Ending.returned (.int .i64 a) = .returned (.int .i64 b) := by rw [h]

theorem bits_any (n : Int) (w : World) :
    Calls Tryd.prog 17 #[.int .i64 n] w fun e w' => e = .returned (.int .i64 (bitsOf n : Nat)) ∧ w = w' := by
  have hb : (bitsOf n : Int) = max ((10 * min (max n 0) 1048576 + 7) / 8 * 8) 64 := by unfold bitsOf; omega
  generalize bitsOf n = r at *
  have HB := Lib.hid hb
  clear hb
  by_cases h1 : n < 0
  · go_enter Tryd.func17, Tryd.ntmps17
    go_wp2
    go_ret
    exact ⟨ret_i64 (by rw [HB.out]; omega), rfl⟩
  · by_cases h2 : 1048576 < n
    · go_enter Tryd.func17, Tryd.ntmps17
      go_wp2
      go_ret
      exact ⟨ret_i64 (by rw [HB.out]; omega), rfl⟩
    · by_cases h3 : n < 7
      · have h4 : (10 * n + 7) / 8 * 8 ≤ 64 := by omega
        go_enter Tryd.func17, Tryd.ntmps17
        go_wp2
        all_goals go_ret
        all_goals exact ⟨ret_i64 (by rw [HB.out]; omega), rfl⟩
      · have h4 : 64 ≤ (10 * n + 7) / 8 * 8 := by omega
        go_enter Tryd.func17, Tryd.ntmps17
        go_wp2
        all_goals go_ret
        all_goals exact ⟨ret_i64 (by rw [HB.out]; omega), rfl⟩

theorem refBits_core (n : Int) (h1 : n ≤ 1048576) (w : World) :
    Calls Tryd.prog 18 #[.int .i64 n] w fun e w' => e = .returned (.int .i64 (bitsOf n : Nat)) ∧ w = w' := by
  have hb : (bitsOf n : Int) = max ((10 * min (max n 0) 1048576 + 7) / 8 * 8) 64 := by unfold bitsOf; omega
  generalize bitsOf n = r at *
  have HB := Lib.hid hb
  clear hb
  go_enter Tryd.func18, Tryd.ntmps18
  go_wp2
  go_loop [3] (fun b => ∃ k : Nat, 8 ≤ k ∧ (k = 8 ∨ 8 * ((k : Int) - 1) < 10 * n) ∧ b = .int .i64 k) (fun b => (10 * n - 8 * intOf b).toNat)
  case atStart => exact ⟨8, by omega, by omega, rfl⟩
  case round =>
    obtain ⟨k, hk, hk2, rfl⟩ := hrel
    have HK := Lib.hid hk2
    have hk3 : k ≤ 1310721 := by omega
    clear hk2
    by_cases hn : 0 < n
    · by_cases hlt : 8 * (k : Int) < 10 * n
      · by_cases h5 : 8 * (k : Int) + 4096 < 10 * n
        · go_wp2
          go_round
          case rel => exact ⟨k + 512, by omega, by omega, by go_num⟩
          case measure => simp [intOf]; omega
        · go_wp2
          go_round
          case rel => exact ⟨k + 1, by omega, by omega, by go_num⟩
          case measure => simp [intOf]; omega
      · go_wp2
        go_ret
        exact ⟨ret_i64 (by rw [HB.out]; have := HK.out; omega), rfl⟩
    · go_wp2
      go_ret
      exact ⟨ret_i64 (by rw [HB.out]; have := HK.out; omega), rfl⟩
theorem refBits_big (n : Int) (h1 : 1048576 < n) (w : World) :
    Calls Tryd.prog 18 #[.int .i64 n] w fun e w' => e = .returned (.int .i64 (bitsOf n : Nat)) ∧ w = w' := by
  have hb : (bitsOf n : Int) = 10485760 := by unfold bitsOf; omega
  generalize bitsOf n = r at *
  have HB := Lib.hid hb
  clear hb
  go_enter Tryd.func18, Tryd.ntmps18
  go_wp2
  go_loop [3] (fun b => ∃ k : Nat, 8 ≤ k ∧ 8 * ((k : Int) - 1) < 10485760 ∧ b = .int .i64 k) (fun b => (10485760 - 8 * intOf b).toNat)
  case atStart => exact ⟨8, by omega, by omega, rfl⟩
  case round =>
    obtain ⟨k, hk, hk2, rfl⟩ := hrel
    have hk3 : k ≤ 1310721 := by omega
    by_cases hlt : 8 * (k : Int) < 10485760
    · by_cases h5 : 8 * (k : Int) + 4096 < 10485760
      · go_wp2
        go_round
        case rel => exact ⟨k + 512, by omega, by omega, by go_num⟩
        case measure => simp [intOf]; omega
      · go_wp2
        go_round
        case rel => exact ⟨k + 1, by omega, by omega, by go_num⟩
        case measure => simp [intOf]; omega
    · go_wp2
      go_ret
      exact ⟨ret_i64 (by rw [HB.out]; omega), rfl⟩
theorem refBits_any (n : Int) (w : World) :
    Calls Tryd.prog 18 #[.int .i64 n] w fun e w' => e = .returned (.int .i64 (bitsOf n : Nat)) ∧ w = w' := by
  by_cases h : n ≤ 1048576
  · exact refBits_core n h w
  · exact refBits_big n (by omega) w
end Go.Proofs.YtbkdlkhaeidhcaaDoor
