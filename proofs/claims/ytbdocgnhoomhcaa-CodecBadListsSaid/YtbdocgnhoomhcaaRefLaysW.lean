/-
  The walks of the document's Signed, Fixed, Text.
-/
import Derived.Test.YtbdocgnhoomhcaaSizesW
namespace Go.Proofs.Ytbdocgnhoomhcaa
open Go.RowKit CodecP

theorem fixed_high (k : Nat) : ∀ n, fixed (k + 1) n = UInt8.ofNat (n / 256 ^ k % 256) :: fixed k n := by
  induction k with
  | zero => intro n; simp [fixed]
  | succ k ih =>
    intro n
    rw [fixed, ih, Nat.div_div_eq_div_mul, List.cons_append]
    congr 2
    · rw [Nat.pow_succ, Nat.mul_comm]
set_option maxHeartbeats 400000 in
theorem refFixed_any (n size : Nat) (w : World) (h : size ≤ 8) (hn : n < 18446744073709551616) :
    Calls Try.prog 30 #[.int .u64 n, .int .i64 size] w fun e w' => e = .returned (.string (str (fixed size n))) ∧ Below w.heap.size w w' := by
  have hb0 := Below.refl w.heap.size w
  go_enter Try.func30, Try.ntmps30
  go_wp2
  go_loopw [0, 5, 6] (fun x t i wr => ∃ k : Nat, k ≤ size ∧ i = .int .i64 k ∧ x = .int .u64 (n / 256 ^ k : Nat) ∧ t = .string (str (fixed k n)) ∧ Below w.heap.size w wr) (fun _ _ i _ => size - (intOf i).toNat)
  case atStart => exact ⟨0, by omega, rfl, by simp, rfl, hb0⟩
  case round =>
    clear hb0
    obtain ⟨k, hk, rfl, rfl, rfl, hbel⟩ := hrel
    by_cases hlt : k < size
    · have hq : n / 256 ^ k < 18446744073709551616 := Nat.lt_of_le_of_lt (Nat.div_le_self _ _) hn
      have hst := fixed_high k n
      have hdiv : n / 256 ^ (k + 1) = n / 256 ^ k / 256 := by rw [Nat.pow_succ, Nat.div_div_eq_div_mul]
      generalize n / 256 ^ k = q at *
      have HD := Lib.hid hdiv
      have hone : strOfNums [((q : Int) % 256)] = str [UInt8.ofNat (q % 256)] := by
        unfold strOfNums str
        have : ((q : Int) % 256).toNat = q % 256 := by omega
        simp only [List.map_cons, List.map_nil, this]
      have hcv := run_convert_bytes_arg (P := Try.prog) (w := wr.alloc (.cells #[.int .u8 ((q : Int) % 256)] 5)) 24 5 Try.underlying24 Try.underlying5 wr.heap.size 0 1 1 [((q : Int) % 256)] rfl
        (fun i hi => by obtain rfl : i = 0 := by omega
                        simp) 9 Try.underlying9
      rw [hone] at hcv
      have happ := str_append [UInt8.ofNat (q % 256)] (fixed k n)
      have hbel2 := hbel.alloc hbel.size (.cells #[.int .u8 ((q : Int) % 256)] 5)
      have HST := Lib.hid hst
      have HA := Lib.hid happ
      clear hone hst happ hdiv
      have hsz : (str [UInt8.ofNat (q % 256)]).size + (str (fixed k n)).size ≤ 100 := by rw [str_size, str_size, fixed_length]; simp; omega
      generalize str [UInt8.ofNat (q % 256)] = b at *
      generalize str (fixed k n) = f at *
      go_wp2
      go_roundw
      case rel =>
        refine ⟨k + 1, by omega, by go_num, by rw [HD.out]; go_num, ?_, hbel2⟩
        rw [HST.out, ← List.singleton_append, ← HA.out]
      case measure => simp [intOf]; omega
    · obtain rfl : k = size := by omega
      go_wp2
      go_ret
      exact ⟨rfl, hbel⟩
theorem refSigned_any (n : Int) (w : World) (h1 : -9223372036854775808 ≤ n) (h2 : n < 9223372036854775808) :
    Calls Try.prog 29 #[.int .i64 n] w fun e w' => e = .returned (.string (str (grp (zig n)))) ∧ Below w.heap.size w w' := by
  have HG := Lib.hid (fun W => refGroups_any (zig n) W (zig_lt n h1 h2))
  by_cases hz : 0 ≤ n
  · have ez : IntKind.u64.wrap (2 * IntKind.u64.wrap n) = ((zig n : Nat) : Int) := by
      unfold zig; rw [if_pos hz, IntKind.wrap_u64, IntKind.wrap_u64]; omega
    have ew : IntKind.u64.wrap n = n := by rw [IntKind.wrap_u64]; omega
    have ez2 : IntKind.u64.wrap (2 * n) = ((zig n : Nat) : Int) := by rw [← ez, ew]
    have q : decide (0 ≤ n) = true := by rw [decide_eq_true_eq]; exact hz
    clear h1 h2
    generalize zig n = z at *
    go_enter Try.func29, Try.ntmps29
    go_wp2_with fail
    refine (HG.out _).mono ?_
    rintro e w1 ⟨rfl, hb⟩
    go_wp2
    go_ret
    exact ⟨rfl, hb⟩
  · have hw : wrap64 (n + 1) = n + 1 := IntWalk.wrap64_in _ (by omega)
    have hw2 : wrap64 (-(n + 1)) = -(n + 1) := IntWalk.wrap64_in _ (by omega)
    have ew : IntKind.u64.wrap (-(n + 1)) = -(n + 1) := by rw [IntKind.wrap_u64]; omega
    have ez : IntKind.u64.wrap (2 * (-(n + 1))) = 2 * (-(n + 1)) := by rw [IntKind.wrap_u64]; omega
    have ez2 : IntKind.u64.wrap (2 * (-(n + 1)) + 1) = ((zig n : Nat) : Int) := by
      unfold zig; rw [if_neg hz, IntKind.wrap_u64]; omega
    have q : decide (0 ≤ n) = false := by rw [decide_eq_false_iff_not]; exact hz
    generalize zig n = z at *
    go_enter Try.func29, Try.ntmps29
    go_wp2_with fail
    refine (HG.out _).mono ?_
    rintro e w1 ⟨rfl, hb⟩
    go_wp2
    go_ret
    exact ⟨rfl, hb⟩
theorem refText_any (s : ByteArray) (w : World) (hs : s.size ≤ 1099511627776) :
    Calls Try.prog 31 #[.string s] w fun e w' => e = .returned (.string (str (text (bl s)))) ∧ Below w.heap.size w w' := by
  have HG := Lib.hid (fun W => refGroups_any s.size W (by omega))
  have ew : IntKind.u64.wrap (s.size : Int) = (s.size : Int) := by rw [IntKind.wrap_u64]; omega
  have hap := str_append (grp s.size) (bl s)
  rw [str_bl, show grp s.size ++ bl s = text (bl s) from rfl] at hap
  have HAP := Lib.hid hap
  have hgl := grp_length s.size
  have hsz := str_size (grp s.size)
  have hcat : ¬ 9223372036854775807 < (str (grp s.size)).size + s.size := by omega
  clear hap hgl hsz
  generalize str (grp s.size) = G at *
  go_enter Try.func31, Try.ntmps31
  go_wp2_with fail
  refine (HG.out _).mono ?_
  rintro e w1 ⟨rfl, hb⟩
  go_wp2
  go_ret
  exact ⟨by rw [← HAP.out]; rfl, hb⟩
end Go.Proofs.Ytbdocgnhoomhcaa
