/-
  The walks of a writer that there isn't.
-/
import Derived.Test.YtbdocgnhoomhcaaRefLaysW
namespace Go.Proofs.Ytbdocgnhoomhcaa
open Go.RowKit CodecP

theorem putNil_any (v : Value) (w : World) :
    Calls Try.prog 47 #[.pointer none, v] w fun e w' => e = .returned (.pointer none) ∧ w = w' := by
  go_enter Try.func47, Try.ntmps47
  go_wp2
  go_ret
  exact ⟨rfl, rfl⟩
theorem bytesNil_any (w : World) :
    Calls Try.prog 13 #[.pointer none] w fun e w' => e = .returned (.string ByteArray.empty) ∧ w = w' := by
  go_enter Try.func13, Try.ntmps13
  go_wp2
  go_ret
  exact ⟨rfl, rfl⟩
theorem groupsNil_any (n : Nat) (w : World) :
    Calls Try.prog 43 #[.pointer none, .int .u64 n] w fun e w' => e = .returned (.pointer none) ∧ Below w.heap.size w w' := by
  have hbel0 := Below.refl w.heap.size w
  go_enter Try.func43, Try.ntmps43
  go_wp2
  go_loopw [1] (fun x wr => ∃ m : Nat, x = .int .u64 (m : Int) ∧ Below w.heap.size w wr) (fun x _ => (intOf x).toNat)
  case atStart => exact ⟨n, rfl, hbel0⟩
  case round =>
    clear hbel0
    obtain ⟨m, rfl, hbel⟩ := hrel
    by_cases hlt : m < 128
    · have hli : decide ((128 : Int) ≤ (m : Int)) = false := by rw [decide_eq_false_iff_not]; omega
      have em : (m : Int) % 256 = (m : Int) := by omega
      clear hlt
      go_wp2_with fail
      refine (putNil_any _ _).mono ?_
      rintro e w2 ⟨rfl, rfl⟩
      go_wp2
      go_ret
      exact ⟨rfl, hbel.alloc hbel.size _⟩
    · have hli : decide ((128 : Int) ≤ (m : Int)) = true := by rw [decide_eq_true_eq]; omega
      have ho := or128 m
      have HGE := Lib.hid hlt
      clear hlt
      generalize m % 128 + 128 = b at *
      go_wp2_with fail
      refine (putNil_any _ _).mono ?_
      rintro e w2 ⟨rfl, rfl⟩
      have hb2 := hbel.alloc hbel.size (.cells #[.int .u8 (b : Int)] 5)
      clear hbel
      go_wp2
      go_roundw
      case rel => exact ⟨m / 128, by go_num, hb2⟩
      case measure => have := HGE.out; simp [intOf]; omega
theorem sizeNil_any (n : Int) (w : World) (h2 : n < 9223372036854775808) :
    Calls Try.prog 24 #[.pointer none, .int .i64 n] w fun e w' => e = .returned (.pointer none) ∧ Below w.heap.size w w' := by
  by_cases hz : n < 0
  · have RG := Lib.hid (groupsNil_any 0 w)
    clear h2
    go_enter Try.func24, Try.ntmps24
    go_wp2_with fail
    refine RG.out.mono ?_
    rintro e w' ⟨rfl, hby⟩
    go_wp2
    go_ret
    exact ⟨rfl, hby⟩
  · obtain ⟨k, rfl⟩ : ∃ k : Nat, n = (k : Int) := ⟨n.toNat, by omega⟩
    have RG := Lib.hid (groupsNil_any k w)
    have hw : IntKind.u64.wrap (k : Int) = (k : Int) := by rw [IntKind.wrap_u64]; omega
    clear hz
    go_enter Try.func24, Try.ntmps24
    go_wp2_with fail
    refine RG.out.mono ?_
    rintro e w' ⟨rfl, hby⟩
    go_wp2
    go_ret
    exact ⟨rfl, hby⟩
theorem signedNil_any (n : Int) (w : World) (h1 : -9223372036854775808 ≤ n) (h2 : n < 9223372036854775808) :
    Calls Try.prog 11 #[.pointer none, .int .i64 n] w fun e w' => e = .returned (.pointer none) ∧ Below w.heap.size w w' := by
  have RG := Lib.hid (groupsNil_any (zig n) w)
  by_cases hz : n < 0
  · have hzz := Lib.hid (zig_neg n h1 hz)
    generalize zig n = z at *
    go_enter Try.func11, Try.ntmps11
    go_wp2_with fail
    rw [hzz.out]
    refine RG.out.mono ?_
    rintro e w' ⟨rfl, hby⟩
    go_wp2
    go_ret
    exact ⟨rfl, hby⟩
  · have hzz := Lib.hid (zig_pos n (by omega) h2)
    generalize zig n = z at *
    go_enter Try.func11, Try.ntmps11
    go_wp2_with fail
    rw [hzz.out]
    refine RG.out.mono ?_
    rintro e w' ⟨rfl, hby⟩
    go_wp2
    go_ret
    exact ⟨rfl, hby⟩
theorem rawNil_any (s : ByteArray) (w : World) :
    Calls Try.prog 27 #[.pointer none, .string s] w fun e w' => e = .returned (.pointer none) ∧ Below w.heap.size w w' := by
  have hcv := fun W => Lib.run_convert_string_bytes (P := Try.prog) W 9 24 5 s Try.underlying9 Try.underlying24 Try.underlying5
  have hb := ((Fr.refl (fun _ => False) w).bytes 5 s).below (B := w.heap.size) (Nat.le_refl _) (fun _ _ h => h.elim)
  go_enter Try.func27, Try.ntmps27
  go_wp2_with fail
  refine (putNil_any _ _).mono ?_
  rintro e w' ⟨rfl, rfl⟩
  go_wp2
  go_ret
  exact ⟨rfl, hb⟩
theorem textNil_any (s : ByteArray) (w : World) (hs : s.size ≤ 1099511627776) :
    Calls Try.prog 12 #[.pointer none, .string s] w fun e w' => e = .returned (.pointer none) ∧ Below w.heap.size w w' := by
  have HS := Lib.hid (sizeNil_any (s.size : Int) w (by omega))
  go_enter Try.func12, Try.ntmps12
  go_wp2_with fail
  refine HS.out.mono ?_
  rintro e w1 ⟨rfl, hb1⟩
  go_wp2_with fail
  refine (rawNil_any _ _).mono ?_
  rintro e w2 ⟨rfl, hb2⟩
  go_wp2
  go_ret
  exact ⟨rfl, hb1.trans (hb2.mono hb1.size)⟩
theorem fixedNil_any (n size : Nat) (w : World) (hs : size ≤ 8) :
    Calls Try.prog 46 #[.pointer none, .int .u64 n, .int .i64 size] w fun e w' => e = .returned (.pointer none) ∧ Below w.heap.size w w' := by
  have hbel0 := Below.refl w.heap.size w
  go_enter Try.func46, Try.ntmps46
  go_wp2
  go_loopw [7] (fun i wr => ((∃ m : Nat, m < size ∧ i = .int .i64 m) ∨ i = .int .i64 (-1)) ∧ Below w.heap.size w wr) (fun i _ => (intOf i + 1).toNat)
  case atStart =>
    refine ⟨?_, hbel0⟩
    by_cases hz : size = 0
    · right; subst hz; rfl
    · left; exact ⟨size - 1, by omega, by go_num⟩
  case round =>
    clear hbel0
    obtain ⟨hr, hbel⟩ := hrel
    rcases hr with ⟨m, hm, rfl⟩ | rfl
    · have hby2 := byte_at n m
      generalize n / 256 ^ m % 256 = b at *
      go_wp2_with fail
      refine (putNil_any _ _).mono ?_
      rintro e w2 ⟨rfl, rfl⟩
      have hb2 := hbel.alloc hbel.size (.cells #[.int .u8 (b : Int)] 5)
      clear hbel
      go_wp2
      go_roundw
      case rel =>
        refine ⟨?_, hb2⟩
        cases m with
        | zero => right; go_num
        | succ m => left; exact ⟨m, by omega, by go_num⟩
      case measure => simp [intOf]
    · go_wp2
      go_ret
      exact ⟨rfl, hbel⟩
theorem fixed4Nil_any (n : Nat) (w : World) (hn : n < 4294967296) :
    Calls Try.prog 25 #[.pointer none, .int .u32 n] w fun e w' => e = .returned (.pointer none) ∧ Below w.heap.size w w' := by
  have H := Lib.hid (fixedNil_any n 4 w (by omega))
  go_enter Try.func25, Try.ntmps25
  go_wp2_with fail
  refine H.out.mono ?_
  rintro e w' ⟨rfl, hby⟩
  go_wp2
  go_ret
  exact ⟨rfl, hby⟩
end Go.Proofs.Ytbdocgnhoomhcaa
