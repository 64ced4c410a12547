/-
  The walk of the law CodecNone: a reader that there isn't.
-/
import Derived.Test.YtbdocgnhoomhcaaTakesW
namespace Go.Proofs.Ytbdocgnhoomhcaa
open Go.RowKit CodecP

theorem goodNil_any (w : World) :
    Calls Try.prog 19 #[.pointer none] w fun e w' => e = .returned (.bool false) ∧ w = w' := by
  go_enter Try.func19, Try.ntmps19
  go_wp2
  go_ret
  exact ⟨rfl, rfl⟩
theorem failNil_any (w : World) :
    Calls Try.prog 45 #[.pointer none] w fun e w' => e = .returned (.tuple #[]) ∧ w = w' := by
  go_enter Try.func45, Try.ntmps45
  go_wp2
  go_end0
  exact ⟨rfl, rfl⟩
theorem rdRawNil_any (n : Int) (w : World) :
    Calls Try.prog 17 #[.pointer none, .int .i64 n] w fun e w' => e = .returned (.string ByteArray.empty) ∧ w = w' := by
  go_enter Try.func17, Try.ntmps17
  go_wp2_with fail
  (with_reducible refine (goodNil_any _).mono ?_)
  rintro e w1 ⟨rfl, rfl⟩
  go_wp2_with fail
  (with_reducible refine (failNil_any _).mono ?_)
  rintro e w1 ⟨rfl, rfl⟩
  go_wp2
  go_ret
  exact ⟨rfl, rfl⟩
theorem rdGroupsNil_any (w : World) :
    Calls Try.prog 44 #[.pointer none] w fun e w' => e = .returned (.int .u64 0) ∧ w = w' := by
  go_enter Try.func44, Try.ntmps44
  go_wp2
  go_loop [3, 4] (fun x c => x = .int .u64 0 ∧ c = .int .i64 0) (fun _ _ => 0)
  case atStart => exact ⟨rfl, rfl⟩
  case round =>
    obtain ⟨rfl, rfl⟩ := hrel
    go_wp2_with fail
    (with_reducible refine (rdRawNil_any _ _).mono ?_)
    rintro e w1 ⟨rfl, rfl⟩
    go_wp2
    go_ret
    exact ⟨rfl, rfl⟩
theorem rdSizeNil_any (w : World) :
    Calls Try.prog 21 #[.pointer none] w fun e w' => e = .returned (.int .i64 0) ∧ w = w' := by
  go_enter Try.func21, Try.ntmps21
  go_wp2_with fail
  (with_reducible refine (rdGroupsNil_any _).mono ?_)
  rintro e w1 ⟨rfl, rfl⟩
  go_wp2
  go_ret
  exact ⟨rfl, rfl⟩
theorem bits0 : bits .xor .i64 0 (wrap64 (-wrap64 (bits .and .u64 0 1))) = 0 := by
  have h := unzig_bits 0 (by decide)
  rw [IntWalk.wrap64_in (((0 : Nat) : Int) / 2) (by omega)] at h
  exact h
theorem rdSignedNil_any (w : World) :
    Calls Try.prog 15 #[.pointer none] w fun e w' => e = .returned (.int .i64 0) ∧ w = w' := by
  go_enter Try.func15, Try.ntmps15
  go_wp2_with fail
  (with_reducible refine (rdGroupsNil_any _).mono ?_)
  rintro e w1 ⟨rfl, rfl⟩
  go_wp2
  go_ret
  exact ⟨congrArg (fun x => Ending.returned (Value.int .i64 x)) bits0, rfl⟩
theorem rdFixedNil_any (n : Int) (w : World) :
    Calls Try.prog 58 #[.pointer none, .int .i64 n] w fun e w' => e = .returned (.int .u64 0) ∧ Below w.heap.size w w' := by
  have hcv := fun W => Lib.run_convert_string_bytes (P := Try.prog) W 9 24 5 ByteArray.empty Try.underlying9 Try.underlying24 Try.underlying5
  have hb := ((Fr.refl (fun _ => False) w).bytes 5 ByteArray.empty).below (B := w.heap.size) (Nat.le_refl _) (fun _ _ h => h.elim)
  have HB := Lib.hid hb
  clear hb
  go_enter Try.func58, Try.ntmps58
  go_wp2_with fail
  (with_reducible refine (rdRawNil_any _ _).mono ?_)
  rintro e w1 ⟨rfl, rfl⟩
  go_wp2
  clear hcv
  generalize Lib.bytesWorld w 5 ByteArray.empty = w2 at *
  go_loop [5, 7, 13] (fun x _ c => c = .int .i64 0 ∧ x = .int .u64 0) (fun _ _ _ => 0)
  case atStart => exact ⟨rfl, rfl⟩
  case round =>
    obtain ⟨rfl, rfl⟩ := hrel
    go_wp2
    go_ret
    exact ⟨rfl, HB.out⟩
theorem rdFixed4Nil_any (w : World) :
    Calls Try.prog 48 #[.pointer none] w fun e w' => e = .returned (.int .u32 0) ∧ Below w.heap.size w w' := by
  go_enter Try.func48, Try.ntmps48
  go_wp2_with fail
  (with_reducible refine (rdFixedNil_any _ _).mono ?_)
  rintro e w1 ⟨rfl, hb⟩
  go_wp2
  go_ret
  exact ⟨rfl, hb⟩
theorem rdFixed8Nil_any (w : World) :
    Calls Try.prog 49 #[.pointer none] w fun e w' => e = .returned (.int .u64 0) ∧ Below w.heap.size w w' := by
  go_enter Try.func49, Try.ntmps49
  go_wp2_with fail
  (with_reducible refine (rdFixedNil_any _ _).mono ?_)
  rintro e w1 ⟨rfl, hb⟩
  go_wp2
  go_ret
  exact ⟨rfl, hb⟩
theorem rdTextNil_any (n : Int) (w : World) :
    Calls Try.prog 16 #[.pointer none, .int .i64 n] w fun e w' => e = .returned (.string ByteArray.empty) ∧ w = w' := by
  by_cases hn : n < 0
  · go_enter Try.func16, Try.ntmps16
    go_wp2_with fail
    (with_reducible refine (rdSizeNil_any _).mono ?_)
    rintro e w1 ⟨rfl, rfl⟩
    go_wp2_with fail
    (with_reducible refine (failNil_any _).mono ?_)
    rintro e w1 ⟨rfl, rfl⟩
    go_wp2_with fail
    (with_reducible refine (rdRawNil_any _ _).mono ?_)
    rintro e w1 ⟨rfl, rfl⟩
    go_wp2
    go_ret
    exact ⟨rfl, rfl⟩
  · go_enter Try.func16, Try.ntmps16
    go_wp2_with fail
    (with_reducible refine (rdSizeNil_any _).mono ?_)
    rintro e w1 ⟨rfl, rfl⟩
    go_wp2_with fail
    (with_reducible refine (rdRawNil_any _ _).mono ?_)
    rintro e w1 ⟨rfl, rfl⟩
    go_wp2
    go_ret
    exact ⟨rfl, rfl⟩
theorem leftNil_any (w : World) :
    Calls Try.prog 23 #[.pointer none] w fun e w' => e = .returned (.int .i64 0) ∧ w = w' := by
  go_enter Try.func23, Try.ntmps23
  go_wp2_with fail
  (with_reducible refine (goodNil_any _).mono ?_)
  rintro e w1 ⟨rfl, rfl⟩
  go_wp2
  go_ret
  exact ⟨rfl, rfl⟩
theorem endNil_any (w : World) :
    Calls Try.prog 18 #[.pointer none] w fun e w' => e = .returned (.bool false) ∧ w = w' := by
  go_enter Try.func18, Try.ntmps18
  go_wp2_with fail
  (with_reducible refine (goodNil_any _).mono ?_)
  rintro e w1 ⟨rfl, rfl⟩
  go_wp2
  go_ret
  exact ⟨rfl, rfl⟩
theorem getTextsNil_any (w : World) :
    Calls Try.prog 39 #[.pointer none, .int .i64 5] w fun e w' => e = .returned (.slice none 0 0) ∧ w = w' := by
  have H : Calls Try.prog 55 #[.pointer none, .int .i64 5, .func (.func 56) #[] #[]] w fun e w' => e = .returned (.slice none 0 0) ∧ w = w' := by
    go_enter Try.func55, Try.ntmps55
    go_wp2_with fail
    (with_reducible refine (rdSizeNil_any _).mono ?_)
    rintro e w1 ⟨rfl, rfl⟩
    go_wp2
    go_loop [7, 8] (fun x c => x = .int .i64 0 ∧ c = .slice none 0 0) (fun _ _ => 0)
    case atStart => exact ⟨rfl, rfl⟩
    case round =>
      obtain ⟨rfl, rfl⟩ := hrel
      go_wp2_with fail
      (with_reducible refine (goodNil_any _).mono ?_)
      rintro e w1 ⟨rfl, rfl⟩
      go_wp2
      go_ret
      exact ⟨rfl, rfl⟩
  have HH := Lib.hid H
  clear H
  go_enter Try.func39, Try.ntmps39
  go_wp2_with fail
  (with_reducible refine (HH.out).mono ?_)
  rintro e w1 ⟨rfl, rfl⟩
  go_wp2
  go_ret
  exact ⟨rfl, rfl⟩
theorem getIntsNil_any (w : World) :
    Calls Try.prog 40 #[.pointer none, .int .i64 5] w fun e w' => e = .returned (.slice none 0 0) ∧ w = w' := by
  have H : Calls Try.prog 57 #[.pointer none, .int .i64 5, .func (.func 15) #[] #[]] w fun e w' => e = .returned (.slice none 0 0) ∧ w = w' := by
    go_enter Try.func57, Try.ntmps57
    go_wp2_with fail
    (with_reducible refine (rdSizeNil_any _).mono ?_)
    rintro e w1 ⟨rfl, rfl⟩
    go_wp2
    go_loop [7, 8] (fun x c => x = .int .i64 0 ∧ c = .slice none 0 0) (fun _ _ => 0)
    case atStart => exact ⟨rfl, rfl⟩
    case round =>
      obtain ⟨rfl, rfl⟩ := hrel
      go_wp2_with fail
      (with_reducible refine (goodNil_any _).mono ?_)
      rintro e w1 ⟨rfl, rfl⟩
      go_wp2
      go_ret
      exact ⟨rfl, rfl⟩
  have HH := Lib.hid H
  clear H
  go_enter Try.func40, Try.ntmps40
  go_wp2_with fail
  (with_reducible refine (HH.out).mono ?_)
  rintro e w1 ⟨rfl, rfl⟩
  go_wp2
  go_ret
  exact ⟨rfl, rfl⟩
theorem takeNil_any (k N : Int) (w : World) :
    Calls Try.prog 32 #[.pointer none, .agg #[.int .i64 k, .int .i64 N]] w fun e w' => e = .returned (.tuple #[.int .u64 0, .string ByteArray.empty]) ∧ Below w.heap.size w w' := by
  have HB0 := Lib.hid ((Below.refl w.heap.size w).alloc (Nat.le_refl _) (.cells #[.int .i64 k, .int .i64 N] 55))
  by_cases h0 : k = 0
  · subst h0
    go_enter Try.func32, Try.ntmps32
    go_wp2_with fail
    (with_reducible refine (rdSizeNil_any _).mono ?_)
    rintro e w1 ⟨rfl, rfl⟩
    go_wp2
    go_ret2
    exact ⟨rfl, HB0.out⟩
  by_cases h1 : k = 1
  · subst h1
    go_enter Try.func32, Try.ntmps32
    go_wp2_with fail
    (with_reducible refine (rdSignedNil_any _).mono ?_)
    rintro e w1 ⟨rfl, rfl⟩
    go_wp2
    go_ret2
    exact ⟨rfl, HB0.out⟩
  by_cases h2 : k = 2
  · subst h2
    go_enter Try.func32, Try.ntmps32
    go_wp2_with fail
    (with_reducible refine (rdFixed4Nil_any _).mono ?_)
    rintro e w1 ⟨rfl, hb⟩
    have HB := Lib.hid (bel_box hb)
    clear hb
    go_wp2
    go_ret2
    exact ⟨rfl, HB.out⟩
  by_cases h3 : k = 3
  · subst h3
    go_enter Try.func32, Try.ntmps32
    go_wp2_with fail
    (with_reducible refine (rdFixed8Nil_any _).mono ?_)
    rintro e w1 ⟨rfl, hb⟩
    have HB := Lib.hid (bel_box hb)
    clear hb
    go_wp2
    go_ret2
    exact ⟨rfl, HB.out⟩
  by_cases h4 : k = 4
  · subst h4
    go_enter Try.func32, Try.ntmps32
    go_wp2_with fail
    (with_reducible refine (rdTextNil_any _ _).mono ?_)
    rintro e w1 ⟨rfl, rfl⟩
    go_wp2
    go_ret2
    exact ⟨rfl, HB0.out⟩
  have q0 : (k == 0) = false := by simpa using h0
  have q1 : (k == 1) = false := by simpa using h1
  have q2 : (k == 2) = false := by simpa using h2
  have q3 : (k == 3) = false := by simpa using h3
  have q4 : (k == 4) = false := by simpa using h4
  clear h0 h1 h2 h3 h4
  go_enter Try.func32, Try.ntmps32
  go_wp2_with fail
  (with_reducible refine (rdRawNil_any _ _).mono ?_)
  rintro e w1 ⟨rfl, rfl⟩
  go_wp2
  go_ret2
  exact ⟨rfl, HB0.out⟩
theorem codecNone_law (k N : Int) (w : World) :
    Calls Try.prog 9 #[.agg #[.int .i64 k, .int .i64 N]] w fun e w' => e = .returned (.bool true) ∧ Below w.heap.size w w' := by
  have HB0 := Lib.hid ((Below.refl w.heap.size w).alloc (Nat.le_refl _) (.cells #[.int .i64 k, .int .i64 N] 55))
  go_enter Try.func9, Try.ntmps9
  go_wp2_with fail
  (with_reducible refine (takeNil_any _ _ _).mono ?_)
  rintro e w1 ⟨rfl, hb1⟩
  have HB1 := Lib.hid (bel_box hb1)
  clear hb1
  go_wp2_with fail
  (with_reducible refine (goodNil_any _).mono ?_)
  rintro e w2 ⟨rfl, rfl⟩
  go_wp2_with fail
  (with_reducible refine (endNil_any _).mono ?_)
  rintro e w2 ⟨rfl, rfl⟩
  go_wp2_with fail
  (with_reducible refine (leftNil_any _).mono ?_)
  rintro e w2 ⟨rfl, rfl⟩
  go_wp2_with fail
  (with_reducible refine (getTextsNil_any _).mono ?_)
  rintro e w2 ⟨rfl, rfl⟩
  go_wp2_with fail
  (with_reducible refine (getIntsNil_any _).mono ?_)
  rintro e w2 ⟨rfl, rfl⟩
  go_wp2_with fail
  (with_reducible refine (codecAwake_any _).mono ?_)
  rintro e w2 ⟨rfl, hb2⟩
  go_wp2
  go_ret
  exact ⟨rfl, HB1.out.trans (hb2.mono HB1.out.size)⟩
end Go.Proofs.Ytbdocgnhoomhcaa
