
/-
  The walks of the document's Groups, Take, Number.
-/
import Derived.Test.YtdbfaknpfepnfaaGreatDoorCodecBack2W
import Derived.Laws.BytesArg
import Derived.Deep.RegionWith
namespace Go.Proofs.YtdbfaknpfepnfaaGreatDoor
open Go.RowKit CodecP

theorem one_str (x : Nat) : strOfNums [(x : Int)] = str [UInt8.ofNat x] := by
  unfold strOfNums str
  simp only [List.map_cons, List.map_nil, Int.toNat_natCast]
theorem conv_one (W : World) (x : Nat) : (convert 94 9 (.slice (some ⟨W.heap.size, 0, none⟩) 1 1)).run Tryz.prog (W.alloc (.cells #[.int .u8 (x : Int)] 5)) = .ok (.string (str [UInt8.ofNat x])) (W.alloc (.cells #[.int .u8 (x : Int)] 5)) := by
  have hcv := run_convert_bytes_arg (P := Tryz.prog) (w := W.alloc (.cells #[.int .u8 (x : Int)] 5)) 94 5 Tryz.underlying94 Tryz.underlying5 W.heap.size 0 1 1 [(x : Int)] rfl
    (fun i hi => by obtain rfl : i = 0 := by omega
                    simp) 9 Tryz.underlying9
  rw [one_str] at hcv
  exact hcv
theorem conv_mid {W w1 : World} {x : Nat} (hb : Below (W.alloc (.cells #[.int .u8 (x : Int)] 5)).heap.size (W.alloc (.cells #[.int .u8 (x : Int)] 5)) w1) : (convert 94 9 (.slice (some ⟨W.heap.size, 0, none⟩) 1 1)).run Tryz.prog w1 = .ok (.string (str [UInt8.ofNat x])) w1 := by
  have hcv := run_convert_bytes_arg (P := Tryz.prog) (w := w1) 94 5 Tryz.underlying94 Tryz.underlying5 W.heap.size 0 1 1 [(x : Int)] rfl
    (fun i hi => by
      obtain rfl : i = 0 := by omega
      rw [Nat.zero_add, hb.cell (p := ⟨W.heap.size, 0, none⟩) (by show W.heap.size < (W.heap.push _).size; simp)]
      simp) 9 Tryz.underlying9
  rw [one_str] at hcv
  exact hcv
theorem conv_oneD (W : World) (x : Nat) : (convert 94 9 (.slice (some ⟨W.heap.size, 0, none⟩) 1 1)).run Tryz.prog (W.alloc (.cells #[.int .u8 (x : Int)] 5)).drew = .ok (.string (str [UInt8.ofNat x])) (W.alloc (.cells #[.int .u8 (x : Int)] 5)).drew := conv_one W.drew x
theorem conv_midD {W w1 : World} {x : Nat} (hb : Below (W.alloc (.cells #[.int .u8 (x : Int)] 5)).drew.heap.size (W.alloc (.cells #[.int .u8 (x : Int)] 5)).drew w1) : (convert 94 9 (.slice (some ⟨W.heap.size, 0, none⟩) 1 1)).run Tryz.prog w1 = .ok (.string (str [UInt8.ofNat x])) w1 := conv_mid (W := W.drew) hb
theorem belA {W w1 : World} {o : Obj} (hb : Below (W.alloc o).drew.heap.size (W.alloc o).drew w1) : Below W.heap.size W w1 :=
  have h0 : Below W.heap.size W (W.alloc o).drew := ((Below.refl W.heap.size W).alloc (Nat.le_refl _) o).drew
  h0.trans (hb.mono h0.size)
theorem belB {W w1 : World} (hb : Below W.drew.heap.size W.drew w1) : Below W.heap.size W w1 := ⟨hb.os, hb.tape, hb.output, hb.size, hb.block⟩
theorem belC {W w1 : World} {o : Obj} (hb : Below W.drew.heap.size W.drew w1) : Below W.heap.size W (w1.alloc o) := (belB hb).alloc (belB hb).size o
theorem refGroups_low (f n : Nat) (w : World) (h : n < 128) :
    Calls Tryz.prog 72 #[.int .u64 n] w fun e w' => e = .returned (.string (str (groups f n))) ∧ Below w.heap.size w w' := by
  rw [groups_low f n h]
  have hcv := run_convert_bytes_arg (P := Tryz.prog) (w := w.alloc (.cells #[.int .u8 (n : Int)] 5)) 94 5 Tryz.underlying94 Tryz.underlying5 w.heap.size 0 1 1 [(n : Int)] rfl
    (fun i hi => by obtain rfl : i = 0 := by omega
                    simp) 9 Tryz.underlying9
  rw [one_str] at hcv
  have q1 : decide ((n : Int) < 128) = true := by rw [decide_eq_true_eq]; omega
  have q2 : (n : Int) % 256 = (n : Int) := by omega
  have hbel := (Below.refl w.heap.size w).alloc (Nat.le_refl _) (.cells #[.int .u8 (n : Int)] 5)
  clear h
  generalize str [UInt8.ofNat n] = S at *
  go_enter Tryz.func72, Tryz.ntmps72
  go_wp2
  go_ret
  exact ⟨rfl, hbel⟩
theorem refGroups_f (f : Nat) : ∀ (n : Nat) (w : World), f ≤ 100000 → n < 18446744073709551616 → n < 2 ^ (7 * f + 1) →
    Calls Tryz.prog 72 #[.int .u64 n] w fun e w' => e = .returned (.string (str (groups f n))) ∧ Below w.heap.size w w' := by
  induction f with
  | zero =>
    intro n w hf hn hm
    exact refGroups_low 0 n w (by have : n < 2 := by simpa using hm
                                  omega)
  | succ f ih =>
    intro n w hf hn hm
    by_cases hlt : n < 128
    · exact refGroups_low (f + 1) n w hlt
    · have hm2 : n / 128 < 2 ^ (7 * f + 1) := by
        rw [Nat.div_lt_iff_lt_mul (by omega)]
        rw [show 7 * (f + 1) + 1 = (7 * f + 1) + 7 by omega, Nat.pow_add] at hm
        exact hm
      have IH := fun W => ih (n / 128) W (by omega) (by omega) hm2
      have hcv := fun W => conv_one W (n % 128 + 128)
      have q1 : decide ((n : Int) < 128) = false := by rw [decide_eq_false_iff_not]; omega
      have hap := str_append [UInt8.ofNat (n % 128 + 128)] (groups f (n / 128))
      rw [List.singleton_append, ← groups_high f n hlt] at hap
      have hsz : (str [UInt8.ofNat (n % 128 + 128)]).size + (str (groups f (n / 128))).size ≤ 1000000 := by
        rw [str_size, str_size]
        have := groups_length f (n / 128)
        simp only [List.length_singleton]; omega
      have HIH := Lib.hid IH
      have HAP := Lib.hid hap
      have ht1 : (n : Int).tmod 128 = ((n % 128 : Nat) : Int) := by rw [Int.tmod_eq_emod_of_nonneg (by omega)]; omega
      have hw1 : IntKind.u8.wrap ((n % 128 : Nat) : Int) = ((n % 128 : Nat) : Int) := IntWalk.u8_in _ (by omega)
      have hw2 : IntKind.u8.wrap (((n % 128 : Nat) : Int) + 128) = ((n % 128 + 128 : Nat) : Int) := by rw [IntWalk.u8_in _ (by omega)]; omega
      have hw3 : IntKind.u64.wrap ((n : Int) / 128) = ((n / 128 : Nat) : Int) := by rw [IntKind.wrap_u64]; omega
      have hcvd := fun W => conv_oneD W (n % 128 + 128)
      have hbd := Below.refl w.heap.size w
      clear IH ih hm hm2 hlt hap hn
      generalize n % 128 + 128 = y at *
      generalize n % 128 = x at *
      generalize n / 128 = q at *
      have hcat : ¬ 9223372036854775807 < (str [UInt8.ofNat y]).size + (str (groups f q)).size := by omega
      clear hsz
      generalize str (groups f q) = G at *
      go_enter Tryz.func72, Tryz.ntmps72
      go_wp2_with fail
      go_region_with (go_at_call 72; refine (HIH.out _).mono ?_; rintro e w1 ⟨rfl, hb1⟩; first | have hmid := conv_mid hb1 | have hmid := conv_midD hb1 | skip)
      all_goals
        go_wp2
        go_ret
        refine ⟨by rw [← HAP.out]; rfl, ?_⟩
        first | exact belA hb1 | exact belC hb1 | exact belB hb1
theorem refGroups_any (n : Nat) (w : World) (hn : n < 18446744073709551616) :
    Calls Tryz.prog 72 #[.int .u64 n] w fun e w' => e = .returned (.string (str (grp n))) ∧ Below w.heap.size w w' :=
  refGroups_f 9 n w (by decide) hn (by simpa using hn)
end Go.Proofs.YtdbfaknpfepnfaaGreatDoor
