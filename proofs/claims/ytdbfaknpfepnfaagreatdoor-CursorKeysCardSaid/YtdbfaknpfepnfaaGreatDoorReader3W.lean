
/-
  The walks of a reader's Size, Signed, Fixed8, Text, Left, End.
-/
import Derived.Test.YtdbfaknpfepnfaaGreatDoorReader2W
namespace Go.Proofs.YtdbfaknpfepnfaaGreatDoor
open Go.RowKit CodecP

theorem tkI_lt (s : ByteArray) (bad : Bool) : (tkI 0 0 s bad).1 < 18446744073709551616 := by
  unfold tkI
  split
  · decide
  · cases hk : tk 0 (bl s) with
    | none => decide
    | some y =>
      obtain ⟨m, r⟩ := y
      have := (grp_tk m _ _ hk).2
      simp only
      omega
/-- What Size takes. -/
def sizeO (s : ByteArray) (bad : Bool) : Nat × Option (List UInt8) := if 9223372036854775808 ≤ (tkI 0 0 s bad).1 then (0, none) else tkI 0 0 s bad
theorem rdSize_any (p : Nat) (s : ByteArray) (bad : Bool) (w : World) (h : Rd w p s bad) :
    Calls Tryz.prog 128 #[.pointer (some ⟨p, 0, none⟩)] w fun e w' => e = .returned (.int .i64 ((sizeO s bad).1 : Nat)) ∧ RdTo w w' p (sizeO s bad).2 := by
  have HG := Lib.hid (rdGroups_any p s bad w h)
  have hl := tkI_lt s bad
  unfold sizeO
  clear h
  generalize tkI 0 0 s bad = r at *
  obtain ⟨n, o⟩ := r
  simp only at *
  by_cases hn : 9223372036854775808 ≤ n
  · rw [if_pos hn]
    have q1 : decide ((9223372036854775808 : Int) ≤ (n : Int)) = true := by rw [decide_eq_true_eq]; omega
    clear hn hl
    go_enter Tryz.func128, Tryz.ntmps128
    go_wp2_with fail
    refine HG.out.mono ?_
    rintro e w1 ⟨rfl, s1, b1, h1, hs1, hf1⟩
    have HFA := Lib.hid (fail_any p s1 b1 w1 h1)
    clear h1 hs1
    go_wp2_with fail
    refine HFA.out.mono ?_
    rintro e w2 ⟨rfl, h2, hf2⟩
    go_wp2
    go_ret
    exact ⟨rfl, s1, true, h2, rfl, hf1.trans hf2 (fun _ _ h => h)⟩
  · rw [if_neg hn]
    have q1 : decide ((9223372036854775808 : Int) ≤ (n : Int)) = false := by rw [decide_eq_false_iff_not]; omega
    have hw : IntKind.i64.wrap (n : Int) = (n : Int) := IntWalk.i64_in _ (by omega)
    have hw2 : wrap64 (n : Int) = (n : Int) := IntWalk.wrap64_in _ (by omega)
    clear hn hl
    go_enter Tryz.func128, Tryz.ntmps128
    go_wp2_with fail
    refine HG.out.mono ?_
    rintro e w1 ⟨rfl, h1⟩
    have H1 := Lib.hid h1
    clear h1
    go_wp2
    go_ret
    exact ⟨rfl, H1.out⟩
theorem i64_xor0 (a : Nat) (ha : a < 9223372036854775808) : bits .xor .i64 (a : Int) 0 = (a : Int) := by
  have e : BitVec.ofInt 64 (a : Int) ^^^ BitVec.ofInt 64 0 = BitVec.ofNat 64 a := by
    rw [show BitVec.ofInt 64 0 = 0#64 by decide, BitVec.xor_zero, BitVec.ofInt_natCast]
  show IntKind.i64.wrap ((BitVec.ofInt 64 (a : Int) ^^^ BitVec.ofInt 64 0).toNat : Int) = _
  rw [e, BitVec.toNat_ofNat, Nat.mod_eq_of_lt (by omega)]
  exact IntWalk.i64_in _ (by omega)
theorem i64_xorm (a : Nat) (ha : a < 9223372036854775808) : bits .xor .i64 (a : Int) (-1) = -(a : Int) - 1 := by
  have e : BitVec.ofInt 64 (a : Int) ^^^ BitVec.ofInt 64 (-1) = ~~~(BitVec.ofNat 64 a) := by
    rw [show BitVec.ofInt 64 (-1) = BitVec.allOnes 64 by decide, BitVec.xor_allOnes, BitVec.ofInt_natCast]
  show IntKind.i64.wrap ((BitVec.ofInt 64 (a : Int) ^^^ BitVec.ofInt 64 (-1)).toNat : Int) = _
  rw [e, BitVec.toNat_not, BitVec.toNat_ofNat, Nat.mod_eq_of_lt (by omega)]
  simp [IntKind.wrap, IntKind.bits, IntKind.signed]
  omega
theorem unzig_bits (n : Nat) (hn : n < 18446744073709551616) : bits .xor .i64 (wrap64 ((n : Int) / 2)) (wrap64 (-wrap64 (bits .and .u64 (n : Int) 1))) = unzig n := by
  have h1 : bits .and .u64 (n : Int) 1 = ((n % 2 : Nat) : Int) := by
    rw [show (1 : Int) = ((1 : Nat) : Int) from rfl, u64_and_nat _ _ hn (by omega)]
    congr 1
    exact Nat.and_two_pow_sub_one_eq_mod n 1
  have h2 : wrap64 ((n : Int) / 2) = ((n / 2 : Nat) : Int) := by rw [IntWalk.wrap64_in _ (by omega)]; omega
  have h3 : wrap64 ((n % 2 : Nat) : Int) = ((n % 2 : Nat) : Int) := IntWalk.wrap64_in _ (by omega)
  have h4 : wrap64 (-((n % 2 : Nat) : Int)) = -((n % 2 : Nat) : Int) := IntWalk.wrap64_in _ (by omega)
  rw [h1, h2, h3, h4]
  unfold unzig
  rcases Nat.mod_two_eq_zero_or_one n with e | e
  · rw [e, if_pos rfl]; exact i64_xor0 _ (by omega)
  · rw [e, if_neg (by decide)]; exact i64_xorm _ (by omega)
theorem rdFixed8_any (p : Nat) (s : ByteArray) (bad : Bool) (w : World) (h : Rd w p s bad) :
    Calls Tryz.prog 65 #[.pointer (some ⟨p, 0, none⟩)] w fun e w' => e = .returned (.int .u64 (value (rawOut s bad 8).1.data.toList : Nat)) ∧ Rd w' p (rawOut s bad 8).2.1 (rawOut s bad 8).2.2 ∧ Fr (RdS p) w w' := by
  have HR := Lib.hid (rdFixed_any p s bad 8 w h (by omega))
  clear h
  have e4 : ((8 : Nat) : Int) = 8 := rfl
  rw [e4] at HR
  clear e4
  generalize rawOut s bad 8 = r at *
  generalize value r.1.data.toList = x at *
  go_enter Tryz.func65, Tryz.ntmps65
  go_wp2_with fail
  refine HR.out.mono ?_
  rintro e w1 ⟨rfl, h1, hf⟩
  go_wp2
  go_ret
  exact ⟨rfl, h1, hf⟩
theorem left_any (p : Nat) (s : ByteArray) (bad : Bool) (w : World) (h : Rd w p s bad) :
    Calls Tryz.prog 125 #[.pointer (some ⟨p, 0, none⟩)] w fun e w' => e = .returned (.int .i64 ((if bad then 0 else s.size : Nat) : Int)) ∧ w = w' := by
  have HG := Lib.hid (good_any p s bad w h)
  have c0 := h.c0
  have hs := h.2
  unfold maxLen at hs
  clear h
  cases bad
  · go_enter Tryz.func125, Tryz.ntmps125
    go_wp2_with fail
    refine HG.out.mono ?_
    rintro e w1 ⟨rfl, rfl⟩
    go_wp2
    go_ret
    exact ⟨rfl, rfl⟩
  · go_enter Tryz.func125, Tryz.ntmps125
    go_wp2_with fail
    refine HG.out.mono ?_
    rintro e w1 ⟨rfl, rfl⟩
    go_wp2
    go_ret
    exact ⟨rfl, rfl⟩
theorem end_any (p : Nat) (s : ByteArray) (bad : Bool) (w : World) (h : Rd w p s bad) :
    Calls Tryz.prog 122 #[.pointer (some ⟨p, 0, none⟩)] w fun e w' => e = .returned (.bool (!bad && s.size == 0)) ∧ w = w' := by
  have HG := Lib.hid (good_any p s bad w h)
  have c0 := h.c0
  have hs := h.2
  unfold maxLen at hs
  clear h
  cases bad
  · have e0 : ((s.size : Int) == 0) = (s.size == 0) := by
      rw [Bool.eq_iff_iff, beq_iff_eq, beq_iff_eq]; omega
    go_enter Tryz.func122, Tryz.ntmps122
    go_wp2_with fail
    refine HG.out.mono ?_
    rintro e w1 ⟨rfl, rfl⟩
    go_wp2
    go_ret
    exact ⟨rfl, rfl⟩
  · go_enter Tryz.func122, Tryz.ntmps122
    go_wp2_with fail
    refine HG.out.mono ?_
    rintro e w1 ⟨rfl, rfl⟩
    go_wp2
    go_ret
    exact ⟨rfl, rfl⟩
/-- What Raw takes of what is to come. -/
def rawS (n : Int) : Option (List UInt8) → List UInt8 × Option (List UInt8)
  | none => ([], none)
  | some l => if n < 0 ∨ (l.length : Int) < n then ([], none) else (l.take n.toNat, some (l.drop n.toNat))
theorem rawOut_st (s : ByteArray) (bad : Bool) (n : Int) : (rawOut s bad n).1 = str (rawS n (st s bad)).1 ∧ st (rawOut s bad n).2.1 (rawOut s bad n).2.2 = (rawS n (st s bad)).2 := by
  unfold rawOut st rawS
  cases bad
  · simp only [Bool.false_eq_true, false_or, if_false]
    by_cases h : n < 0 ∨ (s.size : Int) < n
    · rw [if_pos h, if_pos (show n < 0 ∨ ((bl s).length : Int) < n from h)]
      exact ⟨rfl, rfl⟩
    · rw [if_neg h, if_neg (show ¬ (n < 0 ∨ ((bl s).length : Int) < n) from h)]
      refine ⟨?_, ?_⟩
      · rw [← str_bl (s.extract 0 n.toNat), ext_bl]; simp
      · simp only [Bool.false_eq_true, if_false]
        rw [ext_bl, List.take_of_length_le (by rw [List.length_drop]; exact Nat.le_refl _)]
  · simp; rfl
/-- What Text takes. -/
def textO (s : ByteArray) (bad : Bool) (most : Int) : List UInt8 × Option (List UInt8) :=
  if most < ((sizeO s bad).1 : Int) then ([], none) else rawS ((sizeO s bad).1 : Int) (sizeO s bad).2
end Go.Proofs.YtdbfaknpfepnfaaGreatDoor
