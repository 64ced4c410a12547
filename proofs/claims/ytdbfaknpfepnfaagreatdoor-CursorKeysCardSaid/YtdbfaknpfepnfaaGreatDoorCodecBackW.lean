
/-
  The plain law of CodecBack, and its walk.
-/
import Derived.Test.YtdbfaknpfepnfaaGreatDoorCodecAwake
namespace Go.Proofs.YtdbfaknpfepnfaaGreatDoor
open Go.RowKit CodecP

theorem zig_lt (n : Int) (h1 : -9223372036854775808 ≤ n) (h2 : n < 9223372036854775808) : zig n < 18446744073709551616 := by unfold zig; split <;> omega
theorem tkI_str (l : List UInt8) (m : Nat) (r : List UInt8) (h : tk 0 l = some (m, r)) : tkI 0 0 (str l) false = (m, some r) := by
  unfold tkI; rw [if_neg (by simp), bl_str, h]; simp
theorem tkI_no (l : List UInt8) (h : tk 0 l = none) : tkI 0 0 (str l) false = (0, none) := by
  unfold tkI; rw [if_neg (by simp), bl_str, h]
theorem tk_cut (n : Nat) (rest : List UInt8) (k : Nat) (hn : n < 2 ^ 64) (hk : k < (grp n).length) : tk 0 ((grp n ++ rest).take k) = none := by
  cases h : tk 0 ((grp n ++ rest).take k) with
  | none => rfl
  | some y =>
    exfalso
    obtain ⟨m, r⟩ := y
    obtain ⟨e, hm⟩ := grp_tk m _ _ h
    have e2 : grp n ++ rest = grp m ++ (r ++ (grp n ++ rest).drop k) := by
      rw [← List.append_assoc, ← e, List.take_append_drop]
    have h1 := tk_grp n rest hn
    rw [e2, tk_grp m _ hm] at h1
    injection h1 with h1
    injection h1 with h1 h2
    subst h1
    have := congrArg List.length e
    rw [List.length_append, List.length_take] at this
    omega
theorem text_take (s more : List UInt8) (hs : s.length ≤ 3000) : textO (str (text s ++ more)) false 3000 = (s, some more) := by
  have h1 : tkI 0 0 (str (text s ++ more)) false = (s.length, some (s ++ more)) := tkI_str _ _ _ (by unfold text; rw [List.append_assoc]; exact tk_grp _ _ (by omega))
  unfold textO sizeO
  rw [h1]
  simp only
  rw [if_neg (show ¬ 9223372036854775808 ≤ s.length by omega)]
  simp only
  rw [if_neg (show ¬ (3000 : Int) < (s.length : Int) by omega)]
  unfold rawS
  simp
  omega
theorem text_cut (s : List UInt8) (k : Nat) (hs : s.length ≤ 3000) (hk : k < (text s).length) : (textO (str ((text s).take k)) false 3000).2 = none := by
  unfold text at hk ⊢
  by_cases h : k < (grp s.length).length
  · have h1 : tkI 0 0 (str ((grp s.length ++ s).take k)) false = (0, none) := tkI_no _ (tk_cut _ _ _ (by omega) h)
    unfold textO sizeO
    rw [h1]
    rfl
  · have ht : (grp s.length ++ s).take k = grp s.length ++ s.take (k - (grp s.length).length) := by rw [List.take_append, List.take_of_length_le (by omega)]
    have h1 : tkI 0 0 (str ((grp s.length ++ s).take k)) false = (s.length, some (s.take (k - (grp s.length).length))) := tkI_str _ _ _ (by rw [ht]; exact tk_grp _ _ (by omega))
    rw [List.length_append] at hk
    unfold textO sizeO
    rw [h1]
    simp only
    rw [if_neg (show ¬ 9223372036854775808 ≤ s.length by omega)]
    simp only
    rw [if_neg (show ¬ (3000 : Int) < (s.length : Int) by omega)]
    unfold rawS
    simp only
    rw [if_pos (.inr (by rw [List.length_take]; omega))]
/-- What was laid, cut off: the reader is bad at the end. -/
theorem back_cut (n : Nat) (s : List UInt8) (k : Nat) (hn : n < 2 ^ 64) (hs : s.length ≤ 3000) (hk : k < (grp n ++ text s).length) :
    ∃ o, (tkI 0 0 (str ((grp n ++ text s).take k)) false).2 = o ∧ (o = none ∨ ∃ l, o = some l ∧ (textO (str l) false 3000).2 = none) := by
  by_cases h : k < (grp n).length
  · exact ⟨none, by rw [tkI_no _ (tk_cut n (text s) k hn h)], .inl rfl⟩
  · have ht : (grp n ++ text s).take k = grp n ++ (text s).take (k - (grp n).length) := by rw [List.take_append, List.take_of_length_le (by omega)]
    rw [List.length_append] at hk
    refine ⟨some ((text s).take (k - (grp n).length)), ?_, .inr ⟨_, rfl, text_cut s _ hs (by omega)⟩⟩
    rw [ht, tkI_str _ _ _ (tk_grp n _ hn)]
end Go.Proofs.YtdbfaknpfepnfaaGreatDoor
