
/-
  Plain: what a step takes is what a pair lays.
-/
import Derived.Test.YtcoicdaobgneeaaBRdW
import Derived.Test.YtcoicdaobgneeaaBlockP
namespace Go.Proofs.Ytcoicdaobgneeaa
open CodecP

theorem sz_grp (n : Nat) (r : List UInt8) (h : n < 9223372036854775808) : sz (some (grp n ++ r)) = (n, some r) := by
  unfold sz
  simp only []
  rw [tk_grp n r (by omega)]
  simp only []
  rw [if_neg (by omega)]
theorem sz_some {o : Option (List UInt8)} {n : Nat} {r : List UInt8} (h : sz o = (n, some r)) : o = some (grp n ++ r) ∧ n < 9223372036854775808 := by
  unfold sz at h
  cases o with
  | none => simp at h
  | some l =>
    simp only [] at h
    cases ht : tk 0 l with
    | none => rw [ht] at h; simp at h
    | some x =>
      obtain ⟨m, q⟩ := x
      rw [ht] at h
      simp only [] at h
      split at h
      · simp at h
      · simp only [Prod.mk.injEq, Option.some.injEq] at h
        obtain ⟨rfl, rfl⟩ := h
        exact ⟨by rw [(grp_tk m l q ht).1], by omega⟩
/-- A pair that was laid is taken. -/
theorem stepF_ent (last : List UInt8) (same : Nat) (p : Pr) (rest : List UInt8) (h1 : same ≤ last.length) (h3 : p.1.take same = last.take same) (hl : last.length ≤ 1000000) (hk : p.1.length - same ≤ 80) (hv : p.2.length ≤ 16000) :
    stepF last (some (ent same p ++ rest)) = some (p, same, rest) := by
  unfold stepF ent
  simp only [List.append_assoc]
  rw [sz_grp _ _ (by omega)]
  simp only []
  rw [sz_grp _ _ (by omega)]
  simp only []
  rw [sz_grp _ _ (by omega)]
  simp only []
  rw [if_neg (by omega)]
  simp only []
  have e1 : (p.1.drop same).length = p.1.length - same := List.length_drop
  rw [if_neg (by simp only [List.length_append, List.length_drop]; omega)]
  rw [← e1, List.take_left' rfl, List.drop_left' rfl, List.take_left' rfl, ← h3, List.take_append_drop]
  rw [← List.append_assoc, List.drop_left' (by rw [List.length_append])]
/-- What was taken was laid. -/
theorem ent_stepF {last : List UInt8} {o : Option (List UInt8)} {p : Pr} {same : Nat} {rest : List UInt8} (h : stepF last o = some (p, same, rest)) :
    o = some (ent same p ++ rest) ∧ same ≤ last.length ∧ same ≤ p.1.length ∧ p.1.take same = last.take same ∧ p.1.length - same ≤ 80 ∧ p.2.length ≤ 16000 := by
  unfold stepF at h
  simp only [] at h
  obtain ⟨a1, a2, ha⟩ : ∃ x y, sz o = (x, y) := ⟨_, _, rfl⟩
  obtain ⟨b1, b2, hb⟩ : ∃ x y, sz a2 = (x, y) := ⟨_, _, rfl⟩
  obtain ⟨c1, c2, hc⟩ : ∃ x y, sz b2 = (x, y) := ⟨_, _, rfl⟩
  simp only [ha, hb, hc] at h
  by_cases hbad : last.length < a1 ∨ 80 < b1 ∨ 16000 < c1
  · rw [if_pos hbad] at h; simp at h
  · rw [if_neg hbad] at h
    cases c2 with
    | none => simp at h
    | some l =>
      simp only [] at h
      obtain ⟨rfl, l3⟩ := sz_some hc
      obtain ⟨rfl, l2⟩ := sz_some hb
      obtain ⟨rfl, l1⟩ := sz_some ha
      split at h
      · simp at h
      · rename_i hl
        simp only [Option.some.injEq, Prod.mk.injEq] at h
        obtain ⟨rfl, rfl, rfl⟩ := h
        have e1 : (last.take a1).length = a1 := by rw [List.length_take]; omega
        have e2 : (l.take b1).length = b1 := by rw [List.length_take]; omega
        have e3 : ((l.drop b1).take c1).length = c1 := by rw [List.length_take, List.length_drop]; omega
        refine ⟨?_, by omega, ?_, ?_, ?_, ?_⟩
        · unfold ent
          simp only [List.length_append, e1, e2, e3, Nat.add_sub_cancel_left, List.append_assoc]
          rw [List.drop_left' e1, ← List.drop_drop, List.take_append_drop, List.take_append_drop]
        · simp only [List.length_append, e1]; omega
        · simp only []
          rw [List.take_left' e1]
        · simp only [List.length_append, e1, e2]; omega
        · simp only [e3]; omega
end Go.Proofs.Ytcoicdaobgneeaa
