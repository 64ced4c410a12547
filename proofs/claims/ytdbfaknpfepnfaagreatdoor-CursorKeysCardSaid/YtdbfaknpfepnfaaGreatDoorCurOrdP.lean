
/-
  The order of inner keys.
-/
import Derived.Test.YtdbfaknpfepnfaaGreatDoorCurPackW
import Derived.Sort.Walk0
namespace Go.Proofs.YtdbfaknpfepnfaaGreatDoor
open Go.RowKit CodecP Cur

theorem Cur.less_eq (a b : ByteArray) : Op.bytesLess a.toList b.toList = decide (bl a < bl b) := by
  rw [ByteArray.toList_eq, ByteArray.toList_eq]
  exact bytesLess_eq _ _
theorem app_lt_app {a b : List UInt8} (x y : List UInt8) (hl : a.length = b.length) (h : a < b) : a ++ x < b ++ y := by
  induction a generalizing b with
  | nil =>
    cases b with
    | nil => exact absurd h (List.lt_irrefl _)
    | cons c b => cases hl
  | cons c a ih =>
    cases b with
    | nil => cases hl
    | cons d b =>
      rw [List.cons_append, List.cons_append, List.cons_lt_cons_iff]
      rcases List.cons_lt_cons_iff.1 h with h | ⟨h1, h2⟩
      · exact .inl h
      · exact .inr ⟨h1, ih (by simpa using hl) h2⟩
theorem app_lt {a x y : List UInt8} (h : x < y) : a ++ x < a ++ y := by
  induction a with
  | nil => exact h
  | cons c a ih => rw [List.cons_append, List.cons_append, List.cons_lt_cons_iff]; exact .inr ⟨rfl, ih⟩
theorem fixed_lt (k : Nat) : ∀ a b : Nat, a < b → b < 256 ^ k → fixed k a < fixed k b := by
  induction k with
  | zero => intro a b h1 h2; omega
  | succ k ih =>
    intro a b h1 h2
    unfold fixed
    rcases Nat.lt_or_ge (a / 256) (b / 256) with h | h
    · exact app_lt_app _ _ (by rw [fixed_length, fixed_length]) (ih _ _ h (by rw [Nat.pow_succ] at h2; omega))
    · have e : a / 256 = b / 256 := by omega
      rw [e]
      refine app_lt ?_
      rw [List.cons_lt_cons_iff]
      left
      rw [UInt8.lt_iff_toNat_lt]
      simp only [UInt8.toNat_ofNat']
      omega
theorem inn_lt_seq (k : List UInt8) {n n' : Int} (h : n' < n) (h0 : 0 ≤ n') (h1 : n ≤ 4611686018427387904) : inn k n < inn k n' := by
  unfold inn
  exact app_lt (fixed_lt 8 _ _ (by omega) (by omega))
theorem zero_lt_of {c : UInt8} (h : c ≠ 0) : 0 < c := by
  rw [UInt8.lt_iff_toNat_lt]
  have : c.toNat ≠ 0 := fun e => h (by apply UInt8.toNat_inj.1; rw [e]; rfl)
  have e0 : (0 : UInt8).toNat = 0 := rfl
  omega
theorem inn_lt_key {k k' : List UInt8} (x y : List UInt8) (hk' : (0 : UInt8) ∉ k') (h : k < k') : k ++ [0] ++ x < k' ++ [0] ++ y := by
  induction k generalizing k' with
  | nil =>
    cases k' with
    | nil => exact absurd h (List.lt_irrefl _)
    | cons d b =>
      show (0 : UInt8) :: x < d :: (b ++ [0] ++ y)
      rw [List.cons_lt_cons_iff]
      exact .inl (zero_lt_of (fun e => hk' (by rw [e]; simp)))
  | cons c a ih =>
    cases k' with
    | nil => exact absurd h (by simp)
    | cons d b =>
      show c :: (a ++ [0] ++ x) < d :: (b ++ [0] ++ y)
      rw [List.cons_lt_cons_iff]
      rcases List.cons_lt_cons_iff.1 h with h | ⟨h1, h2⟩
      · exact .inl h
      · exact .inr ⟨h1, ih (fun hb => hk' (List.mem_cons_of_mem _ hb)) h2⟩
theorem inn_inj {k k' : List UInt8} {n n' : Int} (h : OkK k n) (h' : OkK k' n') (e : inn k n = inn k' n') : k = k' ∧ n = n' := by
  obtain ⟨h1, h2⟩ := inn_parts h
  obtain ⟨h3, h4⟩ := inn_parts h'
  rw [e] at h1 h2
  have a := h.2.2.2
  have b := h'.2.2.2
  exact ⟨h1.symm.trans h3, by omega⟩
theorem inn_lt_iff {k k' : List UInt8} {n n' : Int} (h : OkK k n) (h' : OkK k' n') : inn k n < inn k' n' ↔ k < k' ∨ (k = k' ∧ n' < n) := by
  have key : ∀ {k k' : List UInt8} {n n' : Int}, OkK k n → OkK k' n' → (k < k' ∨ (k = k' ∧ n' < n)) → inn k n < inn k' n' := fun {k k' n n'} h h' hh => by
    rcases hh with hh | ⟨rfl, hh⟩
    · exact inn_lt_key _ _ h'.2.2.1 hh
    · exact inn_lt_seq _ hh h'.2.2.2.1 h.2.2.2.2
  refine ⟨fun hlt => ?_, key h h'⟩
  rcases Classical.em (k < k') with a | a
  · exact .inl a
  · rcases Classical.em (k' < k) with b | b
    · exact absurd (List.lt_trans hlt (key h' h (.inl b))) (List.lt_irrefl _)
    · have e : k = k' := List.le_antisymm (List.not_lt.1 b) (List.not_lt.1 a)
      subst e
      rcases Int.lt_trichotomy n n' with c | c | c
      · exact absurd (List.lt_trans hlt (key h' h (.inr ⟨rfl, c⟩))) (List.lt_irrefl _)
      · subst c; exact absurd hlt (List.lt_irrefl _)
      · exact .inr ⟨rfl, c⟩
end Go.Proofs.YtdbfaknpfepnfaaGreatDoor
