
/-
  The document's Take: the plain law and the walk; Number.
-/
import Derived.Test.YtdbfaknpfepnfaaGreatDoorRefGroupsW
namespace Go.Proofs.YtdbfaknpfepnfaaGreatDoor
open Go.RowKit CodecP

def lowv : List UInt8 → Nat
  | [] => 0
  | c :: l => c.toNat % 128 + 128 * lowv l
theorem lowv_groups (f : Nat) : ∀ n, n < 2 ^ (7 * f + 1) → lowv (groups f n) = n := by
  induction f with
  | zero => intro n h; have : n < 2 := by simpa using h
            simp only [groups, lowv, UInt8.toNat_ofNat']; omega
  | succ f ih =>
    intro n h
    by_cases hlt : n < 128
    · rw [groups_low _ _ hlt]; simp only [lowv, UInt8.toNat_ofNat']; omega
    · rw [groups_high _ _ hlt]
      have hm2 : n / 128 < 2 ^ (7 * f + 1) := by
        rw [Nat.div_lt_iff_lt_mul (by omega)]
        rw [show 7 * (f + 1) + 1 = (7 * f + 1) + 7 by omega, Nat.pow_add] at h
        exact h
      simp only [lowv, UInt8.toNat_ofNat', ih _ hm2]; omega
/-- All but the last are at least 128, the last is less. -/
theorem groups_form (f : Nat) : ∀ n, n < 2 ^ (7 * f + 1) → ∃ l c, groups f n = l ++ [c] ∧ (∀ x ∈ l, 128 ≤ x.toNat) ∧ c.toNat < 128 ∧ l.length ≤ f := by
  induction f with
  | zero => intro n h; have : n < 2 := by simpa using h
            exact ⟨[], UInt8.ofNat n, rfl, by simp, by rw [UInt8.toNat_ofNat']; omega, by simp⟩
  | succ f ih =>
    intro n h
    by_cases hlt : n < 128
    · exact ⟨[], UInt8.ofNat n, by rw [groups_low _ _ hlt]; rfl, by simp, by rw [UInt8.toNat_ofNat']; omega, by simp⟩
    · have hm2 : n / 128 < 2 ^ (7 * f + 1) := by
        rw [Nat.div_lt_iff_lt_mul (by omega)]
        rw [show 7 * (f + 1) + 1 = (7 * f + 1) + 7 by omega, Nat.pow_add] at h
        exact h
      obtain ⟨l, c, e, h1, h2, h3⟩ := ih _ hm2
      refine ⟨UInt8.ofNat (n % 128 + 128) :: l, c, by rw [groups_high _ _ hlt, e]; rfl, ?_, h2, by simpa using h3⟩
      intro x hx
      rcases List.mem_cons.1 hx with rfl | hx
      · rw [UInt8.toNat_ofNat']; omega
      · exact h1 x hx
/-- What the document's Take answers. -/
def takeR (l : List UInt8) : Nat × Nat := match tk 0 l with
  | none => (0, 0)
  | some (n, r) => (n, l.length - r.length)
/-- At the first byte below 128, or the tenth. -/
theorem takeR_at (l : List UInt8) (k : Nat) (hk : k < 10) (hkl : k < l.length) (hb : ∀ j, j < k → 128 ≤ (l.getD j 0).toNat) (he : (l.getD k 0).toNat < 128 ∨ k = 9) :
    takeR l = if grp (lowv (l.take (k + 1)) % 18446744073709551616) = l.take (k + 1) then (lowv (l.take (k + 1)) % 18446744073709551616, k + 1) else (0, 0) := by
  by_cases hg : grp (lowv (l.take (k + 1)) % 18446744073709551616) = l.take (k + 1)
  · rw [if_pos hg]
    have h1 := tk_grp (lowv (l.take (k + 1)) % 18446744073709551616) (l.drop (k + 1)) (Nat.mod_lt _ (by omega))
    rw [hg, List.take_append_drop] at h1
    unfold takeR
    rw [h1]
    simp only [List.length_drop]
    congr 1
    omega
  · rw [if_neg hg]
    unfold takeR
    cases ht : tk 0 l with
    | none => rfl
    | some y =>
      exfalso
      obtain ⟨m, r⟩ := y
      obtain ⟨e, hm⟩ := grp_tk m _ _ ht
      obtain ⟨q, c, eq, h1, h2, h3⟩ := groups_form 9 m hm
      have eg : grp m = q ++ [c] := eq
      have hlen : (grp m).length = q.length + 1 := by rw [eg]; simp
      have hqk : q.length = k := by
        rcases Nat.lt_trichotomy q.length k with h | h | h
        · have := hb q.length h
          rw [e, eg] at this
          simp at this; omega
        · exact h
        · rcases he with he | he
          · have hkq : l.getD k 0 = q.getD k 0 := by
              rw [e, eg, List.append_assoc, List.getD_eq_getElem?_getD, List.getD_eq_getElem?_getD, List.getElem?_append_left h]
            have : q.getD k 0 ∈ q := by
              rw [List.getD_eq_getElem?_getD, List.getElem?_eq_getElem h]; simp
            have := h1 _ this
            rw [← hkq] at this; omega
          · omega
      have htk : l.take (k + 1) = grp m := by rw [e]; exact List.take_left' (by rw [hlen, hqk])
      apply hg
      rw [htk]
      have hl : lowv (grp m) = m := lowv_groups 9 m hm
      rw [hl, Nat.mod_eq_of_lt hm]
theorem takeR_out (l : List UInt8) (hb : ∀ j, j < l.length → 128 ≤ (l.getD j 0).toNat) : takeR l = (0, 0) := by
  unfold takeR
  cases ht : tk 0 l with
  | none => rfl
  | some y =>
    exfalso
    obtain ⟨m, r⟩ := y
    obtain ⟨e, hm⟩ := grp_tk m _ _ ht
    obtain ⟨q, c, eq, h1, h2, h3⟩ := groups_form 9 m hm
    have eg : grp m = q ++ [c] := eq
    have := hb q.length (by rw [e, eg]; simp)
    rw [e, eg] at this
    simp at this; omega
end Go.Proofs.YtdbfaknpfepnfaaGreatDoor
