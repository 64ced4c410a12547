/-
  A slice whose elements take one cell each, as it lies.
-/
import Derived.Test.YtddlhkkkngfgiaaFr0
namespace Go.Proofs.Ytddlhkkkngfgiaa
open Go.RowKit

/-- A slice of one-cell values. -/
def Sl (w : World) (v : Value) (xs : List Value) : Prop := ∃ ao cap, v = .slice ao xs.length cap ∧ xs.length ≤ cap ∧ cap ≤ maxLen ∧
  (xs ≠ [] → ∃ b off, ao = some ⟨b, off, none⟩ ∧ b < w.heap.size ∧ ∀ i x, xs[i]? = some x → w.cell? ⟨b, off + i, none⟩ = some x)
theorem Sl.nil (w : World) : Sl w (.slice none 0 0) [] := ⟨none, 0, rfl, Nat.le_refl _, Nat.zero_le _, fun h => absurd rfl h⟩
theorem Sl.keep {S : Nat → Prop} {w w' : World} {v : Value} {xs : List Value} (h : Sl w v xs) (hf : Fr S w w') (hS : ∀ k, v.ownBlock = some k → ¬ S k) : Sl w' v xs := by
  obtain ⟨ao, cap, rfl, h1, h2, h3⟩ := h
  refine ⟨ao, cap, rfl, h1, h2, fun hne => ?_⟩
  obtain ⟨b, off, rfl, hb, hc⟩ := h3 hne
  refine ⟨b, off, rfl, Nat.lt_of_lt_of_le hb hf.size, fun i x hx => hf.cell (hc i x hx) (hS b rfl)⟩
theorem Sl.below {w w' : World} {v : Value} {xs : List Value} (h : Sl w v xs) (hb : Below w.heap.size w w') : Sl w' v xs :=
  h.keep (Fr.of_below (fun _ => False) hb) (fun _ _ h => h)
theorem Sl.drewN {w : World} {v : Value} {xs : List Value} (h : Sl w v xs) (n : Nat) : Sl (w.drewN n) v xs := h.keep ((Fr.refl (fun _ => False) w).drewN n) (fun _ _ h => h)
theorem Sl.own {w : World} {B : Nat} {e : TypeId} {v : Value} {n : Nat} {xs : List Value} (h : w.ownsRow B e 1 v n xs) : Sl w v xs := by
  obtain ⟨hl, h2⟩ := h
  rw [Nat.mul_one] at hl
  rcases h2 with ⟨rfl, rfl⟩ | ⟨g, cap, cur, rfl, hg, hh, hcap, hmax, hcs, htk⟩
  · have := List.length_eq_zero_iff.1 hl
    subst this
    exact Sl.nil w
  · refine ⟨some ⟨g, 0, none⟩, cap, by rw [hl], by omega, hmax, fun _ => ⟨g, 0, rfl, lt_of_block hh, fun i x hx => ?_⟩⟩
    have hlt := (List.getElem?_eq_some_iff.1 hx).1
    have : cur[i]? = some x := by
      have e : (cur.toList.take (n * 1))[i]? = cur.toList[i]? := by rw [List.getElem?_take, if_pos (by omega)]
      rw [← Array.getElem?_toList, ← e, htk, hx]
    simp [World.cell?, hh, this]
/-- What there is to know before a walk: the slice is empty, or it lies at a place, with its cells. -/
theorem Sl.cases {w : World} {v : Value} {xs : List Value} (h : Sl w v xs) : (xs = [] ∧ ∃ ao cap, v = .slice ao 0 cap) ∨
    ∃ b off cap, v = .slice (some ⟨b, off, none⟩) xs.length cap ∧ 0 < xs.length ∧ xs.length ≤ cap ∧ cap ≤ maxLen ∧ b < w.heap.size ∧ ∀ i x, xs[i]? = some x → w.cell? ⟨b, off + i, none⟩ = some x := by
  obtain ⟨ao, cap, rfl, h1, h2, h3⟩ := h
  by_cases hx : xs = []
  · subst hx; exact .inl ⟨rfl, ao, cap, rfl⟩
  · obtain ⟨b, off, rfl, hb, hc⟩ := h3 hx
    exact .inr ⟨b, off, cap, rfl, List.length_pos_iff.2 hx, h1, h2, hb, hc⟩
theorem Sl.len {w : World} {v : Value} {xs : List Value} (h : Sl w v xs) : xs.length ≤ maxLen := by
  obtain ⟨ao, cap, _, h1, h2, _⟩ := h; omega
/-- A slice's cell, behind whatever has turned elsewhere. -/
def SlAt (w : World) (b off : Nat) (xs : List Value) : Prop := b < w.heap.size ∧ ∀ i x, xs[i]? = some x → w.cell? ⟨b, off + i, none⟩ = some x
theorem SlAt.keep {S : Nat → Prop} {w w' : World} {b off : Nat} {xs : List Value} (h : SlAt w b off xs) (hf : Fr S w w') (hS : ¬ S b) : SlAt w' b off xs :=
  ⟨Nat.lt_of_lt_of_le h.1 hf.size, fun i x hx => hf.cell (h.2 i x hx) hS⟩
theorem SlAt.below {w w' : World} {b off : Nat} {xs : List Value} (h : SlAt w b off xs) (hb : Below w.heap.size w w') : SlAt w' b off xs := h.keep (Fr.of_below (fun _ => False) hb) (fun h => h)
theorem SlAt.belowOf {w0 w : World} {b off : Nat} {xs : List Value} (h : SlAt w0 b off xs) (hb : Below w0.heap.size w0 w) : SlAt w b off xs := h.below hb
end Go.Proofs.Ytddlhkkkngfgiaa
