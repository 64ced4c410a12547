
/-
  The walk of the document's Number; the law CodecSizes.
-/
import Derived.Test.YtdbfaknpfepnfaaGreatDoorRefTake2W
namespace Go.Proofs.YtdbfaknpfepnfaaGreatDoor
open Go.RowKit CodecP

/-- What Take and a reader's groups tell of each other. -/
theorem take_tk (s : ByteArray) : (∃ n r, takeR (bl s) = (n, s.size - r.length) ∧ tkI 0 0 s false = (n, some r) ∧ n < 18446744073709551616 ∧ r.length < s.size) ∨ (takeR (bl s) = (0, 0) ∧ tkI 0 0 s false = (0, none)) := by
  unfold takeR tkI
  rw [if_neg (by simp)]
  cases h : tk 0 (bl s) with
  | none => right; exact ⟨rfl, rfl⟩
  | some y =>
    left
    obtain ⟨n, r⟩ := y
    obtain ⟨e, hn⟩ := grp_tk n _ _ h
    have hl := congrArg List.length e
    rw [List.length_append, show (bl s).length = s.size from rfl] at hl
    have := grp_pos n
    exact ⟨n, r, rfl, by simp, by simpa using hn, by omega⟩
theorem ROwn.other {w0 w w' : World} {p q : Nat} {o o' : Option (List UInt8)} (h : ROwn w0 w q o) (hp : w0.heap.size ≤ p) (k : RdTo w w' p o') (hne : q ≠ p) : ROwn w0 w' q o := by
  obtain ⟨s1, b1, _, _, hf⟩ := k
  obtain ⟨s, b, hr, hs⟩ := h.rd
  exact ⟨⟨s, b, hr.keep hf hne, hs⟩, h.below.trans (hf.below h.below.size (fun k _ hk => by unfold RdS at hk; rw [hk]; exact hp)), h.base⟩
theorem ROwn.keep {w0 w w' : World} {p : Nat} {o : Option (List UInt8)} (h : ROwn w0 w p o) (hb : Below w.heap.size w w') : ROwn w0 w' p o := by
  obtain ⟨s, b, hr, hs⟩ := h.rd
  exact ⟨⟨s, b, hr.keep (Fr.of_below (fun _ => False) hb) (fun h => h), hs⟩, h.below.trans (hb.mono h.below.size), h.base⟩
theorem ROwn.lt {w0 w : World} {p : Nat} {o : Option (List UInt8)} (h : ROwn w0 w p o) : p < w.heap.size := by
  obtain ⟨s, b, hr, _⟩ := h.rd
  exact lt_of_block hr.1
end Go.Proofs.YtdbfaknpfepnfaaGreatDoor
