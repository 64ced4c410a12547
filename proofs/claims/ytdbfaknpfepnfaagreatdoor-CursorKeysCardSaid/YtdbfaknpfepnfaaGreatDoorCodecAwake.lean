
/-
  The walk of law 03's awake.
-/
import Derived.Test.YtdbfaknpfepnfaaGreatDoorReader3W
namespace Go.Proofs.YtdbfaknpfepnfaaGreatDoor
open Go.RowKit CodecP

theorem st_some {s : ByteArray} {b : Bool} {l : List UInt8} (h : st s b = some l) : b = false ∧ s = str l := by
  unfold st at h
  cases b
  · rw [if_neg (by simp)] at h
    injection h with h
    exact ⟨rfl, by rw [← h, str_bl]⟩
  · rw [if_pos rfl] at h; cases h
/-- A reader that the call itself has made at block p, with what is to come (none: it is bad). -/
structure ROwn (w0 w : World) (p : Nat) (o : Option (List UInt8)) : Prop where
  rd : ∃ s b, Rd w p s b ∧ st s b = o
  below : Below w0.heap.size w0 w
  base : w0.heap.size ≤ p
theorem ROwn.step {w0 w w' : World} {p : Nat} {o o' : Option (List UInt8)} (h : ROwn w0 w p o) (k : RdTo w w' p o') : ROwn w0 w' p o' := by
  obtain ⟨s, b, hr, hs, hf⟩ := k
  exact ⟨⟨s, b, hr, hs⟩, h.below.trans (hf.below h.below.size (fun k _ hk => by unfold RdS at hk; rw [hk]; exact h.base)), h.base⟩
theorem ROwn.some {w0 w : World} {p : Nat} {l : List UInt8} (h : ROwn w0 w p (some l)) : Rd w p (str l) false := by
  obtain ⟨s, b, hr, hs⟩ := h.rd
  obtain ⟨rfl, rfl⟩ := st_some hs
  exact hr
theorem ROwn.none {w0 w : World} {p : Nat} (h : ROwn w0 w p none) : ∃ s, Rd w p s true := by
  obtain ⟨s, b, hr, hs⟩ := h.rd
  unfold st at hs
  cases b
  · cases hs
  · exact ⟨s, hr⟩
theorem ROwn.new {w0 w w' : World} {p : Nat} {s : ByteArray} (hb : Below w0.heap.size w0 w) (hr : Rd w' p s false) (hb' : Below w.heap.size w w') (hp : w.heap.size ≤ p) : ROwn w0 w' p (Option.some (bl s)) :=
  ⟨⟨s, false, hr, rfl⟩, hb.trans (hb'.mono hb.size), Nat.le_trans hb.size hp⟩
theorem awk_laid : ([] ++ grp (300 : Int).toNat ++ grp (zig (-1)) ++ text (ByteArray.mk #[97, 98]).data.toList : List UInt8) = [172, 2, 1, 2, 97, 98] := by decide
theorem awk_len : ([] ++ grp (300 : Int).toNat ++ grp (zig (-1)) : List UInt8).length = 3 := by decide
theorem awk_size : sizeO (str [172, 2, 1, 2, 97, 98]) false = (300, some [1, 2, 97, 98]) := by decide
theorem awk_signed : tkI 0 0 (str [1, 2, 97, 98]) false = (1, some [2, 97, 98]) := by decide
theorem awk_text : textO (str [2, 97, 98]) false 5 = ([97, 98], some []) := by decide
end Go.Proofs.YtdbfaknpfepnfaaGreatDoor
