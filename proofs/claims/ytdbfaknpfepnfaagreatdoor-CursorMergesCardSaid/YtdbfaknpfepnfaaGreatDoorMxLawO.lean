
/-
  The law CursorMerges, its sources walked.
-/
import Derived.Test.YtdbfaknpfepnfaaGreatDoorMxPuO
import Derived.Test.YtdbfaknpfepnfaaGreatDoorMxBK33
namespace Go.Proofs.YtdbfaknpfepnfaaGreatDoor
open Go.RowKit CodecP CrcP FrameP BloomP
namespace Mx

theorem PutE.below {w w' : World} {b o : Nat} (h : PutE w b o) (hb : Below w.heap.size w w') (hl : b < w.heap.size) : PutE w' b o := by
  obtain ⟨pv, L, tb, at_, tu, h0, h1, h2, h3, hp⟩ := h
  exact ⟨pv, L, tb, at_, tu, (hb.cell (p := ⟨b, o, none⟩) hl).trans h0, (hb.cell (p := ⟨b, o + 1, none⟩) hl).trans h1, (hb.cell (p := ⟨b, o + 2, none⟩) hl).trans h2, (hb.cell (p := ⟨b, o + 3, none⟩) hl).trans h3, hp.below hb⟩
theorem PutsIn.below {w w' : World} {A : Option Addr} {n : Nat} (h : PutsIn w A n) (hb : Below w.heap.size w w') : PutsIn w' A n := by
  rcases h with h | ⟨b, off, rfl, hl, h⟩
  · exact .inl h
  · exact .inr ⟨b, off, rfl, Nat.lt_of_lt_of_le hl hb.size, fun j hj => (h j hj).below hb hl⟩
theorem cursorMerges_law (v : Value) (x : Option Addr × Nat × Nat) (key : ByteArray) (w : World) (h : v = .slice x.1 x.2.1 x.2.2 ∧ x.2.1 ≤ maxLen ∧ PutsIn w x.1 x.2.1) (hkey : key.size ≤ maxLen) (hni : ∀ W, Below w.heap.size w W → Nibs W) :
    Calls Tryz.prog 7 #[v, .string key] w fun e w' => e = .returned (.bool true) ∧ Below w.heap.size w w' := by
  obtain ⟨rfl, hm, hp⟩ := h
  exact cursorMerges_with x.1 x.2.1 x.2.2 key w hm hkey (fun h6 W hW => sources_any x.1 x.2.1 x.2.2 W h6 (hp.below hW) (fun V hV => hni V (hW.trans (hV.mono hW.size)))) hni
end Mx
end Go.Proofs.YtdbfaknpfepnfaaGreatDoor
