
/-
  A writer in memory.
-/
import Derived.Test.YtdbfaknpfepnfaaGreatDoorRows
import Derived.Test.YtdbfaknpfepnfaaGreatDoorCodecP
import Derived.Test.YtdbfaknpfepnfaaGreatDoorFr0
namespace Go.Proofs.YtdbfaknpfepnfaaGreatDoor
open Go.RowKit

theorem info_u8b : (Tryz.prog.info? 5).map (fun i => (i.zero, i.size, i.bytes)) = some (some (.int .u8 0), 1, 1) := by kernel_rfl
/-- Bytes as cells. -/
def u8s (l : List UInt8) : List Value := l.map fun b => Value.int .u8 (b.toNat : Int)
theorem u8s_length (l : List UInt8) : (u8s l).length = l.length := by simp [u8s]
theorem u8s_append (a b : List UInt8) : u8s (a ++ b) = u8s a ++ u8s b := by simp [u8s]
theorem u8s_one (l : List UInt8) : ∀ x ∈ u8s l, x.oneCell' = true := by
  intro x hx; unfold u8s at hx; simp at hx; obtain ⟨b, _, rfl⟩ := hx; rfl
/-- A slice of bytes, as it lies. -/
def BsAt (w : World) (ad : Addr) (l : List UInt8) : Prop := ∀ (j : Nat) (x : Value), (u8s l)[j]? = some x → w.cell? (ad.add j) = some x
/-- A writer, whose one cell is cell o of block p (the block's other cells: cs), with what was laid; its bytes lie in block g. -/
def Wr (w : World) (p o : Nat) (cs : Array Value) (t : TypeId) (g : Option Nat) (l : List UInt8) : Prop :=
  ∃ v, w.heap[p]? = some (.cells (cs.setIfInBounds o v) t (0, 0)) ∧ o < cs.size ∧ w.ownsRow 0 5 1 v l.length (u8s l) ∧ v.ownBlock = g ∧ g ≠ some p
/-- The blocks of a writer. -/
def WrS (p : Nat) (g : Option Nat) : Nat → Prop := fun k => k = p ∨ g = some k
theorem Wr.lt {w : World} {p o : Nat} {cs : Array Value} {t : TypeId} {g : Option Nat} {l : List UInt8} (h : Wr w p o cs t g l) : p < w.heap.size := by
  obtain ⟨v, hp, _⟩ := h
  exact lt_of_block hp
theorem Wr.lt2 {w : World} {p o : Nat} {cs : Array Value} {t : TypeId} {g : Option Nat} {l : List UInt8} (h : Wr w p o cs t g l) : ∀ k, g = some k → k < w.heap.size := by
  obtain ⟨v, hp, _, ho, hg, _⟩ := h
  intro k hk
  exact (ho.lt k (by rw [hg, hk])).2
theorem Wr.keep {w w' : World} {S : Nat → Prop} {p o : Nat} {cs : Array Value} {t : TypeId} {g : Option Nat} {l : List UInt8} (h : Wr w p o cs t g l) (hf : Fr S w w') (hS : ∀ k, WrS p g k → ¬ S k) : Wr w' p o cs t g l := by
  have h1 := h.lt
  have h2 := h.lt2
  obtain ⟨v, hp, hlt, ho, hg, hne⟩ := h
  refine ⟨v, (hf.block p h1 (hS p (.inl rfl))).trans hp, hlt, ?_, hg, hne⟩
  refine owns_of_block ho (fun k hk => hf.block k (h2 k (by rw [← hg, hk])) (hS k (.inr (by rw [← hg, hk]))))
theorem Wr.drew {w : World} {p o : Nat} {cs : Array Value} {t : TypeId} {g : Option Nat} {l : List UInt8} (h : Wr w p o cs t g l) : Wr w.drew p o cs t g l := h
/-- What a call to a writer leaves: what was laid, and that nothing but the writer's own blocks has turned. -/
structure WrBy (w w' : World) (p o : Nat) (cs : Array Value) (t : TypeId) (g : Option Nat) (l : List UInt8) : Prop where
  wr : ∃ g', (g' = g ∨ ∃ k, g' = some k ∧ w.heap.size ≤ k) ∧ Wr w' p o cs t g' l
  fr : Fr (WrS p g) w w'
theorem WrBy.refl {w : World} {p o : Nat} {cs : Array Value} {t : TypeId} {g : Option Nat} {l : List UInt8} (h : Wr w p o cs t g l) : WrBy w w p o cs t g l := ⟨⟨g, .inl rfl, h⟩, Fr.refl _ _⟩
theorem WrBy.trans {a b c : World} {p o : Nat} {cs : Array Value} {t : TypeId} {g g' : Option Nat} {m : List UInt8} (h : Fr (WrS p g) a b) (hg : g' = g ∨ ∃ k, g' = some k ∧ a.heap.size ≤ k) (k : WrBy b c p o cs t g' m) : WrBy a c p o cs t g m := by
  obtain ⟨⟨g2, hg2, hw⟩, hf⟩ := k
  refine ⟨⟨g2, ?_, hw⟩, h.trans hf (fun n hn hs => ?_)⟩
  · rcases hg2 with rfl | ⟨k, rfl, hk⟩
    · exact hg
    · exact .inr ⟨k, rfl, Nat.le_trans h.size hk⟩
  · rcases hs with hs | hs
    · exact .inl hs
    · rcases hg with rfl | ⟨k, rfl, hk⟩
      · exact .inr hs
      · injection hs with hs; omega
/-- A writer of its own, just made. -/
theorem Wr.new (w : World) : Wr (w.alloc (.cells #[.slice none 0 0] 96)) w.heap.size 0 #[undef] 96 none [] :=
  ⟨.slice none 0 0, by show (w.heap.push _)[w.heap.size]? = _; simp, by decide, World.ownsRow_nil _ _ _ _, rfl, by simp⟩
/-- A writer that the call itself has made at block B, with what was laid. -/
structure Own (w0 w : World) (B : Nat) (g : Option Nat) (l : List UInt8) : Prop where
  wr : Wr w B 0 #[undef] 96 g l
  below : Below w0.heap.size w0 w
  base : w0.heap.size ≤ B
  row : ∀ k, g = some k → w0.heap.size ≤ k
theorem Own.new {w0 w : World} (hb : Below w0.heap.size w0 w) : Own w0 (w.alloc (.cells #[.slice none 0 0] 96)) w.heap.size none [] :=
  ⟨Wr.new w, hb.alloc hb.size _, hb.size, fun k h => by cases h⟩
theorem Own.step {w0 w w' : World} {B : Nat} {g : Option Nat} {l m : List UInt8} (h : Own w0 w B g l) (hb : WrBy w w' B 0 #[undef] 96 g m) : ∃ g', Own w0 w' B g' m := by
  obtain ⟨⟨g', hg', hw⟩, hf⟩ := hb
  have hbel : Below w0.heap.size w w' := hf.below h.below.size (fun k _ hk => by
    rcases hk with rfl | hk
    · exact h.base
    · exact h.row k hk)
  refine ⟨g', hw, h.below.trans hbel, h.base, fun k hk => ?_⟩
  rcases hg' with rfl | ⟨j, rfl, hj⟩
  · exact h.row k hk
  · injection hk with hk; have := h.below.size; omega
theorem Own.keep {w0 w w' : World} {B : Nat} {g : Option Nat} {l : List UInt8} (h : Own w0 w B g l) (hb : Below w.heap.size w w') : Own w0 w' B g l :=
  ⟨h.wr.keep (Fr.of_below (fun _ => False) hb) (fun _ _ h => h), h.below.trans (hb.mono h.below.size), h.base, h.row⟩
end Go.Proofs.YtdbfaknpfepnfaaGreatDoor
