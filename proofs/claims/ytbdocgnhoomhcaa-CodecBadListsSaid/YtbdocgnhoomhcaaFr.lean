/-
  Which blocks may have turned; a writer in memory.
-/
import Derived.Test.YtbdocgnhoomhcaaRows
import Derived.Test.YtbdocgnhoomhcaaCodecP
import Derived.WalkKit
import Derived.WalkSpells
import Derived.WalkLawsBesides
import Derived.Laws.BitsAllLaws
import Derived.Laws.IdiomStrings
import Derived.Lib.ConvBytes
import Derived.Maps.AppendAt
import Derived.OneCell
import Derived.Outline
import Derived.Lib.Hide
import Derived.Deep.QuietTactic
import Derived.BigQuiet
import Derived.BigRegion
namespace Go.Proofs.Ytbdocgnhoomhcaa
open Go.RowKit

/-- But for the blocks of S, and new ones, w' is as w was. -/
structure Fr (S : Nat → Prop) (w w' : World) : Prop where
  os : w'.os = w.os
  tape : w'.tape = w.tape
  output : w'.output = w.output
  size : w.heap.size ≤ w'.heap.size
  block : ∀ k, k < w.heap.size → ¬ S k → w'.heap[k]? = w.heap[k]?
theorem Fr.refl (S : Nat → Prop) (w : World) : Fr S w w := ⟨rfl, rfl, rfl, Nat.le_refl _, fun _ _ _ => rfl⟩
theorem Fr.trans {S T : Nat → Prop} {a b c : World} (h : Fr S a b) (k : Fr T b c) (hs : ∀ n, n < a.heap.size → T n → S n) : Fr S a c :=
  ⟨k.os.trans h.os, k.tape.trans h.tape, k.output.trans h.output, Nat.le_trans h.size k.size,
    fun n hn hS => (k.block n (Nat.lt_of_lt_of_le hn h.size) (fun hT => hS (hs n hn hT))).trans (h.block n hn hS)⟩
theorem Fr.mono {S T : Nat → Prop} {a b : World} (h : Fr S a b) (hs : ∀ n, n < a.heap.size → S n → T n) : Fr T a b :=
  ⟨h.os, h.tape, h.output, h.size, fun n hn hT => h.block n hn (fun hS => hT (hs n hn hS))⟩
theorem Fr.below {S : Nat → Prop} {w w' : World} (h : Fr S w w') {B : Nat} (hB : B ≤ w.heap.size) (hS : ∀ k, k < w.heap.size → S k → B ≤ k) : Below B w w' :=
  ⟨h.os, h.tape, h.output, h.size, fun k hk => h.block k (by omega) (fun hs => by have := hS k (by omega) hs; omega)⟩
theorem Fr.of_below {w w' : World} (S : Nat → Prop) (h : Below w.heap.size w w') : Fr S w w' := ⟨h.os, h.tape, h.output, h.size, fun k hk _ => h.block k hk⟩
theorem Fr.drew {S : Nat → Prop} {a w : World} (h : Fr S a w) : Fr S a w.drew := ⟨h.os, h.tape, h.output, h.size, h.block⟩
theorem Fr.drewN {S : Nat → Prop} {a w : World} (h : Fr S a w) (n : Nat) : Fr S a (w.drewN n) := ⟨h.os, h.tape, h.output, h.size, h.block⟩
theorem Fr.alloc {S : Nat → Prop} {a w : World} (h : Fr S a w) (o : Obj) : Fr S a (w.alloc o) :=
  ⟨h.os, h.tape, h.output, Nat.le_trans h.size (by simp), fun k hk hS => (Below.heap_alloc w o k (Nat.lt_of_lt_of_le hk h.size)).trans (h.block k hk hS)⟩
theorem Fr.setCell {S : Nat → Prop} {a w : World} (h : Fr S a w) {p : Addr} (hp : S p.block ∨ a.heap.size ≤ p.block) (u : Value) : Fr S a (w.setCell p u) :=
  ⟨h.os, h.tape, h.output, by simpa [World.setCell] using h.size, fun k hk hS => (Below.heap_setCell w p u k (by
    rintro rfl
    rcases hp with hp | hp
    · exact hS hp
    · omega)).trans (h.block k hk hS)⟩
theorem Fr.grown {S : Nat → Prop} {a w w' : World} {row : Option Nat} (h : Fr S a w) (hg : w.grownBy w' row) (hr : ∀ k, k < a.heap.size → row = some k → S k) : Fr S a w' :=
  ⟨hg.os.trans h.os, hg.tape.trans h.tape, hg.output.trans h.output, Nat.le_trans h.size hg.size,
    fun k hk hS => (hg.block k (Nat.lt_of_lt_of_le hk h.size) (fun e => hS (hr k hk e.symm))).trans (h.block k hk hS)⟩
theorem Fr.bytes {S : Nat → Prop} {a w : World} (h : Fr S a w) (e : TypeId) (s : ByteArray) : Fr S a (Lib.bytesWorld w e s) :=
  ⟨h.os, h.tape, h.output, Nat.le_trans h.size (by rw [Lib.bytesWorld_size]; omega), fun k hk hS => (Lib.bytesWorld_at_old w e s k (Nat.lt_of_lt_of_le hk h.size)).trans (h.block k hk hS)⟩
theorem Fr.cell {S : Nat → Prop} {w w' : World} (h : Fr S w w') {a : Addr} {v : Value} (hc : w.cell? a = some v) (hS : ¬ S a.block) : w'.cell? a = some v := by
  have hlt : a.block < w.heap.size := by
    unfold World.cell? at hc
    rcases Nat.lt_or_ge a.block w.heap.size with h1 | h1
    · exact h1
    · rw [Array.getElem?_eq_none h1] at hc; simp at hc
  rw [World.cell?_of_block (w := w) (h.block _ hlt hS)]; exact hc

theorem info_u8b : (Try.prog.info? 5).map (fun i => (i.zero, i.size, i.bytes)) = some (some (.int .u8 0), 1, 1) := by kernel_rfl
/-- Bytes as cells. -/
def u8s (l : List UInt8) : List Value := l.map fun b => Value.int .u8 (b.toNat : Int)
theorem u8s_length (l : List UInt8) : (u8s l).length = l.length := by simp [u8s]
theorem u8s_append (a b : List UInt8) : u8s (a ++ b) = u8s a ++ u8s b := by simp [u8s]
theorem u8s_one (l : List UInt8) : ∀ x ∈ u8s l, x.oneCell' = true := by
  intro x hx; unfold u8s at hx; simp at hx; obtain ⟨b, _, rfl⟩ := hx; rfl
/-- A slice of bytes, as it lies. -/
def BsAt (w : World) (ad : Addr) (l : List UInt8) : Prop := ∀ (j : Nat) (x : Value), (u8s l)[j]? = some x → w.cell? (ad.add j) = some x
/-- A block known whole but for one cell: what that cell holds, behind a store too. -/
theorem cell_of_set {w : World} {p o : Nat} {cs : Array Value} {v : Value} {t : TypeId} (h : w.heap[p]? = some (.cells (cs.setIfInBounds o v) t (0, 0))) (ho : o < cs.size) : w.cell? ⟨p, o, none⟩ = some v := by
  simp [World.cell?, h, ho]
theorem free_of_set {w : World} {p : Nat} {cs : Array Value} {t : TypeId} (o : Nat) (h : w.heap[p]? = some (.cells cs t (0, 0))) : w.frozen? ⟨p, o, none⟩ = false := by simp [World.frozen?, h]
theorem set_setCell {w : World} {p o : Nat} {cs : Array Value} {v : Value} {t : TypeId} (u : Value) (h : w.heap[p]? = some (.cells (cs.setIfInBounds o v) t (0, 0))) : (w.setCell ⟨p, o, none⟩ u).heap[p]? = some (.cells (cs.setIfInBounds o u) t (0, 0)) := by
  have hlt := lt_of_block h
  have h' : w.heap[p] = .cells (cs.setIfInBounds o v) t (0, 0) := by simpa [Array.getElem?_eq_getElem hlt] using h
  show (w.heap.modify p _)[p]? = _
  rw [Array.getElem?_eq_getElem (by simpa using hlt), Array.getElem_modify_self, h']
  simp
/-- A writer, whose one cell is cell o of block p (the block's other cells: cs), with what was laid; its bytes lie in block g. -/
def Wr (w : World) (p o : Nat) (cs : Array Value) (t : TypeId) (g : Option Nat) (l : List UInt8) : Prop :=
  ∃ v, w.heap[p]? = some (.cells (cs.setIfInBounds o v) t (0, 0)) ∧ o < cs.size ∧ w.ownsRow 0 5 1 v l.length (u8s l) ∧ v.ownBlock = g ∧ g ≠ some p
/-- The blocks of a writer. -/
def WrS (p : Nat) (g : Option Nat) : Nat → Prop := fun k => k = p ∨ g = some k
theorem Wr.lt {w : World} {p o : Nat} {cs : Array Value} {t : TypeId} {g : Option Nat} {l : List UInt8} (h : Wr w p o cs t g l) : p < w.heap.size := by
  obtain ⟨v, hp, _⟩ := h
  exact lt_of_block hp
theorem Wr.lt2 {w : World} {p o : Nat} {cs : Array Value} {t : TypeId} {g : Option Nat} {l : List UInt8} (h : Wr w p o cs t g l) : ∀ k, g = some k → k < w.heap.size := by
  obtain ⟨v, hp, _, ho, hg, _⟩ := h
  intro k hk
  exact (ho.lt k (by rw [hg, hk])).2
theorem owns_of_block {w w' : World} {base e size : Nat} {v : Value} {n : Nat} {xs : List Value} (h : w.ownsRow base e size v n xs) (hb : ∀ k, v.ownBlock = some k → w'.heap[k]? = w.heap[k]?) : w'.ownsRow base e size v n xs := by
  obtain ⟨h1, h2⟩ := h
  refine ⟨h1, ?_⟩
  rcases h2 with h2 | ⟨g, cap, cur, hv, hg, hh, r⟩
  · exact Or.inl h2
  · exact Or.inr ⟨g, cap, cur, hv, hg, by rw [hb g (by rw [hv]; rfl)]; exact hh, r⟩
theorem Wr.keep {w w' : World} {S : Nat → Prop} {p o : Nat} {cs : Array Value} {t : TypeId} {g : Option Nat} {l : List UInt8} (h : Wr w p o cs t g l) (hf : Fr S w w') (hS : ∀ k, WrS p g k → ¬ S k) : Wr w' p o cs t g l := by
  have h1 := h.lt
  have h2 := h.lt2
  obtain ⟨v, hp, hlt, ho, hg, hne⟩ := h
  refine ⟨v, (hf.block p h1 (hS p (.inl rfl))).trans hp, hlt, ?_, hg, hne⟩
  refine owns_of_block ho (fun k hk => hf.block k (h2 k (by rw [← hg, hk])) (hS k (.inr (by rw [← hg, hk]))))
theorem Wr.drew {w : World} {p o : Nat} {cs : Array Value} {t : TypeId} {g : Option Nat} {l : List UInt8} (h : Wr w p o cs t g l) : Wr w.drew p o cs t g l := h
/-- What a call to a writer leaves: what was laid, and that nothing but the writer's own blocks has turned. -/
structure WrBy (w w' : World) (p o : Nat) (cs : Array Value) (t : TypeId) (g : Option Nat) (l : List UInt8) : Prop where
  wr : ∃ g', (g' = g ∨ ∃ k, g' = some k ∧ w.heap.size ≤ k) ∧ Wr w' p o cs t g' l
  fr : Fr (WrS p g) w w'
theorem WrBy.refl {w : World} {p o : Nat} {cs : Array Value} {t : TypeId} {g : Option Nat} {l : List UInt8} (h : Wr w p o cs t g l) : WrBy w w p o cs t g l := ⟨⟨g, .inl rfl, h⟩, Fr.refl _ _⟩
theorem WrBy.trans {a b c : World} {p o : Nat} {cs : Array Value} {t : TypeId} {g g' : Option Nat} {m : List UInt8} (h : Fr (WrS p g) a b) (hg : g' = g ∨ ∃ k, g' = some k ∧ a.heap.size ≤ k) (k : WrBy b c p o cs t g' m) : WrBy a c p o cs t g m := by
  obtain ⟨⟨g2, hg2, hw⟩, hf⟩ := k
  refine ⟨⟨g2, ?_, hw⟩, h.trans hf (fun n hn hs => ?_)⟩
  · rcases hg2 with rfl | ⟨k, rfl, hk⟩
    · exact hg
    · exact .inr ⟨k, rfl, Nat.le_trans h.size hk⟩
  · rcases hs with hs | hs
    · exact .inl hs
    · rcases hg with rfl | ⟨k, rfl, hk⟩
      · exact .inr hs
      · injection hs with hs; omega
/-- A writer of its own, just made. -/
theorem Wr.new (w : World) : Wr (w.alloc (.cells #[.slice none 0 0] 26)) w.heap.size 0 #[undef] 26 none [] :=
  ⟨.slice none 0 0, by show (w.heap.push _)[w.heap.size]? = _; simp, by decide, World.ownsRow_nil _ _ _ _, rfl, by simp⟩
/-- A writer that the call itself has made at block B, with what was laid. -/
structure Own (w0 w : World) (B : Nat) (g : Option Nat) (l : List UInt8) : Prop where
  wr : Wr w B 0 #[undef] 26 g l
  below : Below w0.heap.size w0 w
  base : w0.heap.size ≤ B
  row : ∀ k, g = some k → w0.heap.size ≤ k
theorem Own.new {w0 w : World} (hb : Below w0.heap.size w0 w) : Own w0 (w.alloc (.cells #[.slice none 0 0] 26)) w.heap.size none [] :=
  ⟨Wr.new w, hb.alloc hb.size _, hb.size, fun k h => by cases h⟩
theorem Own.step {w0 w w' : World} {B : Nat} {g : Option Nat} {l m : List UInt8} (h : Own w0 w B g l) (hb : WrBy w w' B 0 #[undef] 26 g m) : ∃ g', Own w0 w' B g' m := by
  obtain ⟨⟨g', hg', hw⟩, hf⟩ := hb
  have hbel : Below w0.heap.size w w' := hf.below h.below.size (fun k _ hk => by
    rcases hk with rfl | hk
    · exact h.base
    · exact h.row k hk)
  refine ⟨g', hw, h.below.trans hbel, h.base, fun k hk => ?_⟩
  rcases hg' with rfl | ⟨j, rfl, hj⟩
  · exact h.row k hk
  · injection hk with hk; have := h.below.size; omega
theorem Own.keep {w0 w w' : World} {B : Nat} {g : Option Nat} {l : List UInt8} (h : Own w0 w B g l) (hb : Below w.heap.size w w') : Own w0 w' B g l :=
  ⟨h.wr.keep (Fr.of_below (fun _ => False) hb) (fun _ _ h => h), h.below.trans (hb.mono h.below.size), h.base, h.row⟩
end Go.Proofs.Ytbdocgnhoomhcaa
