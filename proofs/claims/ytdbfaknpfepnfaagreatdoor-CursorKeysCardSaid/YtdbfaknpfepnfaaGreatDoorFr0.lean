
/-
  Which blocks may have turned.
-/
import Derived.Test.YtdbfaknpfepnfaaGreatDoorRows
import Derived.WalkKit
import Derived.WalkSpells
import Derived.WalkLawsBesides
import Derived.Laws.BitsAllLaws
import Derived.Laws.IdiomStrings
import Derived.Lib.ConvBytes
import Derived.Maps.AppendAt
import Derived.OneCell
import Derived.Outline
import Derived.Lib.Hide
import Derived.Deep.QuietTactic
import Derived.BigQuiet
import Derived.BigRegion
namespace Go.Proofs.YtdbfaknpfepnfaaGreatDoor
open Go.RowKit

/-- But for the blocks of S, and new ones, w' is as w was. -/
structure Fr (S : Nat → Prop) (w w' : World) : Prop where
  os : w'.os = w.os
  tape : w'.tape = w.tape
  output : w'.output = w.output
  size : w.heap.size ≤ w'.heap.size
  block : ∀ k, k < w.heap.size → ¬ S k → w'.heap[k]? = w.heap[k]?
theorem Fr.refl (S : Nat → Prop) (w : World) : Fr S w w := ⟨rfl, rfl, rfl, Nat.le_refl _, fun _ _ _ => rfl⟩
theorem Fr.trans {S T : Nat → Prop} {a b c : World} (h : Fr S a b) (k : Fr T b c) (hs : ∀ n, n < a.heap.size → T n → S n) : Fr S a c :=
  ⟨k.os.trans h.os, k.tape.trans h.tape, k.output.trans h.output, Nat.le_trans h.size k.size,
    fun n hn hS => (k.block n (Nat.lt_of_lt_of_le hn h.size) (fun hT => hS (hs n hn hT))).trans (h.block n hn hS)⟩
theorem Fr.mono {S T : Nat → Prop} {a b : World} (h : Fr S a b) (hs : ∀ n, n < a.heap.size → S n → T n) : Fr T a b :=
  ⟨h.os, h.tape, h.output, h.size, fun n hn hT => h.block n hn (fun hS => hT (hs n hn hS))⟩
theorem Fr.below {S : Nat → Prop} {w w' : World} (h : Fr S w w') {B : Nat} (hB : B ≤ w.heap.size) (hS : ∀ k, k < w.heap.size → S k → B ≤ k) : Below B w w' :=
  ⟨h.os, h.tape, h.output, h.size, fun k hk => h.block k (by omega) (fun hs => by have := hS k (by omega) hs; omega)⟩
theorem Fr.of_below {w w' : World} (S : Nat → Prop) (h : Below w.heap.size w w') : Fr S w w' := ⟨h.os, h.tape, h.output, h.size, fun k hk _ => h.block k hk⟩
theorem Fr.drew {S : Nat → Prop} {a w : World} (h : Fr S a w) : Fr S a w.drew := ⟨h.os, h.tape, h.output, h.size, h.block⟩
theorem Fr.drewN {S : Nat → Prop} {a w : World} (h : Fr S a w) (n : Nat) : Fr S a (w.drewN n) := ⟨h.os, h.tape, h.output, h.size, h.block⟩
theorem Fr.alloc {S : Nat → Prop} {a w : World} (h : Fr S a w) (o : Obj) : Fr S a (w.alloc o) :=
  ⟨h.os, h.tape, h.output, Nat.le_trans h.size (by simp), fun k hk hS => (Below.heap_alloc w o k (Nat.lt_of_lt_of_le hk h.size)).trans (h.block k hk hS)⟩
theorem Fr.setCell {S : Nat → Prop} {a w : World} (h : Fr S a w) {p : Addr} (hp : S p.block ∨ a.heap.size ≤ p.block) (u : Value) : Fr S a (w.setCell p u) :=
  ⟨h.os, h.tape, h.output, by simpa [World.setCell] using h.size, fun k hk hS => (Below.heap_setCell w p u k (by
    rintro rfl
    rcases hp with hp | hp
    · exact hS hp
    · omega)).trans (h.block k hk hS)⟩
theorem Fr.grown {S : Nat → Prop} {a w w' : World} {row : Option Nat} (h : Fr S a w) (hg : w.grownBy w' row) (hr : ∀ k, k < a.heap.size → row = some k → S k) : Fr S a w' :=
  ⟨hg.os.trans h.os, hg.tape.trans h.tape, hg.output.trans h.output, Nat.le_trans h.size hg.size,
    fun k hk hS => (hg.block k (Nat.lt_of_lt_of_le hk h.size) (fun e => hS (hr k hk e.symm))).trans (h.block k hk hS)⟩
theorem Fr.bytes {S : Nat → Prop} {a w : World} (h : Fr S a w) (e : TypeId) (s : ByteArray) : Fr S a (Lib.bytesWorld w e s) :=
  ⟨h.os, h.tape, h.output, Nat.le_trans h.size (by rw [Lib.bytesWorld_size]; omega), fun k hk hS => (Lib.bytesWorld_at_old w e s k (Nat.lt_of_lt_of_le hk h.size)).trans (h.block k hk hS)⟩
theorem Fr.cell {S : Nat → Prop} {w w' : World} (h : Fr S w w') {a : Addr} {v : Value} (hc : w.cell? a = some v) (hS : ¬ S a.block) : w'.cell? a = some v := by
  have hlt : a.block < w.heap.size := by
    unfold World.cell? at hc
    rcases Nat.lt_or_ge a.block w.heap.size with h1 | h1
    · exact h1
    · rw [Array.getElem?_eq_none h1] at hc; simp at hc
  rw [World.cell?_of_block (w := w) (h.block _ hlt hS)]; exact hc

/-- A block known whole but for one cell: what that cell holds, behind a store too. -/
theorem cell_of_set {w : World} {p o : Nat} {cs : Array Value} {v : Value} {t : TypeId} (h : w.heap[p]? = some (.cells (cs.setIfInBounds o v) t (0, 0))) (ho : o < cs.size) : w.cell? ⟨p, o, none⟩ = some v := by
  simp [World.cell?, h, ho]
theorem free_of_set {w : World} {p : Nat} {cs : Array Value} {t : TypeId} (o : Nat) (h : w.heap[p]? = some (.cells cs t (0, 0))) : w.frozen? ⟨p, o, none⟩ = false := by simp [World.frozen?, h]
theorem set_setCell {w : World} {p o : Nat} {cs : Array Value} {v : Value} {t : TypeId} (u : Value) (h : w.heap[p]? = some (.cells (cs.setIfInBounds o v) t (0, 0))) : (w.setCell ⟨p, o, none⟩ u).heap[p]? = some (.cells (cs.setIfInBounds o u) t (0, 0)) := by
  have hlt := lt_of_block h
  have h' : w.heap[p] = .cells (cs.setIfInBounds o v) t (0, 0) := by simpa [Array.getElem?_eq_getElem hlt] using h
  show (w.heap.modify p _)[p]? = _
  rw [Array.getElem?_eq_getElem (by simpa using hlt), Array.getElem_modify_self, h']
  simp
theorem owns_of_block {w w' : World} {base e size : Nat} {v : Value} {n : Nat} {xs : List Value} (h : w.ownsRow base e size v n xs) (hb : ∀ k, v.ownBlock = some k → w'.heap[k]? = w.heap[k]?) : w'.ownsRow base e size v n xs := by
  obtain ⟨h1, h2⟩ := h
  refine ⟨h1, ?_⟩
  rcases h2 with h2 | ⟨g, cap, cur, hv, hg, hh, r⟩
  · exact Or.inl h2
  · exact Or.inr ⟨g, cap, cur, hv, hg, by rw [hb g (by rw [hv]; rfl)]; exact hh, r⟩
theorem own_form {w : World} {base e size : Nat} {v : Value} {n : Nat} {xs : List Value} (h : w.ownsRow base e size v n xs) : ∃ ao c, v = .slice ao n c := by
  rcases h.2 with ⟨h, h0⟩ | ⟨g, cap, cur, hv, _⟩
  · exact ⟨none, 0, by rw [h, h0]⟩
  · exact ⟨_, _, hv⟩
theorem _root_.Go.RowKit.Below.drewN {B : Nat} {a w : World} (h : Below B a w) (n : Nat) : Below B a (w.drewN n) := ⟨h.os, h.tape, h.output, h.size, h.block⟩
end Go.Proofs.YtdbfaknpfepnfaaGreatDoor
