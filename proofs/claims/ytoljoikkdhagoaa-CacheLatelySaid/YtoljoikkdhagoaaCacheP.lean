/-
  A ring of entries in memory; a map of entries; the plain laws of the ring.
-/
import Derived.Test.YtoljoikkdhagoaaFr0
import Derived.Maps.OwnSet
namespace Go.Proofs.Ytoljoikkdhagoaa
open Go.RowKit Go.Maps

def upd {A : Type} (f : Nat → A) (i : Nat) (x : A) : Nat → A := fun j => if j = i then x else f j
theorem upd_same {A : Type} (f : Nat → A) (i : Nat) (x : A) : upd f i x i = x := by simp [upd]
theorem upd_other {A : Type} (f : Nat → A) (i : Nat) (x : A) {j : Nat} (h : j ≠ i) : upd f i x j = f j := by simp [upd, h]
/-- Entries, as they lie. -/
def NodesAt (w : World) (T : TypeId) (S : List Nat) (kv : Nat → Value) (vv : Nat → Int) (nx pv : Nat → Nat) : Prop :=
  ∀ b ∈ S, w.heap[b]? = some (.cells #[kv b, .int .i64 (vv b), .pointer (some ⟨pv b, 0, none⟩), .pointer (some ⟨nx b, 0, none⟩)] T (0, 0))
section
variable {w w' : World} {T : TypeId} {S : List Nat} {kv : Nat → Value} {vv : Nat → Int} {nx pv : Nat → Nat}
theorem cell_of {w : World} {b o : Nat} {cs : Array Value} {t : TypeId} {f : Nat × Nat} {v : Value} (h : w.heap[b]? = some (.cells cs t f)) (hv : cs[o]? = some v) : w.cell? ⟨b, o, none⟩ = some v := by simp [World.cell?, h, hv]
theorem NodesAt.c0 (h : NodesAt w T S kv vv nx pv) {b : Nat} (hb : b ∈ S) : w.cell? ⟨b, 0, none⟩ = some (kv b) := cell_of (h b hb) rfl
theorem NodesAt.c1 (h : NodesAt w T S kv vv nx pv) {b : Nat} (hb : b ∈ S) : w.cell? ⟨b, 1, none⟩ = some (.int .i64 (vv b)) := cell_of (h b hb) rfl
theorem NodesAt.c2 (h : NodesAt w T S kv vv nx pv) {b : Nat} (hb : b ∈ S) : w.cell? ⟨b, 2, none⟩ = some (.pointer (some ⟨pv b, 0, none⟩)) := cell_of (h b hb) rfl
theorem NodesAt.c3 (h : NodesAt w T S kv vv nx pv) {b : Nat} (hb : b ∈ S) : w.cell? ⟨b, 3, none⟩ = some (.pointer (some ⟨nx b, 0, none⟩)) := cell_of (h b hb) rfl
theorem NodesAt.free (h : NodesAt w T S kv vv nx pv) {b : Nat} (hb : b ∈ S) (o : Nat) : w.frozen? ⟨b, o, none⟩ = false := by simp [World.frozen?, h b hb]
theorem NodesAt.lt (h : NodesAt w T S kv vv nx pv) {b : Nat} (hb : b ∈ S) : b < w.heap.size := lt_of_block (h b hb)
theorem NodesAt.keep {R : Nat → Prop} (h : NodesAt w T S kv vv nx pv) (hf : Fr R w w') (hR : ∀ b ∈ S, ¬ R b) : NodesAt w' T S kv vv nx pv :=
  fun b hb => (hf.block b (h.lt hb) (hR b hb)).trans (h b hb)
theorem NodesAt.drew (h : NodesAt w T S kv vv nx pv) : NodesAt w.drew T S kv vv nx pv := h
theorem NodesAt.drewN (h : NodesAt w T S kv vv nx pv) (n : Nat) : NodesAt (w.drewN n) T S kv vv nx pv := h
theorem set_at {w : World} {p o : Nat} {cs : Array Value} {t : TypeId} (u : Value) (h : w.heap[p]? = some (.cells cs t (0, 0))) : (w.setCell ⟨p, o, none⟩ u).heap[p]? = some (.cells (cs.setIfInBounds o u) t (0, 0)) := by
  have hlt := lt_of_block h
  have h' : w.heap[p] = .cells cs t (0, 0) := by simpa [Array.getElem?_eq_getElem hlt] using h
  show (w.heap.modify p _)[p]? = _
  rw [Array.getElem?_eq_getElem (by simpa using hlt), Array.getElem_modify_self, h']; rfl
theorem set_off {w : World} {a : Addr} {b : Nat} (u : Value) (h : b ≠ a.block) : (w.setCell a u).heap[b]? = w.heap[b]? := Below.heap_setCell _ _ _ _ h
theorem NodesAt.set1 (h : NodesAt w T S kv vv nx pv) {p : Nat} (n : Int) : NodesAt (w.setCell ⟨p, 1, none⟩ (.int .i64 n)) T S kv (upd vv p n) nx pv := by
  intro b hb
  by_cases e : b = p
  · subst e; rw [set_at _ (h b hb), upd_same]; rfl
  · rw [set_off _ (by exact e), h b hb, upd_other _ _ _ e]
theorem NodesAt.set2 (h : NodesAt w T S kv vv nx pv) {p : Nat} (n : Nat) : NodesAt (w.setCell ⟨p, 2, none⟩ (.pointer (some ⟨n, 0, none⟩))) T S kv vv nx (upd pv p n) := by
  intro b hb
  by_cases e : b = p
  · subst e; rw [set_at _ (h b hb), upd_same]; rfl
  · rw [set_off _ (by exact e), h b hb, upd_other _ _ _ e]
theorem NodesAt.set3 (h : NodesAt w T S kv vv nx pv) {p : Nat} (n : Nat) : NodesAt (w.setCell ⟨p, 3, none⟩ (.pointer (some ⟨n, 0, none⟩))) T S kv vv (upd nx p n) pv := by
  intro b hb
  by_cases e : b = p
  · subst e; rw [set_at _ (h b hb), upd_same]; rfl
  · rw [set_off _ (by exact e), h b hb, upd_other _ _ _ e]
end
end Go.Proofs.Ytoljoikkdhagoaa
