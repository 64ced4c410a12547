/-
  Slices of texts and of numbers that came in, opened.
-/
import Derived.Test.YtddlhkkkngfgiaaSl
import Derived.ProofKit
import Derived.OpenShut
import Derived.SliceStrings
namespace Go.Proofs.Ytddlhkkkngfgiaa
open Go.ChangeShapes Go.WideShapes Go.ChangeAt Go.RowKit Go.ChangeMaps

theorem lt_cell {w : World} {a : Addr} {v : Value} (h : w.cell? a = some v) : a.block < w.heap.size := by
  unfold World.cell? at h
  rcases Nat.lt_or_ge a.block w.heap.size with h1 | h1
  · exact h1
  · rw [Array.getElem?_eq_none h1] at h; simp at h
/-- A slice that was opened cell by cell. -/
theorem sl_mk {W : World} {a : Addr} {len cap n : Nat} {xs : List Value} (hn : xs.length = n) (hl : len ≤ cap) (hm : cap ≤ maxLen) (hz : n = cap) (hc : ∀ i x, xs[i]? = some x → W.cell? (a.add i) = some x) : Sl W (.slice (some a) len cap) (xs.take len) := by
  have hlen : (xs.take len).length = len := by rw [List.length_take]; omega
  refine ⟨some a, cap, by rw [hlen], by rw [hlen]; omega, hm, fun hne => ?_⟩
  have hpos : 0 < len := by
    rcases Nat.eq_zero_or_pos len with h0 | h0
    · subst h0; simp at hne
    · exact h0
  have h0 : ∃ x, xs[0]? = some x := ⟨xs[0]'(by omega), List.getElem?_eq_getElem (by omega)⟩
  obtain ⟨x0, hx0⟩ := h0
  obtain ⟨b, off, spot⟩ := a
  have hspot : spot = none := by simpa [Addr.add] using World.cell?_spot (hc 0 x0 hx0)
  subst hspot
  refine ⟨b, off, rfl, by have := lt_cell (hc 0 x0 hx0); simpa [Addr.add] using this, fun i x hx => ?_⟩
  have hi : i < len := by have := (List.getElem?_eq_some_iff.1 hx).1; rw [hlen] at this; exact this
  rw [List.getElem?_take, if_pos hi] at hx
  have := hc i x hx
  rwa [Go.WideShapes.add_plain] at this
theorem sls_of {H : Type} {enc : TypeId × Value → H} {W : World} {r : Reach} {b0 : Nat} {v : Value} {d : DataW H} {ps : List MemPlace}
    (hval : Value.okWide Try.prog W r b0 22 v) (h : DataW.Trod enc Try.prog W 0 (fun _ => true) true 22 v d ps) : ∃ ks : List ByteArray, Sl W v (ks.map Value.string) ∧ ∀ k ∈ ks, k.size ≤ maxLen := by
  obtain ⟨a0, len, cap, rfl⟩ := okWide_slice Try.underlying22 hval
  obtain ⟨fuel, hf⟩ := h
  rcases open_strings Try.underlying22 Try.underlying9 (by kernel_rfl) hf with ⟨hcs, _⟩ | ⟨a, len', cap', ss, hcs, _, hl, hm, hz, _, hcell, hws⟩
  · simp [Value.cells] at hcs
    obtain ⟨rfl, rfl, rfl⟩ := hcs
    exact ⟨[], Sl.nil W, by simp⟩
  · simp [Value.cells] at hcs
    obtain ⟨rfl, rfl, rfl⟩ := hcs
    rw [if_pos rfl] at hz
    refine ⟨ss.take len, ?_, fun k hk => hws k (List.mem_of_mem_take hk)⟩
    rw [List.map_take]
    refine sl_mk (n := ss.length) (by simp) hl hm hz (fun i x hx => ?_)
    rw [List.getElem?_map] at hx
    obtain ⟨k, hk, rfl⟩ := Option.map_eq_some_iff.1 hx
    have hi := (List.getElem?_eq_some_iff.1 hk).1
    rw [hcell i hi, List.getD_eq_getElem?_getD, hk]; rfl
theorem slints {H : Type} {enc : TypeId × Value → H} {W : World} {r : Reach} {b0 : Nat} {v : Value} {d : DataW H} {ps : List MemPlace} {T E : TypeId} {k : IntKind} (hT : Try.prog.underlying T = some (.slice E)) (hE : Try.prog.underlying E = some (.int k)) (hC : Try.prog.cellsOf E = 1)
    (hval : Value.okWide Try.prog W r b0 T v) (h : DataW.Trod enc Try.prog W 0 (fun _ => true) true T v d ps) : ∃ ks : List Int, Sl W v (ks.map (Value.int k)) ∧ ∀ n ∈ ks, (Lit.int k n).wf = true := by
  obtain ⟨a0, len, cap, rfl⟩ := okWide_slice hT hval
  obtain ⟨fuel, hf⟩ := h
  rcases open_ints hT hE hC hf with ⟨hcs, _⟩ | ⟨a, len', cap', ss, hcs, _, hl, hm, hz, _, hcell, hws⟩
  · simp [Value.cells] at hcs
    obtain ⟨rfl, rfl, rfl⟩ := hcs
    exact ⟨[], Sl.nil W, by simp⟩
  · simp [Value.cells] at hcs
    obtain ⟨rfl, rfl, rfl⟩ := hcs
    rw [if_pos rfl] at hz
    refine ⟨ss.take len, ?_, fun k hk => hws k (List.mem_of_mem_take hk)⟩
    rw [List.map_take]
    refine sl_mk (n := ss.length) (by simp) hl hm hz (fun i x hx => ?_)
    rw [List.getElem?_map] at hx
    obtain ⟨k, hk, rfl⟩ := Option.map_eq_some_iff.1 hx
    have hi := (List.getElem?_eq_some_iff.1 hk).1
    rw [hcell i hi, List.getD_eq_getElem?_getD, hk]; rfl
end Go.Proofs.Ytddlhkkkngfgiaa
