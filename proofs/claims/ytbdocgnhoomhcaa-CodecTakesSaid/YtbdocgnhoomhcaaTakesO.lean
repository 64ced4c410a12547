/-
  The asks that came in, opened.
-/
import Derived.Test.YtbdocgnhoomhcaaOpenC
import Derived.Test.YtbdocgnhoomhcaaTakesW
namespace Go.Proofs.Ytbdocgnhoomhcaa
open Go.ChangeShapes Go.WideShapes Go.ChangeAt Go.RowKit Go.ChangeMaps Go.Deep

theorem lt_of_cell {w : World} {b o : Nat} {v : Value} (h : w.cell? ⟨b, o, none⟩ = some v) : b < w.heap.size := by
  unfold World.cell? at h
  rcases Nat.lt_or_ge b w.heap.size with h1 | h1
  · exact h1
  · rw [Array.getElem?_eq_none h1] at h; simp at h
theorem asks_of {H : Type} {enc : TypeId × Value → H} {W : World} {r : Reach} {b0 : Nat} {v : Value} {d : DataW H} {ps : List MemPlace}
    (hval : Value.okWide Try.prog W r b0 51 v) (h : DataW.Trod enc Try.prog W 0 (fun _ => true) true 51 v d ps) : ∃ L, Asks W v L := by
  obtain ⟨a0, len, cap, rfl⟩ := okWide_slice Try.underlying51 hval
  obtain ⟨fuel, hf⟩ := h
  rcases open_slice_fields Try.underlying51 Try.underlying55 (by kernel_rfl) (by kernel_rfl) hf with ⟨hcs, _⟩ | ⟨a, len', cap', m, D, Pl, hcs, _, hl, hm, hmm, _, hi⟩
  · simp [Value.cells] at hcs
    obtain ⟨rfl, rfl, rfl⟩ := hcs
    exact ⟨[], none, 0, rfl, by simp, fun h => absurd rfl h⟩
  · simp [Value.cells] at hcs
    obtain ⟨rfl, rfl, rfl⟩ := hcs
    rw [if_pos rfl] at hmm
    have hml : len ≤ m := by omega
    clear hmm
    have hcell : ∀ i, i < len → ∃ x : Int × Int, W.cell? (a.add (i * 2)) = some (.int .i64 x.1) ∧ W.cell? (a.add (i * 2 + 1)) = some (.int .i64 x.2) := by
      intro i hlt
      obtain ⟨ys, n, _, _, _, hf⟩ := hi i (by omega)
      obtain ⟨u, y, h1, _, h2⟩ := hf 0 _ rfl
      obtain ⟨u', y', h1', _, h2'⟩ := hf 1 _ rfl
      obtain ⟨x0, e0, _⟩ := DataW.trod_int Try.underlying3 h2
      obtain ⟨x1, e1, _⟩ := DataW.trod_int Try.underlying3 h2'
      simp only [List.cons.injEq, and_true] at e0 e1
      subst e0 e1
      exact ⟨(x0, x1), h1, h1'⟩
    let F : Nat → Int × Int := fun i => if h : i < len then Classical.choose (hcell i h) else (0, 0)
    have hF : ∀ i, i < len → W.cell? (a.add (i * 2)) = some (.int .i64 (F i).1) ∧ W.cell? (a.add (i * 2 + 1)) = some (.int .i64 (F i).2) := by
      intro i h
      have := Classical.choose_spec (hcell i h)
      simp only [F, dif_pos h]
      exact this
    have hlen : ((List.range len).map F).length = len := by simp
    refine ⟨(List.range len).map F, some a, cap, by rw [hlen], by rw [hlen]; omega, fun hne => ?_⟩
    have hpos : 0 < len := by
      rcases Nat.eq_zero_or_pos len with h0 | h0
      · subst h0; simp at hne
      · exact h0
    obtain ⟨b, off, spot⟩ := a
    have hspot : spot = none := by simpa [Addr.add] using World.cell?_spot (hF 0 hpos).1
    subst hspot
    have hget : ∀ i, i < len → ((List.range len).map F).getD i (0, 0) = F i := by
      intro i hi
      simp [List.getD_eq_getElem?_getD, hi]
    refine ⟨b, off, rfl, fun i hi => ?_, fun i hi => ?_, lt_of_cell (by have := (hF 0 hpos).1; rw [Go.WideShapes.add_plain] at this; exact this)⟩
    · rw [hlen] at hi; rw [hget i hi]
      have := (hF i hi).1
      rwa [Go.WideShapes.add_plain] at this
    · rw [hlen] at hi; rw [hget i hi]
      have := (hF i hi).2
      rwa [Go.WideShapes.add_plain] at this
end Go.Proofs.Ytbdocgnhoomhcaa
