
/-
  A list of pairs that came in, opened.
-/
import Derived.Test.YtcoicdaobgneeaaBuildsW
import Derived.Test.YtcoicdaobgneeaaOpenC
namespace Go.Proofs.Ytcoicdaobgneeaa
open Go.ChangeShapes Go.WideShapes Go.ChangeAt Go.RowKit Go.ChangeMaps Go.Deep

theorem lt_cell2 {w : World} {b o : Nat} {v : Value} (h : w.cell? ⟨b, o, none⟩ = some v) : b < w.heap.size := by
  unfold World.cell? at h
  rcases Nat.lt_or_ge b w.heap.size with h1 | h1
  · exact h1
  · rw [Array.getElem?_eq_none h1] at h; simp at h
theorem prs_of {H : Type} {enc : TypeId × Value → H} {W : World} {r : Reach} {b0 : Nat} {v : Value} {d : DataW H} {ps : List MemPlace}
    (hval : Value.okWide Try.prog W r b0 22 v) (h : DataW.Trod enc Try.prog W 0 (fun _ => true) true 22 v d ps) : ∃ L, PrsIn W v L := by
  obtain ⟨a0, len, cap, rfl⟩ := okWide_slice Try.underlying22 hval
  obtain ⟨fuel, hf⟩ := h
  rcases open_slice_fields Try.underlying22 Try.underlying35 (by kernel_rfl) (by kernel_rfl) hf with ⟨hcs, _⟩ | ⟨a, len', cap', m, D, Pl, hcs, _, hl, hm, hmm, _, hi⟩
  · simp [Value.cells] at hcs
    obtain ⟨rfl, rfl, rfl⟩ := hcs
    exact ⟨[], ⟨none, 0, rfl, rfl, fun _ => rfl, Nat.le_refl _, Nat.zero_le _, fun h => absurd h (by simp)⟩, by simp⟩
  · simp [Value.cells] at hcs
    obtain ⟨rfl, rfl, rfl⟩ := hcs
    rw [if_pos rfl] at hmm
    have hml : len ≤ m := by omega
    clear hmm
    have hcell : ∀ i, i < len → ∃ x : ByteArray × ByteArray, W.cell? (a.add (i * 2)) = some (.string x.1) ∧ W.cell? (a.add (i * 2 + 1)) = some (.string x.2) ∧ x.1.size ≤ maxLen ∧ x.2.size ≤ maxLen := by
      intro i hlt
      obtain ⟨ys, n, _, _, _, hf⟩ := hi i (by omega)
      obtain ⟨u0, y0, h0, _, k0⟩ := hf 0 _ rfl
      obtain ⟨u1, y1, h1, _, k1⟩ := hf 1 _ rfl
      obtain ⟨x0, e0, _, w0⟩ := DataW.trod_string Try.underlying9 k0
      obtain ⟨x1, e1, _, w1⟩ := DataW.trod_string Try.underlying9 k1
      simp only [List.cons.injEq, and_true] at e0 e1
      subst e0 e1
      exact ⟨(x0, x1), h0, h1, w0, w1⟩
    let F : Nat → ByteArray × ByteArray := fun i => if h : i < len then Classical.choose (hcell i h) else (⟨#[]⟩, ⟨#[]⟩)
    have hF : ∀ i, i < len → W.cell? (a.add (i * 2)) = some (.string (F i).1) ∧ W.cell? (a.add (i * 2 + 1)) = some (.string (F i).2) ∧ (F i).1.size ≤ maxLen ∧ (F i).2.size ≤ maxLen := by
      intro i h
      have := Classical.choose_spec (hcell i h)
      simp only [F, dif_pos h]
      exact this
    let L : List Pr := (List.range len).map fun i => (bl (F i).1, bl (F i).2)
    have hlen : L.length = len := by simp [L]
    have hget : ∀ i, ∀ hi : i < L.length, L[i] = (bl (F i).1, bl (F i).2) := by
      intro i hi
      simp [L]
    refine ⟨L, ⟨⟨some a, cap, by rw [hlen], by rw [flatR_length], (fun h => by cases h), by rw [hlen]; omega, by omega, fun hne => ?_⟩, fun x hx => ?_⟩⟩
    · rw [hlen] at hne
      obtain ⟨b, off, spot⟩ := a
      have hspot : spot = none := by simpa [Addr.add] using World.cell?_spot (hF 0 hne).1
      subst hspot
      refine ⟨b, off, rfl, lt_cell2 (by have := (hF 0 hne).1; rw [Go.WideShapes.add_plain] at this; exact this), fun j u hu => ?_⟩
      have hj := (List.getElem?_eq_some_iff.1 hu).1
      rw [flatR_length] at hj
      have hi2 : j / 2 < L.length := by omega
      have hgl := hget (j / 2) hi2
      obtain ⟨c0, c1, -⟩ := hF (j / 2) (by omega)
      rw [Go.WideShapes.add_plain] at c0 c1
      obtain ⟨g0, g1⟩ := flatR_get L (j / 2) hi2
      rw [hgl] at g0 g1
      simp only [str_bl] at g0 g1
      rcases Nat.mod_two_eq_zero_or_one j with e | e
      · rw [show j / 2 * 2 = j by omega] at c0 g0
        rw [g0] at hu; injection hu with hu; subst hu; exact c0
      · rw [show j / 2 * 2 + 1 = j by omega] at c1 g1
        rw [g1] at hu; injection hu with hu; subst hu; exact c1
    · obtain ⟨i, hi, rfl⟩ := List.mem_map.1 hx
      obtain ⟨-, -, h2, h3⟩ := hF i (by simpa using hi)
      exact ⟨by rw [bl_size]; exact h2, by rw [bl_size]; exact h3⟩
end Go.Proofs.Ytcoicdaobgneeaa
