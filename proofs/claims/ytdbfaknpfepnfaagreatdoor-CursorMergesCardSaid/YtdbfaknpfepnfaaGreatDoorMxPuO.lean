
/-
  A list of Puts that came in, opened.
-/
import Derived.Test.YtdbfaknpfepnfaaGreatDoorMxBK9
import Derived.Test.YtdbfaknpfepnfaaGreatDoorMxSouW
namespace Go.Proofs.YtdbfaknpfepnfaaGreatDoor
open Go.ChangeShapes Go.WideShapes Go.ChangeAt Go.RowKit Go.ChangeMaps Go.Deep
namespace Mx

set_option maxRecDepth 100000 in
theorem prs_of2 {H : Type} {enc : TypeId × Value → H} {W : World} {v : Value} {fuel : Nat} {y : DataW H × List MemPlace}
    (hf : DataW.trod enc Tryz.prog W 0 (fun _ => true) true fuel 36 [v] = some y) : ∃ L, PrsIn W v L := by
  rcases open_slice_fields Tryz.underlying36 Tryz.underlying40 (by kernel_rfl) (by kernel_rfl) hf with ⟨hcs, _⟩ | ⟨a, len, cap, m, D, Pl, hcs, _, hl, hm, hmm, _, hi⟩
  · injection hcs with hcs _
    subst hcs
    exact ⟨[], ⟨none, 0, rfl, rfl, fun _ => rfl, Nat.le_refl _, Nat.zero_le _, fun h => absurd h (by simp)⟩, by simp⟩
  · injection hcs with hcs _
    subst hcs
    rw [if_pos rfl] at hmm
    have hml : len ≤ m := by omega
    clear hmm
    have hcell : ∀ i, i < len → ∃ x : ByteArray × ByteArray, W.cell? (a.add (i * 2)) = some (.string x.1) ∧ W.cell? (a.add (i * 2 + 1)) = some (.string x.2) ∧ x.1.size ≤ maxLen ∧ x.2.size ≤ maxLen := by
      intro i hlt
      obtain ⟨ys, n, _, _, _, hf⟩ := hi i (by omega)
      obtain ⟨u0, y0, h0, _, k0⟩ := hf 0 _ rfl
      obtain ⟨u1, y1, h1, _, k1⟩ := hf 1 _ rfl
      obtain ⟨x0, e0, _, w0⟩ := DataW.trod_string Tryz.underlying9 k0
      obtain ⟨x1, e1, _, w1⟩ := DataW.trod_string Tryz.underlying9 k1
      simp only [List.cons.injEq, and_true] at e0 e1
      subst e0 e1
      exact ⟨(x0, x1), h0, h1, w0, w1⟩
    let F : Nat → ByteArray × ByteArray := fun i => if h : i < len then Classical.choose (hcell i h) else (⟨#[]⟩, ⟨#[]⟩)
    have hF : ∀ i, i < len → W.cell? (a.add (i * 2)) = some (.string (F i).1) ∧ W.cell? (a.add (i * 2 + 1)) = some (.string (F i).2) ∧ (F i).1.size ≤ maxLen ∧ (F i).2.size ≤ maxLen := by
      intro i h
      have := Classical.choose_spec (hcell i h)
      simp only [F, dif_pos h]
      exact this
    let L : List Pr := (List.range len).map fun i => (bl (F i).1, bl (F i).2)
    have hlen : L.length = len := by simp [L]
    have hget : ∀ i, ∀ hi : i < L.length, L[i] = (bl (F i).1, bl (F i).2) := by
      intro i hi
      simp [L]
    refine ⟨L, ⟨⟨some a, cap, by rw [hlen], by rw [flatR_length], (fun h => by cases h), by rw [hlen]; omega, by omega, fun hne => ?_⟩, fun x hx => ?_⟩⟩
    · rw [hlen] at hne
      obtain ⟨b, off, spot⟩ := a
      have hspot : spot = none := by simpa [Addr.add] using World.cell?_spot (hF 0 hne).1
      subst hspot
      refine ⟨b, off, rfl, lt_cell2 (by have := (hF 0 hne).1; rw [Go.WideShapes.add_plain] at this; exact this), fun j u hu => ?_⟩
      have hj := (List.getElem?_eq_some_iff.1 hu).1
      rw [flatR_length] at hj
      have hi2 : j / 2 < L.length := by omega
      have hgl := hget (j / 2) hi2
      obtain ⟨c0, c1, -⟩ := hF (j / 2) (by omega)
      rw [Go.WideShapes.add_plain] at c0 c1
      obtain ⟨g0, g1⟩ := flatR_get L (j / 2) hi2
      rw [hgl] at g0 g1
      simp only [str_bl] at g0 g1
      rcases Nat.mod_two_eq_zero_or_one j with e | e
      · rw [show j / 2 * 2 = j by omega] at c0 g0
        rw [g0] at hu; injection hu with hu; subst hu; exact c0
      · rw [show j / 2 * 2 + 1 = j by omega] at c1 g1
        rw [g1] at hu; injection hu with hu; subst hu; exact c1
    · obtain ⟨i, hi, rfl⟩ := List.mem_map.1 hx
      obtain ⟨-, -, h2, h3⟩ := hF i (by simpa using hi)
      exact ⟨by rw [bl_size]; exact h2, by rw [bl_size]; exact h3⟩
set_option maxRecDepth 100000 in
theorem puts_of {H : Type} {enc : TypeId × Value → H} {W : World} {r : Reach} {b0 : Nat} {v : Value} {d : DataW H} {ps : List MemPlace}
    (hval : Value.okWide Tryz.prog W r b0 82 v) (h : DataW.Trod enc Tryz.prog W 0 (fun _ => true) true 82 v d ps) : ∃ x : Option Addr × Nat × Nat, v = .slice x.1 x.2.1 x.2.2 ∧ x.2.1 ≤ maxLen ∧ PutsIn W x.1 x.2.1 := by
  obtain ⟨a0, len, cap, rfl⟩ := okWide_slice Tryz.underlying82 hval
  obtain ⟨fuel, hf⟩ := h
  refine ⟨(a0, len, cap), rfl, ?_⟩
  rcases open_slice_fields Tryz.underlying82 Tryz.underlying145 (by kernel_rfl) (by kernel_rfl) hf with ⟨hcs, _⟩ | ⟨a, len', cap', m, D, Pl, hcs, _, hl, hm, hmm, _, hi⟩
  · simp [Value.cells] at hcs
    obtain ⟨rfl, rfl, rfl⟩ := hcs
    exact ⟨Nat.zero_le _, .inl rfl⟩
  · simp [Value.cells] at hcs
    obtain ⟨rfl, rfl, rfl⟩ := hcs
    rw [if_pos rfl] at hmm
    have hml : len ≤ m := by omega
    clear hmm
    refine ⟨by dsimp only; omega, ?_⟩
    rcases Nat.eq_zero_or_pos len with h0 | h0
    · exact .inl h0
    have hcell : ∀ i, i < len → ∃ (pv : Value) (L : List Pr) (tb : Bool) (at_ : Int) (tu : Bool), W.cell? (a.add (i * 4)) = some pv ∧ W.cell? (a.add (i * 4 + 1)) = some (.bool tb) ∧ W.cell? (a.add (i * 4 + 2)) = some (.int .i64 at_) ∧ W.cell? (a.add (i * 4 + 3)) = some (.bool tu) ∧ PrsIn W pv L := by
      intro i hlt
      obtain ⟨ys, n, _, _, _, hf⟩ := hi i (by omega)
      obtain ⟨u0, y0, h0, _, k0⟩ := hf 0 _ rfl
      obtain ⟨u1, y1, h1, _, k1⟩ := hf 1 _ rfl
      obtain ⟨u2, y2, h2, _, k2⟩ := hf 2 _ rfl
      obtain ⟨u3, y3, h3, _, k3⟩ := hf 3 _ rfl
      obtain ⟨L, hL⟩ := prs_of2 k0
      obtain ⟨x1, e1, _⟩ := DataW.trod_bool Tryz.underlying4 k1
      obtain ⟨x2, e2, _, _⟩ := DataW.trod_int Tryz.underlying3 k2
      obtain ⟨x3, e3, _⟩ := DataW.trod_bool Tryz.underlying4 k3
      simp only [List.cons.injEq, and_true] at e1 e2 e3
      subst e1 e2 e3
      exact ⟨u0, L, x1, x2, x3, h0, h1, h2, h3, hL⟩
    obtain ⟨b, off, spot⟩ := a
    obtain ⟨pv, -, -, -, -, p0, -⟩ := hcell 0 h0
    have hspot : spot = none := by simpa [Addr.add] using World.cell?_spot p0
    subst hspot
    rw [Go.WideShapes.add_plain] at p0
    refine .inr ⟨b, off, rfl, lt_cell2 p0, fun j hj => ?_⟩
    obtain ⟨pv, L, tb, at_, tu, q0, q1, q2, q3, hp⟩ := hcell j hj
    rw [Go.WideShapes.add_plain] at q0 q1 q2 q3
    exact ⟨pv, L, tb, at_, tu, q0, q1, q2, q3, hp⟩
end Mx
end Go.Proofs.YtdbfaknpfepnfaaGreatDoor
