/-
  The law SkipPlays; the acts that came in, opened.
-/
import Derived.Test.YtddlhkkkngfgiaaSkPlaysW
import Derived.Test.YtddlhkkkngfgiaaOpenC
namespace Go.Proofs.Ytddlhkkkngfgiaa
open Go.ChangeShapes Go.WideShapes Go.ChangeAt Go.RowKit Go.ChangeMaps Go.Deep

set_option maxRecDepth 100000 in
theorem skipPlays_law (v : Value) (L : List Act7) (ask : ByteArray) (w : World) (hL : Acts w v L) :
    Calls Try.prog 6 #[v, .string ask] w fun e w' => e = .returned (.bool true) ∧ Below w.heap.size w w' := by
  by_cases h2 : 100 < L.length
  · obtain ⟨ao, cap, rfl, hm, -⟩ := hL
    unfold maxLen at hm
    have hd1 : decide ((100 : Int) < (L.length : Int)) = true := by rw [decide_eq_true_eq]; omega
    go_enter Try.func6, Try.ntmps6
    go_wp2_with fail
    (with_reducible refine (awake_any _).mono ?_)
    rintro e w1 ⟨rfl, hb⟩
    go_wp2
    go_ret
    exact ⟨rfl, hb⟩
  · exact skipPlays_main v L ask w hL (by omega)
theorem lt_cell2 {w : World} {b o : Nat} {v : Value} (h : w.cell? ⟨b, o, none⟩ = some v) : b < w.heap.size := by
  unfold World.cell? at h
  rcases Nat.lt_or_ge b w.heap.size with h1 | h1
  · exact h1
  · rw [Array.getElem?_eq_none h1] at h; simp at h
theorem acts_of {H : Type} {enc : TypeId × Value → H} {W : World} {r : Reach} {b0 : Nat} {v : Value} {d : DataW H} {ps : List MemPlace}
    (hval : Value.okWide Try.prog W r b0 46 v) (h : DataW.Trod enc Try.prog W 0 (fun _ => true) true 46 v d ps) : ∃ L, Acts W v L := by
  obtain ⟨a0, len, cap, rfl⟩ := okWide_slice Try.underlying46 hval
  obtain ⟨fuel, hf⟩ := h
  rcases open_slice_fields Try.underlying46 Try.underlying50 (by kernel_rfl) (by kernel_rfl) hf with ⟨hcs, _⟩ | ⟨a, len', cap', m, D, Pl, hcs, _, hl, hm, hmm, _, hi⟩
  · simp [Value.cells] at hcs
    obtain ⟨rfl, rfl, rfl⟩ := hcs
    exact ⟨[], none, 0, rfl, by simp, fun h => absurd rfl h⟩
  · simp [Value.cells] at hcs
    obtain ⟨rfl, rfl, rfl⟩ := hcs
    rw [if_pos rfl] at hmm
    have hml : len ≤ m := by omega
    clear hmm
    have hcell : ∀ i, i < len → ∃ x : Act7, W.cell? (a.add (i * 3)) = some (.int .i64 x.1) ∧ W.cell? (a.add (i * 3 + 1)) = some (.string x.2.1) ∧ W.cell? (a.add (i * 3 + 2)) = some (.int .i64 x.2.2) := by
      intro i hlt
      obtain ⟨ys, n, _, _, _, hf⟩ := hi i (by omega)
      obtain ⟨u0, y0, h0, _, k0⟩ := hf 0 _ rfl
      obtain ⟨u1, y1, h1, _, k1⟩ := hf 1 _ rfl
      obtain ⟨u2, y2, h2, _, k2⟩ := hf 2 _ rfl
      obtain ⟨x0, e0, _, _⟩ := DataW.trod_int Try.underlying3 k0
      obtain ⟨x1, e1, _, _⟩ := DataW.trod_string Try.underlying9 k1
      obtain ⟨x2, e2, _, _⟩ := DataW.trod_int Try.underlying3 k2
      simp only [List.cons.injEq, and_true] at e0 e1 e2
      subst e0 e1 e2
      exact ⟨(x0, x1, x2), h0, h1, h2⟩
    let F : Nat → Act7 := fun i => if h : i < len then Classical.choose (hcell i h) else (0, ⟨#[]⟩, 0)
    have hF : ∀ i, i < len → W.cell? (a.add (i * 3)) = some (.int .i64 (F i).1) ∧ W.cell? (a.add (i * 3 + 1)) = some (.string (F i).2.1) ∧ W.cell? (a.add (i * 3 + 2)) = some (.int .i64 (F i).2.2) := by
      intro i h
      have := Classical.choose_spec (hcell i h)
      simp only [F, dif_pos h]
      exact this
    have hlen : ((List.range len).map F).length = len := by simp
    refine ⟨(List.range len).map F, some a, cap, by rw [hlen], by rw [hlen]; omega, fun hne => ?_⟩
    · have hpos : 0 < len := by
        rcases Nat.eq_zero_or_pos len with h0 | h0
        · subst h0; simp at hne
        · exact h0
      obtain ⟨b, off, spot⟩ := a
      have hspot : spot = none := by simpa [Addr.add] using World.cell?_spot (hF 0 hpos).1
      subst hspot
      have hget : ∀ i, ∀ hi : i < ((List.range len).map F).length, ((List.range len).map F)[i] = F i := by
        intro i hi
        simp
      refine ⟨b, off, rfl, fun i hi => ?_, fun i hi => ?_, fun i hi => ?_, lt_cell2 (by have := (hF 0 hpos).1; rw [Go.WideShapes.add_plain] at this; exact this)⟩
      · rw [hget i hi]; rw [hlen] at hi
        have := (hF i hi).1
        rwa [Go.WideShapes.add_plain] at this
      · rw [hget i hi]; rw [hlen] at hi
        have := (hF i hi).2.1
        rwa [Go.WideShapes.add_plain, ← Nat.add_assoc] at this
      · rw [hget i hi]; rw [hlen] at hi
        have := (hF i hi).2.2
        rwa [Go.WideShapes.add_plain, ← Nat.add_assoc] at this
end Go.Proofs.Ytddlhkkkngfgiaa
