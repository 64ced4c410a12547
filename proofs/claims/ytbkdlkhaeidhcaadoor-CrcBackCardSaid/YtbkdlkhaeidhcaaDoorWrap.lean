/-
  What the claims of this seat share: the table that was laid, texts that came in.
-/
import Derived.Test.YtbkdlkhaeidhcaaDoorMakeW
import Derived.ProofKit
import Derived.OpenShut
import Derived.SliceStrings
import Derived.Lib.LaidTab
namespace Go.Proofs.YtbkdlkhaeidhcaaDoor
open Go.ChangeShapes Go.WideShapes Go.ChangeAt Go.RowKit Go.ChangeMaps

theorem own : ownKnob Tryd.prog.godebug = none := by kernel_rfl
theorem laidOut : laidOutB Tryd.prog = true := by kernel_rfl
theorem gTab : Tryd.prog.globalNamed "debenture/crc.nibbles" = some 0 := by kernel_rfl
theorem gTabType : (Tryd.prog.globals[0]?).map (·.type) = some 54 := by kernel_rfl
theorem cellsT : Tryd.prog.cellsOf 54 = 16 := by kernel_rfl
theorem cellsE : Tryd.prog.cellsOf 33 = 1 := by kernel_rfl
theorem cellsS : Tryd.prog.cellsOf 9 = 1 := by kernel_rfl
theorem table {W : World} (h : laidMetH Tryd.prog [("debenture/crc.nibbles", Rows.laid_debenture_crc_nibbles)] W) : Lib.TabIs Tryd.prog W "debenture/crc.nibbles" .u32 (CrcP.nibs.map fun (n : Nat) => (n : Int)) :=
  Lib.tabIs_of_head (rest := []) gTab gTabType Tryd.underlying54 Tryd.underlying33 cellsE cellsT h
/-- The table of four bits lies where it was laid. -/
theorem nibs_of {W : World} (h : laidMetH Tryd.prog [("debenture/crc.nibbles", Rows.laid_debenture_crc_nibbles)] W) : Nibs W := by
  intro i hi
  have h1 := (table h).cell gTab i hi
  rw [h1]
  congr 2
  have h2 : ∀ k : Fin 16, (CrcP.nibs.map fun (n : Nat) => (n : Int)).getD k.val 0 = ((CrcP.nibs.getD k.val 0 : Nat) : Int) := by decide
  exact h2 ⟨i, hi⟩
noncomputable def laidWorld (os : Os) : World :=
  { World.holding Tryd.prog os ⟨#[], #[], []⟩ with heap := (World.holding Tryd.prog os ⟨#[], #[], []⟩).heap.modify 0 fun
      | .cells _ t frozen => .cells #[.int .u32 0, .int .u32 274646895, .int .u32 549293790, .int .u32 820201905, .int .u32 1098587580, .int .u32 1361435347, .int .u32 1640403810, .int .u32 1905808397, .int .u32 2197175160, .int .u32 2460548119, .int .u32 2722870694, .int .u32 2987750089, .int .u32 3280807620, .int .u32 3553878443, .int .u32 3811616794, .int .u32 4084100981] t frozen
      | o => o }
/-- Texts that came in as a slice. -/
theorem strs_of {H : Type} {enc : TypeId × Value → H} {W : World} {r : Reach} {b0 : Nat} {v : Value} {d : DataW H} {ps : List MemPlace}
    (hval : Value.okWide Tryd.prog W r b0 27 v) (h : DataW.Trod enc Tryd.prog W 0 (fun _ => true) true 27 v d ps) : ∃ ks, Strs W v ks := by
  obtain ⟨a0, len, cap, rfl⟩ := okWide_slice Tryd.underlying27 hval
  obtain ⟨fuel, hf⟩ := h
  rcases open_strings Tryd.underlying27 Tryd.underlying9 cellsS hf with ⟨hcs, _⟩ | ⟨a, len', cap', ss, hcs, _, hl, hm, hz, _, hcell, hws⟩
  · simp [Value.cells] at hcs
    obtain ⟨rfl, rfl, rfl⟩ := hcs
    exact ⟨[], none, 0, rfl, by simp, fun h => absurd rfl h⟩
  · simp [Value.cells] at hcs
    obtain ⟨rfl, rfl, rfl⟩ := hcs
    rw [if_pos rfl] at hz
    have hlen : (ss.take len).length = len := by simp; omega
    refine ⟨ss.take len, some a, cap, by rw [hlen], by rw [hlen]; omega, fun hne => ?_⟩
    have hpos : 0 < len := by
      rcases Nat.eq_zero_or_pos len with h0 | h0
      · subst h0; simp at hne
      · exact h0
    obtain ⟨b, off, spot⟩ := a
    have hspot : spot = none := by simpa [Addr.add] using World.cell?_spot (hcell 0 (by omega))
    subst hspot
    have hget : ∀ i, i < len → (ss.take len).getD i ByteArray.empty = ss.getD i ByteArray.empty := by
      intro i hi
      rw [List.getD_eq_getElem?_getD, List.getD_eq_getElem?_getD, List.getElem?_take, if_pos hi]
    have hc : ∀ i, i < len → W.cell? ⟨b, off + i, none⟩ = some (.string (ss.getD i ByteArray.empty)) := by
      intro i hi
      have := hcell i (by omega)
      rwa [Go.WideShapes.add_plain] at this
    refine ⟨b, off, rfl, fun i hi => ?_, lt_of_cell (hc 0 hpos), fun i hi => ?_⟩
    · rw [hlen] at hi; rw [hget i hi]; exact hc i hi
    · rw [hlen] at hi; rw [hget i hi]
      refine hws _ ?_
      rw [List.getD_eq_getElem?_getD, List.getElem?_eq_getElem (by omega)]
      simp
theorem slice_cap {H : Type} {enc : TypeId × Value → H} {W : World} {r : Reach} {b0 : Nat} {v : Value} {d : DataW H} {ps : List MemPlace}
    (hval : Value.okWide Tryd.prog W r b0 27 v) (h : DataW.Trod enc Tryd.prog W 0 (fun _ => true) true 27 v d ps) : ∀ ao n cap, v = .slice ao n cap → n ≤ cap := by
  obtain ⟨a0, len, cap, rfl⟩ := okWide_slice Tryd.underlying27 hval
  obtain ⟨fuel, hf⟩ := h
  intro ao n cap' e
  injection e with _ e2 e3
  subst e2 e3
  rcases open_strings Tryd.underlying27 Tryd.underlying9 cellsS hf with ⟨hcs, _⟩ | ⟨a, len', cap', ss, hcs, _, hl, _⟩
  · simp [Value.cells] at hcs; omega
  · simp [Value.cells] at hcs; omega
end Go.Proofs.YtbkdlkhaeidhcaaDoor
