/-
  The walk of Clear.
-/
import Derived.Test.YtddlhkkkngfgiaaSkip9W
import Derived.Lib.SliceRun
namespace Go.Proofs.Ytddlhkkkngfgiaa
open Go.RowKit

theorem Fr.setCells {S : Nat → Prop} {a : World} {b : Nat} (hp : S b ∨ a.heap.size ≤ b) : ∀ (vs : List Value) (o : Nat) (w : World), Fr S a w → Fr S a (w.setCells b o vs)
  | [], _, _, h => h
  | v :: vs, o, _, h => Fr.setCells hp vs (o + 1) _ (h.setCell (p := ⟨b, o, none⟩) hp v)
theorem setCells_block {b : Nat} {T : TypeId} : ∀ (vs : List Value) (o : Nat) (w : World) (nx : Array Value), w.heap[b]? = some (.cells nx T (0, 0)) → ∃ nx' : Array Value, (w.setCells b o vs).heap[b]? = some (.cells nx' T (0, 0)) ∧ nx'.size = nx.size
  | [], _, _, nx, h => ⟨nx, h, rfl⟩
  | v :: vs, o, w, nx, h => by
    obtain ⟨n2, h2, h3⟩ := setCells_block vs (o + 1) (w.setCell ⟨b, o, none⟩ v) _ (setAt v h)
    exact ⟨n2, h2, by rw [h3]; simp⟩
theorem clear_any (c : Nat) (H : St ByteArray Int) (es : List (St ByteArray Int)) (w : World) (h : SkS w c H es) :
    Calls Try.prog 27 #[(Value.pointer (some ⟨c, 0, none⟩))] w fun e w' => e = .returned (.tuple #[]) ∧ SkS w' c H [] ∧ Fr (CSk c H es) w w' := by
  obtain ⟨s, hmap⟩ := h.map
  have m0 := cellOf (o := 0) hmap rfl
  obtain ⟨hb1, hb2, hb3⟩ := nodup_parts (S := H :: es) (a := []) (r := es) (x := H) rfl (List.nodup_cons.1 h.nodup).2
  have hcn : c ≠ H.nb := fun e => (List.nodup_cons.1 h.nodup).1 (by rw [e]; simp [blks])
  have hcb : c ≠ H.b := fun e => (List.nodup_cons.1 h.nodup).1 (by rw [e]; simp [blks])
  have hnode := h.ch.1.node
  have h2 := cellOf (o := 2) hnode rfl
  obtain ⟨nx, hrow, hsz⟩ := h.ch.1.row
  have htop := h.top
  have hcell : ∀ j, j < 12 → w.cell? ⟨H.nb, j, none⟩ = some (nx.getD j (.pointer none)) := fun j hj => cellOf hrow (by
    rw [Array.getElem?_eq_getElem (by omega)]
    simp [show j < nx.size by omega])
  have hrun := fun ty => Lib.run_clear_slice (P := Try.prog) w 60 59 ty (.pointer none) Try.underlying60 (fun w => by kernel_rfl) rfl rfl H.nb 0 12 12 (by omega)
    (fun j hj => by rw [Nat.zero_add, hcell j hj]; rfl) (fun j hj => by rw [Nat.zero_add]; exact freeOf j hrow)
  have hin := World.cell?_setCells_in H.nb (List.replicate 12 (Value.pointer none)) 0 w (fun j hj => by rw [Nat.zero_add, hcell j (by simpa using hj)]; rfl)
  have hfr := Fr.setCells (S := CSk c H es) (a := w) (b := H.nb) (.inl (.inr (by simp [blks]))) (List.replicate 12 (Value.pointer none)) 0 w (Fr.refl _ w)
  obtain ⟨nx2, hrow2, hsz2⟩ := setCells_block (List.replicate 12 (Value.pointer none)) 0 w nx hrow
  have hother : ∀ k, k ≠ H.nb → k < w.heap.size → (w.setCells H.nb 0 (List.replicate 12 (Value.pointer none))).heap[k]? = w.heap[k]? := fun k h1 h2 => (Fr.setCells (S := fun k => k = H.nb) (a := w) (b := H.nb) (.inl rfl) _ 0 w (Fr.refl _ w)).block k h2 h1
  generalize w.setCells H.nb 0 (List.replicate 12 (Value.pointer none)) = w1 at *
  have hmap1 := (hother c hcn (lt_of_block hmap)).trans hmap
  have hnode1 := (hother H.b hb1 (lt_of_block hnode)).trans hnode
  have m1 := cellOf (o := 0) hmap1 rfl
  have m2 := cellOf (o := 1) hmap1 rfl
  have f2 := freeOf 1 hmap1
  have hfin : SkS (w1.setCell ⟨c, 1, none⟩ (.int .i64 0)) c H [] := by
    refine ⟨⟨s, setAt (.int .i64 0) hmap1⟩, ⟨⟨?_, nx2, ?_, by omega⟩, fun i hi => ?_, trivial⟩, ?_, fun x hx => h.full x (by simp at hx; simp [hx]), h.top, List.Pairwise.nil⟩
    · rw [Below.heap_setCell w1 ⟨c, 1, none⟩ _ H.b (Ne.symm hcb)]; exact hnode1
    · rw [Below.heap_setCell w1 ⟨c, 1, none⟩ _ H.nb (Ne.symm hcn)]; exact hrow2
    · have hi12 : i < 12 := by have := (h.full H (by simp)).2.2 i; rw [hi, h.top] at this; simpa using this.symm
      rw [World.cell?_of_block (w := w1) (Below.heap_setCell w1 ⟨c, 1, none⟩ _ H.nb (Ne.symm hcn))]
      have := hin i (by simpa using hi12)
      rw [Nat.zero_add] at this
      rw [this, List.getElem_replicate]; rfl
    · have := h.nodup
      rw [blks_cons, List.nodup_cons, List.nodup_cons, List.nodup_cons] at this
      simp [blks, hcb, hcn, hb1]
  have HF := Lib.hid (hfr.setCell (p := ⟨c, 1, none⟩) (.inl (.inl rfl)) (.int .i64 0))
  have HS := Lib.hid hfin
  rw [htop] at h2
  clear h hmap hb1 hb2 hb3 hcn hcb hnode hrow hsz htop hcell hin hfr hrow2 hsz2 hother hmap1 hnode1 hfin
  go_enter Try.func27, Try.ntmps27
  go_wp2_with fail
  go_end0
  exact ⟨rfl, HS.out, HF.out⟩
end Go.Proofs.Ytddlhkkkngfgiaa
