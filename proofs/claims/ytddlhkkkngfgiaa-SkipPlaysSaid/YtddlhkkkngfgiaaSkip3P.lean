/-
  Where the way in begins, and where the way out does.
-/
import Derived.Test.YtddlhkkkngfgiaaSkip2P
namespace Go.Proofs.Ytddlhkkkngfgiaa
open Go.RowKit
section
variable {K V : Type} {kval : K → Value} {vval : V → Value} {TN TP TM : TypeId} {lt : K → K → Bool}
/-- What ahead answers: chain by chain the last node below a key. -/
structure AheadP (TP : TypeId) (L : List (St K V)) (w : World) (e : Ending) (w' : World) : Prop where
  ans : e = .returned (.slice (some ⟨w.heap.size, 0, none⟩) 12 12)
  bel : Below w.heap.size w w'
  row : ∃ nx : Array Value, w'.heap[w.heap.size]? = some (.cells nx TP (0, 0)) ∧ nx.size = 12 ∧ ∀ i, i < 12 → ∃ x, nx[i]? = some ((Value.pointer (some ⟨x.b, 0, none⟩))) ∧ Top L i x
theorem nodup_insert {a r : List (St K V)} {y : St K V} (h : (blks (a ++ r)).Nodup) (h0 : y.b ≠ y.nb) (h1 : y.b ∉ blks (a ++ r)) (h2 : y.nb ∉ blks (a ++ r)) : (blks (a ++ y :: r)).Nodup := by
  rw [blks_append] at h h1 h2
  rw [blks_append, blks_cons]
  have p1 : (blks a ++ y.b :: y.nb :: blks r).Perm (y.b :: y.nb :: (blks a ++ blks r)) := List.perm_middle.trans (List.Perm.cons _ List.perm_middle)
  rw [p1.nodup_iff, List.nodup_cons, List.nodup_cons]
  exact ⟨fun e => by rcases List.mem_cons.1 e with e | e; exact h0 e; exact h1 e, h2, h⟩
theorem Way.start {w w1 w2 : World} {e : Ending} {c : Nat} {H : St K V} {l1 l2 : List (St K V)} {k : K} {v : V} {n s : Int} {l : Nat} {C : Array Value} (h : Sk kval vval TN TP TM lt w c H (l1 ++ l2)) (hA : AheadP TP (H :: l1) w e w1) (hf : Fr (fun k => k = c) w1 w2)
    (hmap : w2.heap[c]? = some (.cells #[(Value.pointer (some ⟨H.b, 0, none⟩)), .int .i64 n, .int .u64 s] TM (0, 0))) (hC : C.size = l) :
    ∃ nx, Way kval vval TN TP TM w ((w2.alloc (.cells C TP)).alloc (.cells #[kval k, vval v, .slice (some ⟨w2.heap.size, 0, none⟩) l l] TN)) c H l1 l2 ⟨w2.heap.size + 1, w2.heap.size, l, k, v, fun i => decide (i < l)⟩ w.heap.size nx n s (fun _ => false) ∧
      WayS c H l1 l2 ⟨w2.heap.size + 1, w2.heap.size, l, k, v, fun i => decide (i < l)⟩ w.heap.size nx := by
  obtain ⟨nx, hrow, hsz, hd⟩ := hA.row
  have hcl := h.lt c (.inl rfl)
  have h1 := lt_of_block hrow
  have h2 := hf.size
  have hn := List.nodup_cons.1 h.nodup
  have hold : ∀ b, b < w2.heap.size → ((w2.alloc (.cells C TP)).alloc (.cells #[kval k, vval v, .slice (some ⟨w2.heap.size, 0, none⟩) l l] TN)).heap[b]? = w2.heap[b]? := fun b hb => by
    rw [Below.heap_alloc _ _ b (by simp; omega), Below.heap_alloc _ _ b hb]
  have hblk : ∀ b ∈ blks (H :: (l1 ++ l2)), b < w.heap.size ∧ b ≠ c := fun b hb => ⟨h.lt b (.inr hb), fun e => hn.1 (e ▸ hb)⟩
  have hwb : ∀ b ∈ blks (H :: (l1 ++ l2)), w2.heap[b]? = w.heap[b]? := fun b hb => by
    have := hblk b hb
    rw [hf.block b (by have := hA.bel.size; omega) this.2, hA.bel.block b this.1]
  have hch := h.ch.keep (fun b hb => (hold b (by have := hblk b hb; have := hA.bel.size; omega)).trans (hwb b hb))
  refine ⟨nx, ⟨?_, ?_, ?_, ?_⟩, ⟨?_, fun x hx => (h.full x hx).2, hsz, hd⟩⟩
  · refine Ch.insert (a := H :: l1) hch ⟨?_, C, ?_, hC⟩ (fun _ => rfl)
    · show ((w2.heap.push _).push _)[w2.heap.size + 1]? = _
      rw [Array.getElem?_push, if_pos (by simp)]
    · show ((w2.heap.push _).push _)[w2.heap.size]? = _
      rw [Array.getElem?_push, if_neg (by simp), Array.getElem?_push, if_pos rfl]
  · refine (((Fr.of_below (fun k => CSk c H (l1 ++ l2) k ∨ (k = w2.heap.size ∨ k = w2.heap.size + 1)) hA.bel).trans hf (fun b _ hb => .inl (.inl hb))).alloc _).alloc _
  · rw [hold _ (by omega), hf.block _ h1 (by omega)]; exact hrow
  · rw [hold _ (by have := hA.bel.size; omega)]; exact hmap
  · have hnd := nodup_insert (a := H :: l1) (r := l2) (y := ⟨w2.heap.size + 1, w2.heap.size, l, k, v, fun i => decide (i < l)⟩) hn.2 (by simp) (fun hb => by have := (hblk _ hb).1; simp at this; omega) (fun hb => by have := (hblk _ hb).1; simp at this; omega)
    have hmem : ∀ b ∈ blks (H :: (l1 ++ (⟨w2.heap.size + 1, w2.heap.size, l, k, v, fun i => decide (i < l)⟩ : St K V) :: l2)), b ∈ blks (H :: (l1 ++ l2)) ∨ w2.heap.size ≤ b := fun b hb => by
      simp only [blks_cons, blks_append, List.mem_cons, List.mem_append] at hb ⊢
      rcases hb with hb | hb | hb | hb | hb | hb
      · exact .inl (.inl hb)
      · exact .inl (.inr (.inl hb))
      · exact .inl (.inr (.inr (.inl hb)))
      · exact .inr (by omega)
      · exact .inr (by omega)
      · exact .inl (.inr (.inr (.inr hb)))
    rw [List.nodup_cons, List.nodup_cons]
    refine ⟨fun hc => ?_, fun ho => ?_, hnd⟩
    · rcases List.mem_cons.1 hc with hc | hc
      · omega
      · rcases hmem _ hc with hc | hc
        · exact (hblk _ hc).2 rfl
        · have := hA.bel.size; omega
    · rcases hmem _ ho with ho | ho
      · have := (hblk _ ho).1; omega
      · omega
theorem Way.begin {w w1 : World} {e : Ending} {c : Nat} {H y : St K V} {l1 l2 : List (St K V)} {n s : Int} (h : Sk kval vval TN TP TM lt w c H (l1 ++ y :: l2)) (hA : AheadP TP (H :: l1) w e w1)
    (hmap : w1.heap[c]? = some (.cells #[(Value.pointer (some ⟨H.b, 0, none⟩)), .int .i64 n, .int .u64 s] TM (0, 0))) :
    ∃ nx, Way kval vval TN TP TM w w1 c H l1 l2 y w.heap.size nx n s y.on ∧ WayS c H l1 l2 y w.heap.size nx := by
  obtain ⟨nx, hrow, hsz, hd⟩ := hA.row
  have hcl := h.lt c (.inl rfl)
  have h1 := lt_of_block hrow
  have hn := List.nodup_cons.1 h.nodup
  refine ⟨nx, ⟨h.ch.keep (fun b hb => hA.bel.block b (h.lt b (.inr hb))), Fr.of_below _ hA.bel, hrow, hmap⟩, ⟨?_, fun x hx => ?_, hsz, hd⟩⟩
  · rw [List.nodup_cons, List.nodup_cons]
    refine ⟨fun hc => ?_, fun ho => ?_, hn.2⟩
    · rcases List.mem_cons.1 hc with hc | hc
      · omega
      · exact hn.1 hc
    · have := h.lt _ (.inr ho); omega
  · refine (h.full x ?_).2
    simp only [List.mem_cons, List.mem_append] at hx ⊢
    rcases hx with hx | hx | hx
    · exact .inl hx
    · exact .inr (.inl hx)
    · exact .inr (.inr (.inr hx))
end
end Go.Proofs.Ytddlhkkkngfgiaa
