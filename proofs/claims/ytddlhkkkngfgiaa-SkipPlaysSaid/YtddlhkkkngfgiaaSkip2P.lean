/-
  How a node comes into its chains, and how it leaves them.
-/
import Derived.Test.YtddlhkkkngfgiaaSkipP
namespace Go.Proofs.Ytddlhkkkngfgiaa
open Go.RowKit
section
variable {K V : Type} {kval : K → Value} {vval : V → Value} {TN TP TM : TypeId} {lt : K → K → Bool}

/-- A map's blocks. -/
def CSk (c : Nat) (H : St K V) (es : List (St K V)) (k : Nat) : Prop := k = c ∨ k ∈ blks (H :: es)
theorem Ch.drew {w : World} {S : List (St K V)} (h : Ch kval vval TN TP w S) : Ch kval vval TN TP w.drew S := h.keep (fun _ _ => rfl)
variable (kval vval TN TP TM) in
/-- On the way: the node y stands between l1 and l2, in the chains f. -/
structure Way (w0 w : World) (c : Nat) (H : St K V) (l1 l2 : List (St K V)) (y : St K V) (o : Nat) (nx : Array Value) (n s : Int) (f : Nat → Bool) : Prop where
  ch : Ch kval vval TN TP w (H :: (l1 ++ { y with on := f } :: l2))
  fr : Fr (fun k => CSk c H (l1 ++ l2) k ∨ (k = y.nb ∨ k = y.b)) w0 w
  row : w.heap[o]? = some (.cells nx TP (0, 0))
  map : w.heap[c]? = some (.cells #[(Value.pointer (some ⟨H.b, 0, none⟩)), .int .i64 n, .int .u64 s] TM (0, 0))
/-- What does not turn on the way. -/
structure WayS (c : Nat) (H : St K V) (l1 l2 : List (St K V)) (y : St K V) (o : Nat) (nx : Array Value) : Prop where
  nodup : (c :: o :: blks (H :: (l1 ++ y :: l2))).Nodup
  full : ∀ x ∈ H :: (l1 ++ l2), x.len ≤ 12 ∧ ∀ i, x.on i = decide (i < x.len)
  rows : nx.size = 12 ∧ ∀ i, i < 12 → ∃ x, nx[i]? = some ((Value.pointer (some ⟨x.b, 0, none⟩))) ∧ Top (H :: l1) i x
theorem WayS.parts {c : Nat} {H : St K V} {l1 l2 : List (St K V)} {y : St K V} {o : Nat} {nx : Array Value} (hS : WayS c H l1 l2 y o nx) :
    c ≠ o ∧ (∀ k ∈ blks (H :: (l1 ++ y :: l2)), k ≠ c ∧ k ≠ o) ∧ (blks (H :: (l1 ++ y :: l2))).Nodup := by
  have h := hS.nodup
  rw [List.nodup_cons, List.nodup_cons] at h
  exact ⟨fun e => h.1 (by simp [e]), fun k hk => ⟨fun e => h.1 (by simp [← e, hk]), fun e => h.2.1 (e ▸ hk)⟩, h.2.2⟩
/-- What a walk reads at a chain. -/
structure Look (w : World) (y : St K V) (l2 : List (St K V)) (o : Nat) (j : Nat) (xb xnb xlen : Nat) : Prop where
  o_ : w.cell? ⟨o, j, none⟩ = some ((Value.pointer (some ⟨xb, 0, none⟩)))
  x_ : w.cell? ⟨xb, 2, none⟩ = some (.slice (some ⟨xnb, 0, none⟩) xlen xlen)
  y_ : w.cell? ⟨y.b, 2, none⟩ = some (.slice (some ⟨y.nb, 0, none⟩) y.len y.len)
  lt : j < xlen
  le : xlen ≤ 12
  yc : j < y.len → ∃ v, w.cell? ⟨y.nb, j, none⟩ = some v
  yf : w.frozen? ⟨y.nb, j, none⟩ = false
  xc : ∃ v, w.cell? ⟨xnb, j, none⟩ = some v
  xf : w.frozen? ⟨xnb, j, none⟩ = false
theorem NodeAt.reads {w : World} {x : St K V} (h : NodeAt kval vval TN TP w x) (j : Nat) : w.cell? ⟨x.b, 2, none⟩ = some (.slice (some ⟨x.nb, 0, none⟩) x.len x.len) ∧ (j < x.len → ∃ v, w.cell? ⟨x.nb, j, none⟩ = some v) ∧ w.frozen? ⟨x.nb, j, none⟩ = false := by
  obtain ⟨nx, h1, h2⟩ := h.row
  exact ⟨cellOf h.node rfl, fun hj => ⟨nx[j]'(by omega), cellOf h1 (Array.getElem?_eq_getElem (by omega))⟩, freeOf j h1⟩
theorem Way.split {a b l1 : List (St K V)} {x H : St K V} (hs : H :: l1 = a ++ x :: b) (r : List (St K V)) : H :: (l1 ++ r) = a ++ x :: (b ++ r) := by rw [← List.cons_append, hs]; simp
/-- What is there to be read, and where the walk goes from there. -/
theorem Way.step {w0 w : World} {c : Nat} {H : St K V} {l1 l2 : List (St K V)} {y : St K V} {o : Nat} {nx : Array Value} {n s : Int} {f : Nat → Bool} (hW : Way kval vval TN TP TM w0 w c H l1 l2 y o nx n s f) (hS : WayS c H l1 l2 y o nx) (j : Nat) (hj : j < 12) :
    ∃ x : St K V, Look w y l2 o j x.b x.nb x.len ∧
      (f j = false → j < y.len → w.cell? ⟨x.nb, j, none⟩ = some (nxt l2 j) ∧ Look ((w.setCell ⟨y.nb, j, none⟩ (nxt l2 j)).drew) y l2 o j x.b x.nb x.len ∧
        ∀ g : Nat → Bool, (∀ i, i ≠ j → g i = f i) → g j = true → Way kval vval TN TP TM w0 (((w.setCell ⟨y.nb, j, none⟩ (nxt l2 j)).drew).setCell ⟨x.nb, j, none⟩ ((Value.pointer (some ⟨y.b, 0, none⟩)))) c H l1 l2 y o nx n s g) ∧
      (f j = true → w.cell? ⟨y.nb, j, none⟩ = some (nxt l2 j) ∧ ∀ g : Nat → Bool, (∀ i, i ≠ j → g i = f i) → g j = false → Way kval vval TN TP TM w0 ((w.setCell ⟨x.nb, j, none⟩ (nxt l2 j)).drew) c H l1 l2 y o nx n s g) := by
  obtain ⟨x, hnx, a, b, hs, hxon, hb⟩ := hS.rows.2 j hj
  obtain ⟨hco, hcd, hnd⟩ := hS.parts
  have hfx := hS.full x (by rw [Way.split hs]; simp)
  have hxl : j < x.len := by rw [hfx.2 j] at hxon; exact of_decide_eq_true hxon
  have e1 := Way.split hs (y :: l2)
  have e2 := Way.split hs ({ y with on := f } :: l2)
  have hbl : blks (a ++ x :: (b ++ { y with on := f } :: l2)) = blks (H :: (l1 ++ y :: l2)) := by rw [e1]; simp [blks]
  have hch := hW.ch
  rw [e2] at hch
  have hnd2 := hnd
  rw [← hbl] at hnd2
  have hx := hch.at_
  have hy := hch.right.2.2.right
  have hxm : x.b ∈ blks (H :: (l1 ++ y :: l2)) ∧ x.nb ∈ blks (H :: (l1 ++ y :: l2)) := by rw [e1]; simp [blks]
  have hym : y.b ∈ blks (H :: (l1 ++ y :: l2)) ∧ y.nb ∈ blks (H :: (l1 ++ y :: l2)) := by simp [blks]
  have hxy : x.b ≠ y.nb ∧ x.nb ≠ y.nb ∧ x.nb ≠ y.b := by
    have := (nodup_parts rfl hnd2).2.2
    rw [blks_append, blks_cons] at this
    have h1 := this y.b (by simp)
    have h2 := this y.nb (by simp)
    exact ⟨Ne.symm h2.1, Ne.symm h2.2, Ne.symm h1.2⟩
  have hyy : y.b ≠ y.nb := (nodup_parts (S := H :: (l1 ++ y :: l2)) (a := H :: l1) (r := l2) (x := y) rfl hnd).1
  have hxS : CSk c H (l1 ++ l2) x.nb := .inr (by rw [Way.split hs]; simp [blks])
  have hL : Look w y l2 o j x.b x.nb x.len := by
    obtain ⟨h1, h2, h3⟩ := hx.1.reads j
    obtain ⟨h4, h5, h6⟩ := (NodeAt.reads (x := { y with on := f }) hy.1 j)
    exact ⟨cellOf hW.row hnx, h1, h4, hxl, hfx.1, h5, h6, h2 hxl, h3⟩
  refine ⟨x, hL, fun hf hjy => ?_, fun hf => ?_⟩
  · have hcx : w.cell? ⟨x.nb, j, none⟩ = some (nxt l2 j) := by
      rw [hx.2 j hxon, nxt_skip hb, nxt_cons]; simp only []; rw [hf]; rfl
    have hsc := Ch.scribble (a := H :: l1) (x := { y with on := f }) hW.ch (by have := hnd; simpa [blks] using this) hf hjy (nxt l2 j)
    have hne : ∀ k, k ≠ y.nb → (w.setCell ⟨y.nb, j, none⟩ (nxt l2 j)).heap[k]? = w.heap[k]? := fun k hk => Below.heap_setCell w ⟨y.nb, j, none⟩ _ k hk
    have hsc2 : Ch kval vval TN TP (w.setCell ⟨y.nb, j, none⟩ (nxt l2 j)).drew (H :: (l1 ++ { y with on := f } :: l2)) := hsc.drew
    have hch2 := hsc2
    rw [e2] at hch2
    have hcy : (w.setCell ⟨y.nb, j, none⟩ (nxt l2 j)).drew.cell? ⟨y.nb, j, none⟩ = some (nxt l2 j) := by
      have := NodeAt.cell_write (x := { y with on := f }) hy.1 j hjy (nxt l2 j) j
      rw [if_pos rfl] at this
      exact this
    refine ⟨hcx, ?_, fun g hg hgj => ⟨?_, ?_, ?_, ?_⟩⟩
    · obtain ⟨h1, h2, h3⟩ := hch2.at_.1.reads j
      obtain ⟨h4, h5, h6⟩ := (NodeAt.reads (x := { y with on := f }) hch2.right.2.2.right.1 j)
      exact ⟨cellOf (by show (w.setCell _ _).heap[o]? = _; rw [hne o (fun e => (hcd _ hym.2).2 e.symm)]; exact hW.row) hnx, h1, h4, hxl, hfx.1, h5, h6, h2 hxl, h3⟩
    · have := Ch.relink (y := { y with on := f }) (f := g) (i := j) hch2 hnd2 hxon hxl hb hg (fun _ => hcy)
      rw [nxt_cons] at this
      simp only [hgj, if_true] at this
      rw [Way.split hs]
      exact this
    · exact ((hW.fr.setCell (p := ⟨y.nb, j, none⟩) (.inl (.inr (.inl rfl))) _).drew).setCell (p := ⟨x.nb, j, none⟩) (.inl (.inl hxS)) _
    · show (World.setCell _ _ _).heap[o]? = _
      rw [Below.heap_setCell _ ⟨x.nb, j, none⟩ _ o (fun e => (hcd _ hxm.2).2 e.symm)]
      show (w.setCell _ _).heap[o]? = _
      rw [hne o (fun e => (hcd _ hym.2).2 e.symm)]; exact hW.row
    · show (World.setCell _ _ _).heap[c]? = _
      rw [Below.heap_setCell _ ⟨x.nb, j, none⟩ _ c (fun e => (hcd _ hxm.2).1 e.symm)]
      show (w.setCell _ _).heap[c]? = _
      rw [hne c (fun e => (hcd _ hym.2).1 e.symm)]; exact hW.map
  · refine ⟨hy.2.1 j hf, fun g hg hgj => ⟨?_, ?_, ?_, ?_⟩⟩
    · have := Ch.relink (y := { y with on := f }) (f := g) (i := j) hch hnd2 hxon hxl hb hg (fun h => by rw [hgj] at h; cases h)
      rw [nxt_cons] at this
      simp only [hgj, Bool.false_eq_true, if_false] at this
      rw [Way.split hs]
      exact this.drew
    · exact (hW.fr.setCell (p := ⟨x.nb, j, none⟩) (.inl (.inl hxS)) _).drew
    · show (w.setCell _ _).heap[o]? = _
      rw [Below.heap_setCell _ ⟨x.nb, j, none⟩ _ o (fun e => (hcd _ hxm.2).2 e.symm)]; exact hW.row
    · show (w.setCell _ _).heap[c]? = _
      rw [Below.heap_setCell _ ⟨x.nb, j, none⟩ _ c (fun e => (hcd _ hxm.2).1 e.symm)]; exact hW.map
theorem Sk.turn {w w1 : World} {c : Nat} {H x : St K V} {l1 l2 : List (St K V)} (h : Sk kval vval TN TP TM lt w c H (l1 ++ x :: l2)) (hb : Below w.heap.size w w1) (v : V) :
    Sk kval vval TN TP TM lt (w1.setCell ⟨x.b, 1, none⟩ (vval v)) c H (l1 ++ { x with val := v } :: l2) ∧ Fr (CSk c H (l1 ++ x :: l2)) w (w1.setCell ⟨x.b, 1, none⟩ (vval v)) := by
  have h1 := h.keep (w' := w1) (fun k hk => hb.block k (h.lt k hk))
  have hbl : blks (H :: (l1 ++ { x with val := v } :: l2)) = blks (H :: (l1 ++ x :: l2)) := by simp [blks]
  have hxm : x.b ∈ blks (H :: (l1 ++ x :: l2)) := by simp [blks]
  have hn := h1.nodup
  have hcx : c ≠ x.b := fun e => (List.nodup_cons.1 hn).1 (e ▸ hxm)
  refine ⟨⟨?_, ?_, by rw [hbl]; exact hn, fun y hy => ?_, h1.top, ?_⟩, (Fr.of_below _ hb).setCell (p := ⟨x.b, 1, none⟩) (.inl (.inr hxm)) _⟩
  · obtain ⟨s, hs⟩ := h1.map
    refine ⟨s, ?_⟩
    rw [Below.heap_setCell _ ⟨x.b, 1, none⟩ _ c hcx, hs]
    simp
  · exact Ch.turn (a := H :: l1) h1.ch (List.nodup_cons.1 hn).2 v
  · have hf := h1.full
    simp only [List.mem_cons, List.mem_append] at hy hf
    rcases hy with hy | hy | hy | hy
    · exact hf y (.inl hy)
    · exact hf y (.inr (.inl hy))
    · subst hy; exact hf x (.inr (.inr (.inl rfl)))
    · exact hf y (.inr (.inr (.inr hy)))
  · have hs := h1.sorted
    rw [List.pairwise_append, List.pairwise_cons] at hs ⊢
    refine ⟨hs.1, hs.2.1, fun a ha b hb => ?_⟩
    rcases List.mem_cons.1 hb with rfl | hb
    · exact hs.2.2 a ha x (by simp)
    · exact hs.2.2 a ha b (by simp [hb])
/-- The end of the way in. -/
theorem Way.in_ {w0 w : World} {c : Nat} {H : St K V} {l1 l2 : List (St K V)} {y : St K V} {o : Nat} {nx : Array Value} {n s : Int} {f : Nat → Bool} (h0 : Sk kval vval TN TP TM lt w0 c H (l1 ++ l2)) (hW : Way kval vval TN TP TM w0 w c H l1 l2 y o nx n s f) (hS : WayS c H l1 l2 y o nx)
    (hn : n = ((l1.length + l2.length : Nat) : Int)) (hf : ∀ i, f i = decide (i < y.len)) (hy : 1 ≤ y.len ∧ y.len ≤ 12) (hb : w0.heap.size ≤ y.b ∧ w0.heap.size ≤ y.nb) (lo : ∀ x ∈ l1, lt x.key y.key = true) (hi : ∀ x ∈ l2, lt y.key x.key = true) (hon : ∀ i, y.on i = f i) :
    Sk kval vval TN TP TM lt (w.setCell ⟨c, 1, none⟩ (.int .i64 (n + 1))) c H (l1 ++ y :: l2) ∧ Fr (CSk c H (l1 ++ l2)) w0 (w.setCell ⟨c, 1, none⟩ (.int .i64 (n + 1))) := by
  obtain ⟨hco, hcd, hnd⟩ := hS.parts
  have e : ({ y with on := f } : St K V) = y := by
    have : f = y.on := funext (fun i => (hon i).symm)
    rw [this]
  have hch := hW.ch
  rw [e] at hch
  refine ⟨⟨⟨s, ?_⟩, hch.keep (fun k hk => Below.heap_setCell _ ⟨c, 1, none⟩ _ k (hcd k hk).1), List.nodup_cons.2 ⟨fun hc => (hcd c hc).1 rfl, hnd⟩, fun x hx => ?_, h0.top, ?_⟩, ?_⟩
  · rw [setAt _ hW.map, hn]
    simp only [List.length_append, List.length_cons]
    congr 3
  · have hf0 := h0.full
    simp only [List.mem_cons, List.mem_append] at hx hf0
    rcases hx with hx | hx | hx | hx
    · exact hf0 x (.inl hx)
    · exact hf0 x (.inr (.inl hx))
    · subst hx; exact ⟨hy.1, hy.2, fun i => (hon i).trans (hf i)⟩
    · exact hf0 x (.inr (.inr hx))
  · have hs := h0.sorted
    rw [List.pairwise_append] at hs ⊢
    refine ⟨hs.1, List.pairwise_cons.2 ⟨hi, hs.2.1⟩, fun a ha b hb => ?_⟩
    rcases List.mem_cons.1 hb with rfl | hb
    · exact lo a ha
    · exact hs.2.2 a ha b hb
  · refine (hW.fr.setCell (p := ⟨c, 1, none⟩) (.inl (.inl (.inl rfl))) _).mono (fun k hk hk2 => ?_)
    rcases hk2 with hk2 | hk2 | hk2
    · exact hk2
    · omega
    · omega
/-- The end of the way out. -/
theorem Way.out_ {w0 w : World} {c : Nat} {H : St K V} {l1 l2 : List (St K V)} {y : St K V} {o : Nat} {nx : Array Value} {n s : Int} {f : Nat → Bool} (h0 : Sk kval vval TN TP TM lt w0 c H (l1 ++ y :: l2)) (hW : Way kval vval TN TP TM w0 w c H l1 l2 y o nx n s f) (hS : WayS c H l1 l2 y o nx)
    (hn : n = ((l1.length + l2.length : Nat) : Int) + 1) (hf : ∀ i, f i = false) :
    Sk kval vval TN TP TM lt (w.setCell ⟨c, 1, none⟩ (.int .i64 (n - 1))) c H (l1 ++ l2) ∧ Fr (CSk c H (l1 ++ y :: l2)) w0 (w.setCell ⟨c, 1, none⟩ (.int .i64 (n - 1))) := by
  obtain ⟨hco, hcd, hnd⟩ := hS.parts
  have hch := Ch.remove (a := H :: l1) (y := { y with on := f }) hW.ch hf
  have hsub : ∀ k ∈ blks (H :: (l1 ++ l2)), k ∈ blks (H :: (l1 ++ y :: l2)) := fun k hk => by
    simp only [blks_cons, blks_append, List.mem_cons, List.mem_append] at hk ⊢
    rcases hk with h | h | h | h <;> simp [h]
  refine ⟨⟨⟨s, ?_⟩, hch.keep (fun k hk => Below.heap_setCell _ ⟨c, 1, none⟩ _ k (hcd k (hsub k hk)).1), List.nodup_cons.2 ⟨fun hc => (hcd c (hsub c hc)).1 rfl, ?_⟩, fun x hx => ?_, h0.top, ?_⟩, ?_⟩
  · rw [setAt _ hW.map, hn]
    simp only [List.length_append]
    congr 3
    simp <;> omega
  · refine hnd.sublist ?_
    simp only [blks_cons, blks_append]
    exact List.Sublist.cons_cons _ (List.Sublist.cons_cons _ (List.Sublist.append (List.Sublist.refl _) (List.Sublist.cons _ (List.Sublist.cons _ (List.Sublist.refl _)))))
  · have hf0 := h0.full
    simp only [List.mem_cons, List.mem_append] at hx hf0
    rcases hx with hx | hx | hx
    · exact hf0 x (.inl hx)
    · exact hf0 x (.inr (.inl hx))
    · exact hf0 x (.inr (.inr (.inr hx)))
  · have hs := h0.sorted
    rw [List.pairwise_append] at hs ⊢
    exact ⟨hs.1, (List.pairwise_cons.1 hs.2.1).2, fun a ha b hb => hs.2.2 a ha b (by simp [hb])⟩
  · refine (hW.fr.setCell (p := ⟨c, 1, none⟩) (.inl (.inl (.inl rfl))) _).mono (fun k hk hk2 => ?_)
    rcases hk2 with (hk2 | hk2) | hk2 | hk2
    · exact .inl hk2
    · exact .inr (hsub k hk2)
    · exact .inr (by rw [hk2]; simp [blks])
    · exact .inr (by rw [hk2]; simp [blks])
end
end Go.Proofs.Ytddlhkkkngfgiaa
