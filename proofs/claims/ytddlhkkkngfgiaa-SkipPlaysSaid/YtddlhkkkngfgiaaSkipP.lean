/-
  Nodes that stand in chains, as they lie.
-/
import Derived.Test.YtddlhkkkngfgiaaFr0
namespace Go.Proofs.Ytddlhkkkngfgiaa
open Go.RowKit

theorem cellOf {w : World} {b o : Nat} {cs : Array Value} {t : TypeId} {f : Nat × Nat} {v : Value} (h : w.heap[b]? = some (.cells cs t f)) (hv : cs[o]? = some v) : w.cell? ⟨b, o, none⟩ = some v := by simp [World.cell?, h, hv]
theorem freeOf {w : World} {b : Nat} {cs : Array Value} {t : TypeId} (o : Nat) (h : w.heap[b]? = some (.cells cs t (0, 0))) : w.frozen? ⟨b, o, none⟩ = false := by simp [World.frozen?, h]
theorem setAt {w : World} {p o : Nat} {cs : Array Value} {t : TypeId} (u : Value) (h : w.heap[p]? = some (.cells cs t (0, 0))) : (w.setCell ⟨p, o, none⟩ u).heap[p]? = some (.cells (cs.setIfInBounds o u) t (0, 0)) := by
  have hlt := lt_of_block h
  have h' : w.heap[p] = .cells cs t (0, 0) := by simpa [Array.getElem?_eq_getElem hlt] using h
  show (w.heap.modify p _)[p]? = _
  rw [Array.getElem?_eq_getElem (by simpa using hlt), Array.getElem_modify_self, h']; rfl
/-- A node: where it lies, where its row of next ones lies, and in which chains it stands. -/
structure St (K V : Type) where
  b : Nat
  nb : Nat
  len : Nat
  key : K
  val : V
  on : Nat → Bool
section
variable {K V : Type}
/-- The first one of a chain. -/
def nxt (r : List (St K V)) (i : Nat) : Value := match r.find? (fun x => x.on i) with
  | some x => (Value.pointer (some ⟨x.b, 0, none⟩))
  | none => .pointer none
def blks (S : List (St K V)) : List Nat := S.flatMap (fun x => [x.b, x.nb])
theorem blks_cons (x : St K V) (r : List (St K V)) : blks (x :: r) = x.b :: x.nb :: blks r := rfl
theorem blks_append (a b : List (St K V)) : blks (a ++ b) = blks a ++ blks b := by simp [blks]
theorem nxt_cons (x : St K V) (r : List (St K V)) (i : Nat) : nxt (x :: r) i = if x.on i then (Value.pointer (some ⟨x.b, 0, none⟩)) else nxt r i := by
  unfold nxt; rw [List.find?_cons]; cases x.on i <;> simp
theorem nxt_skip {b r : List (St K V)} {i : Nat} (h : ∀ y ∈ b, y.on i = false) : nxt (b ++ r) i = nxt r i := by
  induction b with
  | nil => rfl
  | cons y b ih => rw [List.cons_append, nxt_cons, h y (by simp), if_neg (by simp)]; exact ih (fun z hz => h z (by simp [hz]))
/-- What stands behind the first one of a chain counts for nothing; and what isn't in the chain. -/
theorem nxt_congr {a r r' : List (St K V)} {i : Nat} (h : nxt r i = nxt r' i ∨ ∃ z ∈ a, z.on i = true) : nxt (a ++ r) i = nxt (a ++ r') i := by
  induction a with
  | nil => rcases h with h | ⟨z, hz, _⟩; exact h; cases hz
  | cons y a ih =>
    rw [List.cons_append, List.cons_append, nxt_cons, nxt_cons]
    cases hy : y.on i with
    | true => simp
    | false =>
      rw [if_neg (by simp), if_neg (by simp)]
      refine ih ?_
      rcases h with h | ⟨z, hz, hzi⟩
      · exact .inl h
      · rcases List.mem_cons.1 hz with rfl | hz
        · rw [hy] at hzi; cases hzi
        · exact .inr ⟨z, hz, hzi⟩
variable (kval : K → Value) (vval : V → Value) (TN TP : TypeId)
structure NodeAt (w : World) (x : St K V) : Prop where
  node : w.heap[x.b]? = some (.cells #[kval x.key, vval x.val, .slice (some ⟨x.nb, 0, none⟩) x.len x.len] TN (0, 0))
  row : ∃ nx : Array Value, w.heap[x.nb]? = some (.cells nx TP (0, 0)) ∧ nx.size = x.len
def Ch (w : World) : List (St K V) → Prop
  | [] => True
  | x :: r => NodeAt kval vval TN TP w x ∧ (∀ i, x.on i = true → w.cell? ⟨x.nb, i, none⟩ = some (nxt r i)) ∧ Ch w r
variable {kval vval TN TP} {w w' : World}
theorem NodeAt.keep {x : St K V} (h : NodeAt kval vval TN TP w x) (h1 : w'.heap[x.b]? = w.heap[x.b]?) (h2 : w'.heap[x.nb]? = w.heap[x.nb]?) : NodeAt kval vval TN TP w' x :=
  ⟨h1.trans h.node, by obtain ⟨nx, h3, h4⟩ := h.row; exact ⟨nx, h2.trans h3, h4⟩⟩
theorem Ch.keep {S : List (St K V)} (h : Ch kval vval TN TP w S) (hb : ∀ k ∈ blks S, w'.heap[k]? = w.heap[k]?) : Ch kval vval TN TP w' S := by
  induction S with
  | nil => trivial
  | cons x r ih =>
    obtain ⟨h1, h2, h3⟩ := h
    rw [blks_cons] at hb
    refine ⟨h1.keep (hb _ (by simp)) (hb _ (by simp)), fun i hi => ?_, ih h3 (fun k hk => hb k (by simp [hk]))⟩
    rw [World.cell?_of_block (w := w) (hb _ (by simp))]; exact h2 i hi
theorem Ch.lt {S : List (St K V)} (h : Ch kval vval TN TP w S) : ∀ k ∈ blks S, k < w.heap.size := by
  induction S with
  | nil => intro k hk; cases hk
  | cons x r ih =>
    intro k hk
    rw [blks_cons] at hk
    rcases List.mem_cons.1 hk with rfl | hk
    · exact lt_of_block h.1.node
    · rcases List.mem_cons.1 hk with rfl | hk
      · obtain ⟨nx, h1, _⟩ := h.1.row; exact lt_of_block h1
      · exact ih h.2.2 k hk
theorem Ch.right {a r : List (St K V)} (h : Ch kval vval TN TP w (a ++ r)) : Ch kval vval TN TP w r := by
  induction a with
  | nil => exact h
  | cons x a ih => exact ih h.2.2
theorem Ch.at_ {a r : List (St K V)} {x : St K V} (h : Ch kval vval TN TP w (a ++ x :: r)) : NodeAt kval vval TN TP w x ∧ ∀ i, x.on i = true → w.cell? ⟨x.nb, i, none⟩ = some (nxt r i) :=
  ⟨h.right.1, h.right.2.1⟩
/-- Where what stands behind turns, and is seen from ahead as it was. -/
theorem Ch.left {a r r' : List (St K V)} (h : Ch kval vval TN TP w (a ++ r)) (hb : ∀ k ∈ blks a, w'.heap[k]? = w.heap[k]?) (hr : Ch kval vval TN TP w' r')
    (hn : ∀ i, nxt r i = nxt r' i ∨ ∀ z ∈ a, z.on i = true → False) : Ch kval vval TN TP w' (a ++ r') := by
  induction a with
  | nil => exact hr
  | cons y a ih =>
    obtain ⟨h1, h2, h3⟩ := h
    rw [blks_cons] at hb
    refine ⟨h1.keep (hb _ (by simp)) (hb _ (by simp)), fun i hi => ?_, ih h3 (fun k hk => hb k (by simp [hk])) (fun i => (hn i).imp_right (fun h z hz => h z (by simp [hz])))⟩
    rw [World.cell?_of_block (w := w) (hb _ (by simp)), h2 i hi]
    refine congrArg some (nxt_congr ?_)
    rcases hn i with hn | hn
    · exact .inl hn
    · exact absurd hi (fun h => hn y (by simp) h)
theorem Ch.left2 {a r r' : List (St K V)} (h : Ch kval vval TN TP w (a ++ r)) (hb : ∀ k ∈ blks a, w'.heap[k]? = w.heap[k]?) (hr : Ch kval vval TN TP w' r')
    (hn : ∀ i, nxt r i = nxt r' i) : Ch kval vval TN TP w' (a ++ r') := h.left hb hr (fun i => .inl (hn i))
/-- A node in no chain may stand there, or not. -/
theorem Ch.insert {a r : List (St K V)} {y : St K V} (h : Ch kval vval TN TP w (a ++ r)) (hy : NodeAt kval vval TN TP w y) (h0 : ∀ i, y.on i = false) : Ch kval vval TN TP w (a ++ y :: r) :=
  h.left2 (fun _ _ => rfl) ⟨hy, fun i hi => (by rw [h0 i] at hi; cases hi), h.right⟩ (fun i => by rw [nxt_cons, h0 i]; simp)
theorem Ch.remove {a r : List (St K V)} {y : St K V} (h : Ch kval vval TN TP w (a ++ y :: r)) (h0 : ∀ i, y.on i = false) : Ch kval vval TN TP w (a ++ r) :=
  h.left2 (fun _ _ => rfl) h.right.2.2 (fun i => by rw [nxt_cons, h0 i]; simp)
/-- A node's value turns. -/
theorem Ch.turn {a r : List (St K V)} {x : St K V} (h : Ch kval vval TN TP w (a ++ x :: r)) (hn : (blks (a ++ x :: r)).Nodup) (v : V) : Ch kval vval TN TP (w.setCell ⟨x.b, 1, none⟩ (vval v)) (a ++ { x with val := v } :: r) := by
  rw [blks_append, blks_cons, List.nodup_append] at hn
  obtain ⟨_, hn2, hn3⟩ := hn
  rw [List.nodup_cons, List.nodup_cons] at hn2
  obtain ⟨hx1, hx2, _⟩ := hn2
  have hne : ∀ k, k ≠ x.b → (w.setCell ⟨x.b, 1, none⟩ (vval v)).heap[k]? = w.heap[k]? := fun k hk => Below.heap_setCell w ⟨x.b, 1, none⟩ _ k hk
  have hxl := lt_of_block h.at_.1.node
  refine h.left2 (fun k hk => hne k (fun e => hn3 k hk x.b (by simp) e)) ⟨⟨?_, ?_⟩, fun i hi => ?_, h.right.2.2.keep (fun k hk => hne k (fun e => hx1 (by simp [← e, hk])))⟩ (fun i => by rw [nxt_cons, nxt_cons])
  · have h' : w.heap[x.b] = .cells #[kval x.key, vval x.val, .slice (some ⟨x.nb, 0, none⟩) x.len x.len] TN (0, 0) := by have := h.at_.1.node; rw [Array.getElem?_eq_getElem hxl] at this; injection this
    show (w.heap.modify x.b _)[x.b]? = _
    rw [Array.getElem?_eq_getElem (by simpa using hxl), Array.getElem_modify_self, h']
    rfl
  · obtain ⟨nx, h1, h2⟩ := h.at_.1.row
    exact ⟨nx, (hne x.nb (fun e => hx1 (by simp [e]))).trans h1, h2⟩
  · show (w.setCell _ _).cell? ⟨x.nb, i, none⟩ = _
    rw [World.cell?_of_block (w := w) (hne x.nb (fun e => hx1 (by simp [e])))]
    exact h.at_.2 i hi
/-- A node's row, written at a place. -/
theorem NodeAt.write {x : St K V} (h : NodeAt kval vval TN TP w x) (hne : x.b ≠ x.nb) (i : Nat) (u : Value) : NodeAt kval vval TN TP (w.setCell ⟨x.nb, i, none⟩ u) x := by
  obtain ⟨nx, h1, h2⟩ := h.row
  refine ⟨(Below.heap_setCell w ⟨x.nb, i, none⟩ _ x.b hne).trans h.node, nx.setIfInBounds i u, ?_, by simpa using h2⟩
  have hxl := lt_of_block h1
  have h' : w.heap[x.nb] = .cells nx TP (0, 0) := by rw [Array.getElem?_eq_getElem hxl] at h1; injection h1
  show (w.heap.modify x.nb _)[x.nb]? = _
  rw [Array.getElem?_eq_getElem (by simpa using hxl), Array.getElem_modify_self, h']
  rfl
theorem NodeAt.cell_write {x : St K V} (h : NodeAt kval vval TN TP w x) (i : Nat) (hi : i < x.len) (u : Value) (j : Nat) : (w.setCell ⟨x.nb, i, none⟩ u).cell? ⟨x.nb, j, none⟩ = if j = i then some u else w.cell? ⟨x.nb, j, none⟩ := by
  obtain ⟨nx, h1, h2⟩ := h.row
  have hxl := lt_of_block h1
  have h' : w.heap[x.nb] = .cells nx TP (0, 0) := by rw [Array.getElem?_eq_getElem hxl] at h1; injection h1
  have e : (w.setCell ⟨x.nb, i, none⟩ u).heap[x.nb]? = some (.cells (nx.setIfInBounds i u) TP (0, 0)) := by
    show (w.heap.modify x.nb _)[x.nb]? = _
    rw [Array.getElem?_eq_getElem (by simpa using hxl), Array.getElem_modify_self, h']
    rfl
  by_cases hj : j = i
  · subst hj; simp [World.cell?, e, h2, hi]
  · rw [if_neg hj]
    simp [World.cell?, e, h1, Ne.symm hj]
theorem nodup_parts {S a r : List (St K V)} {x : St K V} (hS : S = a ++ x :: r) (hn : (blks S).Nodup) : x.b ≠ x.nb ∧ (∀ k ∈ blks a, k ≠ x.b ∧ k ≠ x.nb) ∧ (∀ k ∈ blks r, k ≠ x.b ∧ k ≠ x.nb) := by
  subst hS
  rw [blks_append, blks_cons, List.nodup_append] at hn
  obtain ⟨_, hn2, hn3⟩ := hn
  rw [List.nodup_cons, List.nodup_cons] at hn2
  obtain ⟨hx1, hx2, _⟩ := hn2
  exact ⟨fun e => hx1 (by simp [e]), fun k hk => ⟨fun e => hn3 k hk x.b (by simp) e, fun e => hn3 k hk x.nb (by simp) e⟩, fun k hk => ⟨fun e => hx1 (by simp [← e, hk]), fun e => hx2 (e ▸ hk)⟩⟩
/-- A node comes into a chain, or goes out of it. -/
theorem Ch.relink {a b B : List (St K V)} {x y : St K V} {i : Nat} {f : Nat → Bool} (h : Ch kval vval TN TP w (a ++ x :: (b ++ y :: B))) (hn : (blks (a ++ x :: (b ++ y :: B))).Nodup)
    (hx : x.on i = true) (hi : i < x.len) (hb : ∀ z ∈ b, z.on i = false) (hf : ∀ j, j ≠ i → f j = y.on j) (hy : f i = true → w.cell? ⟨y.nb, i, none⟩ = some (nxt B i)) :
    Ch kval vval TN TP (w.setCell ⟨x.nb, i, none⟩ (nxt ({ y with on := f } :: B) i)) (a ++ x :: (b ++ { y with on := f } :: B)) := by
  obtain ⟨hx0, hxa, hxr⟩ := nodup_parts rfl hn
  have hne : ∀ u k, k ≠ x.nb → (w.setCell ⟨x.nb, i, none⟩ u).heap[k]? = w.heap[k]? := fun u k hk => Below.heap_setCell w ⟨x.nb, i, none⟩ _ k hk
  have e1 : ∀ j, j ≠ i → nxt (y :: B) j = nxt ({ y with on := f } :: B) j := fun j hj => by rw [nxt_cons, nxt_cons]; simp only []; rw [hf j hj]
  have e2 : ∀ j, j ≠ i → nxt (b ++ y :: B) j = nxt (b ++ { y with on := f } :: B) j := fun j hj => nxt_congr (.inl (e1 j hj))
  rw [blks_append, blks_cons] at hxr
  have h1 : Ch kval vval TN TP (w.setCell ⟨x.nb, i, none⟩ (nxt ({ y with on := f } :: B) i)) (b ++ { y with on := f } :: B) := by
    refine h.right.2.2.left (fun k hk => hne _ k (hxr k (by simp [hk])).2) ⟨?_, fun j hj => ?_, h.right.2.2.right.2.2.keep (fun k hk => hne _ k (hxr k (by simp [hk])).2)⟩ (fun j => ?_)
    · have := h.right.2.2.right.1.keep (hne (nxt ({ y with on := f } :: B) i) y.b (hxr _ (by simp)).2) (hne _ y.nb (hxr _ (by simp)).2)
      exact ⟨this.node, this.row⟩
    · show World.cell? _ ⟨y.nb, j, none⟩ = _
      rw [World.cell?_of_block (w := w) (hne _ y.nb (hxr _ (by simp)).2)]
      by_cases hj2 : j = i
      · subst hj2; exact hy hj
      · exact h.right.2.2.right.2.1 j (by rw [← hf j hj2]; exact hj)
    · by_cases hj : j = i
      · subst hj; exact .inr (fun z hz hz2 => by rw [hb z hz] at hz2; cases hz2)
      · exact .inl (e1 j hj)
  refine h.left2 (fun k hk => hne _ k (hxa k hk).2) ⟨h.at_.1.write hx0 i _, fun j hj => ?_, h1⟩ (fun j => ?_)
  · rw [h.at_.1.cell_write i hi]
    by_cases hj2 : j = i
    · subst hj2; rw [if_pos rfl, nxt_skip hb]
    · rw [if_neg hj2, h.at_.2 j hj, e2 j hj2]
  · rw [nxt_cons, nxt_cons]
    by_cases hj2 : j = i
    · subst hj2; rw [hx]; rfl
    · rw [e2 j hj2]
/-- A node's row, written where the node isn't in the chain. -/
theorem Ch.scribble {a r : List (St K V)} {x : St K V} (h : Ch kval vval TN TP w (a ++ x :: r)) (hn : (blks (a ++ x :: r)).Nodup) {i : Nat} (hx : x.on i = false) (hi : i < x.len) (u : Value) :
    Ch kval vval TN TP (w.setCell ⟨x.nb, i, none⟩ u) (a ++ x :: r) := by
  obtain ⟨hx0, hxa, hxr⟩ := nodup_parts rfl hn
  have hne : ∀ k, k ≠ x.nb → (w.setCell ⟨x.nb, i, none⟩ u).heap[k]? = w.heap[k]? := fun k hk => Below.heap_setCell w ⟨x.nb, i, none⟩ _ k hk
  refine h.left2 (fun k hk => hne k (hxa k hk).2) ⟨h.at_.1.write hx0 i _, fun j hj => ?_, h.right.2.2.keep (fun k hk => hne k (hxr k hk).2)⟩ (fun _ => rfl)
  rw [h.at_.1.cell_write i hi, if_neg (fun e => by rw [e, hx] at hj; cases hj)]
  exact h.at_.2 j hj

/-- The last one of a chain. -/
def Top (l : List (St K V)) (i : Nat) (x : St K V) : Prop := ∃ a b, l = a ++ x :: b ∧ x.on i = true ∧ ∀ y ∈ b, y.on i = false
variable (kval vval TN TP) in
/-- A map, as it lies: where it lies itself, its head, its nodes. -/
structure Sk (TM : TypeId) (lt : K → K → Bool) (w : World) (c : Nat) (H : St K V) (es : List (St K V)) : Prop where
  map : ∃ s : Int, w.heap[c]? = some (.cells #[(Value.pointer (some ⟨H.b, 0, none⟩)), .int .i64 es.length, .int .u64 s] TM (0, 0))
  ch : Ch kval vval TN TP w (H :: es)
  nodup : (c :: blks (H :: es)).Nodup
  full : ∀ x ∈ H :: es, 1 ≤ x.len ∧ x.len ≤ 12 ∧ ∀ i, x.on i = decide (i < x.len)
  top : H.len = 12
  sorted : es.Pairwise (fun x y => lt x.key y.key = true)
theorem Sk.keep {TM : TypeId} {lt : K → K → Bool} {c : Nat} {H : St K V} {es : List (St K V)} (h : Sk kval vval TN TP TM lt w c H es) (hb : ∀ k, k = c ∨ k ∈ blks (H :: es) → w'.heap[k]? = w.heap[k]?) : Sk kval vval TN TP TM lt w' c H es :=
  ⟨by obtain ⟨s, hs⟩ := h.map; exact ⟨s, (hb c (.inl rfl)).trans hs⟩, h.ch.keep (fun k hk => hb k (.inr hk)), h.nodup, h.full, h.top, h.sorted⟩
theorem Sk.lt {TM : TypeId} {lt : K → K → Bool} {c : Nat} {H : St K V} {es : List (St K V)} (h : Sk kval vval TN TP TM lt w c H es) : ∀ k, k = c ∨ k ∈ blks (H :: es) → k < w.heap.size := by
  rintro k (rfl | hk)
  · obtain ⟨s, hs⟩ := h.map; exact lt_of_block hs
  · exact h.ch.lt k hk
end
end Go.Proofs.Ytddlhkkkngfgiaa
