/-
  Texts of the claim, joined: PcP, PcW, Pc2W, Pc3W, Pc4W, Pc5W, Pc6W, TabBkP, WrapT, WrapN.
-/
import Derived.Test.YtdbfaknpfepnfaaGreatDoorTabCK8
import Derived.Test.YtdbfaknpfepnfaaGreatDoorTabCK3
import Derived.DeepKeys4
import Derived.Deep.RegionWith
import Derived.Test.YtdbfaknpfepnfaaGreatDoorTabCK7
import Derived.Test.YtdbfaknpfepnfaaGreatDoorRows
import Derived.Test.YtdbfaknpfepnfaaGreatDoorTabCK5
import Derived.ProofKit
import Derived.OpenShut
import Derived.Test.YtdbfaknpfepnfaaGreatDoorTabCK1
import Derived.Lib.LaidTab

/-
  A cache whose keys are places, and whose values are pointers: plain.
-/
namespace Go.Proofs.YtdbfaknpfepnfaaGreatDoor
open Go.RowKit Go.Maps
attribute [local instance] Classical.propDecidable
namespace Pc

/-- A key: two numbers. -/
structure Kp where
  f : Int
  a : Int
  hf : (Lit.int .i64 f).wf = true
  ha : (Lit.int .i64 a).wf = true
/-- Entries, as they lie. -/
def NodesAt (w : World) (T : TypeId) (S : List Nat) (kv : Nat → Kp) (vv : Nat → Option Addr) (nx pv : Nat → Nat) : Prop :=
  ∀ b ∈ S, w.heap[b]? = some (.cells #[.int .i64 (kv b).f, .int .i64 (kv b).a, .pointer (vv b), .pointer (some ⟨pv b, 0, none⟩), .pointer (some ⟨nx b, 0, none⟩)] T (0, 0))
section
variable {w w' : World} {T : TypeId} {S : List Nat} {kv : Nat → Kp} {vv : Nat → Option Addr} {nx pv : Nat → Nat}
set_option maxRecDepth 100000 in
theorem NodesAt.c0 (h : NodesAt w T S kv vv nx pv) {b : Nat} (hb : b ∈ S) : w.cell? ⟨b, 0, none⟩ = some (.int .i64 (kv b).f) := cell_of (h b hb) rfl
set_option maxRecDepth 100000 in
theorem NodesAt.c1 (h : NodesAt w T S kv vv nx pv) {b : Nat} (hb : b ∈ S) : w.cell? ⟨b, 2, none⟩ = some (.pointer (vv b)) := cell_of (h b hb) rfl
set_option maxRecDepth 100000 in
theorem NodesAt.c2 (h : NodesAt w T S kv vv nx pv) {b : Nat} (hb : b ∈ S) : w.cell? ⟨b, 3, none⟩ = some (.pointer (some ⟨pv b, 0, none⟩)) := cell_of (h b hb) rfl
set_option maxRecDepth 100000 in
theorem NodesAt.c3 (h : NodesAt w T S kv vv nx pv) {b : Nat} (hb : b ∈ S) : w.cell? ⟨b, 4, none⟩ = some (.pointer (some ⟨nx b, 0, none⟩)) := cell_of (h b hb) rfl
set_option maxRecDepth 100000 in
theorem NodesAt.free (h : NodesAt w T S kv vv nx pv) {b : Nat} (hb : b ∈ S) (o : Nat) : w.frozen? ⟨b, o, none⟩ = false := by simp [World.frozen?, h b hb]
set_option maxRecDepth 100000 in
theorem NodesAt.lt (h : NodesAt w T S kv vv nx pv) {b : Nat} (hb : b ∈ S) : b < w.heap.size := lt_of_block (h b hb)
set_option maxRecDepth 100000 in
theorem NodesAt.keep {R : Nat → Prop} (h : NodesAt w T S kv vv nx pv) (hf : Fr R w w') (hR : ∀ b ∈ S, ¬ R b) : NodesAt w' T S kv vv nx pv :=
  fun b hb => (hf.block b (h.lt hb) (hR b hb)).trans (h b hb)
set_option maxRecDepth 100000 in
theorem NodesAt.drew (h : NodesAt w T S kv vv nx pv) : NodesAt w.drew T S kv vv nx pv := h
set_option maxRecDepth 100000 in
theorem NodesAt.drewN (h : NodesAt w T S kv vv nx pv) (n : Nat) : NodesAt (w.drewN n) T S kv vv nx pv := h
set_option maxRecDepth 100000 in
theorem NodesAt.set1 (h : NodesAt w T S kv vv nx pv) {p : Nat} (n : Option Addr) : NodesAt (w.setCell ⟨p, 2, none⟩ (.pointer n)) T S kv (upd vv p n) nx pv := by
  intro b hb
  by_cases e : b = p
  · subst e; rw [set_at _ (h b hb), upd_same]; rfl
  · rw [set_off _ (by exact e), h b hb, upd_other _ _ _ e]
set_option maxRecDepth 100000 in
theorem NodesAt.set2 (h : NodesAt w T S kv vv nx pv) {p : Nat} (n : Nat) : NodesAt (w.setCell ⟨p, 3, none⟩ (.pointer (some ⟨n, 0, none⟩))) T S kv vv nx (upd pv p n) := by
  intro b hb
  by_cases e : b = p
  · subst e; rw [set_at _ (h b hb), upd_same]; rfl
  · rw [set_off _ (by exact e), h b hb, upd_other _ _ _ e]
set_option maxRecDepth 100000 in
theorem NodesAt.set3 (h : NodesAt w T S kv vv nx pv) {p : Nat} (n : Nat) : NodesAt (w.setCell ⟨p, 4, none⟩ (.pointer (some ⟨n, 0, none⟩))) T S kv vv (upd nx p n) pv := by
  intro b hb
  by_cases e : b = p
  · subst e; rw [set_at _ (h b hb), upd_same]; rfl
  · rw [set_off _ (by exact e), h b hb, upd_other _ _ _ e]
end
/-- A list of entries: block, key, value; the eldest first. -/
abbrev Ents := List (Nat × Kp × Option Addr)
def blocks (es : Ents) : List Nat := es.map (·.1)
def keys (es : Ents) : List Kp := es.map (·.2.1)
noncomputable def lookF (klit : Kp → Lit) (es : Ents) : Lit → Option Nat := fun kl => (es.find? (fun x => decide (klit x.2.1 = kl))).map (·.1)
/-- A cache, as it lies. -/
structure CacheAt (P : Program) (TE TC KT : TypeId) (klit : Kp → Lit) (w : World) (c mb r : Nat) (most : Nat) (es : Ents) (hit miss : Int) : Prop where
  cell : w.heap[c]? = some (.cells #[.int .i64 most, .map (some mb), .pointer (some ⟨r, 0, none⟩), .int .i64 hit, .int .i64 miss] TC (0, 0))
  ring : ∃ kv vv nx pv, NodesAt w TE (r :: blocks es) kv vv nx pv ∧ Ring r (blocks es) nx pv ∧ ∀ x ∈ es, kv x.1 = x.2.1 ∧ vv x.1 = x.2.2
  map : MapAt w P KT mb (lookF klit es) es.length
  nodup : (keys es).Nodup
  cmb : c ≠ mb
  cS : c ∉ r :: blocks es
  mS : mb ∉ r :: blocks es
/-- The blocks of a cache. -/
def CS (c mb r : Nat) (es : Ents) : Nat → Prop := fun k => k = c ∨ k = mb ∨ k ∈ r :: blocks es
set_option maxRecDepth 100000 in
theorem CacheAt.keep {P : Program} {TE TC KT : TypeId} {klit : Kp → Lit} {w w' : World} {c mb r most : Nat} {hit miss : Int} {es : Ents} {R : Nat → Prop}
    (h : CacheAt P TE TC KT klit w c mb r most es hit miss) (hf : Fr R w w') (hR : ∀ k, CS c mb r es k → ¬ R k) : CacheAt P TE TC KT klit w' c mb r most es hit miss := by
  obtain ⟨kv, vv, nx, pv, h1, h2, h3⟩ := h.ring
  exact ⟨(hf.block c (lt_of_block h.cell) (hR c (.inl rfl))).trans h.cell, ⟨kv, vv, nx, pv, h1.keep hf (fun b hb => hR b (.inr (.inr hb))), h2, h3⟩, h.map.keep hf (hR mb (.inr (.inl rfl))), h.nodup, h.cmb, h.cS, h.mS⟩
set_option maxRecDepth 100000 in
theorem CacheAt.lt {P : Program} {TE TC KT : TypeId} {klit : Kp → Lit} {w : World} {c mb r most : Nat} {hit miss : Int} {es : Ents}
    (h : CacheAt P TE TC KT klit w c mb r most es hit miss) (k : Nat) (hk : CS c mb r es k) : k < w.heap.size := by
  obtain ⟨kv, vv, nx, pv, h1, _⟩ := h.ring
  rcases hk with rfl | rfl | hk
  · exact lt_of_block h.cell
  · exact h.map.lt
  · exact h1.lt hk
set_option maxRecDepth 100000 in
/-- An entry that is found. -/
theorem found_split {klit : Kp → Lit} (hinj : ∀ a b, klit a = klit b → a = b) {es : Ents} (hnd : (keys es).Nodup) {k : Kp} {b : Nat} (h : lookF klit es (klit k) = some b) :
    ∃ l1 l2 v, es = l1 ++ (b, k, v) :: l2 ∧ ∀ x ∈ l1 ++ l2, x.2.1 ≠ k := by
  unfold lookF at h
  cases hf : es.find? (fun x => decide (klit x.2.1 = klit k)) with
  | none => rw [hf] at h; cases h
  | some x =>
    rw [hf] at h
    simp only [Option.map_some, Option.some.injEq] at h
    obtain ⟨hx, l1, l2, rfl, h1⟩ := List.find?_eq_some_iff_append.1 hf
    have hxk := hinj _ _ (of_decide_eq_true hx)
    obtain ⟨b', k', v⟩ := x
    dsimp only at h hxk
    subst h hxk
    refine ⟨l1, l2, v, rfl, fun y hy => ?_⟩
    unfold keys at hnd
    rw [List.map_append, List.map_cons, List.nodup_append] at hnd
    rcases List.mem_append.1 hy with hy | hy
    · exact hnd.2.2 _ (List.mem_map_of_mem (f := fun x : Nat × Kp × Option Addr => x.2.1) hy) k' (by simp)
    · intro e
      exact (List.nodup_cons.1 hnd.2.1).1 (by have := List.mem_map_of_mem (f := fun x : Nat × Kp × Option Addr => x.2.1) hy; rw [e] at this; exact this)
set_option maxRecDepth 100000 in
theorem lost {klit : Kp → Lit} {es : Ents} {k : Kp} (h : lookF klit es (klit k) = none) : ∀ x ∈ es, x.2.1 ≠ k := by
  unfold lookF at h
  rw [Option.map_eq_none_iff, List.find?_eq_none] at h
  intro x hx e
  exact h x hx (by simp [e])
set_option maxRecDepth 100000 in
theorem lookF_of {klit : Kp → Lit} (hinj : ∀ a b, klit a = klit b → a = b) (es : Ents) (l1 l2 : Ents) (b : Nat) (k : Kp) (v v' : Option Addr) (he : es = l1 ++ (b, k, v) :: l2) (h : ∀ x ∈ l1 ++ l2, x.2.1 ≠ k) (kl : Lit) :
    lookF klit (l1 ++ l2 ++ [(b, k, v')]) kl = lookF klit es kl ∧ lookF klit (l1 ++ l2) kl = if kl = klit k then none else lookF klit es kl := by
  subst he
  unfold lookF
  by_cases e : kl = klit k
  · subst e
    have h1 : ∀ l : Ents, (∀ x ∈ l, x.2.1 ≠ k) → l.find? (fun x => decide (klit x.2.1 = klit k)) = none := fun l hl => List.find?_eq_none.2 (fun x hx => by simpa using fun e => hl x hx (hinj _ _ e))
    have a1 := h1 l1 (fun x hx => h x (by simp [hx]))
    have a2 := h1 (l1 ++ l2) h
    refine ⟨?_, ?_⟩
    · rw [List.find?_append, a2, List.find?_append, a1]; simp
    · rw [a2]; simp
  · have h1 : decide (klit k = kl) = false := by simpa using fun x => e x.symm
    refine ⟨?_, ?_⟩
    · simp only [List.find?_append, List.find?_cons, h1, List.find?_nil, Option.or_none]
    · rw [if_neg e]
      simp only [List.find?_append, List.find?_cons, h1]
set_option maxRecDepth 100000 in
theorem blocks_append (a b : Ents) : blocks (a ++ b) = blocks a ++ blocks b := by simp [blocks]
set_option maxRecDepth 100000 in
theorem NodesAt.sub {w : World} {T : TypeId} {S S' : List Nat} {kv : Nat → Kp} {vv : Nat → Option Addr} {nx pv : Nat → Nat} (h : NodesAt w T S kv vv nx pv) (hs : ∀ b ∈ S', b ∈ S) : NodesAt w T S' kv vv nx pv := fun b hb => h b (hs b hb)
/-- A cache out of whose ring an entry was taken, or into which a new one has yet to come. -/
structure Gone (P : Program) (TE TC KT : TypeId) (w : World) (c mb r : Nat) (most : Nat) (es : Ents) (hit miss : Int) (b : Nat) (k : Kp) (v : Option Addr) (f : Lit → Option Nat) (n : Nat) : Prop where
  cell : w.heap[c]? = some (.cells #[.int .i64 most, .map (some mb), .pointer (some ⟨r, 0, none⟩), .int .i64 hit, .int .i64 miss] TC (0, 0))
  ring : ∃ kv vv nx pv, NodesAt w TE (r :: blocks es) kv vv nx pv ∧ Ring r (blocks es) nx pv ∧ ∀ x ∈ es, kv x.1 = x.2.1 ∧ vv x.1 = x.2.2
  ent : ∃ x2 x3, w.heap[b]? = some (.cells #[.int .i64 k.f, .int .i64 k.a, .pointer v, x2, x3] TE (0, 0))
  map : MapAt w P KT mb f n
  nodup : (keys es).Nodup
  hk : ∀ x ∈ es, x.2.1 ≠ k
  cmb : c ≠ mb
  cS : c ∉ b :: r :: blocks es
  mS : mb ∉ b :: r :: blocks es
  bS : b ∉ r :: blocks es
section
variable {P : Program} {TE TC KT : TypeId} {klit : Kp → Lit} {w w' : World} {c mb r most b n : Nat} {hit miss : Int} {es : Ents} {k : Kp} {v : Option Addr} {f : Lit → Option Nat}
set_option maxRecDepth 100000 in
theorem Gone.keep {R : Nat → Prop} (h : Gone P TE TC KT w c mb r most es hit miss b k v f n) (hf : Fr R w w') (hR : ∀ x, CS c mb r es x ∨ x = b → ¬ R x) : Gone P TE TC KT w' c mb r most es hit miss b k v f n := by
  obtain ⟨kv, vv, nx, pv, h1, h2, h3⟩ := h.ring
  obtain ⟨x2, x3, h4⟩ := h.ent
  exact ⟨(hf.block c (lt_of_block h.cell) (hR c (.inl (.inl rfl)))).trans h.cell, ⟨kv, vv, nx, pv, h1.keep hf (fun x hx => hR x (.inl (.inr (.inr hx)))), h2, h3⟩, ⟨x2, x3, (hf.block b (lt_of_block h4) (hR b (.inr rfl))).trans h4⟩,
    h.map.keep hf (hR mb (.inl (.inr (.inl rfl)))), h.nodup, h.hk, h.cmb, h.cS, h.mS, h.bS⟩
set_option maxRecDepth 100000 in
theorem Gone.val (h : Gone P TE TC KT w c mb r most es hit miss b k v f n) (v' : Option Addr) : Gone P TE TC KT (w.setCell ⟨b, 2, none⟩ (.pointer v')) c mb r most es hit miss b k v' f n := by
  obtain ⟨kv, vv, nx, pv, h1, h2, h3⟩ := h.ring
  obtain ⟨x2, x3, h4⟩ := h.ent
  have hcb : c ≠ b := fun e => h.cS (by simp [e])
  have hmb : mb ≠ b := fun e => h.mS (by simp [e])
  refine ⟨by rw [set_off _ (by exact hcb)]; exact h.cell, ⟨kv, vv, nx, pv, fun x hx => by rw [set_off _ (by exact fun e => h.bS ((show x = b from e) ▸ hx))]; exact h1 x hx, h2, h3⟩, ⟨x2, x3, by rw [set_at _ h4]; rfl⟩,
    h.map.keep (fr_set w ⟨b, 2, none⟩ _) hmb, h.nodup, h.hk, h.cmb, h.cS, h.mS, h.bS⟩
set_option maxRecDepth 100000 in
/-- The entry has come in as the youngest. -/
theorem Gone.ends {kv : Nat → Kp} {vv : Nat → Option Addr} {nx pv : Nat → Nat} (h : Gone P TE TC KT w c mb r most es hit miss b k v f n) (hf : Fr (· ∈ b :: r :: blocks es) w w') (h3 : ∀ x ∈ es, kv x.1 = x.2.1 ∧ vv x.1 = x.2.2)
    (hN : NodesAt w' TE (b :: r :: blocks es) (upd kv b k) (upd vv b v) nx pv) (hR : Ring r (blocks es ++ [b]) nx pv) (hl : f = lookF klit (es ++ [(b, k, v)])) (hn : n = es.length + 1) :
    CacheAt P TE TC KT klit w' c mb r most (es ++ [(b, k, v)]) hit miss := by
  have hbl : blocks (es ++ [(b, k, v)]) = blocks es ++ [b] := by simp [blocks]
  refine ⟨(hf.block c (lt_of_block h.cell) h.cS).trans h.cell, ⟨_, _, nx, pv, hN.sub ?_, by rw [hbl]; exact hR, fun x hx => ?_⟩, ?_, ?_, h.cmb, ?_, ?_⟩
  · rw [hbl]; intro x hx; simp at hx ⊢; rcases hx with h | h | h <;> simp [h]
  · rcases List.mem_append.1 hx with hx | hx
    · have hne : x.1 ≠ b := fun e => h.bS (by rw [← e]; exact List.mem_cons_of_mem _ (List.mem_map_of_mem (f := fun x : Nat × Kp × Option Addr => x.1) hx))
      rw [upd_other _ _ _ hne, upd_other _ _ _ hne]; exact h3 x hx
    · simp at hx; subst hx; exact ⟨upd_same _ _ _, upd_same _ _ _⟩
  · have := h.map.keep hf h.mS
    rw [hl, hn] at this
    simpa using this
  · unfold keys
    rw [List.map_append, List.nodup_append]
    refine ⟨h.nodup, by simp, fun a ha x hx => ?_⟩
    simp at hx; subst hx
    obtain ⟨y, hy, rfl⟩ := List.mem_map.1 ha
    exact h.hk y hy
  · rw [hbl]; intro x; exact h.cS (by simp at x ⊢; rcases x with x | x | x <;> simp [x])
  · rw [hbl]; intro x; exact h.mS (by simp at x ⊢; rcases x with x | x | x <;> simp [x])
set_option maxRecDepth 100000 in
theorem CacheAt.hits (h : CacheAt P TE TC KT klit w c mb r most es hit miss) (hit' : Int) : CacheAt P TE TC KT klit (w.setCell ⟨c, 3, none⟩ (.int .i64 hit')) c mb r most es hit' miss := by
  obtain ⟨kv, vv, nx, pv, h1, h2, h3⟩ := h.ring
  exact ⟨by rw [set_at _ h.cell]; rfl, ⟨kv, vv, nx, pv, fun x hx => by rw [set_off _ (by exact fun e => h.cS ((show x = c from e) ▸ hx))]; exact h1 x hx, h2, h3⟩, h.map.keep (fr_set w ⟨c, _, none⟩ _) h.cmb.symm, h.nodup, h.cmb, h.cS, h.mS⟩
set_option maxRecDepth 100000 in
theorem CacheAt.misses (h : CacheAt P TE TC KT klit w c mb r most es hit miss) (miss' : Int) : CacheAt P TE TC KT klit (w.setCell ⟨c, 4, none⟩ (.int .i64 miss')) c mb r most es hit miss' := by
  obtain ⟨kv, vv, nx, pv, h1, h2, h3⟩ := h.ring
  exact ⟨by rw [set_at _ h.cell]; rfl, ⟨kv, vv, nx, pv, fun x hx => by rw [set_off _ (by exact fun e => h.cS ((show x = c from e) ▸ hx))]; exact h1 x hx, h2, h3⟩, h.map.keep (fr_set w ⟨c, _, none⟩ _) h.cmb.symm, h.nodup, h.cmb, h.cS, h.mS⟩
/-- A cache that the call itself has made. -/
structure OwnC (P : Program) (TE TC KT : TypeId) (klit : Kp → Lit) (w0 w : World) (c mb r : Nat) (most : Nat) (es : Ents) (hit miss : Int) : Prop where
  at_ : CacheAt P TE TC KT klit w c mb r most es hit miss
  bel : Below w0.heap.size w0 w
  base : ∀ k, CS c mb r es k → w0.heap.size ≤ k
set_option maxRecDepth 100000 in
theorem OwnC.step {w0 : World} {es' : Ents} {hit' miss' : Int} (h : OwnC P TE TC KT klit w0 w c mb r most es hit miss) (h' : CacheAt P TE TC KT klit w' c mb r most es' hit' miss') (f : Fr (CS c mb r es) w w') (hs : ∀ k ∈ blocks es', k ∈ blocks es ∨ w.heap.size ≤ k) :
    OwnC P TE TC KT klit w0 w' c mb r most es' hit' miss' := by
  refine ⟨h', h.bel.trans (f.below h.bel.size (fun k _ hk => h.base k hk)), fun k hk => ?_⟩
  rcases hk with hk | hk | hk
  · exact h.base k (.inl hk)
  · exact h.base k (.inr (.inl hk))
  · rcases List.mem_cons.1 hk with hk | hk
    · exact h.base k (.inr (.inr (by simp [hk])))
    · rcases hs k hk with hk | hk
      · exact h.base k (.inr (.inr (List.mem_cons_of_mem _ hk)))
      · exact Nat.le_trans h.bel.size hk
set_option maxRecDepth 100000 in
theorem OwnC.keep {w0 : World} {R : Nat → Prop} (h : OwnC P TE TC KT klit w0 w c mb r most es hit miss) (f : Fr R w w') (hR : ∀ k, k < w.heap.size → R k → False) : OwnC P TE TC KT klit w0 w' c mb r most es hit miss :=
  ⟨h.at_.keep f (fun k hk hr => hR k (h.at_.lt k hk) hr), h.bel.trans (f.below h.bel.size (fun k hk hr => (hR k hk hr).elim)), h.base⟩
set_option maxRecDepth 100000 in
theorem lookF_no {hinj : ∀ a b, klit a = klit b → a = b} (h : ∀ x ∈ es, x.2.1 ≠ k) : lookF klit es (klit k) = none := by
  unfold lookF
  rw [List.find?_eq_none.2 (fun x hx => by simpa using fun e => h x hx (hinj _ _ e))]; rfl
set_option maxRecDepth 100000 in
theorem lookF_new (h : lookF klit es (klit k) = none) (kl : Lit) : lookF klit (es ++ [(b, k, v)]) kl = if kl = klit k then some b else lookF klit es kl := by
  unfold lookF at h ⊢
  rw [List.find?_append]
  by_cases e : kl = klit k
  · subst e
    rw [if_pos rfl, Option.map_eq_none_iff.1 h]; simp
  · rw [if_neg e]
    have h1 : decide (klit k = kl) = false := by simpa using fun x => e x.symm
    simp only [List.find?_cons, h1, List.find?_nil, Option.or_none]
end
end Pc
end Go.Proofs.YtdbfaknpfepnfaaGreatDoor

/-
  The walks of a cache whose keys are places: what is taken out, what comes in, what is dropped.
-/
namespace Go.Proofs.YtdbfaknpfepnfaaGreatDoor
open Go.RowKit Go.Maps
namespace Pc

set_option maxRecDepth 100000 in
theorem laidOutP : laidOutB Tryz.prog = true := by kernel_rfl
set_option maxRecDepth 100000 in
theorem rowP : (141 : TypeId) < Tryz.prog.types.size := of_decide_eq_true (by kernel_rfl)
set_option maxRecDepth 100000 in
theorem wideP : (match Tryz.prog.underlying 141 with | some (.array _ _) | some (.struct _) => true | _ => false) = true := by kernel_rfl
set_option maxRecDepth 100000 in
theorem lawP : WideMaps.KeyLaw Tryz.prog 141 := deep_law_laid laidOutP (m := 2) (by omega) rowP (by kernel_rfl) wideP
set_option maxRecDepth 100000 in
theorem keyedP : Keyed Tryz.prog 141 := Keyed.of_law lawP
def kval (k : Kp) : Value := .agg #[.int .i64 k.f, .int .i64 k.a]
set_option maxRecDepth 100000 in
theorem cellsP : Tryz.prog.cellsOf 141 = 2 := by kernel_rfl
set_option maxRecDepth 100000 in
theorem cellsInt : Tryz.prog.cellsOf 3 = 1 := by kernel_rfl
set_option maxRecDepth 100000 in
theorem key_some (k : Kp) : ∃ l, keyOf Tryz.prog 141 (kval k) = some l := by
  have hk : Tryz.prog.keyType 141 = true := by kernel_rfl
  obtain ⟨m, hm⟩ : ∃ m, Tryz.prog.types.size + 1 = m + 2 := ⟨Tryz.prog.types.size - 1, by
    have h0 : 1 ≤ Tryz.prog.types.size := Nat.lt_of_le_of_lt (Nat.zero_le 141) rowP
    generalize Tryz.prog.types.size = z at *
    omega⟩
  unfold keyOf kval
  rw [hm]
  have h1 := k.hf
  have h2 := k.ha
  simp [Tryz.underlying141, Tryz.underlying3, Value.formed, cellsP, cellsInt, hk, Value.cells, Program.keyLits, h1, h2]
noncomputable def klit (k : Kp) : Lit := Classical.choose (key_some k)
set_option maxRecDepth 100000 in
theorem key_of (k : Kp) : keyOf Tryz.prog 141 (kval k) = some (klit k) := Classical.choose_spec (key_some k)
set_option maxRecDepth 100000 in
theorem kl_inj (a b : Kp) (h : klit a = klit b) : a = b := by
  have h1 := key_of a
  have h2 := key_of b
  rw [h] at h1
  have h3 := lawP.inj h1 h2
  unfold kval at h3
  injection h3 with h3
  simp only [Array.mk.injEq, List.cons.injEq, Value.int.injEq, true_and, and_true] at h3
  obtain ⟨e1, e2⟩ := h3
  cases a; cases b
  simp only at e1 e2
  subst e1 e2
  rfl
set_option maxRecDepth 100000 in
theorem zeroP (w : World) : (zeroValue 184).run Tryz.prog w = .ok (.pointer none) w := by kernel_rfl
abbrev NodesP (w : World) := NodesAt w 186
abbrev CacheK := CacheAt Tryz.prog 186 189 141 klit
abbrev GoneK := Gone Tryz.prog 186 189 141
set_option maxRecDepth 100000 in
theorem out_any (e : Nat) (S : List Nat) (kv : Nat → Kp) (vv : Nat → Option Addr) (nx pv : Nat → Nat) (w : World) (h : NodesP w S kv vv nx pv) (he : e ∈ S) (hp : pv e ∈ S) (hn : nx e ∈ S) :
    Calls Tryz.prog 162 #[.pointer (some ⟨e, 0, none⟩)] w fun x w' => x = .returned (.tuple #[]) ∧ NodesP w' S kv vv (upd nx (pv e) (nx e)) (upd pv (nx e) (pv e)) ∧ Fr (· ∈ S) w w' := by
  have c2 := h.c2 he
  have c3 := h.c3 he
  have p3 := h.c3 hp
  have n2 := h.c2 hn
  have fp := h.free hp 4
  have fn := h.free hn 3
  have HF : Hid (Fr (· ∈ S) w ((w.setCell ⟨pv e, 4, none⟩ (.pointer (some ⟨nx e, 0, none⟩))).setCell ⟨nx e, 3, none⟩ (.pointer (some ⟨pv e, 0, none⟩))).drew) := Lib.hid (((Fr.refl _ w).setCell (.inl hp) _).setCell (.inl hn) _).drew
  have HN : Hid (NodesP ((w.setCell ⟨pv e, 4, none⟩ (.pointer (some ⟨nx e, 0, none⟩))).setCell ⟨nx e, 3, none⟩ (.pointer (some ⟨pv e, 0, none⟩))).drew S kv vv (upd nx (pv e) (nx e)) (upd pv (nx e) (pv e))) := Lib.hid ((h.set3 (p := pv e) (nx e)).set2 (p := nx e) (pv e)).drew
  clear h he hp hn
  generalize pv e = p at *
  generalize nx e = n at *
  go_enter Tryz.func162, Tryz.ntmps162
  go_wp2
  go_region
  go_end0
  exact ⟨rfl, HN.out, HF.out⟩
set_option maxRecDepth 100000 in
theorem young_any (c r e : Nat) (S : List Nat) (kv : Nat → Kp) (vv : Nat → Option Addr) (nx pv : Nat → Nat) (w : World) (h : NodesP w S kv vv nx pv) (hr : r ∈ S) (hp : pv r ∈ S) (he : e ∉ S) (hcS : c ∉ S) (hce : c ≠ e)
    (hc : w.cell? ⟨c, 2, none⟩ = some (.pointer (some ⟨r, 0, none⟩))) (k : Kp) (x2 x3 : Value) (ve : Option Addr) (heb : w.heap[e]? = some (.cells #[.int .i64 k.f, .int .i64 k.a, .pointer ve, x2, x3] 186 (0, 0))) :
    Calls Tryz.prog 163 #[.pointer (some ⟨c, 0, none⟩), .pointer (some ⟨e, 0, none⟩)] w fun x w' => x = .returned (.tuple #[]) ∧ NodesP w' (e :: S) (upd kv e k) (upd vv e ve) (upd (upd nx e r) (pv r) e) (upd (upd pv e (pv r)) r e) ∧ Fr (· ∈ e :: S) w w' := by
  have r2 := h.c2 hr
  have e2 : w.cell? ⟨e, 3, none⟩ = some x2 := cell_of heb rfl
  have e3 : w.cell? ⟨e, 4, none⟩ = some x3 := cell_of heb rfl
  have f2 : w.frozen? ⟨e, 3, none⟩ = false := by simp [World.frozen?, heb]
  have f3 : w.frozen? ⟨e, 4, none⟩ = false := by simp [World.frozen?, heb]
  have HF : Hid (Fr (· ∈ e :: S) w ((w.setCell ⟨e, 3, none⟩ (.pointer (some ⟨pv r, 0, none⟩))).setCell ⟨e, 4, none⟩ (.pointer (some ⟨r, 0, none⟩))).drew) := Lib.hid (((Fr.refl _ w).setCell (.inl (by simp)) _).setCell (.inl (by simp)) _).drew
  have HN : Hid (NodesP ((w.setCell ⟨e, 3, none⟩ (.pointer (some ⟨pv r, 0, none⟩))).setCell ⟨e, 4, none⟩ (.pointer (some ⟨r, 0, none⟩))).drew (e :: S) (upd kv e k) (upd vv e ve) (upd nx e r) (upd pv e (pv r))) := Lib.hid (fun b hb => by
    show ((w.setCell ⟨e, 3, none⟩ (.pointer (some ⟨pv r, 0, none⟩))).setCell ⟨e, 4, none⟩ (.pointer (some ⟨r, 0, none⟩))).heap[b]? = _
    by_cases x : b = e
    · subst x
      rw [set_at _ (set_at _ heb)]
      simp only [upd_same]
      rfl
    · rw [set_off _ x, set_off _ x, upd_other _ _ _ x, upd_other _ _ _ x, upd_other _ _ _ x, upd_other _ _ _ x]
      rcases List.mem_cons.1 hb with hb | hb
      · exact absurd hb x
      · exact h b hb)
  have hre : r ≠ e := fun x => he (x ▸ hr)
  have hpe : pv r ≠ e := fun x => he (x ▸ hp)
  have Hhr := Lib.hid hr
  have Hhe := Lib.hid he
  have Hhp := Lib.hid hp
  have HhcS := Lib.hid hcS
  have Hhce := Lib.hid hce
  have Hhre := Lib.hid hre
  have Hhpe := Lib.hid hpe
  clear hr he hp hcS hce hre hpe
  clear h heb
  generalize pv r = p at *
  go_enter Tryz.func163, Tryz.ntmps163
  go_wp2
  go_region
  clear r2 e2 e3 f2 f3
  generalize ((w.setCell ⟨e, 3, none⟩ (.pointer (some ⟨p, 0, none⟩))).setCell ⟨e, 4, none⟩ (.pointer (some ⟨r, 0, none⟩))).drew = w1 at *
  have e2 : w1.cell? ⟨e, 3, none⟩ = some (.pointer (some ⟨p, 0, none⟩)) := by have := HN.out.c2 (b := e) (by simp); rwa [upd_same] at this
  have e3 : w1.cell? ⟨e, 4, none⟩ = some (.pointer (some ⟨r, 0, none⟩)) := by have := HN.out.c3 (b := e) (by simp); rwa [upd_same] at this
  have hpS : p ∈ e :: S := List.mem_cons_of_mem _ Hhp.out
  have hrS : r ∈ e :: S := List.mem_cons_of_mem _ Hhr.out
  have p3 := HN.out.c3 hpS
  have fp := HN.out.free hpS 4
  have r2 := HN.out.c2 hrS
  have fr := HN.out.free hrS 3
  have HF2 : Hid (Fr (· ∈ e :: S) w ((w1.setCell ⟨p, 4, none⟩ (.pointer (some ⟨e, 0, none⟩))).setCell ⟨r, 3, none⟩ (.pointer (some ⟨e, 0, none⟩))).drew) := Lib.hid ((HF.out.setCell (.inl hpS) _).setCell (.inl hrS) _).drew
  have HN2 : Hid (NodesP ((w1.setCell ⟨p, 4, none⟩ (.pointer (some ⟨e, 0, none⟩))).setCell ⟨r, 3, none⟩ (.pointer (some ⟨e, 0, none⟩))).drew (e :: S) (upd kv e k) (upd vv e ve) (upd (upd nx e r) p e) (upd (upd pv e p) r e)) := Lib.hid ((HN.out.set3 (p := p) e).set2 (p := r) e).drew
  clear hc hpS hrS
  go_wp2
  go_region
  go_end0
  exact ⟨rfl, HN2.out, HF2.out⟩
end Pc
end Go.Proofs.YtdbfaknpfepnfaaGreatDoor

/-
  The walks of a cache whose keys are places: Get.
-/
namespace Go.Proofs.YtdbfaknpfepnfaaGreatDoor
open Go.RowKit Go.Maps
namespace Pc

set_option maxRecDepth 100000 in
theorem outP (c mb r most b : Nat) (hit miss : Int) (l1 l2 : Ents) (k : Kp) (v : Option Addr) (w : World) (h : CacheK w c mb r most (l1 ++ (b, k, v) :: l2) hit miss) (hk : ∀ x ∈ l1 ++ l2, x.2.1 ≠ k) :
    Calls Tryz.prog 162 #[.pointer (some ⟨b, 0, none⟩)] w fun e w' => e = .returned (.tuple #[]) ∧
      GoneK w' c mb r most (l1 ++ l2) hit miss b k v (lookF klit (l1 ++ (b, k, v) :: l2)) ((l1 ++ l2).length + 1) ∧ Fr (CS c mb r (l1 ++ (b, k, v) :: l2)) w w' := by
  obtain ⟨kv, vv, nx, pv, h1, h2, h3⟩ := h.ring
  have hbl : blocks (l1 ++ (b, k, v) :: l2) = blocks l1 ++ b :: blocks l2 := by simp [blocks]
  have hcS := h.cS
  have hmS := h.mS
  rw [hbl] at h1 h2 hcS hmS
  obtain ⟨hp, hn, hring⟩ := h2.out
  have hb : b ∈ r :: (blocks l1 ++ b :: blocks l2) := by simp
  have hperm : ∀ x, x ∈ b :: r :: blocks (l1 ++ l2) ↔ x ∈ r :: (blocks l1 ++ b :: blocks l2) := by
    intro x; rw [blocks_append]; simp only [List.mem_cons, List.mem_append]
    constructor
    · rintro (h | h | h | h) <;> simp [h]
    · rintro (h | h | h | h) <;> simp [h]
  refine (out_any b _ kv vv nx pv w h1 hb hp hn).mono ?_
  rintro e w' ⟨rfl, n1, f1⟩
  have hkv := h3 (b, k, v) (by simp)
  dsimp only at hkv
  have hnd := h.nodup
  unfold keys at hnd
  rw [List.map_append, List.map_cons] at hnd
  have hbn : b ∉ r :: (blocks l1 ++ blocks l2) := by
    have := h2.1
    rw [← List.cons_append, List.nodup_append] at this
    intro hx
    rcases List.mem_cons.1 hx with hx | hx
    · exact this.2.2 b (by simp [hx]) b (by simp) rfl
    · rcases List.mem_append.1 hx with hx | hx
      · exact this.2.2 b (by simp [hx]) b (by simp) rfl
      · exact (List.nodup_cons.1 this.2.1).1 hx
  refine ⟨rfl, ⟨(f1.block c (lt_of_block h.cell) hcS).trans h.cell, ⟨kv, vv, _, _, n1.sub (fun x hx => (hperm x).1 (List.mem_cons_of_mem _ hx)), by rw [blocks_append]; exact hring, fun x hx => h3 x ?_⟩, ⟨_, _, by rw [n1 b hb, hkv.1, hkv.2]⟩, ?_, ?_, hk, h.cmb, ?_, ?_, by rw [blocks_append]; exact hbn⟩, f1.mono (fun x _ hx => .inr (.inr (by rw [hbl]; exact hx)))⟩
  · simp at hx ⊢; rcases hx with h | h <;> simp [h]
  · have := h.map.keep f1 hmS
    rwa [show (l1 ++ (b, k, v) :: l2).length = (l1 ++ l2).length + 1 by simp; omega] at this
  · unfold keys
    rw [List.map_append]
    exact hnd.sublist ((List.sublist_cons_self _ _).append_left _)
  · exact fun hx => hcS ((hperm c).1 hx)
  · exact fun hx => hmS ((hperm mb).1 hx)
set_option maxRecDepth 100000 in
theorem youngP (c mb r most b n : Nat) (hit miss : Int) (es : Ents) (k : Kp) (v : Option Addr) (f : Lit → Option Nat) (w : World) (h : GoneK w c mb r most es hit miss b k v f n)
    (hf : f = lookF klit (es ++ [(b, k, v)])) (hn : n = es.length + 1) :
    Calls Tryz.prog 163 #[.pointer (some ⟨c, 0, none⟩), .pointer (some ⟨b, 0, none⟩)] w fun e w' => e = .returned (.tuple #[]) ∧ CacheK w' c mb r most (es ++ [(b, k, v)]) hit miss ∧ Fr (fun x => CS c mb r es x ∨ x = b) w w' := by
  obtain ⟨kv, vv, nx, pv, h1, h2, h3⟩ := h.ring
  obtain ⟨x2, x3, h4⟩ := h.ent
  obtain ⟨hp, hring⟩ := h2.young h.bS
  refine (young_any c r b _ kv vv nx pv w h1 (by simp) hp h.bS (fun hx => h.cS (List.mem_cons_of_mem _ hx)) (fun e => h.cS (by simp [e])) (cell_of h.cell rfl) k _ _ _ h4).mono ?_
  rintro e w' ⟨rfl, n1, f1⟩
  refine ⟨rfl, h.ends f1 h3 n1 hring hf hn, f1.mono (fun x _ hx => ?_)⟩
  rcases List.mem_cons.1 hx with hx | hx
  · exact .inr hx
  · exact .inl (.inr (.inr hx))
set_option maxRecDepth 100000 in
/-- An entry's value. -/
theorem CacheAt.lastVal {P : Program} {TE TC KT : TypeId} {kl : Kp → Lit} {w : World} {c mb r most b : Nat} {hit miss : Int} {es : Ents} {k : Kp} {v : Option Addr} (h : CacheAt P TE TC KT kl w c mb r most es hit miss) (hx : (b, k, v) ∈ es) :
    w.cell? ⟨b, 2, none⟩ = some (.pointer v) ∧ w.cell? ⟨b, 0, none⟩ = some (.int .i64 k.f) ∧ w.cell? ⟨b, 1, none⟩ = some (.int .i64 k.a) := by
  obtain ⟨kv, vv, nx, pv, h1, _, h3⟩ := h.ring
  have hb : b ∈ r :: blocks es := List.mem_cons_of_mem _ (List.mem_map_of_mem (f := fun x : Nat × Kp × Option Addr => x.1) hx)
  have h5 := h3 _ hx
  dsimp only at h5
  have h6 := h1 b hb
  rw [h5.1, h5.2] at h6
  exact ⟨cell_of h6 rfl, cell_of h6 rfl, cell_of h6 rfl⟩
set_option maxRecDepth 100000 in
theorem lookP_yes {l1 l2 : Ents} {b : Nat} {k : Kp} {v : Option Addr} (hk : ∀ x ∈ l1 ++ l2, x.2.1 ≠ k) : lookF klit (l1 ++ (b, k, v) :: l2) (klit k) = some b := by
  rw [← (lookF_of kl_inj _ l1 l2 b k v v rfl hk _).1]
  unfold lookF
  rw [List.find?_append, List.find?_eq_none.2 (fun x hx => by simpa using fun e => hk x hx (kl_inj _ _ e))]
  simp
def spill (k : Kp) : Obj := .cells #[.int .i64 k.f, .int .i64 k.a] 141
/-- What stands where a key was laid. -/
structure SpK (w W : World) (k : Kp) (pk : Nat) : Prop where
  c0 : W.cell? ⟨pk, 0, none⟩ = some (.int .i64 k.f)
  c1 : W.cell? ⟨pk, 1, none⟩ = some (.int .i64 k.a)
set_option maxRecDepth 100000 in
theorem spK_new (w : World) (k : Kp) : (w.alloc (spill k)).heap[w.heap.size]? = some (.cells #[.int .i64 k.f, .int .i64 k.a] 141 (0, 0)) := by
  show (w.heap.push _)[w.heap.size]? = _
  simp [spill]
/-- What Get leaves. -/
def GetQ (c mb r most : Nat) (es : Ents) (k : Kp) (w : World) (e : Ending) (w' : World) : Prop :=
  ∃ es' hit' miss', CacheK w' c mb r most es' hit' miss' ∧ Fr (CS c mb r es) w w' ∧ (∀ x ∈ es', x ∈ es) ∧ es'.length = es.length ∧
    (e = .returned (.tuple #[.pointer none, .bool false]) ∨ ∃ b v, (b, k, v) ∈ es ∧ e = .returned (.tuple #[.pointer v, .bool true]))
set_option maxRecDepth 100000 in
set_option maxHeartbeats 2000000 in
theorem getP_yes (c mb r most b : Nat) (hit miss : Int) (l1 l2 : Ents) (k : Kp) (v : Option Addr) (w : World) (h : CacheK w c mb r most (l1 ++ (b, k, v) :: l2) hit miss) (hk : ∀ x ∈ l1 ++ l2, x.2.1 ≠ k) :
    Calls Tryz.prog 135 #[.pointer (some ⟨c, 0, none⟩), .agg #[.int .i64 k.f, .int .i64 k.a]] w (GetQ c mb r most (l1 ++ (b, k, v) :: l2) k w) := by
  have hfa : Fr (fun _ => False) w (w.alloc (spill k)) := (Fr.refl _ w).alloc _
  have h1 := h.keep hfa (fun _ _ h => h)
  have hsp := spK_new w k
  unfold spill at hfa h1 hsp
  have HFA := Lib.hid hfa
  generalize hw1 : w.alloc (.cells #[.int .i64 k.f, .int .i64 k.a] 141) = w1 at *
  have h1n : ∀ n, CacheK (w1.drewN n) c mb r most (l1 ++ (b, k, v) :: l2) hit miss := fun n => h1.keep (R := fun _ => False) ((Fr.refl _ w1).drewN n) (fun _ _ h => h)
  have look : ∀ n, (Instr.lookup 187 (.map (some mb)) (.agg #[.int .i64 k.f, .int .i64 k.a]) true).run Tryz.prog (w1.drewN n) = .ok (.tuple #[.pointer (some ⟨b, 0, none⟩), .bool true]) (w1.drewN n) := fun n => by
    have := (h1n n).map.look keyedP Tryz.underlying187 (zeroP _) (key_of k)
    rw [lookP_yes hk] at this
    exact this
  have c1 : w1.cell? ⟨c, 1, none⟩ = some (.map (some mb)) := cell_of h1.cell rfl
  have c3 : w1.cell? ⟨c, 3, none⟩ = some (.int .i64 hit) := cell_of h1.cell rfl
  have f3 : w1.frozen? ⟨c, 3, none⟩ = false := by simp [World.frozen?, h1.cell]
  have z0 : w1.cell? ⟨w.heap.size, 0, none⟩ = some (.int .i64 k.f) := cell_of hsp rfl
  have z1 : w1.cell? ⟨w.heap.size, 1, none⟩ = some (.int .i64 k.a) := cell_of hsp rfl
  obtain ⟨hit', hh⟩ : ∃ hit', IntKind.i64.wrap (hit + 1) = hit' := ⟨_, rfl⟩
  have hfr : ∀ n, Fr (CS c mb r (l1 ++ (b, k, v) :: l2)) w1 ((w1.drewN n).setCell ⟨c, 3, none⟩ (.int .i64 hit')) := fun n => ((Fr.refl _ w1).drewN n).setCell (.inl (.inl rfl)) _
  have HO := Lib.hid fun n => outP c mb r most b hit' miss l1 l2 k v _ ((h1n n).hits hit') hk
  have HLF := Lib.hid (funext (fun kl => (lookF_of kl_inj (l1 ++ (b, k, v) :: l2) l1 l2 b k v v rfl hk kl).1))
  have HFR := Lib.hid hfr
  clear h h1 h1n hfr hk hsp hfa
  go_enter Tryz.func135, Tryz.ntmps135
  go_upto_region 4 with (fail)
  clear hw1
  go_wp2_with fail
  go_quiet (fail)
  go_wp2_with fail
  (with_reducible refine (HO.out _).mono ?_)
  rintro e w2 ⟨rfl, g1, f1⟩
  have HG1 := Lib.hid g1
  have HF1 := Lib.hid ((HFR.out _).trans f1 (fun _ _ h => h))
  clear g1 f1 HFR HO look c1 c3 f3 z0 z1
  go_wp2_with fail
  (with_reducible refine (youngP c mb r most b _ hit' miss _ k v _ _ HG1.out HLF.out.symm rfl).mono ?_)
  rintro e w3 ⟨rfl, h3, f2⟩
  have v1 := (h3.lastVal (b := b) (k := k) (v := v) (by simp)).1
  have H3 := Lib.hid h3
  have HF2 := Lib.hid f2
  clear h3 f2
  go_wp2_with fail
  go_ret2
  refine ⟨_, _, _, H3.out, (HFA.out.mono (fun _ _ h => h.elim)).trans (HF1.out.trans HF2.out (fun x _ hx => ?_)) (fun _ _ h => h), fun x hx => ?_, by simp, .inr ⟨b, v, by simp, rfl⟩⟩
  · unfold CS at hx ⊢
    simp only [blocks, List.map_append, List.map_cons, List.mem_cons, List.mem_append] at hx ⊢
    rcases hx with (h | h | h | h | h) | h <;> simp [h]
  · simp at hx ⊢
    rcases hx with h | h | h <;> simp [h]
set_option maxRecDepth 100000 in
set_option maxHeartbeats 2000000 in
theorem getP_no (c mb r most : Nat) (hit miss : Int) (es : Ents) (k : Kp) (w : World) (h : CacheK w c mb r most es hit miss) (hk : ∀ x ∈ es, x.2.1 ≠ k) :
    Calls Tryz.prog 135 #[.pointer (some ⟨c, 0, none⟩), .agg #[.int .i64 k.f, .int .i64 k.a]] w (GetQ c mb r most es k w) := by
  have hfa : Fr (fun _ => False) w (w.alloc (spill k)) := (Fr.refl _ w).alloc _
  have h1 := h.keep hfa (fun _ _ h => h)
  have hsp := spK_new w k
  unfold spill at hfa h1 hsp
  have HFA := Lib.hid hfa
  generalize hw1 : w.alloc (.cells #[.int .i64 k.f, .int .i64 k.a] 141) = w1 at *
  have h1n : ∀ n, CacheK (w1.drewN n) c mb r most es hit miss := fun n => h1.keep (R := fun _ => False) ((Fr.refl _ w1).drewN n) (fun _ _ h => h)
  have look : ∀ n, (Instr.lookup 187 (.map (some mb)) (.agg #[.int .i64 k.f, .int .i64 k.a]) true).run Tryz.prog (w1.drewN n) = .ok (.tuple #[.pointer none, .bool false]) (w1.drewN n) := fun n => by
    have := (h1n n).map.look keyedP Tryz.underlying187 (zeroP _) (key_of k)
    rw [lookF_no (hinj := kl_inj) hk] at this
    exact this
  have c1 : w1.cell? ⟨c, 1, none⟩ = some (.map (some mb)) := cell_of h1.cell rfl
  have c4 : w1.cell? ⟨c, 4, none⟩ = some (.int .i64 miss) := cell_of h1.cell rfl
  have f4 : w1.frozen? ⟨c, 4, none⟩ = false := by simp [World.frozen?, h1.cell]
  have z0 : w1.cell? ⟨w.heap.size, 0, none⟩ = some (.int .i64 k.f) := cell_of hsp rfl
  have z1 : w1.cell? ⟨w.heap.size, 1, none⟩ = some (.int .i64 k.a) := cell_of hsp rfl
  obtain ⟨miss', hh⟩ : ∃ miss', IntKind.i64.wrap (miss + 1) = miss' := ⟨_, rfl⟩
  have HFR := Lib.hid fun n => (show Fr (CS c mb r es) w1 ((w1.drewN n).setCell ⟨c, 4, none⟩ (.int .i64 miss')) from ((Fr.refl _ w1).drewN n).setCell (.inl (.inl rfl)) _)
  have H2 := Lib.hid fun n => (h1n n).misses miss'
  clear h h1 h1n hk hsp hfa
  go_enter Tryz.func135, Tryz.ntmps135
  go_upto_region 4 with (fail)
  clear hw1
  go_wp2_with fail
  go_quiet (fail)
  go_wp2_with fail
  go_ret2
  exact ⟨_, _, _, H2.out _, (HFA.out.mono (fun _ _ h => h.elim)).trans (HFR.out _) (fun _ _ h => h), fun _ h => h, rfl, .inl rfl⟩
set_option maxRecDepth 100000 in
theorem getP_any (c mb r most : Nat) (hit miss : Int) (es : Ents) (k : Kp) (w : World) (h : CacheK w c mb r most es hit miss) :
    Calls Tryz.prog 135 #[.pointer (some ⟨c, 0, none⟩), .agg #[.int .i64 k.f, .int .i64 k.a]] w (GetQ c mb r most es k w) := by
  cases e : lookF klit es (klit k) with
  | none => exact getP_no c mb r most hit miss es k w h (lost e)
  | some b =>
    obtain ⟨l1, l2, v, rfl, hk⟩ := found_split kl_inj h.nodup e
    exact getP_yes c mb r most b hit miss l1 l2 k v w h hk
end Pc
end Go.Proofs.YtdbfaknpfepnfaaGreatDoor

/-
  The walks of a cache whose keys are places: Drop and Put.
-/
namespace Go.Proofs.YtdbfaknpfepnfaaGreatDoor
open Go.RowKit Go.Maps
namespace Pc

set_option maxRecDepth 100000 in
set_option maxHeartbeats 2000000 in
theorem dropP_yes (c mb r most b : Nat) (hit miss : Int) (l1 l2 : Ents) (k : Kp) (v : Option Addr) (w : World) (h : CacheK w c mb r most (l1 ++ (b, k, v) :: l2) hit miss) (hk : ∀ x ∈ l1 ++ l2, x.2.1 ≠ k) :
    Calls Tryz.prog 164 #[.pointer (some ⟨c, 0, none⟩), .agg #[.int .i64 k.f, .int .i64 k.a]] w fun e w' => e = .returned (.bool true) ∧ CacheK w' c mb r most (l1 ++ l2) hit miss ∧ Fr (CS c mb r (l1 ++ (b, k, v) :: l2)) w w' ∧ w'.cell? ⟨b, 0, none⟩ = some (.int .i64 k.f) ∧ w'.cell? ⟨b, 1, none⟩ = some (.int .i64 k.a) := by
  have hfa : Fr (fun _ => False) w (w.alloc (spill k)) := (Fr.refl _ w).alloc _
  have h1 := h.keep hfa (fun _ _ h => h)
  have hsp := spK_new w k
  have hlt0 := h.lt
  unfold spill at hfa h1 hsp
  have HFA := Lib.hid hfa
  generalize hw1 : w.alloc (.cells #[.int .i64 k.f, .int .i64 k.a] 141) = w1 at *
  have h1n : ∀ n, CacheK (w1.drewN n) c mb r most (l1 ++ (b, k, v) :: l2) hit miss := fun n => h1.keep (R := fun _ => False) ((Fr.refl _ w1).drewN n) (fun _ _ h => h)
  have look : ∀ n, (Instr.lookup 187 (.map (some mb)) (.agg #[.int .i64 k.f, .int .i64 k.a]) true).run Tryz.prog (w1.drewN n) = .ok (.tuple #[.pointer (some ⟨b, 0, none⟩), .bool true]) (w1.drewN n) := fun n => by
    have := (h1n n).map.look keyedP Tryz.underlying187 (zeroP _) (key_of k)
    rw [lookP_yes hk] at this
    exact this
  have c1 : w1.cell? ⟨c, 1, none⟩ = some (.map (some mb)) := cell_of h1.cell rfl
  have z0 : w1.cell? ⟨w.heap.size, 0, none⟩ = some (.int .i64 k.f) := cell_of hsp rfl
  have z1 : w1.cell? ⟨w.heap.size, 1, none⟩ = some (.int .i64 k.a) := cell_of hsp rfl
  have HO := Lib.hid fun n => outP c mb r most b hit miss l1 l2 k v _ (h1n n) hk
  have HSP := Lib.hid hsp
  have hlf := fun kl => lookF_of kl_inj (l1 ++ (b, k, v) :: l2) l1 l2 b k v v rfl hk kl
  have hlk := lookP_yes (b := b) (v := v) hk
  have hcl : ∀ x, CS c mb r (l1 ++ (b, k, v) :: l2) x → x ≠ w.heap.size := fun x hx e => by have := hlt0 x hx; omega
  have HLF := Lib.hid hlf
  have HLK := Lib.hid hlk
  have HCL := Lib.hid hcl
  have hCS : CS c mb r (l1 ++ (b, k, v) :: l2) b := .inr (.inr (by simp [blocks]))
  have HCB := Lib.hid hCS
  clear h h1 h1n hk hsp hfa hlt0 hlf hlk hcl hCS
  go_enter Tryz.func164, Tryz.ntmps164
  go_upto_region 3 with (fail)
  clear hw1
  go_wp2_with fail
  go_quiet (fail)
  go_wp2_with fail
  (with_reducible refine (HO.out _).mono ?_)
  rintro e w2 ⟨rfl, g1, f1⟩
  have f1' : Fr (CS c mb r (l1 ++ (b, k, v) :: l2)) w1 w2 := ((Fr.refl _ w1).drewN _).trans f1 (fun _ _ h => h)
  have hs2 := (f1'.block w.heap.size (lt_of_block HSP.out) (fun h => HCL.out _ h rfl)).trans HSP.out
  have d1 : w2.cell? ⟨c, 1, none⟩ = some (.map (some mb)) := cell_of g1.cell rfl
  have y0 : w2.cell? ⟨w.heap.size, 0, none⟩ = some (.int .i64 k.f) := cell_of hs2 rfl
  have y1 : w2.cell? ⟨w.heap.size, 1, none⟩ = some (.int .i64 k.a) := cell_of hs2 rfl
  have g1d : GoneK w2.drew c mb r most (l1 ++ l2) hit miss b k v (lookF klit (l1 ++ (b, k, v) :: l2)) ((l1 ++ l2).length + 1) := g1.keep (R := fun _ => False) (Fr.refl _ w2).drew (fun _ _ h => h)
  obtain ⟨w3, hdel0, m2, f2⟩ := g1d.map.drop keyedP Tryz.underlying187 (key_of k) (by rw [HLK.out]; rfl) 0
  have hdel : (Builtin.delete_ #[187, 141] 0 #[.map (some mb), .agg #[.int .i64 k.f, .int .i64 k.a]]).run Tryz.prog w2.drew = .ok (.tuple #[]) w3 := hdel0
  have HG1 := Lib.hid g1d
  have HM2 := Lib.hid m2
  have HF1 := Lib.hid f1'
  have HF2 := Lib.hid f2
  clear g1 g1d m2 f1 f1' f2 hdel0 look c1 z0 z1 HO hs2
  go_wp2_with fail
  go_still_tail 5, (by kernel_rfl)
  change wpList _ _ _ _ _ w2.drew
  go_wp2_with fail
  go_ret
  obtain ⟨kv, vv, nx, pv, r1, r2, r3⟩ := HG1.out.ring
  obtain ⟨x2, x3, r4⟩ := HG1.out.ent
  have hmb : mb ∉ r :: blocks (l1 ++ l2) := fun hx => HG1.out.mS (List.mem_cons_of_mem _ hx)
  have hb3 := (HF2.out.block b (lt_of_block r4) (fun e => HG1.out.mS (by simp [e]))).trans r4
  refine ⟨rfl, ⟨?_, ⟨kv, vv, nx, pv, r1.keep HF2.out (fun x hx e => hmb (e ▸ hx)), r2, r3⟩, ?_, HG1.out.nodup, HG1.out.cmb, fun hx => HG1.out.cS (List.mem_cons_of_mem _ hx), hmb⟩, ?_, cell_of hb3 rfl, cell_of hb3 rfl⟩
  · exact (HF2.out.block c (lt_of_block HG1.out.cell) HG1.out.cmb).trans HG1.out.cell
  · have := HM2.out.congr (g := lookF klit (l1 ++ l2)) (fun kl => (HLF.out kl).2)
    simpa using this
  · exact (HFA.out.mono (fun _ _ h => h.elim)).trans (HF1.out.trans ((Fr.refl (fun x => x = mb) w2).drew.trans HF2.out (fun _ _ h => h)) (fun _ _ h => .inr (.inl h))) (fun _ _ h => h)
end Pc
end Go.Proofs.YtdbfaknpfepnfaaGreatDoor

/-
  The walks of a cache whose keys are places: Put.
-/
namespace Go.Proofs.YtdbfaknpfepnfaaGreatDoor
open Go.RowKit Go.Maps
namespace Pc

/-- What Put leaves. -/
def PutQ (c mb r most : Nat) (es : Ents) (hit miss : Int) (k : Kp) (v : Option Addr) (w : World) (e : Ending) (w' : World) : Prop :=
  (∃ z, e = .returned z) ∧ ∃ es', CacheK w' c mb r most es' hit miss ∧ Fr (CS c mb r es) w w' ∧ (∀ x ∈ es', x ∈ es ∨ x.2 = (k, v)) ∧ es'.length ≤ most ∧ ∀ y ∈ blocks es', y ∈ blocks es ∨ w.heap.size ≤ y
def zeroK : Obj := .cells #[.int .i64 0, .int .i64 0] 141
set_option maxRecDepth 100000 in
/-- The three places that Put lays ahead. -/
theorem put_head (w : World) (k : Kp) : ∃ w3, ((w.alloc (.cells #[.int .i64 k.f, .int .i64 k.a] 141)).alloc (.cells #[.int .i64 0, .int .i64 0] 141)).alloc (.cells #[.int .i64 0, .int .i64 0] 141) = w3 ∧ Fr (fun _ => False) w w3 ∧ w3.heap.size = w.heap.size + 3 ∧
    w3.heap[w.heap.size]? = some (.cells #[.int .i64 k.f, .int .i64 k.a] 141 (0, 0)) ∧ w3.heap[w.heap.size + 1]? = some (.cells #[.int .i64 0, .int .i64 0] 141 (0, 0)) ∧ w3.heap[w.heap.size + 2]? = some (.cells #[.int .i64 0, .int .i64 0] 141 (0, 0)) := by
  have s1 : (w.alloc (.cells #[.int .i64 k.f, .int .i64 k.a] 141)).heap.size = w.heap.size + 1 := by simp
  have a1 : (w.alloc (.cells #[.int .i64 k.f, .int .i64 k.a] 141)).heap[w.heap.size]? = some (.cells #[.int .i64 k.f, .int .i64 k.a] 141 (0, 0)) := by
    show (w.heap.push _)[w.heap.size]? = _
    simp
  have f1 : Fr (fun _ => False) w (w.alloc (.cells #[.int .i64 k.f, .int .i64 k.a] 141)) := (Fr.refl _ w).alloc _
  generalize w.alloc (.cells #[.int .i64 k.f, .int .i64 k.a] 141) = w1 at *
  have s2 : (w1.alloc (.cells #[.int .i64 0, .int .i64 0] 141)).heap.size = w1.heap.size + 1 := by simp
  have a2 : (w1.alloc (.cells #[.int .i64 0, .int .i64 0] 141)).heap[w1.heap.size]? = some (.cells #[.int .i64 0, .int .i64 0] 141 (0, 0)) := by
    show (w1.heap.push _)[w1.heap.size]? = _
    simp
  have f2 : Fr (fun _ => False) w1 (w1.alloc (.cells #[.int .i64 0, .int .i64 0] 141)) := (Fr.refl _ w1).alloc _
  generalize w1.alloc (.cells #[.int .i64 0, .int .i64 0] 141) = w2 at *
  have s3 : (w2.alloc (.cells #[.int .i64 0, .int .i64 0] 141)).heap.size = w2.heap.size + 1 := by simp
  have a3 : (w2.alloc (.cells #[.int .i64 0, .int .i64 0] 141)).heap[w2.heap.size]? = some (.cells #[.int .i64 0, .int .i64 0] 141 (0, 0)) := by
    show (w2.heap.push _)[w2.heap.size]? = _
    simp
  have f3 : Fr (fun _ => False) w2 (w2.alloc (.cells #[.int .i64 0, .int .i64 0] 141)) := (Fr.refl _ w2).alloc _
  refine ⟨_, rfl, (f1.trans f2 (fun _ _ h => h)).trans f3 (fun _ _ h => h), by omega, ?_, ?_, ?_⟩
  · exact (f3.block _ (by omega) (fun h => h)).trans ((f2.block _ (by omega) (fun h => h)).trans a1)
  · rw [← s1]
    exact (f3.block _ (by omega) (fun h => h)).trans a2
  · rw [show w.heap.size + 2 = w2.heap.size by omega]
    exact a3
set_option maxRecDepth 100000 in
set_option maxHeartbeats 4000000 in
theorem putP_yes (c mb r most b : Nat) (hit miss : Int) (l1 l2 : Ents) (k : Kp) (v v' : Option Addr) (w : World) (h : CacheK w c mb r most (l1 ++ (b, k, v) :: l2) hit miss) (hk : ∀ x ∈ l1 ++ l2, x.2.1 ≠ k) (hm : (l1 ++ l2).length + 1 ≤ most) :
    Calls Tryz.prog 136 #[.pointer (some ⟨c, 0, none⟩), .agg #[.int .i64 k.f, .int .i64 k.a], .pointer v'] w (PutQ c mb r most (l1 ++ (b, k, v) :: l2) hit miss k v' w) := by
  obtain ⟨w3, hw3, hf3, hs3, a0, a1, a2⟩ := put_head w k
  have h1 := h.keep hf3 (fun _ _ h => h)
  have hlt0 := h.lt
  have h1n : ∀ n, CacheK (w3.drewN n) c mb r most (l1 ++ (b, k, v) :: l2) hit miss := fun n => h1.keep (R := fun _ => False) ((Fr.refl _ w3).drewN n) (fun _ _ h => h)
  have look : ∀ n, (Instr.lookup 187 (.map (some mb)) (.agg #[.int .i64 k.f, .int .i64 k.a]) true).run Tryz.prog (w3.drewN n) = .ok (.tuple #[.pointer (some ⟨b, 0, none⟩), .bool true]) (w3.drewN n) := fun n => by
    have := (h1n n).map.look keyedP Tryz.underlying187 (zeroP _) (key_of k)
    rw [lookP_yes hk] at this
    exact this
  have c1 : w3.cell? ⟨c, 1, none⟩ = some (.map (some mb)) := cell_of h1.cell rfl
  have z0 : w3.cell? ⟨w.heap.size, 0, none⟩ = some (.int .i64 k.f) := cell_of a0 rfl
  have z1 : w3.cell? ⟨w.heap.size, 1, none⟩ = some (.int .i64 k.a) := cell_of a0 rfl
  have HO := Lib.hid fun n => outP c mb r most b hit miss l1 l2 k v _ (h1n n) hk
  have HLF := Lib.hid (funext (fun kl => (lookF_of kl_inj (l1 ++ (b, k, v) :: l2) l1 l2 b k v v' rfl hk kl).1))
  have HF3 := Lib.hid hf3
  have HA1 := Lib.hid a1
  have HA2 := Lib.hid a2
  have HM := Lib.hid hm
  have hcl : ∀ x, CS c mb r (l1 ++ (b, k, v) :: l2) x → x < w.heap.size := hlt0
  have HCL := Lib.hid hcl
  have hS3 : w.heap.size + 2 < w3.heap.size := by omega
  clear h h1 h1n hk hf3 hlt0 a0 a1 a2 hm hcl
  go_enter Tryz.func136, Tryz.ntmps136
  go_upto_region 4 with (fail)
  clear hw3
  go_wp2_with fail
  go_quiet (fail)
  go_wp2_with fail
  (with_reducible refine (HO.out _).mono ?_)
  rintro e w4 ⟨rfl, g1, f1⟩
  have f1' : Fr (CS c mb r (l1 ++ (b, k, v) :: l2)) w3 w4 := ((Fr.refl _ w3).drewN _).trans f1 (fun _ _ h => h)
  obtain ⟨x2, x3, hb⟩ := g1.ent
  have b1 : w4.cell? ⟨b, 2, none⟩ = some (.pointer v) := cell_of hb rfl
  have fb : w4.frozen? ⟨b, 2, none⟩ = false := by simp [World.frozen?, hb]
  have HG2 := Lib.hid (g1.val v')
  have hbS : CS c mb r (l1 ++ (b, k, v) :: l2) b := by unfold CS; simp [blocks]
  have HF4 := Lib.hid (f1'.setCell (p := ⟨b, 2, none⟩) (.inl hbS) (.pointer v'))
  clear g1 f1 f1' hb hbS look c1 z0 z1 HO
  go_wp2_with fail
  (with_reducible refine (youngP c mb r most b _ hit miss _ k v' _ _ HG2.out HLF.out.symm rfl).mono ?_)
  rintro e w5 ⟨rfl, h5, f5⟩
  have hf5 : Fr (CS c mb r (l1 ++ (b, k, v) :: l2)) w3 w5 := HF4.out.trans (T := fun x => CS c mb r (l1 ++ l2) x ∨ x = b) f5 (fun x _ hx => by
    unfold CS at hx ⊢
    simp only [blocks, List.map_append, List.map_cons, List.mem_cons, List.mem_append] at hx ⊢
    rcases hx with (h | h | h | h | h) | h <;> simp [h])
  have n1 := (hf5.block (w.heap.size + 1) (by omega) (fun h => by have := HCL.out _ h; omega)).trans HA1.out
  have n2 := (hf5.block (w.heap.size + 2) (by omega) (fun h => by have := HCL.out _ h; omega)).trans HA2.out
  have c1 : w5.cell? ⟨c, 1, none⟩ = some (.map (some mb)) := cell_of h5.cell rfl
  have c0 : w5.cell? ⟨c, 0, none⟩ = some (.int .i64 most) := cell_of h5.cell rfl
  have y0 : w5.cell? ⟨w.heap.size + 2, 0, none⟩ = some (.int .i64 0) := cell_of n2 rfl
  have y1 : w5.cell? ⟨w.heap.size + 2, 1, none⟩ = some (.int .i64 0) := cell_of n2 rfl
  have r0 : w5.cell? ⟨w.heap.size + 1, 0, none⟩ = some (.int .i64 0) := cell_of n1 rfl
  have r1 : w5.cell? ⟨w.heap.size + 1, 1, none⟩ = some (.int .i64 0) := cell_of n1 rfl
  have q0 : w5.frozen? ⟨w.heap.size + 1, 0, none⟩ = false := by simp [World.frozen?, n1]
  have q1 : w5.frozen? ⟨w.heap.size + 1, 1, none⟩ = false := by simp [World.frozen?, n1]
  have hs5 : ∀ n, (((w5.drewN n).setCell ⟨w.heap.size + 1, 0, none⟩ (.int .i64 0)).setCell ⟨w.heap.size + 1, 1, none⟩ (.int .i64 0)).heap[w.heap.size + 1]? = some (.cells #[.int .i64 0, .int .i64 0] 141 (0, 0)) := fun n =>
    setAt2 (o := 1) (.int .i64 0) (setAt2 (o := 0) (.int .i64 0) (show (w5.drewN n).heap[w.heap.size + 1]? = some (.cells #[.int .i64 0, .int .i64 0] 141 (0, 0)) from n1))
  have j0 := fun n => cell_of (o := 0) (hs5 n) rfl
  have j1 := fun n => cell_of (o := 1) (hs5 n) rfl
  have hle : ((((l1 ++ l2).length + 1 : Nat) : Int) ≤ (most : Int)) := by have := HM.out; omega
  have hdec : decide ((((l1 ++ l2).length + 1 : Nat) : Int) ≤ (most : Int)) = true := by rw [decide_eq_true_eq]; exact hle
  have hlen : ∀ n, (Builtin.len_ #[187] 3 #[.map (some mb)]).run Tryz.prog (w5.drewN n) = .ok (.int .i64 (((l1 ++ l2).length + 1 : Nat) : Int)) (w5.drewN n) := fun n => by
    have := (h5.map.keep (R := fun _ => False) ((Fr.refl _ w5).drewN n) (fun h => h)).len Tryz.underlying187 3
    rwa [show (l1 ++ l2 ++ [(b, k, v')]).length = (l1 ++ l2).length + 1 by simp; omega] at this
  have HFF : Hid (∀ n, Fr (fun x => CS c mb r (l1 ++ (b, k, v) :: l2) x ∨ x = w.heap.size + 1) w3 (((w5.drewN n).setCell ⟨w.heap.size + 1, 0, none⟩ (.int .i64 0)).setCell ⟨w.heap.size + 1, 1, none⟩ (.int .i64 0))) := Lib.hid fun n => (((hf5.mono (fun _ _ h => .inl h)).drewN n).setCell (p := ⟨w.heap.size + 1, 0, none⟩) (.inl (.inr rfl)) _).setCell (p := ⟨w.heap.size + 1, 1, none⟩) (.inl (.inr rfl)) _
  have HKK : Hid (∀ n, CacheK (((w5.drewN n).setCell ⟨w.heap.size + 1, 0, none⟩ (.int .i64 0)).setCell ⟨w.heap.size + 1, 1, none⟩ (.int .i64 0)) c mb r most (l1 ++ l2 ++ [(b, k, v')]) hit miss) := Lib.hid fun n => h5.keep (R := fun x => x = w.heap.size + 1) ((((Fr.refl (fun x => x = w.heap.size + 1) w5).drewN n).setCell (p := ⟨w.heap.size + 1, 0, none⟩) (.inl rfl) _).setCell (p := ⟨w.heap.size + 1, 1, none⟩) (.inl rfl) _) (fun x hx e => by
    have : CS c mb r (l1 ++ (b, k, v) :: l2) x := by
      unfold CS at hx ⊢
      simp only [blocks, List.map_append, List.map_cons, List.map_nil, List.mem_cons, List.mem_append, List.not_mem_nil, or_false] at hx ⊢
      rcases hx with h | h | h | (h | h) | h <;> simp [h]
    have := HCL.out x this
    omega)
  clear h5 f5 hf5 b1 fb n1 n2 HG2 HF4 HLF
  generalize hN : (l1 ++ l2).length + 1 = N at *
  have HNN := Lib.hid hN
  clear hN
  go_wp2_with fail
  go_quiet (fail)
  go_wp2_with fail
  refine bodyPost_ret (v := .tuple #[.agg #[.int .i64 0, .int .i64 0], .bool false]) (by simp [results, Tryz.results136, go_sem, j0, j1]) rfl ⟨⟨_, rfl⟩, _, HKK.out _, ?_, fun x hx => ?_, by rw [List.length_append, List.length_singleton, HNN.out]; exact HM.out, fun y hy => ?_⟩
  · refine Fr.trans (HF3.out.mono (fun _ _ h => h.elim)) (HFF.out _) (fun x hx h => h.elim id (fun e => by omega))
  · simp at hx ⊢
    rcases hx with h | h | h <;> simp [h]
  · simp [blocks] at hy ⊢
    rcases hy with h | h | h <;> simp [h]
end Pc
end Go.Proofs.YtdbfaknpfepnfaaGreatDoor

/-
  The walks of a cache whose keys are places: Put of a key that isn't there.
-/
namespace Go.Proofs.YtdbfaknpfepnfaaGreatDoor
open Go.RowKit Go.Maps
namespace Pc

set_option maxRecDepth 100000 in
theorem CacheAt.first {P : Program} {TE TC KT : TypeId} {kl : Kp → Lit} {w : World} {c mb r most : Nat} {hit miss : Int} {es : Ents} {x : Nat × Kp × Option Addr} (h : CacheAt P TE TC KT kl w c mb r most (x :: es) hit miss) :
    w.cell? ⟨r, 4, none⟩ = some (.pointer (some ⟨x.1, 0, none⟩)) := by
  obtain ⟨kv, vv, nx, pv, h1, h2, _⟩ := h.ring
  have := h2.2.1.1
  rw [h1.c3 (by simp), this]
set_option maxRecDepth 100000 in
/-- A new entry, with its value, and told to the map. -/
theorem newGone (c mb r most : Nat) (hit miss : Int) (es : Ents) (k : Kp) (v : Option Addr) (w : World) (h : CacheK w c mb r most es hit miss) (hk : ∀ x ∈ es, x.2.1 ≠ k) (hl : es.length ≤ 1000000) :
    ∃ w1, (Instr.mapUpdate 187 (.map (some mb)) (.agg #[.int .i64 k.f, .int .i64 k.a]) (.pointer (some ⟨w.heap.size, 0, none⟩))).run Tryz.prog (w.alloc (.cells #[.int .i64 k.f, .int .i64 k.a, .pointer none, .pointer none, .pointer none] 186)).drew = .ok () w1 ∧
      w1.heap[w.heap.size]? = some (.cells #[.int .i64 k.f, .int .i64 k.a, .pointer none, .pointer none, .pointer none] 186 (0, 0)) ∧
      GoneK (w1.setCell ⟨w.heap.size, 2, none⟩ (.pointer v)) c mb r most es hit miss w.heap.size k v (lookF klit (es ++ [(w.heap.size, k, v)])) (es.length + 1) ∧
      Fr (CS c mb r es) w (w1.setCell ⟨w.heap.size, 2, none⟩ (.pointer v)) := by
  have hlt := h.lt
  have hfa : Fr (fun _ => False) w (w.alloc (.cells #[.int .i64 k.f, .int .i64 k.a, .pointer none, .pointer none, .pointer none] 186)).drew := ((Fr.refl _ w).alloc _).drew
  have ha := h.keep hfa (fun _ _ h => h)
  have hno := lookF_no (hinj := kl_inj) hk
  obtain ⟨w1, hrun, hm, hf⟩ := ha.map.store keyedP Tryz.underlying187 (by unfold maxLen; omega) (key_of k) w.heap.size hno
  have hbm : w.heap.size ≠ mb := fun e => by have := hlt mb (.inr (.inl rfl)); omega
  have hb : w1.heap[w.heap.size]? = some (.cells #[.int .i64 k.f, .int .i64 k.a, .pointer none, .pointer none, .pointer none] 186 (0, 0)) := by
    rw [hf.block w.heap.size (by show w.heap.size < (w.heap.push _).size; simp) hbm]
    show (w.heap.push _)[w.heap.size]? = _
    simp
  obtain ⟨kv, vv, nx, pv, h1, h2, h3⟩ := ha.ring
  have hbn : w.heap.size ∉ r :: blocks es := fun hx => by have := hlt _ (.inr (.inr hx)); omega
  have hcb : c ≠ w.heap.size := fun e => by have := hlt c (.inl rfl); omega
  have hg : GoneK w1 c mb r most es hit miss w.heap.size k none (lookF klit (es ++ [(w.heap.size, k, v)])) (es.length + 1) :=
    ⟨(hf.block c (lt_of_block ha.cell) h.cmb).trans ha.cell, ⟨kv, vv, nx, pv, h1.keep hf (fun x hx e => h.mS (e ▸ hx)), h2, h3⟩, ⟨_, _, hb⟩, hm.congr (fun kl => lookF_new hno kl), h.nodup, hk, h.cmb,
      fun hx => by rcases List.mem_cons.1 hx with hx | hx; exact hcb hx; exact h.cS hx,
      fun hx => by rcases List.mem_cons.1 hx with hx | hx; exact hbm hx.symm; exact h.mS hx, hbn⟩
  exact ⟨w1, hrun, hb, hg.val v, ((hfa.mono (fun _ _ h => h.elim)).trans hf (fun x _ e => .inr (.inl e))).setCell (.inr (Nat.le_refl _)) _⟩
set_option maxRecDepth 100000 in
set_option maxHeartbeats 4000000 in
theorem putP_new (c mb r most : Nat) (hit miss : Int) (es : Ents) (k : Kp) (v : Option Addr) (w : World) (h : CacheK w c mb r most es hit miss) (hk : ∀ x ∈ es, x.2.1 ≠ k) (hl : es.length ≤ 1000000) (hm : es.length + 1 ≤ most) :
    Calls Tryz.prog 136 #[.pointer (some ⟨c, 0, none⟩), .agg #[.int .i64 k.f, .int .i64 k.a], .pointer v] w (PutQ c mb r most es hit miss k v w) := by
  obtain ⟨w3, hw3, hf3, hs3, a0, a1, a2⟩ := put_head w k
  have h1 := h.keep hf3 (fun _ _ h => h)
  have hlt0 := h.lt
  have h1n : ∀ n, CacheK (w3.drewN n) c mb r most es hit miss := fun n => h1.keep (R := fun _ => False) ((Fr.refl _ w3).drewN n) (fun _ _ h => h)
  have look : ∀ n, (Instr.lookup 187 (.map (some mb)) (.agg #[.int .i64 k.f, .int .i64 k.a]) true).run Tryz.prog (w3.drewN n) = .ok (.tuple #[.pointer none, .bool false]) (w3.drewN n) := fun n => by
    have := (h1n n).map.look keyedP Tryz.underlying187 (zeroP _) (key_of k)
    rw [lookF_no (hinj := kl_inj) hk] at this
    exact this
  have c1 : w3.cell? ⟨c, 1, none⟩ = some (.map (some mb)) := cell_of h1.cell rfl
  have z0 : w3.cell? ⟨w.heap.size, 0, none⟩ = some (.int .i64 k.f) := cell_of a0 rfl
  have z1 : w3.cell? ⟨w.heap.size, 1, none⟩ = some (.int .i64 k.a) := cell_of a0 rfl
  have H1N := Lib.hid h1n
  have HF3 := Lib.hid hf3
  have HA0 := Lib.hid a0
  have HA1 := Lib.hid a1
  have HA2 := Lib.hid a2
  have HK := Lib.hid hk
  have HCL := Lib.hid hlt0
  have HS3 := Lib.hid hs3
  clear h h1 h1n hk hf3 hlt0 a0 a1 a2 hs3
  go_enter Tryz.func136, Tryz.ntmps136
  go_upto_region 4 with (fail)
  clear hw3
  go_wp2_with fail
  go_quiet (fail)
  go_upto_region 8 with (fail)
  obtain ⟨w4, hrun, hb, hg, hf⟩ := newGone c mb r most hit miss es k v (w3.drewN nq) (H1N.out nq) HK.out hl
  obtain ⟨W, hW⟩ : ∃ W, W = (w3.drewN nq).alloc (.cells #[.int .i64 k.f, .int .i64 k.a, .pointer none, .pointer none, .pointer none] 186) := ⟨_, rfl⟩
  have hfW : Fr (fun _ => False) w3 W := by rw [hW]; exact ((Fr.refl _ w3).drewN nq).alloc _
  have hsz : (w3.drewN nq).heap.size = w3.heap.size := rfl
  rw [← hW] at hrun ⊢
  rw [hsz] at hrun hb hg hf
  have cW : W.cell? ⟨c, 1, none⟩ = some (.map (some mb)) := hfW.cell c1 (fun h => h)
  have zW0 : W.cell? ⟨w.heap.size, 0, none⟩ = some (.int .i64 k.f) := hfW.cell z0 (fun h => h)
  have zW1 : W.cell? ⟨w.heap.size, 1, none⟩ = some (.int .i64 k.a) := hfW.cell z1 (fun h => h)
  have b1 : w4.cell? ⟨w3.heap.size, 2, none⟩ = some (.pointer none) := cell_of hb rfl
  have fb : w4.frozen? ⟨w3.heap.size, 2, none⟩ = false := by simp [World.frozen?, hb]
  have HG := Lib.hid hg
  have HF4 := Lib.hid ((Fr.refl (CS c mb r es) w3).drewN nq |>.trans hf (fun _ _ h => h))
  have HSE := Lib.hid (show w3.heap.size = w.heap.size + 3 from HS3.out)
  have HF3S := Lib.hid (show ∀ j, j < w.heap.size + 3 → j < w3.heap.size from fun j hj => by have := HS3.out; omega)
  clear hb hg hf hfW hsz hW c1 z0 z1 look H1N HA0
  generalize w3.heap.size = pe at *
  go_wp2_with fail
  go_still_tail 6, (by kernel_rfl)
  change wpList _ _ _ _ _ W.drew
  go_wp2_with fail
  (with_reducible refine (youngP c mb r most _ _ hit miss _ k v _ _ HG.out rfl rfl).mono ?_)
  rintro e w5 ⟨rfl, h5, f5⟩
  have hf5 : Fr (fun x => CS c mb r es x ∨ x = pe) w3 w5 := (HF4.out.mono (fun _ _ h => .inl h)).trans f5 (fun _ _ h => h)
  have hnCS : ∀ j, w.heap.size ≤ j → j < w.heap.size + 3 → ¬ (CS c mb r es j ∨ j = pe) := fun j h1 h2 h => h.elim (fun h => by have := HCL.out j h; omega) (fun h => by have := HSE.out; omega)
  have n1 := (hf5.block (w.heap.size + 1) (lt_of_block HA1.out) (hnCS (w.heap.size + 1) (by omega) (by omega))).trans HA1.out
  have n2 := (hf5.block (w.heap.size + 2) (lt_of_block HA2.out) (hnCS (w.heap.size + 2) (by omega) (by omega))).trans HA2.out
  have c1 : w5.cell? ⟨c, 1, none⟩ = some (.map (some mb)) := cell_of h5.cell rfl
  have c0 : w5.cell? ⟨c, 0, none⟩ = some (.int .i64 most) := cell_of h5.cell rfl
  have hlen : ∀ n, (Builtin.len_ #[187] 3 #[.map (some mb)]).run Tryz.prog (w5.drewN n) = .ok (.int .i64 ((es.length + 1 : Nat) : Int)) (w5.drewN n) := fun n => by
    have := (h5.map.keep (R := fun _ => False) ((Fr.refl _ w5).drewN n) (fun h => h)).len Tryz.underlying187 3
    rwa [show (es ++ [(pe, k, v)]).length = es.length + 1 by simp] at this
  have y0 : w5.cell? ⟨w.heap.size + 2, 0, none⟩ = some (.int .i64 0) := cell_of n2 rfl
  have y1 : w5.cell? ⟨w.heap.size + 2, 1, none⟩ = some (.int .i64 0) := cell_of n2 rfl
  have r0 : w5.cell? ⟨w.heap.size + 1, 0, none⟩ = some (.int .i64 0) := cell_of n1 rfl
  have r1 : w5.cell? ⟨w.heap.size + 1, 1, none⟩ = some (.int .i64 0) := cell_of n1 rfl
  have q0 : w5.frozen? ⟨w.heap.size + 1, 0, none⟩ = false := by simp [World.frozen?, n1]
  have q1 : w5.frozen? ⟨w.heap.size + 1, 1, none⟩ = false := by simp [World.frozen?, n1]
  have hs5 : ∀ n, (((w5.drewN n).setCell ⟨w.heap.size + 1, 0, none⟩ (.int .i64 0)).setCell ⟨w.heap.size + 1, 1, none⟩ (.int .i64 0)).heap[w.heap.size + 1]? = some (.cells #[.int .i64 0, .int .i64 0] 141 (0, 0)) := fun n =>
    setAt2 (o := 1) (.int .i64 0) (setAt2 (o := 0) (.int .i64 0) (show (w5.drewN n).heap[w.heap.size + 1]? = some (.cells #[.int .i64 0, .int .i64 0] 141 (0, 0)) from n1))
  have j0 := fun n => cell_of (o := 0) (hs5 n) rfl
  have j1 := fun n => cell_of (o := 1) (hs5 n) rfl
  have hle : (((es.length + 1 : Nat) : Int) ≤ (most : Int)) := by omega
  have hdec : decide (((es.length + 1 : Nat) : Int) ≤ (most : Int)) = true := by rw [decide_eq_true_eq]; exact hle
  have HFF : Hid (∀ n, Fr (fun x => (CS c mb r es x ∨ x = pe) ∨ x = w.heap.size + 1) w3 (((w5.drewN n).setCell ⟨w.heap.size + 1, 0, none⟩ (.int .i64 0)).setCell ⟨w.heap.size + 1, 1, none⟩ (.int .i64 0))) := Lib.hid fun n => (((hf5.mono (fun _ _ h => .inl h)).drewN n).setCell (p := ⟨w.heap.size + 1, 0, none⟩) (.inl (.inr rfl)) _).setCell (p := ⟨w.heap.size + 1, 1, none⟩) (.inl (.inr rfl)) _
  have HKK : Hid (∀ n, CacheK (((w5.drewN n).setCell ⟨w.heap.size + 1, 0, none⟩ (.int .i64 0)).setCell ⟨w.heap.size + 1, 1, none⟩ (.int .i64 0)) c mb r most (es ++ [(pe, k, v)]) hit miss) := Lib.hid fun n => h5.keep (R := fun x => x = w.heap.size + 1) ((((Fr.refl (fun x => x = w.heap.size + 1) w5).drewN n).setCell (p := ⟨w.heap.size + 1, 0, none⟩) (.inl rfl) _).setCell (p := ⟨w.heap.size + 1, 1, none⟩) (.inl rfl) _) (fun x hx e => by
    have : CS c mb r es x ∨ x = pe := by
      unfold CS at hx ⊢
      simp only [blocks, List.map_append, List.map_cons, List.map_nil, List.mem_cons, List.mem_append, List.not_mem_nil, or_false] at hx ⊢
      rcases hx with h | h | h | h | h <;> simp [h]
    exact hnCS x (by omega) (by omega) this)
  have HEL := Lib.hid hm
  clear h5 f5 hf5 b1 fb n1 n2 hnCS HG HF4 hm
  generalize hN : es.length + 1 = N at *
  have HNN := Lib.hid hN
  clear hN
  go_wp2_with fail
  go_quiet (fail)
  go_wp2_with fail
  refine bodyPost_ret (v := .tuple #[.agg #[.int .i64 0, .int .i64 0], .bool false]) (by simp [results, Tryz.results136, go_sem, j0, j1]) rfl ⟨⟨_, rfl⟩, _, HKK.out _, ?_, fun x hx => ?_, by rw [List.length_append, List.length_singleton, HNN.out]; exact HEL.out, fun y hy => ?_⟩
  · exact Fr.trans (HF3.out.mono (fun _ _ h => h.elim)) (HFF.out _) (fun x hx h => by
      rcases h with (h | h) | h
      · exact h
      · have := HSE.out; omega
      · omega)
  · simp at hx ⊢
    rcases hx with h | h
    · exact .inl h
    · exact .inr (by rw [h])
  · simp [blocks] at hy ⊢
    rcases hy with h | h
    · exact .inl h
    · have := HSE.out
      exact .inr (by omega)
set_option maxRecDepth 100000 in
set_option maxHeartbeats 4000000 in
theorem putP_over (c mb r most : Nat) (hit miss : Int) (es : Ents) (k : Kp) (v : Option Addr) (w : World) (h : CacheK w c mb r most es hit miss) (hk : ∀ x ∈ es, x.2.1 ≠ k) (hl : es.length ≤ 1000000) (hm : most < es.length + 1) (hme : es.length ≤ most) :
    Calls Tryz.prog 136 #[.pointer (some ⟨c, 0, none⟩), .agg #[.int .i64 k.f, .int .i64 k.a], .pointer v] w (PutQ c mb r most es hit miss k v w) := by
  obtain ⟨w3, hw3, hf3, hs3, a0, a1, a2⟩ := put_head w k
  have h1 := h.keep hf3 (fun _ _ h => h)
  have hlt0 := h.lt
  have h1n : ∀ n, CacheK (w3.drewN n) c mb r most es hit miss := fun n => h1.keep (R := fun _ => False) ((Fr.refl _ w3).drewN n) (fun _ _ h => h)
  have look : ∀ n, (Instr.lookup 187 (.map (some mb)) (.agg #[.int .i64 k.f, .int .i64 k.a]) true).run Tryz.prog (w3.drewN n) = .ok (.tuple #[.pointer none, .bool false]) (w3.drewN n) := fun n => by
    have := (h1n n).map.look keyedP Tryz.underlying187 (zeroP _) (key_of k)
    rw [lookF_no (hinj := kl_inj) hk] at this
    exact this
  have c1 : w3.cell? ⟨c, 1, none⟩ = some (.map (some mb)) := cell_of h1.cell rfl
  have z0 : w3.cell? ⟨w.heap.size, 0, none⟩ = some (.int .i64 k.f) := cell_of a0 rfl
  have z1 : w3.cell? ⟨w.heap.size, 1, none⟩ = some (.int .i64 k.a) := cell_of a0 rfl
  have H1N := Lib.hid h1n
  have HF3 := Lib.hid hf3
  have HA0 := Lib.hid a0
  have HA1 := Lib.hid a1
  have HA2 := Lib.hid a2
  have HK := Lib.hid hk
  have HCL := Lib.hid hlt0
  have HS3 := Lib.hid hs3
  clear h h1 h1n hk hf3 hlt0 a0 a1 a2 hs3
  go_enter Tryz.func136, Tryz.ntmps136
  go_upto_region 4 with (fail)
  clear hw3
  go_wp2_with fail
  go_quiet (fail)
  go_upto_region 8 with (fail)
  obtain ⟨w4, hrun, hb, hg, hf⟩ := newGone c mb r most hit miss es k v (w3.drewN nq) (H1N.out nq) HK.out hl
  obtain ⟨W, hW⟩ : ∃ W, W = (w3.drewN nq).alloc (.cells #[.int .i64 k.f, .int .i64 k.a, .pointer none, .pointer none, .pointer none] 186) := ⟨_, rfl⟩
  have hfW : Fr (fun _ => False) w3 W := by rw [hW]; exact ((Fr.refl _ w3).drewN nq).alloc _
  have hsz : (w3.drewN nq).heap.size = w3.heap.size := rfl
  rw [← hW] at hrun ⊢
  rw [hsz] at hrun hb hg hf
  have cW : W.cell? ⟨c, 1, none⟩ = some (.map (some mb)) := hfW.cell c1 (fun h => h)
  have zW0 : W.cell? ⟨w.heap.size, 0, none⟩ = some (.int .i64 k.f) := hfW.cell z0 (fun h => h)
  have zW1 : W.cell? ⟨w.heap.size, 1, none⟩ = some (.int .i64 k.a) := hfW.cell z1 (fun h => h)
  have b1 : w4.cell? ⟨w3.heap.size, 2, none⟩ = some (.pointer none) := cell_of hb rfl
  have fb : w4.frozen? ⟨w3.heap.size, 2, none⟩ = false := by simp [World.frozen?, hb]
  have HG := Lib.hid hg
  have HF4 := Lib.hid ((Fr.refl (CS c mb r es) w3).drewN nq |>.trans hf (fun _ _ h => h))
  have HSE := Lib.hid (show w3.heap.size = w.heap.size + 3 from HS3.out)
  have HF3S := Lib.hid (show ∀ j, j < w.heap.size + 3 → j < w3.heap.size from fun j hj => by have := HS3.out; omega)
  clear hb hg hf hfW hsz hW c1 z0 z1 look H1N HA0
  generalize w3.heap.size = pe at *
  go_wp2_with fail
  go_still_tail 6, (by kernel_rfl)
  change wpList _ _ _ _ _ W.drew
  go_wp2_with fail
  (with_reducible refine (youngP c mb r most _ _ hit miss _ k v _ _ HG.out rfl rfl).mono ?_)
  rintro e w5 ⟨rfl, h5, f5⟩
  have hf5 : Fr (fun x => CS c mb r es x ∨ x = pe) w3 w5 := (HF4.out.mono (fun _ _ h => .inl h)).trans f5 (fun _ _ h => h)
  have hnCS : ∀ j, w.heap.size ≤ j → j < w.heap.size + 3 → ¬ (CS c mb r es j ∨ j = pe) := fun j h1 h2 h => h.elim (fun h => by have := HCL.out j h; omega) (fun h => by have := HSE.out; omega)
  have n1 := (hf5.block (w.heap.size + 1) (lt_of_block HA1.out) (hnCS (w.heap.size + 1) (by omega) (by omega))).trans HA1.out
  have n2 := (hf5.block (w.heap.size + 2) (lt_of_block HA2.out) (hnCS (w.heap.size + 2) (by omega) (by omega))).trans HA2.out
  have c1 : w5.cell? ⟨c, 1, none⟩ = some (.map (some mb)) := cell_of h5.cell rfl
  have c0 : w5.cell? ⟨c, 0, none⟩ = some (.int .i64 most) := cell_of h5.cell rfl
  have hlen : ∀ n, (Builtin.len_ #[187] 3 #[.map (some mb)]).run Tryz.prog (w5.drewN n) = .ok (.int .i64 ((es.length + 1 : Nat) : Int)) (w5.drewN n) := fun n => by
    have := (h5.map.keep (R := fun _ => False) ((Fr.refl _ w5).drewN n) (fun h => h)).len Tryz.underlying187 3
    rwa [show (es ++ [(pe, k, v)]).length = es.length + 1 by simp] at this
  obtain ⟨x0, rest, hx⟩ : ∃ x0 rest, es ++ [(pe, k, v)] = x0 :: rest := by
    cases es with
    | nil => exact ⟨_, _, rfl⟩
    | cons a l => exact ⟨_, _, rfl⟩
  have hsub : ∀ y, y ∈ blocks rest ∨ y = x0.1 → y ∈ blocks es ∨ y = pe := by
    intro y hy
    have : y ∈ blocks (es ++ [(pe, k, v)]) := by
      rw [hx]
      unfold blocks
      rw [List.map_cons, List.mem_cons]
      exact hy.elim .inr .inl
    unfold blocks at this
    rw [List.map_append, List.mem_append] at this
    exact this.elim .inl (fun h => .inr (by simpa using h))
  have hmem : ∀ x ∈ rest, x ∈ es ∨ x.2 = (k, v) := by
    intro x hxr
    have : x ∈ es ++ [(pe, k, v)] := by rw [hx]; exact List.mem_cons_of_mem _ hxr
    rcases List.mem_append.1 this with h | h
    · exact .inl h
    · exact .inr (by rw [List.mem_singleton.1 h])
  have hrl : rest.length ≤ most := by
    have := congrArg List.length hx
    simp at this
    omega
  rw [hx] at h5
  obtain ⟨b0, k0, v0⟩ := x0
  have c2 : w5.cell? ⟨c, 2, none⟩ = some (.pointer (some ⟨r, 0, none⟩)) := cell_of h5.cell rfl
  have r3 := h5.first
  have b0a := (h5.lastVal (b := b0) (k := k0) (v := v0) (by simp)).2.1
  have b0b := (h5.lastVal (b := b0) (k := k0) (v := v0) (by simp)).2.2
  dsimp only at r3
  have hno : ∀ x ∈ ([] ++ rest : Ents), x.2.1 ≠ k0 := by
    intro x hxm e
    have hnd := h5.nodup
    unfold keys at hnd
    rw [List.map_cons] at hnd
    exact (List.nodup_cons.1 hnd).1 (by have := List.mem_map_of_mem (f := fun x : Nat × Kp × Option Addr => x.2.1) hxm; rw [e] at this; exact this)
  have h5n : ∀ n, CacheK (w5.drewN n) c mb r most ([] ++ (b0, k0, v0) :: rest) hit miss := fun n => h5.keep (R := fun _ => False) ((Fr.refl _ w5).drewN n) (fun _ _ h => h)
  have HDR := Lib.hid fun n => dropP_yes c mb r most b0 hit miss [] rest k0 v0 _ (h5n n) hno
  have hcs5 : ∀ x, CS c mb r ([] ++ (b0, k0, v0) :: rest) x → CS c mb r es x ∨ x = pe := fun x hx => by
    rcases hx with h | h | h
    · exact .inl (.inl h)
    · exact .inl (.inr (.inl h))
    · rw [List.nil_append] at h
      rcases List.mem_cons.1 h with h | h
      · exact .inl (.inr (.inr (by simp [h])))
      · have h' : x ∈ blocks rest ∨ x = b0 := by
          simp only [blocks, List.map_cons, List.mem_cons] at h
          exact h.elim .inr .inl
        exact (hsub x h').elim (fun h => .inl (.inr (.inr (List.mem_cons_of_mem _ h)))) .inr
  have hle : ¬ (((es.length + 1 : Nat) : Int) ≤ (most : Int)) := by omega
  have hdec : decide (((es.length + 1 : Nat) : Int) ≤ (most : Int)) = false := by rw [decide_eq_false_iff_not]; exact hle
  have HF5 := Lib.hid hf5
  have HCS5 := Lib.hid hcs5
  have HSUB := Lib.hid hsub
  have HMEM := Lib.hid hmem
  have HRL := Lib.hid hrl
  have HNC := Lib.hid hnCS
  have HN1 := Lib.hid n1
  clear h5 f5 hf5 b1 fb n1 n2 hnCS HG HF4 hm hx hsub hmem hrl hno h5n hcs5 hme
  generalize es.length + 1 = N at *
  go_wp2_with fail
  go_quiet (fail)
  go_wp2_with fail
  (with_reducible refine (HDR.out _).mono ?_)
  rintro e w6 ⟨rfl, h6, f6, d0, d1⟩
  have hf6 : Fr (fun x => CS c mb r es x ∨ x = pe) w3 w6 := (HF5.out.drewN _).trans f6 (fun x _ hx => HCS5.out x hx)
  have m1 := (hf6.block (w.heap.size + 1) (lt_of_block HA1.out) (HNC.out (w.heap.size + 1) (by omega) (by omega))).trans HA1.out
  have r0 : w6.cell? ⟨w.heap.size + 1, 0, none⟩ = some (.int .i64 0) := cell_of m1 rfl
  have r1 : w6.cell? ⟨w.heap.size + 1, 1, none⟩ = some (.int .i64 0) := cell_of m1 rfl
  have q0 : w6.frozen? ⟨w.heap.size + 1, 0, none⟩ = false := by simp [World.frozen?, m1]
  have q1 : w6.frozen? ⟨w.heap.size + 1, 1, none⟩ = false := by simp [World.frozen?, m1]
  have hs6 : ((w6.setCell ⟨w.heap.size + 1, 0, none⟩ (.int .i64 k0.f)).setCell ⟨w.heap.size + 1, 1, none⟩ (.int .i64 k0.a)).heap[w.heap.size + 1]? = some (.cells #[.int .i64 k0.f, .int .i64 k0.a] 141 (0, 0)) :=
    setAt2 (o := 1) (.int .i64 k0.a) (setAt2 (o := 0) (.int .i64 k0.f) m1)
  have j0 := cell_of (o := 0) hs6 rfl
  have j1 := cell_of (o := 1) hs6 rfl
  have HFF : Hid (Fr (fun x => (CS c mb r es x ∨ x = pe) ∨ x = w.heap.size + 1) w3 ((w6.setCell ⟨w.heap.size + 1, 0, none⟩ (.int .i64 k0.f)).setCell ⟨w.heap.size + 1, 1, none⟩ (.int .i64 k0.a))) := Lib.hid (((hf6.mono (fun _ _ h => .inl h)).setCell (p := ⟨w.heap.size + 1, 0, none⟩) (.inl (.inr rfl)) _).setCell (p := ⟨w.heap.size + 1, 1, none⟩) (.inl (.inr rfl)) _)
  have HKK : Hid (CacheK ((w6.setCell ⟨w.heap.size + 1, 0, none⟩ (.int .i64 k0.f)).setCell ⟨w.heap.size + 1, 1, none⟩ (.int .i64 k0.a)) c mb r most ([] ++ rest) hit miss) := Lib.hid (h6.keep (R := fun x => x = w.heap.size + 1) (((Fr.refl (fun x => x = w.heap.size + 1) w6).setCell (p := ⟨w.heap.size + 1, 0, none⟩) (.inl rfl) _).setCell (p := ⟨w.heap.size + 1, 1, none⟩) (.inl rfl) _) (fun x hx e => HNC.out x (by omega) (by omega) (HCS5.out x (by
    unfold CS at hx ⊢
    simp only [blocks, List.nil_append, List.map_cons, List.mem_cons] at hx ⊢
    rcases hx with h | h | h | h <;> simp [h]))))
  clear h6 f6 hf6 m1 hs6
  go_wp2_with fail
  refine bodyPost_ret (v := .tuple #[.agg #[.int .i64 k0.f, .int .i64 k0.a], .bool true]) (by simp [results, Tryz.results136, go_sem, j0, j1]) rfl ⟨⟨_, rfl⟩, _, HKK.out, ?_, fun x hx => HMEM.out x hx, HRL.out, fun y hy => ?_⟩
  · exact Fr.trans (HF3.out.mono (fun _ _ h => h.elim)) HFF.out (fun x hx h => by
      rcases h with (h | h) | h
      · exact h
      · have := HSE.out; omega
      · omega)
  · rcases HSUB.out y (.inl hy) with h | h
    · exact .inl h
    · have := HSE.out
      exact .inr (by omega)
set_option maxRecDepth 100000 in
theorem putP_any (c mb r most : Nat) (hit miss : Int) (es : Ents) (k : Kp) (v : Option Addr) (w : World) (h : CacheK w c mb r most es hit miss) (hl : es.length ≤ most) (hm : most ≤ 1000000) :
    Calls Tryz.prog 136 #[.pointer (some ⟨c, 0, none⟩), .agg #[.int .i64 k.f, .int .i64 k.a], .pointer v] w (PutQ c mb r most es hit miss k v w) := by
  cases e : lookF klit es (klit k) with
  | some b =>
    obtain ⟨l1, l2, v0, rfl, hk⟩ := found_split kl_inj h.nodup e
    exact putP_yes c mb r most b hit miss l1 l2 k v0 v w h hk (by simp at hl ⊢; omega)
  | none =>
    by_cases hlt : es.length + 1 ≤ most
    · exact putP_new c mb r most hit miss es k v w h (lost e) (by omega) hlt
    · exact putP_over c mb r most hit miss es k v w h (lost e) (by omega) (by omega) hl
end Pc
end Go.Proofs.YtdbfaknpfepnfaaGreatDoor

/-
  A cache whose keys are places: a new one; as a table sees it.
-/
namespace Go.Proofs.YtdbfaknpfepnfaaGreatDoor
open Go.RowKit Go.Maps
namespace Pc

def kp0 : Kp := ⟨0, 0, by decide, by decide⟩
set_option maxRecDepth 100000 in
theorem new_cache (w : World) (m : Nat) : CacheK (((w.alloc (.cells #[.int .i64 0, .int .i64 0, .pointer none, .pointer (some ⟨w.heap.size, 0, none⟩), .pointer (some ⟨w.heap.size, 0, none⟩)] 186)).alloc (.map #[] 0)).alloc (.cells #[.int .i64 m, .map (some (w.heap.size + 1)), .pointer (some ⟨w.heap.size, 0, none⟩), .int .i64 0, .int .i64 0] 189)) (w.heap.size + 2) (w.heap.size + 1) w.heap.size m [] 0 0 := by
  generalize hN : w.alloc (.cells #[.int .i64 0, .int .i64 0, .pointer none, .pointer (some ⟨w.heap.size, 0, none⟩), .pointer (some ⟨w.heap.size, 0, none⟩)] 186) = w1
  have s1 : w1.heap.size = w.heap.size + 1 := by rw [← hN]; simp
  have b1 : w1.heap[w.heap.size]? = some (.cells #[.int .i64 0, .int .i64 0, .pointer none, .pointer (some ⟨w.heap.size, 0, none⟩), .pointer (some ⟨w.heap.size, 0, none⟩)] 186 (0, 0)) := by
    rw [← hN]; show (w.heap.push _)[w.heap.size]? = _; simp
  have m1 := MapAt.made w1 Tryz.prog 141
  generalize hM : w1.alloc (.map #[] 0) = w2 at *
  have s2 : w2.heap.size = w.heap.size + 2 := by rw [← hM]; simp [s1]
  have b2 : w2.heap[w.heap.size]? = w1.heap[w.heap.size]? := by rw [← hM]; exact Below.heap_alloc _ _ _ (by omega)
  rw [s1] at m1
  generalize hC : w2.alloc _ = w3
  have c3 : w3.heap[w.heap.size + 2]? = some (.cells #[.int .i64 m, .map (some (w.heap.size + 1)), .pointer (some ⟨w.heap.size, 0, none⟩), .int .i64 0, .int .i64 0] 189 (0, 0)) := by
    rw [← hC, ← s2]; show (w2.heap.push _)[w2.heap.size]? = _; simp
  have f3 : Fr (fun _ => False) w2 w3 := by rw [← hC]; exact (Fr.refl _ _).alloc _
  refine ⟨c3, ⟨fun _ => kp0, fun _ => none, fun _ => w.heap.size, fun _ => w.heap.size, fun b hb => ?_, Ring.empty _ _ _ rfl rfl, by simp⟩, ?_, by simp [keys], by omega, by simp [blocks], by simp [blocks]⟩
  · simp [blocks] at hb
    subst hb
    rw [f3.block _ (by omega) (fun h => h), b2, b1]
    rfl
  · exact (m1.keep f3 (fun h => h)).congr (fun kl => rfl)
set_option maxRecDepth 100000 in
theorem below3p (w : World) (a b c : Obj) : Below w.heap.size w (((w.alloc a).alloc b).alloc c) :=
  (((Below.refl _ w).alloc (Nat.le_refl _) _).alloc (by simp) _).alloc (by simp; omega) _
set_option maxRecDepth 100000 in
theorem newP_any (m : Nat) (w : World) :
    Calls Tryz.prog 88 #[.int .i64 m] w fun e w' => e = .returned (.pointer (some ⟨w.heap.size + 2, 0, none⟩)) ∧ CacheK w' (w.heap.size + 2) (w.heap.size + 1) w.heap.size m [] 0 0 ∧ Below w.heap.size w w' := by
  have hmm := @run_makeMap Tryz.prog
  have HC := Lib.hid (new_cache w m)
  go_enter Tryz.func88, Tryz.ntmps88
  go_wp2
  go_ret
  exact ⟨rfl, HC.out, below3p _ _ _ _⟩
/-- What blocks answers: none, or a new cache of four at most. -/
def BlsQ (w : World) (e : Ending) (w' : World) : Prop := Below w.heap.size w w' ∧ (e = .returned (.pointer none) ∨ ∃ c mb r m : Nat, e = .returned (.pointer (some ⟨c, 0, none⟩)) ∧ CacheK w' c mb r m [] 0 0 ∧ m ≤ 4 ∧ ∀ k, CS c mb r [] k → w.heap.size ≤ k)
set_option maxRecDepth 100000 in
theorem blocks_any (n : Nat) (w : World) (hn : n ≤ 9223372036854775807) :
    Calls Tryz.prog 38 #[.int .i64 n] w (BlsQ w) := by
  have HN := Lib.hid (newP_any (n % 5) w)
  rw [show ((n % 5 : Nat) : Int) = (n : Int) % 5 by omega] at HN
  have HR := Lib.hid (Below.refl w.heap.size w)
  by_cases h3 : (n : Int) % 3 = 0
  · have q1 : (((n : Int) % 3) == 0) = true := by rw [beq_iff_eq]; exact h3
    clear h3
    go_enter Tryz.func38, Tryz.ntmps38
    go_wp2_with fail
    go_ret
    exact ⟨HR.out, .inl rfl⟩
  · have q1 : (((n : Int) % 3) == 0) = false := by rw [beq_eq_false_iff_ne]; exact h3
    have hm4 : n % 5 ≤ 4 := by omega
    have HM4 := Lib.hid hm4
    clear h3 hm4
    go_enter Tryz.func38, Tryz.ntmps38
    go_wp2_with fail
    (with_reducible refine HN.out.mono ?_)
    rintro e w1 ⟨rfl, hc, hb⟩
    have HC := Lib.hid hc
    have HB := Lib.hid hb
    clear hc hb
    go_wp2_with fail
    go_ret
    refine ⟨HB.out, .inr ⟨_, _, _, _, rfl, HC.out, HM4.out, fun k hk => ?_⟩⟩
    rcases hk with hk | hk | hk
    · omega
    · omega
    · simp [blocks] at hk
      omega
set_option maxRecDepth 100000 in
theorem CS.kt {c mb r most : Nat} {es : Ents} {hit miss : Int} {w : World} (h : CacheK w c mb r most es hit miss) {k : Nat} (hk : CS c mb r es k) : Kt w k ∧ Held w k := by
  obtain ⟨kv, vv, nx, pv, h1, -, -⟩ := h.ring
  rcases hk with rfl | rfl | hk
  · exact ⟨⟨_, h.cell, by simp [ktO]⟩, ⟨_, h.cell, by simp⟩⟩
  · obtain ⟨D, ⟨es2, clock, hb, -⟩, -⟩ := h.map
    exact ⟨⟨_, hb, rfl⟩, ⟨_, hb, trivial⟩⟩
  · exact ⟨⟨_, h1 k hk, by simp [ktO]⟩, ⟨_, h1 k hk, by simp⟩⟩
set_option maxRecDepth 100000 in
theorem bk_held {w : World} {B p : Nat} {v : Value} {l : List Pr} (h : Bk w B p v l) {S : Nat → Prop} {w' : World} (hf : Fr S w w') (hS : ∀ k, k < w.heap.size → S k → ¬ Held w k) : Bk w' B p v l := by
  refine ⟨(hf.block p (lt_of_block h.cells) (fun hs => hS p (lt_of_block h.cells) hs ⟨_, h.cells, by simp⟩)).trans h.cells, owns_of_block h.row (fun k hk => ?_), h.rise, h.at_⟩
  obtain ⟨cs, hc⟩ := own_type h.row hk
  exact hf.block k (lt_of_block hc) (fun hs => hS k (lt_of_block hc) hs ⟨_, hc, by simp⟩)
/-- A cache of blocks, as it lies. -/
def PcC (B c mb r most : Nat) (file : Int) (Ld : Nat → List Pr → Prop) (w : World) : Prop :=
  ∃ es hit miss, CacheK w c mb r most es hit miss ∧ (∀ k, CS c mb r es k → B ≤ k) ∧ es.length ≤ most ∧ ∀ x ∈ es, x.2.1.f = file ∧ ∃ (a q : Nat) (v : Value) (ps : List Pr), x.2.1.a = a ∧ x.2.2 = some ⟨q, 0, none⟩ ∧ Ld a ps ∧ Bk w 0 q v ps
set_option maxRecDepth 100000 in
theorem wf_small (a : Nat) (ha : a ≤ 1000000000000) : (Lit.int .i64 (a : Int)).wf = true := by
  simp [Lit.wf, IntKind.min, IntKind.max, IntKind.signed, IntKind.bits]; omega
def pcK (B c mb r most : Nat) (file : Int) (hfile : (Lit.int .i64 file).wf = true) (hm : most ≤ 1000000) (Ld : Nat → List Pr → Prop) : Kch (fun k => B ≤ k) (some ⟨c, 0, none⟩) file Ld where
  C := PcC B c mb r most file Ld
  nb := fun _ => True
  keep := fun w w' S ⟨es, hit, miss, h1, h2, h3, h4⟩ hf hS => ⟨es, hit, miss, h1.keep hf (fun k hk hs => hS k (h1.lt k hk) hs (CS.kt h1 hk).2), h2, h3, fun x hx => by
    obtain ⟨e1, a, q, v, ps, e2, e3, e4, e5⟩ := h4 x hx
    exact ⟨e1, a, q, v, ps, e2, e3, e4, bk_held e5 hf hS⟩⟩
  get := fun w a ha ⟨es, hit, miss, h1, h2, h3, h4⟩ => by
    refine (getP_any c mb r most hit miss es ⟨file, a, hfile, wf_small a ha⟩ w h1).mono ?_
    rintro e w' ⟨es', hit', miss', g1, g2, g3, g4, g5⟩
    have hkf : KF (fun k => B ≤ k) w w' := g2.mono (fun k _ hk => ⟨(CS.kt h1 hk).1, h2 k hk⟩)
    refine ⟨hkf, ⟨es', hit', miss', g1, fun k hk => ?_, by omega, fun x hx => ?_⟩, ?_⟩
    · refine h2 k ?_
      rcases hk with hk | hk | hk
      · exact .inl hk
      · exact .inr (.inl hk)
      · refine .inr (.inr ?_)
        rcases List.mem_cons.1 hk with hk | hk
        · simp [hk]
        · obtain ⟨y, hy, rfl⟩ := List.mem_map.1 hk
          exact List.mem_cons_of_mem _ (List.mem_map_of_mem (g3 y hy))
    · obtain ⟨e1, a, q, v, ps, e2, e3, e4, e5⟩ := h4 x (g3 x hx)
      exact ⟨e1, a, q, v, ps, e2, e3, e4, hkf.bk e5⟩
    · rcases g5 with g5 | ⟨b, v, hb, g5⟩
      · exact .inl g5
      · obtain ⟨e1, a', q, vv, ps, e2, e3, e4, e5⟩ := h4 _ hb
        have ha' : a' = a := by
          have e2 : (a : Int) = (a' : Int) := e2
          omega
        subst ha'
        dsimp only at e3
        subst e3
        exact .inr ⟨q, vv, ps, e4, g5, hkf.bk e5, fun _ _ => trivial⟩
  put := fun w a p v ps ha ⟨es, hit, miss, h1, h2, h3, h4⟩ hl hb => by
    refine (putP_any c mb r most hit miss es ⟨file, a, hfile, wf_small a ha⟩ (some ⟨p, 0, none⟩) w h1 h3 hm).mono ?_
    rintro e w' ⟨hz, es', g1, g2, g3, g4, g5⟩
    have hkf : KF (fun k => B ≤ k) w w' := g2.mono (fun k _ hk => ⟨(CS.kt h1 hk).1, h2 k hk⟩)
    refine ⟨hz, hkf, ⟨es', hit, miss, g1, fun k hk => ?_, g4, fun x hx => ?_⟩⟩
    · rcases hk with hk | hk | hk
      · exact h2 k (.inl hk)
      · exact h2 k (.inr (.inl hk))
      · rcases List.mem_cons.1 hk with hk | hk
        · exact h2 k (.inr (.inr (by simp [hk])))
        · rcases g5 k hk with hk | hk
          · exact h2 k (.inr (.inr (List.mem_cons_of_mem _ hk)))
          · have c1 := h2 c (.inl rfl)
            have c2 := h1.lt c (.inl rfl)
            omega
    · rcases g3 x hx with hx | hx
      · obtain ⟨e1, a, q, v, ps, e2, e3, e4, e5⟩ := h4 x hx
        exact ⟨e1, a, q, v, ps, e2, e3, e4, hkf.bk e5⟩
      · rw [hx]
        exact ⟨rfl, a, p, v, ps, rfl, rfl, hl, hkf.bk hb⟩
set_option maxRecDepth 100000 in
theorem pcC_new {B c mb r m : Nat} {file : Int} {Ld : Nat → List Pr → Prop} {w : World} (h : CacheK w c mb r m [] 0 0) (hB : ∀ k, CS c mb r [] k → B ≤ k) : PcC B c mb r m file Ld w :=
  ⟨[], 0, 0, h, hB, by simp, fun x hx => by cases hx⟩
end Pc
end Go.Proofs.YtdbfaknpfepnfaaGreatDoor

/-
  A table that was built and opened, its cache, a cursor, and the pairs beside it.
-/
namespace Go.Proofs.YtdbfaknpfepnfaaGreatDoor
open Go.RowKit CodecP CrcP FrameP BloomP

set_option maxRecDepth 100000 in
theorem goL_whole (bs : List (List Pr)) : goL (bs.map some) = (bs.flatten, false) := by
  induction bs with
  | nil => rfl
  | cons b r ih => simp [goL, ih]
set_option maxRecDepth 100000 in
theorem blsO_built {bs : List (List Pr)} {l : List Pr} (h : BksI bs l) (ks : List (List UInt8)) : blsO (str (tabS bs ks)) (whs 0 bs) = bs.map some := by
  unfold blsO
  refine List.ext_getElem (by simp [whs_len]) (fun i h1 h2 => ?_)
  rw [List.getElem_map, List.getElem_map, blkO_iff]
  exact (whole_built h ks i (by simpa using h1) _).2 rfl
set_option maxRecDepth 100000 in
theorem may_built {bs : List (List Pr)} {l : List Pr} (h : BksI bs l) : ∀ q ∈ bs.flatten, has (make ((keysOf l).map frontK)) (frontK q.1) = true := fun q hq => by
  rw [h.flat] at hq
  exact has_make _ _ (List.mem_map_of_mem (List.mem_map_of_mem (f := fun p : Pr => p.1) hq))
set_option maxRecDepth 100000 in
theorem TbC.of_built {Q : Nat → Prop} {bo : Option Addr} {file : Int} {bs : List (List Pr)} {l : List Pr} (h : TabI bs l) (kc : Kch Q bo file (LdT (tabS bs (keysOf l)) (whs 0 bs))) {w : World} {B p pi : Nat} {vi pv : Value}
    (ht : Tt w B p (str (tabS bs (keysOf l))) file bo (make ((keysOf l).map frontK)) (idx bs) (whs 0 bs) l.length pi vi pv) (hC : kc.C w) : TbC kc w p (str (tabS bs (keysOf l))) (make ((keysOf l).map frontK)) (idx bs) (whs 0 bs) l.length := by
  refine ⟨⟨B, pi, vi, pv, ht⟩, hC, ?_, ?_, fun i hi => h.whs_le i hi, fun i hi ps => ?_⟩
  · have := h.size
    rw [str_len]; omega
  · rw [whs_len]; have := h.bks.few; omega
  · rw [bl_str]; exact ldT_iff _ bs i hi ps
set_option maxRecDepth 100000 in
/-- A table of any bytes that was opened as what was built. -/
theorem TbC.of_any {Q : Nat → Prop} {bo : Option Addr} {file : Int} {bs : List (List Pr)} {l : List Pr} (h : TabI bs l) {r : List UInt8} (hr : r.length ≤ 10000000) (kc : Kch Q bo file (LdT r (whs 0 bs))) {w : World} {B p pi : Nat} {vi pv : Value}
    (ht : Tt w B p (str r) file bo (make ((keysOf l).map frontK)) (idx bs) (whs 0 bs) l.length pi vi pv) (hC : kc.C w) : TbC kc w p (str r) (make ((keysOf l).map frontK)) (idx bs) (whs 0 bs) l.length := by
  refine ⟨⟨B, pi, vi, pv, ht⟩, hC, by rw [str_len]; omega, ?_, fun i hi => h.whs_le i hi, fun i hi ps => ?_⟩
  · rw [whs_len]; have := h.bks.few; omega
  · rw [bl_str]; exact ldT_iff _ bs i hi ps
/-- A table with its cache, and the pairs beside it, in a world of the law's own. -/
structure BkS {Q : Nat → Prop} {bo : Option Addr} {file : Int} {Ld : Nat → List Pr → Prop} (kc : Kch Q bo file Ld) (w0 w : World) (p : Nat) (s : ByteArray) (bits : List UInt8) (ip : List Pr) (L : List Wh) (n : Nat) (nv : Value) (ps : List Pr) : Prop where
  tb : TbC kc w p s bits ip L n
  bel : Below w0.heap.size w0 w
  row : w.ownsRow w0.heap.size 40 2 nv ps.length (flatR ps)
  hQ : ∀ k, Q k → w0.heap.size ≤ k
section
variable {Q : Nat → Prop} {bo : Option Addr} {file : Int} {Ld : Nat → List Pr → Prop} {kc : Kch Q bo file Ld} {w0 w w' : World} {p c : Nat} {s : ByteArray} {bits : List UInt8} {ip : List Pr} {L : List Wh} {n : Nat} {nv : Value} {ps : List Pr}
set_option maxRecDepth 100000 in
theorem BkS.kf (h : BkS kc w0 w p s bits ip L n nv ps) (hf : KF Q w w') (ht : TbC kc w' p s bits ip L n) : BkS kc w0 w' p s bits ip L n nv ps :=
  ⟨ht, h.bel.trans (Fr.below hf h.bel.size (fun k _ hk => h.hQ k hk.2)), hf.row h.row (by decide) (by decide), h.hQ⟩
set_option maxRecDepth 100000 in
theorem BkS.below (h : BkS kc w0 w p s bits ip L n nv ps) (hb : Below w.heap.size w w') : BkS kc w0 w' p s bits ip L n nv ps := h.kf (KF.of_below hb) (h.tb.below hb)
set_option maxRecDepth 100000 in
theorem BkS.kcu (h : BkS kc w0 w p s bits ip L n nv ps) (hc : w0.heap.size ≤ c) (hcell : ∃ cs f, w.heap[c]? = some (.cells cs 157 f)) (hf : KC Q c w w') (ht : TbC kc w' p s bits ip L n) : BkS kc w0 w' p s bits ip L n nv ps := by
  refine ⟨ht, h.bel.trans (Fr.below hf h.bel.size (fun k _ hk => ?_)), owns_of_block h.row (fun k hk => ?_), h.hQ⟩
  · rcases hk with rfl | hk
    · exact hc
    · exact h.hQ k hk.2
  · obtain ⟨cs, hcs⟩ := own_type h.row hk
    obtain ⟨cs2, f2, hc2⟩ := hcell
    refine hf.block k (lt_of_block hcs) ?_
    rintro (rfl | ⟨⟨o, ho, hb⟩, -⟩)
    · rw [hcs] at hc2
      injection hc2 with hc2
      injection hc2 with _ h4
      exact absurd h4 (by decide)
    · rw [hcs] at ho
      injection ho with ho
      subst ho
      simp [ktO] at hb
set_option maxRecDepth 100000 in
theorem BkS.nkf (h : BkS kc w0 w p s bits ip L n nv ps) (hn : ∀ W, Below w0.heap.size w0 W → Nibs W) : ∀ W, KF Q w W → Nibs W :=
  fun W hW => hn W (h.bel.trans (Fr.below hW h.bel.size (fun k _ hk => h.hQ k hk.2)))
set_option maxRecDepth 100000 in
theorem BkS.nkc (h : BkS kc w0 w p s bits ip L n nv ps) (hc : w0.heap.size ≤ c) (hn : ∀ W, Below w0.heap.size w0 W → Nibs W) : ∀ W, KC Q c w W → Nibs W :=
  fun W hW => hn W (h.bel.trans (Fr.below hW h.bel.size (fun k _ hk => hk.elim (fun e => e ▸ hc) (fun hk => h.hQ k hk.2))))
set_option maxRecDepth 100000 in
theorem cu_cell {bls : List (Option (List Pr))} {r : List Pr} {bad : Bool} (h : Cu w c p bls r bad) : ∃ cs f, w.heap[c]? = some (.cells cs 157 f) := by
  rcases h with ⟨i, a, h1, h2⟩ | ⟨i, a, q, v, ps, h1, h2, h3, h4, h5⟩
  · exact ⟨_, _, h2⟩
  · exact ⟨_, _, h5⟩
end
set_option maxRecDepth 100000 in
/-- The law's blocks: a cache as a table sees it, or none. -/
theorem blocks_kch (n : Nat) (w : World) (file : Int) (hfile : (Lit.int .i64 file).wf = true) (Ld : Nat → List Pr → Prop) (hn : n ≤ 9223372036854775807) :
    Calls Tryz.prog 38 #[.int .i64 n] w fun e w' => Below w.heap.size w w' ∧ ∃ (Q : Nat → Prop) (bo : Option Addr) (kc : Kch Q bo file Ld), e = .returned (.pointer bo) ∧ kc.C w' ∧ ∀ k, Q k → w.heap.size ≤ k := by
  refine (Pc.blocks_any n w hn).mono ?_
  rintro e w' ⟨hb, rfl | ⟨c, mb, r, m, rfl, hk, hm, hB⟩⟩
  · exact ⟨hb, _, _, nilK file Ld, rfl, trivial, fun k hk => hk.elim⟩
  · exact ⟨hb, _, _, Pc.pcK w.heap.size c mb r m file hfile (by omega) Ld, rfl, Pc.pcC_new hk hB, fun k hk => hk⟩
end Go.Proofs.YtdbfaknpfepnfaaGreatDoor

/-
  What the claims of this seat share: the table that was laid.
-/
namespace Go.Proofs.YtdbfaknpfepnfaaGreatDoor
open Go.ChangeShapes Go.WideShapes Go.ChangeAt Go.RowKit Go.ChangeMaps

noncomputable def laidWorld (os : Os) : World :=
  { World.holding Tryz.prog os ⟨#[], #[], []⟩ with heap := (World.holding Tryz.prog os ⟨#[], #[], []⟩).heap.modify 1 fun
      | .cells _ t frozen => .cells #[.int .u32 0, .int .u32 274646895, .int .u32 549293790, .int .u32 820201905, .int .u32 1098587580, .int .u32 1361435347, .int .u32 1640403810, .int .u32 1905808397, .int .u32 2197175160, .int .u32 2460548119, .int .u32 2722870694, .int .u32 2987750089, .int .u32 3280807620, .int .u32 3553878443, .int .u32 3811616794, .int .u32 4084100981] t frozen
      | o => o }
end Go.Proofs.YtdbfaknpfepnfaaGreatDoor

/-
  What the claims of this seat share: the table of four bits, as it was laid.
-/
namespace Go.Proofs.YtdbfaknpfepnfaaGreatDoor
open Go.ChangeShapes Go.WideShapes Go.ChangeAt Go.RowKit Go.ChangeMaps

set_option maxRecDepth 100000 in
theorem gTab : Tryz.prog.globalNamed "debenture/crc.nibbles" = some 1 := by kernel_rfl
set_option maxRecDepth 100000 in
theorem gTabType : (Tryz.prog.globals[1]?).map (·.type) = some 222 := by kernel_rfl
set_option maxRecDepth 100000 in
theorem cellsT : Tryz.prog.cellsOf 222 = 16 := by kernel_rfl
set_option maxRecDepth 100000 in
theorem cellsE : Tryz.prog.cellsOf 70 = 1 := by kernel_rfl
set_option maxRecDepth 100000 in
theorem table {W : World} (h : laidMetH Tryz.prog [("debenture/crc.nibbles", Rows.laid_debenture_crc_nibbles)] W) : Lib.TabIs Tryz.prog W "debenture/crc.nibbles" .u32 (CrcP.nibs.map fun (n : Nat) => (n : Int)) :=
  Lib.tabIs_of_head (rest := []) gTab gTabType Tryz.underlying222 Tryz.underlying70 cellsE cellsT h
set_option maxRecDepth 100000 in
/-- The table of four bits lies where it was laid. -/
theorem nibs_of {W : World} (h : laidMetH Tryz.prog [("debenture/crc.nibbles", Rows.laid_debenture_crc_nibbles)] W) : Nibs W := by
  intro i hi
  have h1 := (table h).cell gTab i hi
  rw [h1]
  congr 2
  have h2 : ∀ k : Fin 16, (CrcP.nibs.map fun (n : Nat) => (n : Int)).getD k.val 0 = ((CrcP.nibs.getD k.val 0 : Nat) : Int) := by decide
  exact h2 ⟨i, hi⟩
set_option maxRecDepth 100000 in
theorem nibs_all {W : World} (h : laidMetH Tryz.prog [("debenture/crc.nibbles", Rows.laid_debenture_crc_nibbles)] W) : ∀ V, Below W.heap.size W V → Nibs V := fun _ hV => (nibs_of h).below hV
end Go.Proofs.YtdbfaknpfepnfaaGreatDoor
