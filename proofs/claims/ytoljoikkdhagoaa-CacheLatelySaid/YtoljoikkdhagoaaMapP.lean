/-
  A map of entries in memory, as a function; a cache in memory.
-/
import Derived.Test.YtoljoikkdhagoaaRingP
namespace Go.Proofs.Ytoljoikkdhagoaa
open Go.RowKit Go.Maps
attribute [local instance] Classical.propDecidable

/-- How a pointer to an entry reads. -/
def ptrR : Value → Option (DataW Unit × List MemPlace)
  | .pointer none => some (.lit (.int .i64 (-1)), [])
  | .pointer (some ⟨b, 0, none⟩) => some (.lit (.int .i64 b), [])
  | _ => none
theorem ptrR_none {v : Value} {ps : List MemPlace} (h : ptrR v = some (.lit (.int .i64 (-1)), ps)) : v = .pointer none := by
  unfold ptrR at h
  split at h
  · rfl
  · simp at h
  · cases h
theorem ptrR_some {v : Value} {ps : List MemPlace} {b : Nat} (h : ptrR v = some (.lit (.int .i64 b), ps)) : v = .pointer (some ⟨b, 0, none⟩) := by
  unfold ptrR at h
  split at h
  · simp at h
  · rename_i c; simp at h; obtain ⟨h, _⟩ := h; have : c = b := by omega
    rw [this]
  · cases h
/-- A map whose elements are pointers to entries, as a function. -/
def MapAt (w : World) (P : Program) (k : TypeId) (mb : Nat) (f : Lit → Option Nat) (n : Nat) : Prop :=
  ∃ D, w.ownsMap P k ptrR mb n D ∧ Maps.size D = n ∧ (∀ kl, Maps.has D kl = (f kl).isSome) ∧ ∀ kl b, f kl = some b → D.atKey kl (.lit (.int .i64 (-1))) = .lit (.int .i64 b)
section
variable {w w' : World} {P : Program} {k e t : TypeId} {mb : Nat} {f : Lit → Option Nat} {n : Nat}
theorem owns_tight {H : Type} {P : Program} {k : TypeId} {R : Value → Option (DataW H × List MemPlace)} {w : World} {b n : Nat} {D : DataW H} (h : w.ownsMap P k R b n D) : w.ownsMap P k R b (Maps.size D) D := by
  obtain ⟨es, clock, hb, F, hs, rfl⟩ := h
  exact ⟨es, clock, hb, F, by simp [Maps.size, length_sorted], rfl⟩
theorem MapAt.made (w : World) (P : Program) (k : TypeId) : MapAt (w.alloc (.map #[] 0)) P k w.heap.size (fun _ => none) 0 :=
  ⟨_, World.ownsMap_made w P k ptrR, rfl, fun _ => rfl, fun _ _ h => by cases h⟩
theorem MapAt.lt (h : MapAt w P k mb f n) : mb < w.heap.size := by
  obtain ⟨D, h1, _⟩ := h; exact h1.lt
theorem MapAt.keep {R : Nat → Prop} (h : MapAt w P k mb f n) (hf : Fr R w w') (hR : ¬ R mb) : MapAt w' P k mb f n := by
  obtain ⟨D, h1, r⟩ := h
  have hlt := h1.lt
  obtain ⟨es, clock, hb, s⟩ := h1
  exact ⟨D, ⟨es, clock, (hf.block mb hlt hR).trans hb, s⟩, r⟩
theorem MapAt.congr {g : Lit → Option Nat} (h : MapAt w P k mb f n) (e : ∀ kl, g kl = f kl) : MapAt w P k mb g n := by
  have : g = f := funext e
  rw [this]; exact h
theorem MapAt.look (h : MapAt w P k mb f n) (K : Keyed P k) (ht : P.underlying t = some (.map k e)) (hz : (zeroValue e).run P w = .ok (.pointer none) w) {key : Value} {kl : Lit} (hkey : keyOf P k key = some kl) :
    (Instr.lookup t (.map (some mb)) key true).run P w = .ok (.tuple #[.pointer ((f kl).map fun b => ⟨b, 0, none⟩), .bool (f kl).isSome]) w := by
  obtain ⟨D, h1, h2, h3, h4⟩ := h
  obtain ⟨v, ps, hrun, hv⟩ := h1.look_ok K ht hz (zd := .lit (.int .i64 (-1))) (zp := []) rfl hkey
  rw [hrun, h3 kl]
  cases hf : f kl with
  | none =>
    rw [Maps.atKey_of_not_has (by rw [h3 kl, hf]; rfl)] at hv
    rw [ptrR_none hv]; rfl
  | some b =>
    rw [h4 kl b hf] at hv
    rw [ptrR_some hv]; rfl
theorem MapAt.len (h : MapAt w P k mb f n) (ht : P.underlying t = some (.map k e)) (ty : TypeId) : (Builtin.len_ #[t] ty #[.map (some mb)]).run P w = .ok (.int .i64 n) w := by
  obtain ⟨D, h1, h2, _⟩ := h
  rw [h1.len ht ty, h2]
theorem Fr.turned {w w' : World} {b : Nat} (h : w.mapTurned w' b) : Fr (· = b) w w' :=
  (Fr.refl _ w).grown h.grown (fun _ _ e => by injection e with e; exact e.symm)
theorem MapAt.store (h : MapAt w P k mb f n) (K : Keyed P k) (ht : P.underlying t = some (.map k e)) (hn : n < maxLen) {key : Value} {kl : Lit} (hkey : keyOf P k key = some kl) (b : Nat) (hk : f kl = none) :
    ∃ w', (Instr.mapUpdate t (.map (some mb)) key (.pointer (some ⟨b, 0, none⟩))).run P w = .ok () w' ∧ MapAt w' P k mb (fun x => if x = kl then some b else f x) (n + 1) ∧ Fr (· = mb) w w' := by
  obtain ⟨D, h1, h2, h3, h4⟩ := h
  have htd := h1.tidy K
  obtain ⟨w', hrun, ho, ht'⟩ := h1.store K ht hn hkey (val := .pointer (some ⟨b, 0, none⟩)) (d := .lit (.int .i64 b)) (ps := []) rfl
  refine ⟨w', hrun, ⟨_, ho, ?_, fun x => ?_, fun x c hx => ?_⟩, Fr.turned ht'⟩
  · rw [Maps.size_put htd, h3 kl, hk, h2]; rfl
  · by_cases e : x = kl
    · subst e; rw [Maps.has_put_same htd.isMap (K.key hkey)]; simp
    · rw [Maps.has_put_other e, h3 x]; dsimp only; rw [if_neg e]
  · by_cases e : x = kl
    · subst e
      simp only [if_true, Option.some.injEq] at hx
      subst hx
      exact Maps.atKey_put_same htd.isMap (K.key hkey) _ _
    · dsimp only at hx; rw [if_neg e] at hx
      rw [Maps.atKey_put_other e]; exact h4 x c hx
theorem MapAt.drop (h : MapAt w P k mb f n) (K : Keyed P k) (ht : P.underlying t = some (.map k e)) {key : Value} {kl : Lit} (hkey : keyOf P k key = some kl) (hk : (f kl).isSome = true) (ty : TypeId) :
    ∃ w', (Builtin.delete_ #[t, k] ty #[.map (some mb), key]).run P w = .ok (.tuple #[]) w' ∧ MapAt w' P k mb (fun x => if x = kl then none else f x) (n - 1) ∧ Fr (· = mb) w w' := by
  obtain ⟨D, h1, h2, h3, h4⟩ := h
  have htd := h1.tidy K
  obtain ⟨w', hrun, ho, ht'⟩ := h1.drop K ht hkey ty
  have hsz : Maps.size (D.del kl) = n - 1 := by
    have := Maps.size_del (k := kl) htd
    rw [h3 kl, hk] at this
    simp at this
    omega
  refine ⟨w', hrun, ⟨_, hsz ▸ owns_tight ho, hsz, fun x => ?_, fun x c hx => ?_⟩, Fr.turned ht'⟩
  · by_cases e : x = kl
    · subst e; rw [Maps.has_del_same]; simp
    · rw [Maps.has_del_other e, h3 x]; dsimp only; rw [if_neg e]
  · by_cases e : x = kl
    · subst e; simp at hx
    · dsimp only at hx; rw [if_neg e] at hx
      rw [Maps.atKey_del_other e]; exact h4 x c hx
end
/-- A list of entries: block, key, value; the eldest first. -/
abbrev Ents (K : Type) := List (Nat × K × Int)
def blocks {K : Type} (es : Ents K) : List Nat := es.map (·.1)
def keys {K : Type} (es : Ents K) : List K := es.map (·.2.1)
noncomputable def lookF {K : Type} (klit : K → Lit) (es : Ents K) : Lit → Option Nat := fun kl => (es.find? (fun x => decide (klit x.2.1 = kl))).map (·.1)
/-- A cache, as it lies. -/
structure CacheAt {K : Type} (P : Program) (TE TC KT : TypeId) (kval : K → Value) (klit : K → Lit) (w : World) (c mb r : Nat) (most : Nat) (es : Ents K) (hit miss : Nat) : Prop where
  cell : w.heap[c]? = some (.cells #[.int .i64 most, .map (some mb), .pointer (some ⟨r, 0, none⟩), .int .i64 hit, .int .i64 miss] TC (0, 0))
  ring : ∃ kv vv nx pv, NodesAt w TE (r :: blocks es) kv vv nx pv ∧ Ring r (blocks es) nx pv ∧ ∀ x ∈ es, kv x.1 = kval x.2.1 ∧ vv x.1 = x.2.2
  map : MapAt w P KT mb (lookF klit es) es.length
  nodup : (keys es).Nodup
  cmb : c ≠ mb
  cS : c ∉ r :: blocks es
  mS : mb ∉ r :: blocks es
/-- The blocks of a cache. -/
def CS {K : Type} (c mb r : Nat) (es : Ents K) : Nat → Prop := fun k => k = c ∨ k = mb ∨ k ∈ r :: blocks es
theorem CacheAt.keep {K : Type} {P : Program} {TE TC KT : TypeId} {kval : K → Value} {klit : K → Lit} {w w' : World} {c mb r most hit miss : Nat} {es : Ents K} {R : Nat → Prop}
    (h : CacheAt P TE TC KT kval klit w c mb r most es hit miss) (hf : Fr R w w') (hR : ∀ k, CS c mb r es k → ¬ R k) : CacheAt P TE TC KT kval klit w' c mb r most es hit miss := by
  obtain ⟨kv, vv, nx, pv, h1, h2, h3⟩ := h.ring
  exact ⟨(hf.block c (lt_of_block h.cell) (hR c (.inl rfl))).trans h.cell, ⟨kv, vv, nx, pv, h1.keep hf (fun b hb => hR b (.inr (.inr hb))), h2, h3⟩, h.map.keep hf (hR mb (.inr (.inl rfl))), h.nodup, h.cmb, h.cS, h.mS⟩
theorem CacheAt.lt {K : Type} {P : Program} {TE TC KT : TypeId} {kval : K → Value} {klit : K → Lit} {w : World} {c mb r most hit miss : Nat} {es : Ents K}
    (h : CacheAt P TE TC KT kval klit w c mb r most es hit miss) (k : Nat) (hk : CS c mb r es k) : k < w.heap.size := by
  obtain ⟨kv, vv, nx, pv, h1, _⟩ := h.ring
  rcases hk with rfl | rfl | hk
  · exact lt_of_block h.cell
  · exact h.map.lt
  · exact h1.lt hk
/-- An entry that is found. -/
theorem found_split {K : Type} {klit : K → Lit} (hinj : ∀ a b, klit a = klit b → a = b) {es : Ents K} (hnd : (keys es).Nodup) {k : K} {b : Nat} (h : lookF klit es (klit k) = some b) :
    ∃ l1 l2 v, es = l1 ++ (b, k, v) :: l2 ∧ ∀ x ∈ l1 ++ l2, x.2.1 ≠ k := by
  unfold lookF at h
  cases hf : es.find? (fun x => decide (klit x.2.1 = klit k)) with
  | none => rw [hf] at h; cases h
  | some x =>
    rw [hf] at h
    simp only [Option.map_some, Option.some.injEq] at h
    obtain ⟨hx, l1, l2, rfl, h1⟩ := List.find?_eq_some_iff_append.1 hf
    have hxk := hinj _ _ (of_decide_eq_true hx)
    obtain ⟨b', k', v⟩ := x
    dsimp only at h hxk
    subst h hxk
    refine ⟨l1, l2, v, rfl, fun y hy => ?_⟩
    unfold keys at hnd
    rw [List.map_append, List.map_cons, List.nodup_append] at hnd
    rcases List.mem_append.1 hy with hy | hy
    · exact hnd.2.2 _ (List.mem_map_of_mem (f := fun x : Nat × K × Int => x.2.1) hy) k' (by simp)
    · intro e
      exact (List.nodup_cons.1 hnd.2.1).1 (by have := List.mem_map_of_mem (f := fun x : Nat × K × Int => x.2.1) hy; rw [e] at this; exact this)
theorem lost {K : Type} {klit : K → Lit} {es : Ents K} {k : K} (h : lookF klit es (klit k) = none) : ∀ x ∈ es, x.2.1 ≠ k := by
  unfold lookF at h
  rw [Option.map_eq_none_iff, List.find?_eq_none] at h
  intro x hx e
  exact h x hx (by simp [e])
theorem lookF_of {K : Type} {klit : K → Lit} (hinj : ∀ a b, klit a = klit b → a = b) (es : Ents K) (l1 l2 : Ents K) (b : Nat) (k : K) (v v' : Int) (he : es = l1 ++ (b, k, v) :: l2) (h : ∀ x ∈ l1 ++ l2, x.2.1 ≠ k) (kl : Lit) :
    lookF klit (l1 ++ l2 ++ [(b, k, v')]) kl = lookF klit es kl ∧ lookF klit (l1 ++ l2) kl = if kl = klit k then none else lookF klit es kl := by
  subst he
  unfold lookF
  by_cases e : kl = klit k
  · subst e
    have h1 : ∀ l : Ents K, (∀ x ∈ l, x.2.1 ≠ k) → l.find? (fun x => decide (klit x.2.1 = klit k)) = none := fun l hl => List.find?_eq_none.2 (fun x hx => by simpa using fun e => hl x hx (hinj _ _ e))
    have a1 := h1 l1 (fun x hx => h x (by simp [hx]))
    have a2 := h1 (l1 ++ l2) h
    refine ⟨?_, ?_⟩
    · rw [List.find?_append, a2, List.find?_append, a1]; simp
    · rw [a2]; simp
  · have h1 : decide (klit k = kl) = false := by simpa using fun x => e x.symm
    refine ⟨?_, ?_⟩
    · simp only [List.find?_append, List.find?_cons, h1, List.find?_nil, Option.or_none]
    · rw [if_neg e]
      simp only [List.find?_append, List.find?_cons, h1]
theorem fr_set (w : World) (a : Addr) (u : Value) : Fr (· = a.block) w (w.setCell a u) := (Fr.refl (· = a.block) w).setCell (.inl rfl) u
theorem blocks_append {K : Type} (a b : Ents K) : blocks (a ++ b) = blocks a ++ blocks b := by simp [blocks]
theorem NodesAt.sub {w : World} {T : TypeId} {S S' : List Nat} {kv : Nat → Value} {vv : Nat → Int} {nx pv : Nat → Nat} (h : NodesAt w T S kv vv nx pv) (hs : ∀ b ∈ S', b ∈ S) : NodesAt w T S' kv vv nx pv := fun b hb => h b (hs b hb)
/-- A cache out of whose ring an entry was taken, or into which a new one has yet to come. -/
structure Gone {K : Type} (P : Program) (TE TC KT : TypeId) (kval : K → Value) (w : World) (c mb r : Nat) (most : Nat) (es : Ents K) (hit miss : Nat) (b : Nat) (k : K) (v : Int) (f : Lit → Option Nat) (n : Nat) : Prop where
  cell : w.heap[c]? = some (.cells #[.int .i64 most, .map (some mb), .pointer (some ⟨r, 0, none⟩), .int .i64 hit, .int .i64 miss] TC (0, 0))
  ring : ∃ kv vv nx pv, NodesAt w TE (r :: blocks es) kv vv nx pv ∧ Ring r (blocks es) nx pv ∧ ∀ x ∈ es, kv x.1 = kval x.2.1 ∧ vv x.1 = x.2.2
  ent : ∃ x2 x3, w.heap[b]? = some (.cells #[kval k, .int .i64 v, x2, x3] TE (0, 0))
  map : MapAt w P KT mb f n
  nodup : (keys es).Nodup
  hk : ∀ x ∈ es, x.2.1 ≠ k
  cmb : c ≠ mb
  cS : c ∉ b :: r :: blocks es
  mS : mb ∉ b :: r :: blocks es
  bS : b ∉ r :: blocks es
section
variable {K : Type} {P : Program} {TE TC KT : TypeId} {kval : K → Value} {klit : K → Lit} {w w' : World} {c mb r most hit miss b n : Nat} {es : Ents K} {k : K} {v : Int} {f : Lit → Option Nat}
theorem Gone.keep {R : Nat → Prop} (h : Gone P TE TC KT kval w c mb r most es hit miss b k v f n) (hf : Fr R w w') (hR : ∀ x, CS c mb r es x ∨ x = b → ¬ R x) : Gone P TE TC KT kval w' c mb r most es hit miss b k v f n := by
  obtain ⟨kv, vv, nx, pv, h1, h2, h3⟩ := h.ring
  obtain ⟨x2, x3, h4⟩ := h.ent
  exact ⟨(hf.block c (lt_of_block h.cell) (hR c (.inl (.inl rfl)))).trans h.cell, ⟨kv, vv, nx, pv, h1.keep hf (fun x hx => hR x (.inl (.inr (.inr hx)))), h2, h3⟩, ⟨x2, x3, (hf.block b (lt_of_block h4) (hR b (.inr rfl))).trans h4⟩,
    h.map.keep hf (hR mb (.inl (.inr (.inl rfl)))), h.nodup, h.hk, h.cmb, h.cS, h.mS, h.bS⟩
theorem Gone.val (h : Gone P TE TC KT kval w c mb r most es hit miss b k v f n) (v' : Int) : Gone P TE TC KT kval (w.setCell ⟨b, 1, none⟩ (.int .i64 v')) c mb r most es hit miss b k v' f n := by
  obtain ⟨kv, vv, nx, pv, h1, h2, h3⟩ := h.ring
  obtain ⟨x2, x3, h4⟩ := h.ent
  have hcb : c ≠ b := fun e => h.cS (by simp [e])
  have hmb : mb ≠ b := fun e => h.mS (by simp [e])
  refine ⟨by rw [set_off _ (by exact hcb)]; exact h.cell, ⟨kv, vv, nx, pv, fun x hx => by rw [set_off _ (by exact fun e => h.bS ((show x = b from e) ▸ hx))]; exact h1 x hx, h2, h3⟩, ⟨x2, x3, by rw [set_at _ h4]; rfl⟩,
    h.map.keep (fr_set w ⟨b, 1, none⟩ _) hmb, h.nodup, h.hk, h.cmb, h.cS, h.mS, h.bS⟩
/-- The entry has come in as the youngest. -/
theorem Gone.ends {kv : Nat → Value} {vv : Nat → Int} {nx pv : Nat → Nat} (h : Gone P TE TC KT kval w c mb r most es hit miss b k v f n) (hf : Fr (· ∈ b :: r :: blocks es) w w') (h3 : ∀ x ∈ es, kv x.1 = kval x.2.1 ∧ vv x.1 = x.2.2)
    (hN : NodesAt w' TE (b :: r :: blocks es) (upd kv b (kval k)) (upd vv b v) nx pv) (hR : Ring r (blocks es ++ [b]) nx pv) (hl : f = lookF klit (es ++ [(b, k, v)])) (hn : n = es.length + 1) :
    CacheAt P TE TC KT kval klit w' c mb r most (es ++ [(b, k, v)]) hit miss := by
  have hbl : blocks (es ++ [(b, k, v)]) = blocks es ++ [b] := by simp [blocks]
  refine ⟨(hf.block c (lt_of_block h.cell) h.cS).trans h.cell, ⟨_, _, nx, pv, hN.sub ?_, by rw [hbl]; exact hR, fun x hx => ?_⟩, ?_, ?_, h.cmb, ?_, ?_⟩
  · rw [hbl]; intro x hx; simp at hx ⊢; rcases hx with h | h | h <;> simp [h]
  · rcases List.mem_append.1 hx with hx | hx
    · have hne : x.1 ≠ b := fun e => h.bS (by rw [← e]; exact List.mem_cons_of_mem _ (List.mem_map_of_mem (f := fun x : Nat × K × Int => x.1) hx))
      rw [upd_other _ _ _ hne, upd_other _ _ _ hne]; exact h3 x hx
    · simp at hx; subst hx; exact ⟨upd_same _ _ _, upd_same _ _ _⟩
  · have := h.map.keep hf h.mS
    rw [hl, hn] at this
    simpa using this
  · unfold keys
    rw [List.map_append, List.nodup_append]
    refine ⟨h.nodup, by simp, fun a ha x hx => ?_⟩
    simp at hx; subst hx
    obtain ⟨y, hy, rfl⟩ := List.mem_map.1 ha
    exact h.hk y hy
  · rw [hbl]; intro x; exact h.cS (by simp at x ⊢; rcases x with x | x | x <;> simp [x])
  · rw [hbl]; intro x; exact h.mS (by simp at x ⊢; rcases x with x | x | x <;> simp [x])
theorem CacheAt.hits (h : CacheAt P TE TC KT kval klit w c mb r most es hit miss) (hit' : Nat) : CacheAt P TE TC KT kval klit (w.setCell ⟨c, 3, none⟩ (.int .i64 hit')) c mb r most es hit' miss := by
  obtain ⟨kv, vv, nx, pv, h1, h2, h3⟩ := h.ring
  exact ⟨by rw [set_at _ h.cell]; rfl, ⟨kv, vv, nx, pv, fun x hx => by rw [set_off _ (by exact fun e => h.cS ((show x = c from e) ▸ hx))]; exact h1 x hx, h2, h3⟩, h.map.keep (fr_set w ⟨c, _, none⟩ _) h.cmb.symm, h.nodup, h.cmb, h.cS, h.mS⟩
theorem CacheAt.misses (h : CacheAt P TE TC KT kval klit w c mb r most es hit miss) (miss' : Nat) : CacheAt P TE TC KT kval klit (w.setCell ⟨c, 4, none⟩ (.int .i64 miss')) c mb r most es hit miss' := by
  obtain ⟨kv, vv, nx, pv, h1, h2, h3⟩ := h.ring
  exact ⟨by rw [set_at _ h.cell]; rfl, ⟨kv, vv, nx, pv, fun x hx => by rw [set_off _ (by exact fun e => h.cS ((show x = c from e) ▸ hx))]; exact h1 x hx, h2, h3⟩, h.map.keep (fr_set w ⟨c, _, none⟩ _) h.cmb.symm, h.nodup, h.cmb, h.cS, h.mS⟩
/-- A cache that the call itself has made. -/
structure OwnC {K : Type} (P : Program) (TE TC KT : TypeId) (kval : K → Value) (klit : K → Lit) (w0 w : World) (c mb r : Nat) (most : Nat) (es : Ents K) (hit miss : Nat) : Prop where
  at_ : CacheAt P TE TC KT kval klit w c mb r most es hit miss
  bel : Below w0.heap.size w0 w
  base : ∀ k, CS c mb r es k → w0.heap.size ≤ k
theorem OwnC.step {w0 : World} {es' : Ents K} {hit' miss' : Nat} (h : OwnC P TE TC KT kval klit w0 w c mb r most es hit miss) (h' : CacheAt P TE TC KT kval klit w' c mb r most es' hit' miss') (f : Fr (CS c mb r es) w w') (hs : ∀ k ∈ blocks es', k ∈ blocks es ∨ w.heap.size ≤ k) :
    OwnC P TE TC KT kval klit w0 w' c mb r most es' hit' miss' := by
  refine ⟨h', h.bel.trans (f.below h.bel.size (fun k _ hk => h.base k hk)), fun k hk => ?_⟩
  rcases hk with hk | hk | hk
  · exact h.base k (.inl hk)
  · exact h.base k (.inr (.inl hk))
  · rcases List.mem_cons.1 hk with hk | hk
    · exact h.base k (.inr (.inr (by simp [hk])))
    · rcases hs k hk with hk | hk
      · exact h.base k (.inr (.inr (List.mem_cons_of_mem _ hk)))
      · exact Nat.le_trans h.bel.size hk
theorem OwnC.keep {w0 : World} {R : Nat → Prop} (h : OwnC P TE TC KT kval klit w0 w c mb r most es hit miss) (f : Fr R w w') (hR : ∀ k, k < w.heap.size → R k → False) : OwnC P TE TC KT kval klit w0 w' c mb r most es hit miss :=
  ⟨h.at_.keep f (fun k hk hr => hR k (h.at_.lt k hk) hr), h.bel.trans (f.below h.bel.size (fun k hk hr => (hR k hk hr).elim)), h.base⟩
theorem lookF_no {hinj : ∀ a b, klit a = klit b → a = b} (h : ∀ x ∈ es, x.2.1 ≠ k) : lookF klit es (klit k) = none := by
  unfold lookF
  rw [List.find?_eq_none.2 (fun x hx => by simpa using fun e => h x hx (hinj _ _ e))]; rfl
theorem lookF_new (h : lookF klit es (klit k) = none) (kl : Lit) : lookF klit (es ++ [(b, k, v)]) kl = if kl = klit k then some b else lookF klit es kl := by
  unfold lookF at h ⊢
  rw [List.find?_append]
  by_cases e : kl = klit k
  · subst e
    rw [if_pos rfl, Option.map_eq_none_iff.1 h]; simp
  · rw [if_neg e]
    have h1 : decide (klit k = kl) = false := by simpa using fun x => e x.symm
    simp only [List.find?_cons, h1, List.find?_nil, Option.or_none]
end
end Go.Proofs.Ytoljoikkdhagoaa
