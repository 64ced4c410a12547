/-
  Texts of the claim, joined: RingP, MapP, PcP, PcW, Pc5W, Pc6W, TabBkP, RefTP.
-/
import Derived.Test.YtdbfaknpfepnfaaGreatDoorMxBK33
import Derived.Test.YtdbfaknpfepnfaaGreatDoorMxBK6
import Derived.DeepKeys4
import Derived.Deep.RegionWith
import Derived.Test.YtdbfaknpfepnfaaGreatDoorMxBK16
import Derived.Test.YtdbfaknpfepnfaaGreatDoorMxBK19
import Derived.Test.YtdbfaknpfepnfaaGreatDoorMxBK26
import Derived.Test.YtdbfaknpfepnfaaGreatDoorMxBK24
set_option maxRecDepth 100000
set_option maxHeartbeats 40000000
namespace Go.Proofs.YtdbfaknpfepnfaaGreatDoor
open Go.RowKit Go.Maps

def Lk (nx pv : Nat → Nat) : List Nat → Prop
 | a :: b :: l => (nx a = b ∧ pv b = a) ∧ Lk nx pv (b :: l)
 | _ => True
theorem Lk.append {nx pv : Nat → Nat} (A : List Nat) (a b : Nat) (B : List Nat) : Lk nx pv (A ++ a :: b :: B) ↔ Lk nx pv (A ++ [a]) ∧ (nx a = b ∧ pv b = a) ∧ Lk nx pv (b :: B) := by
 induction A with
 | nil => simp [Lk]
 | cons x A ih =>
  cases A with
  | nil => simp only [List.nil_append, List.cons_append, Lk]; simp [and_assoc]
  | cons y A =>
   simp only [List.cons_append, Lk] at ih ⊢
   rw [ih]; simp [and_assoc]
theorem Lk.congr {nx pv nx' pv' : Nat → Nat} (L : List Nat) (h1 : ∀ a ∈ L.dropLast, nx' a = nx a) (h2 : ∀ b ∈ L.tail, pv' b = pv b) (h : Lk nx pv L) : Lk nx' pv' L := by
 induction L with
 | nil => exact h
 | cons a L ih =>
  cases L with
  | nil => exact h
  | cons b L =>
   obtain ⟨⟨e1, e2⟩, h3⟩ := h
   refine ⟨⟨by rw [h1 a (by simp)]; exact e1, by rw [h2 b (by simp)]; exact e2⟩, ih (fun x hx => h1 x ?_) (fun x hx => h2 x ?_) h3⟩
   ·simp only [List.dropLast_cons_cons]; exact List.mem_cons_of_mem _ hx
   ·simp only [List.tail_cons] at hx ⊢; exact List.mem_cons_of_mem _ hx
def Ring (r : Nat) (bs : List Nat) (nx pv : Nat → Nat) : Prop := (r :: bs).Nodup ∧ Lk nx pv (r :: (bs ++ [r]))
theorem last_split (r : Nat) (l : List Nat) : ∃ A p, r :: l = A ++ [p] := by
 obtain ⟨A, p, h⟩ := List.eq_nil_or_concat (r :: l) |>.resolve_left (by simp)
 exact ⟨A, p, by simpa [List.concat_eq_append] using h⟩
theorem head_split (l : List Nat) (r : Nat) : ∃ n B, l ++ [r] = n :: B := by
 cases l with
 | nil => exact ⟨r, [], rfl⟩
 | cons n l => exact ⟨n, l ++ [r], rfl⟩
theorem Ring.out {r e : Nat} {l1 l2 : List Nat} {nx pv : Nat → Nat} (h : Ring r (l1 ++ e :: l2) nx pv) :
  pv e ∈ r :: (l1 ++ e :: l2) ∧ nx e ∈ r :: (l1 ++ e :: l2) ∧ Ring r (l1 ++ l2) (upd nx (pv e) (nx e)) (upd pv (nx e) (pv e)) := by
 obtain ⟨hnd, hl⟩ := h
 obtain ⟨A, p, hA⟩ := last_split r l1
 obtain ⟨n, B, hB⟩ := head_split l2 r
 have hL : r :: (l1 ++ e :: l2 ++ [r]) = A ++ p :: e :: n :: B := by
  rw [List.append_assoc, List.cons_append, hB, ← List.cons_append, hA]; simp
 rw [hL, Lk.append] at hl
 obtain ⟨k1, ⟨k2, k3⟩, k4⟩ := hl
 obtain ⟨⟨k5, k6⟩, k7⟩ := k4
 have hpm : p ∈ r :: l1 := by rw [hA]; simp
 have hnm : n ∈ l2 ++ [r] := by rw [hB]; simp
 rw [k3, k5]
 have hnd1 : (r :: l1).Nodup ∧ (e :: l2).Nodup ∧ ∀ a ∈ r :: l1, ∀ b ∈ e :: l2, a ≠ b := by
  rw [← List.cons_append, List.nodup_append] at hnd; exact hnd
 have hrl1 : r ∉ l1 := (List.nodup_cons.1 hnd1.1).1
 refine ⟨?_, ?_, ?_, ?_⟩
 ·rw [← List.cons_append]; exact List.mem_append.2 (.inl hpm)
 ·rcases List.mem_append.1 hnm with h | h
  ·simp [h]
  ·simp at h; simp [h]
 ·rw [← List.cons_append, List.nodup_append]
  exact ⟨hnd1.1, (List.nodup_cons.1 hnd1.2.1).2, fun a ha b hb => hnd1.2.2 a ha b (by simp [hb])⟩
 ·have hL2 : r :: (l1 ++ l2 ++ [r]) = A ++ p :: n :: B := by
   rw [List.append_assoc, hB, ← List.cons_append, hA]; simp
  rw [hL2, Lk.append]
  refine ⟨Lk.congr _ (fun a ha => ?_) (fun b hb => ?_) k1, ⟨upd_same _ _ _, upd_same _ _ _⟩, Lk.congr _ (fun a ha => ?_) (fun b hb => ?_) k7⟩
  ·rw [List.dropLast_concat] at ha
   refine upd_other _ _ _ (fun e => ?_)
   have := hnd1.1
   rw [hA, List.nodup_append] at this
   exact this.2.2 a ha p (by simp) e
  ·rw [← hA, List.tail_cons] at hb
   refine upd_other _ _ _ (fun e => ?_)
   subst e
   rcases List.mem_append.1 hnm with h | h
   ·exact hnd1.2.2 b (by simp [hb]) b (by simp [h]) rfl
   ·simp at h; subst h; exact hrl1 hb
  ·rw [← hB, List.dropLast_concat] at ha
   exact upd_other _ _ _ (fun e => hnd1.2.2 p hpm a (by simp [ha]) e.symm)
  ·rw [List.tail_cons] at hb
   refine upd_other _ _ _ (fun e => ?_)
   subst e
   have : (l2 ++ [r]).Nodup := by
    rw [List.nodup_append]
    refine ⟨(List.nodup_cons.1 hnd1.2.1).2, by simp, fun a ha c hc => ?_⟩
    simp at hc; subst hc
    exact fun e => hnd1.2.2 c (by simp) a (by simp [ha]) e.symm
   rw [hB] at this
   exact (List.nodup_cons.1 this).1 hb
theorem Ring.empty (r : Nat) (nx pv : Nat → Nat) (h1 : nx r = r) (h2 : pv r = r) : Ring r [] nx pv := ⟨by simp, ⟨h1, h2⟩, trivial⟩
theorem Ring.next {r : Nat} {bs : List Nat} {nx pv : Nat → Nat} (h : Ring r bs nx pv) (i : Nat) (hi : i < bs.length + 1) : nx ((r :: bs)[i]'(by simpa using hi)) = (bs ++ [r])[i]'(by simpa using hi) := by
 have key : ∀ (L : List Nat) (_ : Lk nx pv L) (j : Nat) (hj : j + 1 < L.length), nx (L[j]'(by omega)) = L[j + 1] := by
  intro L
  induction L with
  | nil => intro _ j hj; simp at hj
  | cons a L ih =>
   intro hL j hj
   cases L with
   | nil => simp at hj
   | cons b L =>
    cases j with
    | zero => exact hL.1.1
    | succ j => exact ih hL.2 j (by simpa using hj)
 have := key _ h.2 i (by simp; omega)
 simp only [List.getElem_cons_succ] at this
 rw [← this]
 congr 1
 have e : (r :: (bs ++ [r])) = (r :: bs) ++ [r] := rfl
 simp only [e]
 rw [List.getElem_append_left]
end Go.Proofs.YtdbfaknpfepnfaaGreatDoor


namespace Go.Proofs.YtdbfaknpfepnfaaGreatDoor
open Go.RowKit Go.Maps
attribute [local instance] Classical.propDecidable

def ptrR : Value → Option (DataW Unit × List MemPlace)
 | .pointer none => some (.lit (.int .i64 (-1)), [])
 | .pointer (some ⟨b, 0, none⟩) => some (.lit (.int .i64 b), [])
 | _ => none
def MapAt (w : World) (P : Program) (k : TypeId) (mb : Nat) (f : Lit → Option Nat) (n : Nat) : Prop :=
 ∃ D, w.ownsMap P k ptrR mb n D ∧ Maps.size D = n ∧ (∀ kl, Maps.has D kl = (f kl).isSome) ∧ ∀ kl b, f kl = some b → D.atKey kl (.lit (.int .i64 (-1))) = .lit (.int .i64 b)
section
variable {w w' : World} {P : Program} {k e t : TypeId} {mb : Nat} {f : Lit → Option Nat} {n : Nat}
theorem owns_tight {H : Type} {P : Program} {k : TypeId} {R : Value → Option (DataW H × List MemPlace)} {w : World} {b n : Nat} {D : DataW H} (h : w.ownsMap P k R b n D) : w.ownsMap P k R b (Maps.size D) D := by
 obtain ⟨es, clock, hb, F, hs, rfl⟩ := h
 exact ⟨es, clock, hb, F, by simp [Maps.size, length_sorted], rfl⟩
theorem MapAt.made (w : World) (P : Program) (k : TypeId) : MapAt (w.alloc (.map #[] 0)) P k w.heap.size (fun _ => none) 0 :=
 ⟨_, World.ownsMap_made w P k ptrR, rfl, fun _ => rfl, fun _ _ h => by cases h⟩
theorem MapAt.lt (h : MapAt w P k mb f n) : mb < w.heap.size := by
 obtain ⟨D, h1, _⟩ := h; exact h1.lt
theorem MapAt.keep {R : Nat → Prop} (h : MapAt w P k mb f n) (hf : Fr R w w') (hR : ¬ R mb) : MapAt w' P k mb f n := by
 obtain ⟨D, h1, r⟩ := h
 have hlt := h1.lt
 obtain ⟨es, clock, hb, s⟩ := h1
 exact ⟨D, ⟨es, clock, (hf.block mb hlt hR).trans hb, s⟩, r⟩
theorem MapAt.congr {g : Lit → Option Nat} (h : MapAt w P k mb f n) (e : ∀ kl, g kl = f kl) : MapAt w P k mb g n := by
 have : g = f := funext e
 rw [this]; exact h
theorem MapAt.len (h : MapAt w P k mb f n) (ht : P.underlying t = some (.map k e)) (ty : TypeId) : (Builtin.len_ #[t] ty #[.map (some mb)]).run P w = .ok (.int .i64 n) w := by
 obtain ⟨D, h1, h2, _⟩ := h
 rw [h1.len ht ty, h2]
theorem Fr.turned {w w' : World} {b : Nat} (h : w.mapTurned w' b) : Fr (· = b) w w' :=
 (Fr.refl _ w).grown h.grown (fun _ _ e => by injection e with e; exact e.symm)
theorem MapAt.store (h : MapAt w P k mb f n) (K : Keyed P k) (ht : P.underlying t = some (.map k e)) (hn : n < maxLen) {key : Value} {kl : Lit} (hkey : keyOf P k key = some kl) (b : Nat) (hk : f kl = none) :
  ∃ w', (Instr.mapUpdate t (.map (some mb)) key (.pointer (some ⟨b, 0, none⟩))).run P w = .ok () w' ∧ MapAt w' P k mb (fun x => if x = kl then some b else f x) (n + 1) ∧ Fr (· = mb) w w' := by
 obtain ⟨D, h1, h2, h3, h4⟩ := h
 have htd := h1.tidy K
 obtain ⟨w', hrun, ho, ht'⟩ := h1.store K ht hn hkey (val := .pointer (some ⟨b, 0, none⟩)) (d := .lit (.int .i64 b)) (ps := []) rfl
 refine ⟨w', hrun, ⟨_, ho, ?_, fun x => ?_, fun x c hx => ?_⟩, Fr.turned ht'⟩
 ·rw [Maps.size_put htd, h3 kl, hk, h2]; rfl
 ·by_cases e : x = kl
  ·subst e; rw [Maps.has_put_same htd.isMap (K.key hkey)]; simp
  ·rw [Maps.has_put_other e, h3 x]; dsimp only; rw [if_neg e]
 ·by_cases e : x = kl
  ·subst e
   simp only [if_true, Option.some.injEq] at hx
   subst hx
   exact Maps.atKey_put_same htd.isMap (K.key hkey) _ _
  ·dsimp only at hx; rw [if_neg e] at hx
   rw [Maps.atKey_put_other e]; exact h4 x c hx
theorem MapAt.drop (h : MapAt w P k mb f n) (K : Keyed P k) (ht : P.underlying t = some (.map k e)) {key : Value} {kl : Lit} (hkey : keyOf P k key = some kl) (hk : (f kl).isSome = true) (ty : TypeId) :
  ∃ w', (Builtin.delete_ #[t, k] ty #[.map (some mb), key]).run P w = .ok (.tuple #[]) w' ∧ MapAt w' P k mb (fun x => if x = kl then none else f x) (n - 1) ∧ Fr (· = mb) w w' := by
 obtain ⟨D, h1, h2, h3, h4⟩ := h
 have htd := h1.tidy K
 obtain ⟨w', hrun, ho, ht'⟩ := h1.drop K ht hkey ty
 have hsz : Maps.size (D.del kl) = n - 1 := by
  have := Maps.size_del (k := kl) htd
  rw [h3 kl, hk] at this
  simp at this
  omega
 refine ⟨w', hrun, ⟨_, hsz ▸ owns_tight ho, hsz, fun x => ?_, fun x c hx => ?_⟩, Fr.turned ht'⟩
 ·by_cases e : x = kl
  ·subst e; rw [Maps.has_del_same]; simp
  ·rw [Maps.has_del_other e, h3 x]; dsimp only; rw [if_neg e]
 ·by_cases e : x = kl
  ·subst e; simp at hx
  ·dsimp only at hx; rw [if_neg e] at hx
   rw [Maps.atKey_del_other e]; exact h4 x c hx
end
abbrev Ents (K : Type) := List (Nat × K × Int)
def blocks {K : Type} (es : Ents K) : List Nat := es.map (·.1)
def keys {K : Type} (es : Ents K) : List K := es.map (·.2.1)
noncomputable def lookF {K : Type} (klit : K → Lit) (es : Ents K) : Lit → Option Nat := fun kl => (es.find? (fun x => decide (klit x.2.1 = kl))).map (·.1)
structure CacheAt {K : Type} (P : Program) (TE TC KT : TypeId) (kval : K → Value) (klit : K → Lit) (w : World) (c mb r : Nat) (most : Nat) (es : Ents K) (hit miss : Nat) : Prop where
 cell : w.heap[c]? = some (.cells #[.int .i64 most, .map (some mb), .pointer (some ⟨r, 0, none⟩), .int .i64 hit, .int .i64 miss] TC (0, 0))
 ring : ∃ kv vv nx pv, NodesAt w TE (r :: blocks es) kv vv nx pv ∧ Ring r (blocks es) nx pv ∧ ∀ x ∈ es, kv x.1 = kval x.2.1 ∧ vv x.1 = x.2.2
 map : MapAt w P KT mb (lookF klit es) es.length
 nodup : (keys es).Nodup
 cmb : c ≠ mb
 cS : c ∉ r :: blocks es
 mS : mb ∉ r :: blocks es
def CS {K : Type} (c mb r : Nat) (es : Ents K) : Nat → Prop := fun k => k = c ∨ k = mb ∨ k ∈ r :: blocks es
theorem CacheAt.keep {K : Type} {P : Program} {TE TC KT : TypeId} {kval : K → Value} {klit : K → Lit} {w w' : World} {c mb r most hit miss : Nat} {es : Ents K} {R : Nat → Prop}
  (h : CacheAt P TE TC KT kval klit w c mb r most es hit miss) (hf : Fr R w w') (hR : ∀ k, CS c mb r es k → ¬ R k) : CacheAt P TE TC KT kval klit w' c mb r most es hit miss := by
 obtain ⟨kv, vv, nx, pv, h1, h2, h3⟩ := h.ring
 exact ⟨(hf.block c (lt_of_block h.cell) (hR c (.inl rfl))).trans h.cell, ⟨kv, vv, nx, pv, h1.keep hf (fun b hb => hR b (.inr (.inr hb))), h2, h3⟩, h.map.keep hf (hR mb (.inr (.inl rfl))), h.nodup, h.cmb, h.cS, h.mS⟩
theorem CacheAt.lt {K : Type} {P : Program} {TE TC KT : TypeId} {kval : K → Value} {klit : K → Lit} {w : World} {c mb r most hit miss : Nat} {es : Ents K}
  (h : CacheAt P TE TC KT kval klit w c mb r most es hit miss) (k : Nat) (hk : CS c mb r es k) : k < w.heap.size := by
 obtain ⟨kv, vv, nx, pv, h1, _⟩ := h.ring
 rcases hk with rfl | rfl | hk
 ·exact lt_of_block h.cell
 ·exact h.map.lt
 ·exact h1.lt hk
theorem fr_set (w : World) (a : Addr) (u : Value) : Fr (· = a.block) w (w.setCell a u) := (Fr.refl (· = a.block) w).setCell (.inl rfl) u
structure Gone {K : Type} (P : Program) (TE TC KT : TypeId) (kval : K → Value) (w : World) (c mb r : Nat) (most : Nat) (es : Ents K) (hit miss : Nat) (b : Nat) (k : K) (v : Int) (f : Lit → Option Nat) (n : Nat) : Prop where
 cell : w.heap[c]? = some (.cells #[.int .i64 most, .map (some mb), .pointer (some ⟨r, 0, none⟩), .int .i64 hit, .int .i64 miss] TC (0, 0))
 ring : ∃ kv vv nx pv, NodesAt w TE (r :: blocks es) kv vv nx pv ∧ Ring r (blocks es) nx pv ∧ ∀ x ∈ es, kv x.1 = kval x.2.1 ∧ vv x.1 = x.2.2
 ent : ∃ x2 x3, w.heap[b]? = some (.cells #[kval k, .int .i64 v, x2, x3] TE (0, 0))
 map : MapAt w P KT mb f n
 nodup : (keys es).Nodup
 hk : ∀ x ∈ es, x.2.1 ≠ k
 cmb : c ≠ mb
 cS : c ∉ b :: r :: blocks es
 mS : mb ∉ b :: r :: blocks es
 bS : b ∉ r :: blocks es
section
variable {K : Type} {P : Program} {TE TC KT : TypeId} {kval : K → Value} {klit : K → Lit} {w w' : World} {c mb r most hit miss b n : Nat} {es : Ents K} {k : K} {v : Int} {f : Lit → Option Nat}
theorem Gone.keep {R : Nat → Prop} (h : Gone P TE TC KT kval w c mb r most es hit miss b k v f n) (hf : Fr R w w') (hR : ∀ x, CS c mb r es x ∨ x = b → ¬ R x) : Gone P TE TC KT kval w' c mb r most es hit miss b k v f n := by
 obtain ⟨kv, vv, nx, pv, h1, h2, h3⟩ := h.ring
 obtain ⟨x2, x3, h4⟩ := h.ent
 exact ⟨(hf.block c (lt_of_block h.cell) (hR c (.inl (.inl rfl)))).trans h.cell, ⟨kv, vv, nx, pv, h1.keep hf (fun x hx => hR x (.inl (.inr (.inr hx)))), h2, h3⟩, ⟨x2, x3, (hf.block b (lt_of_block h4) (hR b (.inr rfl))).trans h4⟩,
  h.map.keep hf (hR mb (.inl (.inr (.inl rfl)))), h.nodup, h.hk, h.cmb, h.cS, h.mS, h.bS⟩
theorem Gone.val (h : Gone P TE TC KT kval w c mb r most es hit miss b k v f n) (v' : Int) : Gone P TE TC KT kval (w.setCell ⟨b, 1, none⟩ (.int .i64 v')) c mb r most es hit miss b k v' f n := by
 obtain ⟨kv, vv, nx, pv, h1, h2, h3⟩ := h.ring
 obtain ⟨x2, x3, h4⟩ := h.ent
 have hcb : c ≠ b := fun e => h.cS (by simp [e])
 have hmb : mb ≠ b := fun e => h.mS (by simp [e])
 refine ⟨by rw [set_off _ (by exact hcb)]; exact h.cell, ⟨kv, vv, nx, pv, fun x hx => by rw [set_off _ (by exact fun e => h.bS ((show x = b from e) ▸ hx))]; exact h1 x hx, h2, h3⟩, ⟨x2, x3, by rw [set_at _ h4]; rfl⟩,
  h.map.keep (fr_set w ⟨b, 1, none⟩ _) hmb, h.nodup, h.hk, h.cmb, h.cS, h.mS, h.bS⟩
structure OwnC {K : Type} (P : Program) (TE TC KT : TypeId) (kval : K → Value) (klit : K → Lit) (w0 w : World) (c mb r : Nat) (most : Nat) (es : Ents K) (hit miss : Nat) : Prop where
 at_ : CacheAt P TE TC KT kval klit w c mb r most es hit miss
 bel : Below w0.heap.size w0 w
 base : ∀ k, CS c mb r es k → w0.heap.size ≤ k
theorem OwnC.step {w0 : World} {es' : Ents K} {hit' miss' : Nat} (h : OwnC P TE TC KT kval klit w0 w c mb r most es hit miss) (h' : CacheAt P TE TC KT kval klit w' c mb r most es' hit' miss') (f : Fr (CS c mb r es) w w') (hs : ∀ k ∈ blocks es', k ∈ blocks es ∨ w.heap.size ≤ k) :
  OwnC P TE TC KT kval klit w0 w' c mb r most es' hit' miss' := by
 refine ⟨h', h.bel.trans (f.below h.bel.size (fun k _ hk => h.base k hk)), fun k hk => ?_⟩
 rcases hk with hk | hk | hk
 ·exact h.base k (.inl hk)
 ·exact h.base k (.inr (.inl hk))
 ·rcases List.mem_cons.1 hk with hk | hk
  ·exact h.base k (.inr (.inr (by simp [hk])))
  ·rcases hs k hk with hk | hk
   ·exact h.base k (.inr (.inr (List.mem_cons_of_mem _ hk)))
   ·exact Nat.le_trans h.bel.size hk
theorem OwnC.keep {w0 : World} {R : Nat → Prop} (h : OwnC P TE TC KT kval klit w0 w c mb r most es hit miss) (f : Fr R w w') (hR : ∀ k, k < w.heap.size → R k → False) : OwnC P TE TC KT kval klit w0 w' c mb r most es hit miss :=
 ⟨h.at_.keep f (fun k hk hr => hR k (h.at_.lt k hk) hr), h.bel.trans (f.below h.bel.size (fun k hk hr => (hR k hk hr).elim)), h.base⟩
end
end Go.Proofs.YtdbfaknpfepnfaaGreatDoor


namespace Go.Proofs.YtdbfaknpfepnfaaGreatDoor
open Go.RowKit Go.Maps
attribute [local instance] Classical.propDecidable
namespace Pc

structure Kp where
 f : Int
 a : Int
 hf : (Lit.int .i64 f).wf = true
 ha : (Lit.int .i64 a).wf = true
def NodesAt (w : World) (T : TypeId) (S : List Nat) (kv : Nat → Kp) (vv : Nat → Option Addr) (nx pv : Nat → Nat) : Prop :=
 ∀ b ∈ S, w.heap[b]? = some (.cells #[.int .i64 (kv b).f, .int .i64 (kv b).a, .pointer (vv b), .pointer (some ⟨pv b, 0, none⟩), .pointer (some ⟨nx b, 0, none⟩)] T (0, 0))
section
variable {w w' : World} {T : TypeId} {S : List Nat} {kv : Nat → Kp} {vv : Nat → Option Addr} {nx pv : Nat → Nat}
theorem NodesAt.c0 (h : NodesAt w T S kv vv nx pv) {b : Nat} (hb : b ∈ S) : w.cell? ⟨b, 0, none⟩ = some (.int .i64 (kv b).f) := cell_of (h b hb) rfl
theorem NodesAt.c1 (h : NodesAt w T S kv vv nx pv) {b : Nat} (hb : b ∈ S) : w.cell? ⟨b, 2, none⟩ = some (.pointer (vv b)) := cell_of (h b hb) rfl
theorem NodesAt.c2 (h : NodesAt w T S kv vv nx pv) {b : Nat} (hb : b ∈ S) : w.cell? ⟨b, 3, none⟩ = some (.pointer (some ⟨pv b, 0, none⟩)) := cell_of (h b hb) rfl
theorem NodesAt.c3 (h : NodesAt w T S kv vv nx pv) {b : Nat} (hb : b ∈ S) : w.cell? ⟨b, 4, none⟩ = some (.pointer (some ⟨nx b, 0, none⟩)) := cell_of (h b hb) rfl
theorem NodesAt.free (h : NodesAt w T S kv vv nx pv) {b : Nat} (hb : b ∈ S) (o : Nat) : w.frozen? ⟨b, o, none⟩ = false := by simp [World.frozen?, h b hb]
theorem NodesAt.lt (h : NodesAt w T S kv vv nx pv) {b : Nat} (hb : b ∈ S) : b < w.heap.size := lt_of_block (h b hb)
theorem NodesAt.keep {R : Nat → Prop} (h : NodesAt w T S kv vv nx pv) (hf : Fr R w w') (hR : ∀ b ∈ S, ¬ R b) : NodesAt w' T S kv vv nx pv :=
 fun b hb => (hf.block b (h.lt hb) (hR b hb)).trans (h b hb)
theorem NodesAt.drew (h : NodesAt w T S kv vv nx pv) : NodesAt w.drew T S kv vv nx pv := h
theorem NodesAt.drewN (h : NodesAt w T S kv vv nx pv) (n : Nat) : NodesAt (w.drewN n) T S kv vv nx pv := h
theorem NodesAt.set1 (h : NodesAt w T S kv vv nx pv) {p : Nat} (n : Option Addr) : NodesAt (w.setCell ⟨p, 2, none⟩ (.pointer n)) T S kv (upd vv p n) nx pv := by
 intro b hb
 by_cases e : b = p
 ·subst e; rw [set_at _ (h b hb), upd_same]; rfl
 ·rw [set_off _ (by exact e), h b hb, upd_other _ _ _ e]
end
abbrev Ents := List (Nat × Kp × Option Addr)
def blocks (es : Ents) : List Nat := es.map (·.1)
def keys (es : Ents) : List Kp := es.map (·.2.1)
noncomputable def lookF (klit : Kp → Lit) (es : Ents) : Lit → Option Nat := fun kl => (es.find? (fun x => decide (klit x.2.1 = kl))).map (·.1)
structure CacheAt (P : Program) (TE TC KT : TypeId) (klit : Kp → Lit) (w : World) (c mb r : Nat) (most : Nat) (es : Ents) (hit miss : Int) : Prop where
 cell : w.heap[c]? = some (.cells #[.int .i64 most, .map (some mb), .pointer (some ⟨r, 0, none⟩), .int .i64 hit, .int .i64 miss] TC (0, 0))
 ring : ∃ kv vv nx pv, NodesAt w TE (r :: blocks es) kv vv nx pv ∧ Ring r (blocks es) nx pv ∧ ∀ x ∈ es, kv x.1 = x.2.1 ∧ vv x.1 = x.2.2
 map : MapAt w P KT mb (lookF klit es) es.length
 nodup : (keys es).Nodup
 cmb : c ≠ mb
 cS : c ∉ r :: blocks es
 mS : mb ∉ r :: blocks es
def CS (c mb r : Nat) (es : Ents) : Nat → Prop := fun k => k = c ∨ k = mb ∨ k ∈ r :: blocks es
theorem CacheAt.keep {P : Program} {TE TC KT : TypeId} {klit : Kp → Lit} {w w' : World} {c mb r most : Nat} {hit miss : Int} {es : Ents} {R : Nat → Prop}
  (h : CacheAt P TE TC KT klit w c mb r most es hit miss) (hf : Fr R w w') (hR : ∀ k, CS c mb r es k → ¬ R k) : CacheAt P TE TC KT klit w' c mb r most es hit miss := by
 obtain ⟨kv, vv, nx, pv, h1, h2, h3⟩ := h.ring
 exact ⟨(hf.block c (lt_of_block h.cell) (hR c (.inl rfl))).trans h.cell, ⟨kv, vv, nx, pv, h1.keep hf (fun b hb => hR b (.inr (.inr hb))), h2, h3⟩, h.map.keep hf (hR mb (.inr (.inl rfl))), h.nodup, h.cmb, h.cS, h.mS⟩
theorem CacheAt.lt {P : Program} {TE TC KT : TypeId} {klit : Kp → Lit} {w : World} {c mb r most : Nat} {hit miss : Int} {es : Ents}
  (h : CacheAt P TE TC KT klit w c mb r most es hit miss) (k : Nat) (hk : CS c mb r es k) : k < w.heap.size := by
 obtain ⟨kv, vv, nx, pv, h1, _⟩ := h.ring
 rcases hk with rfl | rfl | hk
 ·exact lt_of_block h.cell
 ·exact h.map.lt
 ·exact h1.lt hk
structure Gone (P : Program) (TE TC KT : TypeId) (w : World) (c mb r : Nat) (most : Nat) (es : Ents) (hit miss : Int) (b : Nat) (k : Kp) (v : Option Addr) (f : Lit → Option Nat) (n : Nat) : Prop where
 cell : w.heap[c]? = some (.cells #[.int .i64 most, .map (some mb), .pointer (some ⟨r, 0, none⟩), .int .i64 hit, .int .i64 miss] TC (0, 0))
 ring : ∃ kv vv nx pv, NodesAt w TE (r :: blocks es) kv vv nx pv ∧ Ring r (blocks es) nx pv ∧ ∀ x ∈ es, kv x.1 = x.2.1 ∧ vv x.1 = x.2.2
 ent : ∃ x2 x3, w.heap[b]? = some (.cells #[.int .i64 k.f, .int .i64 k.a, .pointer v, x2, x3] TE (0, 0))
 map : MapAt w P KT mb f n
 nodup : (keys es).Nodup
 hk : ∀ x ∈ es, x.2.1 ≠ k
 cmb : c ≠ mb
 cS : c ∉ b :: r :: blocks es
 mS : mb ∉ b :: r :: blocks es
 bS : b ∉ r :: blocks es
section
variable {P : Program} {TE TC KT : TypeId} {klit : Kp → Lit} {w w' : World} {c mb r most b n : Nat} {hit miss : Int} {es : Ents} {k : Kp} {v : Option Addr} {f : Lit → Option Nat}
theorem Gone.keep {R : Nat → Prop} (h : Gone P TE TC KT w c mb r most es hit miss b k v f n) (hf : Fr R w w') (hR : ∀ x, CS c mb r es x ∨ x = b → ¬ R x) : Gone P TE TC KT w' c mb r most es hit miss b k v f n := by
 obtain ⟨kv, vv, nx, pv, h1, h2, h3⟩ := h.ring
 obtain ⟨x2, x3, h4⟩ := h.ent
 exact ⟨(hf.block c (lt_of_block h.cell) (hR c (.inl (.inl rfl)))).trans h.cell, ⟨kv, vv, nx, pv, h1.keep hf (fun x hx => hR x (.inl (.inr (.inr hx)))), h2, h3⟩, ⟨x2, x3, (hf.block b (lt_of_block h4) (hR b (.inr rfl))).trans h4⟩,
  h.map.keep hf (hR mb (.inl (.inr (.inl rfl)))), h.nodup, h.hk, h.cmb, h.cS, h.mS, h.bS⟩
theorem Gone.val (h : Gone P TE TC KT w c mb r most es hit miss b k v f n) (v' : Option Addr) : Gone P TE TC KT (w.setCell ⟨b, 2, none⟩ (.pointer v')) c mb r most es hit miss b k v' f n := by
 obtain ⟨kv, vv, nx, pv, h1, h2, h3⟩ := h.ring
 obtain ⟨x2, x3, h4⟩ := h.ent
 have hcb : c ≠ b := fun e => h.cS (by simp [e])
 have hmb : mb ≠ b := fun e => h.mS (by simp [e])
 refine ⟨by rw [set_off _ (by exact hcb)]; exact h.cell, ⟨kv, vv, nx, pv, fun x hx => by rw [set_off _ (by exact fun e => h.bS ((show x = b from e) ▸ hx))]; exact h1 x hx, h2, h3⟩, ⟨x2, x3, by rw [set_at _ h4]; rfl⟩,
  h.map.keep (fr_set w ⟨b, 2, none⟩ _) hmb, h.nodup, h.hk, h.cmb, h.cS, h.mS, h.bS⟩
structure OwnC (P : Program) (TE TC KT : TypeId) (klit : Kp → Lit) (w0 w : World) (c mb r : Nat) (most : Nat) (es : Ents) (hit miss : Int) : Prop where
 at_ : CacheAt P TE TC KT klit w c mb r most es hit miss
 bel : Below w0.heap.size w0 w
 base : ∀ k, CS c mb r es k → w0.heap.size ≤ k
theorem OwnC.step {w0 : World} {es' : Ents} {hit' miss' : Int} (h : OwnC P TE TC KT klit w0 w c mb r most es hit miss) (h' : CacheAt P TE TC KT klit w' c mb r most es' hit' miss') (f : Fr (CS c mb r es) w w') (hs : ∀ k ∈ blocks es', k ∈ blocks es ∨ w.heap.size ≤ k) :
  OwnC P TE TC KT klit w0 w' c mb r most es' hit' miss' := by
 refine ⟨h', h.bel.trans (f.below h.bel.size (fun k _ hk => h.base k hk)), fun k hk => ?_⟩
 rcases hk with hk | hk | hk
 ·exact h.base k (.inl hk)
 ·exact h.base k (.inr (.inl hk))
 ·rcases List.mem_cons.1 hk with hk | hk
  ·exact h.base k (.inr (.inr (by simp [hk])))
  ·rcases hs k hk with hk | hk
   ·exact h.base k (.inr (.inr (List.mem_cons_of_mem _ hk)))
   ·exact Nat.le_trans h.bel.size hk
theorem OwnC.keep {w0 : World} {R : Nat → Prop} (h : OwnC P TE TC KT klit w0 w c mb r most es hit miss) (f : Fr R w w') (hR : ∀ k, k < w.heap.size → R k → False) : OwnC P TE TC KT klit w0 w' c mb r most es hit miss :=
 ⟨h.at_.keep f (fun k hk hr => hR k (h.at_.lt k hk) hr), h.bel.trans (f.below h.bel.size (fun k hk hr => (hR k hk hr).elim)), h.base⟩
end
end Pc
end Go.Proofs.YtdbfaknpfepnfaaGreatDoor


namespace Go.Proofs.YtdbfaknpfepnfaaGreatDoor
open Go.RowKit Go.Maps
namespace Pc

theorem rowP : (141 : TypeId) < Tryz.prog.types.size := of_decide_eq_true (by kernel_rfl)
def kval (k : Kp) : Value := .agg #[.int .i64 k.f, .int .i64 k.a]
theorem cellsP : Tryz.prog.cellsOf 141 = 2 := by kernel_rfl
theorem cellsInt : Tryz.prog.cellsOf 3 = 1 := by kernel_rfl
theorem key_some (k : Kp) : ∃ l, keyOf Tryz.prog 141 (kval k) = some l := by
 have hk : Tryz.prog.keyType 141 = true := by kernel_rfl
 obtain ⟨m, hm⟩ : ∃ m, Tryz.prog.types.size + 1 = m + 2 := ⟨Tryz.prog.types.size - 1, by
  have h0 : 1 ≤ Tryz.prog.types.size := Nat.lt_of_le_of_lt (Nat.zero_le 141) rowP
  generalize Tryz.prog.types.size = z at *
  omega⟩
 unfold keyOf kval
 rw [hm]
 have h1 := k.hf
 have h2 := k.ha
 simp [Tryz.underlying141, Tryz.underlying3, Value.formed, cellsP, cellsInt, hk, Value.cells, Program.keyLits, h1, h2]
noncomputable def klit (k : Kp) : Lit := Classical.choose (key_some k)
abbrev CacheK := CacheAt Tryz.prog 186 189 141 klit
end Pc
end Go.Proofs.YtdbfaknpfepnfaaGreatDoor


namespace Go.Proofs.YtdbfaknpfepnfaaGreatDoor
open Go.RowKit Go.Maps
namespace Pc

theorem CacheAt.first {P : Program} {TE TC KT : TypeId} {kl : Kp → Lit} {w : World} {c mb r most : Nat} {hit miss : Int} {es : Ents} {x : Nat × Kp × Option Addr} (h : CacheAt P TE TC KT kl w c mb r most (x :: es) hit miss) :
  w.cell? ⟨r, 4, none⟩ = some (.pointer (some ⟨x.1, 0, none⟩)) := by
 obtain ⟨kv, vv, nx, pv, h1, h2, _⟩ := h.ring
 have := h2.2.1.1
 rw [h1.c3 (by simp), this]
end Pc
end Go.Proofs.YtdbfaknpfepnfaaGreatDoor


namespace Go.Proofs.YtdbfaknpfepnfaaGreatDoor
open Go.RowKit Go.Maps
namespace Pc

theorem CS.kt {c mb r most : Nat} {es : Ents} {hit miss : Int} {w : World} (h : CacheK w c mb r most es hit miss) {k : Nat} (hk : CS c mb r es k) : Kt w k ∧ Held w k := by
 obtain ⟨kv, vv, nx, pv, h1, -, -⟩ := h.ring
 rcases hk with rfl | rfl | hk
 ·exact ⟨⟨_, h.cell, by simp [ktO]⟩, ⟨_, h.cell, by simp⟩⟩
 ·obtain ⟨D, ⟨es2, clock, hb, -⟩, -⟩ := h.map
  exact ⟨⟨_, hb, rfl⟩, ⟨_, hb, trivial⟩⟩
 ·exact ⟨⟨_, h1 k hk, by simp [ktO]⟩, ⟨_, h1 k hk, by simp⟩⟩
end Pc
end Go.Proofs.YtdbfaknpfepnfaaGreatDoor


namespace Go.Proofs.YtdbfaknpfepnfaaGreatDoor
open Go.RowKit CodecP CrcP FrameP BloomP

theorem TbC.of_any {Q : Nat → Prop} {bo : Option Addr} {file : Int} {bs : List (List Pr)} {l : List Pr} (h : TabI bs l) {r : List UInt8} (hr : r.length ≤ 10000000) (kc : Kch Q bo file (LdT r (whs 0 bs))) {w : World} {B p pi : Nat} {vi pv : Value}
  (ht : Tt w B p (str r) file bo (make ((keysOf l).map frontK)) (idx bs) (whs 0 bs) l.length pi vi pv) (hC : kc.C w) : TbC kc w p (str r) (make ((keysOf l).map frontK)) (idx bs) (whs 0 bs) l.length := by
 refine ⟨⟨B, pi, vi, pv, ht⟩, hC, by rw [str_len]; omega, ?_, fun i hi => h.whs_le i hi, fun i hi ps => ?_⟩
 ·rw [whs_len]; have := h.bks.few; omega
 ·rw [bl_str]; exact ldT_iff _ bs i hi ps
structure BkS {Q : Nat → Prop} {bo : Option Addr} {file : Int} {Ld : Nat → List Pr → Prop} (kc : Kch Q bo file Ld) (w0 w : World) (p : Nat) (s : ByteArray) (bits : List UInt8) (ip : List Pr) (L : List Wh) (n : Nat) (nv : Value) (ps : List Pr) : Prop where
 tb : TbC kc w p s bits ip L n
 bel : Below w0.heap.size w0 w
 row : w.ownsRow w0.heap.size 40 2 nv ps.length (flatR ps)
 hQ : ∀ k, Q k → w0.heap.size ≤ k
section
variable {Q : Nat → Prop} {bo : Option Addr} {file : Int} {Ld : Nat → List Pr → Prop} {kc : Kch Q bo file Ld} {w0 w w' : World} {p c : Nat} {s : ByteArray} {bits : List UInt8} {ip : List Pr} {L : List Wh} {n : Nat} {nv : Value} {ps : List Pr}
theorem BkS.kf (h : BkS kc w0 w p s bits ip L n nv ps) (hf : KF Q w w') (ht : TbC kc w' p s bits ip L n) : BkS kc w0 w' p s bits ip L n nv ps :=
 ⟨ht, h.bel.trans (Fr.below hf h.bel.size (fun k _ hk => h.hQ k hk.2)), hf.row h.row (by decide) (by decide), h.hQ⟩
theorem BkS.below (h : BkS kc w0 w p s bits ip L n nv ps) (hb : Below w.heap.size w w') : BkS kc w0 w' p s bits ip L n nv ps := h.kf (KF.of_below hb) (h.tb.below hb)
end
end Go.Proofs.YtdbfaknpfepnfaaGreatDoor


namespace Go.Proofs.YtdbfaknpfepnfaaGreatDoor
open Go.RowKit CodecP CrcP FrameP

theorem rawS_yes {l : List UInt8} (h : 8 ≤ l.length) : rawS 8 (some l) = (l.take 8, some (l.drop 8)) := by
 unfold rawS
 simp only []
 rw [if_neg (by omega)]
 rfl
theorem rawS_no {l : List UInt8} (h : l.length < 8) : rawS 8 (some l) = ([], none) := by
 unfold rawS
 simp only []
 rw [if_pos (by omega)]
theorem ends_parts {l : List UInt8} {f a n : Nat} (h : endsF l = some (f, a, n)) : ∃ d, frmd l ((l.length : Int) - 36) l.length = (d, true) ∧ d.length = 24 ∧ value (d.take 8) = f ∧ value ((d.drop 8).take 8) = a ∧ value (d.drop 16) = n ∧ f ≤ l.length ∧ a ≤ l.length ∧ n ≤ l.length := by
 unfold endsF at h
 obtain ⟨⟨d, ok⟩, hd⟩ : ∃ r, frmd l ((l.length : Int) - 36) l.length = r := ⟨_, rfl⟩
 rw [hd] at h
 simp only [] at h
 split at h
 case isFalse => cases h
 case isTrue hc =>
  obtain ⟨h1, h2, h3, h4, h5⟩ := hc
  simp only [Option.some.injEq, Prod.mk.injEq] at h
  obtain ⟨rfl, rfl, rfl⟩ := h
  subst h1
  have hl : d.length = 24 := by
   by_cases g1 : d.length < 8
   ·rw [rawS_no g1] at h2; cases h2
   ·rw [rawS_yes (by omega)] at h2
    simp only [] at h2
    by_cases g2 : (d.drop 8).length < 8
    ·rw [rawS_no g2] at h2; cases h2
    ·rw [rawS_yes (by omega)] at h2
     simp only [] at h2
     by_cases g3 : ((d.drop 8).drop 8).length < 8
     ·rw [rawS_no g3] at h2; cases h2
     ·rw [rawS_yes (by omega)] at h2
      simp only [Option.some.injEq] at h2
      have h6 := congrArg List.length h2
      simp only [List.length_drop, List.length_nil] at g1 g2 g3 h6
      omega
  have e1 : rawS 8 (some d) = (d.take 8, some (d.drop 8)) := rawS_yes (by omega)
  have e2 : rawS 8 (some (d.drop 8)) = ((d.drop 8).take 8, some ((d.drop 8).drop 8)) := rawS_yes (by rw [List.length_drop]; omega)
  have e3 : rawS 8 (some ((d.drop 8).drop 8)) = (((d.drop 8).drop 8).take 8, some (((d.drop 8).drop 8).drop 8)) := rawS_yes (by rw [List.length_drop, List.length_drop]; omega)
  rw [e1] at h3 h4 h5 ⊢
  simp only [] at h3 h4 h5 ⊢
  rw [e2] at h4 h5 ⊢
  simp only [] at h4 h5 ⊢
  rw [e3] at h5 ⊢
  simp only [] at h5 ⊢
  have e4 : ((d.drop 8).drop 8).take 8 = d.drop 16 := by rw [List.drop_drop, List.take_of_length_le (by simp [hl])]
  rw [e4] at h5 ⊢
  exact ⟨d, hd, hl, rfl, rfl, rfl, h3, h4, h5⟩
theorem idxF_val : ∀ (bs : List (List Pr)) (a i : Nat) (h : i < (idxF a bs).length) (h2 : i < bs.length), (idxF a bs)[i] = (lastK bs[i], grp (a + (outB (bs.take i)).length) ++ grp (frm bs[i]).length)
 | b :: r, a, 0, h, h2 => by simp [idxF, outB]
 | b :: r, a, i + 1, h, h2 => by
  have h3 : i < (idxF (a + (frm b).length) r).length := by simpa [idxF] using h
  have := idxF_val r (a + (frm b).length) i h3 (by simpa using h2)
  simp only [idxF, List.getElem_cons_succ, List.take_succ_cons]
  rw [this]
  simp [outB, Nat.add_assoc]
theorem plc_sum (upto : Nat) : ∀ (ps : List Pr) (acc x : Nat × List Wh), ps.foldl (plcS upto) (some acc) = some x → acc.1 = (acc.2.map (·.2.1)).sum → x.1 = (x.2.map (·.2.1)).sum
 | [], acc, x, h, h2 => by
  simp only [List.foldl_nil, Option.some.injEq] at h
  rw [← h]; exact h2
 | p :: r, acc, x, h, h2 => by
  rw [List.foldl_cons] at h
  unfold plcS at h
  simp only [] at h
  split at h
  ·refine plc_sum upto r _ x h ?_
   simp [h2]
  ·have := plcS_none upto r
   unfold plcS at this
   rw [this] at h
   cases h
theorem whs_sum : ∀ (bs : List (List Pr)) (a : Nat), ((whs a bs).map (·.2.1)).sum = (outB bs).length
 | [], _ => by simp [whs, outB]
 | b :: r, a => by
  simp only [whs, List.map_cons, List.sum_cons]
  rw [whs_sum r]
  simp [outB]
theorem f_is {bs : List (List Pr)} {f : Nat} (h : placesF (idx bs) f = some (whs 0 bs)) : f = (outB bs).length := by
 unfold placesF at h
 cases hp : plcs f (idx bs) with
 | none => rw [hp] at h; cases h
 | some x =>
  rw [hp] at h
  simp only [] at h
  split at h
  case isFalse => cases h
  case isTrue hx =>
   simp only [Option.some.injEq] at h
   have := plc_sum f (idx bs) (0, []) x hp (by simp)
   rw [h, whs_sum] at this
   omega
theorem outB_upto (bs : List (List Pr)) (i : Nat) (h : i < bs.length) : (outB (bs.take i)).length + (frm bs[i]).length ≤ (outB bs).length := by
 have h1 : (outB (bs.take (i + 1))).length = (outB (bs.take i)).length + (frm bs[i]).length := by
  rw [List.take_add_one, List.getElem?_eq_getElem h, Option.toList_some, outB_snoc, List.length_append]
 have h2 : outB bs = outB (bs.take (i + 1)) ++ outB (bs.drop (i + 1)) := by
  unfold outB
  rw [← List.flatMap_append, List.take_append_drop]
 rw [h2, List.length_append]
 omega
end Go.Proofs.YtdbfaknpfepnfaaGreatDoor


