
/-
  What a view does, on plain lists; and a merge as a view sees it.
-/
import Derived.Test.YtdbfaknpfepnfaaGreatDoorCurNilW
namespace Go.Proofs.YtdbfaknpfepnfaaGreatDoor
open Go.RowKit CodecP Cur

/-- An inner key's parts. -/
def unp (b : List UInt8) : Option (List UInt8 × Int) :=
  if OkK (b.take (b.length - 9)) (4611686018427387904 - (value (b.drop (b.length - 8)) : Int)) ∧ b = inn (b.take (b.length - 9)) (4611686018427387904 - (value (b.drop (b.length - 8)) : Int)) then some (b.take (b.length - 9), 4611686018427387904 - (value (b.drop (b.length - 8)) : Int)) else none
theorem unp_inn {k : List UInt8} {n : Int} (h : OkK k n) : unp (inn k n) = some (k, n) := by
  obtain ⟨h1, h2⟩ := inn_parts h
  have h3 : 4611686018427387904 - (((4611686018427387904 - n).toNat : Nat) : Int) = n := by
    have := h.2.2.2.2
    omega
  unfold unp
  rw [h1, h2, h3, if_pos ⟨h, rfl⟩]
theorem unp_none {b : List UInt8} (h : ∀ (k : List UInt8) (n : Int), OkK k n → b ≠ inn k n) : unp b = none := by
  unfold unp
  rw [if_neg (fun hh => h _ _ hh.1 hh.2)]
theorem unp_some {b : List UInt8} {k : List UInt8} {n : Int} (h : unp b = some (k, n)) : OkK k n ∧ b = inn k n := by
  unfold unp at h
  split at h
  · rename_i hh
    injection h with h
    injection h with h1 h2
    rw [← h1, ← h2]
    exact hh
  · cases h
theorem unpackP_unp {s : ByteArray} {w : World} {e : Ending} {w' : World} (h : UnpackP s w e w') : Below w.heap.size w w' ∧
    ((∃ k n, unp (bl s) = some (k, n) ∧ e = .returned (.tuple #[.string (str k), .int .i64 n, .bool true])) ∨ (unp (bl s) = none ∧ e = .returned (.tuple #[.string ⟨#[]⟩, .int .i64 0, .bool false]))) := by
  obtain ⟨h1, ⟨k, n, h2, h3, h4⟩ | ⟨h2, h3⟩⟩ := h
  · exact ⟨h1, .inl ⟨k, n, by rw [h3]; exact unp_inn h2, h4⟩⟩
  · exact ⟨h1, .inr ⟨unp_none h2, h3⟩⟩
/-- A value that a view takes. -/
def goodV (v : List UInt8) : Bool := v.head? == some 80 || v == [68]
/-- A view's cells but for its merge. -/
structure VSt where
  key : List UInt8
  value : List UInt8
  valid : Bool
  err : Int
def settleF (seq : Int) : List UInt8 → List Pr → List Pr × VSt
  | _, [] => ([], ⟨[], [], false, 0⟩)
  | last, x :: r => match unp x.1 with
    | none => (x :: r, ⟨[], [], false, 9⟩)
    | some (k, n) =>
      if goodV x.2 = false then (x :: r, ⟨[], [], false, 9⟩)
      else if k = last ∨ seq < n then settleF seq last r
      else if x.2.head? = some 80 then (x :: r, ⟨k, x.2.tail, true, 0⟩)
      else settleF seq k r
/-- A merge as it is seen: M w S r says that in w it stands ahead of the pairs r, and its blocks are those of S. -/
structure MerK (B p : Nat) where
  M : World → (Nat → Prop) → List Pr → Prop
  lt : ∀ {w S r}, M w S r → ∀ k, S k → k < w.heap.size
  own : ∀ {w S r}, M w S r → ∀ k, S k → B ≤ k
  base : ∀ {w S r}, M w S r → B ≤ w.heap.size
  keep : ∀ {w w' S r}, M w S r → (∀ k, S k → w'.heap[k]? = w.heap[k]?) → Below B w w' → M w' S r
  valid : ∀ {w S r}, M w S r → Calls Tryz.prog 41 #[(Value.pointer (some ⟨p, 0, none⟩))] w fun e w' => e = .returned (.bool (decide (0 < r.length))) ∧ w = w'
  err : ∀ {w S r}, M w S r → Calls Tryz.prog 42 #[(Value.pointer (some ⟨p, 0, none⟩))] w fun e w' => e = .returned (.int .i64 0) ∧ w = w'
  pair : ∀ {w S x r}, M w S (x :: r) → Calls Tryz.prog 47 #[(Value.pointer (some ⟨p, 0, none⟩))] w fun e w' => e = .returned (.agg #[.string (str x.1), .string (str x.2)]) ∧ Below w.heap.size w w'
  next : ∀ {w S x r}, M w S (x :: r) → Calls Tryz.prog 48 #[(Value.pointer (some ⟨p, 0, none⟩))] w fun e w' => e = .returned (.tuple #[]) ∧ Fr S w w' ∧ ∃ S', M w' S' r ∧ ∀ j, S' j → S j ∨ w.heap.size ≤ j
theorem MerK.below {B p : Nat} (K : MerK B p) {w w' : World} {S : Nat → Prop} {r : List Pr} (h : K.M w S r) (hb : Below w.heap.size w w') : K.M w' S r :=
  K.keep h (fun k hk => hb.block k (K.lt h k hk)) (hb.mono (K.base h))
/-- A view at v of the merge p. -/
structure Vw {B p : Nat} (K : MerK B p) (w : World) (v : Nat) (seq : Int) (S : Nat → Prop) (r : List Pr) (st : VSt) : Prop where
  cells : w.heap[v]? = some (.cells #[(Value.pointer (some ⟨p, 0, none⟩)), .int .i64 seq, .string (str st.key), .string (str st.value), .bool st.valid, .int .i64 st.err] 104 (0, 0))
  m : K.M w S r
  out : ¬ S v
  base : B ≤ v
def fitsR (r : List Pr) : Prop := ∀ x ∈ r, x.1.length ≤ 1000000 ∧ x.2.length ≤ 1000000
theorem Vw.keep {B p : Nat} {K : MerK B p} {w w' : World} {v : Nat} {seq : Int} {S : Nat → Prop} {r : List Pr} {st : VSt} (h : Vw K w v seq S r st) (hb : Below w.heap.size w w') : Vw K w' v seq S r st :=
  ⟨(hb.block v (lt_of_block h.cells)).trans h.cells, K.below h.m hb, h.out, h.base⟩
/-- The view's cells are written. -/
theorem Vw.put {B p : Nat} {K : MerK B p} {w w' : World} {v : Nat} {seq : Int} {S : Nat → Prop} {r : List Pr} {st st' : VSt} (h : Vw K w v seq S r st) (hf : Fr (fun k => k = v) w w') (hc : w'.heap[v]? = some (.cells #[(Value.pointer (some ⟨p, 0, none⟩)), .int .i64 seq, .string (str st'.key), .string (str st'.value), .bool st'.valid, .int .i64 st'.err] 104 (0, 0))) : Vw K w' v seq S r st' :=
  ⟨hc, K.keep h.m (fun k hk => hf.block k (K.lt h.m k hk) (fun e => h.out (e ▸ hk))) (hf.below (K.base h.m) (fun k _ hk => by rw [hk]; exact h.base)), h.out, h.base⟩
/-- The merge goes on. -/
theorem Vw.step {B p : Nat} {K : MerK B p} {w w' : World} {v : Nat} {seq : Int} {S S' : Nat → Prop} {r r' : List Pr} {st : VSt} (h : Vw K w v seq S r st) (hf : Fr S w w') (hm : K.M w' S' r') (hs : ∀ j, S' j → S j ∨ w.heap.size ≤ j) : Vw K w' v seq S' r' st :=
  ⟨(hf.block v (lt_of_block h.cells) h.out).trans h.cells, hm, fun hv => by
    rcases hs v hv with h1 | h1
    · exact h.out h1
    · have := lt_of_block h.cells
      omega, h.base⟩
end Go.Proofs.YtdbfaknpfepnfaaGreatDoor
