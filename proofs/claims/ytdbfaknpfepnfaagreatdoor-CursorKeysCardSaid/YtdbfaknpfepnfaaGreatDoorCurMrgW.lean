
/-
  The walks of a cursor's merge of sources that are lists.
-/
import Derived.Test.YtdbfaknpfepnfaaGreatDoorCurSrcW
import Derived.Laws.OwnMore
namespace Go.Proofs.YtdbfaknpfepnfaaGreatDoor
open Go.RowKit CodecP Cur

theorem Cur.own_type {w : World} {B : Nat} {e : TypeId} {size n : Nat} {v : Value} {xs : List Value} (h : w.ownsRow B e size v n xs) {g : Nat} (hg : v.ownBlock = some g) : ∃ cs, w.heap[g]? = some (.cells cs e (0, 0)) := by
  rcases h.2 with ⟨rfl, _⟩ | ⟨g', cap, cur, rfl, _, hh, _⟩
  · simp [Value.ownBlock] at hg
  · simp [Value.ownBlock] at hg
    subst hg
    exact ⟨cur, hh⟩
theorem Cur.type_ne {w : World} {g g' : Nat} {t t' : TypeId} {cs cs' : Array Value} (h : w.heap[g]? = some (.cells cs t (0, 0))) (h' : w.heap[g']? = some (.cells cs' t' (0, 0))) (ht : t ≠ t') : g ≠ g' := fun e => by
  subst e
  rw [h] at h'
  simp only [Option.some.injEq, Obj.cells.injEq] at h'
  exact ht h'.2.1
theorem Cur.owns_of_block {w w' : World} {base e size : Nat} {v : Value} {n : Nat} {xs : List Value} (h : w.ownsRow base e size v n xs) (hb : ∀ k, v.ownBlock = some k → w'.heap[k]? = w.heap[k]?) : w'.ownsRow base e size v n xs :=
  Go.Proofs.YtdbfaknpfepnfaaGreatDoor.owns_of_block h hb
/-- A merge: its sources, its heap, its keys. -/
structure MSt where
  ss : List Src
  hp : List Nat
  ks : List (List UInt8)
def hpV (l : List Nat) : List Value := l.map fun n : Nat => Value.int .i64 n
def ksV (l : List (List UInt8)) : List Value := l.map fun k => Value.string (str k)
/-- A merge at p; its blocks are those of S. -/
structure Mg (B : Nat) (w : World) (p : Nat) (S : Nat → Prop) (m : MSt) : Prop where
  ex : ∃ lv hv kv, w.heap[p]? = some (.cells #[lv, hv, kv, .int .i64 0] 109 (0, 0)) ∧ w.ownsRow 0 46 4 lv m.ss.length (flatS m.ss) ∧ w.ownsRow 0 3 1 hv m.hp.length (hpV m.hp) ∧
    w.ownsRow 0 9 1 kv m.ks.length (ksV m.ks) ∧ ∀ k, S k ↔ (k = p ∨ lv.ownBlock = some k ∨ hv.ownBlock = some k ∨ kv.ownBlock = some k)
  lists : ∀ s ∈ m.ss, Lis w B s
  own : ∀ k, S k → B ≤ k
  keys : m.ks.length = m.ss.length
  heap : ∀ i ∈ m.hp, i < m.ss.length
  few : m.ss.length ≤ 1000
theorem Lis.below {w w' : World} {B : Nat} {s : Src} (h : Lis w B s) (hb : Below B w w') : Lis w' B s := by
  obtain ⟨A, cap, h1, h2, h3⟩ := h
  exact ⟨A, cap, h1, h2.below hb, h3⟩
theorem Mg.lt {B : Nat} {w : World} {p : Nat} {S : Nat → Prop} {m : MSt} (h : Mg B w p S m) : ∀ k, S k → k < w.heap.size := by
  obtain ⟨lv, hv, kv, h1, h2, h3, h4, h5⟩ := h.ex
  intro k hk
  rcases (h5 k).1 hk with rfl | hk | hk | hk
  · exact lt_of_block h1
  · exact (h2.lt k hk).2
  · exact (h3.lt k hk).2
  · exact (h4.lt k hk).2
theorem Mg.pS {B : Nat} {w : World} {p : Nat} {S : Nat → Prop} {m : MSt} (h : Mg B w p S m) : S p := by
  obtain ⟨lv, hv, kv, h1, h2, h3, h4, h5⟩ := h.ex
  exact (h5 p).2 (.inl rfl)
theorem Mg.Bw {B : Nat} {w : World} {p : Nat} {S : Nat → Prop} {m : MSt} (h : Mg B w p S m) : B ≤ w.heap.size := by
  have h1 := h.own p h.pS
  have h2 := h.lt p h.pS
  omega
theorem Mg.keep {B : Nat} {w w' : World} {p : Nat} {S : Nat → Prop} {m : MSt} (h : Mg B w p S m) (hb : ∀ k, S k → w'.heap[k]? = w.heap[k]?) (hB : Below B w w') : Mg B w' p S m := by
  obtain ⟨lv, hv, kv, h1, h2, h3, h4, h5⟩ := h.ex
  exact ⟨⟨lv, hv, kv, (hb p h.pS).trans h1, owns_of_block h2 (fun k hk => hb k ((h5 k).2 (.inr (.inl hk)))), owns_of_block h3 (fun k hk => hb k ((h5 k).2 (.inr (.inr (.inl hk))))), owns_of_block h4 (fun k hk => hb k ((h5 k).2 (.inr (.inr (.inr hk))))), h5⟩,
    fun s hs => (h.lists s hs).below hB, h.own, h.keys, h.heap, h.few⟩
theorem Mg.below {B : Nat} {w w' : World} {p : Nat} {S : Nat → Prop} {m : MSt} (h : Mg B w p S m) (hb : Below w.heap.size w w') : Mg B w' p S m :=
  h.keep (fun k hk => hb.block k (h.lt k hk)) (hb.mono h.Bw)
/-- The cells of a source of a merge. -/
theorem at4_of {w : World} {lb n cap : Nat} {ss : List Src} (h : w.ownsRow 0 46 4 (.slice (some ⟨lb, 0, none⟩) n cap) n (flatS ss)) (hn : n = ss.length) (i : Nat) (hi : i < ss.length) : At4 w lb (i * 4) ss[i] := by
  have hc := fun k (hk : k < 4) => h.cellAt (i * 4 + k) (by omega)
  have h0 := hc 0 (by omega)
  have h1 := hc 1 (by omega)
  have h3 := hc 3 (by omega)
  rw [flatS_get ss i _ hi (by omega)] at h0 h1 h3
  exact ⟨h0, h1, h3, h.frozenAt _⟩
theorem mgValid_any (B p : Nat) (S : Nat → Prop) (m : MSt) (w : World) (h : Mg B w p S m) :
    Calls Tryz.prog 41 #[(Value.pointer (some ⟨p, 0, none⟩))] w fun e w' => e = .returned (.bool (decide (0 < m.hp.length))) ∧ w = w' := by
  obtain ⟨lv, hv, kv, h1, h2, h3, h4, h5⟩ := h.ex
  obtain ⟨ao, cp, hv'⟩ := own_form h3
  subst hv'
  have c3 := cellOf2 (o := 3) h1 rfl
  have c1 := cellOf2 (o := 1) h1 rfl
  have dd : decide ((0 : Int) < (m.hp.length : Int)) = decide (0 < m.hp.length) := by congr 1; exact propext Int.natCast_pos
  have HD := Lib.hid dd
  clear h h1 h2 h3 h4 h5 dd
  go_enter Tryz.func41, Tryz.ntmps41
  go_wp2_with fail
  go_ret
  exact ⟨rfl, rfl⟩
theorem mgErr_any (B p : Nat) (S : Nat → Prop) (m : MSt) (w : World) (h : Mg B w p S m) :
    Calls Tryz.prog 42 #[(Value.pointer (some ⟨p, 0, none⟩))] w fun e w' => e = .returned (.int .i64 0) ∧ w = w' := by
  obtain ⟨lv, hv, kv, h1, h2, h3, h4, h5⟩ := h.ex
  have c3 := cellOf2 (o := 3) h1 rfl
  clear h h1 h2 h3 h4 h5
  go_enter Tryz.func42, Tryz.ntmps42
  go_wp2_with fail
  go_ret
  exact ⟨rfl, rfl⟩
end Go.Proofs.YtdbfaknpfepnfaaGreatDoor
