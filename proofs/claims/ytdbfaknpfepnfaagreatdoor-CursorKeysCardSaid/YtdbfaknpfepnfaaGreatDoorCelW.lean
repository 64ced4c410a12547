
/-
  Small facts on cells, rows and texts, for the cursor's walks.
-/
import Derived.Test.YtdbfaknpfepnfaaGreatDoorBlockW
import Derived.Test.YtdbfaknpfepnfaaGreatDoorSn
import Derived.Lib.Bytealg
import Derived.Deep.LoopGhost
import Derived.Maps.AppendAt
import Derived.Deep.RegionHeld3
import Derived.Deep.RegionWith
import Derived.Deep.CutBlock
import Derived.Deep.DeepCutAuto
import Derived.Deep.RegionLaw
import Derived.StillTailTactics
import Derived.Handy
namespace Go.Proofs.YtdbfaknpfepnfaaGreatDoor.Cur
open Go.RowKit CodecP

theorem cellOf2 {w : World} {b o : Nat} {cs : Array Value} {t : TypeId} {f : Nat × Nat} {v : Value} (h : w.heap[b]? = some (.cells cs t f)) (hv : cs[o]? = some v) : w.cell? ⟨b, o, none⟩ = some v := by simp [World.cell?, h, hv]
theorem setAt2 {w : World} {p o : Nat} {cs : Array Value} {t : TypeId} (u : Value) (h : w.heap[p]? = some (.cells cs t (0, 0))) : (w.setCell ⟨p, o, none⟩ u).heap[p]? = some (.cells (cs.setIfInBounds o u) t (0, 0)) := by
  have hlt := lt_of_block h
  have h' : w.heap[p] = .cells cs t (0, 0) := by simpa [Array.getElem?_eq_getElem hlt] using h
  show (w.heap.modify p _)[p]? = _
  rw [Array.getElem?_eq_getElem (by simpa using hlt), Array.getElem_modify_self, h']; rfl
theorem free_of2 {w : World} {b : Nat} {cs : Array Value} {t : TypeId} (o : Nat) (h : w.heap[b]? = some (.cells cs t (0, 0))) : w.frozen? ⟨b, o, none⟩ = false := by simp [World.frozen?, h]
theorem takeH {P : Program} {md : Region.Mode} {ops : Array Oper} {Q : Exit → Act → World → Prop} {S : World → Prop} {i : Nat} {d : Option Tmp} {oi : Oper} {v : Value} {fuel : Nat} {listed : Array Bool} {a : Act} {w : World} (hi : ops[i]? = some oi) (hd : oi.dst = d)
    (hs : Region.noSelect ops = true) (hf : Region.free md ops listed i = true) (hr : (Region.ready md ops listed).contains i = true)
    (hQ : ∀ c a w, Q (.panic c) (a.put d v) w → Q (.panic c) a w) (hy : YieldsIf P ops S oi v a) (hS : S w)
    (h : wpAnyH P md ops Q S fuel (listed.setIfInBounds i true) (a.put d v) w) : wpAnyH P md ops Q S (fuel + 1) listed a w := by
  subst hd
  exact wpAnyH_take hi hs hf hr hQ hy hS h
theorem undrew {B : Nat} {w w1 : World} (h : Below B w.drew w1) : Below B w w1 := ⟨h.os, h.tape, h.output, h.size, h.block⟩
theorem own_base {w : World} {b b' e size n : Nat} {v : Value} {xs : List Value} (h : w.ownsRow b e size v n xs) (hb : b' ≤ b) : w.ownsRow b' e size v n xs := by
  obtain ⟨h1, h2⟩ := h
  refine ⟨h1, ?_⟩
  rcases h2 with h2 | ⟨g, cap, cur, hv, hg, r⟩
  · exact .inl h2
  · exact .inr ⟨g, cap, cur, hv, Nat.le_trans hb hg, r⟩
theorem cmpB : ∀ a b : List UInt8, (Lib.compareBytes a b < 0 ↔ a < b) ∧ (Lib.compareBytes a b = 0 ↔ a = b)
  | [], [] => by simp [Lib.compareBytes]
  | [], b :: bs => by simp [Lib.compareBytes]
  | a :: s, [] => by simp [Lib.compareBytes]
  | a :: s, b :: bs => by
    obtain ⟨h1, h2⟩ := cmpB s bs
    unfold Lib.compareBytes
    rw [List.cons_lt_cons_iff]
    by_cases hab : a < b
    · have hne : a ≠ b := fun e => by subst e; exact absurd hab (by simp)
      simp [hab, hne]
    · by_cases hba : b < a
      · have hne : a ≠ b := fun e => by subst e; exact hab hba
        simp [hab, hba, hne]
      · have e : a = b := by
          apply UInt8.toNat_inj.1
          rw [UInt8.lt_iff_toNat_lt] at hab hba
          omega
        subst e
        simp [h1, h2]
/-- The cells of pairs. -/
def flatR (ps : List Pr) : List Value := ps.flatMap fun p => [Value.string (str p.1), Value.string (str p.2)]
theorem flatR_append (a b : List Pr) : flatR (a ++ b) = flatR a ++ flatR b := by simp [flatR]
theorem flatR_length (ps : List Pr) : (flatR ps).length = ps.length * 2 := by
  induction ps with
  | nil => rfl
  | cons p ps ih => simp [flatR] at ih ⊢; omega
theorem flatR_get (ps : List Pr) (i : Nat) (h : i < ps.length) : (flatR ps)[i * 2]? = some (.string (str ps[i].1)) ∧ (flatR ps)[i * 2 + 1]? = some (.string (str ps[i].2)) := by
  have h1 : flatR ps = flatR (ps.take i) ++ flatR (ps.drop i) := by rw [← flatR_append, List.take_append_drop]
  have h2 : (flatR (ps.take i)).length = i * 2 := by rw [flatR_length, List.length_take]; omega
  rw [List.drop_eq_getElem_cons h] at h1
  rw [h1]
  constructor
  · rw [List.getElem?_append_right (by omega), h2, Nat.sub_self]; rfl
  · rw [List.getElem?_append_right (by omega), h2, show i * 2 + 1 - i * 2 = 1 by omega]; rfl
end Go.Proofs.YtdbfaknpfepnfaaGreatDoor.Cur
