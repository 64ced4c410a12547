/-
  Plain mathematics: pairs in the order of their keys.
-/
import Derived.Test.YtddlhkkkngfgiaaSkip3P
import Derived.Sort.Walk0
namespace Go.Proofs.Ytddlhkkkngfgiaa

/-- An order, told by a Bool. -/
structure LinB {K : Type} (lt : K → K → Bool) : Prop where
  irr : ∀ a, lt a a = false
  tr : ∀ a b c, lt a b = true → lt b c = true → lt a c = true
  tri : ∀ a b, lt a b = false → lt b a = false → a = b
theorem linS : LinB (fun a b : ByteArray => Op.bytesLess a.toList b.toList) := by
  refine ⟨fun a => ?_, fun a b c h1 h2 => ?_, fun a b h1 h2 => ?_⟩
  · rw [bytesLess_eq, decide_eq_false_iff_not]; exact List.lt_irrefl _
  · rw [bytesLess_eq, decide_eq_true_eq] at *; exact List.lt_trans h1 h2
  · rw [bytesLess_eq, decide_eq_false_iff_not] at h1 h2
    have : a.toList = b.toList := List.le_antisymm (List.not_lt.1 h2) (List.not_lt.1 h1)
    rw [ByteArray.toList_eq, ByteArray.toList_eq] at this
    cases a; cases b
    simp at this
    rw [this]
theorem linI : LinB (fun a b : Int => decide (a < b)) :=
  ⟨fun a => by simp, fun a b c h1 h2 => by simp at *; omega, fun a b h1 h2 => by simp at *; omega⟩
section
variable {K V : Type} {lt : K → K → Bool}
def loP (lt : K → K → Bool) (L : List (K × V)) (k : K) : List (K × V) := L.takeWhile (fun p => lt p.1 k)
def upP (lt : K → K → Bool) (L : List (K × V)) (k : K) : List (K × V) := L.dropWhile (fun p => lt p.1 k)
/-- What stands at a key, or above it. -/
def restP [DecidableEq K] (lt : K → K → Bool) (L : List (K × V)) (k : K) : List (K × V) := match upP lt L k with
  | [] => []
  | p :: r => if p.1 = k then r else p :: r
def hitP [DecidableEq K] (lt : K → K → Bool) (L : List (K × V)) (k : K) : Option V := match upP lt L k with
  | [] => none
  | p :: _ => if p.1 = k then some p.2 else none
def putP [DecidableEq K] (lt : K → K → Bool) (L : List (K × V)) (k : K) (v : V) : List (K × V) := loP lt L k ++ (k, v) :: restP lt L k
def delP [DecidableEq K] (lt : K → K → Bool) (L : List (K × V)) (k : K) : List (K × V) := loP lt L k ++ restP lt L k
def SortP (lt : K → K → Bool) (L : List (K × V)) : Prop := L.Pairwise (fun x y => lt x.1 y.1 = true)
theorem lo_up (L : List (K × V)) (k : K) : loP lt L k ++ upP lt L k = L := List.takeWhile_append_dropWhile
theorem lo_lt (L : List (K × V)) (k : K) : ∀ p ∈ loP lt L k, lt p.1 k = true := by
  induction L with
  | nil => intro p hp; cases hp
  | cons q L ih =>
    intro p hp
    unfold loP at hp
    rw [List.takeWhile_cons] at hp
    by_cases hq : lt q.1 k = true
    · rw [if_pos hq] at hp
      rcases List.mem_cons.1 hp with rfl | hp
      · exact hq
      · exact ih p hp
    · rw [if_neg hq] at hp; cases hp
theorem up_ge (hO : LinB lt) (L : List (K × V)) (h : SortP lt L) (k : K) : ∀ p ∈ upP lt L k, lt p.1 k = false := by
  induction L with
  | nil => intro p hp; cases hp
  | cons q L ih =>
    intro p hp
    unfold SortP at h
    rw [List.pairwise_cons] at h
    unfold upP at hp
    rw [List.dropWhile_cons] at hp
    by_cases hq : lt q.1 k = true
    · rw [if_pos hq] at hp; exact ih h.2 p hp
    · rw [if_neg hq] at hp
      have hq : lt q.1 k = false := by simpa using hq
      rcases List.mem_cons.1 hp with rfl | hp
      · exact hq
      · cases hpk : lt p.1 k with
        | false => rfl
        | true => rw [hO.tr _ _ _ (h.1 p hp) hpk] at hq; cases hq
/-- Two lists in order that hold the same are the same. -/
theorem sorted_ext (hO : LinB lt) : ∀ A B : List K, A.Pairwise (fun x y => lt x y = true) → B.Pairwise (fun x y => lt x y = true) → (∀ x, x ∈ A ↔ x ∈ B) → A = B
  | [], [], _, _, _ => rfl
  | [], b :: B, _, _, h => by have := (h b).2 (by simp); cases this
  | a :: A, [], _, _, h => by have := (h a).1 (by simp); cases this
  | a :: A, b :: B, hA, hB, h => by
    rw [List.pairwise_cons] at hA hB
    have hab : a = b := by
      rcases List.mem_cons.1 ((h a).1 (by simp)) with e | e
      · exact e
      · rcases List.mem_cons.1 ((h b).2 (by simp)) with e2 | e2
        · exact e2.symm
        · have h1 := hO.tr _ _ _ (hA.1 b e2) (hB.1 a e)
          rw [hO.irr] at h1; cases h1
    subst hab
    rw [sorted_ext hO A B hA.2 hB.2 (fun x => ?_)]
    have hne : ∀ y, y ∈ A ∨ y ∈ B → y ≠ a := fun y hy e => by
      subst e
      rcases hy with hy | hy
      · have := hA.1 y hy; rw [hO.irr] at this; cases this
      · have := hB.1 y hy; rw [hO.irr] at this; cases this
    constructor
    · intro hx
      rcases List.mem_cons.1 ((h x).1 (by simp [hx])) with e | e
      · exact absurd e (hne x (.inl hx))
      · exact e
    · intro hx
      rcases List.mem_cons.1 ((h x).2 (by simp [hx])) with e | e
      · exact absurd e (hne x (.inr hx))
      · exact e
def prs (es : List (St K V)) : List (K × V) := es.map (fun x => (x.key, x.val))
/-- A map's nodes, parted at a key. -/
theorem part (hO : LinB lt) (es : List (St K V)) (hs : es.Pairwise (fun x y => lt x.key y.key = true)) (k : K) : ∃ l1 l2, es = l1 ++ l2 ∧ (∀ z ∈ l1, lt z.key k = true) ∧ (∀ z ∈ l2, lt z.key k = false) ∧ loP lt (prs es) k = prs l1 ∧ upP lt (prs es) k = prs l2 := by
  have h1 : loP lt (prs es) k = prs (es.takeWhile (fun x => lt x.key k)) := by unfold loP prs; rw [List.takeWhile_map]; rfl
  have h2 : upP lt (prs es) k = prs (es.dropWhile (fun x => lt x.key k)) := by unfold upP prs; rw [List.dropWhile_map]; rfl
  have hS : SortP lt (prs es) := List.pairwise_map.2 hs
  refine ⟨_, _, List.takeWhile_append_dropWhile.symm, fun z hz => ?_, fun z hz => ?_, h1, h2⟩
  · exact lo_lt (prs es) k (z.key, z.val) (by rw [h1]; exact List.mem_map_of_mem (f := fun x : St K V => (x.key, x.val)) hz)
  · exact up_ge hO (prs es) hS k (z.key, z.val) (by rw [h2]; exact List.mem_map_of_mem (f := fun x : St K V => (x.key, x.val)) hz)
end
end Go.Proofs.Ytddlhkkkngfgiaa
