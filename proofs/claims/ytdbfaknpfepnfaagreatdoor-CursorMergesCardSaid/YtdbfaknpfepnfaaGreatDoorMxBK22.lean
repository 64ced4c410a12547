/-
  Texts of the claim, joined: MxInsP.
-/
import Derived.Test.YtdbfaknpfepnfaaGreatDoorMxBK20
import Derived.Test.YtdbfaknpfepnfaaGreatDoorMxBK21
set_option maxRecDepth 100000
set_option maxHeartbeats 40000000
namespace Go.Proofs.YtdbfaknpfepnfaaGreatDoor
open Go.RowKit CodecP CrcP FrameP
namespace Mx

def hasK (k : List UInt8) (out : List Pr) : Prop := ∃ h : findN k out < out.length, out[findN k out].1 = k
instance (k : List UInt8) (out : List Pr) : Decidable (hasK k out) := by unfold hasK; infer_instance
def insP (fr : List UInt8) (out : List Pr) (p : Pr) : List Pr := if p.1 < fr ∨ hasK p.1 out then out else out.take (findN p.1 out) ++ p :: out.drop (findN p.1 out)
def insAll (fr : List UInt8) (out ps : List Pr) : List Pr := ps.foldl (insP fr) out
def mergedL (fr : List UInt8) (rs : List (List Pr)) : List Pr := rs.foldl (insAll fr) []
theorem insAll_len (fr : List UInt8) : ∀ (ps out : List Pr), (insAll fr out ps).length ≤ out.length + ps.length
 | [], out => by simp [insAll]
 | p :: r, out => by
  have h1 := insAll_len fr r (insP fr out p)
  have h2 : (insP fr out p).length ≤ out.length + 1 := by
   unfold insP
   split
   ·omega
   ·rw [List.length_append, List.length_cons, List.length_take, List.length_drop]; have := findN_le p.1 out; omega
  show (insAll fr (insP fr out p) r).length ≤ _
  rw [List.length_cons]
  omega
theorem merged_flat (fr : List UInt8) : ∀ (rs : List (List Pr)) (out : List Pr), rs.foldl (insAll fr) out = insAll fr out rs.flatten
 | [], out => rfl
 | a :: r, out => by
  rw [List.foldl_cons, merged_flat fr r, List.flatten_cons]
  unfold insAll
  rw [List.foldl_append]
theorem mem_hasK {out : List Pr} (hs : Srt out) {x : Pr} (hx : x ∈ out) : hasK x.1 out := by
 obtain ⟨i, hi, rfl⟩ := List.getElem_of_mem hx
 have h1 : findN out[i].1 out = i := by
  refine findN_is (Nat.le_of_lt hi) (fun j hj hji => List.pairwise_iff_getElem.1 hs j i hj hi hji) (fun h h2 => List.lt_irrefl _ h2)
 exact ⟨by rw [h1]; exact hi, by simp only [h1]⟩
theorem hasK_mem {out : List Pr} {k : List UInt8} (h : hasK k out) : ∃ x ∈ out, x.1 = k := by
 obtain ⟨h1, h2⟩ := h
 exact ⟨_, List.getElem_mem h1, h2⟩
def InsI (fr : List UInt8) (S out : List Pr) : Prop := Srt out ∧ ∀ x, x ∈ out ↔ ∃ A B, S = A ++ x :: B ∧ ¬ x.1 < fr ∧ ∀ y ∈ A, y.1 ≠ x.1
theorem first_of {k : List UInt8} : ∀ S : List Pr, (∃ y ∈ S, y.1 = k) → ∃ A x B, S = A ++ x :: B ∧ x.1 = k ∧ ∀ y ∈ A, y.1 ≠ k
 | [], h => by obtain ⟨y, hy, -⟩ := h; cases hy
 | a :: S, h => by
  by_cases ha : a.1 = k
  ·exact ⟨[], a, S, rfl, ha, fun y hy => by cases hy⟩
  ·obtain ⟨A, x, B, e, hx, hA⟩ := first_of S (by
    obtain ⟨y, hy, hk⟩ := h
    rcases List.mem_cons.1 hy with rfl | hy
    ·exact absurd hk ha
    ·exact ⟨y, hy, hk⟩)
   exact ⟨a :: A, x, B, by rw [e]; rfl, hx, fun y hy => by
    rcases List.mem_cons.1 hy with rfl | hy
    ·exact ha
    ·exact hA y hy⟩
theorem InsI.step {fr : List UInt8} {S out : List Pr} (h : InsI fr S out) (p : Pr) : InsI fr (S ++ [p]) (insP fr out p) := by
 obtain ⟨hs, hm⟩ := h
 have old : ∀ x, (∃ A B, S = A ++ x :: B ∧ ¬ x.1 < fr ∧ ∀ y ∈ A, y.1 ≠ x.1) → ∃ A B, S ++ [p] = A ++ x :: B ∧ ¬ x.1 < fr ∧ ∀ y ∈ A, y.1 ≠ x.1 := fun x ⟨A, B, e, h1, h2⟩ => ⟨A, B ++ [p], by rw [e]; simp, h1, h2⟩
 have new : ∀ x, (∃ A B, S ++ [p] = A ++ x :: B ∧ ¬ x.1 < fr ∧ ∀ y ∈ A, y.1 ≠ x.1) → (∃ A B, S = A ++ x :: B ∧ ¬ x.1 < fr ∧ ∀ y ∈ A, y.1 ≠ x.1) ∨ (x = p ∧ ¬ p.1 < fr ∧ ∀ y ∈ S, y.1 ≠ p.1) := fun x ⟨A, B, e, h1, h2⟩ => by
  rcases List.eq_nil_or_concat B with rfl | ⟨B', z, rfl⟩
  ·have e2 : S = A ∧ p = x := by
    have := List.append_inj' (s₁ := S) (t₁ := [p]) (s₂ := A) (t₂ := [x]) e rfl
    exact ⟨this.1, by simpa using this.2⟩
   exact .inr ⟨e2.2.symm, e2.2 ▸ h1, fun y hy => e2.2 ▸ h2 y (e2.1 ▸ hy)⟩
  ·rw [List.concat_eq_append, ← List.cons_append, ← List.append_assoc] at e
   have := (List.append_inj' (s₁ := S) (t₁ := [p]) e rfl).1
   exact .inl ⟨A, B', this, h1, h2⟩
 unfold insP
 by_cases hc : p.1 < fr ∨ hasK p.1 out
 ·rw [if_pos hc]
  refine ⟨hs, fun x => ⟨fun hx => old x ((hm x).1 hx), fun hx => ?_⟩⟩
  rcases new x hx with h1 | ⟨rfl, h1, h2⟩
  ·exact (hm x).2 h1
  ·rcases hc with hc | hc
   ·exact absurd hc h1
   ·obtain ⟨y, hy, hk⟩ := hasK_mem hc
    obtain ⟨A, B, e, -, -⟩ := (hm y).1 hy
    exact absurd hk (h2 y (by rw [e]; simp))
 ·rw [if_neg hc]
  have hnf : ¬ p.1 < fr := fun h => hc (.inl h)
  have hnk : ¬ hasK p.1 out := fun h => hc (.inr h)
  have hno : ∀ y ∈ S, y.1 ≠ p.1 := fun y hy e => by
   obtain ⟨A, x, B, e1, e2, e3⟩ := first_of S ⟨y, hy, e⟩
   have := (hm x).2 ⟨A, B, e1, by rw [e2]; exact hnf, fun z hz => by rw [e2]; exact e3 z hz⟩
   have := mem_hasK hs this
   rw [e2] at this
   exact hnk this
  have hmem : ∀ x, x ∈ out.take (findN p.1 out) ++ p :: out.drop (findN p.1 out) ↔ x ∈ out ∨ x = p := fun x => by
   rw [List.mem_append, List.mem_cons]
   conv => rhs; rw [← List.take_append_drop (findN p.1 out) out, List.mem_append]
   constructor
   ·rintro (h | h | h)
    ·exact .inl (.inl h)
    ·exact .inr h
    ·exact .inl (.inr h)
   ·rintro ((h | h) | h)
    ·exact .inl h
    ·exact .inr (.inr h)
    ·exact .inr (.inl h)
  refine ⟨?_, fun x => ?_⟩
  ·have hs2 := hs
   rw [← List.take_append_drop (findN p.1 out) out] at hs2
   obtain ⟨s1, s2, s3⟩ := List.pairwise_append.1 hs2
   have lo : ∀ y ∈ out.take (findN p.1 out), y.1 < p.1 := fun y hy => by
    obtain ⟨i, hi, rfl⟩ := List.getElem_of_mem hy
    rw [List.getElem_take]
    rw [List.length_take] at hi
    exact findN_lt p.1 out i (by omega)
   have hi_ : ∀ y ∈ out.drop (findN p.1 out), p.1 < y.1 := fun y hy => by
    obtain ⟨i, hi, rfl⟩ := List.getElem_of_mem hy
    rw [List.length_drop] at hi
    have hat := findN_at p.1 out (by omega)
    have h0 : findN p.1 out < out.length := by omega
    have hne : out[findN p.1 out].1 ≠ p.1 := fun e => hnk ⟨h0, e⟩
    have h1 : p.1 < out[findN p.1 out].1 := by
     by_cases h : p.1 < out[findN p.1 out].1
     ·exact h
     ·exact absurd (eq_of_nlt hat h) hne
    rw [List.getElem_drop]
    rcases Nat.eq_zero_or_pos i with rfl | hp
    ·exact h1
    ·exact List.lt_trans h1 (List.pairwise_iff_getElem.1 hs _ _ h0 (by omega) (by omega))
   refine List.pairwise_append.2 ⟨s1, List.pairwise_cons.2 ⟨hi_, s2⟩, fun a ha b hb => ?_⟩
   rcases List.mem_cons.1 hb with rfl | hb
   ·exact lo a ha
   ·exact s3 a ha b hb
  ·rw [hmem]
   constructor
   ·rintro (h | rfl)
    ·exact old x ((hm x).1 h)
    ·exact ⟨S, [], rfl, hnf, hno⟩
   ·intro hx
    rcases new x hx with h1 | ⟨h1, -⟩
    ·exact .inl ((hm x).2 h1)
    ·exact .inr h1
theorem InsI.all {fr : List UInt8} : ∀ (ps S out : List Pr), InsI fr S out → InsI fr (S ++ ps) (insAll fr out ps)
 | [], S, out, h => by simpa [insAll] using h
 | p :: r, S, out, h => by
  have := InsI.all r (S ++ [p]) _ (h.step p)
  rw [List.append_assoc] at this
  exact this
theorem mergedI (fr : List UInt8) (rs : List (List Pr)) : InsI fr rs.flatten (mergedL fr rs) := by
 unfold mergedL
 rw [merged_flat]
 have : InsI fr [] [] := ⟨List.Pairwise.nil, fun x => ⟨fun h => (by cases h), fun ⟨A, B, e, _⟩ => (by simp at e)⟩⟩
 exact InsI.all rs.flatten [] [] this
theorem drop_mem {l : List Pr} (hs : Srt l) (k : List UInt8) (x : Pr) : x ∈ l.drop (findN k l) ↔ x ∈ l ∧ ¬ x.1 < k := by
 constructor
 ·intro h
  obtain ⟨i, hi, rfl⟩ := List.getElem_of_mem h
  rw [List.length_drop] at hi
  have hat := findN_at k l (by omega)
  have h0 : findN k l < l.length := by omega
  refine ⟨List.mem_of_mem_drop (List.getElem_mem _), ?_⟩
  rw [List.getElem_drop]
  rcases Nat.eq_zero_or_pos i with rfl | hp
  ·exact hat
  ·exact fun hlt => hat (List.lt_trans (List.pairwise_iff_getElem.1 hs _ _ h0 (by omega) (by omega)) hlt)
 ·rintro ⟨h1, h2⟩
  rw [← List.take_append_drop (findN k l) l, List.mem_append] at h1
  rcases h1 with h1 | h1
  ·obtain ⟨i, hi, rfl⟩ := List.getElem_of_mem h1
   rw [List.length_take] at hi
   rw [List.getElem_take] at h2
   exact absurd (findN_lt k l i (by omega)) h2
  ·exact h1
theorem merged_isM (fr : List UInt8) (rs : List (List Pr)) (hs : ∀ l ∈ rs, Srt l) : IsM (rs.map fun l => l.drop (findN fr l)) (mergedL fr rs) := by
 obtain ⟨h1, h2⟩ := mergedI fr rs
 refine ⟨h1, fun x => ?_⟩
 rw [h2]
 have hm : ∀ i (h : i < rs.length) (y : Pr), y ∈ rs[i].drop (findN fr rs[i]) ↔ y ∈ rs[i] ∧ ¬ y.1 < fr := fun i h y => drop_mem (hs _ (List.getElem_mem h)) fr y
 constructor
 ·rintro ⟨A, B, e, hf, hA⟩
  -- the first list that has the key
  have key : ∀ (rs : List (List Pr)) (A B : List Pr), rs.flatten = A ++ x :: B → (∀ y ∈ A, y.1 ≠ x.1) → ∃ i, ∃ h : i < rs.length, x ∈ rs[i] ∧ ∀ j, ∀ h' : j < rs.length, j < i → ∀ y ∈ rs[j], y.1 ≠ x.1 := by
   intro rs
   induction rs with
   | nil => intro A B e _; simp at e
   | cons a r ih =>
    intro A B e hA
    rw [List.flatten_cons] at e
    rcases List.append_eq_append_iff.1 e with ⟨C, e1, e2⟩ | ⟨C, e1, e2⟩
    ·-- A = a ++ C
     obtain ⟨i, hi, h3, h4⟩ := ih C B e2 (fun y hy => hA y (by rw [e1]; simp [hy]))
     refine ⟨i + 1, by simpa using hi, by simpa using h3, fun j hj hji y hy => ?_⟩
     cases j with
     | zero => exact hA y (by rw [e1]; simp only [List.getElem_cons_zero] at hy; simp [hy])
     | succ j => exact h4 j (by simpa using hj) (by omega) y (by simpa using hy)
    ·-- a = A ++ C, C ++ r.flatten = x :: B
     cases C with
     | nil =>
      simp only [List.nil_append] at e2
      obtain ⟨i, hi, h3, h4⟩ := ih [] B e2.symm (fun y hy => by cases hy)
      refine ⟨i + 1, by simpa using hi, by simpa using h3, fun j hj hji y hy => ?_⟩
      cases j with
      | zero => exact hA y (by simp only [List.getElem_cons_zero] at hy; rw [e1] at hy; simpa using hy)
      | succ j => exact h4 j (by simpa using hj) (by omega) y (by simpa using hy)
     | cons c C =>
      rw [List.cons_append] at e2
      injection e2 with e3 e4
      exact ⟨0, by simp, by simp [e1, e3], fun j _ h => absurd h (Nat.not_lt_zero _)⟩
  obtain ⟨i, hi, h3, h4⟩ := key rs A B e hA
  refine ⟨i, by rw [List.length_map]; exact hi, ?_, fun j hj hji y hy => ?_⟩
  ·rw [List.getElem_map]; exact (hm i hi x).2 ⟨h3, hf⟩
  ·have hj2 : j < rs.length := by rw [List.length_map] at hj; exact hj
   rw [List.getElem_map] at hy
   exact h4 j hj2 hji y ((hm j hj2 y).1 hy).1
 ·rintro ⟨i, hi, h3, h4⟩
  have hi2 : i < rs.length := by rw [List.length_map] at hi; exact hi
  rw [List.getElem_map] at h3
  obtain ⟨h5, hf⟩ := (hm i hi2 x).1 h3
  obtain ⟨a, b, e⟩ := List.append_of_mem h5
  refine ⟨(rs.take i).flatten ++ a, b ++ (rs.drop (i + 1)).flatten, ?_, hf, fun y hy => ?_⟩
  ·conv => lhs; rw [← List.take_append_drop i rs, List.drop_eq_getElem_cons hi2, List.flatten_append, List.flatten_cons, e]
   simp
  ·rcases List.mem_append.1 hy with hy | hy
   ·obtain ⟨l, hl, hyl⟩ := List.mem_flatten.1 hy
    obtain ⟨j, hj, rfl⟩ := List.getElem_of_mem hl
    rw [List.length_take] at hj
    rw [List.getElem_take] at hyl
    intro ek
    refine h4 j (by rw [List.length_map]; omega) (by omega) y ?_ ek
    rw [List.getElem_map]
    exact (hm j (by omega) y).2 ⟨hyl, by rw [ek]; exact hf⟩
   ·have hsi := hs _ (List.getElem_mem hi2)
    rw [e] at hsi
    have := (List.pairwise_append.1 hsi).2.2 y hy x (by simp)
    exact fun ek => List.lt_irrefl _ (ek ▸ this)
end Mx
end Go.Proofs.YtdbfaknpfepnfaaGreatDoor


