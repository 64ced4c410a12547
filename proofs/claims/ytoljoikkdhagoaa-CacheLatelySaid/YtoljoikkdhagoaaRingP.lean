/-
  The plain laws of a ring of entries; a map of entries; a cache in memory.
-/
import Derived.Test.YtoljoikkdhagoaaCacheP
namespace Go.Proofs.Ytoljoikkdhagoaa
open Go.RowKit Go.Maps

/-- Each next one's elder is the one ahead of it. -/
def Lk (nx pv : Nat → Nat) : List Nat → Prop
  | a :: b :: l => (nx a = b ∧ pv b = a) ∧ Lk nx pv (b :: l)
  | _ => True
theorem Lk.append {nx pv : Nat → Nat} (A : List Nat) (a b : Nat) (B : List Nat) : Lk nx pv (A ++ a :: b :: B) ↔ Lk nx pv (A ++ [a]) ∧ (nx a = b ∧ pv b = a) ∧ Lk nx pv (b :: B) := by
  induction A with
  | nil => simp [Lk]
  | cons x A ih =>
    cases A with
    | nil => simp only [List.nil_append, List.cons_append, Lk]; simp [and_assoc]
    | cons y A =>
      simp only [List.cons_append, Lk] at ih ⊢
      rw [ih]; simp [and_assoc]
theorem Lk.congr {nx pv nx' pv' : Nat → Nat} (L : List Nat) (h1 : ∀ a ∈ L.dropLast, nx' a = nx a) (h2 : ∀ b ∈ L.tail, pv' b = pv b) (h : Lk nx pv L) : Lk nx' pv' L := by
  induction L with
  | nil => exact h
  | cons a L ih =>
    cases L with
    | nil => exact h
    | cons b L =>
      obtain ⟨⟨e1, e2⟩, h3⟩ := h
      refine ⟨⟨by rw [h1 a (by simp)]; exact e1, by rw [h2 b (by simp)]; exact e2⟩, ih (fun x hx => h1 x ?_) (fun x hx => h2 x ?_) h3⟩
      · simp only [List.dropLast_cons_cons]; exact List.mem_cons_of_mem _ hx
      · simp only [List.tail_cons] at hx ⊢; exact List.mem_cons_of_mem _ hx
/-- A ring: entries between the ring's own one and itself. -/
def Ring (r : Nat) (bs : List Nat) (nx pv : Nat → Nat) : Prop := (r :: bs).Nodup ∧ Lk nx pv (r :: (bs ++ [r]))
theorem last_split (r : Nat) (l : List Nat) : ∃ A p, r :: l = A ++ [p] := by
  obtain ⟨A, p, h⟩ := List.eq_nil_or_concat (r :: l) |>.resolve_left (by simp)
  exact ⟨A, p, by simpa [List.concat_eq_append] using h⟩
theorem head_split (l : List Nat) (r : Nat) : ∃ n B, l ++ [r] = n :: B := by
  cases l with
  | nil => exact ⟨r, [], rfl⟩
  | cons n l => exact ⟨n, l ++ [r], rfl⟩
theorem Ring.out {r e : Nat} {l1 l2 : List Nat} {nx pv : Nat → Nat} (h : Ring r (l1 ++ e :: l2) nx pv) :
    pv e ∈ r :: (l1 ++ e :: l2) ∧ nx e ∈ r :: (l1 ++ e :: l2) ∧ Ring r (l1 ++ l2) (upd nx (pv e) (nx e)) (upd pv (nx e) (pv e)) := by
  obtain ⟨hnd, hl⟩ := h
  obtain ⟨A, p, hA⟩ := last_split r l1
  obtain ⟨n, B, hB⟩ := head_split l2 r
  have hL : r :: (l1 ++ e :: l2 ++ [r]) = A ++ p :: e :: n :: B := by
    rw [List.append_assoc, List.cons_append, hB, ← List.cons_append, hA]; simp
  rw [hL, Lk.append] at hl
  obtain ⟨k1, ⟨k2, k3⟩, k4⟩ := hl
  obtain ⟨⟨k5, k6⟩, k7⟩ := k4
  have hpm : p ∈ r :: l1 := by rw [hA]; simp
  have hnm : n ∈ l2 ++ [r] := by rw [hB]; simp
  rw [k3, k5]
  have hnd1 : (r :: l1).Nodup ∧ (e :: l2).Nodup ∧ ∀ a ∈ r :: l1, ∀ b ∈ e :: l2, a ≠ b := by
    rw [← List.cons_append, List.nodup_append] at hnd; exact hnd
  have hrl1 : r ∉ l1 := (List.nodup_cons.1 hnd1.1).1
  refine ⟨?_, ?_, ?_, ?_⟩
  · rw [← List.cons_append]; exact List.mem_append.2 (.inl hpm)
  · rcases List.mem_append.1 hnm with h | h
    · simp [h]
    · simp at h; simp [h]
  · rw [← List.cons_append, List.nodup_append]
    exact ⟨hnd1.1, (List.nodup_cons.1 hnd1.2.1).2, fun a ha b hb => hnd1.2.2 a ha b (by simp [hb])⟩
  · have hL2 : r :: (l1 ++ l2 ++ [r]) = A ++ p :: n :: B := by
      rw [List.append_assoc, hB, ← List.cons_append, hA]; simp
    rw [hL2, Lk.append]
    refine ⟨Lk.congr _ (fun a ha => ?_) (fun b hb => ?_) k1, ⟨upd_same _ _ _, upd_same _ _ _⟩, Lk.congr _ (fun a ha => ?_) (fun b hb => ?_) k7⟩
    · rw [List.dropLast_concat] at ha
      refine upd_other _ _ _ (fun e => ?_)
      have := hnd1.1
      rw [hA, List.nodup_append] at this
      exact this.2.2 a ha p (by simp) e
    · rw [← hA, List.tail_cons] at hb
      refine upd_other _ _ _ (fun e => ?_)
      subst e
      rcases List.mem_append.1 hnm with h | h
      · exact hnd1.2.2 b (by simp [hb]) b (by simp [h]) rfl
      · simp at h; subst h; exact hrl1 hb
    · rw [← hB, List.dropLast_concat] at ha
      exact upd_other _ _ _ (fun e => hnd1.2.2 p hpm a (by simp [ha]) e.symm)
    · rw [List.tail_cons] at hb
      refine upd_other _ _ _ (fun e => ?_)
      subst e
      have : (l2 ++ [r]).Nodup := by
        rw [List.nodup_append]
        refine ⟨(List.nodup_cons.1 hnd1.2.1).2, by simp, fun a ha c hc => ?_⟩
        simp at hc; subst hc
        exact fun e => hnd1.2.2 c (by simp) a (by simp [ha]) e.symm
      rw [hB] at this
      exact (List.nodup_cons.1 this).1 hb
theorem Ring.young {r e : Nat} {bs : List Nat} {nx pv : Nat → Nat} (h : Ring r bs nx pv) (he : e ∉ r :: bs) :
    pv r ∈ r :: bs ∧ Ring r (bs ++ [e]) (upd (upd nx e r) (pv r) e) (upd (upd pv e (pv r)) r e) := by
  obtain ⟨hnd, hl⟩ := h
  obtain ⟨A, p, hA⟩ := last_split r bs
  have hL : r :: (bs ++ [r]) = A ++ p :: r :: [] := by rw [← List.cons_append, hA]; simp
  rw [hL, Lk.append] at hl
  obtain ⟨k1, ⟨k2, k3⟩, _⟩ := hl
  have hpm : p ∈ r :: bs := by rw [hA]; simp
  have hpe : p ≠ e := fun x => he (x ▸ hpm)
  have hre : r ≠ e := fun x => he (by simp [x])
  rw [k3]
  refine ⟨hpm, ?_, ?_⟩
  · rw [← List.cons_append, List.nodup_append]
    exact ⟨hnd, by simp, fun a ha b hb => by simp at hb; subst hb; exact fun x => he (x ▸ ha)⟩
  · have hL2 : r :: (bs ++ [e] ++ [r]) = A ++ p :: e :: r :: [] := by
      rw [List.append_assoc, ← List.cons_append, hA]; simp
    rw [hL2, Lk.append]
    refine ⟨Lk.congr _ (fun a ha => ?_) (fun b hb => ?_) k1, ⟨upd_same _ _ _, ?_⟩, ⟨?_, upd_same _ _ _⟩, trivial⟩
    · rw [List.dropLast_concat] at ha
      have hap : a ≠ p := by
        intro x
        rw [hA, List.nodup_append] at hnd
        exact hnd.2.2 a ha p (by simp) x
      have hae : a ≠ e := fun x => he (x ▸ (by rw [hA]; simp [ha]))
      rw [upd_other _ _ _ hap, upd_other _ _ _ hae]
    · rw [← hA, List.tail_cons] at hb
      have hbr : b ≠ r := fun x => (List.nodup_cons.1 hnd).1 (x ▸ hb)
      have hbe : b ≠ e := fun x => he (x ▸ (by simp [hb]))
      rw [upd_other _ _ _ hbr, upd_other _ _ _ hbe]
    · rw [upd_other _ _ _ hre.symm, upd_same]
    · rw [upd_other _ _ _ hpe.symm, upd_same]
theorem Ring.empty (r : Nat) (nx pv : Nat → Nat) (h1 : nx r = r) (h2 : pv r = r) : Ring r [] nx pv := ⟨by simp, ⟨h1, h2⟩, trivial⟩
/-- Going round: what stands behind a place. -/
theorem Ring.next {r : Nat} {bs : List Nat} {nx pv : Nat → Nat} (h : Ring r bs nx pv) (i : Nat) (hi : i < bs.length + 1) : nx ((r :: bs)[i]'(by simpa using hi)) = (bs ++ [r])[i]'(by simpa using hi) := by
  have key : ∀ (L : List Nat) (_ : Lk nx pv L) (j : Nat) (hj : j + 1 < L.length), nx (L[j]'(by omega)) = L[j + 1] := by
    intro L
    induction L with
    | nil => intro _ j hj; simp at hj
    | cons a L ih =>
      intro hL j hj
      cases L with
      | nil => simp at hj
      | cons b L =>
        cases j with
        | zero => exact hL.1.1
        | succ j => exact ih hL.2 j (by simpa using hj)
  have := key _ h.2 i (by simp; omega)
  simp only [List.getElem_cons_succ] at this
  rw [← this]
  congr 1
  have e : (r :: (bs ++ [r])) = (r :: bs) ++ [r] := rfl
  simp only [e]
  rw [List.getElem_append_left]
end Go.Proofs.Ytoljoikkdhagoaa
