/-
  What is framed, one behind the other, is told as it was; cut off: all ahead of it (the plain law of CrcBack).
-/
import Derived.Test.YtbkdlkhaeidhcaaDoorCrcOpensW
namespace Go.Proofs.YtbkdlkhaeidhcaaDoor
open Go.RowKit Go.Deep CrcP CodecP FrameP

def cat (L : List (List UInt8)) : List UInt8 := (L.map frame).flatten
theorem cat_cons (d : List UInt8) (L : List (List UInt8)) : cat (d :: L) = frame d ++ cat L := rfl
theorem cat_append (a b : List (List UInt8)) : cat (a ++ b) = cat a ++ cat b := by simp [cat]
theorem allF_cat (L : List (List UInt8)) (h : ∀ d ∈ L, d.length ≤ 131072) : allF (cat L) = (L, (cat L).length, 0) := by
  induction L with
  | nil => rfl
  | cons d L ih =>
    have ho := opn_frame d (cat L) (h d (by simp))
    have hl := frame_length d
    have hne : frame d ++ cat L ≠ [] := by intro e; have := congrArg List.length e; simp [hl] at this
    rw [cat_cons, allF_step _ hne (by rw [ho]), ho]
    have hd : (frame d ++ cat L).drop (12 + d.length) = cat L := drop_app _ _ _ hl
    simp only [hd, ih (fun x hx => h x (by simp [hx]))]
    simp [hl]
theorem opn_cut (d rest : List UInt8) (hd : d.length ≤ 131072) (k : Nat) (h : k < 12 + d.length) : opn ((frame d ++ rest).take k) = ([], 0, 1) := by
  have hl := frame_length d
  have hk : ((frame d ++ rest).take k).length = k := by rw [List.length_take, List.length_append]; omega
  unfold opn
  by_cases h8 : k < 8
  · rw [if_pos (by rw [hk]; exact h8)]
  · have hf : frame d ++ rest = be4 d.length ++ (laid (be4 d.length) ++ (d ++ (laid d ++ rest))) := by simp [frame, List.append_assoc]
    have h4 : ((frame d ++ rest).take k).take 4 = be4 d.length := by
      rw [List.take_take, show min 4 k = 4 by omega, hf]
      exact take_app _ _ _ (be4_length _)
    have h44 : (((frame d ++ rest).take k).drop 4).take 4 = laid (be4 d.length) := by
      rw [List.drop_take, List.take_take, show min 4 (k - 4) = 4 by omega, hf, drop_app _ _ _ (be4_length _)]
      exact take_app _ _ _ (laid_length _)
    have hv : value (be4 d.length) = d.length := value_be4 _ (by omega)
    rw [if_neg (by rw [hk]; exact h8), h4, h44, hv, if_neg (by rintro (e | e); exact e rfl; omega), if_pos (by rw [hk]; exact h)]
theorem allF_cut (L : List (List UInt8)) (h : ∀ d ∈ L, d.length ≤ 131072) : ∀ k, k ≤ (cat L).length → ∃ j n c, j ≤ L.length ∧ allF ((cat L).take k) = (L.take j, n, c) ∧ n ≤ k ∧ (n = k ∧ c = 0 ∨ n < k ∧ c = 1) := by
  induction L with
  | nil => intro k hk; exact ⟨0, 0, 0, by simp, by simp [cat, allF_nil], by omega, .inl ⟨by simp [cat] at hk; omega, rfl⟩⟩
  | cons d L ih =>
    intro k hk
    have hl := frame_length d
    by_cases h0 : k = 0
    · subst h0; exact ⟨0, 0, 0, by omega, by simp [allF_nil], by omega, .inl ⟨rfl, rfl⟩⟩
    · rw [cat_cons] at hk ⊢
      have hne : (frame d ++ cat L).take k ≠ [] := by intro e; have := congrArg List.length e; simp [hl] at this; omega
      by_cases hs : k < 12 + d.length
      · have ho := opn_cut d (cat L) (h d (by simp)) k hs
        exact ⟨0, 0, 1, by omega, by rw [allF_bad _ hne (by rw [ho]; simp), ho]; simp, by omega, .inr ⟨by omega, rfl⟩⟩
      · have ht : (frame d ++ cat L).take k = frame d ++ (cat L).take (k - (12 + d.length)) := by
          rw [List.take_append, hl, List.take_of_length_le (by omega)]
        rw [List.length_append, hl] at hk
        obtain ⟨j, n, c, hj, ha, hn, hc⟩ := ih (fun x hx => h x (by simp [hx])) (k - (12 + d.length)) (by omega)
        have ho := opn_frame d ((cat L).take (k - (12 + d.length))) (h d (by simp))
        rw [ht] at hne ⊢
        refine ⟨j + 1, 12 + d.length + n, c, by simpa using hj, ?_, by omega, by omega⟩
        rw [allF_step _ hne (by rw [ho]), ho]
        have hd : (frame d ++ (cat L).take (k - (12 + d.length))).drop (12 + d.length) = (cat L).take (k - (12 + d.length)) := drop_app _ _ _ hl
        simp only [hd, ha]
        simp
end Go.Proofs.YtbkdlkhaeidhcaaDoor
