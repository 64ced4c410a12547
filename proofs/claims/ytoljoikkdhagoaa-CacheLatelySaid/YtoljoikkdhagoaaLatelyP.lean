/-
  Plain mathematics: what was used lately.
-/
import Derived.Test.YtoljoikkdhagoaaCacheNoneW
namespace Go.Proofs.Ytoljoikkdhagoaa
open Go.RowKit Go.Maps

/-- Each one once, where it stands first. -/
def dd : List Int → List Int
  | [] => []
  | x :: xs => x :: (dd xs).filter (fun y => decide (y ≠ x))
theorem dd_nodup (xs : List Int) : (dd xs).Nodup := by
  induction xs with
  | nil => simp [dd]
  | cons x xs ih =>
    rw [dd, List.nodup_cons]
    exact ⟨by simp, ih.sublist List.filter_sublist⟩
def dedA (acc : List Int) : List Int → List Int
  | [] => acc
  | x :: xs => dedA (if x ∈ acc then acc else acc ++ [x]) xs
theorem dedA_eq (xs : List Int) : ∀ acc : List Int, dedA acc xs = acc ++ (dd xs).filter (fun y => decide (y ∉ acc)) := by
  induction xs with
  | nil => intro acc; simp [dedA, dd]
  | cons x xs ih =>
    intro acc
    rw [dedA, ih, dd]
    by_cases hx : x ∈ acc
    · rw [if_pos hx, List.filter_cons, if_neg (by simp [hx]), List.filter_filter]
      congr 1
      refine List.filter_congr (fun y _ => ?_)
      by_cases hy : y ∈ acc
      · simp [hy]
      · have : y ≠ x := fun e => hy (e ▸ hx)
        simp [hy, this]
    · rw [if_neg hx, List.filter_cons, if_pos (by simp [hx]), List.filter_filter, List.append_assoc, List.singleton_append]
      congr 2
      refine List.filter_congr (fun y _ => ?_)
      simp [Bool.and_comm]
/-- What was used lately, the youngest first. -/
def lat (l : List Int) : List Int := dd l.reverse
theorem lat_nodup (l : List Int) : (lat l).Nodup := dd_nodup _
theorem lat_snoc (l : List Int) (x : Int) : lat (l ++ [x]) = x :: (lat l).filter (fun y => decide (y ≠ x)) := by
  unfold lat; rw [List.reverse_append]; rfl
theorem lat_ded (l : List Int) : lat l = dedA [] l.reverse := by
  rw [dedA_eq, List.nil_append]
  exact (List.filter_eq_self.2 (fun _ _ => by simp)).symm
/-- What there is room for, the eldest first. -/
def kept (n : Nat) (l : List Int) : List Int := ((lat l).take n).reverse
theorem kept_nodup (n : Nat) (l : List Int) : (kept n l).Nodup := by
  unfold kept; exact List.pairwise_reverse.2 (((lat_nodup l).sublist (List.take_sublist _ _)).imp Ne.symm)
theorem kept_len (n : Nat) (l : List Int) : (kept n l).length ≤ n := by unfold kept; rw [List.length_reverse, List.length_take]; omega
theorem filter_split {x : Int} {A B : List Int} (h : (A ++ x :: B).Nodup) : (A ++ x :: B).filter (fun y => decide (y ≠ x)) = A ++ B := by
  rw [List.nodup_append] at h
  have hA : x ∉ A := fun hx => h.2.2 x hx x (by simp) rfl
  have hB : x ∉ B := (List.nodup_cons.1 h.2.1).1
  rw [List.filter_append, List.filter_cons, if_neg (by simp)]
  rw [List.filter_eq_self.2 (fun y hy => by simp; exact fun e => hA (e ▸ hy)), List.filter_eq_self.2 (fun y hy => by simp; exact fun e => hB (e ▸ hy))]
/-- It was there: it is the youngest now. -/
theorem kept_old (n : Nat) (l : List Int) (x : Int) (k1 k2 : List Int) (h : kept n l = k1 ++ x :: k2) : kept n (l ++ [x]) = k1 ++ k2 ++ [x] := by
  unfold kept at h ⊢
  rw [lat_snoc]
  have hnd := lat_nodup l
  generalize lat l = L at *
  have h2 : L.take n = k2.reverse ++ x :: k1.reverse := by
    have := congrArg List.reverse h
    simpa using this
  have hn : 0 < n := by
    rcases Nat.eq_zero_or_pos n with h0 | h0
    · subst h0; simp at h2
    · exact h0
  obtain ⟨m, rfl⟩ : ∃ m, n = m + 1 := ⟨n - 1, by omega⟩
  have hL : L = k2.reverse ++ x :: (k1.reverse ++ L.drop (m + 1)) := by
    conv => lhs; rw [← List.take_append_drop (m + 1) L, h2]
    simp
  rw [List.take_succ_cons, List.reverse_cons]
  congr 1
  rw [hL] at hnd
  have hlen := congrArg List.length h2
  simp only [List.length_take, List.length_append, List.length_reverse, List.length_cons] at hlen
  have e : L.filter (fun y => decide (y ≠ x)) = k2.reverse ++ (k1.reverse ++ L.drop (m + 1)) := by
    conv => lhs; rw [hL]
    exact filter_split hnd
  rw [e, ← List.append_assoc]
  have hl2 : (k2.reverse ++ k1.reverse).length = k2.length + k1.length := by simp
  by_cases hc : k2.length + k1.length = m
  · rw [List.take_append_of_le_length (by omega), List.take_of_length_le (by omega)]; simp
  · have : L.drop (m + 1) = [] := List.drop_eq_nil_iff.2 (by omega)
    rw [this, List.append_nil, List.take_of_length_le (by omega)]; simp
/-- It wasn't there. -/
theorem kept_new (n : Nat) (l : List Int) (x : Int) (hn : 0 < n) (h : x ∉ kept n l) : (kept n l ++ [x] = kept n (l ++ [x]) ∧ (kept n l).length + 1 ≤ n) ∨ (∃ y, kept n l ++ [x] = y :: kept n (l ++ [x]) ∧ n < (kept n l).length + 1) := by
  unfold kept at h ⊢
  rw [lat_snoc]
  generalize lat l = L at *
  obtain ⟨m, rfl⟩ : ∃ m, n = m + 1 := ⟨n - 1, by omega⟩
  rw [List.mem_reverse] at h
  rw [List.take_succ_cons, List.reverse_cons]
  have e : (L.filter (fun y => decide (y ≠ x))).take m = L.take m := by
    have h1 : (L.take (m + 1)).filter (fun y => decide (y ≠ x)) = L.take (m + 1) := List.filter_eq_self.2 (fun y hy => by simp; exact fun e => h (e ▸ hy))
    conv => lhs; rw [← List.take_append_drop (m + 1) L, List.filter_append, h1]
    by_cases hc : L.length ≤ m
    · rw [List.drop_eq_nil_iff.2 (by omega)]; simp [List.take_take]
    · rw [List.take_append_of_le_length (by rw [List.length_take]; omega), List.take_take, Nat.min_eq_left (by omega)]
  rw [e]
  by_cases hc : L.length ≤ m
  · left
    rw [List.take_of_length_le (by omega), List.take_of_length_le (by omega)]
    exact ⟨rfl, by simp; omega⟩
  · right
    have hm : m < L.length := by omega
    refine ⟨L[m], ?_, by rw [List.length_reverse, List.length_take]; omega⟩
    rw [List.take_add_one, List.getElem?_eq_getElem hm, Option.toList_some, List.reverse_append, List.reverse_singleton, List.singleton_append, List.cons_append]
/-- What is gathered from the end on. -/
theorem ded_take (n : Nat) (l La : List Int) (k : Nat) (h : lat l = dedA La (l.take k).reverse) (hle : La.length ≤ n) (hd : La.length = n ∨ k = 0) : (lat l).take n = La := by
  rw [h, dedA_eq]
  rcases hd with hd | hd
  · rw [List.take_append_of_le_length (by omega), List.take_of_length_le (by omega)]
  · subst hd
    rw [List.take_zero, List.reverse_nil]
    simp only [dd, List.filter_nil, List.append_nil]
    exact List.take_of_length_le hle
theorem ded_step (l La : List Int) (k : Nat) (hk : k < l.length) (h : lat l = dedA La (l.take (k + 1)).reverse) : lat l = dedA (if l[k] ∈ La then La else La ++ [l[k]]) (l.take k).reverse := by
  rw [h, List.take_add_one, List.getElem?_eq_getElem hk, Option.toList_some, List.reverse_append, List.reverse_singleton, List.singleton_append, dedA]
end Go.Proofs.Ytoljoikkdhagoaa
