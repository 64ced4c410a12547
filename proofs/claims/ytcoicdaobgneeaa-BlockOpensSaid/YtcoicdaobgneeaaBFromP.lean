
/-
  Plain: a block's pairs from a restart on.
-/
import Derived.Test.YtcoicdaobgneeaaBOpW
namespace Go.Proofs.Ytcoicdaobgneeaa
open CodecP

theorem datF_restart (n : Nat) (h : n % 8 = 0) (a b : List UInt8) (ps : List Pr) : datF n a ps = datF n b ps := by
  cases ps with
  | nil => rfl
  | cons p r => simp only [datF, sameOf, if_pos h]
/-- The next pair, wherever one stands. -/
theorem stepF_dat {l : List Pr} (ho : ∀ p ∈ l, Okp p) (i : Nat) (last : List UInt8) (hl : last.length ≤ 80) (hi : i < l.length) :
    stepF last (some (datF i last (l.drop i))) = some (l[i], sameOf i last l[i].1, datF (i + 1) l[i].1 (l.drop (i + 1))) := by
  rw [List.drop_eq_getElem_cons hi, datF]
  have hs := sameOf_le i last l[i].1
  have hok := ho l[i] (List.getElem_mem hi)
  refine stepF_ent _ _ _ _ hs.1 ?_ (by omega) (by have := hok.2.1; omega) hok.2.2
  unfold sameOf
  split
  · rfl
  · exact (cmn_take _ _).symm
/-- Where a restart stands, and what comes from there. -/
theorem rst_at (l : List Pr) (r : Nat) (h : 8 * r < l.length) : ∃ off, (rst l)[r]? = some off ∧ off ≤ (dat l).length ∧ (dat l).drop off = datF (8 * r) [] (l.drop (8 * r)) := by
  have hsplit : l = l.take (8 * r) ++ l.drop (8 * r) := (List.take_append_drop _ _).symm
  have hlen : (l.take (8 * r)).length = 8 * r := by rw [List.length_take]; omega
  have hd : dat l = dat (l.take (8 * r)) ++ datF (8 * r) (lastK (l.take (8 * r))) (l.drop (8 * r)) := by
    have := datF_append (l.take (8 * r)) (l.drop (8 * r)) 0 []
    rw [← hsplit, Nat.zero_add, hlen] at this
    exact this
  have hr : rst l = rst (l.take (8 * r)) ++ rstF (8 * r) (dat (l.take (8 * r))).length (lastK (l.take (8 * r))) (l.drop (8 * r)) := by
    have := rstF_append (l.take (8 * r)) (l.drop (8 * r)) 0 0 []
    rw [← hsplit, Nat.zero_add, Nat.zero_add, hlen] at this
    exact this
  refine ⟨(dat (l.take (8 * r))).length, ?_, ?_, ?_⟩
  · have hk : (rst (l.take (8 * r))).length = r := by rw [rst_len, hlen]; omega
    rw [hr, List.getElem?_append_right (by omega), hk, Nat.sub_self, List.drop_eq_getElem_cons h, rstF, if_pos (by omega)]
    rfl
  · rw [hd, List.length_append]; omega
  · rw [hd, List.drop_left' rfl]
    exact datF_restart _ (by omega) _ _ _
theorem Rise.key {l : List Pr} (h : Rise l) {i j : Nat} (hj : j < l.length) (hij : i < j) : (l[i]'(by omega)).1 < l[j].1 :=
  List.pairwise_iff_getElem.1 h.up i j (by omega) hj hij
end Go.Proofs.Ytcoicdaobgneeaa
