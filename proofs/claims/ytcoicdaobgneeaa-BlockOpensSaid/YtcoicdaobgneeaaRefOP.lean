
/-
  Plain: what the document's Open takes.
-/
import Derived.Test.YtcoicdaobgneeaaFinds2W
namespace Go.Proofs.Ytcoicdaobgneeaa
open CodecP

theorem takeR_grp (n : Nat) (t : List UInt8) (h : n < 2 ^ 64) : takeR (grp n ++ t) = (n, (grp n).length) := by
  unfold takeR
  rw [tk_grp n t h]
  simp
theorem takeR_le (l : List UInt8) : (takeR l).2 ≤ l.length := by
  unfold takeR
  cases tk 0 l with
  | none => exact Nat.zero_le _
  | some x => exact Nat.sub_le _ _
/-- k numbers taken, one behind the other; and what is left. -/
def takesN : Nat → List UInt8 → Option (List Nat × List UInt8)
  | 0, l => some ([], l)
  | k + 1, l => match takesN k l with
    | none => none
    | some (vs, r) => if (takeR r).2 = 0 ∨ 20000 < (takeR r).1 then none else some (vs ++ [(takeR r).1], r.drop (takeR r).2)
theorem takesN_ok : ∀ (k : Nat) (l : List UInt8) (vs : List Nat) (r : List UInt8), takesN k l = some (vs, r) → vs.length = k ∧ (∀ x ∈ vs, x ≤ 20000) ∧ r.length + k ≤ l.length
  | 0, l, vs, r, h => by
    simp only [takesN, Option.some.injEq, Prod.mk.injEq] at h
    obtain ⟨rfl, rfl⟩ := h
    simp
  | k + 1, l, vs, r, h => by
    rw [takesN] at h
    cases ht : takesN k l with
    | none => rw [ht] at h; simp at h
    | some x =>
      obtain ⟨v0, r0⟩ := x
      obtain ⟨h1, h2, h3⟩ := takesN_ok k l v0 r0 ht
      rw [ht] at h
      simp only [] at h
      split at h
      · simp at h
      · rename_i hn
        simp only [Option.some.injEq, Prod.mk.injEq] at h
        obtain ⟨rfl, rfl⟩ := h
        have := takeR_le r0
        refine ⟨by simp [h1], fun x hx => ?_, by rw [List.length_drop]; omega⟩
        rcases List.mem_append.1 hx with hx | hx
        · exact h2 x hx
        · rw [List.mem_singleton.1 hx]; omega
theorem takesN_none {k : Nat} {l : List UInt8} (h : takesN k l = none) : takesN (k + 1) l = none := by rw [takesN, h]
theorem takesN_three {k : Nat} {l : List UInt8} (hk : k ≤ 3) (h : takesN k l = none) : takesN 3 l = none := by
  rcases Nat.lt_or_ge k 3 with h3 | h3
  · match k, h3, h with
    | 0, _, h => simp [takesN] at h
    | 1, _, h => exact takesN_none (takesN_none h)
    | 2, _, h => exact takesN_none h
  · obtain rfl : k = 3 := by omega
    exact h
theorem takesN_ent (same : Nat) (p : Pr) (t : List UInt8) (h1 : same ≤ 20000) (h2 : p.1.length ≤ 20000) (h3 : p.2.length ≤ 20000) :
    takesN 3 (ent same p ++ t) = some ([same, p.1.length - same, p.2.length], p.1.drop same ++ p.2 ++ t) := by
  have g : ∀ n, 0 < (grp n).length := fun n => grp_pos n
  unfold ent
  simp only [List.append_assoc]
  have e1 : takesN 1 (grp same ++ (grp (p.1.length - same) ++ (grp p.2.length ++ (p.1.drop same ++ (p.2 ++ t))))) = some ([same], grp (p.1.length - same) ++ (grp p.2.length ++ (p.1.drop same ++ (p.2 ++ t)))) := by
    rw [takesN, takesN]
    simp only []
    rw [takeR_grp _ _ (by omega)]
    rw [if_neg (by have := g same; simp only []; omega)]
    simp
  have e2 : takesN 2 (grp same ++ (grp (p.1.length - same) ++ (grp p.2.length ++ (p.1.drop same ++ (p.2 ++ t))))) = some ([same, p.1.length - same], grp p.2.length ++ (p.1.drop same ++ (p.2 ++ t))) := by
    rw [takesN, e1]
    simp only []
    rw [takeR_grp _ _ (by omega)]
    rw [if_neg (by have := g (p.1.length - same); simp only []; omega)]
    simp
  rw [takesN, e2]
  simp only []
  rw [takeR_grp _ _ (by omega)]
  rw [if_neg (by have := g p.2.length; simp only []; omega)]
  simp
/-- What the document's Open makes of three numbers and what is left. -/
def stepR (last : List UInt8) (l : List UInt8) : Option (Pr × List UInt8) := match takesN 3 l with
  | none => none
  | some (vs, r) => if last.length < vs.getD 0 0 ∨ r.length < vs.getD 1 0 + vs.getD 2 0 then none else some ((last.take (vs.getD 0 0) ++ r.take (vs.getD 1 0), (r.drop (vs.getD 1 0)).take (vs.getD 2 0)), r.drop (vs.getD 1 0 + vs.getD 2 0))
theorem stepR_ent (last : List UInt8) (same : Nat) (p : Pr) (t : List UInt8) (h1 : same ≤ last.length) (h2 : same ≤ p.1.length) (h3 : p.1.take same = last.take same) (hp : Okp p) : stepR last (ent same p ++ t) = some (p, t) := by
  obtain ⟨-, o1, o2⟩ := hp
  unfold stepR
  rw [takesN_ent _ _ _ (by omega) (by omega) (by omega)]
  have hl : (p.1.drop same).length = p.1.length - same := List.length_drop
  simp only [List.getD_cons_zero, List.getD_cons_succ]
  rw [if_neg (by simp only [List.length_append, hl]; omega)]
  rw [List.append_assoc, List.take_left' hl, List.drop_left' hl, List.take_left' rfl]
  rw [← h3, List.take_append_drop, ← List.append_assoc, List.drop_left' (by rw [List.length_append, hl])]
/-- The document's loop: these pairs are taken, this is to come. -/
def InvR (l : List UInt8) (ps : List Pr) (rest : List UInt8) : Prop := ∀ Ps, Rise Ps → l = blk Ps → ∃ r, Ps = ps ++ r ∧ rest = datF ps.length (lastK ps) r
theorem InvR.start (l : List UInt8) : InvR l [] (l.take (tailE l)) := fun Ps hP e => by
  obtain ⟨-, -, t3, -⟩ := blk_tail Ps hP
  refine ⟨Ps, rfl, ?_⟩
  rw [e, t3]
  unfold blk
  rw [List.append_assoc, List.take_left' rfl]
  rfl
theorem InvR.step {l : List UInt8} {ps : List Pr} {rest : List UInt8} (h : InvR l ps rest) (hne : rest ≠ []) {Ps : List Pr} (hP : Rise Ps) (e : l = blk Ps) :
    ∃ p r, Ps = ps ++ p :: r ∧ stepR (lastK ps) rest = some (p, datF (ps.length + 1) p.1 r) := by
  obtain ⟨r, h1, h2⟩ := h Ps hP e
  cases r with
  | nil => exact absurd h2 hne
  | cons p r =>
    have hok : Okp p := hP.ok p (by rw [h1]; simp)
    have hs := sameOf_le ps.length (lastK ps) p.1
    refine ⟨p, r, h1, ?_⟩
    rw [h2, datF]
    refine stepR_ent _ _ _ _ hs.1 hs.2 ?_ hok
    unfold sameOf
    split
    · rfl
    · exact (cmn_take _ _).symm
theorem InvR.next {l : List UInt8} {ps : List Pr} {rest rest2 : List UInt8} {p : Pr} (h : InvR l ps rest) (hne : rest ≠ []) (hx : stepR (lastK ps) rest = some (p, rest2)) : InvR l (ps ++ [p]) rest2 := fun Ps hP e => by
  obtain ⟨q, r, h1, h2⟩ := h.step hne hP e
  rw [hx] at h2
  simp only [Option.some.injEq, Prod.mk.injEq] at h2
  obtain ⟨rfl, rfl⟩ := h2
  exact ⟨r, by rw [h1]; simp, by rw [lastK_snoc, List.length_append, List.length_singleton]⟩
theorem InvR.no {l : List UInt8} {ps : List Pr} {rest : List UInt8} (h : InvR l ps rest) (hne : rest ≠ []) (hx : stepR (lastK ps) rest = none) : ∀ Ps, Rise Ps → l ≠ blk Ps := fun Ps hP e => by
  obtain ⟨q, r, h1, h2⟩ := h.step hne hP e
  rw [hx] at h2
  cases h2
theorem InvR.done {l : List UInt8} {ps : List Pr} (h : InvR l ps []) : ∀ Ps, Rise Ps → l = blk Ps → Ps = ps := fun Ps hP e => by
  obtain ⟨r, h1, h2⟩ := h Ps hP e
  cases r with
  | nil => rw [h1, List.append_nil]
  | cons p r =>
    exfalso
    have h3 := congrArg List.length h2
    have h4 := grp_pos (sameOf ps.length (lastK ps) p.1)
    simp only [datF, ent, List.length_append, List.length_nil] at h3
    omega
end Go.Proofs.Ytcoicdaobgneeaa
