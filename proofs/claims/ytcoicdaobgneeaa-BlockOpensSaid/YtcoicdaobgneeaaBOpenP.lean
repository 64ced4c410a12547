
/-
  Plain: bytes that are a block.
-/
import Derived.Test.YtcoicdaobgneeaaTailW
namespace Go.Proofs.Ytcoicdaobgneeaa
open CodecP

theorem four_split : ∀ (n : Nat) (m : List UInt8), m.length = 4 * n → ((List.range n).map fun k => value ((m.drop (4 * k)).take 4)).flatMap (fixed 4) = m
  | 0, m, h => by rw [List.length_eq_zero_iff.1 (by omega : m.length = 0)]; rfl
  | n + 1, m, h => by
    have e := four_split n (m.drop 4) (by rw [List.length_drop]; omega)
    rw [List.range_succ_eq_map, List.map_cons, List.flatMap_cons, List.map_map]
    have h4 : (m.take 4).length = 4 := by rw [List.length_take]; omega
    have e1 : fixed 4 (value ((m.drop (4 * 0)).take 4)) = m.take 4 := by
      rw [Nat.mul_zero, List.drop_zero]
      have := fixed_value (m.take 4)
      rw [h4] at this
      exact this
    rw [e1]
    have e2 : ((fun k => value ((m.drop (4 * k)).take 4)) ∘ Nat.succ) = fun k => value (((m.drop 4).drop (4 * k)).take 4) := by
      funext k
      simp only [Function.comp]
      rw [List.drop_drop, show 4 * k.succ = 4 + 4 * k by omega]
    rw [e2, e, List.take_append_drop]
/-- What tail read is what stands there. -/
theorem tail_split (l : List UInt8) (h : tailOk l) : l = l.take (tailE l) ++ ((List.range (tailN l)).map (tailR l)).flatMap (fixed 4) ++ fixed 4 (tailN l) := by
  obtain ⟨h1, h2, h3⟩ := h
  have hE : tailE l + 4 * tailN l + 4 = l.length := by unfold tailE; omega
  have e1 : fixed 4 (tailN l) = l.drop (l.length - 4) := by
    have := fixed_value (l.drop (l.length - 4))
    rw [show (l.drop (l.length - 4)).length = 4 by rw [List.length_drop]; omega] at this
    exact this
  have e2 := four_split (tailN l) ((l.drop (tailE l)).take (4 * tailN l)) (by rw [List.length_take, List.length_drop]; omega)
  have e3 : ((List.range (tailN l)).map fun k => value ((((l.drop (tailE l)).take (4 * tailN l)).drop (4 * k)).take 4)) = (List.range (tailN l)).map (tailR l) := by
    apply List.map_congr_left
    intro k hk
    rw [List.mem_range] at hk
    unfold tailR
    rw [List.drop_take, List.take_take, List.drop_drop, show min 4 (4 * tailN l - 4 * k) = 4 by omega]
  rw [e3] at e2
  rw [e2, e1, List.append_assoc]
  rw [show l.drop (l.length - 4) = (l.drop (tailE l)).drop (4 * tailN l) by rw [List.drop_drop]; congr 1; omega]
  rw [List.take_append_drop, List.take_append_drop]
theorem fm_get : ∀ (rs : List Nat) (t : List UInt8) (k : Nat) (h : k < rs.length), ((rs.flatMap (fixed 4) ++ t).drop (4 * k)).take 4 = fixed 4 rs[k]
  | a :: rs, t, 0, _ => by
    rw [List.flatMap_cons, Nat.mul_zero, List.drop_zero, List.append_assoc, List.take_left' (fixed_length 4 a)]
    rfl
  | a :: rs, t, k + 1, h => by
    rw [List.flatMap_cons, List.append_assoc, show 4 * (k + 1) = 4 + 4 * k by omega, ← List.drop_drop, List.drop_left' (fixed_length 4 a), fm_get rs t k (by simpa using h)]
    rfl
/-- The tail of a block that was laid. -/
theorem blk_tail (ps : List Pr) (h : Rise ps) : tailOk (blk ps) ∧ tailN (blk ps) = (rst ps).length ∧ tailE (blk ps) = (dat ps).length ∧ (List.range (tailN (blk ps))).map (tailR (blk ps)) = rst ps := by
  have hl := blk_len ps
  have hr := rst_len ps
  have hn := h.le
  have hd := dat_len h.ok
  have hm : ((rst ps).flatMap (fixed 4)).length = 4 * (rst ps).length := by
    have : (blk ps).length = ((dat ps).length + ((rst ps).flatMap (fixed 4)).length) + 4 := by
      unfold blk; rw [List.length_append, List.length_append, fixed_length]
    omega
  have hN : tailN (blk ps) = (rst ps).length := by
    unfold tailN
    rw [hl]
    unfold blk
    rw [List.drop_left' (by rw [List.length_append]; omega), value_fixed _ _ (by omega)]
  have hE : tailE (blk ps) = (dat ps).length := by unfold tailE; omega
  refine ⟨⟨by omega, by omega, by omega⟩, hN, hE, ?_⟩
  rw [hN]
  apply List.ext_getElem (by simp)
  intro k h1 h2
  rw [List.getElem_map, List.getElem_range]
  unfold tailR
  rw [hE, ← List.drop_drop]
  have e : (blk ps).drop (dat ps).length = (rst ps).flatMap (fixed 4) ++ fixed 4 (rst ps).length := by
    unfold blk
    rw [List.append_assoc, List.drop_left' rfl]
  rw [e, fm_get _ _ _ h2, value_fixed _ _ (by have := rst_le ps _ (List.getElem_mem h2); omega)]
/-- Bytes whose tail and pairs are a list's are its block. -/
theorem blk_of (l : List UInt8) (ps : List Pr) (h : tailOk l) (hd : l.take (tailE l) = dat ps) (hr : (List.range (tailN l)).map (tailR l) = rst ps) : l = blk ps := by
  have hs := tail_split l h
  rw [hd, hr] at hs
  rw [hs]
  unfold blk
  rw [← hr, List.length_map, List.length_range]
theorem Rise.part {ps r : List Pr} (h : Rise (ps ++ r)) : Rise ps :=
  ⟨fun q hq => h.ok q (by simp [hq]), (List.pairwise_append.1 h.up).1, by have := h.le; rw [List.length_append] at this; omega⟩
/-- Open's loop: these pairs are taken, this is to come. -/
structure InvO (l : List UInt8) (ps : List Pr) (rest : List UInt8) : Prop where
  rise : Rise ps
  data : l.take (tailE l) = dat ps ++ rest
  rs_ : rst ps = ((List.range (tailN l)).map (tailR l)).take (rst ps).length
  pre : ∀ Ps, Rise Ps → l = blk Ps → ∃ r, Ps = ps ++ r
theorem InvO.start (l : List UInt8) : InvO l [] (l.take (tailE l)) := ⟨Rise.nil, rfl, rfl, fun Ps _ _ => ⟨Ps, rfl⟩⟩
/-- The next pair of a block. -/
theorem InvO.step {l : List UInt8} {ps : List Pr} {rest : List UInt8} (h : InvO l ps rest) (hne : rest ≠ []) {Ps : List Pr} (hP : Rise Ps) (e : l = blk Ps) :
    ∃ p r, Ps = ps ++ p :: r ∧ stepF (lastK ps) (some rest) = some (p, sameOf ps.length (lastK ps) p.1, datF (ps.length + 1) p.1 r) ∧ Okp p ∧ lastK ps < p.1 ∧ ps.length < 4096 ∧ (ps.length % 8 = 0 → ps.length / 8 < tailN l ∧ tailR l (ps.length / 8) = (dat ps).length) := by
  obtain ⟨r, hr⟩ := h.pre Ps hP e
  obtain ⟨t1, t2, t3, t4⟩ := blk_tail Ps hP
  rw [← e] at t1 t2 t3 t4
  have hd := h.data
  have he : l.take (tailE l) = dat Ps := by
    rw [t3, e]; unfold blk; rw [List.append_assoc, List.take_left' rfl]
  rw [he, hr] at hd
  have hd2 : datF ps.length (lastK ps) r = rest := by
    unfold dat at hd
    rw [datF_append, Nat.zero_add] at hd
    exact List.append_cancel_left hd
  cases r with
  | nil => exact absurd hd2.symm hne
  | cons p r =>
    have hP2 : Rise (ps ++ [p]) := by
      rw [hr, show ps ++ p :: r = (ps ++ [p]) ++ r by simp] at hP
      exact hP.part
    obtain ⟨-, hok, hlt, hn⟩ := hP2.init
    have hs := sameOf_le ps.length (lastK ps) p.1
    have hl : (lastK ps).length ≤ 1000000 := by
      rcases List.eq_nil_or_concat ps with e | ⟨q, z, e⟩
      · rw [e]; exact Nat.zero_le _
      · rw [e, List.concat_eq_append, lastK_snoc]
        have := (h.rise.ok z (by rw [e]; simp)).2.1
        omega
    have ht : p.1.take (sameOf ps.length (lastK ps) p.1) = (lastK ps).take (sameOf ps.length (lastK ps) p.1) := by
      unfold sameOf
      split
      · rfl
      · exact (cmn_take _ _).symm
    refine ⟨p, r, hr, ?_, hok, hlt, hn, fun h8 => ?_⟩
    · rw [← hd2, datF]
      exact stepF_ent _ _ _ _ hs.1 ht hl (by have := hok.2.1; omega) hok.2.2
    · have hrl := rst_len ps
      have hrs := rst_snoc ps p
      rw [if_pos h8] at hrs
      have hrp : ∃ t, rst Ps = (rst ps ++ [(dat ps).length]) ++ t := by
        rw [hr, show ps ++ p :: r = (ps ++ [p]) ++ r by simp, ← hrs]
        unfold rst
        rw [rstF_append]
        exact ⟨_, rfl⟩
      obtain ⟨t, ht⟩ := hrp
      have hk : (rst ps).length = ps.length / 8 := by omega
      have hlen : ps.length / 8 < (rst Ps).length := by rw [ht]; simp; omega
      refine ⟨by omega, ?_⟩
      have g : (rst Ps)[ps.length / 8]? = some (dat ps).length := by
        rw [ht, List.append_assoc, ← hk, List.getElem?_append_right (Nat.le_refl _)]; simp
      rw [← t4, List.getElem?_map, List.getElem?_range (by omega)] at g
      simpa using g
/-- A pair more. -/
theorem InvO.next {l : List UInt8} {ps : List Pr} {rest rest2 : List UInt8} {p : Pr} {same : Nat} (h : InvO l ps rest) (hne : rest ≠ []) (hx : stepF (lastK ps) (some rest) = some (p, same, rest2)) (hok : Okp p) (hlt : lastK ps < p.1) (hn : ps.length < 4096)
    (h8 : ps.length % 8 = 0 → ps.length / 8 < tailN l ∧ tailR l (ps.length / 8) = (dat ps).length ∧ same = 0) (h9 : ps.length % 8 ≠ 0 → same = cmn (lastK ps) p.1) : InvO l (ps ++ [p]) rest2 := by
  have hsame : same = sameOf ps.length (lastK ps) p.1 := by
    unfold sameOf
    split
    · rename_i e; exact (h8 e).2.2
    · rename_i e; exact h9 e
  obtain ⟨e1, -⟩ := ent_stepF hx
  simp only [Option.some.injEq] at e1
  refine ⟨h.rise.snoc hok hlt hn, ?_, ?_, fun Ps hP e => ?_⟩
  · rw [h.data, e1, dat_snoc, hsame, List.append_assoc]
  · rw [rst_snoc]
    split
    · rename_i e
      obtain ⟨q1, q2, -⟩ := h8 e
      have hrl := rst_len ps
      have hk : (rst ps).length = ps.length / 8 := by omega
      rw [List.length_append, List.length_singleton, List.take_succ_eq_append_getElem (by simp; omega), ← h.rs_, List.getElem_map, List.getElem_range, hk, q2]
    · rw [List.append_nil]; exact h.rs_
  · obtain ⟨p2, r, a1, a2, -⟩ := h.step hne hP e
    rw [hx] at a2
    simp only [Option.some.injEq, Prod.mk.injEq] at a2
    exact ⟨r, by rw [a1, a2.1]; simp⟩
/-- All is taken: these are the block's pairs. -/
theorem InvO.done {l : List UInt8} {ps : List Pr} (h : InvO l ps []) (ht : tailOk l) (hn : tailN l = (ps.length + 7) / 8) : l = blk ps := by
  refine blk_of l ps ht (by rw [h.data, List.append_nil]) ?_
  rw [h.rs_, List.take_of_length_le]
  rw [List.length_map, List.length_range, rst_len, hn]
  exact Nat.le_refl _
theorem InvO.no {l : List UInt8} {ps : List Pr} (h : InvO l ps []) (hn : tailN l ≠ (ps.length + 7) / 8) {Ps : List Pr} (hP : Rise Ps) (e : l = blk Ps) : False := by
  obtain ⟨r, hr⟩ := h.pre Ps hP e
  obtain ⟨t1, t2, t3, t4⟩ := blk_tail Ps hP
  rw [← e] at t1 t2 t3 t4
  have hd := h.data
  have he : l.take (tailE l) = dat Ps := by
    rw [t3, e]; unfold blk; rw [List.append_assoc, List.take_left' rfl]
  rw [he, hr] at hd
  have hd2 : datF ps.length (lastK ps) r = [] := by
    unfold dat at hd
    rw [datF_append, Nat.zero_add] at hd
    exact List.append_cancel_left hd
  cases r with
  | nil =>
    rw [List.append_nil] at hr
    subst hr
    exact hn (by rw [t2, rst_len])
  | cons p r =>
    have h1 := congrArg List.length hd2
    rw [datF, List.length_append] at h1
    have h2 : 1 ≤ p.1.length := (hP.ok p (by rw [hr]; simp)).1
    have h3 : 0 < (ent (sameOf ps.length (lastK ps) p.1) p).length := by
      unfold ent
      simp only [List.length_append]
      have := grp_pos (sameOf ps.length (lastK ps) p.1)
      omega
    rw [List.length_nil] at h1
    omega
end Go.Proofs.Ytcoicdaobgneeaa
