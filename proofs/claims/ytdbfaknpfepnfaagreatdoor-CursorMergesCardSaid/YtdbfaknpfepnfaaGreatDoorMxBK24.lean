/-
  Texts of the claim, joined: RefOP, RefOW, RefOBW.
-/
import Derived.Test.YtdbfaknpfepnfaaGreatDoorMxBK23
import Derived.Test.YtdbfaknpfepnfaaGreatDoorMxBK8
import Derived.StillTailTactics
set_option maxRecDepth 100000
set_option maxHeartbeats 40000000
namespace Go.Proofs.YtdbfaknpfepnfaaGreatDoor
open CodecP

theorem takeR_grp (n : Nat) (t : List UInt8) (h : n < 2 ^ 64) : takeR (grp n ++ t) = (n, (grp n).length) := by
 unfold takeR
 rw [tk_grp n t h]
 simp
theorem takeR_le (l : List UInt8) : (takeR l).2 ≤ l.length := by
 unfold takeR
 cases tk 0 l with
 | none => exact Nat.zero_le _
 | some x => exact Nat.sub_le _ _
def takesN : Nat → List UInt8 → Option (List Nat × List UInt8)
 | 0, l => some ([], l)
 | k + 1, l => match takesN k l with
  | none => none
  | some (vs, r) => if (takeR r).2 = 0 ∨ 20000 < (takeR r).1 then none else some (vs ++ [(takeR r).1], r.drop (takeR r).2)
theorem takesN_ok : ∀ (k : Nat) (l : List UInt8) (vs : List Nat) (r : List UInt8), takesN k l = some (vs, r) → vs.length = k ∧ (∀ x ∈ vs, x ≤ 20000) ∧ r.length + k ≤ l.length
 | 0, l, vs, r, h => by
  simp only [takesN, Option.some.injEq, Prod.mk.injEq] at h
  obtain ⟨rfl, rfl⟩ := h
  simp
 | k + 1, l, vs, r, h => by
  rw [takesN] at h
  cases ht : takesN k l with
  | none => rw [ht] at h; simp at h
  | some x =>
   obtain ⟨v0, r0⟩ := x
   obtain ⟨h1, h2, h3⟩ := takesN_ok k l v0 r0 ht
   rw [ht] at h
   simp only [] at h
   split at h
   ·simp at h
   ·rename_i hn
    simp only [Option.some.injEq, Prod.mk.injEq] at h
    obtain ⟨rfl, rfl⟩ := h
    have := takeR_le r0
    refine ⟨by simp [h1], fun x hx => ?_, by rw [List.length_drop]; omega⟩
    rcases List.mem_append.1 hx with hx | hx
    ·exact h2 x hx
    ·rw [List.mem_singleton.1 hx]; omega
theorem takesN_none {k : Nat} {l : List UInt8} (h : takesN k l = none) : takesN (k + 1) l = none := by rw [takesN, h]
theorem takesN_three {k : Nat} {l : List UInt8} (hk : k ≤ 3) (h : takesN k l = none) : takesN 3 l = none := by
 rcases Nat.lt_or_ge k 3 with h3 | h3
 ·match k, h3, h with
  | 0, _, h => simp [takesN] at h
  | 1, _, h => exact takesN_none (takesN_none h)
  | 2, _, h => exact takesN_none h
 ·obtain rfl : k = 3 := by omega
  exact h
theorem takesN_ent (same : Nat) (p : Pr) (t : List UInt8) (h1 : same ≤ 20000) (h2 : p.1.length ≤ 20000) (h3 : p.2.length ≤ 20000) :
  takesN 3 (ent same p ++ t) = some ([same, p.1.length - same, p.2.length], p.1.drop same ++ p.2 ++ t) := by
 have g : ∀ n, 0 < (grp n).length := fun n => grp_pos n
 unfold ent
 simp only [List.append_assoc]
 have e1 : takesN 1 (grp same ++ (grp (p.1.length - same) ++ (grp p.2.length ++ (p.1.drop same ++ (p.2 ++ t))))) = some ([same], grp (p.1.length - same) ++ (grp p.2.length ++ (p.1.drop same ++ (p.2 ++ t)))) := by
  rw [takesN, takesN]
  simp only []
  rw [takeR_grp _ _ (by omega)]
  rw [if_neg (by have := g same; simp only []; omega)]
  simp
 have e2 : takesN 2 (grp same ++ (grp (p.1.length - same) ++ (grp p.2.length ++ (p.1.drop same ++ (p.2 ++ t))))) = some ([same, p.1.length - same], grp p.2.length ++ (p.1.drop same ++ (p.2 ++ t))) := by
  rw [takesN, e1]
  simp only []
  rw [takeR_grp _ _ (by omega)]
  rw [if_neg (by have := g (p.1.length - same); simp only []; omega)]
  simp
 rw [takesN, e2]
 simp only []
 rw [takeR_grp _ _ (by omega)]
 rw [if_neg (by have := g p.2.length; simp only []; omega)]
 simp
def stepR (last : List UInt8) (l : List UInt8) : Option (Pr × List UInt8) := match takesN 3 l with
 | none => none
 | some (vs, r) => if last.length < vs.getD 0 0 ∨ r.length < vs.getD 1 0 + vs.getD 2 0 then none else some ((last.take (vs.getD 0 0) ++ r.take (vs.getD 1 0), (r.drop (vs.getD 1 0)).take (vs.getD 2 0)), r.drop (vs.getD 1 0 + vs.getD 2 0))
theorem stepR_ent (last : List UInt8) (same : Nat) (p : Pr) (t : List UInt8) (h1 : same ≤ last.length) (h2 : same ≤ p.1.length) (h3 : p.1.take same = last.take same) (hp : Okp p) : stepR last (ent same p ++ t) = some (p, t) := by
 obtain ⟨-, o1, o2⟩ := hp
 unfold stepR
 rw [takesN_ent _ _ _ (by omega) (by omega) (by omega)]
 have hl : (p.1.drop same).length = p.1.length - same := List.length_drop
 simp only [List.getD_cons_zero, List.getD_cons_succ]
 rw [if_neg (by simp only [List.length_append, hl]; omega)]
 rw [List.append_assoc, List.take_left' hl, List.drop_left' hl, List.take_left' rfl]
 rw [← h3, List.take_append_drop, ← List.append_assoc, List.drop_left' (by rw [List.length_append, hl])]
def InvR (l : List UInt8) (ps : List Pr) (rest : List UInt8) : Prop := ∀ Ps, Rise Ps → l = blk Ps → ∃ r, Ps = ps ++ r ∧ rest = datF ps.length (lastK ps) r
theorem InvR.start (l : List UInt8) : InvR l [] (l.take (tailE l)) := fun Ps hP e => by
 obtain ⟨-, -, t3, -⟩ := blk_tail Ps hP
 refine ⟨Ps, rfl, ?_⟩
 rw [e, t3]
 unfold blk
 rw [List.append_assoc, List.take_left' rfl]
 rfl
theorem InvR.step {l : List UInt8} {ps : List Pr} {rest : List UInt8} (h : InvR l ps rest) (hne : rest ≠ []) {Ps : List Pr} (hP : Rise Ps) (e : l = blk Ps) :
  ∃ p r, Ps = ps ++ p :: r ∧ stepR (lastK ps) rest = some (p, datF (ps.length + 1) p.1 r) := by
 obtain ⟨r, h1, h2⟩ := h Ps hP e
 cases r with
 | nil => exact absurd h2 hne
 | cons p r =>
  have hok : Okp p := hP.ok p (by rw [h1]; simp)
  have hs := sameOf_le ps.length (lastK ps) p.1
  refine ⟨p, r, h1, ?_⟩
  rw [h2, datF]
  refine stepR_ent _ _ _ _ hs.1 hs.2 ?_ hok
  unfold sameOf
  split
  ·rfl
  ·exact (cmn_take _ _).symm
theorem InvR.next {l : List UInt8} {ps : List Pr} {rest rest2 : List UInt8} {p : Pr} (h : InvR l ps rest) (hne : rest ≠ []) (hx : stepR (lastK ps) rest = some (p, rest2)) : InvR l (ps ++ [p]) rest2 := fun Ps hP e => by
 obtain ⟨q, r, h1, h2⟩ := h.step hne hP e
 rw [hx] at h2
 simp only [Option.some.injEq, Prod.mk.injEq] at h2
 obtain ⟨rfl, rfl⟩ := h2
 exact ⟨r, by rw [h1]; simp, by rw [lastK_snoc, List.length_append, List.length_singleton]⟩
theorem InvR.no {l : List UInt8} {ps : List Pr} {rest : List UInt8} (h : InvR l ps rest) (hne : rest ≠ []) (hx : stepR (lastK ps) rest = none) : ∀ Ps, Rise Ps → l ≠ blk Ps := fun Ps hP e => by
 obtain ⟨q, r, h1, h2⟩ := h.step hne hP e
 rw [hx] at h2
 cases h2
theorem InvR.done {l : List UInt8} {ps : List Pr} (h : InvR l ps []) : ∀ Ps, Rise Ps → l = blk Ps → Ps = ps := fun Ps hP e => by
 obtain ⟨r, h1, h2⟩ := h Ps hP e
 cases r with
 | nil => rw [h1, List.append_nil]
 | cons p r =>
  exfalso
  have h3 := congrArg List.length h2
  have h4 := grp_pos (sameOf ps.length (lastK ps) p.1)
  simp only [datF, ent, List.length_append, List.length_nil] at h3
  omega
end Go.Proofs.YtdbfaknpfepnfaaGreatDoor


namespace Go.Proofs.YtdbfaknpfepnfaaGreatDoor
open Go.RowKit CodecP

theorem ext_more (s : ByteArray) (a z e : Nat) : bl (s.extract (a + z) e) = (bl (s.extract a e)).drop z := by
 rw [ext_bl, ext_bl, List.drop_take, List.drop_drop]
 congr 1
 omega
theorem ext_part (s : ByteArray) (a x y e : Nat) (h : a + x + y ≤ e) : bl (s.extract (a + x) (a + x + y)) = ((bl (s.extract a e)).drop x).take y := by
 rw [← ext_more, ext_bl, ext_bl, List.take_take]
 congr 1
 omega
structure RO9 (s : ByteArray) (e : Nat) (w w' : World) (lv : Value) (ps : List Pr) (at_ : Nat) : Prop where
 row : w'.ownsRow w.heap.size 40 2 lv ps.length (flatR ps)
 le : at_ ≤ e
 inv : InvR (bl s) ps (bl (s.extract at_ e))
 small : ∀ p ∈ ps, p.1.length ≤ 24000 ∧ p.2.length ≤ 4000
 few : ps.length ≤ at_
 bel : Below w.heap.size w w'
theorem RO9.next {s : ByteArray} {e : Nat} {w w1 w2 : World} {lv v2 : Value} {ps : List Pr} {at_ a2 a b c : Nat} {kk vv : ByteArray} (h : RO9 s e w w1 lv ps at_) (hlt : at_ < e) (he : e ≤ s.size) (hs : s.size ≤ 4000) (ha : at_ + 3 ≤ a2) (h20 : a ≤ 20000) (hc : a2 + b + c ≤ e)
  (hx : stepR (lastK ps) (bl (s.extract at_ e)) = some (((lastK ps).take a ++ (bl (s.extract a2 e)).take b, ((bl (s.extract a2 e)).drop b).take c), (bl (s.extract a2 e)).drop (b + c)))
  (hk : kk = (str (lastK ps)).extract 0 a ++ s.extract a2 (a2 + b)) (hv : vv = s.extract (a2 + b) (a2 + b + c))
  (hr : w2.ownsRow w.heap.size 40 2 v2 (ps.length + 1) (flatR ps ++ [.string kk, .string vv])) (hb : Below w.heap.size w w2) :
  RO9 s e w w2 v2 (ps ++ [((lastK ps).take a ++ (bl (s.extract a2 e)).take b, ((bl (s.extract a2 e)).drop b).take c)]) (a2 + b + c) := by
 have ek : kk = str ((lastK ps).take a ++ (bl (s.extract a2 e)).take b) := by
  rw [← str_bl kk, hk, bl_append, ext_bl, bl_str, List.drop_zero, Nat.sub_zero]
  have := ext_part s a2 0 b e (by omega)
  rw [Nat.add_zero, List.drop_zero] at this
  rw [this]
 have ev : vv = str (((bl (s.extract a2 e)).drop b).take c) := by
  rw [← str_bl vv, hv, ext_part s a2 b c e hc]
 have hne : bl (s.extract at_ e) ≠ [] := fun h0 => by
  have := congrArg List.length h0
  rw [bl_size, ByteArray.size_extract] at this
  simp at this
  omega
 have hfew := h.few
 refine ⟨?_, hc, ?_, ?_, ?_, hb⟩
 ·rw [List.length_append, List.length_singleton, flatR_append]
  rw [ek, ev] at hr
  exact hr
 ·have := h.inv.next hne hx
  rw [Nat.add_assoc a2 b c, ext_more s a2 (b + c) e]
  exact this
 ·intro p hp
  rcases List.mem_append.1 hp with hp | hp
  ·exact h.small p hp
  ·rw [List.mem_singleton.1 hp]
   constructor
   ·show ((lastK ps).take a ++ (bl (s.extract a2 e)).take b).length ≤ _
    rw [List.length_append, List.length_take, List.length_take]
    omega
   ·show (((bl (s.extract a2 e)).drop b).take c).length ≤ _
    rw [List.length_take]
    omega
 ·rw [List.length_append, List.length_singleton]
  omega
def arr (vs : List Nat) : Array Value := #[.int .i64 (vs.getD 0 0 : Nat), .int .i64 (vs.getD 1 0 : Nat), .int .i64 (vs.getD 2 0 : Nat)]
theorem arr_set (vs : List Nat) (x : Nat) (h : vs.length < 3) : (arr vs).setIfInBounds vs.length (.int .i64 x) = arr (vs ++ [x]) := by
 match vs, h with
 | [], _ => rfl
 | [a], _ => rfl
 | [a, b], _ => rfl
def OpenP (s : ByteArray) (w : World) (e : Ending) (w' : World) : Prop :=
 Below w.heap.size w w' ∧ ((e = .returned (.tuple #[.slice none 0 0, .bool false]) ∧ ∀ Ps, Rise Ps → bl s ≠ blk Ps) ∨
  ∃ v ps, e = .returned (.tuple #[v, .bool true]) ∧ Rise ps ∧ bl s = blk ps ∧ w'.ownsRow w.heap.size 40 2 v ps.length (flatR ps))
end Go.Proofs.YtdbfaknpfepnfaaGreatDoor


namespace Go.Proofs.YtdbfaknpfepnfaaGreatDoor
open Go.RowKit CodecP


structure RB9 (s : ByteArray) (e : Nat) (w w' : World) (lv : Value) (ps : List Pr) (at_ : Nat) : Prop where
 row : w'.ownsRow w.heap.size 40 2 lv ps.length (flatR ps)
 le : at_ ≤ e
 inv : InvR (bl s) ps (bl (s.extract at_ e))
 small : ∀ p ∈ ps, p.1.length ≤ 200000 ∧ p.2.length ≤ 140000
 few : ps.length ≤ at_
 bel : Below w.heap.size w w'
theorem RB9.next {s : ByteArray} {e : Nat} {w w1 w2 : World} {lv v2 : Value} {ps : List Pr} {at_ a2 a b c : Nat} {kk vv : ByteArray} (h : RB9 s e w w1 lv ps at_) (hlt : at_ < e) (he : e ≤ s.size) (hs : s.size ≤ 140000) (ha : at_ + 3 ≤ a2) (h20 : a ≤ 20000) (hc : a2 + b + c ≤ e)
  (hx : stepR (lastK ps) (bl (s.extract at_ e)) = some (((lastK ps).take a ++ (bl (s.extract a2 e)).take b, ((bl (s.extract a2 e)).drop b).take c), (bl (s.extract a2 e)).drop (b + c)))
  (hk : kk = (str (lastK ps)).extract 0 a ++ s.extract a2 (a2 + b)) (hv : vv = s.extract (a2 + b) (a2 + b + c))
  (hr : w2.ownsRow w.heap.size 40 2 v2 (ps.length + 1) (flatR ps ++ [.string kk, .string vv])) (hb : Below w.heap.size w w2) :
  RB9 s e w w2 v2 (ps ++ [((lastK ps).take a ++ (bl (s.extract a2 e)).take b, ((bl (s.extract a2 e)).drop b).take c)]) (a2 + b + c) := by
 have ek : kk = str ((lastK ps).take a ++ (bl (s.extract a2 e)).take b) := by
  rw [← str_bl kk, hk, bl_append, ext_bl, bl_str, List.drop_zero, Nat.sub_zero]
  have := ext_part s a2 0 b e (by omega)
  rw [Nat.add_zero, List.drop_zero] at this
  rw [this]
 have ev : vv = str (((bl (s.extract a2 e)).drop b).take c) := by
  rw [← str_bl vv, hv, ext_part s a2 b c e hc]
 have hne : bl (s.extract at_ e) ≠ [] := fun h0 => by
  have := congrArg List.length h0
  rw [bl_size, ByteArray.size_extract] at this
  simp at this
  omega
 have hfew := h.few
 refine ⟨?_, hc, ?_, ?_, ?_, hb⟩
 ·rw [List.length_append, List.length_singleton, flatR_append]
  rw [ek, ev] at hr
  exact hr
 ·have := h.inv.next hne hx
  rw [Nat.add_assoc a2 b c, ext_more s a2 (b + c) e]
  exact this
 ·intro p hp
  rcases List.mem_append.1 hp with hp | hp
  ·exact h.small p hp
  ·rw [List.mem_singleton.1 hp]
   constructor
   ·show ((lastK ps).take a ++ (bl (s.extract a2 e)).take b).length ≤ _
    rw [List.length_append, List.length_take, List.length_take]
    omega
   ·show (((bl (s.extract a2 e)).drop b).take c).length ≤ _
    rw [List.length_take]
    omega
 ·rw [List.length_append, List.length_singleton]
  omega
theorem refOpenB_any (s : ByteArray) (w : World) (hs : s.size ≤ 140000) :
  Calls Tryz.prog 138 #[.string s] w (OpenP s w) := by
 have HR := Lib.hid (Below.refl w.heap.size w)
 have eb := bl_size s
 by_cases h4 : s.size < 4
 ·have d1 : decide ((s.size : Int) < 4) = true := by rw [decide_eq_true_eq]; omega
  go_enter Tryz.func138, Tryz.ntmps138
  go_wp2_with fail
  exact bodyPost_ret (v := .tuple #[.slice none 0 0, .bool false]) (by simp [results, Tryz.results138, go_sem]) rfl ⟨HR.out, .inl ⟨rfl, fun Ps hP e => by
   have := (blk_tail Ps hP).1
   rw [← e] at this
   unfold tailOk at this
   omega⟩⟩
 ·have d1 : decide ((s.size : Int) < 4) = false := by rw [decide_eq_false_iff_not]; omega
  have ex : s.extract (s.size - 4) s.size = str ((bl s).drop (s.size - 4)) := by
   rw [← str_bl (s.extract _ _), ext_bl, List.take_of_length_le (by rw [List.length_drop, eb]; exact Nat.le_refl _)]
  have hvl := refValue_any (s.extract (s.size - 4) s.size) w (by rw [ByteArray.size_extract]; omega)
  have htn : value (bl (s.extract (s.size - 4) s.size)) = tailN (bl s) := by rw [ex, bl_str]; unfold tailN; rw [eb]
  rw [htn] at hvl
  have HVL := Lib.hid hvl
  have hnl := tailN_lt (bl s)
  obtain ⟨n, hn⟩ : ∃ n, n = tailN (bl s) := ⟨_, rfl⟩
  rw [← hn] at HVL hnl
  have HN := Lib.hid hn
  clear ex hvl htn hn
  by_cases hq : (s.size - 4) / 4 < n
  ·have d2 : decide (((s.size : Int) - 4) / 4 < (n : Int)) = true := by rw [decide_eq_true_eq]; omega
   have HQ := Lib.hid hq
   clear hq
   go_enter Tryz.func138, Tryz.ntmps138
   go_wp2_with fail
   (with_reducible refine HVL.out.mono ?_)
   rintro e w1 ⟨rfl, rfl⟩
   go_wp2_with fail
   exact bodyPost_ret (v := .tuple #[.slice none 0 0, .bool false]) (by simp [results, Tryz.results138, go_sem]) rfl ⟨HR.out, .inl ⟨rfl, fun Ps hP e => by
    have := (blk_tail Ps hP).1
    rw [← e] at this
    unfold tailOk at this
    have h1 := HN.out
    have h2 := HQ.out
    omega⟩⟩
  ·have d2 : decide (((s.size : Int) - 4) / 4 < (n : Int)) = false := by rw [decide_eq_false_iff_not]; omega
   obtain ⟨E, hE⟩ : ∃ E, E = tailE (bl s) := ⟨_, rfl⟩
   have hE2 : (s.size : Int) - 4 - 4 * (n : Int) = (E : Int) := by
    have := HN.out
    unfold tailE at hE
    omega
   have hEs : E ≤ s.size := by omega
   have w1 : IntKind.i64.wrap (4 * (n : Int)) = 4 * (n : Int) := IntWalk.i64_in _ (by omega)
   have w2 : IntKind.i64.wrap ((s.size : Int) - 4 - 4 * (n : Int)) = (s.size : Int) - 4 - 4 * (n : Int) := IntWalk.i64_in _ (by omega)
   have hst : RB9 s E w w (.slice none 0 0) [] 0 := ⟨World.ownsRow_nil _ _ _ _, Nat.zero_le _, by
    have := InvR.start (bl s)
    rw [ext_bl, List.drop_zero, Nat.sub_zero, hE]
    exact this, by simp, Nat.zero_le _, HR.out⟩
   have HST := Lib.hid hst
   have HE := Lib.hid hE
   have HE2 := Lib.hid hE2
   clear hst hE hE2 hq
   go_enter Tryz.func138, Tryz.ntmps138
   go_wp2_with fail
   (with_reducible refine HVL.out.mono ?_)
   rintro e w1 ⟨rfl, rfl⟩
   go_wp2_with fail
   rw [HE2.out]
   clear w1 w2 HVL d2 d1
   go_loopg [6, 7] E (fun g lv iv wr => ∃ (ps : List Pr) (at_ : Nat), at_ + g = E ∧ iv = .int .i64 at_ ∧ RB9 s E w wr lv ps at_)
   case atStart => exact ⟨[], 0, by omega, rfl, HST.out⟩
   case round =>
    clear HST
    obtain ⟨ps, at_, hag, rfl, hO⟩ := hrel
    obtain ⟨ao, cp, hlv⟩ := own_form hO.row
    subst hlv
    have HO := Lib.hid hO
    have hfew := hO.few
    have hle := hO.le
    have hsm := hO.bel.size
    clear hO
    obtain ⟨wo, rfl⟩ : ∃ x, x = wr := ⟨wr, rfl⟩
    by_cases hlt : at_ < E
    ·have d0 : decide ((at_ : Int) < (E : Int)) = true := by rw [decide_eq_true_eq]; omega
     have hne : bl (s.extract at_ E) ≠ [] := fun e => by
      have := congrArg List.length e
      rw [bl_size, ByteArray.size_extract] at this
      simp at this
      omega
     have HNE := Lib.hid hne
     have hal : (wo.alloc (.cells #[.int .i64 0, .int .i64 0, .int .i64 0] 218)).heap[wo.heap.size]? = some (.cells (arr []) 218 (0, 0)) := by
      show (wo.heap.push _)[wo.heap.size]? = _
      simp [arr]
     have hba : Below wo.heap.size wo (wo.alloc (.cells #[.int .i64 0, .int .i64 0, .int .i64 0] 218)) := (Below.refl _ wo).alloc (Nat.le_refl _) _
     have HAL := Lib.hid hal
     have HBA := Lib.hid hba
     clear hne hal hba
     go_upto_region 11 with (fail)
     generalize wo.alloc (.cells #[.int .i64 0, .int .i64 0, .int .i64 0] 218) = wa at *
     go_wp2_with fail
     go_loopg [7, 9] 3 (fun g iv kv wr => ∃ (k a2 : Nat) (vs : List Nat), k + g = 3 ∧ kv = .int .i64 k ∧ iv = .int .i64 a2 ∧ at_ ≤ a2 ∧ a2 ≤ E ∧ takesN k (bl (s.extract at_ E)) = some (vs, bl (s.extract a2 E)) ∧ wr.heap[wo.heap.size]? = some (.cells (arr vs) 218 (0, 0)) ∧ Below wo.heap.size wo wr)
     case atStart => exact ⟨0, at_, [], rfl, rfl, rfl, Nat.le_refl _, hle, rfl, HAL.out, HBA.out⟩
     case round =>
      clear HAL HBA
      obtain ⟨k, a2, vs, hkg, rfl, rfl, ha1, ha2, htk, hcl, hbl⟩ := hrel
      have HTK := Lib.hid htk
      have HCL := Lib.hid hcl
      have HBL := Lib.hid hbl
      have hvl := (takesN_ok _ _ _ _ htk).1
      clear htk
      by_cases hk3 : k < 3
      ·have d3 : decide ((k : Int) < 3) = true := by rw [decide_eq_true_eq]; omega
       have HTR := Lib.hid (refTake_any (s.extract a2 E) wr (by rw [ByteArray.size_extract]; unfold maxLen; omega))
       clear hcl hbl
       go_wp2_with fail
       (with_reducible refine HTR.out.mono ?_)
       rintro e w5 ⟨rfl, hb5⟩
       have hcl5 := (hb5.block _ (lt_of_block HCL.out)).trans HCL.out
       have hbb5 := HBL.out.trans (hb5.mono HBL.out.size)
       have HCL5 := Lib.hid hcl5
       have HB5 := Lib.hid hbb5
       have htl := takeR_le (bl (s.extract a2 E))
       rw [bl_size, ByteArray.size_extract] at htl
       obtain ⟨x, hx⟩ : ∃ x, x = (takeR (bl (s.extract a2 E))).1 := ⟨_, rfl⟩
       obtain ⟨z, hz⟩ : ∃ z, z = (takeR (bl (s.extract a2 E))).2 := ⟨_, rfl⟩
       rw [← hz] at htl
       rw [← hx, ← hz]
       have htk1 : takesN (k + 1) (bl (s.extract at_ E)) = if z = 0 ∨ 20000 < x then none else some (vs ++ [x], (bl (s.extract a2 E)).drop z) := by
        rw [takesN, HTK.out, hx, hz]
       have HT1 := Lib.hid htk1
       clear hb5 hcl5 hbb5 hx hz htk1
       have hnops : takesN (k + 1) (bl (s.extract at_ E)) = none → ∀ Ps, Rise Ps → bl s ≠ blk Ps := fun h =>
        HO.out.inv.no HNE.out (by unfold stepR; rw [takesN_three (by omega) h])
       have HNP := Lib.hid hnops
       have hbelw : Below w.heap.size w w5 := HO.out.bel.trans (HB5.out.mono HO.out.bel.size)
       have HBW := Lib.hid hbelw
       clear hnops hbelw
       by_cases hz0 : z = 0
       ·have e1 : ((z : Int) == 0) = true := by rw [beq_iff_eq]; omega
        have HZ := Lib.hid hz0
        clear hz0
        go_wp2_with fail
        exact bodyPost_ret (v := .tuple #[.slice none 0 0, .bool false]) (by simp [results, Tryz.results138, go_sem]) rfl ⟨HBW.out, .inl ⟨rfl, HNP.out (by rw [HT1.out, if_pos (.inl HZ.out)])⟩⟩
       ·have e1 : ((z : Int) == 0) = false := by rw [beq_eq_false_iff_ne]; omega
        by_cases hx2 : 20000 < x
        ·have e2 : decide ((20000 : Int) < (x : Int)) = true := by rw [decide_eq_true_eq]; omega
         have HX := Lib.hid hx2
         clear hx2
         go_wp2_with fail
         exact bodyPost_ret (v := .tuple #[.slice none 0 0, .bool false]) (by simp [results, Tryz.results138, go_sem]) rfl ⟨HBW.out, .inl ⟨rfl, HNP.out (by rw [HT1.out, if_pos (.inr HX.out)])⟩⟩
        ·have e2 : decide ((20000 : Int) < (x : Int)) = false := by rw [decide_eq_false_iff_not]; omega
         have hk3' : (k : Int) < 3 := by omega
         have cb := cellOf2 (o := k) HCL5.out (Array.getElem?_eq_getElem (show k < (arr vs).size from hk3))
         have fb := free_of2 k HCL5.out
         have wx : IntKind.i64.wrap (x : Int) = (x : Int) := IntWalk.i64_in _ (by omega)
         have wz : IntKind.i64.wrap ((a2 : Int) + (z : Int)) = (a2 : Int) + (z : Int) := IntWalk.i64_in _ (by omega)
         have wk : IntKind.i64.wrap ((k : Int) + 1) = (k : Int) + 1 := IntWalk.i64_in _ (by omega)
         go_wp2_with fail
         have hset := setAt2 (o := k) (.int .i64 x) HCL5.out
         have hbs : Below wo.heap.size wo (w5.setCell ⟨wo.heap.size, k, none⟩ (.int .i64 x)) := HB5.out.setCell (by simp) _
         have HSET := Lib.hid hset
         have HBS := Lib.hid hbs
         have htk1 := HT1.out
         rw [if_neg (by omega), ← ext_more] at htk1
         have HT2 := Lib.hid htk1
         clear hset hbs htk1
         go_roundg (3 - (k + 1))
         case measure => omega
         case rel =>
          refine ⟨k + 1, a2 + z, vs ++ [x], by omega, by go_num, by go_num, by omega, by omega, HT2.out, ?_, HBS.out⟩
          have h := HSET.out
          have h2 := arr_set vs x (by omega)
          rw [hvl] at h2
          rw [h2] at h
          exact h
      ·have d3 : decide ((k : Int) < 3) = false := by rw [decide_eq_false_iff_not]; omega
       obtain rfl : k = 3 := by omega
       clear hcl hbl
       go_upto_region 20 with (fail)
       go_upto_if 65 with (fail)
       go_cut [12] (fun lv wx => lv = .string (str (lastK ps)) ∧ wr = wx)
       case first =>
        rcases Nat.eq_zero_or_pos ps.length with h0 | h0
        ·have d4 : decide (0 < ps.length) = false := by rw [decide_eq_false_iff_not]; omega
         have hps : ps = [] := List.length_eq_zero_iff.1 h0
         have hls : (⟨#[]⟩ : ByteArray) = str (lastK ps) := by rw [hps]; rfl
         have HLS := Lib.hid hls
         clear hps hls
         go_wp2_with fail
         go_meet
         case rel => exact ⟨by rw [HLS.out], rfl⟩
        ·have d4 : decide (0 < ps.length) = true := by rw [decide_eq_true_eq]; omega
         have hrow := owns_of_block HO.out.row (fun j hj => HBL.out.block j (HO.out.row.lt j hj).2)
         obtain ⟨g6, cp6, hv6, _, hg6, hc6, hm6, hcell6⟩ := own_pos hrow h0
         injection hv6 with hv6 _ hv6'
         subst hv6 hv6'
         unfold maxLen at hm6
         have hn6 := hcell6 _ _ (flatR_get ps (ps.length - 1) (by omega)).1
         rw [← lastK_get ps h0] at hn6
         have s3 : IntKind.i64.wrap ((ps.length : Int) - 1) = (ps.length : Int) - 1 := IntWalk.i64_in _ (by omega)
         have s4 : ((ps.length : Int) - 1).toNat = ps.length - 1 := by omega
         have s5 : (0 : Int) ≤ (ps.length : Int) - 1 := by omega
         have s6 : (ps.length : Int) - 1 < (ps.length : Int) := by omega
         have s7 : (1 : Int) ≤ (ps.length : Int) := by omega
         clear hrow hcell6
         generalize str (lastK ps) = ls at *
         go_wp2_with fail
         go_meet
         case rel => exact ⟨rfl, rfl⟩
       case rest =>
        obtain ⟨rfl, rfl⟩ := hcut
        obtain ⟨a, b, c, hvs⟩ : ∃ a b c, vs = [a, b, c] := by
         match vs, hvl with
         | [a, b, c], _ => exact ⟨a, b, c, rfl⟩
        subst hvs
        have hbd := (takesN_ok _ _ _ _ HTK.out).2.1
        have ba := hbd a (by simp)
        have bb := hbd b (by simp)
        have bc := hbd c (by simp)
        have hl3 : (bl (s.extract a2 E)).length = E - a2 := by rw [bl_size, ByteArray.size_extract]; omega
        have hzl : (str (lastK ps)).size = (lastK ps).length := by simp [str, ByteArray.size]
        have hsr : stepR (lastK ps) (bl (s.extract at_ E)) = if (lastK ps).length < a ∨ E - a2 < b + c then none else some (((lastK ps).take a ++ (bl (s.extract a2 E)).take b, ((bl (s.extract a2 E)).drop b).take c), (bl (s.extract a2 E)).drop (b + c)) := by
         unfold stepR
         rw [HTK.out]
         simp only [List.getD_cons_zero, List.getD_cons_succ]
         rw [hl3]
        have HSR := Lib.hid hsr
        have c0 : wr.cell? ⟨wo.heap.size, 0, none⟩ = some (.int .i64 a) := cellOf2 (o := 0) HCL.out rfl
        have c1 : wr.cell? ⟨wo.heap.size, 1, none⟩ = some (.int .i64 b) := cellOf2 (o := 1) HCL.out rfl
        have c2 : wr.cell? ⟨wo.heap.size, 2, none⟩ = some (.int .i64 c) := cellOf2 (o := 2) HCL.out rfl
        have hbelw : Below w.heap.size w wr := HO.out.bel.trans (HBL.out.mono HO.out.bel.size)
        have HBW := Lib.hid hbelw
        have s1 : IntKind.i64.wrap ((a2 : Int) + (b : Int)) = (a2 : Int) + (b : Int) := IntWalk.i64_in _ (by omega)
        have s2 : IntKind.i64.wrap ((a2 : Int) + (b : Int) + (c : Int)) = (a2 : Int) + (b : Int) + (c : Int) := IntWalk.i64_in _ (by omega)
        clear hbd hl3 hsr hbelw d3 hkg
        by_cases q1 : (lastK ps).length < a
        ·have e1 : decide ((lastK ps).length < a) = true := by rw [decide_eq_true_eq]; omega
         have HQ1 := Lib.hid q1
         clear q1
         go_wp2_with fail
         exact bodyPost_ret (v := .tuple #[.slice none 0 0, .bool false]) (by simp [results, Tryz.results138, go_sem]) rfl ⟨HBW.out, .inl ⟨rfl, HO.out.inv.no HNE.out (by rw [HSR.out, if_pos (.inl HQ1.out)])⟩⟩
        ·have e1 : decide ((lastK ps).length < a) = false := by rw [decide_eq_false_iff_not]; omega
         by_cases q2 : E - a2 < b + c
         ·have e2 : decide ((E : Int) < (a2 : Int) + (b : Int) + (c : Int)) = true := by rw [decide_eq_true_eq]; omega
          have HQ2 := Lib.hid q2
          clear q2
          go_wp2_with fail
          exact bodyPost_ret (v := .tuple #[.slice none 0 0, .bool false]) (by simp [results, Tryz.results138, go_sem]) rfl ⟨HBW.out, .inl ⟨rfl, HO.out.inv.no HNE.out (by rw [HSR.out, if_pos (.inr HQ2.out)])⟩⟩
         ·have e2 : decide ((E : Int) < (a2 : Int) + (b : Int) + (c : Int)) = false := by rw [decide_eq_false_iff_not]; omega
          go_upto_region 24 with (fail)
          have e3 : (a2 : Int) + (b : Int) ≤ (s.size : Int) := by omega
          have e4 : (a2 : Int) + (b : Int) + (c : Int) ≤ (s.size : Int) := by omega
          have e5 : (a : Int) ≤ ((lastK ps).length : Int) := by omega
          have e12 : ¬ (9223372036854775807 < min a (lastK ps).length + (min (a2 + b) s.size - a2)) := by omega
          have e6 : (0 : Int) ≤ (a2 : Int) + (b : Int) := by omega
          have e7 : (a2 : Int) ≤ (a2 : Int) + (b : Int) := by omega
          have e8 : ((a2 : Int) + (b : Int)).toNat = a2 + b := by omega
          have e9 : (0 : Int) ≤ (a2 : Int) + (b : Int) + (c : Int) := by omega
          have e10 : (a2 : Int) + (b : Int) ≤ (a2 : Int) + (b : Int) + (c : Int) := by omega
          have e11 : ((a2 : Int) + (b : Int) + (c : Int)).toNat = a2 + b + c := by omega
          go_wp2_with fail
          refine wp_region_held_drew (S := (fun w' => w'.cell? ⟨wo.heap.size, 0, none⟩ = some (.int .i64 a) ∧ w'.cell? ⟨wo.heap.size, 1, none⟩ = some (.int .i64 b) ∧ w'.cell? ⟨wo.heap.size, 2, none⟩ = some (.int .i64 c))) (by kernel_rfl) (by (try dsimp only); exact ⟨c0, c1, c2⟩) (fun hHeld => ?_)
          refine takeH (i := 0) (d := some 89) (v := ?_) rfl rfl (by kernel_rfl) (by kernel_rfl) (by kernel_rfl) (fun _ _ _ h => h) (Or.inl ⟨by rfl, ?_⟩) (by assumption) ?_
          rotate_left
          ·intro wS hSw; (try dsimp only at hSw); go_simp; (try (with_reducible rfl))
          simp only [Act.put, zA, zB, zC]
          refine takeH (i := 1) (d := some 90) (v := ?_) rfl rfl (by kernel_rfl) (by kernel_rfl) (by kernel_rfl) (fun _ _ _ h => h) (Or.inl ⟨by rfl, ?_⟩) (by assumption) ?_
          rotate_left
          ·intro wS hSw; (try dsimp only at hSw); go_simp; (try (with_reducible rfl))
          simp only [Act.put, zA, zB, zC]
          refine takeH (i := 2) (d := some 91) (v := ?_) rfl rfl (by kernel_rfl) (by kernel_rfl) (by kernel_rfl) (fun _ _ _ h => h) (Or.inl ⟨by rfl, ?_⟩) (by assumption) ?_
          rotate_left
          ·intro wS hSw; (try dsimp only at hSw); go_simp; (try (with_reducible rfl))
          simp only [Act.put, zA, zB, zC]
          refine takeH (i := 3) (d := some 92) (v := ?_) rfl rfl (by kernel_rfl) (by kernel_rfl) (by kernel_rfl) (fun _ _ _ h => h) (Or.inl ⟨by rfl, ?_⟩) (by assumption) ?_
          rotate_left
          ·intro wS hSw; (try dsimp only at hSw); go_simp; (try (with_reducible rfl))
          simp only [Act.put, zA, zB, zC]
          refine takeH (i := 4) (d := some 93) (v := ?_) rfl rfl (by kernel_rfl) (by kernel_rfl) (by kernel_rfl) (fun _ _ _ h => h) (Or.inl ⟨by rfl, ?_⟩) (by assumption) ?_
          rotate_left
          ·intro wS hSw; (try dsimp only at hSw); go_simp; (try (with_reducible rfl))
          simp only [Act.put, zA, zB, zC]
          refine takeH (i := 5) (d := some 94) (v := ?_) rfl rfl (by kernel_rfl) (by kernel_rfl) (by kernel_rfl) (fun _ _ _ h => h) (Or.inl ⟨by rfl, ?_⟩) (by assumption) ?_
          rotate_left
          ·intro wS hSw; (try dsimp only at hSw); go_simp; (try (with_reducible rfl))
          simp only [Act.put, zA, zB, zC]
          refine takeH (i := 6) (d := some 95) (v := ?_) rfl rfl (by kernel_rfl) (by kernel_rfl) (by kernel_rfl) (fun _ _ _ h => h) (Or.inl ⟨by rfl, ?_⟩) (by assumption) ?_
          rotate_left
          ·intro wS hSw; (try dsimp only at hSw); go_simp; (try (with_reducible rfl))
          simp only [Act.put, zA, zB, zC]
          refine takeH (i := 7) (d := some 96) (v := ?_) rfl rfl (by kernel_rfl) (by kernel_rfl) (by kernel_rfl) (fun _ _ _ h => h) (Or.inl ⟨by rfl, ?_⟩) (by assumption) ?_
          rotate_left
          ·intro wS hSw; (try dsimp only at hSw); go_simp; (try (with_reducible rfl))
          simp only [Act.put, zA, zB, zC]
          refine takeH (i := 8) (d := some 97) (v := ?_) rfl rfl (by kernel_rfl) (by kernel_rfl) (by kernel_rfl) (fun _ _ _ h => h) (Or.inl ⟨by rfl, ?_⟩) (by assumption) ?_
          rotate_left
          ·intro wS hSw; (try dsimp only at hSw); go_simp; (try (with_reducible rfl))
          simp only [Act.put, zA, zB, zC]
          refine takeH (i := 9) (d := some 98) (v := ?_) rfl rfl (by kernel_rfl) (by kernel_rfl) (by kernel_rfl) (fun _ _ _ h => h) (Or.inl ⟨by rfl, ?_⟩) (by assumption) ?_
          rotate_left
          ·intro wS hSw; (try dsimp only at hSw); go_simp; (try (with_reducible rfl))
          simp only [Act.put, zA, zB, zC]
          refine takeH (i := 10) (d := some 99) (v := ?_) rfl rfl (by kernel_rfl) (by kernel_rfl) (by kernel_rfl) (fun _ _ _ h => h) (Or.inl ⟨by rfl, ?_⟩) (by assumption) ?_
          rotate_left
          ·intro wS hSw; (try dsimp only at hSw); go_simp; (try (with_reducible rfl))
          simp only [Act.put, zA, zB, zC]
          refine takeH (i := 11) (d := some 100) (v := ?_) rfl rfl (by kernel_rfl) (by kernel_rfl) (by kernel_rfl) (fun _ _ _ h => h) (Or.inl ⟨by rfl, ?_⟩) (by assumption) ?_
          rotate_left
          ·intro wS hSw; (try dsimp only at hSw); go_simp; (try (with_reducible rfl))
          simp only [Act.put, zA, zB, zC]
          refine takeH (i := 12) (d := some 101) (v := ?_) rfl rfl (by kernel_rfl) (by kernel_rfl) (by kernel_rfl) (fun _ _ _ h => h) (Or.inl ⟨by rfl, ?_⟩) (by assumption) ?_
          rotate_left
          ·intro wS hSw; (try dsimp only at hSw); go_simp; (try (with_reducible rfl))
          simp only [Act.put, zA, zB, zC]
          refine takeH (i := 13) (d := some 102) (v := ?_) rfl rfl (by kernel_rfl) (by kernel_rfl) (by kernel_rfl) (fun _ _ _ h => h) (Or.inl ⟨by rfl, ?_⟩) (by assumption) ?_
          rotate_left
          ·intro wS hSw; (try dsimp only at hSw); go_simp; (try (with_reducible rfl))
          simp only [Act.put, zA, zB, zC]
          refine takeH (i := 14) (d := some 103) (v := ?_) rfl rfl (by kernel_rfl) (by kernel_rfl) (by kernel_rfl) (fun _ _ _ h => h) (Or.inl ⟨by rfl, ?_⟩) (by assumption) ?_
          rotate_left
          ·intro wS hSw; (try dsimp only at hSw); go_simp; (try (with_reducible rfl))
          simp only [Act.put, zA, zB, zC]
          refine takeH (i := 15) (d := some 104) (v := ?_) rfl rfl (by kernel_rfl) (by kernel_rfl) (by kernel_rfl) (fun _ _ _ h => h) (Or.inl ⟨by rfl, ?_⟩) (by assumption) ?_
          rotate_left
          ·intro wS hSw; (try dsimp only at hSw); go_simp; (try (with_reducible rfl))
          simp only [Act.put, zA, zB, zC]
          refine takeH (i := 16) (d := some 105) (v := ?_) rfl rfl (by kernel_rfl) (by kernel_rfl) (by kernel_rfl) (fun _ _ _ h => h) (Or.inl ⟨by rfl, ?_⟩) (by assumption) ?_
          rotate_left
          ·intro wS hSw; (try dsimp only at hSw); go_simp; (try (with_reducible rfl))
          simp only [Act.put, zA, zB, zC]
          refine takeH (i := 17) (d := some 106) (v := ?_) rfl rfl (by kernel_rfl) (by kernel_rfl) (by kernel_rfl) (fun _ _ _ h => h) (Or.inl ⟨by rfl, ?_⟩) (by assumption) ?_
          rotate_left
          ·intro wS hSw; (try dsimp only at hSw); go_simp; (try (with_reducible rfl))
          simp only [Act.put, zA, zB, zC]
          refine takeH (i := 18) (d := some 107) (v := ?_) rfl rfl (by kernel_rfl) (by kernel_rfl) (by kernel_rfl) (fun _ _ _ h => h) (Or.inl ⟨by rfl, ?_⟩) (by assumption) ?_
          rotate_left
          ·intro wS hSw; (try dsimp only at hSw); go_simp; (try (with_reducible rfl))
          simp only [Act.put, zA, zB, zC]
          refine takeH (i := 19) (d := some 108) (v := ?_) rfl rfl (by kernel_rfl) (by kernel_rfl) (by kernel_rfl) (fun _ _ _ h => h) (Or.inl ⟨by rfl, ?_⟩) (by assumption) ?_
          rotate_left
          ·intro wS hSw; (try dsimp only at hSw); go_simp; (try (with_reducible rfl))
          simp only [Act.put, zA, zB, zC]
          refine takeH (i := 20) (d := some 109) (v := ?_) rfl rfl (by kernel_rfl) (by kernel_rfl) (by kernel_rfl) (fun _ _ _ h => h) (Or.inl ⟨by rfl, ?_⟩) (by assumption) ?_
          rotate_left
          ·intro wS hSw; (try dsimp only at hSw); go_simp; (try (with_reducible rfl))
          simp only [Act.put, zA, zB, zC]
          refine takeH (i := 21) (d := some 110) (v := ?_) rfl rfl (by kernel_rfl) (by kernel_rfl) (by kernel_rfl) (fun _ _ _ h => h) (Or.inl ⟨by rfl, ?_⟩) (by assumption) ?_
          rotate_left
          ·intro wS hSw; (try dsimp only at hSw); go_simp; (try (with_reducible rfl))
          simp only [Act.put, zA, zB, zC]
          refine takeH (i := 22) (d := some 111) (v := ?_) rfl rfl (by kernel_rfl) (by kernel_rfl) (by kernel_rfl) (fun _ _ _ h => h) (Or.inl ⟨by rfl, ?_⟩) (by assumption) ?_
          rotate_left
          ·intro wS hSw; (try dsimp only at hSw); go_simp; (try (with_reducible rfl))
          simp only [Act.put, zA, zB, zC]
          refine takeH (i := 23) (d := some 112) (v := ?_) rfl rfl (by kernel_rfl) (by kernel_rfl) (by kernel_rfl) (fun _ _ _ h => h) (Or.inl ⟨by rfl, ?_⟩) (by assumption) ?_
          rotate_left
          ·intro wS hSw; (try dsimp only at hSw); go_simp; (try (with_reducible rfl))
          simp only [Act.put, zA, zB, zC]
          refine takeH (i := 24) (d := some 113) (v := ?_) rfl rfl (by kernel_rfl) (by kernel_rfl) (by kernel_rfl) (fun _ _ _ h => h) (Or.inl ⟨by rfl, ?_⟩) (by assumption) ?_
          rotate_left
          ·intro wS hSw; (try dsimp only at hSw); go_simp; (try (with_reducible rfl))
          simp only [Act.put, zA, zB, zC]
          refine takeH (i := 25) (d := some 114) (v := ?_) rfl rfl (by kernel_rfl) (by kernel_rfl) (by kernel_rfl) (fun _ _ _ h => h) (Or.inl ⟨by rfl, ?_⟩) (by assumption) ?_
          rotate_left
          ·intro wS hSw; (try dsimp only at hSw); go_simp; (try (with_reducible rfl))
          simp only [Act.put, zA, zB, zC]
          refine takeH (i := 26) (d := some 115) (v := ?_) rfl rfl (by kernel_rfl) (by kernel_rfl) (by kernel_rfl) (fun _ _ _ h => h) (Or.inl ⟨by rfl, ?_⟩) (by assumption) ?_
          rotate_left
          ·intro wS hSw; (try dsimp only at hSw); go_simp; (try (with_reducible rfl))
          simp only [Act.put, zA, zB, zC]
          refine wpAnyH_ready (rs := [27]) (by kernel_rfl) (by simp) ?_
          refine AllReadyH.cons rfl (fun K hK => ?_) AllReadyH.nil
          go_simp
          have hrow := owns_of_block HO.out.row (fun j hj => HBL.out.block j (HO.out.row.lt j hj).2)
          have hfq : Fr (fun _ => False) wr (wr.alloc (.cells #[.string ((str (lastK ps)).extract 0 a ++ s.extract a2 (a2 + b)), .string (s.extract (a2 + b) (a2 + b + c))] 40)).drew := ((Fr.refl _ wr).alloc _).drew
          have hq2 : ∀ j u, [Value.string ((str (lastK ps)).extract 0 a ++ s.extract a2 (a2 + b)), Value.string (s.extract (a2 + b) (a2 + b + c))][j]? = some u → (wr.alloc (.cells #[.string ((str (lastK ps)).extract 0 a ++ s.extract a2 (a2 + b)), .string (s.extract (a2 + b) (a2 + b + c))] 40)).drew.cell? ((⟨wr.heap.size, 0, none⟩ : Addr).add j) = some u := cells2_new wr _ _ _
          have hqr := owns_of_block hrow (fun j hj => hfq.block j (hrow.lt j hj).2 (fun h => h))
          have k0 := hfq.cell c0 (fun h => h)
          have k1 := hfq.cell c1 (fun h => h)
          have k2 := hfq.cell c2 (fun h => h)
          have HFQ := Lib.hid hfq
          have HQ2 := Lib.hid hq2
          have HQR := Lib.hid hqr
          have hwq : ∀ g : Nat, (Value.slice ao ps.length cp).ownBlock = some g → g < wo.heap.size := fun g hg => (HO.out.row.lt g hg).2
          have HWQ := Lib.hid hwq
          clear hrow hfq hq2 hqr hwq
          obtain ⟨kk, hkk⟩ : ∃ kk, kk = (str (lastK ps)).extract 0 a ++ s.extract a2 (a2 + b) := ⟨_, rfl⟩
          obtain ⟨vv, hvv⟩ : ∃ vv, vv = s.extract (a2 + b) (a2 + b + c) := ⟨_, rfl⟩
          have HKK := Lib.hid hkk
          have HVV := Lib.hid hvv
          simp only [← hkk, ← hvv] at HFQ HQ2 HQR k0 k1 k2 ⊢
          clear hkk hvv
          generalize (wr.alloc (.cells #[.string kk, .string vv] 40)).drew = wq at *
          refine hK.out _ _ (by (try dsimp only); exact ⟨k0, k1, k2⟩) (fun hHeld => ?_)
          clear hK K
          refine wpAnyH_ready (rs := [28]) (by kernel_rfl) (by simp) ?_
          refine AllReadyH.cons rfl (fun K hK => ?_) AllReadyH.nil
          obtain ⟨i0, hi, hz0, hz1, hz2⟩ := info_parts info_prR
          have hsq := HFQ.out.size
          refine step_append_own_at _ (by rfl) (.tmp 89) (.tmp 116) 36 (by rfl) w.heap.size 40 i0 (.agg #[.string ⟨#[]⟩, .string ⟨#[]⟩]) 2 32 Tryz.underlying36 hi hz0 hz1 hz2 rfl (by decide) _ _ _ (by rfl) HQR.out ⟨wr.heap.size, 0, none⟩ 1 1 [.string kk, .string vv] (by rfl) rfl HQ2.out (two_one _ _) (by unfold maxLen; omega) (by omega) (by have := HBW.out.size; omega) ?_
          intro v7 w7 hown hgrow hat
          have hf7 : Fr (fun k => (Value.slice ao ps.length cp).ownBlock = some k) wq w7 := (Fr.refl _ wq).grown hgrow (fun _ _ h => h)
          have hnw : ¬ (Value.slice ao ps.length cp).ownBlock = some wo.heap.size := fun e => by have := HWQ.out _ e; omega
          have k07 := hf7.cell k0 hnw
          have k17 := hf7.cell k1 hnw
          have k27 := hf7.cell k2 hnw
          have HF7 := Lib.hid hf7
          have HOWN := Lib.hid hown
          obtain ⟨ao7, cp7, hv7⟩ := own_form hown
          subst hv7
          clear hf7 hown hgrow hat k0 k1 k2
          go_simp
          refine hK.out _ _ (by (try dsimp only); exact ⟨k07, k17, k27⟩) (fun hHeld => ?_)
          clear hK K
          refine takeH (i := 29) (d := some 6) (v := ?_) rfl rfl (by kernel_rfl) (by kernel_rfl) (by kernel_rfl) (fun _ _ _ h => h) (Or.inl ⟨by rfl, ?_⟩) (by assumption) ?_
          rotate_left
          ·intro wS hSw; (try dsimp only at hSw); go_simp; (try (with_reducible rfl))
          simp only [Act.put, zA, zB, zC]
          refine wpAnyH_done (by kernel_rfl) ?_ _
          clear hHeld
          go_wp2_with fail
          have hbw7 : Below w.heap.size w w7 := HBW.out.trans (((HFQ.out.mono (T := fun k => (Value.slice ao ps.length cp).ownBlock = some k) (fun _ _ h => h.elim)).trans HF7.out (fun _ _ h => h)).below HBW.out.size (fun k _ hk => (HO.out.row.lt k hk).1))
          have htk3 := (takesN_ok _ _ _ _ HTK.out).2.2
          rw [bl_size, bl_size, ByteArray.size_extract, ByteArray.size_extract] at htk3
          have h33 : at_ + 3 ≤ a2 := by omega
          have hsr := HSR.out
          rw [if_neg (by omega)] at hsr
          have hnx := HO.out.next (by omega) hEs hs (by omega) ba (by omega) hsr HKK.out HVV.out HOWN.out hbw7
          have HNX := Lib.hid hnx
          clear hnx hsr htk3 hbw7
          go_roundg (E - (a2 + b + c))
          case measure => omega
          case rel => exact ⟨_, a2 + b + c, by omega, by go_num, HNX.out⟩
    ·have d0 : decide ((at_ : Int) < (E : Int)) = false := by rw [decide_eq_false_iff_not]; omega
     obtain rfl : at_ = E := by omega
     have hin := HO.out.inv
     rw [show bl (s.extract at_ at_) = [] by rw [ext_bl, Nat.sub_self, List.take_zero]] at hin
     have HD := Lib.hid hin.done
     have hpr : PrsIn wo (.slice ao ps.length cp) ps := ⟨⟨ao, cp, rfl, Sn.of_own HO.out.row⟩, fun p hp => by have := HO.out.small p hp; unfold maxLen; omega⟩
     have HPR := Lib.hid hpr
     have HRS := Lib.hid (rises_any _ ps wo hpr (by omega))
     clear hin hpr
     go_wp2_with fail
     (with_reducible refine HRS.out.mono ?_)
     rintro e w4 ⟨R, rfl, hR, hb4⟩
     have HB4 := Lib.hid hb4
     have hbw4 : Below w.heap.size w w4 := HO.out.bel.trans (hb4.mono hsm)
     have HBW4 := Lib.hid hbw4
     have HRI := Lib.hid hR
     clear hb4 hbw4 hR
     cases R with
     | false =>
      go_wp2_with fail
      exact bodyPost_ret (v := .tuple #[.slice none 0 0, .bool false]) (by simp [results, Tryz.results138, go_sem]) rfl ⟨HBW4.out, .inl ⟨rfl, fun Ps hP e => by
       have h1 := HD.out Ps hP e
       rw [h1] at hP
       have h2 := HRI.out.2 hP
       cases h2⟩⟩
     | true =>
      have hri := HRI.out.1 rfl
      have HRise := Lib.hid hri
      have HBY := Lib.hid (refBytes_any _ ps w4 (HPR.out.below HB4.out) hri.ok hri.le)
      clear hri HRI
      go_wp2_with fail
      (with_reducible refine HBY.out.mono ?_)
      rintro e w5 ⟨rfl, hb5⟩
      have hbw5 : Below w.heap.size w w5 := HBW4.out.trans (hb5.mono HBW4.out.size)
      have HBW5 := Lib.hid hbw5
      have hro5 := owns_of_block HO.out.row (fun j hj => ((HB4.out.trans (hb5.mono HB4.out.size)).block j (HO.out.row.lt j hj).2))
      have HRO5 := Lib.hid hro5
      clear hb5 hbw5 hro5
      by_cases hbe : blk ps = bl s
      ·have e1 : ((str (blk ps)).toList != s.toList) = false := by rw [hbe, str_bl]; simp
       have e1' : ((str (blk ps)).toList == s.toList) = true := by rw [hbe, str_bl]; simp
       have HBE := Lib.hid hbe
       clear hbe
       go_wp2_with fail
       exact bodyPost_ret (v := .tuple #[.slice ao ps.length cp, .bool true]) (by simp [results, Tryz.results138, go_sem]) rfl ⟨HBW5.out, .inr ⟨_, ps, rfl, HRise.out, HBE.out.symm, HRO5.out⟩⟩
      ·have e1' : ((str (blk ps)).toList == s.toList) = false := by
        rw [beq_eq_false_iff_ne]
        intro e
        rw [ByteArray.toList_eq, ByteArray.toList_eq] at e
        exact hbe (by rw [← bl_str (blk ps)]; exact e)
       have HBE := Lib.hid hbe
       clear hbe
       go_wp2_with fail
       exact bodyPost_ret (v := .tuple #[.slice none 0 0, .bool false]) (by simp [results, Tryz.results138, go_sem]) rfl ⟨HBW5.out, .inl ⟨rfl, fun Ps hP e => by
        have h1 := HD.out Ps hP e
        rw [h1] at e
        exact HBE.out e.symm⟩⟩
end Go.Proofs.YtdbfaknpfepnfaaGreatDoor


