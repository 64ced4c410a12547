/-
  Texts of the claim, joined: MxP, TabP, TabSbW, TabFrW.
-/
import Derived.Test.YtdbfaknpfepnfaaGreatDoorMxBK12
import Derived.Test.YtdbfaknpfepnfaaGreatDoorMxBK2
import Derived.Test.YtdbfaknpfepnfaaGreatDoorMxBK5
import Derived.Test.YtdbfaknpfepnfaaGreatDoorMxBK8
import Derived.Lib.UnsafeStr
import Derived.Lib.Builder
import Derived.Deep.LoopGhost
import Derived.Shelf.RegionOpenPlain
import Derived.Lib.IndexLaws
set_option maxRecDepth 100000
set_option maxHeartbeats 40000000
namespace Go.Proofs.YtdbfaknpfepnfaaGreatDoor
open Go.RowKit CodecP Cur
namespace Mx

structure Src where
 kd : Nat
 v : Value
 tv : Value
 ct : Nat
 l : List Pr
 pos : Nat
 bad : Bool
 up : Bool
abbrev Src.nil : Src := ⟨0, .slice none 0 0, .pointer none, 0, [], 0, false, false⟩
abbrev Src.on (s : Src) : Src := { s with pos := s.pos + 1, ct := s.ct + 1 }
abbrev Src.to (s : Src) (q : Nat × Nat) : Src := { s with pos := q.1, ct := q.2, up := true }
structure MSt where
 ss : List Src
 hp : List Nat
 ks : List (List UInt8)

def aliveAt (m : MSt) (i : Nat) : Prop := ∃ h : i < m.ss.length, m.ss[i].pos < m.ss[i].l.length
structure Stand (m : MSt) : Prop where
 nodup : m.hp.Nodup
 alive : ∀ i, i ∈ m.hp ↔ aliveAt m i
 key : ∀ i ∈ m.hp, ∀ (h : i < m.ss.length) (h2 : m.ss[i].pos < m.ss[i].l.length), m.ks.getD i [] = (m.ss[i].l[m.ss[i].pos]).1
 heap : HpO (lessP m.ks) m.hp
 few : m.hp.length ≤ m.ss.length
def goOn (m : MSt) (i : Nat) : List Src := m.ss.set i ((m.ss.getD i Src.nil).on)
theorem goOn_len (m : MSt) (i : Nat) : (goOn m i).length = m.ss.length := by simp [goOn]
theorem goOn_ne {m : MSt} {i j : Nat} (h : j ≠ i) (hj : j < m.ss.length) (hj' : j < (goOn m i).length) : (goOn m i)[j] = m.ss[j] := by
 simp only [goOn]
 rw [List.getElem_set_ne (fun e => h e.symm)]
theorem goOn_eq {m : MSt} {i : Nat} (hi : i < m.ss.length) (hi' : i < (goOn m i).length) : (goOn m i)[i] = m.ss[i].on := by
 simp only [goOn]
 rw [List.getElem_set_self]
 simp [List.getD, List.getElem?_eq_getElem hi]
theorem alive_ne {m : MSt} {i j : Nat} {hp : List Nat} {ks : List (List UInt8)} (h : j ≠ i) : aliveAt ⟨goOn m i, hp, ks⟩ j ↔ aliveAt m j := by
 unfold aliveAt
 constructor
 ·rintro ⟨h1, h2⟩
  have h3 : j < m.ss.length := by rw [← goOn_len m i]; exact h1
  refine ⟨h3, ?_⟩
  have := goOn_ne h h3 h1
  dsimp only at h2
  rw [this] at h2
  exact h2
 ·rintro ⟨h1, h2⟩
  have h3 : j < (goOn m i).length := by rw [goOn_len]; exact h1
  refine ⟨h3, ?_⟩
  dsimp only
  rw [goOn_ne h h1 h3]
  exact h2
theorem Stand.next1 {m : MSt} (h : Stand m) {i : Nat} (hi : i < m.ss.length) (him : i ∈ m.hp) (hl : m.ss[i].pos + 1 < m.ss[i].l.length) {hp' : List Nat} {key : List UInt8} (hkey : key = (m.ss[i].l[m.ss[i].pos + 1]).1) (hik : i < m.ks.length) (hpm : hp'.Perm m.hp) (hh : HpO (lessP (m.ks.set i key)) hp') :
  Stand ⟨goOn m i, hp', m.ks.set i key⟩ := by
 refine ⟨hpm.nodup_iff.2 h.nodup, fun j => ?_, fun j hj h1 h2 => ?_, hh, by dsimp only; rw [hpm.length_eq, goOn_len]; exact h.few⟩
 ·rw [hpm.mem_iff, h.alive j]
  by_cases e : j = i
  ·subst e
   refine ⟨fun _ => ⟨by dsimp only; rw [goOn_len]; exact hi, ?_⟩, fun _ => (h.alive j).1 him⟩
   dsimp only
   rw [goOn_eq hi]
   exact hl
  ·rw [alive_ne e]
 ·dsimp only at h1 h2 ⊢
  rw [getD_set _ _ _ _ _ hik]
  by_cases e : j = i
  ·subst e
   rw [if_pos rfl, hkey]
   simp only [goOn_eq hi]
  ·rw [if_neg e]
   have h3 : j < m.ss.length := by rw [← goOn_len m i]; exact h1
   simp only [goOn_ne e h3] at h2 ⊢
   exact h.key j (hpm.mem_iff.1 hj) h3 h2
theorem Stand.next0 {m : MSt} (h : Stand m) {i : Nat} (hi : i < m.ss.length) (hl : ¬ m.ss[i].pos + 1 < m.ss[i].l.length) {hp' : List Nat} (hpm : (i :: hp').Perm m.hp) (hh : HpO (lessP m.ks) hp') :
  Stand ⟨goOn m i, hp', m.ks⟩ := by
 have hnd := hpm.nodup_iff.2 h.nodup
 rw [List.nodup_cons] at hnd
 have hmem : ∀ j, j ≠ i → (j ∈ hp' ↔ j ∈ m.hp) := fun j hj => by
  rw [← hpm.mem_iff, List.mem_cons]
  exact ⟨.inr, fun h => h.resolve_left hj⟩
 refine ⟨hnd.2, fun j => ?_, fun j hj h1 h2 => ?_, hh, ?_⟩
 ·by_cases e : j = i
  ·subst e
   refine ⟨fun hj => absurd hj hnd.1, fun ⟨h1, h2⟩ => ?_⟩
   dsimp only at h1 h2
   rw [goOn_eq hi] at h2
   exact absurd h2 hl
  ·rw [alive_ne e, hmem j e]
   exact h.alive j
 ·have e : j ≠ i := fun e => hnd.1 (e ▸ hj)
  dsimp only at h1 h2 ⊢
  have h3 : j < m.ss.length := by rw [← goOn_len m i]; exact h1
  simp only [goOn_ne e h3] at h2 ⊢
  exact h.key j ((hmem j e).1 hj) h3 h2
 ·dsimp only
  have := hpm.length_eq
  rw [List.length_cons] at this
  rw [goOn_len]
  have := h.few
  omega

def remS (s : Src) : List Pr := s.l.drop s.pos
def rems (m : MSt) : List (List Pr) := m.ss.map remS
theorem rems_len (m : MSt) : (rems m).length = m.ss.length := by simp [rems]
theorem rems_get {m : MSt} {i : Nat} (h : i < m.ss.length) (h' : i < (rems m).length) : (rems m)[i] = remS m.ss[i] := by simp [rems]
theorem remS_pos {s : Src} (h : s.pos < s.l.length) : remS s = s.l[s.pos] :: s.l.drop (s.pos + 1) := List.drop_eq_getElem_cons h
theorem remS_mem {s : Src} {x : Pr} (h : x ∈ remS s) : s.pos < s.l.length := by
 rcases Nat.lt_or_ge s.pos s.l.length with h1 | h1
 ·exact h1
 ·unfold remS at h
  rw [List.drop_of_length_le h1] at h
  cases h
theorem remS_head {s : Src} (hs : Srt s.l) {x : Pr} (h : x ∈ remS s) (hl : s.pos < s.l.length) : x = s.l[s.pos] ∨ (s.l[s.pos]).1 < x.1 := by
 have hd : Srt (remS s) := hs.sublist (List.drop_sublist _ _)
 rw [remS_pos hl] at h hd
 rcases List.mem_cons.1 h with h | h
 ·exact .inl h
 ·exact .inr (List.rel_of_pairwise_cons hd h)
def Good (m : MSt) : Prop := ∀ i, ∀ h : i < m.ss.length, Srt m.ss[i].l
section
variable {m : MSt}
theorem Stand.root (h : Stand m) (hp : 0 < m.hp.length) : ∃ (hi : m.hp.getD 0 0 < m.ss.length), ∃ (hl : m.ss[m.hp.getD 0 0].pos < m.ss[m.hp.getD 0 0].l.length), m.ks.getD (m.hp.getD 0 0) [] = (m.ss[m.hp.getD 0 0].l[m.ss[m.hp.getD 0 0].pos]).1 ∧ m.hp.getD 0 0 ∈ m.hp := by
 have hm : m.hp.getD 0 0 ∈ m.hp := by
  rw [List.getD_eq_getElem?_getD, List.getElem?_eq_getElem hp]
  exact List.getElem_mem hp
 obtain ⟨hi, hl⟩ := (h.alive _).1 hm
 exact ⟨hi, hl, h.key _ hm hi hl, hm⟩
theorem Stand.least (h : Stand m) (hg : Good m) {j : Nat} (hj : j < m.ss.length) {z : Pr} (hz : z ∈ remS m.ss[j]) :
  ¬ z.1 < m.ks.getD (m.hp.getD 0 0) [] ∧ (j < m.hp.getD 0 0 → z.1 ≠ m.ks.getD (m.hp.getD 0 0) []) := by
 have hl := remS_mem hz
 have hm : j ∈ m.hp := (h.alive j).2 ⟨hj, hl⟩
 obtain ⟨k, hk, hkj⟩ := List.getElem_of_mem hm
 have h1 := h.heap.least (lessP_ord _) k hk
 rw [show m.hp.getD k 0 = j by rw [List.getD_eq_getElem?_getD, List.getElem?_eq_getElem hk]; exact hkj] at h1
 have hk2 := h.key j hm hj hl
 generalize m.hp.getD 0 0 = i at *
 have n1 : ¬ m.ks.getD j [] < m.ks.getD i [] := fun h => h1 (.inl h)
 have n2 : j < i → m.ks.getD j [] ≠ m.ks.getD i [] := fun h e => h1 (.inr ⟨e, h⟩)
 rcases remS_head (hg j hj) hz hl with e | e
 ·rw [e, ← hk2]
  exact ⟨n1, n2⟩
 ·rw [← hk2] at e
  refine ⟨fun h => n1 (List.lt_trans e h), fun _ h => ?_⟩
  rw [h] at e
  exact n1 e
theorem IsM.empty (h : Stand m) : IsM (rems m) [] → m.hp.length = 0 := by
 intro hi
 rcases Nat.eq_zero_or_pos m.hp.length with h0 | h0
 ·exact h0
 ·exfalso
  -- the least index that is alive
  have key : ∀ n i, i ≤ n → aliveAt m i → False := by
   intro n
   induction n with
   | zero =>
    intro i hin ⟨h1, h2⟩
    obtain rfl : i = 0 := by omega
    have := (hi.2 (m.ss[0].l[m.ss[0].pos])).2 ⟨0, by rw [rems_len]; exact h1, by rw [rems_get h1, remS_pos h2]; exact List.mem_cons_self .., fun j _ h => absurd h (Nat.not_lt_zero _)⟩
    cases this
   | succ n ih =>
    intro i hin ⟨h1, h2⟩
    have := (hi.2 (m.ss[i].l[m.ss[i].pos])).2 ⟨i, by rw [rems_len]; exact h1, by rw [rems_get h1, remS_pos h2]; exact List.mem_cons_self .., fun j hj hji y hy => by
     have hj2 : j < m.ss.length := by rw [rems_len] at hj; exact hj
     rw [rems_get hj2] at hy
     exact absurd ⟨hj2, remS_mem hy⟩ (ih j (by omega))⟩
    cases this
  obtain ⟨hi2, hl, -, -⟩ := h.root h0
  exact key _ _ (Nat.le_refl _) ⟨hi2, hl⟩
theorem IsM.ne_empty {x : Pr} {r : List Pr} (h : Stand m) (hi : IsM (rems m) (x :: r)) : 0 < m.hp.length := by
 obtain ⟨i, h1, h2, -⟩ := (hi.2 x).1 (by simp)
 have h3 : i < m.ss.length := by rw [rems_len] at h1; exact h1
 rw [rems_get h3] at h2
 exact List.length_pos_of_mem ((h.alive i).2 ⟨h3, remS_mem h2⟩)
theorem IsM.head {x : Pr} {r : List Pr} (h : Stand m) (hg : Good m) (hi : IsM (rems m) (x :: r)) : ∃ (hl : m.hp.getD 0 0 < m.ss.length) (ha : m.ss[m.hp.getD 0 0].pos < m.ss[m.hp.getD 0 0].l.length), x = m.ss[m.hp.getD 0 0].l[m.ss[m.hp.getD 0 0].pos] := by
 have hp := IsM.ne_empty h hi
 obtain ⟨hl, ha, hk, hm⟩ := h.root hp
 refine ⟨hl, ha, ?_⟩
 have hy : m.ss[m.hp.getD 0 0].l[m.ss[m.hp.getD 0 0].pos] ∈ x :: r := (hi.2 _).2 ⟨m.hp.getD 0 0, by rw [rems_len]; exact hl, by rw [rems_get hl, remS_pos ha]; exact List.mem_cons_self .., fun j hj hji z hz => by
  have hj2 : j < m.ss.length := by rw [rems_len] at hj; exact hj
  rw [rems_get hj2] at hz
  have := (h.least hg hj2 hz).2 hji
  rw [hk] at this
  exact this⟩
 obtain ⟨i, h1, h2, -⟩ := (hi.2 x).1 (by simp)
 have h3 : i < m.ss.length := by rw [rems_len] at h1; exact h1
 rw [rems_get h3] at h2
 have hx := (h.least hg h3 h2).1
 rw [hk] at hx
 rcases List.mem_cons.1 hy with e | e
 ·exact e.symm
 ·exact absurd (List.rel_of_pairwise_cons hi.1 e) hx
end
def StepsTo (key : List UInt8) (m m' : MSt) : Prop := m'.ss.length = m.ss.length ∧ ∀ i (h : i < m.ss.length) (h' : i < m'.ss.length), m'.ss[i].l = m.ss[i].l ∧ (∀ x ∈ remS m'.ss[i], x ∈ remS m.ss[i]) ∧ (remS m'.ss[i]).filter (fun x => decide (x.1 ≠ key)) = (remS m.ss[i]).filter (fun x => decide (x.1 ≠ key))
theorem StepsTo.refl (key : List UInt8) (m : MSt) : StepsTo key m m := ⟨rfl, fun _ _ _ => ⟨rfl, fun _ h => h, rfl⟩⟩
theorem StepsTo.good {key : List UInt8} {m m' : MSt} (h : StepsTo key m m') (hg : Good m) : Good m' := fun i hi => by
 have h2 : i < m.ss.length := by rw [← h.1]; exact hi
 rw [(h.2 i h2 hi).1]
 exact hg i h2
theorem StepsTo.step {key : List UInt8} {m m' : MSt} (h : StepsTo key m m') (hs : Stand m') (hp : 0 < m'.hp.length) (hk : m'.ks.getD (m'.hp.getD 0 0) [] = key) (hp2 : List Nat) (ks2 : List (List UInt8)) : StepsTo key m ⟨goOn m' (m'.hp.getD 0 0), hp2, ks2⟩ := by
 obtain ⟨hl, ha, hkk, -⟩ := hs.root hp
 rw [hk] at hkk
 generalize m'.hp.getD 0 0 = i0 at *
 refine ⟨by dsimp only; rw [goOn_len]; exact h.1, fun i h1 h2 => ?_⟩
 dsimp only at h2 ⊢
 have h3 : i < m'.ss.length := by rw [goOn_len] at h2; exact h2
 obtain ⟨e1, e2, e3⟩ := h.2 i h1 h3
 by_cases e : i = i0
 ·subst e
  rw [goOn_eq hl]
  have hr : remS m'.ss[i] = m'.ss[i].l[m'.ss[i].pos] :: remS m'.ss[i].on := remS_pos ha
  refine ⟨e1, fun x hx => e2 x (by rw [hr]; exact List.mem_cons_of_mem _ hx), ?_⟩
  rw [← e3, hr, List.filter_cons]
  rw [if_neg (by simp [← hkk])]
 ·rw [goOn_ne e h3]
  exact ⟨e1, e2, e3⟩
theorem IsM.next {m m' : MSt} {x : Pr} {r : List Pr} (hs : Stand m) (hg : Good m) (hi : IsM (rems m) (x :: r)) (hst : StepsTo x.1 m m') (hs' : Stand m') (hex : m'.hp.length = 0 ∨ m'.ks.getD (m'.hp.getD 0 0) [] ≠ x.1) : IsM (rems m') r := by
 have ht := hi.tail
 have hmin : ∀ j (hj : j < m.ss.length), ∀ z ∈ remS m.ss[j], ¬ z.1 < x.1 := fun j hj z hz => by
  have hp := IsM.ne_empty hs hi
  obtain ⟨hl, ha, hx⟩ := IsM.head hs hg hi
  obtain ⟨_, _, hk, -⟩ := hs.root hp
  have := (hs.least hg hj hz).1
  rw [hk, ← hx] at this
  exact this
 have hno : ∀ j (hj : j < m'.ss.length), ∀ z ∈ remS m'.ss[j], z.1 ≠ x.1 := fun j hj z hz e => by
  have hpos : 0 < m'.hp.length := List.length_pos_of_mem ((hs'.alive j).2 ⟨hj, remS_mem hz⟩)
  rcases hex with h0 | hk
  ·omega
  ·have h1 := (hs'.least (hst.good hg) hj hz).1
   rw [e] at h1
   obtain ⟨hl, ha, hkk, -⟩ := hs'.root hpos
   have hl2 : m'.hp.getD 0 0 < m.ss.length := by rw [← hst.1]; exact hl
   have h2 := hmin _ hl2 _ ((hst.2 _ hl2 hl).2.1 _ (by rw [remS_pos ha]; exact List.mem_cons_self ..))
   rw [← hkk] at h2
   exact hk (eq_of_nlt h2 h1)
 have he : rems m' = (rems m).map fun l => l.filter fun y => decide (y.1 ≠ x.1) := by
  apply List.ext_getElem
  ·rw [List.length_map, rems_len, rems_len]; exact hst.1
  ·intro i h1 h2
   have h3 : i < m'.ss.length := by rw [rems_len] at h1; exact h1
   have h4 : i < m.ss.length := by rw [← hst.1]; exact h3
   rw [List.getElem_map, rems_get h3, rems_get h4, ← (hst.2 i h4 h3).2.2]
   refine (List.filter_eq_self.2 fun z hz => ?_).symm
   simpa using hno i h3 z hz
 rw [he]
 exact ht

def posd (ss : List Src) (pos : Nat → Nat × Nat) (k : Nat) : List Src := ss.mapIdx fun i s => if i < k then s.to (pos i) else s
theorem posd_len (ss : List Src) (pos : Nat → Nat × Nat) (k : Nat) : (posd ss pos k).length = ss.length := by simp [posd]
theorem posd_get {ss : List Src} {pos : Nat → Nat × Nat} {k i : Nat} (hi : i < ss.length) (hi' : i < (posd ss pos k).length) : (posd ss pos k)[i] = if i < k then ss[i].to (pos i) else ss[i] := by simp [posd]
theorem posd_zero (ss : List Src) (pos : Nat → Nat × Nat) : posd ss pos 0 = ss := by
 apply List.ext_getElem
 ·simp [posd]
 ·intro i h1 h2
  rw [posd_get h2]
  simp
theorem posd_set {ss : List Src} {pos : Nat → Nat × Nat} {k : Nat} (hk' : k < (posd ss pos k).length) : (posd ss pos k).set k ((posd ss pos k)[k].to (pos k)) = posd ss pos (k + 1) := by
 apply List.ext_getElem
 ·simp [posd]
 ·intro i h1 h2
  have hi : i < ss.length := by rw [posd_len] at h2; exact h2
  rw [posd_get hi, List.getElem_set]
  by_cases e : k = i
  ·subst e
   rw [if_pos rfl, if_pos (by omega), posd_get hi, if_neg (by omega)]
  ·rw [if_neg e, posd_get hi]
   by_cases h : i < k
   ·rw [if_pos h, if_pos (by omega)]
   ·rw [if_neg h, if_neg (by omega)]
theorem posd_ne {ss : List Src} {pos : Nat → Nat × Nat} {k i : Nat} (h : i ≠ k) (h1 : i < (posd ss pos k).length) (h2 : i < (posd ss pos (k + 1)).length) : (posd ss pos (k + 1))[i] = (posd ss pos k)[i] := by
 have hi : i < ss.length := by rw [posd_len] at h1; exact h1
 rw [posd_get hi, posd_get hi]
 by_cases e : i < k
 ·rw [if_pos e, if_pos (by omega)]
 ·rw [if_neg e, if_neg (by omega)]
structure StandTo (m : MSt) (k : Nat) : Prop where
 nodup : m.hp.Nodup
 alive : ∀ i, i ∈ m.hp ↔ i < k ∧ aliveAt m i
 key : ∀ i ∈ m.hp, ∀ (h : i < m.ss.length) (h2 : m.ss[i].pos < m.ss[i].l.length), m.ks.getD i [] = (m.ss[i].l[m.ss[i].pos]).1
 heap : HpO (lessP m.ks) m.hp
 few : m.hp.length ≤ k
theorem StandTo.zero (ss : List Src) (ks : List (List UInt8)) : StandTo ⟨ss, [], ks⟩ 0 :=
 ⟨List.nodup_nil, fun i => ⟨fun h => (by cases h), fun h => absurd h.1 (Nat.not_lt_zero _)⟩, fun i h => (by cases h), fun k _ h => absurd h (Nat.not_lt_zero _), Nat.le_refl _⟩
theorem StandTo.all {m : MSt} (h : StandTo m m.ss.length) : Stand m :=
 ⟨h.nodup, fun i => by rw [h.alive i]; exact ⟨fun h => h.2, fun h => ⟨h.1, h⟩⟩, h.key, h.heap, h.few⟩
section
variable {ss : List Src} {pos : Nat → Nat × Nat} {k : Nat} {hp hp' : List Nat} {ks : List (List UInt8)}
theorem alive_posd {i : Nat} {hp hp' : List Nat} {ks ks' : List (List UInt8)} (h : i ≠ k) : aliveAt ⟨posd ss pos (k + 1), hp', ks'⟩ i ↔ aliveAt ⟨posd ss pos k, hp, ks⟩ i := by
 unfold aliveAt
 dsimp only
 constructor
 ·rintro ⟨h1, h2⟩
  have h3 : i < (posd ss pos k).length := by rw [posd_len] at h1 ⊢; exact h1
  rw [posd_ne h h3 h1] at h2
  exact ⟨h3, h2⟩
 ·rintro ⟨h1, h2⟩
  have h3 : i < (posd ss pos (k + 1)).length := by rw [posd_len] at h1 ⊢; exact h1
  rw [← posd_ne h h1 h3] at h2
  exact ⟨h3, h2⟩
theorem StandTo.skip (h : StandTo ⟨posd ss pos k, hp, ks⟩ k) (hk : k < ss.length) (hn : ¬ (pos k).1 < ss[k].l.length) : StandTo ⟨posd ss pos (k + 1), hp, ks⟩ (k + 1) := by
 refine ⟨h.nodup, fun i => ?_, fun i hi h1 h2 => ?_, h.heap, Nat.le_succ_of_le h.few⟩
 ·have ha := h.alive i
  dsimp only at ha
  rw [ha]
  by_cases e : i = k
  ·subst e
   refine ⟨fun h => absurd h.1 (Nat.lt_irrefl _), fun ⟨_, h1, h2⟩ => ?_⟩
   dsimp only at h1 h2
   rw [posd_get hk, if_pos (Nat.lt_succ_self _)] at h2
   exact absurd h2 hn
  ·rw [alive_posd (hp := hp) (ks := ks) e]
   exact ⟨fun h => ⟨by omega, h.2⟩, fun h => ⟨by omega, h.2⟩⟩
 ·have hik := ((h.alive i).1 hi).1
  dsimp only at h1 h2 ⊢
  have h3 : i < (posd ss pos k).length := by rw [posd_len] at h1 ⊢; exact h1
  simp only [posd_ne (show i ≠ k by omega) h3] at h2 ⊢
  exact h.key i hi h3 h2
theorem StandTo.take (h : StandTo ⟨posd ss pos k, hp, ks⟩ k) (hk : k < ss.length) (hl : (pos k).1 < ss[k].l.length) {key : List UInt8} (hkey : key = (ss[k].l[(pos k).1]).1) (hkk : k < ks.length) (hpm : hp'.Perm (hp ++ [k])) (hh : HpO (lessP (ks.set k key)) hp') :
  StandTo ⟨posd ss pos (k + 1), hp', ks.set k key⟩ (k + 1) := by
 have hno : k ∉ hp := fun hm => absurd ((h.alive k).1 hm).1 (Nat.lt_irrefl _)
 have hmem : ∀ i, i ∈ hp' ↔ i ∈ hp ∨ i = k := fun i => by rw [hpm.mem_iff]; simp
 refine ⟨hpm.nodup_iff.2 (List.nodup_append.2 ⟨h.nodup, by simp, fun a ha b hb => by
  rw [List.mem_singleton.1 hb]; exact fun e => hno (e ▸ ha)⟩), fun i => ?_, fun i hi h1 h2 => ?_, hh, ?_⟩
 ·dsimp only
  rw [hmem]
  by_cases e : i = k
  ·subst e
   refine ⟨fun _ => ⟨Nat.lt_succ_self _, by dsimp only; rw [posd_len]; exact hk, ?_⟩, fun _ => .inr rfl⟩
   dsimp only
   rw [posd_get hk, if_pos (Nat.lt_succ_self _)]
   exact hl
  ·have ha := h.alive i
   dsimp only at ha
   rw [ha, alive_posd (hp := hp) (ks := ks) e]
   exact ⟨fun h => ⟨by omega, (h.resolve_right e).2⟩, fun h => .inl ⟨by omega, h.2⟩⟩
 ·dsimp only at h1 h2 hi ⊢
  rw [getD_set _ _ _ _ _ hkk]
  by_cases e : i = k
  ·subst e
   rw [if_pos rfl, hkey]
   simp only [posd_get hk, if_pos (Nat.lt_succ_self _)]
  ·rw [if_neg e]
   have h3 : i < (posd ss pos k).length := by rw [posd_len] at h1 ⊢; exact h1
   simp only [posd_ne e h3] at h2 ⊢
   exact h.key i (((hmem i).1 hi).resolve_right e) h3 h2
 ·dsimp only
  rw [hpm.length_eq, List.length_append, List.length_singleton]
  have := h.few
  dsimp only at this
  omega
end
def Fine (m : MSt) : Prop := ∀ i, ∀ h : i < m.ss.length, m.ss[i].bad = true → m.ss[i].pos < m.ss[i].l.length
theorem Fine.ne {m : MSt} (h : Fine m) {i : Nat} (hi : i < m.ss.length) (hb : m.ss[i].bad = true) (hs : Stand m) : 0 < m.hp.length :=
 List.length_pos_of_mem ((hs.alive i).2 ⟨hi, h i hi hb⟩)
end Mx
end Go.Proofs.YtdbfaknpfepnfaaGreatDoor


namespace Go.Proofs.YtdbfaknpfepnfaaGreatDoor
open Go.RowKit CodecP CrcP FrameP

def clampN (size : Int) : Nat := (min (max size 64) 16384).toNat
theorem clamp_le (size : Int) : clampN size ≤ 16384 ∧ 64 ≤ clampN size ∧ ((clampN size : Nat) : Int) = min (max size 64) 16384 := by unfold clampN; omega
def cutC (sz : Nat) (st : List (List Pr) × List Pr) (p : Pr) : List (List Pr) × List Pr :=
 if sz ≤ (blk (st.2 ++ [p])).length then (st.1 ++ [st.2 ++ [p]], []) else (st.1, st.2 ++ [p])
def cut (sz : Nat) (l : List Pr) : List (List Pr) × List Pr := l.foldl (cutC sz) ([], [])
theorem cut_snoc (sz : Nat) (l : List Pr) (p : Pr) : cut sz (l ++ [p]) = cutC sz (cut sz l) p := by simp [cut]
theorem cut_yes {sz : Nat} {l : List Pr} {p : Pr} (h : sz ≤ (blk ((cut sz l).2 ++ [p])).length) : cut sz (l ++ [p]) = ((cut sz l).1 ++ [(cut sz l).2 ++ [p]], []) := by rw [cut_snoc, cutC, if_pos h]
theorem cut_no {sz : Nat} {l : List Pr} {p : Pr} (h : ¬ sz ≤ (blk ((cut sz l).2 ++ [p])).length) : cut sz (l ++ [p]) = ((cut sz l).1, (cut sz l).2 ++ [p]) := by rw [cut_snoc, cutC, if_neg h]
def closeB (st : List (List Pr) × List Pr) : List (List Pr) := if st.2 = [] then st.1 else st.1 ++ [st.2]
def blocksOf (sz : Nat) (l : List Pr) : List (List Pr) := closeB (cut sz l)
theorem blk_snoc (ps : List Pr) (p : Pr) (h : Okp p) : (blk (ps ++ [p])).length ≤ (blk ps).length + 16114 := by
 rw [blk_len, blk_len, dat_snoc, List.length_append, rst_snoc, List.length_append]
 have h1 := ent_len (sameOf ps.length (lastK ps) p.1) p
 obtain ⟨-, h2, h3⟩ := h
 split
 ·simp only [List.length_singleton]; omega
 ·simp only [List.length_nil]; omega
structure CutI (sz : Nat) (l : List Pr) : Prop where
 flat : (cut sz l).1.flatten ++ (cut sz l).2 = l
 ne : ∀ b ∈ (cut sz l).1, b ≠ []
 small : ∀ b ∈ (cut sz l).1, (blk b).length ≤ 32500
 cur : (blk (cut sz l).2).length ≤ 16384
theorem cutI (sz : Nat) (h1 : 64 ≤ sz) (h2 : sz ≤ 16384) (l : List Pr) (hl : ∀ p ∈ l, Okp p) : CutI sz l := by
 revert hl
 refine snocInd (P := fun l => (∀ p ∈ l, Okp p) → CutI sz l) ?_ ?_ l
 ·intro _
  exact ⟨rfl, fun b hb => (by cases hb), fun b hb => (by cases hb), (by show (blk []).length ≤ 16384; decide)⟩
 ·intro l p ih hl
  obtain ⟨i1, i2, i3, i4⟩ := ih (fun q hq => hl q (by simp [hq]))
  have hp := blk_snoc (cut sz l).2 p (hl p (by simp))
  by_cases h : sz ≤ (blk ((cut sz l).2 ++ [p])).length
  ·refine ⟨?_, ?_, ?_, ?_⟩
   ·rw [cut_yes h, List.flatten_append]
    conv => rhs; rw [← i1]
    simp
   ·rw [cut_yes h]
    intro b hb
    rcases List.mem_append.1 hb with hb | hb
    ·exact i2 b hb
    ·rw [List.mem_singleton.1 hb]; simp
   ·rw [cut_yes h]
    intro b hb
    rcases List.mem_append.1 hb with hb | hb
    ·exact i3 b hb
    ·rw [List.mem_singleton.1 hb]; omega
   ·rw [cut_yes h]; show (blk []).length ≤ 16384; decide
  ·refine ⟨?_, ?_, ?_, ?_⟩
   ·rw [cut_no h]
    conv => rhs; rw [← i1]
    simp
   ·rw [cut_no h]; exact i2
   ·rw [cut_no h]; exact i3
   ·rw [cut_no h]; show (blk ((cut sz l).2 ++ [p])).length ≤ 16384; omega
theorem cut_len {sz : Nat} {l : List Pr} (h : CutI sz l) : (cut sz l).1.length ≤ l.length ∧ (cut sz l).2.length ≤ l.length := by
 have hf := congrArg List.length h.flat
 rw [List.length_append] at hf
 have : ∀ L : List (List Pr), (∀ b ∈ L, b ≠ []) → L.length ≤ L.flatten.length := fun L hL => by
  induction L with
  | nil => simp
  | cons b L ih =>
   have h1 := ih (fun x hx => hL x (by simp [hx]))
   have h2 := List.length_pos_iff.2 (hL b (by simp))
   rw [List.flatten_cons, List.length_append, List.length_cons]
   omega
 have h2 := this _ h.ne
 omega
def frm (ps : List Pr) : List UInt8 := frame (blk ps)
theorem frm_len (ps : List Pr) : (frm ps).length = 12 + (blk ps).length := frame_length _
def outB (cl : List (List Pr)) : List UInt8 := cl.flatMap frm
theorem outB_snoc (cl : List (List Pr)) (b : List Pr) : outB (cl ++ [b]) = outB cl ++ frm b := by simp [outB]
theorem outB_len {cl : List (List Pr)} (h : ∀ b ∈ cl, (blk b).length ≤ 32500) : (outB cl).length ≤ cl.length * 32512 := by
 induction cl with
 | nil => simp [outB]
 | cons b cl ih =>
  have h1 := ih (fun x hx => h x (by simp [hx]))
  have h2 := h b (by simp)
  unfold outB at h1 ⊢
  rw [List.flatMap_cons, List.length_append, frm_len, List.length_cons]
  omega
def idxF : Nat → List (List Pr) → List Pr
 | _, [] => []
 | at_, b :: r => (lastK b, grp at_ ++ grp (frm b).length) :: idxF (at_ + (frm b).length) r
def idx (cl : List (List Pr)) : List Pr := idxF 0 cl
theorem idxF_append : ∀ (a b : List (List Pr)) (at_ : Nat), idxF at_ (a ++ b) = idxF at_ a ++ idxF (at_ + (outB a).length) b
 | [], b, at_ => by simp [idxF, outB]
 | x :: a, b, at_ => by
  rw [List.cons_append, idxF, idxF, idxF_append a b, List.cons_append]
  rw [show at_ + (frm x).length + (outB a).length = at_ + (outB (x :: a)).length by
   unfold outB
   rw [List.flatMap_cons, List.length_append]
   omega]
theorem idx_snoc (cl : List (List Pr)) (b : List Pr) : idx (cl ++ [b]) = idx cl ++ [(lastK b, grp (outB cl).length ++ grp (frm b).length)] := by
 unfold idx
 rw [idxF_append, Nat.zero_add]
 rfl
theorem idx_len (cl : List (List Pr)) : (idx cl).length = cl.length := by
 have : ∀ (cl : List (List Pr)) at_, (idxF at_ cl).length = cl.length := fun cl => by
  induction cl with
  | nil => intro _; rfl
  | cons b r ih => intro a; rw [idxF, List.length_cons, ih, List.length_cons]
 exact this cl 0
theorem idx_key (cl : List (List Pr)) : (idx cl).map (·.1) = cl.map lastK := by
 have : ∀ (cl : List (List Pr)) at_, (idxF at_ cl).map (·.1) = cl.map lastK := fun cl => by
  induction cl with
  | nil => intro _; rfl
  | cons b r ih => intro a; rw [idxF, List.map_cons, ih, List.map_cons]
 exact this cl 0
theorem idx_val (cl : List (List Pr)) : ∀ p ∈ idx cl, p.2.length ≤ 20 := by
 have : ∀ (cl : List (List Pr)) at_, ∀ p ∈ idxF at_ cl, p.2.length ≤ 20 := fun cl => by
  induction cl with
  | nil => intro _ p hp; cases hp
  | cons b r ih =>
   intro a p hp
   rw [idxF] at hp
   rcases List.mem_cons.1 hp with rfl | hp
   ·have h1 := grp_len a
    have h2 := grp_len (frm b).length
    simp only [List.length_append]
    omega
   ·exact ih _ p hp
 exact this cl 0
theorem lastK_mem {b : List Pr} (h : b ≠ []) : ∃ p ∈ b, lastK b = p.1 ∧ b.getLast? = some p := by
 rcases List.eq_nil_or_concat b with rfl | ⟨r, z, e⟩
 ·exact absurd rfl h
 ·rw [List.concat_eq_append] at e
  subst e
  exact ⟨z, by simp, lastK_snoc r z, by simp⟩
theorem rise_sub {l m : List Pr} (h : Rise l) (hs : m.Sublist l) : Rise m := ⟨fun p hp => h.ok p (hs.subset hp), h.up.sublist hs, Nat.le_trans hs.length_le h.le⟩
theorem rise_parts {cl : List (List Pr)} {cur l : List Pr} (h : Rise l) (hf : cl.flatten ++ cur = l) : (∀ b ∈ cl, Rise b) ∧ Rise cur := by
 constructor
 ·intro b hb
  have : b.Sublist cl.flatten := List.sublist_flatten_of_mem hb
  exact rise_sub h (hf ▸ this.trans (List.sublist_append_left _ _))
 ·exact rise_sub h (hf ▸ List.sublist_append_right _ _)
theorem rise_idx {cl : List (List Pr)} (h : Rise cl.flatten) (hne : ∀ b ∈ cl, b ≠ []) : Rise (idx cl) := by
 have hlen : cl.length ≤ cl.flatten.length := by
  clear h
  induction cl with
  | nil => simp
  | cons b L ih =>
   have h1 := ih (fun x hx => hne x (by simp [hx]))
   have h2 := List.length_pos_iff.2 (hne b (by simp))
   rw [List.flatten_cons, List.length_append, List.length_cons]
   omega
 refine ⟨fun p hp => ?_, ?_, by rw [idx_len]; exact Nat.le_trans hlen h.le⟩
 ·have hk : p.1 ∈ cl.map lastK := by rw [← idx_key]; exact List.mem_map.2 ⟨p, hp, rfl⟩
  obtain ⟨b, hb, e⟩ := List.mem_map.1 hk
  obtain ⟨q, hq, e2, -⟩ := lastK_mem (hne b hb)
  have := h.ok q (List.mem_flatten.2 ⟨b, hb, hq⟩)
  have hv := idx_val cl p hp
  refine ⟨?_, ?_, by omega⟩
  ·rw [← e, e2]; exact this.1
  ·rw [← e, e2]; exact this.2.1
 ·have : ((idx cl).map (·.1)).Pairwise (· < ·) := by
   rw [idx_key, List.pairwise_map]
   have hu := h.up
   rw [List.pairwise_flatten] at hu
   refine hu.2.imp_of_mem (fun {a b} ha hb hab => ?_)
   obtain ⟨x, hx, e1, -⟩ := lastK_mem (hne a ha)
   obtain ⟨y, hy, e2, -⟩ := lastK_mem (hne b hb)
   rw [e1, e2]
   exact hab x hx y hy
  exact List.pairwise_map.1 this
theorem dat_sum {ps : List Pr} {c : Nat} (h : ∀ p ∈ ps, p.1.length + p.2.length ≤ c) : (dat ps).length ≤ ps.length * (30 + c) := by
 revert h
 refine snocInd (P := fun ps => (∀ p ∈ ps, p.1.length + p.2.length ≤ c) → (dat ps).length ≤ ps.length * (30 + c)) ?_ ?_ ps
 ·intro _; simp [dat, datF]
 ·intro ps p ih h
  have h1 := ih (fun q hq => h q (by simp [hq]))
  have h2 := ent_len (sameOf ps.length (lastK ps) p.1) p
  have h3 := h p (by simp)
  rw [dat_snoc, List.length_append, List.length_append, List.length_singleton, Nat.add_mul]
  omega
theorem idx_small {cl : List (List Pr)} (h : Rise (idx cl)) (hn : cl.length ≤ 201) : (blk (idx cl)).length ≤ 27000 := by
 have h1 : (dat (idx cl)).length ≤ (idx cl).length * (30 + 100) := dat_sum (fun p hp => by
  have := (h.ok p hp).2.1
  have := idx_val cl p hp
  omega)
 have h2 := rst_len (idx cl)
 rw [blk_len, h2]
 rw [idx_len] at h1 h2 ⊢
 omega
def frontK (k : List UInt8) : List UInt8 := k.takeWhile fun c => c != 0
end Go.Proofs.YtdbfaknpfepnfaaGreatDoor


namespace Go.Proofs.YtdbfaknpfepnfaaGreatDoor
open Go.RowKit CodecP

open Go.Lib in
theorem append_str_at {P : Program} {w : World} (base : Nat) (t u ty e : TypeId) (i : TypeInfo) (ht : P.underlying t = some (.slice e)) (hu : P.underlying u = some .string) (hi : P.info? e = some i) (hz : i.zero = some (.int .u8 0))
  (hsize : i.size = 1) (hby : i.bytes = 1) (v : Value) (n : Nat) (xs : List Value) (hown : w.ownsRow base e 1 v n xs) (s : ByteArray)
  (h63 : n + s.size ≤ maxLen) (hbytes : n + s.size ≤ 140737488355328) (hbase : base ≤ w.heap.size) :
  ∃ v' w', (Builtin.append_ #[t, u] ty #[v, .string s]).run P w = .ok v' w' ∧ w'.ownsRow base e 1 v' (n + s.size) (xs ++ strCells s) ∧ w.grownBy w' v.ownBlock ∧
   (v'.ownBlock = v.ownBlock ∨ v'.ownBlock = some w.heap.size) ∧ (v' = .slice none 0 0 ↔ v = .slice none 0 0 ∧ s.size = 0) := by
 have hxl : xs.length = n := by simpa using hown.1
 obtain ⟨v', w', hr, h1, h2, h3⟩ := run_append_own_string (P := P) w base t u ty e i ht hu hi hz hsize hby v n xs hown s h63 hbytes hbase
 refine ⟨v', w', hr, h1, h2, ?_, h3⟩
 rcases hown.2 with ⟨rfl, rfl⟩ | ⟨g, cap, cur, rfl, hbg, hg, hnc, hcm, hcs, htake⟩
 ·have hx : xs = [] := List.eq_nil_of_length_eq_zero hxl
  subst hx
  by_cases hm : s.size = 0
  ·rw [h3.2 ⟨rfl, hm⟩]
   exact .inl rfl
  ·unfold maxLen at h63
   have hr2 := run_append_nil_string (P := P) w t u ty e i (.int .u8 0) ht hu hi hz s (by omega) (by omega) (by rw [hby]; omega)
   rw [hr] at hr2
   injection hr2 with e1 e2
   rw [e1]
   exact .inr rfl
 ·by_cases hroom : n + s.size ≤ cap
  ·have hcs' : cur.size = cap := by simpa using hcs
   have hr2 := run_append_room_string (P := P) w t u ty e i ht hu hi hsize g n cap cur hg s hroom (by omega)
   rw [hr] at hr2
   injection hr2 with e1 e2
   rw [e1]
   exact .inl rfl
  ·have holds : ∀ j u, xs[j]? = some u → w.cell? ((⟨g, 0, none⟩ : Addr).add j) = some u := hown.cells (g := g) rfl
   unfold maxLen at h63
   have hr2 := run_append_grow_string (P := P) w t u ty e i (.int .u8 0) ht hu hi hz ⟨g, 0, none⟩ n cap xs (by rw [hsize]; simpa using hxl) holds s (by omega) (by omega) (by rw [hby]; exact growslice_fits (by omega) (by omega))
   rw [hr] at hr2
   injection hr2 with e1 e2
   rw [e1]
   exact .inr rfl
theorem wpList_append_u8_at {w : World} {ops : Array Oper} {rest : List Oper} {o : Oper} {a : Act} {Q : Exit → Act → World → Prop} (hgd : o.guard = none) (sl x : Operand)
  (ho : o.op = .call { callee := .builtin .append, args := #[sl, x], argTypes := #[94, 9] })
  (base : Nat) (v : Value) (n : Nat) (l : List UInt8) (hs : a.eval sl = v) (hown : w.ownsRow base 5 1 v n (u8s l)) (s : ByteArray) (hx : a.eval x = .string s)
  (hb : n + s.size ≤ 1099511627776) (hbase : base ≤ w.heap.size)
  (h : ∀ v' w', w'.ownsRow base 5 1 v' (n + s.size) (u8s (l ++ bl s)) → w.grownBy w' v.ownBlock → (v'.ownBlock = v.ownBlock ∨ v'.ownBlock = some w.heap.size) → (v' = .slice none 0 0 ↔ v = .slice none 0 0 ∧ s.size = 0) → wpList Tryz.prog ops Q rest (a.put o.dst v') w') : wpList Tryz.prog ops Q (o :: rest) a w := by
 refine wpList_plain hgd fun K hK => ?_
 obtain ⟨i0, hi, hz0, hz1, hz2⟩ := info_parts info_u8b
 obtain ⟨v', w', hr, h2, h3, h4, h5⟩ := append_str_at (P := Tryz.prog) (w := w) base 94 9 o.type 5 i0 Tryz.underlying94 Tryz.underlying9 hi hz0 hz1 hz2 v n (u8s l) hown s (by unfold maxLen; omega) (by omega) hbase
 unfold Oper.wp execOp
 simp only [ho, resolve, invoke, builtin, Sem.run_bind, Sem.run_pure, Result.andThen_ok, List.map_toArray, List.map_cons, List.map_nil, hs, hx, hr]
 exact hK _ _ (h v' w' (by rw [u8s_append]; exact h2) h3 h4 h5)
section
variable {p o : Nat} {cs : Array Value} {t : TypeId} {w : World}
theorem cc_used (h0 : w.cell? ⟨p, o, none⟩ = some (.pointer (some ⟨p, o, none⟩))) :
  Calls Tryz.prog 117 #[.pointer (some ⟨p, o, none⟩)] w fun e w' => e = .returned (.tuple #[]) ∧ w' = w := by
 obtain ⟨j, hj⟩ : ∃ j, Tryz.prog.info? 115 = some j := Option.isSome_iff_exists.1 (by kernel_rfl)
 go_enter Tryz.func117, Tryz.ntmps117
 go_wp2
 rw [Lib.run_neq_ptr_same w _ Tryz.underlying113 hj]
 go_wp2
 go_end0
 exact ⟨rfl, rfl⟩
theorem info_sb : (Tryz.prog.info? 115).map (fun i => i.size) = some 2 := by kernel_rfl
theorem cc_fresh (hp : w.heap[p]? = some (.cells cs t (0, 0))) (h0 : cs[o]? = some (.pointer none)) (hlies : liesAt Tryz.prog Tryz.prog.depth t (cs.size / Tryz.prog.cellsOf t) o 115 1 = true) :
  Calls Tryz.prog 117 #[.pointer (some ⟨p, o, none⟩)] w fun e w' => e = .returned (.tuple #[]) ∧ w' = w.setCell ⟨p, o, none⟩ (.pointer (some ⟨p, o, none⟩)) := by
 obtain ⟨j, hj, hjs⟩ := Option.map_eq_some_iff.1 info_sb
 have hsh : w.shape? p = some (t, cs.size) := by simp [World.shape?, hp]
 have hlt : o < cs.size := by
  rcases Nat.lt_or_ge o cs.size with h | h
  ·exact h
  ·rw [Array.getElem?_eq_none h] at h0; cases h0
 have c0 := cellOf2 hp h0
 have f0 := free_of2 o hp
 have HP := Lib.hid hp
 clear hp h0
 go_enter Tryz.func117, Tryz.ntmps117
 go_wp2
 rw [Lib.run_to_unsafe w ⟨p, o, none⟩ Tryz.underlying113 Tryz.underlying210 hj (by rw [hjs]; decide) hsh hlt]
 simp only [Result.andThen]
 rw [Oper.upon_value]
 go_wp2
 rw [run_callFunc_extern Tryz.func154 (by kernel_rfl) (by kernel_rfl) (by kernel_rfl) (e := Extern.AbiNoEscape.same) (by kernel_rfl)]
 rw [Lib.run_noEscape]
 simp only [Result.andThen]
 rw [Oper.upon_value]
 go_wp2
 rw [Lib.run_from_unsafe w ⟨p, o, none⟩ Tryz.underlying210 Tryz.underlying113 hj hsh hlies]
 simp only [Result.andThen]
 rw [Oper.upon_value]
 go_wp2
 go_end0
 exact ⟨rfl, rfl⟩
def OwnE (w : World) (v : Value) (l : List UInt8) : Prop := w.ownsRow 0 5 1 v l.length (u8s l) ∧ (l = [] → v = .slice none 0 0)
def SbP (p o : Nat) (cs : Array Value) (t : TypeId) (v : Value) (l : List UInt8) (w w' : World) : Prop :=
 ∃ v', w'.heap[p]? = some (.cells ((cs.setIfInBounds o (.pointer (some ⟨p, o, none⟩))).setIfInBounds (o + 1) v') t (0, 0)) ∧ OwnE w' v' l ∧
  (v'.ownBlock = v.ownBlock ∨ ∃ k, v'.ownBlock = some k ∧ w.heap.size ≤ k) ∧ Fr (fun k => k = p ∨ v.ownBlock = some k) w w'
theorem cc_any {a : Value} (hp : w.heap[p]? = some (.cells cs t (0, 0))) (ha : cs[o]? = some a) (hav : a = .pointer none ∨ a = .pointer (some ⟨p, o, none⟩)) (hlies : liesAt Tryz.prog Tryz.prog.depth t (cs.size / Tryz.prog.cellsOf t) o 115 1 = true) :
  Calls Tryz.prog 117 #[.pointer (some ⟨p, o, none⟩)] w fun e w' => e = .returned (.tuple #[]) ∧ w'.heap[p]? = some (.cells (cs.setIfInBounds o (.pointer (some ⟨p, o, none⟩))) t (0, 0)) ∧ Fr (fun k => k = p) w w' := by
 rcases hav with rfl | rfl
 ·refine (cc_fresh hp ha hlies).mono ?_
  rintro e w' ⟨he, rfl⟩
  exact ⟨he, setAt2 (o := o) _ hp, (Fr.refl (fun k => k = p) w).setCell (p := ⟨p, o, none⟩) (.inl rfl) _⟩
 ·refine (cc_used (cellOf2 hp ha)).mono ?_
  rintro e w' ⟨he, rfl⟩
  refine ⟨he, ?_, Fr.refl _ _⟩
  rw [hp]
  congr 2
  apply Array.ext'
  simp only [Array.toList_setIfInBounds]
  apply List.ext_getElem?
  intro i
  rw [List.getElem?_set]
  split
  ·rename_i h
   subst h
   split
   ·rw [Array.getElem?_toList, ha]
   ·rename_i h2
    rw [Array.getElem?_toList, ha]
    have : o < cs.size := by
     rcases Nat.lt_or_ge o cs.size with h | h
     ·exact h
     ·rw [Array.getElem?_eq_none h] at ha; cases ha
    simp at h2
    omega
  ·rfl
theorem sbWrite_any {a v : Value} {l : List UInt8} (s : ByteArray) (hp : w.heap[p]? = some (.cells cs t (0, 0))) (ha : cs[o]? = some a) (hv : cs[o + 1]? = some v) (hav : a = .pointer none ∨ a = .pointer (some ⟨p, o, none⟩))
  (hown : OwnE w v l) (hne : v.ownBlock ≠ some p) (hlies : liesAt Tryz.prog Tryz.prog.depth t (cs.size / Tryz.prog.cellsOf t) o 115 1 = true) (hlen : l.length + s.size ≤ 1099511627776) :
  Calls Tryz.prog 75 #[.pointer (some ⟨p, o, none⟩), .string s] w fun e w' => e = .returned (.tuple #[.int .i64 s.size, .nilIface]) ∧ SbP p o cs t v (l ++ bl s) w w' := by
 have HCC := Lib.hid (cc_any hp ha hav hlies)
 have hlt := lt_of_block hp
 have HOWN := Lib.hid hown.1
 have HNIL := Lib.hid hown.2
 have HV := Lib.hid hv
 clear hp ha hav hown hlies hv
 go_enter Tryz.func75, Tryz.ntmps75
 go_wp2_with fail
 (with_reducible refine HCC.out.mono ?_)
 rintro e w1 ⟨rfl, hp1, hf1⟩
 have hvg : (cs.setIfInBounds o (.pointer (some ⟨p, o, none⟩)))[o + 1]? = some v := by
  rw [Array.getElem?_setIfInBounds_ne (by omega)]
  exact HV.out
 have hown1 : w1.ownsRow 0 5 1 v l.length (u8s l) := owns_of_block HOWN.out (fun k hk => hf1.block k (HOWN.out.lt k hk).2 (fun e => hne (by rw [hk, e])))
 have hsz := hf1.size
 have hlt1 := lt_of_block hp1
 have c1 := cellOf2 hp1 hvg
 have HP1 := Lib.hid hp1
 have HF1 := Lib.hid hf1
 have HO1 := Lib.hid hown1
 have HVG := Lib.hid hvg
 clear hp1 hf1 hvg hown1 HCC HV HOWN
 go_wp2_with (at_builtin; refine wpList_append_u8_at rfl _ _ rfl 0 v _ l rfl HO1.out s rfl (by omega) (Nat.zero_le _) ?_; intro v7 w7 hown7 hgrow7 hat7 hif7; obtain ⟨ao7, cp7, hv7⟩ := own_form hown7; subst hv7; have hp7 := (hgrow7.block p hlt1 (fun e => hne e.symm)).trans HP1.out; have f7 := free_of2 (o + 1) hp7; have c7 := cellOf2 hp7 HVG.out; have HP7 := Lib.hid hp7; have HOW7 := Lib.hid hown7; have HG7 := Lib.hid hgrow7; have HA7 := Lib.hid hat7; have HI7 := Lib.hid hif7; clear hp7 hown7 hgrow7 hat7 hif7)
 refine bodyPost_ret (v := .tuple #[.int .i64 s.size, .nilIface]) (by simp [results, Tryz.results75, go_sem]) rfl ⟨rfl, _, setAt2 (o := o + 1) _ HP7.out, ⟨?_, fun hnil => ?_⟩, ?_, ?_⟩
 ·have h1 := HOW7.out
  rw [show l.length + s.size = (l ++ bl s).length by rw [List.length_append, bl_size]] at h1
  rw [show (Value.slice ao7 (l.length + s.size) cp7) = .slice ao7 (l ++ bl s).length cp7 by rw [List.length_append, bl_size]]
  refine owns_of_block h1 (fun k hk => ?_)
  rw [Below.heap_setCell _ _ _ _ (fun e => ?_)]
  have e2 : k = p := e
  subst e2
  have hk2 : (Value.slice ao7 (l.length + s.size) cp7).ownBlock = some k := by
   rw [show l.length + s.size = (l ++ bl s).length by rw [List.length_append, bl_size]]
   exact hk
  rcases HA7.out with h | h
  ·exact hne (h.symm.trans hk2)
  ·have h2 : some k = some w1.heap.size := hk2.symm.trans h
   injection h2 with h2
   omega
 ·have h1 := List.append_eq_nil_iff.1 hnil
  refine HI7.out.2 ⟨HNIL.out h1.1, ?_⟩
  rw [← bl_size, h1.2]
  rfl
 ·rcases HA7.out with h | h
  ·exact .inl h
  ·exact .inr ⟨_, h, hsz⟩
 ·have h1 : Fr (fun k => k = p ∨ v.ownBlock = some k) w w1 := HF1.out.mono (fun k _ hk => .inl hk)
  exact (h1.trans ((Fr.refl _ w1).grown HG7.out (fun k _ hk => .inr hk)) (fun _ _ h => h)).setCell (p := ⟨p, o + 1, none⟩) (.inl (.inl rfl)) _
theorem sb_lt {b o : Nat} {v : Value} (h : w.cell? ⟨b, o, none⟩ = some v) : b < w.heap.size := by
 rcases Nat.lt_or_ge b w.heap.size with h1 | h1
 ·exact h1
 ·simp [World.cell?, Array.getElem?_eq_none h1] at h
def RowR (w : World) (v : Value) (l : List UInt8) : Prop :=
 (v = .slice none 0 0 ∧ l = []) ∨ ∃ g cap cur fr, v = .slice (some ⟨g, 0, none⟩) l.length cap ∧ w.heap[g]? = some (.cells cur 5 fr) ∧ l ≠ [] ∧ l.length ≤ cap ∧ cap ≤ maxLen ∧ cur.size = cap ∧ cur.toList.take l.length = u8s l
theorem OwnE.row {v : Value} {l : List UInt8} (h : OwnE w v l) : RowR w v l := by
 by_cases h0 : l = []
 ·exact .inl ⟨h.2 h0, h0⟩
 ·rcases h.1.2 with ⟨hv, h1⟩ | ⟨g, cap, cur, hv, hg, hh, h1, h2, h3, h4⟩
  ·exact absurd (List.eq_nil_of_length_eq_zero h1) h0
  ·exact .inr ⟨g, cap, cur, (0, 0), hv, hh, h0, h1, h2, by simpa using h3, by simpa using h4⟩
theorem RowR.keep {w w' : World} {v : Value} {l : List UInt8} (h : RowR w v l) (hb : ∀ k, v.ownBlock = some k → w'.heap[k]? = w.heap[k]?) : RowR w' v l := by
 rcases h with h | ⟨g, cap, cur, fr, rfl, hh, r⟩
 ·exact .inl h
 ·exact .inr ⟨g, cap, cur, fr, rfl, (hb g rfl).trans hh, r⟩
theorem RowR.form {v : Value} {l : List UInt8} (h : RowR w v l) : ∃ A cap, v = .slice A l.length cap := by
 rcases h with ⟨rfl, rfl⟩ | ⟨g, cap, cur, fr, rfl, r⟩
 ·exact ⟨_, _, rfl⟩
 ·exact ⟨_, _, rfl⟩
theorem RowR.lt {v : Value} {l : List UInt8} (h : RowR w v l) : ∀ k, v.ownBlock = some k → k < w.heap.size := by
 rcases h with ⟨rfl, rfl⟩ | ⟨g, cap, cur, fr, rfl, hh, r⟩
 ·intro k hk; cases hk
 ·intro k hk
  injection hk with hk
  subst hk
  rcases Nat.lt_or_ge g w.heap.size with h | h
  ·exact h
  ·rw [Array.getElem?_eq_none h] at hh; cases hh
end
end Go.Proofs.YtdbfaknpfepnfaaGreatDoor


namespace Go.Proofs.YtdbfaknpfepnfaaGreatDoor
open Go.RowKit CodecP

theorem frontK_take : ∀ (k : List UInt8) (o : Nat), o ≤ k.length → (∀ j, j < o → k[j]? ≠ some 0) → (k[o]? = some 0 ∨ o = k.length) → frontK k = k.take o
 | [], o, h, _, _ => by simp [frontK]
 | c :: k, o, h, hne, he => by
  unfold frontK
  rw [List.takeWhile_cons]
  cases o with
  | zero =>
   have hc : c = 0 := by
    rcases he with he | he
    ·simpa using he
    ·simp at he
   subst hc
   simp
  | succ o =>
   have hc : c ≠ 0 := by simpa using hne 0 (by omega)
   have ih := frontK_take k o (by simpa using h) (fun j hj => by simpa using hne (j + 1) (by omega)) (by simpa using he)
   unfold frontK at ih
   rw [if_pos (by simpa using hc), ih, List.take_succ_cons]
theorem front_le (k : List UInt8) : (frontK k).length ≤ k.length := (List.takeWhile_sublist _).length_le
theorem refFront_any (a : ByteArray) (w : World) (ha : a.size ≤ 1099511627776) :
  Calls Tryz.prog 73 #[.string a] w fun e w' => e = .returned (.string (str (frontK (bl a)))) ∧ w = w' := by
 go_enter Tryz.func73, Tryz.ntmps73
 go_wp2_with fail
 go_loopg [3] a.size (fun g iv wr => ∃ i : Nat, i + g = a.size ∧ iv = .int .i64 i ∧ (∀ j (hj : j < a.size), j < i → a[j] ≠ 0) ∧ wr = w)
 case atStart => exact ⟨0, by omega, rfl, fun j _ h => by omega, rfl⟩
 case round =>
  obtain ⟨i, hig, rfl, hpre, rfl⟩ := hrel
  have hpre2 : ∀ j, j < i → (bl a)[j]? ≠ some 0 := fun j hj h => by
   have hj2 : j < a.size := by
    rcases Nat.lt_or_ge j a.size with h1 | h1
    ·exact h1
    ·rw [List.getElem?_eq_none (by rw [bl_size]; exact h1)] at h; cases h
   rw [List.getElem?_eq_getElem (by rw [bl_size]; exact hj2)] at h
   injection h with h
   exact hpre j hj2 hj h
  have HP := Lib.hid hpre
  have HP2 := Lib.hid hpre2
  clear hpre hpre2
  by_cases hlt : i < a.size
  ·have d9 : decide ((i : Int) < (a.size : Int)) = true := by rw [decide_eq_true_eq]; omega
   have hil : (i : Int) < (a.size : Int) := by omega
   have hil2 : (i : Int) ≤ (a.size : Int) := by omega
   have wi : IntKind.i64.wrap ((i : Int) + 1) = (i : Int) + 1 := IntWalk.i64_in _ (by omega)
   obtain ⟨c, hc⟩ : ∃ c, c = a[i] := ⟨_, rfl⟩
   by_cases hz : c = 0
   ·have hcx : ∀ h, ((a[i]'h).toNat : Int) = 0 := fun h => by rw [← hc, hz]; rfl
    have hs : a.extract 0 i = str (frontK (bl a)) := by
     rw [frontK_take (bl a) i (by rw [bl_size]; omega) HP2.out (.inl (by rw [List.getElem?_eq_getElem (by rw [bl_size]; exact hlt)]; exact congrArg some (hc.symm.trans hz))), ← str_bl (a.extract 0 i), ext_bl]
     simp
    have HS := Lib.hid hs
    clear hc hz hs
    go_wp2_with fail
    go_ret
    exact ⟨congrArg (fun x => Ending.returned (.string x)) HS.out, rfl⟩
   ·have hcn : ¬ c.toNat = 0 := fun h => hz (by apply UInt8.toNat_inj.1; rw [h]; rfl)
    have hcx : ∀ h, ((a[i]'h).toNat : Int) = (c.toNat : Int) := fun h => by rw [hc]
    have HZ := Lib.hid (show a[i] ≠ 0 from fun h => hz (hc.trans h))
    clear hc hz
    generalize c.toNat = x at *
    have q1 : (((x : Nat) : Int) == 0) = false := by rw [beq_eq_false_iff_ne]; omega
    go_wp2_with fail
    go_roundg (a.size - (i + 1))
    case measure => omega
    case rel =>
     refine ⟨i + 1, by omega, by go_num, fun j hj h => ?_, rfl⟩
     rcases Nat.lt_or_ge j i with h2 | h2
     ·exact HP.out j hj h2
     ·obtain rfl : j = i := by omega
      exact HZ.out
  ·have d9 : decide ((i : Int) < (a.size : Int)) = false := by rw [decide_eq_false_iff_not]; omega
   have hs : a = str (frontK (bl a)) := by
    rw [frontK_take (bl a) a.size (by rw [bl_size]; exact Nat.le_refl _) (fun j hj => HP2.out j (by omega)) (.inr (by rw [bl_size])), ← bl_size, List.take_length, str_bl]
   have HS := Lib.hid hs
   clear hs
   go_wp2_with fail
   go_ret
   exact ⟨congrArg (fun x => Ending.returned (.string x)) HS.out, rfl⟩
def keyV (ks : List (List UInt8)) : List Value := ks.map fun k => Value.string (str k)
theorem keyV_append (a b : List (List UInt8)) : keyV (a ++ b) = keyV a ++ keyV b := by simp [keyV]
theorem info_strK : (Tryz.prog.info? 9).map (fun i => (i.zero, i.size, i.bytes)) = some (some (.string ⟨#[]⟩), 1, 16) := by kernel_rfl
end Go.Proofs.YtdbfaknpfepnfaaGreatDoor


