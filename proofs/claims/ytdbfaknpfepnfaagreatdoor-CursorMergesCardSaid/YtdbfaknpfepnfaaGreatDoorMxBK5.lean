/-
  Texts of the claim, joined: RefNumW, BlockP, BlockW, Sn, CelW, CurPackW.
-/
import Derived.Test.YtdbfaknpfepnfaaGreatDoorMxBK4
import Derived.Test.YtdbfaknpfepnfaaGreatDoorMxBK1
import Derived.Laws.AppendOwnNone
import Derived.Lib.Bytealg
import Derived.Deep.LoopGhost
import Derived.Maps.AppendAt
import Derived.Deep.RegionHeld3
import Derived.Deep.RegionWith
import Derived.Deep.CutBlock
import Derived.Deep.DeepCutAuto
import Derived.Deep.RegionLaw
import Derived.StillTailTactics
import Derived.Handy
set_option maxRecDepth 100000
set_option maxHeartbeats 40000000
namespace Go.Proofs.YtdbfaknpfepnfaaGreatDoor
open Go.RowKit CodecP

theorem ROwn.other {w0 w w' : World} {p q : Nat} {o o' : Option (List UInt8)} (h : ROwn w0 w q o) (hp : w0.heap.size ≤ p) (k : RdTo w w' p o') (hne : q ≠ p) : ROwn w0 w' q o := by
 obtain ⟨s1, b1, _, _, hf⟩ := k
 obtain ⟨s, b, hr, hs⟩ := h.rd
 exact ⟨⟨s, b, hr.keep hf hne, hs⟩, h.below.trans (hf.below h.below.size (fun k _ hk => by unfold RdS at hk; rw [hk]; exact hp)), h.base⟩
theorem ROwn.keep {w0 w w' : World} {p : Nat} {o : Option (List UInt8)} (h : ROwn w0 w p o) (hb : Below w.heap.size w w') : ROwn w0 w' p o := by
 obtain ⟨s, b, hr, hs⟩ := h.rd
 exact ⟨⟨s, b, hr.keep (Fr.of_below (fun _ => False) hb) (fun h => h), hs⟩, h.below.trans (hb.mono h.below.size), h.base⟩
theorem ROwn.lt {w0 w : World} {p : Nat} {o : Option (List UInt8)} (h : ROwn w0 w p o) : p < w.heap.size := by
 obtain ⟨s, b, hr, _⟩ := h.rd
 exact lt_of_block hr.1
end Go.Proofs.YtdbfaknpfepnfaaGreatDoor


namespace Go.Proofs.YtdbfaknpfepnfaaGreatDoor
open CodecP

theorem snocInd {α : Type} {P : List α → Prop} (h0 : P []) (h1 : ∀ l c, P l → P (l ++ [c])) (l : List α) : P l := by
 rw [← List.reverse_reverse l]
 induction l.reverse with
 | nil => exact h0
 | cons c r ih => rw [List.reverse_cons]; exact h1 _ _ ih
abbrev Pr := List UInt8 × List UInt8
def cmn : List UInt8 → List UInt8 → Nat
 | a :: a1, b :: b1 => if a = b then cmn a1 b1 + 1 else 0
 | [], _ => 0
 | _ :: _, [] => 0
theorem cmn_le : ∀ a b : List UInt8, cmn a b ≤ a.length ∧ cmn a b ≤ b.length
 | [], b => by simp [cmn]
 | a :: a1, [] => by simp [cmn]
 | a :: a1, b :: b1 => by
  have := cmn_le a1 b1
  unfold cmn
  split <;> simp <;> omega
theorem cmn_take : ∀ a b : List UInt8, a.take (cmn a b) = b.take (cmn a b)
 | [], b => by simp [cmn]
 | a :: a1, [] => by simp [cmn]
 | a :: a1, b :: b1 => by
  have := cmn_take a1 b1
  unfold cmn
  split
  ·rename_i h; rw [List.take_succ_cons, List.take_succ_cons, this, h]
  ·simp
theorem cmn_is : ∀ (a b : List UInt8) (n : Nat), n ≤ a.length → n ≤ b.length → (∀ j, j < n → a[j]? = b[j]?) → (n = a.length ∨ n = b.length ∨ a[n]? ≠ b[n]?) → cmn a b = n
 | [], b, n, h1, _, _, _ => by simp at h1; subst h1; simp [cmn]
 | a :: a1, [], n, _, h2, _, _ => by simp at h2; subst h2; simp [cmn]
 | a :: a1, b :: b1, 0, _, _, _, h4 => by
  unfold cmn
  rw [if_neg]
  intro h
  rcases h4 with h4 | h4 | h4
  ·simp at h4
  ·simp at h4
  ·simp [h] at h4
 | a :: a1, b :: b1, n + 1, h1, h2, h3, h4 => by
  have h0 := h3 0 (by omega)
  simp at h0
  unfold cmn
  rw [if_pos h0, cmn_is a1 b1 n (by simpa using h1) (by simpa using h2) (fun j hj => by have := h3 (j + 1) (by omega); simpa using this) (by
   rcases h4 with h4 | h4 | h4
   ·left; simpa using h4
   ·right; left; simpa using h4
   ·right; right; simpa using h4)]
def ent (same : Nat) (p : Pr) : List UInt8 := grp same ++ grp (p.1.length - same) ++ grp p.2.length ++ p.1.drop same ++ p.2
def sameOf (i : Nat) (last k : List UInt8) : Nat := if i % 8 = 0 then 0 else cmn last k
theorem sameOf_le (i : Nat) (last k : List UInt8) : sameOf i last k ≤ last.length ∧ sameOf i last k ≤ k.length := by
 unfold sameOf
 split
 ·omega
 ·exact cmn_le last k
def datF : Nat → List UInt8 → List Pr → List UInt8
 | _, _, [] => []
 | i, last, p :: r => ent (sameOf i last p.1) p ++ datF (i + 1) p.1 r
def rstF : Nat → Nat → List UInt8 → List Pr → List Nat
 | _, _, _, [] => []
 | i, at_, last, p :: r => (if i % 8 = 0 then [at_] else []) ++ rstF (i + 1) (at_ + (ent (sameOf i last p.1) p).length) p.1 r
def dat (ps : List Pr) : List UInt8 := datF 0 [] ps
def rst (ps : List Pr) : List Nat := rstF 0 0 [] ps
def lastF (last : List UInt8) (ps : List Pr) : List UInt8 := (ps.getLast?.map (fun p => p.1)).getD last
abbrev lastK (ps : List Pr) : List UInt8 := lastF [] ps
theorem lastF_cons (last : List UInt8) (p : Pr) (r : List Pr) : lastF last (p :: r) = lastF p.1 r := by
 unfold lastF
 cases r with
 | nil => rfl
 | cons q r => rw [List.getLast?_cons_cons]; cases h : (q :: r).getLast? with
  | none => simp at h
  | some x => rfl
theorem lastK_snoc (ps : List Pr) (p : Pr) : lastK (ps ++ [p]) = p.1 := by simp [lastF]
theorem datF_append : ∀ (a b : List Pr) (i : Nat) (last : List UInt8), datF i last (a ++ b) = datF i last a ++ datF (i + a.length) (lastF last a) b
 | [], b, i, last => by simp [datF, lastF]
 | p :: a, b, i, last => by
  rw [List.cons_append, datF, datF, datF_append a b, lastF_cons, List.length_cons, List.append_assoc]
  congr 3
  omega
theorem rstF_append : ∀ (a b : List Pr) (i at_ : Nat) (last : List UInt8), rstF i at_ last (a ++ b) = rstF i at_ last a ++ rstF (i + a.length) (at_ + (datF i last a).length) (lastF last a) b
 | [], b, i, at_, last => by simp [datF, rstF, lastF]
 | p :: a, b, i, at_, last => by
  rw [List.cons_append, rstF, rstF, rstF_append a b, lastF_cons, List.length_cons, List.append_assoc, datF, List.length_append]
  congr 3 <;> omega
theorem dat_snoc (ps : List Pr) (p : Pr) : dat (ps ++ [p]) = dat ps ++ ent (sameOf ps.length (lastK ps) p.1) p := by
 unfold dat
 rw [datF_append]
 simp [datF]
theorem rst_snoc (ps : List Pr) (p : Pr) : rst (ps ++ [p]) = rst ps ++ (if ps.length % 8 = 0 then [(dat ps).length] else []) := by
 unfold rst dat
 rw [rstF_append]
 simp [rstF]
def blk (ps : List Pr) : List UInt8 := dat ps ++ (rst ps).flatMap (fixed 4) ++ fixed 4 (rst ps).length
def Okp (p : Pr) : Prop := 1 ≤ p.1.length ∧ p.1.length ≤ 80 ∧ p.2.length ≤ 16000
instance (p : Pr) : Decidable (Okp p) := by unfold Okp; infer_instance
structure Rise (ps : List Pr) : Prop where
 ok : ∀ p ∈ ps, Okp p
 up : ps.Pairwise (fun a b => a.1 < b.1)
 le : ps.length ≤ 4096
theorem grp_len (n : Nat) : (grp n).length ≤ 10 := groups_length 9 n
theorem ent_len (same : Nat) (p : Pr) : (ent same p).length ≤ 30 + p.1.length + p.2.length := by
 unfold ent
 have h1 := grp_len same
 have h2 := grp_len (p.1.length - same)
 have h3 := grp_len p.2.length
 simp only [List.length_append, List.length_drop]
 omega
theorem dat_len {ps : List Pr} (h : ∀ p ∈ ps, Okp p) : (dat ps).length ≤ ps.length * 16110 := by
 revert h
 refine snocInd (P := fun ps => (∀ p ∈ ps, Okp p) → (dat ps).length ≤ ps.length * 16110) ?_ ?_ ps
 ·intro _; simp [dat, datF]
 ·intro ps p ih h
  have h1 := ih (fun q hq => h q (by simp [hq]))
  have h2 := ent_len (sameOf ps.length (lastK ps) p.1) p
  obtain ⟨-, h3, h4⟩ := h p (by simp)
  rw [dat_snoc, List.length_append, List.length_append, List.length_singleton]
  omega
theorem rst_len (ps : List Pr) : (rst ps).length = (ps.length + 7) / 8 := by
 refine snocInd (P := fun ps => (rst ps).length = (ps.length + 7) / 8) ?_ ?_ ps
 ·rfl
 ·intro ps p ih
  rw [rst_snoc, List.length_append, ih, List.length_append, List.length_singleton]
  split
  ·simp; omega
  ·simp; omega
theorem blk_len (ps : List Pr) : (blk ps).length = (dat ps).length + 4 * (rst ps).length + 4 := by
 unfold blk
 have : ∀ l : List Nat, (l.flatMap (fixed 4)).length = 4 * l.length := fun l => by
  induction l with
  | nil => rfl
  | cons a l ih => rw [List.flatMap_cons, List.length_append, ih, fixed_length, List.length_cons]; omega
 rw [List.length_append, List.length_append, this, fixed_length]
theorem Rise.snoc {ps : List Pr} {p : Pr} (h : Rise ps) (hp : Okp p) (hl : lastK ps < p.1) (hn : ps.length < 4096) : Rise (ps ++ [p]) := by
 refine ⟨fun q hq => ?_, ?_, by simp; omega⟩
 ·rcases List.mem_append.1 hq with hq | hq
  ·exact h.ok q hq
  ·simp at hq; subst hq; exact hp
 ·rw [List.pairwise_append]
  refine ⟨h.up, by simp, fun a ha b hb => ?_⟩
  simp at hb
  subst hb
  rcases List.eq_nil_or_concat ps with rfl | ⟨r, z, e⟩
  ·simp at ha
  ·rw [List.concat_eq_append] at e
   subst e
   rw [lastK_snoc] at hl
   rcases List.mem_append.1 ha with ha | ha
   ·exact List.lt_trans ((List.pairwise_append.1 h.up).2.2 a ha z (by simp)) hl
   ·simp at ha; subst ha; exact hl
theorem Rise.nil : Rise [] := ⟨by simp, List.Pairwise.nil, by simp⟩
theorem Rise.init {ps : List Pr} {p : Pr} (h : Rise (ps ++ [p])) : Rise ps ∧ Okp p ∧ lastK ps < p.1 ∧ ps.length < 4096 := by
 have hl := h.le
 rw [List.length_append, List.length_singleton] at hl
 have hu := List.pairwise_append.1 h.up
 refine ⟨⟨fun q hq => h.ok q (by simp [hq]), hu.1, by omega⟩, h.ok p (by simp), ?_, by omega⟩
 rcases List.eq_nil_or_concat ps with rfl | ⟨r, z, e⟩
 ·have := (h.ok p (by simp)).1
  show [] < p.1
  cases hp : p.1 with
  | nil => rw [hp] at this; simp at this
  | cons a l => exact List.nil_lt_cons a l
 ·rw [List.concat_eq_append] at e
  subst e
  rw [lastK_snoc]
  exact hu.2.2 z (by simp) p (by simp)
end Go.Proofs.YtdbfaknpfepnfaaGreatDoor


namespace Go.Proofs.YtdbfaknpfepnfaaGreatDoor
open Go.RowKit CodecP

theorem bl_size (k : ByteArray) : (bl k).length = k.size := by simp [bl]
theorem ne_facts {k : ByteArray} (h : 1 ≤ k.size) : k.toList.isEmpty = false ∧ (!k.toList.isEmpty) = true := by
 have : k.toList.isEmpty = false := by
  rw [ByteArray.toList_eq]
  have e1 := bl_size k
  cases h2 : k.data.toList with
  | nil => simp [bl, h2] at e1; omega
  | cons a l => rfl
 exact ⟨this, by rw [this]; rfl⟩
theorem em_facts {k : ByteArray} (h : k.size = 0) : k.toList.isEmpty = true ∧ (!k.toList.isEmpty) = false ∧ k.toList = [] := by
 have : k.toList = [] := by
  rw [ByteArray.toList_eq]
  exact List.length_eq_zero_iff.1 ((bl_size k).trans h)
 rw [this]; exact ⟨rfl, rfl, rfl⟩
theorem right_yes (k v : ByteArray) (w : World) (h : Okp (bl k, bl v)) :
  Calls Tryz.prog 109 #[.string k, .string v] w fun e w' => e = .returned (.bool true) ∧ w = w' := by
 obtain ⟨h1, h2, h3⟩ := h
 simp only [bl_size] at h1 h2 h3
 obtain ⟨hne, hne2⟩ := ne_facts h1
 have d3 : decide ((v.size : Int) ≤ 16000) = true := by rw [decide_eq_true_eq]; omega
 go_enter Tryz.func109, Tryz.ntmps109
 go_wp2_with fail
 go_ret
 exact ⟨rfl, rfl⟩
theorem right_no (k v : ByteArray) (w : World) (hk : k.size ≤ maxLen) (hv : v.size ≤ maxLen) (h : ¬ Okp (bl k, bl v)) :
  Calls Tryz.prog 109 #[.string k, .string v] w fun e w' => e = .returned (.bool false) ∧ w = w' := by
 unfold Okp at h
 simp only [bl_size] at h
 unfold maxLen at hk hv
 by_cases h1 : 1 ≤ k.size
 ·obtain ⟨hne, hne2⟩ := ne_facts h1
  by_cases h2 : k.size ≤ 80
  ·have h3 : ¬ v.size ≤ 16000 := fun h3 => h ⟨h1, h2, h3⟩
   have d3 : decide ((v.size : Int) ≤ 16000) = false := by rw [decide_eq_false_iff_not]; omega
   clear h h3
   go_enter Tryz.func109, Tryz.ntmps109
   go_wp2_with fail
   go_ret
   exact ⟨rfl, rfl⟩
  ·have d3 : decide ((k.size : Int) ≤ 80) = false := by rw [decide_eq_false_iff_not]; omega
   clear h h2
   go_enter Tryz.func109, Tryz.ntmps109
   go_wp2_with fail
   go_ret
   exact ⟨rfl, rfl⟩
 ·obtain ⟨e1, e2, e3⟩ := em_facts (k := k) (by omega)
  clear h h1
  go_enter Tryz.func109, Tryz.ntmps109
  go_wp2_with fail
  go_ret
  exact ⟨rfl, rfl⟩
theorem bl_at (s : ByteArray) (j : Nat) (h : j < s.size) : (bl s)[j]? = some s[j] := by
 unfold bl
 rw [List.getElem?_eq_getElem (by simpa using h)]
 rfl
theorem common_any (a b : ByteArray) (w : World) (ha : a.size ≤ maxLen) (hb : b.size ≤ maxLen) :
  Calls Tryz.prog 110 #[.string a, .string b] w fun e w' => e = .returned (.int .i64 (cmn (bl a) (bl b))) ∧ Below w.heap.size w w' := by
 unfold maxLen at ha hb
 have HR := Lib.hid (Below.refl w.heap.size w)
 obtain ⟨n, hn⟩ : ∃ n, n = cmn (bl a) (bl b) := ⟨_, rfl⟩
 rw [← hn]
 have Hhn := Lib.hid hn
 clear hn
 go_enter Tryz.func110, Tryz.ntmps110
 go_wp2_with fail
 go_loopw [5] (fun nv wr => ∃ j : Nat, j ≤ a.size ∧ j ≤ b.size ∧ nv = .int .i64 j ∧ (∀ i, i < j → (bl a)[i]? = (bl b)[i]?) ∧ Below w.heap.size w wr) (fun nv _ => a.size - (intOf nv).toNat)
 case atStart => exact ⟨0, by omega, by omega, rfl, fun i hi => by omega, HR.out⟩
 case round =>
  obtain ⟨j, hja, hjb, rfl, hall, hbel⟩ := hrel
  have HALL := Lib.hid hall
  have HB := Lib.hid hbel
  clear hall hbel
  have fin : (j = a.size ∨ j = b.size ∨ (bl a)[j]? ≠ (bl b)[j]?) → n = j := fun h => by
   rw [Hhn.out]
   refine cmn_is _ _ j (by rw [bl_size]; exact hja) (by rw [bl_size]; exact hjb) HALL.out ?_
   rw [bl_size, bl_size]; exact h
  have HFIN := Lib.hid fin
  clear fin
  by_cases h1 : j < a.size
  ·have d1 : decide ((j : Int) < (a.size : Int)) = true := by rw [decide_eq_true_eq]; omega
   by_cases h2 : j < b.size
   ·have d2 : decide ((j : Int) < (b.size : Int)) = true := by rw [decide_eq_true_eq]; omega
    have g1 : (j : Int) < (a.size : Int) := by omega
    have g2 : (j : Int) < (b.size : Int) := by omega
    by_cases h3 : a[j] = b[j]
    ·have q : ((a[j].toNat : Int) == (b[j].toNat : Int)) = true := by rw [h3]; simp
     have HX := Lib.hid (show (bl a)[j]? = (bl b)[j]? by rw [bl_at a j h1, bl_at b j h2, h3])
     clear h3
     go_wp2_with fail
     go_quiet (fail)
     go_wp2_with fail
     go_roundw
     case rel => exact ⟨j + 1, by omega, by omega, by go_num, fun i hi => by
      rcases Nat.lt_or_eq_of_le (Nat.le_of_lt_succ hi) with h | h
      ·exact HALL.out i h
      ·subst h; exact HX.out, HB.out.drewN _⟩
     case measure => simp [intOf]; omega
    ·have q : ((a[j].toNat : Int) == (b[j].toNat : Int)) = false := by
      rw [beq_eq_false_iff_ne]; intro e
      exact h3 (UInt8.toNat_inj.1 (by omega))
     have hf := HFIN.out (.inr (.inr (by rw [bl_at a j h1, bl_at b j h2]; intro e; injection e with e; exact h3 e)))
     subst hf
     clear h3
     go_wp2_with fail
     go_quiet (fail)
     go_wp2_with fail
     go_ret
     exact ⟨rfl, HB.out.drewN _⟩
   ·have d2 : decide ((j : Int) < (b.size : Int)) = false := by rw [decide_eq_false_iff_not]; omega
    have hf := HFIN.out (.inr (.inl (by omega)))
    subst hf
    go_wp2_with fail
    go_quiet (fail)
    go_wp2_with fail
    go_ret
    exact ⟨rfl, HB.out.drewN _⟩
  ·have d1 : decide ((j : Int) < (a.size : Int)) = false := by rw [decide_eq_false_iff_not]; omega
   have hf := HFIN.out (.inl (by omega))
   subst hf
   go_wp2_with fail
   go_quiet (fail)
   go_wp2_with fail
   go_ret
   exact ⟨rfl, HB.out.drewN _⟩
end Go.Proofs.YtdbfaknpfepnfaaGreatDoor


namespace Go.Proofs.YtdbfaknpfepnfaaGreatDoor
open Go.RowKit

structure Sn (w : World) (B size : Nat) (A : Option Addr) (n c : Nat) (xs : List Value) : Prop where
 len : xs.length = n * size
 nil : A = none → c = 0
 le : n ≤ c
 max : c ≤ maxLen
 at_ : 0 < n → ∃ g o, A = some ⟨g, o, none⟩ ∧ g < B ∧ ∀ j u, xs[j]? = some u → w.cell? ⟨g, o + j, none⟩ = some u
section
variable {w w' : World} {B size n c : Nat} {A : Option Addr} {xs : List Value}
theorem Sn.keep (h : Sn w B size A n c xs) (hk : ∀ p : Addr, p.block < B → w'.cell? p = w.cell? p) : Sn w' B size A n c xs :=
 ⟨h.len, h.nil, h.le, h.max, fun hn => by
  obtain ⟨g, o, e, hb, hc⟩ := h.at_ hn
  exact ⟨g, o, e, hb, fun j u hu => (hk ⟨g, o + j, none⟩ hb).trans (hc j u hu)⟩⟩
theorem Sn.below (h : Sn w B size A n c xs) (hb : Below B w w') : Sn w' B size A n c xs := h.keep fun _ hp => hb.cell hp
theorem Sn.more {B' : Nat} (h : Sn w B size A n c xs) (hB : B ≤ B') : Sn w B' size A n c xs :=
 ⟨h.len, h.nil, h.le, h.max, fun hn => by
  obtain ⟨g, o, e, hb, hc⟩ := h.at_ hn
  exact ⟨g, o, e, by omega, hc⟩⟩
theorem Sn.front (h : Sn w B size A n c xs) {k : Nat} (hk : k ≤ n) : Sn w B size A k c (xs.take (k * size)) := by
 refine ⟨?_, h.nil, Nat.le_trans hk h.le, h.max, fun h0 => ?_⟩
 ·rw [List.length_take, h.len]; exact Nat.min_eq_left (Nat.mul_le_mul_right _ hk)
 ·obtain ⟨g, o, e, hb, hc⟩ := h.at_ (by omega)
  refine ⟨g, o, e, hb, fun j u hu => hc j u ?_⟩
  rw [List.getElem?_take] at hu
  split at hu
  ·exact hu
  ·cases hu
theorem Sn.cut (h : Sn w B size A n c xs) {k : Nat} (hk : k ≤ n) : Sn w B size (if c = k then A else A.map (·.add (k * size))) (n - k) (c - k) (xs.drop (k * size)) := by
 refine ⟨by rw [List.length_drop, h.len, Nat.sub_mul], fun hA => ?_, by have := h.le; omega, by have := h.max; omega, fun hn => ?_⟩
 ·split at hA
  ·omega
  ·have := h.nil (by cases A <;> simp_all); omega
 ·obtain ⟨g, o, rfl, hb, hc⟩ := h.at_ (by omega)
  have hle := h.le
  rw [if_neg (by omega)]
  refine ⟨g, o + k * size, ?_, hb, fun j u hu => ?_⟩
  ·simp [Go.WideShapes.add_plain]
  ·rw [List.getElem?_drop] at hu
   rw [Nat.add_assoc]; exact hc _ u hu
theorem Sn.of_own {base : Nat} {e : TypeId} (h : w.ownsRow base e size (.slice A n c) n xs) : Sn w w.heap.size size A n c xs := by
 obtain ⟨hl, h2⟩ := h
 rcases h2 with ⟨hv, h0⟩ | ⟨g, cap, cur, hv, hg, hh, hcap, hmax, hcs, htk⟩
 ·injection hv with h1 _ h3
  subst h1 h3 h0
  exact ⟨hl, fun _ => rfl, Nat.le_refl _, Nat.zero_le _, fun h => absurd h (by omega)⟩
 ·injection hv with h1 _ h3
  subst h1 h3
  refine ⟨hl, (fun h => by cases h), hcap, hmax, fun _ => ⟨g, 0, rfl, lt_of_block hh, fun j u hu => ?_⟩⟩
  have hlt := (List.getElem?_eq_some_iff.1 hu).1
  have : cur[j]? = some u := by
   have e : (cur.toList.take (n * size))[j]? = cur.toList[j]? := by rw [List.getElem?_take, if_pos (by omega)]
   rw [← Array.getElem?_toList, ← e, htk, hu]
  simp [World.cell?, hh, this]
end
theorem own_pos {w : World} {B : Nat} {e : TypeId} {size n : Nat} {v : Value} {xs : List Value} (h : w.ownsRow B e size v n xs) (hn : 0 < n) :
  ∃ g cap, v = .slice (some ⟨g, 0, none⟩) n cap ∧ B ≤ g ∧ g < w.heap.size ∧ n ≤ cap ∧ cap ≤ maxLen ∧ ∀ j x, xs[j]? = some x → w.cell? ⟨g, j, none⟩ = some x := by
 obtain ⟨hl, h2⟩ := h
 rcases h2 with ⟨rfl, rfl⟩ | ⟨g, cap, cur, rfl, hg, hh, hcap, hmax, hcs, htk⟩
 ·omega
 ·refine ⟨g, cap, rfl, hg, lt_of_block hh, hcap, hmax, fun j x hx => ?_⟩
  have hlt := (List.getElem?_eq_some_iff.1 hx).1
  have : cur[j]? = some x := by
   have e : (cur.toList.take (n * size))[j]? = cur.toList[j]? := by rw [List.getElem?_take, if_pos (by omega)]
   rw [← Array.getElem?_toList, ← e, htk, hx]
  simp [World.cell?, hh, this]
end Go.Proofs.YtdbfaknpfepnfaaGreatDoor


namespace Go.Proofs.YtdbfaknpfepnfaaGreatDoor.Cur
open Go.RowKit CodecP

theorem cellOf2 {w : World} {b o : Nat} {cs : Array Value} {t : TypeId} {f : Nat × Nat} {v : Value} (h : w.heap[b]? = some (.cells cs t f)) (hv : cs[o]? = some v) : w.cell? ⟨b, o, none⟩ = some v := by simp [World.cell?, h, hv]
theorem setAt2 {w : World} {p o : Nat} {cs : Array Value} {t : TypeId} (u : Value) (h : w.heap[p]? = some (.cells cs t (0, 0))) : (w.setCell ⟨p, o, none⟩ u).heap[p]? = some (.cells (cs.setIfInBounds o u) t (0, 0)) := by
 have hlt := lt_of_block h
 have h' : w.heap[p] = .cells cs t (0, 0) := by simpa [Array.getElem?_eq_getElem hlt] using h
 show (w.heap.modify p _)[p]? = _
 rw [Array.getElem?_eq_getElem (by simpa using hlt), Array.getElem_modify_self, h']; rfl
theorem free_of2 {w : World} {b : Nat} {cs : Array Value} {t : TypeId} (o : Nat) (h : w.heap[b]? = some (.cells cs t (0, 0))) : w.frozen? ⟨b, o, none⟩ = false := by simp [World.frozen?, h]
theorem takeH {P : Program} {md : Region.Mode} {ops : Array Oper} {Q : Exit → Act → World → Prop} {S : World → Prop} {i : Nat} {d : Option Tmp} {oi : Oper} {v : Value} {fuel : Nat} {listed : Array Bool} {a : Act} {w : World} (hi : ops[i]? = some oi) (hd : oi.dst = d)
  (hs : Region.noSelect ops = true) (hf : Region.free md ops listed i = true) (hr : (Region.ready md ops listed).contains i = true)
  (hQ : ∀ c a w, Q (.panic c) (a.put d v) w → Q (.panic c) a w) (hy : YieldsIf P ops S oi v a) (hS : S w)
  (h : wpAnyH P md ops Q S fuel (listed.setIfInBounds i true) (a.put d v) w) : wpAnyH P md ops Q S (fuel + 1) listed a w := by
 subst hd
 exact wpAnyH_take hi hs hf hr hQ hy hS h
theorem undrew {B : Nat} {w w1 : World} (h : Below B w.drew w1) : Below B w w1 := ⟨h.os, h.tape, h.output, h.size, h.block⟩
theorem own_base {w : World} {b b' e size n : Nat} {v : Value} {xs : List Value} (h : w.ownsRow b e size v n xs) (hb : b' ≤ b) : w.ownsRow b' e size v n xs := by
 obtain ⟨h1, h2⟩ := h
 refine ⟨h1, ?_⟩
 rcases h2 with h2 | ⟨g, cap, cur, hv, hg, r⟩
 ·exact .inl h2
 ·exact .inr ⟨g, cap, cur, hv, Nat.le_trans hb hg, r⟩
theorem cmpB : ∀ a b : List UInt8, (Lib.compareBytes a b < 0 ↔ a < b) ∧ (Lib.compareBytes a b = 0 ↔ a = b)
 | [], [] => by simp [Lib.compareBytes]
 | [], b :: bs => by simp [Lib.compareBytes]
 | a :: s, [] => by simp [Lib.compareBytes]
 | a :: s, b :: bs => by
  obtain ⟨h1, h2⟩ := cmpB s bs
  unfold Lib.compareBytes
  rw [List.cons_lt_cons_iff]
  by_cases hab : a < b
  ·have hne : a ≠ b := fun e => by subst e; exact absurd hab (by simp)
   simp [hab, hne]
  ·by_cases hba : b < a
   ·have hne : a ≠ b := fun e => by subst e; exact hab hba
    simp [hab, hba, hne]
   ·have e : a = b := by
     apply UInt8.toNat_inj.1
     rw [UInt8.lt_iff_toNat_lt] at hab hba
     omega
    subst e
    simp [h1, h2]
def flatR (ps : List Pr) : List Value := ps.flatMap fun p => [Value.string (str p.1), Value.string (str p.2)]
theorem flatR_append (a b : List Pr) : flatR (a ++ b) = flatR a ++ flatR b := by simp [flatR]
theorem flatR_length (ps : List Pr) : (flatR ps).length = ps.length * 2 := by
 induction ps with
 | nil => rfl
 | cons p ps ih => simp [flatR] at ih ⊢; omega
theorem flatR_get (ps : List Pr) (i : Nat) (h : i < ps.length) : (flatR ps)[i * 2]? = some (.string (str ps[i].1)) ∧ (flatR ps)[i * 2 + 1]? = some (.string (str ps[i].2)) := by
 have h1 : flatR ps = flatR (ps.take i) ++ flatR (ps.drop i) := by rw [← flatR_append, List.take_append_drop]
 have h2 : (flatR (ps.take i)).length = i * 2 := by rw [flatR_length, List.length_take]; omega
 rw [List.drop_eq_getElem_cons h] at h1
 rw [h1]
 constructor
 ·rw [List.getElem?_append_right (by omega), h2, Nat.sub_self]; rfl
 ·rw [List.getElem?_append_right (by omega), h2, show i * 2 + 1 - i * 2 = 1 by omega]; rfl
end Go.Proofs.YtdbfaknpfepnfaaGreatDoor.Cur


namespace Go.Proofs.YtdbfaknpfepnfaaGreatDoor
open Go.RowKit CodecP Cur

theorem idxByteS_any (a : ByteArray) (c : Int) (w : World) :
  Calls Tryz.prog 170 #[.string a, .int .u8 c] w fun e w' => e = .returned (.int .i64 (Lib.indexByte (bl a) c.toNat.toUInt8)) ∧ w = w' := by
 go_enter Tryz.func170, Tryz.ntmps170
 go_wp2
 rw [run_callFunc_extern Tryz.func175 (by kernel_rfl) (by kernel_rfl) (by kernel_rfl) (e := Extern.BytealgIndexByte.indexByte) (by kernel_rfl), Lib.run_indexByteString]
 simp only [Result.andThen]
 rw [Oper.upon_value]
 go_wp2
 go_ret
 exact ⟨rfl, rfl⟩
theorem indexByte_mem (l : List UInt8) (c : UInt8) : (0 ≤ Lib.indexByte l c ↔ c ∈ l) := by
 induction l with
 | nil => simp [Lib.indexByte]
 | cons b l ih =>
  have hge := Lib.indexByte_ge l c
  unfold Lib.indexByte
  by_cases hb : b = c
  ·simp [hb]
  ·have h1 : (b == c) = false := by simpa using hb
   rw [h1]
   simp only [Bool.false_eq_true, if_false]
   by_cases h2 : Lib.indexByte l c = -1
   ·rw [h2]
    have : ¬ c ∈ l := fun h => by have := ih.2 h; omega
    simp [this]
    exact fun h => hb h.symm
   ·have h3 : (Lib.indexByte l c == -1) = false := by simpa using h2
    rw [h3]
    simp only [Bool.false_eq_true, if_false]
    have : c ∈ l := ih.1 (by omega)
    simp [this]
    omega
theorem slIndex0_any (a : ByteArray) (w : World) :
  Calls Tryz.prog 150 #[.string a, .string ⟨#[0]⟩] w fun e w' => e = .returned (.int .i64 (Lib.indexByte (bl a) 0)) ∧ w = w' := by
 have HI := Lib.hid (idxByteS_any a 0 w)
 by_cases h0 : bl a = [0]
 ·have e0 : (([0] : List UInt8) == a.toList) = true := by rw [ByteArray.toList_eq, beq_iff_eq]; exact h0.symm
  have H0 := Lib.hid h0
  clear h0
  go_enter Tryz.func150, Tryz.ntmps150
  go_wp2_with fail
  go_ret
  exact ⟨by rw [H0.out]; rfl, rfl⟩
 ·have e0 : (([0] : List UInt8) == a.toList) = false := by
   rw [ByteArray.toList_eq, beq_eq_false_iff_ne]
   exact fun h => h0 h.symm
  clear h0
  go_enter Tryz.func150, Tryz.ntmps150
  go_wp2_with fail
  rw [show ((((⟨#[0]⟩ : ByteArray)[0]).toNat : Nat) : Int) = 0 from rfl]
  (with_reducible refine HI.out.mono ?_)
  rintro e w1 ⟨rfl, rfl⟩
  go_wp2_with fail
  go_ret
  exact ⟨rfl, rfl⟩
theorem contains0_any (a : ByteArray) (w : World) :
  Calls Tryz.prog 59 #[.string a, .string ⟨#[0]⟩] w fun e w' => e = .returned (.bool (decide ((0 : UInt8) ∈ bl a))) ∧ w = w' := by
 have HI := Lib.hid (slIndex0_any a)
 have hix : ∀ W, Calls Tryz.prog 105 #[.string a, .string ⟨#[0]⟩] W fun e w' => e = .returned (.int .i64 (Lib.indexByte (bl a) 0)) ∧ W = w' := by
  intro W
  go_enter Tryz.func105, Tryz.ntmps105
  go_wp2_with fail
  (with_reducible refine (HI.out _).mono ?_)
  rintro e w1 ⟨rfl, rfl⟩
  go_wp2_with fail
  go_ret
  exact ⟨rfl, rfl⟩
 have HX := Lib.hid hix
 have hm := indexByte_mem (bl a) 0
 have hd : decide (0 ≤ Lib.indexByte (bl a) 0) = decide ((0 : UInt8) ∈ bl a) := by congr 1; exact propext hm
 have HD := Lib.hid hd
 clear hix hm hd
 generalize Lib.indexByte (bl a) 0 = x at *
 go_enter Tryz.func59, Tryz.ntmps59
 go_wp2_with fail
 (with_reducible refine (HX.out _).mono ?_)
 rintro e w1 ⟨rfl, rfl⟩
 go_wp2_with fail
 go_ret
 exact ⟨by rw [← HD.out]; rfl, rfl⟩
def OkK (k : List UInt8) (n : Int) : Prop := 1 ≤ k.length ∧ k.length ≤ 64 ∧ (0 : UInt8) ∉ k ∧ 0 ≤ n ∧ n ≤ 4611686018427387904
instance (k : List UInt8) (n : Int) : Decidable (OkK k n) := by unfold OkK; infer_instance
def inn (k : List UInt8) (n : Int) : List UInt8 := k ++ [0] ++ fixed 8 (4611686018427387904 - n).toNat
theorem pack_any (k : ByteArray) (n : Int) (w : World) :
  Calls Tryz.prog 11 #[.string k, .int .i64 n] w fun e w' => Below w.heap.size w w' ∧
   ((OkK (bl k) n ∧ e = .returned (.tuple #[.string (str (inn (bl k) n)), .bool true])) ∨ (¬ OkK (bl k) n ∧ e = .returned (.tuple #[.string ⟨#[]⟩, .bool false]))) := by
 have HC := Lib.hid (contains0_any k)
 have HR := Lib.hid (Below.refl w.heap.size w)
 by_cases hok : OkK (bl k) n
 ·have HOK := Lib.hid hok
  obtain ⟨h1, h2, h3, h4, h5⟩ := hok
  rw [bl_size] at h1 h2
  obtain ⟨g1, g2⟩ := ne_facts h1
  have d1 : decide ((64 : Int) < (k.size : Int)) = false := by rw [decide_eq_false_iff_not]; omega
  have d2 : decide ((0 : UInt8) ∈ bl k) = false := by rw [decide_eq_false_iff_not]; exact h3
  have d3 : decide (n < 0) = false := by rw [decide_eq_false_iff_not]; omega
  have d4 : decide (4611686018427387904 < n) = false := by rw [decide_eq_false_iff_not]; omega
  have w4 : IntKind.i64.wrap (4611686018427387904 - n) = 4611686018427387904 - n := IntWalk.i64_in _ (by omega)
  have w5 : IntKind.u64.wrap (4611686018427387904 - n) = 4611686018427387904 - n := by rw [IntKind.wrap_u64]; omega
  rw [d2] at HC
  clear h3 d2
  have O0 := Own.new (Below.refl w.heap.size w)
  have H0 := Lib.hid O0
  clear O0
  go_enter Tryz.func11, Tryz.ntmps11
  go_wp2_with fail
  (with_reducible refine (HC.out _).mono ?_)
  rintro e w1 ⟨rfl, rfl⟩
  go_upto_region 4 with (fail)
  generalize w.alloc (.cells #[.slice none 0 0] 96) = w2 at *
  generalize w.heap.size = p at H0 ⊢
  have R1 := Lib.hid (raw_any p 0 #[undef] 96 none [] k w2 H0.out.wr (by simp; omega))
  go_wp2_with fail
  (with_reducible refine R1.out.mono ?_)
  rintro e w3 ⟨rfl, hb3⟩
  obtain ⟨g3, O3⟩ := H0.out.step hb3
  have H3 := Lib.hid O3
  have R2 := Lib.hid (raw_any p 0 #[undef] 96 g3 _ ⟨#[0]⟩ w3 O3.wr (by rw [show (⟨#[0]⟩ : ByteArray).size = 1 from rfl]; simp; omega))
  clear hb3 O3
  go_wp2_with fail
  (with_reducible refine R2.out.mono ?_)
  rintro e w4 ⟨rfl, hb4⟩
  obtain ⟨g4, O4⟩ := H3.out.step hb4
  have H4 := Lib.hid O4
  have R3 := Lib.hid (fixed8_any p 0 #[undef] 96 g4 _ (4611686018427387904 - n).toNat w4 O4.wr (by simp; omega))
  rw [show (((4611686018427387904 - n).toNat : Nat) : Int) = 4611686018427387904 - n by omega] at R3
  clear hb4 O4
  go_wp2_with fail
  (with_reducible refine R3.out.mono ?_)
  rintro e w5 ⟨rfl, hb5⟩
  obtain ⟨g5, O5⟩ := H4.out.step hb5
  have H5 := Lib.hid O5
  have R4 := Lib.hid (bytes_any p 0 #[undef] 96 g5 _ w5 O5.wr)
  clear hb5 O5
  go_wp2_with fail
  (with_reducible refine R4.out.mono ?_)
  rintro e w6 ⟨rfl, rfl⟩
  go_wp2_with fail
  refine bodyPost_ret (v := .tuple #[.string (str (inn (bl k) n)), .bool true]) ?_ rfl ⟨H5.out.below, .inl ⟨HOK.out, rfl⟩⟩
  simp [results, Tryz.results11, go_sem]
  simp [inn, str, bl]
 ·have HOK := Lib.hid hok
  rcases Nat.eq_zero_or_pos k.size with h0 | h0
  ·obtain ⟨g1, g2, g3⟩ := em_facts h0
   clear hok
   go_enter Tryz.func11, Tryz.ntmps11
   go_wp2_with fail
   exact bodyPost_ret (v := .tuple #[.string ⟨#[]⟩, .bool false]) (by simp [results, Tryz.results11, go_sem]) rfl ⟨HR.out, .inr ⟨HOK.out, rfl⟩⟩
  ·obtain ⟨g1, g2⟩ := ne_facts h0
   by_cases h2 : 64 < k.size
   ·have d1 : decide ((64 : Int) < (k.size : Int)) = true := by rw [decide_eq_true_eq]; omega
    clear hok
    go_enter Tryz.func11, Tryz.ntmps11
    go_wp2_with fail
    exact bodyPost_ret (v := .tuple #[.string ⟨#[]⟩, .bool false]) (by simp [results, Tryz.results11, go_sem]) rfl ⟨HR.out, .inr ⟨HOK.out, rfl⟩⟩
   ·have d1 : decide ((64 : Int) < (k.size : Int)) = false := by rw [decide_eq_false_iff_not]; omega
    by_cases h3 : (0 : UInt8) ∈ bl k
    ·rw [decide_eq_true h3] at HC
     clear hok h3
     go_enter Tryz.func11, Tryz.ntmps11
     go_wp2_with fail
     (with_reducible refine (HC.out _).mono ?_)
     rintro e w1 ⟨rfl, rfl⟩
     go_wp2_with fail
     exact bodyPost_ret (v := .tuple #[.string ⟨#[]⟩, .bool false]) (by simp [results, Tryz.results11, go_sem]) rfl ⟨HR.out, .inr ⟨HOK.out, rfl⟩⟩
    ·rw [decide_eq_false h3] at HC
     have hbs := bl_size k
     unfold OkK at hok
     by_cases h4 : n < 0
     ·have d3 : decide (n < 0) = true := by rw [decide_eq_true_eq]; exact h4
      clear hok h3 h4 hbs
      go_enter Tryz.func11, Tryz.ntmps11
      go_wp2_with fail
      (with_reducible refine (HC.out _).mono ?_)
      rintro e w1 ⟨rfl, rfl⟩
      go_wp2_with fail
      exact bodyPost_ret (v := .tuple #[.string ⟨#[]⟩, .bool false]) (by simp [results, Tryz.results11, go_sem]) rfl ⟨HR.out, .inr ⟨HOK.out, rfl⟩⟩
     ·have d3 : decide (n < 0) = false := by rw [decide_eq_false_iff_not]; exact h4
      have h5 : 4611686018427387904 < n := by
       rcases Classical.em (4611686018427387904 < n) with h | h
       ·exact h
       ·exact absurd ⟨by omega, by omega, h3, by omega, by omega⟩ hok
      have d4 : decide (4611686018427387904 < n) = true := by rw [decide_eq_true_eq]; exact h5
      clear hok h3 h4 h5 hbs
      go_enter Tryz.func11, Tryz.ntmps11
      go_wp2_with fail
      (with_reducible refine (HC.out _).mono ?_)
      rintro e w1 ⟨rfl, rfl⟩
      go_wp2_with fail
      exact bodyPost_ret (v := .tuple #[.string ⟨#[]⟩, .bool false]) (by simp [results, Tryz.results11, go_sem]) rfl ⟨HR.out, .inr ⟨HOK.out, rfl⟩⟩
theorem inn_len (k : List UInt8) (n : Int) : (inn k n).length = k.length + 9 := by
 unfold inn
 rw [List.length_append, List.length_append, fixed_length]
 rfl
theorem inn_parts {k : List UInt8} {n : Int} (h : OkK k n) : (inn k n).take ((inn k n).length - 9) = k ∧ value ((inn k n).drop ((inn k n).length - 8)) = (4611686018427387904 - n).toNat := by
 obtain ⟨-, -, -, h4, h5⟩ := h
 have hl := inn_len k n
 rw [hl]
 constructor
 ·unfold inn
  rw [show k.length + 9 - 9 = k.length by omega, List.append_assoc, List.take_left' rfl]
 ·unfold inn
  rw [show k.length + 9 - 8 = (k ++ [0]).length by rw [List.length_append]; simp, List.drop_left' rfl, value_fixed]
  omega
theorem inner_any (k : ByteArray) (n : Int) (w : World) (hk : k.size ≤ 1000000) (h0 : 0 ≤ n) (h1 : n ≤ 4611686018427387904) :
  Calls Tryz.prog 13 #[.string k, .int .i64 n] w fun e w' => e = .returned (.string (str (inn (bl k) n))) ∧ Below w.heap.size w w' := by
 have hf := refFixed_any (4611686018427387904 - n).toNat 8 w (by omega) (by omega)
 rw [show (((4611686018427387904 - n).toNat : Nat) : Int) = 4611686018427387904 - n by omega, show ((8 : Nat) : Int) = 8 from rfl] at hf
 have HF := Lib.hid hf
 clear hf
 have w4 : IntKind.i64.wrap (4611686018427387904 - n) = 4611686018427387904 - n := IntWalk.i64_in _ (by omega)
 have w5 : IntKind.u64.wrap (4611686018427387904 - n) = 4611686018427387904 - n := by rw [IntKind.wrap_u64]; omega
 have z1 : (⟨#[0]⟩ : ByteArray).size = 1 := rfl
 go_enter Tryz.func13, Tryz.ntmps13
 go_wp2_with fail
 (with_reducible refine HF.out.mono ?_)
 rintro e w1 ⟨rfl, hb⟩
 have z2 : (str (fixed 8 (4611686018427387904 - n).toNat)).size = 8 := by rw [str_size, fixed_length]
 have HB := Lib.hid hb
 clear hb
 go_wp2_with fail
 go_ret
 have he : k ++ ⟨#[0]⟩ ++ str (fixed 8 (4611686018427387904 - n).toNat) = str (inn (bl k) n) := by
  rw [← str_bl (k ++ ⟨#[0]⟩ ++ str _)]
  congr 1
 exact ⟨congrArg (fun x => Ending.returned (Value.string x)) he, HB.out⟩
def UnpackP (s : ByteArray) (w : World) (e : Ending) (w' : World) : Prop :=
 Below w.heap.size w w' ∧ ((∃ (k : List UInt8) (n : Int), OkK k n ∧ bl s = inn k n ∧ e = .returned (.tuple #[.string (str k), .int .i64 n, .bool true])) ∨
  ((∀ (k : List UInt8) (n : Int), OkK k n → bl s ≠ inn k n) ∧ e = .returned (.tuple #[.string ⟨#[]⟩, .int .i64 0, .bool false])))
theorem unpack_any (s : ByteArray) (w : World) (hs : s.size ≤ maxLen) :
  Calls Tryz.prog 14 #[.string s] w (UnpackP s w) := by
 unfold maxLen at hs
 have hbs := bl_size s
 have hpt : ∀ (k : List UInt8) (n : Int), OkK k n → bl s = inn k n → 9 < s.size ∧ (bl s).take (s.size - 9) = k ∧ value ((bl s).drop (s.size - 8)) = (4611686018427387904 - n).toNat := fun k n h e => by
  have h1 := inn_parts h
  have h2 := inn_len k n
  have h3 := h.1
  rw [← e, hbs] at h1 h2
  exact ⟨by omega, h1.1, h1.2⟩
 have HPT := Lib.hid hpt
 have HR := Lib.hid (Below.refl w.heap.size w)
 clear hpt
 by_cases h9 : s.size ≤ 9
 ·have d1 : decide ((s.size : Int) ≤ 9) = true := by rw [decide_eq_true_eq]; omega
  have H9 := Lib.hid h9
  clear h9 hbs
  go_enter Tryz.func14, Tryz.ntmps14
  go_wp2_with fail
  exact bodyPost_ret (v := .tuple #[.string ⟨#[]⟩, .int .i64 0, .bool false]) (by simp [results, Tryz.results14, go_sem]) rfl ⟨HR.out, .inr ⟨fun k n h e => by have := (HPT.out k n h e).1; have := H9.out; omega, rfl⟩⟩
 ·have d1 : decide ((s.size : Int) ≤ 9) = false := by rw [decide_eq_false_iff_not]; omega
  have hex : bl (s.extract (s.size - 8) s.size) = (bl s).drop (s.size - 8) := by
   rw [ext_bl, List.take_of_length_le (by rw [List.length_drop, hbs]; omega)]
  have hke : s.extract 0 (s.size - 9) = str ((bl s).take (s.size - 9)) := by
   rw [← str_bl (s.extract 0 _), ext_bl, List.drop_zero, Nat.sub_zero]
  have hl8 : ((bl s).drop (s.size - 8)).length = 8 := by rw [List.length_drop, hbs]; omega
  have HRD := Lib.hid (read_any (s.extract (s.size - 8) s.size) w (by rw [ByteArray.size_extract]; unfold maxLen; omega))
  obtain ⟨m, hm⟩ : ∃ m, m = value ((bl s).drop (s.size - 8)) := ⟨_, rfl⟩
  have hml : m < 18446744073709551616 := by
   have h1 := value_lt ((bl s).drop (s.size - 8))
   rw [hl8] at h1
   omega
  have hro : value (rawOut (s.extract (s.size - 8) s.size) false 8).1.data.toList = m := by
   rw [(rawOut_st _ _ _).1]
   show value (bl (str _)) = m
   rw [bl_str, hm]
   unfold st rawS
   simp only [Bool.false_eq_true, if_false]
   rw [hex, if_neg (by rw [hl8]; omega)]
   simp only []
   rw [List.take_of_length_le (by rw [hl8]; omega)]
  have HRO := Lib.hid hro
  have HM := Lib.hid hm
  have HKE := Lib.hid hke
  have s1 : IntKind.i64.wrap ((s.size : Int) - 9) = (s.size : Int) - 9 := IntWalk.i64_in _ (by omega)
  have s2 : IntKind.i64.wrap ((s.size : Int) - 9 + 1) = (s.size : Int) - 9 + 1 := IntWalk.i64_in _ (by omega)
  have s3 : ((s.size : Int) - 9).toNat = s.size - 9 := by omega
  have s4 : ((s.size : Int) - 9 + 1).toNat = s.size - 8 := by omega
  have s5 : (0 : Int) ≤ (s.size : Int) - 9 := by omega
  have s6 : (0 : Int) ≤ (s.size : Int) - 9 + 1 := by omega
  have s7 : (s.size : Int) - 9 ≤ (s.size : Int) := by omega
  have s8 : (s.size : Int) - 9 + 1 ≤ (s.size : Int) := by omega
  clear hro hm hke hex hl8 hbs
  go_enter Tryz.func14, Tryz.ntmps14
  go_wp2_with fail
  (with_reducible refine HRD.out.mono ?_)
  rintro e w1 ⟨rfl, hr1, hb1⟩
  have HF := Lib.hid (rdFixed8_any _ _ _ w1 hr1)
  rw [HRO.out] at HF
  have HB1 := Lib.hid hb1
  clear hr1 hb1
  go_wp2_with fail
  (with_reducible refine HF.out.mono ?_)
  rintro e w2 ⟨rfl, -, hf2⟩
  have HB2 : Hid (Below w.heap.size w w2) := Lib.hid (HB1.out.trans (hf2.below HB1.out.size (fun k _ hk => by unfold RdS at hk; omega)))
  clear hf2
  by_cases hbig : 4611686018427387904 < m
  ·have d2 : decide ((4611686018427387904 : Int) < (m : Int)) = true := by rw [decide_eq_true_eq]; omega
   have HBG := Lib.hid hbig
   clear hbig
   go_wp2_with fail
   exact bodyPost_ret (v := .tuple #[.string ⟨#[]⟩, .int .i64 0, .bool false]) (by simp [results, Tryz.results14, go_sem]) rfl ⟨HB2.out, .inr ⟨fun k n h e => by
    have h1 := (HPT.out k n h e).2.2
    rw [← HM.out] at h1
    have h2 := HBG.out
    have h3 := h.2.2.2.1
    omega, rfl⟩⟩
  ·have d2 : decide ((4611686018427387904 : Int) < (m : Int)) = false := by rw [decide_eq_false_iff_not]; omega
   have w3 : IntKind.i64.wrap (m : Int) = (m : Int) := IntWalk.i64_in _ (by omega)
   have w4 : IntKind.i64.wrap (4611686018427387904 - (m : Int)) = 4611686018427387904 - (m : Int) := IntWalk.i64_in _ (by omega)
   have HPK := Lib.hid (pack_any (str ((bl s).take (s.size - 9))) (4611686018427387904 - (m : Int)) w2)
   rw [bl_str] at HPK
   have hmn : ∀ (k : List UInt8) (n : Int), OkK k n → bl s = inn k n → k = (bl s).take (s.size - 9) ∧ n = 4611686018427387904 - (m : Int) := fun k n h e => by
    obtain ⟨-, h1, h2⟩ := HPT.out k n h e
    rw [← HM.out] at h2
    have h3 := h.2.2.2.1
    have h4 := h.2.2.2.2
    exact ⟨h1.symm, by omega⟩
   have HMN := Lib.hid hmn
   clear hmn
   go_wp2_with fail
   rw [HKE.out]
   (with_reducible refine HPK.out.mono ?_)
   rintro e w5 ⟨hb5, ⟨hok, rfl⟩ | ⟨hok, rfl⟩⟩
   ·have HB5 := Lib.hid (HB2.out.trans (hb5.mono HB2.out.size))
    have HOK := Lib.hid hok
    clear hb5 hok
    by_cases he : bl s = inn ((bl s).take (s.size - 9)) (4611686018427387904 - (m : Int))
    ·have e1 : ((str (inn ((bl s).take (s.size - 9)) (4611686018427387904 - (m : Int)))).toList == s.toList) = true := by rw [← he, str_bl]; simp
     have HE := Lib.hid he
     clear he
     go_wp2_with fail
     exact bodyPost_ret (v := .tuple #[.string (str ((bl s).take (s.size - 9))), .int .i64 (4611686018427387904 - (m : Int)), .bool true]) (by simp [results, Tryz.results14, go_sem]) rfl ⟨HB5.out, .inl ⟨_, _, HOK.out, HE.out, rfl⟩⟩
    ·have e1 : ((str (inn ((bl s).take (s.size - 9)) (4611686018427387904 - (m : Int)))).toList == s.toList) = false := by
      rw [beq_eq_false_iff_ne]
      intro e
      rw [ByteArray.toList_eq, ByteArray.toList_eq] at e
      exact he e.symm
     have HE := Lib.hid he
     clear he
     go_wp2_with fail
     exact bodyPost_ret (v := .tuple #[.string ⟨#[]⟩, .int .i64 0, .bool false]) (by simp [results, Tryz.results14, go_sem]) rfl ⟨HB5.out, .inr ⟨fun k n h e => by
      obtain ⟨h1, h2⟩ := HMN.out k n h e
      rw [h1, h2] at e
      exact HE.out e, rfl⟩⟩
   ·have HB5 := Lib.hid (HB2.out.trans (hb5.mono HB2.out.size))
    have HOK := Lib.hid hok
    clear hb5 hok
    go_wp2_with fail
    exact bodyPost_ret (v := .tuple #[.string ⟨#[]⟩, .int .i64 0, .bool false]) (by simp [results, Tryz.results14, go_sem]) rfl ⟨HB5.out, .inr ⟨fun k n h e => by
     obtain ⟨h1, h2⟩ := HMN.out k n h e
     rw [h1, h2] at h
     exact HOK.out h, rfl⟩⟩
end Go.Proofs.YtdbfaknpfepnfaaGreatDoor


