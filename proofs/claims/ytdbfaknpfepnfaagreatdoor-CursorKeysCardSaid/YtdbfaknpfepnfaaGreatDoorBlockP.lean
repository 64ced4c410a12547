
/-
  Plain mathematics: pairs, packed.
-/
import Derived.Test.YtdbfaknpfepnfaaGreatDoorCodecBack2W
import Derived.Test.YtdbfaknpfepnfaaGreatDoorRefLaysW
namespace Go.Proofs.YtdbfaknpfepnfaaGreatDoor
open CodecP

theorem snocInd {α : Type} {P : List α → Prop} (h0 : P []) (h1 : ∀ l c, P l → P (l ++ [c])) (l : List α) : P l := by
  rw [← List.reverse_reverse l]
  induction l.reverse with
  | nil => exact h0
  | cons c r ih => rw [List.reverse_cons]; exact h1 _ _ ih
/-- A key with its value. -/
abbrev Pr := List UInt8 × List UInt8
/-- How many first bytes two texts have in common. -/
def cmn : List UInt8 → List UInt8 → Nat
  | a :: a1, b :: b1 => if a = b then cmn a1 b1 + 1 else 0
  | [], _ => 0
  | _ :: _, [] => 0
theorem cmn_le : ∀ a b : List UInt8, cmn a b ≤ a.length ∧ cmn a b ≤ b.length
  | [], b => by simp [cmn]
  | a :: a1, [] => by simp [cmn]
  | a :: a1, b :: b1 => by
    have := cmn_le a1 b1
    unfold cmn
    split <;> simp <;> omega
theorem cmn_take : ∀ a b : List UInt8, a.take (cmn a b) = b.take (cmn a b)
  | [], b => by simp [cmn]
  | a :: a1, [] => by simp [cmn]
  | a :: a1, b :: b1 => by
    have := cmn_take a1 b1
    unfold cmn
    split
    · rename_i h; rw [List.take_succ_cons, List.take_succ_cons, this, h]
    · simp
/-- How far two texts are alike, told byte by byte. -/
theorem cmn_is : ∀ (a b : List UInt8) (n : Nat), n ≤ a.length → n ≤ b.length → (∀ j, j < n → a[j]? = b[j]?) → (n = a.length ∨ n = b.length ∨ a[n]? ≠ b[n]?) → cmn a b = n
  | [], b, n, h1, _, _, _ => by simp at h1; subst h1; simp [cmn]
  | a :: a1, [], n, _, h2, _, _ => by simp at h2; subst h2; simp [cmn]
  | a :: a1, b :: b1, 0, _, _, _, h4 => by
    unfold cmn
    rw [if_neg]
    intro h
    rcases h4 with h4 | h4 | h4
    · simp at h4
    · simp at h4
    · simp [h] at h4
  | a :: a1, b :: b1, n + 1, h1, h2, h3, h4 => by
    have h0 := h3 0 (by omega)
    simp at h0
    unfold cmn
    rw [if_pos h0, cmn_is a1 b1 n (by simpa using h1) (by simpa using h2) (fun j hj => by have := h3 (j + 1) (by omega); simpa using this) (by
      rcases h4 with h4 | h4 | h4
      · left; simpa using h4
      · right; left; simpa using h4
      · right; right; simpa using h4)]
/-- A pair, laid. -/
def ent (same : Nat) (p : Pr) : List UInt8 := grp same ++ grp (p.1.length - same) ++ grp p.2.length ++ p.1.drop same ++ p.2
def sameOf (i : Nat) (last k : List UInt8) : Nat := if i % 8 = 0 then 0 else cmn last k
theorem sameOf_le (i : Nat) (last k : List UInt8) : sameOf i last k ≤ last.length ∧ sameOf i last k ≤ k.length := by
  unfold sameOf
  split
  · omega
  · exact cmn_le last k
def datF : Nat → List UInt8 → List Pr → List UInt8
  | _, _, [] => []
  | i, last, p :: r => ent (sameOf i last p.1) p ++ datF (i + 1) p.1 r
/-- The places of restarts. -/
def rstF : Nat → Nat → List UInt8 → List Pr → List Nat
  | _, _, _, [] => []
  | i, at_, last, p :: r => (if i % 8 = 0 then [at_] else []) ++ rstF (i + 1) (at_ + (ent (sameOf i last p.1) p).length) p.1 r
def dat (ps : List Pr) : List UInt8 := datF 0 [] ps
def rst (ps : List Pr) : List Nat := rstF 0 0 [] ps
def lastF (last : List UInt8) (ps : List Pr) : List UInt8 := (ps.getLast?.map (fun p => p.1)).getD last
abbrev lastK (ps : List Pr) : List UInt8 := lastF [] ps
theorem lastF_cons (last : List UInt8) (p : Pr) (r : List Pr) : lastF last (p :: r) = lastF p.1 r := by
  unfold lastF
  cases r with
  | nil => rfl
  | cons q r => rw [List.getLast?_cons_cons]; cases h : (q :: r).getLast? with
    | none => simp at h
    | some x => rfl
theorem lastK_snoc (ps : List Pr) (p : Pr) : lastK (ps ++ [p]) = p.1 := by simp [lastF]
theorem datF_append : ∀ (a b : List Pr) (i : Nat) (last : List UInt8), datF i last (a ++ b) = datF i last a ++ datF (i + a.length) (lastF last a) b
  | [], b, i, last => by simp [datF, lastF]
  | p :: a, b, i, last => by
    rw [List.cons_append, datF, datF, datF_append a b, lastF_cons, List.length_cons, List.append_assoc]
    congr 3
    omega
theorem rstF_append : ∀ (a b : List Pr) (i at_ : Nat) (last : List UInt8), rstF i at_ last (a ++ b) = rstF i at_ last a ++ rstF (i + a.length) (at_ + (datF i last a).length) (lastF last a) b
  | [], b, i, at_, last => by simp [datF, rstF, lastF]
  | p :: a, b, i, at_, last => by
    rw [List.cons_append, rstF, rstF, rstF_append a b, lastF_cons, List.length_cons, List.append_assoc, datF, List.length_append]
    congr 3 <;> omega
theorem dat_snoc (ps : List Pr) (p : Pr) : dat (ps ++ [p]) = dat ps ++ ent (sameOf ps.length (lastK ps) p.1) p := by
  unfold dat
  rw [datF_append]
  simp [datF]
theorem rst_snoc (ps : List Pr) (p : Pr) : rst (ps ++ [p]) = rst ps ++ (if ps.length % 8 = 0 then [(dat ps).length] else []) := by
  unfold rst dat
  rw [rstF_append]
  simp [rstF]
/-- The block of pairs. -/
def blk (ps : List Pr) : List UInt8 := dat ps ++ (rst ps).flatMap (fixed 4) ++ fixed 4 (rst ps).length
def Okp (p : Pr) : Prop := 1 ≤ p.1.length ∧ p.1.length ≤ 80 ∧ p.2.length ≤ 16000
instance (p : Pr) : Decidable (Okp p) := by unfold Okp; infer_instance
structure Rise (ps : List Pr) : Prop where
  ok : ∀ p ∈ ps, Okp p
  up : ps.Pairwise (fun a b => a.1 < b.1)
  le : ps.length ≤ 4096
theorem grp_len (n : Nat) : (grp n).length ≤ 10 := groups_length 9 n
theorem ent_len (same : Nat) (p : Pr) : (ent same p).length ≤ 30 + p.1.length + p.2.length := by
  unfold ent
  have h1 := grp_len same
  have h2 := grp_len (p.1.length - same)
  have h3 := grp_len p.2.length
  simp only [List.length_append, List.length_drop]
  omega
theorem dat_len {ps : List Pr} (h : ∀ p ∈ ps, Okp p) : (dat ps).length ≤ ps.length * 16110 := by
  revert h
  refine snocInd (P := fun ps => (∀ p ∈ ps, Okp p) → (dat ps).length ≤ ps.length * 16110) ?_ ?_ ps
  · intro _; simp [dat, datF]
  · intro ps p ih h
    have h1 := ih (fun q hq => h q (by simp [hq]))
    have h2 := ent_len (sameOf ps.length (lastK ps) p.1) p
    obtain ⟨-, h3, h4⟩ := h p (by simp)
    rw [dat_snoc, List.length_append, List.length_append, List.length_singleton]
    omega
theorem rst_len (ps : List Pr) : (rst ps).length = (ps.length + 7) / 8 := by
  refine snocInd (P := fun ps => (rst ps).length = (ps.length + 7) / 8) ?_ ?_ ps
  · rfl
  · intro ps p ih
    rw [rst_snoc, List.length_append, ih, List.length_append, List.length_singleton]
    split
    · simp; omega
    · simp; omega
theorem blk_len (ps : List Pr) : (blk ps).length = (dat ps).length + 4 * (rst ps).length + 4 := by
  unfold blk
  have : ∀ l : List Nat, (l.flatMap (fixed 4)).length = 4 * l.length := fun l => by
    induction l with
    | nil => rfl
    | cons a l ih => rw [List.flatMap_cons, List.length_append, ih, fixed_length, List.length_cons]; omega
  rw [List.length_append, List.length_append, this, fixed_length]
theorem Rise.snoc {ps : List Pr} {p : Pr} (h : Rise ps) (hp : Okp p) (hl : lastK ps < p.1) (hn : ps.length < 4096) : Rise (ps ++ [p]) := by
  refine ⟨fun q hq => ?_, ?_, by simp; omega⟩
  · rcases List.mem_append.1 hq with hq | hq
    · exact h.ok q hq
    · simp at hq; subst hq; exact hp
  · rw [List.pairwise_append]
    refine ⟨h.up, by simp, fun a ha b hb => ?_⟩
    simp at hb
    subst hb
    rcases List.eq_nil_or_concat ps with rfl | ⟨r, z, e⟩
    · simp at ha
    · rw [List.concat_eq_append] at e
      subst e
      rw [lastK_snoc] at hl
      rcases List.mem_append.1 ha with ha | ha
      · exact List.lt_trans ((List.pairwise_append.1 h.up).2.2 a ha z (by simp)) hl
      · simp at ha; subst ha; exact hl
theorem Rise.nil : Rise [] := ⟨by simp, List.Pairwise.nil, by simp⟩
theorem Rise.init {ps : List Pr} {p : Pr} (h : Rise (ps ++ [p])) : Rise ps ∧ Okp p ∧ lastK ps < p.1 ∧ ps.length < 4096 := by
  have hl := h.le
  rw [List.length_append, List.length_singleton] at hl
  have hu := List.pairwise_append.1 h.up
  refine ⟨⟨fun q hq => h.ok q (by simp [hq]), hu.1, by omega⟩, h.ok p (by simp), ?_, by omega⟩
  rcases List.eq_nil_or_concat ps with rfl | ⟨r, z, e⟩
  · have := (h.ok p (by simp)).1
    show [] < p.1
    cases hp : p.1 with
    | nil => rw [hp] at this; simp at this
    | cons a l => exact List.nil_lt_cons a l
  · rw [List.concat_eq_append] at e
    subst e
    rw [lastK_snoc]
    exact hu.2.2 z (by simp) p (by simp)
end Go.Proofs.YtdbfaknpfepnfaaGreatDoor
