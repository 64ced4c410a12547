/-
  Texts of the claim, joined: TabP, BlockW, Sn, BuildW, Build2W, BAwake, RefBW, RefBBW, RefBCW, AllW, All2W, RefOpenW, BuildsW, TabSbW, CelW.
-/
import Derived.Test.YtdbfaknpfepnfaaGreatDoorTabCK1
import Derived.Test.YtdbfaknpfepnfaaGreatDoorTabCK2
import Derived.Laws.AppendOwnNone
import Derived.Deep.RegionLaw
import Derived.Deep.RegionWith
import Derived.Deep.CutBlock
import Derived.Deep.RegionHeld3
import Derived.StillTailTactics
import Derived.Deep.DeepCutAuto
import Derived.Sort.Walk0
import Derived.Deep.LoopGhost
import Derived.Lib.AppendStr
import Derived.BigQuiet
import Derived.Lib.UnsafeStr
import Derived.Lib.Builder
import Derived.Shelf.RegionOpenPlain
import Derived.Lib.Bytealg
import Derived.Maps.AppendAt
import Derived.Handy

/-
  Tables in plain words: pairs cut into blocks, the index, the bytes.
-/
namespace Go.Proofs.YtdbfaknpfepnfaaGreatDoor
open Go.RowKit CodecP CrcP FrameP

/-- How many bytes a block has at most, ahead of its last pair. -/
def clampN (size : Int) : Nat := (min (max size 64) 16384).toNat
set_option maxRecDepth 100000 in
theorem clamp_le (size : Int) : clampN size ≤ 16384 ∧ 64 ≤ clampN size ∧ ((clampN size : Nat) : Int) = min (max size 64) 16384 := by unfold clampN; omega
/-- One pair more: the blocks that are closed, and the one under way. -/
def cutC (sz : Nat) (st : List (List Pr) × List Pr) (p : Pr) : List (List Pr) × List Pr :=
  if sz ≤ (blk (st.2 ++ [p])).length then (st.1 ++ [st.2 ++ [p]], []) else (st.1, st.2 ++ [p])
def cut (sz : Nat) (l : List Pr) : List (List Pr) × List Pr := l.foldl (cutC sz) ([], [])
set_option maxRecDepth 100000 in
theorem cut_snoc (sz : Nat) (l : List Pr) (p : Pr) : cut sz (l ++ [p]) = cutC sz (cut sz l) p := by simp [cut]
set_option maxRecDepth 100000 in
theorem cut_yes {sz : Nat} {l : List Pr} {p : Pr} (h : sz ≤ (blk ((cut sz l).2 ++ [p])).length) : cut sz (l ++ [p]) = ((cut sz l).1 ++ [(cut sz l).2 ++ [p]], []) := by rw [cut_snoc, cutC, if_pos h]
set_option maxRecDepth 100000 in
theorem cut_no {sz : Nat} {l : List Pr} {p : Pr} (h : ¬ sz ≤ (blk ((cut sz l).2 ++ [p])).length) : cut sz (l ++ [p]) = ((cut sz l).1, (cut sz l).2 ++ [p]) := by rw [cut_snoc, cutC, if_neg h]
def closeB (st : List (List Pr) × List Pr) : List (List Pr) := if st.2 = [] then st.1 else st.1 ++ [st.2]
def blocksOf (sz : Nat) (l : List Pr) : List (List Pr) := closeB (cut sz l)
set_option maxRecDepth 100000 in
theorem blk_snoc (ps : List Pr) (p : Pr) (h : Okp p) : (blk (ps ++ [p])).length ≤ (blk ps).length + 16114 := by
  rw [blk_len, blk_len, dat_snoc, List.length_append, rst_snoc, List.length_append]
  have h1 := ent_len (sameOf ps.length (lastK ps) p.1) p
  obtain ⟨-, h2, h3⟩ := h
  split
  · simp only [List.length_singleton]; omega
  · simp only [List.length_nil]; omega
/-- What is known of pairs that were cut. -/
structure CutI (sz : Nat) (l : List Pr) : Prop where
  flat : (cut sz l).1.flatten ++ (cut sz l).2 = l
  ne : ∀ b ∈ (cut sz l).1, b ≠ []
  small : ∀ b ∈ (cut sz l).1, (blk b).length ≤ 32500
  cur : (blk (cut sz l).2).length ≤ 16384
set_option maxRecDepth 100000 in
theorem cutI (sz : Nat) (h1 : 64 ≤ sz) (h2 : sz ≤ 16384) (l : List Pr) (hl : ∀ p ∈ l, Okp p) : CutI sz l := by
  revert hl
  refine snocInd (P := fun l => (∀ p ∈ l, Okp p) → CutI sz l) ?_ ?_ l
  · intro _
    exact ⟨rfl, fun b hb => (by cases hb), fun b hb => (by cases hb), (by show (blk []).length ≤ 16384; decide)⟩
  · intro l p ih hl
    obtain ⟨i1, i2, i3, i4⟩ := ih (fun q hq => hl q (by simp [hq]))
    have hp := blk_snoc (cut sz l).2 p (hl p (by simp))
    by_cases h : sz ≤ (blk ((cut sz l).2 ++ [p])).length
    · refine ⟨?_, ?_, ?_, ?_⟩
      · rw [cut_yes h, List.flatten_append]
        conv => rhs; rw [← i1]
        simp
      · rw [cut_yes h]
        intro b hb
        rcases List.mem_append.1 hb with hb | hb
        · exact i2 b hb
        · rw [List.mem_singleton.1 hb]; simp
      · rw [cut_yes h]
        intro b hb
        rcases List.mem_append.1 hb with hb | hb
        · exact i3 b hb
        · rw [List.mem_singleton.1 hb]; omega
      · rw [cut_yes h]; show (blk []).length ≤ 16384; decide
    · refine ⟨?_, ?_, ?_, ?_⟩
      · rw [cut_no h]
        conv => rhs; rw [← i1]
        simp
      · rw [cut_no h]; exact i2
      · rw [cut_no h]; exact i3
      · rw [cut_no h]; show (blk ((cut sz l).2 ++ [p])).length ≤ 16384; omega
set_option maxRecDepth 100000 in
theorem cut_len {sz : Nat} {l : List Pr} (h : CutI sz l) : (cut sz l).1.length ≤ l.length ∧ (cut sz l).2.length ≤ l.length := by
  have hf := congrArg List.length h.flat
  rw [List.length_append] at hf
  have : ∀ L : List (List Pr), (∀ b ∈ L, b ≠ []) → L.length ≤ L.flatten.length := fun L hL => by
    induction L with
    | nil => simp
    | cons b L ih =>
      have h1 := ih (fun x hx => hL x (by simp [hx]))
      have h2 := List.length_pos_iff.2 (hL b (by simp))
      rw [List.flatten_cons, List.length_append, List.length_cons]
      omega
  have h2 := this _ h.ne
  omega
/-- A block's frame; the frames of blocks. -/
def frm (ps : List Pr) : List UInt8 := frame (blk ps)
set_option maxRecDepth 100000 in
theorem frm_len (ps : List Pr) : (frm ps).length = 12 + (blk ps).length := frame_length _
def outB (cl : List (List Pr)) : List UInt8 := cl.flatMap frm
set_option maxRecDepth 100000 in
theorem outB_snoc (cl : List (List Pr)) (b : List Pr) : outB (cl ++ [b]) = outB cl ++ frm b := by simp [outB]
set_option maxRecDepth 100000 in
theorem outB_len {cl : List (List Pr)} (h : ∀ b ∈ cl, (blk b).length ≤ 32500) : (outB cl).length ≤ cl.length * 32512 := by
  induction cl with
  | nil => simp [outB]
  | cons b cl ih =>
    have h1 := ih (fun x hx => h x (by simp [hx]))
    have h2 := h b (by simp)
    unfold outB at h1 ⊢
    rw [List.flatMap_cons, List.length_append, frm_len, List.length_cons]
    omega
/-- The index's pairs. -/
def idxF : Nat → List (List Pr) → List Pr
  | _, [] => []
  | at_, b :: r => (lastK b, grp at_ ++ grp (frm b).length) :: idxF (at_ + (frm b).length) r
def idx (cl : List (List Pr)) : List Pr := idxF 0 cl
set_option maxRecDepth 100000 in
theorem idxF_append : ∀ (a b : List (List Pr)) (at_ : Nat), idxF at_ (a ++ b) = idxF at_ a ++ idxF (at_ + (outB a).length) b
  | [], b, at_ => by simp [idxF, outB]
  | x :: a, b, at_ => by
    rw [List.cons_append, idxF, idxF, idxF_append a b, List.cons_append]
    rw [show at_ + (frm x).length + (outB a).length = at_ + (outB (x :: a)).length by
      unfold outB
      rw [List.flatMap_cons, List.length_append]
      omega]
set_option maxRecDepth 100000 in
theorem idx_snoc (cl : List (List Pr)) (b : List Pr) : idx (cl ++ [b]) = idx cl ++ [(lastK b, grp (outB cl).length ++ grp (frm b).length)] := by
  unfold idx
  rw [idxF_append, Nat.zero_add]
  rfl
set_option maxRecDepth 100000 in
theorem idx_len (cl : List (List Pr)) : (idx cl).length = cl.length := by
  have : ∀ (cl : List (List Pr)) at_, (idxF at_ cl).length = cl.length := fun cl => by
    induction cl with
    | nil => intro _; rfl
    | cons b r ih => intro a; rw [idxF, List.length_cons, ih, List.length_cons]
  exact this cl 0
set_option maxRecDepth 100000 in
theorem idx_key (cl : List (List Pr)) : (idx cl).map (·.1) = cl.map lastK := by
  have : ∀ (cl : List (List Pr)) at_, (idxF at_ cl).map (·.1) = cl.map lastK := fun cl => by
    induction cl with
    | nil => intro _; rfl
    | cons b r ih => intro a; rw [idxF, List.map_cons, ih, List.map_cons]
  exact this cl 0
set_option maxRecDepth 100000 in
theorem idx_val (cl : List (List Pr)) : ∀ p ∈ idx cl, p.2.length ≤ 20 := by
  have : ∀ (cl : List (List Pr)) at_, ∀ p ∈ idxF at_ cl, p.2.length ≤ 20 := fun cl => by
    induction cl with
    | nil => intro _ p hp; cases hp
    | cons b r ih =>
      intro a p hp
      rw [idxF] at hp
      rcases List.mem_cons.1 hp with rfl | hp
      · have h1 := grp_len a
        have h2 := grp_len (frm b).length
        simp only [List.length_append]
        omega
      · exact ih _ p hp
  exact this cl 0
set_option maxRecDepth 100000 in
theorem lastK_mem {b : List Pr} (h : b ≠ []) : ∃ p ∈ b, lastK b = p.1 ∧ b.getLast? = some p := by
  rcases List.eq_nil_or_concat b with rfl | ⟨r, z, e⟩
  · exact absurd rfl h
  · rw [List.concat_eq_append] at e
    subst e
    exact ⟨z, by simp, lastK_snoc r z, by simp⟩
set_option maxRecDepth 100000 in
theorem rise_sub {l m : List Pr} (h : Rise l) (hs : m.Sublist l) : Rise m := ⟨fun p hp => h.ok p (hs.subset hp), h.up.sublist hs, Nat.le_trans hs.length_le h.le⟩
set_option maxRecDepth 100000 in
/-- Closed blocks of rising pairs: each rises, their last keys rise. -/
theorem rise_parts {cl : List (List Pr)} {cur l : List Pr} (h : Rise l) (hf : cl.flatten ++ cur = l) : (∀ b ∈ cl, Rise b) ∧ Rise cur := by
  constructor
  · intro b hb
    have : b.Sublist cl.flatten := List.sublist_flatten_of_mem hb
    exact rise_sub h (hf ▸ this.trans (List.sublist_append_left _ _))
  · exact rise_sub h (hf ▸ List.sublist_append_right _ _)
set_option maxRecDepth 100000 in
theorem rise_idx {cl : List (List Pr)} (h : Rise cl.flatten) (hne : ∀ b ∈ cl, b ≠ []) : Rise (idx cl) := by
  have hlen : cl.length ≤ cl.flatten.length := by
    clear h
    induction cl with
    | nil => simp
    | cons b L ih =>
      have h1 := ih (fun x hx => hne x (by simp [hx]))
      have h2 := List.length_pos_iff.2 (hne b (by simp))
      rw [List.flatten_cons, List.length_append, List.length_cons]
      omega
  refine ⟨fun p hp => ?_, ?_, by rw [idx_len]; exact Nat.le_trans hlen h.le⟩
  · have hk : p.1 ∈ cl.map lastK := by rw [← idx_key]; exact List.mem_map.2 ⟨p, hp, rfl⟩
    obtain ⟨b, hb, e⟩ := List.mem_map.1 hk
    obtain ⟨q, hq, e2, -⟩ := lastK_mem (hne b hb)
    have := h.ok q (List.mem_flatten.2 ⟨b, hb, hq⟩)
    have hv := idx_val cl p hp
    refine ⟨?_, ?_, by omega⟩
    · rw [← e, e2]; exact this.1
    · rw [← e, e2]; exact this.2.1
  · have : ((idx cl).map (·.1)).Pairwise (· < ·) := by
      rw [idx_key, List.pairwise_map]
      have hu := h.up
      rw [List.pairwise_flatten] at hu
      refine hu.2.imp_of_mem (fun {a b} ha hb hab => ?_)
      obtain ⟨x, hx, e1, -⟩ := lastK_mem (hne a ha)
      obtain ⟨y, hy, e2, -⟩ := lastK_mem (hne b hb)
      rw [e1, e2]
      exact hab x hx y hy
    exact List.pairwise_map.1 this
set_option maxRecDepth 100000 in
theorem dat_sum {ps : List Pr} {c : Nat} (h : ∀ p ∈ ps, p.1.length + p.2.length ≤ c) : (dat ps).length ≤ ps.length * (30 + c) := by
  revert h
  refine snocInd (P := fun ps => (∀ p ∈ ps, p.1.length + p.2.length ≤ c) → (dat ps).length ≤ ps.length * (30 + c)) ?_ ?_ ps
  · intro _; simp [dat, datF]
  · intro ps p ih h
    have h1 := ih (fun q hq => h q (by simp [hq]))
    have h2 := ent_len (sameOf ps.length (lastK ps) p.1) p
    have h3 := h p (by simp)
    rw [dat_snoc, List.length_append, List.length_append, List.length_singleton, Nat.add_mul]
    omega
set_option maxRecDepth 100000 in
theorem idx_small {cl : List (List Pr)} (h : Rise (idx cl)) (hn : cl.length ≤ 201) : (blk (idx cl)).length ≤ 27000 := by
  have h1 : (dat (idx cl)).length ≤ (idx cl).length * (30 + 100) := dat_sum (fun p hp => by
    have := (h.ok p hp).2.1
    have := idx_val cl p hp
    omega)
  have h2 := rst_len (idx cl)
  rw [blk_len, h2]
  rw [idx_len] at h1 h2 ⊢
  omega
/-- What of a key stands ahead of its first byte 00. -/
def frontK (k : List UInt8) : List UInt8 := k.takeWhile fun c => c != 0
end Go.Proofs.YtdbfaknpfepnfaaGreatDoor

/-
  The walks of block's right and common.
-/
namespace Go.Proofs.YtdbfaknpfepnfaaGreatDoor
open Go.RowKit CodecP

set_option maxRecDepth 100000 in
theorem bl_size (k : ByteArray) : (bl k).length = k.size := by simp [bl]
set_option maxRecDepth 100000 in
theorem ne_facts {k : ByteArray} (h : 1 ≤ k.size) : k.toList.isEmpty = false ∧ (!k.toList.isEmpty) = true := by
  have : k.toList.isEmpty = false := by
    rw [ByteArray.toList_eq]
    have e1 := bl_size k
    cases h2 : k.data.toList with
    | nil => simp [bl, h2] at e1; omega
    | cons a l => rfl
  exact ⟨this, by rw [this]; rfl⟩
set_option maxRecDepth 100000 in
theorem em_facts {k : ByteArray} (h : k.size = 0) : k.toList.isEmpty = true ∧ (!k.toList.isEmpty) = false ∧ k.toList = [] := by
  have : k.toList = [] := by
    rw [ByteArray.toList_eq]
    exact List.length_eq_zero_iff.1 ((bl_size k).trans h)
  rw [this]; exact ⟨rfl, rfl, rfl⟩
set_option maxRecDepth 100000 in
theorem right_yes (k v : ByteArray) (w : World) (h : Okp (bl k, bl v)) :
    Calls Tryz.prog 109 #[.string k, .string v] w fun e w' => e = .returned (.bool true) ∧ w = w' := by
  obtain ⟨h1, h2, h3⟩ := h
  simp only [bl_size] at h1 h2 h3
  obtain ⟨hne, hne2⟩ := ne_facts h1
  have d3 : decide ((v.size : Int) ≤ 16000) = true := by rw [decide_eq_true_eq]; omega
  go_enter Tryz.func109, Tryz.ntmps109
  go_wp2_with fail
  go_ret
  exact ⟨rfl, rfl⟩
set_option maxRecDepth 100000 in
theorem right_no (k v : ByteArray) (w : World) (hk : k.size ≤ maxLen) (hv : v.size ≤ maxLen) (h : ¬ Okp (bl k, bl v)) :
    Calls Tryz.prog 109 #[.string k, .string v] w fun e w' => e = .returned (.bool false) ∧ w = w' := by
  unfold Okp at h
  simp only [bl_size] at h
  unfold maxLen at hk hv
  by_cases h1 : 1 ≤ k.size
  · obtain ⟨hne, hne2⟩ := ne_facts h1
    by_cases h2 : k.size ≤ 80
    · have h3 : ¬ v.size ≤ 16000 := fun h3 => h ⟨h1, h2, h3⟩
      have d3 : decide ((v.size : Int) ≤ 16000) = false := by rw [decide_eq_false_iff_not]; omega
      clear h h3
      go_enter Tryz.func109, Tryz.ntmps109
      go_wp2_with fail
      go_ret
      exact ⟨rfl, rfl⟩
    · have d3 : decide ((k.size : Int) ≤ 80) = false := by rw [decide_eq_false_iff_not]; omega
      clear h h2
      go_enter Tryz.func109, Tryz.ntmps109
      go_wp2_with fail
      go_ret
      exact ⟨rfl, rfl⟩
  · obtain ⟨e1, e2, e3⟩ := em_facts (k := k) (by omega)
    clear h h1
    go_enter Tryz.func109, Tryz.ntmps109
    go_wp2_with fail
    go_ret
    exact ⟨rfl, rfl⟩
set_option maxRecDepth 100000 in
theorem bl_at (s : ByteArray) (j : Nat) (h : j < s.size) : (bl s)[j]? = some s[j] := by
  unfold bl
  rw [List.getElem?_eq_getElem (by simpa using h)]
  rfl
set_option maxRecDepth 100000 in
theorem common_any (a b : ByteArray) (w : World) (ha : a.size ≤ maxLen) (hb : b.size ≤ maxLen) :
    Calls Tryz.prog 110 #[.string a, .string b] w fun e w' => e = .returned (.int .i64 (cmn (bl a) (bl b))) ∧ Below w.heap.size w w' := by
  unfold maxLen at ha hb
  have HR := Lib.hid (Below.refl w.heap.size w)
  obtain ⟨n, hn⟩ : ∃ n, n = cmn (bl a) (bl b) := ⟨_, rfl⟩
  rw [← hn]
  have Hhn := Lib.hid hn
  clear hn
  go_enter Tryz.func110, Tryz.ntmps110
  go_wp2_with fail
  go_loopw [5] (fun nv wr => ∃ j : Nat, j ≤ a.size ∧ j ≤ b.size ∧ nv = .int .i64 j ∧ (∀ i, i < j → (bl a)[i]? = (bl b)[i]?) ∧ Below w.heap.size w wr) (fun nv _ => a.size - (intOf nv).toNat)
  case atStart => exact ⟨0, by omega, by omega, rfl, fun i hi => by omega, HR.out⟩
  case round =>
    obtain ⟨j, hja, hjb, rfl, hall, hbel⟩ := hrel
    have HALL := Lib.hid hall
    have HB := Lib.hid hbel
    clear hall hbel
    have fin : (j = a.size ∨ j = b.size ∨ (bl a)[j]? ≠ (bl b)[j]?) → n = j := fun h => by
      rw [Hhn.out]
      refine cmn_is _ _ j (by rw [bl_size]; exact hja) (by rw [bl_size]; exact hjb) HALL.out ?_
      rw [bl_size, bl_size]; exact h
    have HFIN := Lib.hid fin
    clear fin
    by_cases h1 : j < a.size
    · have d1 : decide ((j : Int) < (a.size : Int)) = true := by rw [decide_eq_true_eq]; omega
      by_cases h2 : j < b.size
      · have d2 : decide ((j : Int) < (b.size : Int)) = true := by rw [decide_eq_true_eq]; omega
        have g1 : (j : Int) < (a.size : Int) := by omega
        have g2 : (j : Int) < (b.size : Int) := by omega
        by_cases h3 : a[j] = b[j]
        · have q : ((a[j].toNat : Int) == (b[j].toNat : Int)) = true := by rw [h3]; simp
          have HX := Lib.hid (show (bl a)[j]? = (bl b)[j]? by rw [bl_at a j h1, bl_at b j h2, h3])
          clear h3
          go_wp2_with fail
          go_quiet (fail)
          go_wp2_with fail
          go_roundw
          case rel => exact ⟨j + 1, by omega, by omega, by go_num, fun i hi => by
            rcases Nat.lt_or_eq_of_le (Nat.le_of_lt_succ hi) with h | h
            · exact HALL.out i h
            · subst h; exact HX.out, HB.out.drewN _⟩
          case measure => simp [intOf]; omega
        · have q : ((a[j].toNat : Int) == (b[j].toNat : Int)) = false := by
            rw [beq_eq_false_iff_ne]; intro e
            exact h3 (UInt8.toNat_inj.1 (by omega))
          have hf := HFIN.out (.inr (.inr (by rw [bl_at a j h1, bl_at b j h2]; intro e; injection e with e; exact h3 e)))
          subst hf
          clear h3
          go_wp2_with fail
          go_quiet (fail)
          go_wp2_with fail
          go_ret
          exact ⟨rfl, HB.out.drewN _⟩
      · have d2 : decide ((j : Int) < (b.size : Int)) = false := by rw [decide_eq_false_iff_not]; omega
        have hf := HFIN.out (.inr (.inl (by omega)))
        subst hf
        go_wp2_with fail
        go_quiet (fail)
        go_wp2_with fail
        go_ret
        exact ⟨rfl, HB.out.drewN _⟩
    · have d1 : decide ((j : Int) < (a.size : Int)) = false := by rw [decide_eq_false_iff_not]; omega
      have hf := HFIN.out (.inl (by omega))
      subst hf
      go_wp2_with fail
      go_quiet (fail)
      go_wp2_with fail
      go_ret
      exact ⟨rfl, HB.out.drewN _⟩
end Go.Proofs.YtdbfaknpfepnfaaGreatDoor

/-
  A slice whose elements take one or more cells each, as it lies, nil let in; append of such a one.
-/
namespace Go.Proofs.YtdbfaknpfepnfaaGreatDoor
open Go.RowKit

/-- The slice value (A, n, c) holds the cells xs, below block B. -/
structure Sn (w : World) (B size : Nat) (A : Option Addr) (n c : Nat) (xs : List Value) : Prop where
  len : xs.length = n * size
  nil : A = none → c = 0
  le : n ≤ c
  max : c ≤ maxLen
  at_ : 0 < n → ∃ g o, A = some ⟨g, o, none⟩ ∧ g < B ∧ ∀ j u, xs[j]? = some u → w.cell? ⟨g, o + j, none⟩ = some u
section
variable {w w' : World} {B size n c : Nat} {A : Option Addr} {xs : List Value}
set_option maxRecDepth 100000 in
theorem Sn.keep (h : Sn w B size A n c xs) (hk : ∀ p : Addr, p.block < B → w'.cell? p = w.cell? p) : Sn w' B size A n c xs :=
  ⟨h.len, h.nil, h.le, h.max, fun hn => by
    obtain ⟨g, o, e, hb, hc⟩ := h.at_ hn
    exact ⟨g, o, e, hb, fun j u hu => (hk ⟨g, o + j, none⟩ hb).trans (hc j u hu)⟩⟩
set_option maxRecDepth 100000 in
theorem Sn.below (h : Sn w B size A n c xs) (hb : Below B w w') : Sn w' B size A n c xs := h.keep fun _ hp => hb.cell hp
set_option maxRecDepth 100000 in
theorem Sn.more {B' : Nat} (h : Sn w B size A n c xs) (hB : B ≤ B') : Sn w B' size A n c xs :=
  ⟨h.len, h.nil, h.le, h.max, fun hn => by
    obtain ⟨g, o, e, hb, hc⟩ := h.at_ hn
    exact ⟨g, o, e, by omega, hc⟩⟩
set_option maxRecDepth 100000 in
theorem Sn.front (h : Sn w B size A n c xs) {k : Nat} (hk : k ≤ n) : Sn w B size A k c (xs.take (k * size)) := by
  refine ⟨?_, h.nil, Nat.le_trans hk h.le, h.max, fun h0 => ?_⟩
  · rw [List.length_take, h.len]; exact Nat.min_eq_left (Nat.mul_le_mul_right _ hk)
  · obtain ⟨g, o, e, hb, hc⟩ := h.at_ (by omega)
    refine ⟨g, o, e, hb, fun j u hu => hc j u ?_⟩
    rw [List.getElem?_take] at hu
    split at hu
    · exact hu
    · cases hu
set_option maxRecDepth 100000 in
theorem Sn.cut (h : Sn w B size A n c xs) {k : Nat} (hk : k ≤ n) : Sn w B size (if c = k then A else A.map (·.add (k * size))) (n - k) (c - k) (xs.drop (k * size)) := by
  refine ⟨by rw [List.length_drop, h.len, Nat.sub_mul], fun hA => ?_, by have := h.le; omega, by have := h.max; omega, fun hn => ?_⟩
  · split at hA
    · omega
    · have := h.nil (by cases A <;> simp_all); omega
  · obtain ⟨g, o, rfl, hb, hc⟩ := h.at_ (by omega)
    have hle := h.le
    rw [if_neg (by omega)]
    refine ⟨g, o + k * size, ?_, hb, fun j u hu => ?_⟩
    · simp [Go.WideShapes.add_plain]
    · rw [List.getElem?_drop] at hu
      rw [Nat.add_assoc]; exact hc _ u hu
set_option maxRecDepth 100000 in
theorem Sn.of_own {base : Nat} {e : TypeId} (h : w.ownsRow base e size (.slice A n c) n xs) : Sn w w.heap.size size A n c xs := by
  obtain ⟨hl, h2⟩ := h
  rcases h2 with ⟨hv, h0⟩ | ⟨g, cap, cur, hv, hg, hh, hcap, hmax, hcs, htk⟩
  · injection hv with h1 _ h3
    subst h1 h3 h0
    exact ⟨hl, fun _ => rfl, Nat.le_refl _, Nat.zero_le _, fun h => absurd h (by omega)⟩
  · injection hv with h1 _ h3
    subst h1 h3
    refine ⟨hl, (fun h => by cases h), hcap, hmax, fun _ => ⟨g, 0, rfl, lt_of_block hh, fun j u hu => ?_⟩⟩
    have hlt := (List.getElem?_eq_some_iff.1 hu).1
    have : cur[j]? = some u := by
      have e : (cur.toList.take (n * size))[j]? = cur.toList[j]? := by rw [List.getElem?_take, if_pos (by omega)]
      rw [← Array.getElem?_toList, ← e, htk, hu]
    simp [World.cell?, hh, this]
end
set_option maxRecDepth 100000 in
/-- A row that is not empty, as it lies. -/
theorem own_pos {w : World} {B : Nat} {e : TypeId} {size n : Nat} {v : Value} {xs : List Value} (h : w.ownsRow B e size v n xs) (hn : 0 < n) :
    ∃ g cap, v = .slice (some ⟨g, 0, none⟩) n cap ∧ B ≤ g ∧ g < w.heap.size ∧ n ≤ cap ∧ cap ≤ maxLen ∧ ∀ j x, xs[j]? = some x → w.cell? ⟨g, j, none⟩ = some x := by
  obtain ⟨hl, h2⟩ := h
  rcases h2 with ⟨rfl, rfl⟩ | ⟨g, cap, cur, rfl, hg, hh, hcap, hmax, hcs, htk⟩
  · omega
  · refine ⟨g, cap, rfl, hg, lt_of_block hh, hcap, hmax, fun j x hx => ?_⟩
    have hlt := (List.getElem?_eq_some_iff.1 hx).1
    have : cur[j]? = some x := by
      have e : (cur.toList.take (n * size))[j]? = cur.toList[j]? := by rw [List.getElem?_take, if_pos (by omega)]
      rw [← Array.getElem?_toList, ← e, htk, hx]
    simp [World.cell?, hh, this]
set_option maxRecDepth 100000 in
theorem own_le {w : World} {B : Nat} {e : TypeId} {size n : Nat} {v : Value} {xs : List Value} (h : w.ownsRow B e size v n xs) : ∃ ao cap, v = .slice ao n cap ∧ n ≤ cap ∧ cap ≤ maxLen := by
  rcases h.2 with ⟨rfl, rfl⟩ | ⟨g, cap, cur, rfl, hg, hh, hcap, hmax, hcs, htk⟩
  · exact ⟨none, 0, rfl, Nat.le_refl _, Nat.zero_le _⟩
  · exact ⟨_, cap, rfl, hcap, hmax⟩
set_option maxRecDepth 100000 in
/-- append of such a slice onto a row of the call's own. -/
theorem wpList_append_sn {P : Program} {w : World} {ops : Array Oper} {rest : List Oper} {o : Oper} {a : Act} {Q : Exit → Act → World → Prop} (hgd : o.guard = none) (s x : Operand) (t : TypeId)
    (ho : o.op = .call { callee := .builtin .append, args := #[s, x], argTypes := #[t, t] })
    (base : Nat) (e : TypeId) (i : TypeInfo) (z : Value) (size bytes : Nat) (ht : P.underlying t = some (.slice e)) (hi : P.info? e = some i) (hz : i.zero = some z)
    (hsize : i.size = size) (hby : i.bytes = bytes) (hzs : z.cells.size = size) (hsz : 0 < size)
    (v : Value) (n : Nat) (xs : List Value) (hs : a.eval s = v) (hown : w.ownsRow base e size v n xs)
    (B : Nat) (A : Option Addr) (m c : Nat) (news : List Value) (hx : a.eval x = .slice A m c) (hsn : Sn w B size A m c news) (h1 : ∀ u ∈ news, u.oneCell' = true)
    (h63 : n + m ≤ maxLen) (hbytes : (n + m) * bytes ≤ 140737488355328) (hbase : base ≤ w.heap.size)
    (h : ∀ v' w', w'.ownsRow base e size v' (n + m) (xs ++ news) → w.grownBy w' v.ownBlock → (v'.ownBlock = v.ownBlock ∨ v'.ownBlock = some w.heap.size) → wpList P ops Q rest (a.put o.dst v') w') :
    wpList P ops Q (o :: rest) a w := by
  cases A with
  | none =>
    have hc := hsn.nil rfl
    have hm : m = 0 := by have := hsn.le; omega
    subst hc hm
    have hn : news = [] := List.length_eq_zero_iff.1 (by have := hsn.len; simpa using this)
    subst hn
    exact wpList_append_own_none hgd s x t ho base e i size ht hi v n xs hs hown hx (h v w (by simpa using hown) (World.grownBy.refl w _) (.inl rfl))
  | some ad =>
    refine wpList_append_own_at w hgd s x t ho base e i z size bytes ht hi hz hsize hby hzs hsz v n xs hs hown ad m c news hx hsn.len (fun j u hj => ?_) h1 h63 hbytes hbase (fun v' w' h2 h3 _ h5 => h v' w' h2 h3 h5)
    rcases Nat.eq_zero_or_pos m with h0 | h0
    · have := hsn.len; rw [h0, Nat.zero_mul] at this; rw [List.length_eq_zero_iff.1 this] at hj; cases hj
    · obtain ⟨g, o', e', hb, hc⟩ := hsn.at_ h0
      injection e' with e'
      subst e'
      rw [Go.WideShapes.add_plain]
      exact hc j u hj
end Go.Proofs.YtdbfaknpfepnfaaGreatDoor

/-
  A builder of blocks in memory, and the walk of Add.
-/
namespace Go.Proofs.YtdbfaknpfepnfaaGreatDoor
open Go.RowKit CodecP

set_option maxRecDepth 100000 in
theorem cellOf2 {w : World} {b o : Nat} {cs : Array Value} {t : TypeId} {f : Nat × Nat} {v : Value} (h : w.heap[b]? = some (.cells cs t f)) (hv : cs[o]? = some v) : w.cell? ⟨b, o, none⟩ = some v := by simp [World.cell?, h, hv]
set_option maxRecDepth 100000 in
theorem setAt2 {w : World} {p o : Nat} {cs : Array Value} {t : TypeId} (u : Value) (h : w.heap[p]? = some (.cells cs t (0, 0))) : (w.setCell ⟨p, o, none⟩ u).heap[p]? = some (.cells (cs.setIfInBounds o u) t (0, 0)) := by
  have hlt := lt_of_block h
  have h' : w.heap[p] = .cells cs t (0, 0) := by simpa [Array.getElem?_eq_getElem hlt] using h
  show (w.heap.modify p _)[p]? = _
  rw [Array.getElem?_eq_getElem (by simpa using hlt), Array.getElem_modify_self, h']; rfl
/-- A builder at block p, of the pairs ps; its blocks are those of S. -/
structure Bd (w : World) (p : Nat) (S : Nat → Prop) (ps : List Pr) : Prop where
  rise : Rise ps
  ex : ∃ vw vr, w.heap[p]? = some (.cells #[vw, .string (str (lastK ps)), .int .i64 ps.length, vr] 112 (0, 0)) ∧ w.ownsRow 0 5 1 vw (dat ps).length (u8s (dat ps)) ∧
    w.ownsRow 0 3 1 vr (rst ps).length ((rst ps).map (fun n : Nat => Value.int .i64 n)) ∧ ∀ k, S k ↔ (k = p ∨ vw.ownBlock = some k ∨ vr.ownBlock = some k)
set_option maxRecDepth 100000 in
theorem Bd.lt {w : World} {p : Nat} {S : Nat → Prop} {ps : List Pr} (h : Bd w p S ps) : ∀ k, S k → k < w.heap.size := by
  obtain ⟨vw, vr, h1, h2, h3, h4⟩ := h.ex
  intro k hk
  rcases (h4 k).1 hk with rfl | hk | hk
  · exact lt_of_block h1
  · exact (h2.lt k hk).2
  · exact (h3.lt k hk).2
set_option maxRecDepth 100000 in
theorem Bd.keep {w w' : World} {p : Nat} {S : Nat → Prop} {ps : List Pr} (h : Bd w p S ps) (hb : ∀ k, S k → w'.heap[k]? = w.heap[k]?) : Bd w' p S ps := by
  obtain ⟨vw, vr, h1, h2, h3, h4⟩ := h.ex
  exact ⟨h.rise, vw, vr, (hb p ((h4 p).2 (.inl rfl))).trans h1, owns_of_block h2 (fun k hk => hb k ((h4 k).2 (.inr (.inl hk)))), owns_of_block h3 (fun k hk => hb k ((h4 k).2 (.inr (.inr hk)))), h4⟩
set_option maxRecDepth 100000 in
theorem Bd.below {w w' : World} {p : Nat} {S : Nat → Prop} {ps : List Pr} (h : Bd w p S ps) (hb : Below w.heap.size w w') : Bd w' p S ps := h.keep (fun k hk => hb.block k (h.lt k hk))
/-- What a chain of calls to a writer leaves, of a length that is bounded. -/
def WrL (w0 W : World) (p o : Nat) (cs : Array Value) (t : TypeId) (g : Option Nat) (l : List UInt8) (B : Nat) : Prop := WrBy w0 W p o cs t g l ∧ l.length ≤ B
set_option maxRecDepth 100000 in
theorem size_l {w0 W : World} {p o : Nat} {cs : Array Value} {t : TypeId} {g : Option Nat} {l : List UInt8} {B : Nat} {n : Int} (h : WrL w0 W p o cs t g l B) (hB : B + 16 ≤ 1099511627776) (h1 : -9223372036854775808 ≤ n) (h2 : n < 9223372036854775808) :
    Calls Tryz.prog 111 #[.pointer (some ⟨p, o, none⟩), .int .i64 n] W fun e w' => e = .returned (.pointer (some ⟨p, o, none⟩)) ∧ WrL w0 w' p o cs t g (l ++ grp n.toNat) (B + 10) := by
  obtain ⟨⟨⟨g', hg', hw⟩, hf⟩, hl⟩ := h
  exact (size_any p o cs t g' l n W hw h1 h2 (by omega)).mono (fun e w' h => ⟨h.1, WrBy.trans hf hg' h.2, by have := grp_len n.toNat; rw [List.length_append]; omega⟩)
set_option maxRecDepth 100000 in
theorem raw_l {w0 W : World} {p o : Nat} {cs : Array Value} {t : TypeId} {g : Option Nat} {l : List UInt8} {B : Nat} {s : ByteArray} (h : WrL w0 W p o cs t g l B) (hB : B + s.size ≤ 1099511627776) :
    Calls Tryz.prog 60 #[.pointer (some ⟨p, o, none⟩), .string s] W fun e w' => e = .returned (.pointer (some ⟨p, o, none⟩)) ∧ WrL w0 w' p o cs t g (l ++ bl s) (B + s.size) := by
  obtain ⟨⟨⟨g', hg', hw⟩, hf⟩, hl⟩ := h
  exact (raw_any p o cs t g' l s W hw (by omega)).mono (fun e w' h => ⟨h.1, WrBy.trans hf hg' h.2, by rw [List.length_append, bl_size]; omega⟩)
set_option maxRecDepth 100000 in
theorem fixed4_l {w0 W : World} {p o : Nat} {cs : Array Value} {t : TypeId} {g : Option Nat} {l : List UInt8} {B n : Nat} (h : WrL w0 W p o cs t g l B) (hB : B + 8 ≤ 1099511627776) (hn : n < 4294967296) :
    Calls Tryz.prog 118 #[.pointer (some ⟨p, o, none⟩), .int .u32 n] W fun e w' => e = .returned (.pointer (some ⟨p, o, none⟩)) ∧ WrL w0 w' p o cs t g (l ++ fixed 4 n) (B + 4) := by
  obtain ⟨⟨⟨g', hg', hw⟩, hf⟩, hl⟩ := h
  exact (fixed4_any p o cs t g' l n W hw hn (by omega)).mono (fun e w' h => ⟨h.1, WrBy.trans hf hg' h.2, by rw [List.length_append, fixed_length]; omega⟩)
set_option maxRecDepth 100000 in
theorem own_type {w : World} {B : Nat} {e : TypeId} {size n : Nat} {v : Value} {xs : List Value} (h : w.ownsRow B e size v n xs) {g : Nat} (hg : v.ownBlock = some g) : ∃ cs, w.heap[g]? = some (.cells cs e (0, 0)) := by
  rcases h.2 with ⟨rfl, _⟩ | ⟨g', cap, cur, rfl, _, hh, _⟩
  · cases hg
  · simp [Value.ownBlock] at hg; subst hg; exact ⟨cur, hh⟩
set_option maxRecDepth 100000 in
theorem type_ne {w : World} {g g' : Nat} {t t' : TypeId} {cs cs' : Array Value} (h : w.heap[g]? = some (.cells cs t (0, 0))) (h' : w.heap[g']? = some (.cells cs' t' (0, 0))) (hne : t ≠ t') : g ≠ g' := by
  rintro rfl
  rw [h] at h'
  injection h' with h'
  injection h' with _ ht
  exact hne ht
set_option maxRecDepth 100000 in
theorem free_of2 {w : World} {b : Nat} {cs : Array Value} {t : TypeId} (o : Nat) (h : w.heap[b]? = some (.cells cs t (0, 0))) : w.frozen? ⟨b, o, none⟩ = false := by simp [World.frozen?, h]
set_option maxRecDepth 100000 in
/-- append onto a slice that the call owns, as a step of a region that draws. -/
theorem step_append_own_at {P : Program} {ops : Array Oper} {o : Oper} {a : Act} (w : World) {K : Act → World → Prop} {Q : Exit → Act → World → Prop} {E : Prop} (hgd : o.guard = none) (s x : Operand) (t : TypeId)
    (ho : o.op = .call { callee := .builtin .append, args := #[s, x], argTypes := #[t, t] })
    (base : Nat) (e : TypeId) (i : TypeInfo) (z : Value) (size bytes : Nat) (ht : P.underlying t = some (.slice e)) (hi : P.info? e = some i) (hz : i.zero = some z)
    (hsize : i.size = size) (hby : i.bytes = bytes) (hzs : z.cells.size = size) (hsz : 0 < size)
    (v : Value) (n : Nat) (xs : List Value) (hs : a.eval s = v) (hown : w.ownsRow base e size v n xs)
    (ad : Addr) (m c : Nat) (news : List Value) (hx : a.eval x = .slice (some ad) m c) (hl : news.length = m * size) (hnews : ∀ j u, news[j]? = some u → w.cell? (ad.add j) = some u) (h1 : ∀ u ∈ news, u.oneCell' = true)
    (h63 : n + m ≤ maxLen) (hbytes : (n + m) * bytes ≤ 140737488355328) (hbase : base ≤ w.heap.size)
    (h : ∀ v' w', w'.ownsRow base e size v' (n + m) (xs ++ news) → w.grownBy w' v.ownBlock → (v'.ownBlock = v.ownBlock ∨ v'.ownBlock = some w.heap.size) → K (a.put o.dst v') w') :
    if Region.wanted o (yielded ops a.tmps) = true then Oper.wp P o a w K Q else E := by
  have hw : Region.wanted o (yielded ops a.tmps) = true := by simp [Region.wanted, hgd]
  rw [if_pos hw]
  obtain ⟨v', w', hr, h2, h3, _, h5⟩ := run_append_own_at (P := P) w base t o.type e i z size bytes ht hi hz hsize hby hzs hsz v n xs hown ad m c news hl hnews h1 h63 hbytes hbase
  unfold Oper.wp execOp
  simp only [ho, resolve, invoke, builtin, Sem.run_bind, Sem.run_pure, Result.andThen_ok, List.map_toArray, List.map_cons, List.map_nil, hs, hx, hr]
  exact h v' w' h2 h3 h5
set_option maxRecDepth 100000 in
theorem leq_yes {a b : ByteArray} (h : ¬ bl b < bl a) : (Op.bytesLess a.toList b.toList || a.toList == b.toList) = true := by
  rw [bytesLess_eq, ByteArray.toList_eq, ByteArray.toList_eq]
  rcases Classical.em (bl a < bl b) with h1 | h1
  · rw [decide_eq_true (show a.data.toList < b.data.toList from h1)]; rfl
  · have : bl a = bl b := List.le_antisymm (List.not_lt.1 h) (List.not_lt.1 h1)
    rw [show a.data.toList = b.data.toList from this]; simp
set_option maxRecDepth 100000 in
theorem leq_no {a b : ByteArray} (h : bl b < bl a) : Op.bytesLess a.toList b.toList = false ∧ (a.toList == b.toList) = false := by
  rw [bytesLess_eq, ByteArray.toList_eq, ByteArray.toList_eq]
  refine ⟨decide_eq_false (fun h1 => ?_), beq_eq_false_iff_ne.2 (fun e => ?_)⟩
  · exact absurd (List.lt_trans h1 h) (List.lt_irrefl _)
  · have h2 : b.data.toList < a.data.toList := h
    rw [e] at h2; exact absurd h2 (List.lt_irrefl _)
/-- What Add leaves. -/
def AddP (p : Nat) (S : Nat → Prop) (ps : List Pr) (w : World) (e : Ending) (w' : World) : Prop := e = .returned (.int .i64 0) ∧ ∃ S', Bd w' p S' ps ∧ Fr S w w' ∧ ∀ k, S' k → S k ∨ w.heap.size ≤ k
set_option maxRecDepth 100000 in
theorem add_bad (p : Nat) (S : Nat → Prop) (ps : List Pr) (k v : ByteArray) (w : World) (h : Bd w p S ps) (hk : k.size ≤ maxLen) (hv : v.size ≤ maxLen) (hb : ¬ (Okp (bl k, bl v) ∧ lastK ps < bl k)) :
    Calls Tryz.prog 68 #[(Value.pointer (some ⟨p, 0, none⟩)), .string k, .string v] w fun e w' => e = .returned (.int .i64 1) ∧ w = w' := by
  obtain ⟨vw, vr, h1, h2, h3, h4⟩ := h.ex
  have c1 := cellOf2 (o := 1) h1 rfl
  clear h h1 h2 h3 h4
  by_cases hok : Okp (bl k, bl v)
  · have hl : ¬ lastK ps < bl k := fun h => hb ⟨hok, h⟩
    have hls := leq_yes (a := k) (b := str (lastK ps)) (by rw [bl_str]; exact hl)
    have HR := Lib.hid (right_yes k v w hok)
    clear hb hok hl hk hv
    generalize str (lastK ps) = ls at *
    go_enter Tryz.func68, Tryz.ntmps68
    go_wp2_with fail
    (with_reducible refine HR.out.mono ?_)
    rintro e w1 ⟨rfl, rfl⟩
    go_wp2_with fail
    go_ret
    exact ⟨rfl, rfl⟩
  · have HR := Lib.hid (right_no k v w hk hv hok)
    clear hb hok hk hv
    go_enter Tryz.func68, Tryz.ntmps68
    go_wp2_with fail
    (with_reducible refine HR.out.mono ?_)
    rintro e w1 ⟨rfl, rfl⟩
    go_wp2_with fail
    go_ret
    exact ⟨rfl, rfl⟩
set_option maxRecDepth 100000 in
theorem ext_drop (k : ByteArray) (n : Nat) : bl (k.extract n k.size) = (bl k).drop n := by
  rw [ext_bl, List.take_of_length_le (by rw [List.length_drop, bl_size]; exact Nat.le_refl _)]
set_option maxRecDepth 100000 in
theorem info_int8 : (Tryz.prog.info? 3).map (fun i => (i.zero, i.size, i.bytes)) = some (some (.int .i64 0), 1, 8) := by kernel_rfl
/-- A builder, while a pair is laid: behind its restarts. -/
structure Mid (w wx : World) (p : Nat) (S : Nat → Prop) (vw vr vr2 : Value) (last : ByteArray) (n : Nat) (l : List UInt8) (rs : List Nat) : Prop where
  cells : wx.heap[p]? = some (.cells #[vw, .string last, .int .i64 n, vr2] 112 (0, 0))
  wrow : wx.ownsRow 0 5 1 vw l.length (u8s l)
  rrow : wx.ownsRow 0 3 1 vr2 rs.length (rs.map (fun n : Nat => Value.int .i64 n))
  fr : Fr S w wx
  at_ : vr2.ownBlock = vr.ownBlock ∨ ∃ g, vr2.ownBlock = some g ∧ w.heap.size ≤ g
section
variable {w wx : World} {p : Nat} {S : Nat → Prop} {vw vr vr2 : Value} {last : ByteArray} {n : Nat} {l : List UInt8} {rs : List Nat}
set_option maxRecDepth 100000 in
theorem Mid.wr (h : Mid w wx p S vw vr vr2 last n l rs) : Wr wx p 0 #[undef, .string last, .int .i64 n, vr2] 112 vw.ownBlock l :=
  ⟨vw, h.cells, Nat.zero_lt_succ _, h.wrow, rfl, fun e => by
    obtain ⟨cs, hc⟩ := own_type h.wrow e
    exact type_ne hc h.cells (by decide) rfl⟩
set_option maxRecDepth 100000 in
theorem Mid.wrl (h : Mid w wx p S vw vr vr2 last n l rs) {B : Nat} (hB : l.length ≤ B) : WrL wx wx p 0 #[undef, .string last, .int .i64 n, vr2] 112 vw.ownBlock l B := ⟨WrBy.refl h.wr, hB⟩
set_option maxRecDepth 100000 in
theorem Mid.wrld (h : Mid w wx p S vw vr vr2 last n l rs) {B : Nat} (hB : l.length ≤ B) : WrL wx wx.drew p 0 #[undef, .string last, .int .i64 n, vr2] 112 vw.ownBlock l B :=
  ⟨⟨⟨_, .inl rfl, h.wr⟩, (Fr.refl _ wx).drew⟩, hB⟩
set_option maxRecDepth 100000 in
/-- A restart is noted. -/
theorem Mid.store (h : Mid w wx p S vw vr vr last n l rs) (hS : ∀ k, S k ↔ (k = p ∨ vw.ownBlock = some k ∨ vr.ownBlock = some k)) {o : Obj} {w2 : World} {v2 : Value} {at_ : Nat} (hg : (wx.alloc o).grownBy w2 vr.ownBlock) (hp2 : w2.heap[p]? = some (.cells #[vw, .string last, .int .i64 n, vr] 112 (0, 0)))
    (ho : w2.ownsRow 0 3 1 v2 (rs.length + 1) (rs.map (fun n : Nat => Value.int .i64 n) ++ [.int .i64 at_])) (ha : v2.ownBlock = vr.ownBlock ∨ v2.ownBlock = some (wx.alloc o).heap.size) :
    Mid w (w2.setCell ⟨p, 3, none⟩ v2) p S vw vr v2 last n l (rs ++ [at_]) := by
  have hvp : v2.ownBlock ≠ some p := fun e => by
    obtain ⟨cs, hc⟩ := own_type ho e
    exact type_ne hc hp2 (by decide) rfl
  have hf : Fr (fun k => vr.ownBlock = some k) wx w2 := ((Fr.refl _ wx).alloc o).grown hg (fun _ _ h => h)
  have hw2 : w2.ownsRow 0 5 1 vw l.length (u8s l) := owns_of_block h.wrow (fun k hk => hf.block k (h.wrow.lt k hk).2 (fun e => by
    obtain ⟨cs, hc⟩ := own_type h.wrow hk
    obtain ⟨cs2, hc2⟩ := own_type h.rrow e
    exact type_ne hc hc2 (by decide) rfl))
  have hwp : vw.ownBlock ≠ some p := fun e => by
    obtain ⟨cs, hc⟩ := own_type h.wrow e
    exact type_ne hc h.cells (by decide) rfl
  have hsz : (wx.alloc o).heap.size = wx.heap.size + 1 := by simp
  refine ⟨setAt2 v2 hp2, ownsRow_setCell_other hw2 hwp _, ?_, ?_, ?_⟩
  · rw [List.length_append, List.length_singleton, List.map_append]
    exact ownsRow_setCell_other ho hvp _
  · exact (h.fr.trans hf (fun k _ hk => (hS k).2 (.inr (.inr hk)))).setCell (.inl ((hS p).2 (.inl rfl))) _
  · rcases ha with e | e
    · exact .inl e
    · exact .inr ⟨_, e, by have := h.fr.size; omega⟩
set_option maxRecDepth 100000 in
/-- The writer's blocks and the restarts' have turned; then the last key and the count are written. -/
theorem Mid.done (h : Mid w wx p S vw vr vr2 last n l rs) (hS : ∀ k, S k ↔ (k = p ∨ vw.ownBlock = some k ∨ vr.ownBlock = some k)) {ps : List Pr} {w5 : World} {B : Nat} (h5 : WrL wx w5 p 0 #[undef, .string last, .int .i64 n, vr2] 112 vw.ownBlock (dat ps) B)
    (hr : Rise ps) {k : ByteArray} (hk : lastK ps = bl k) (hn : ps.length = n + 1) (hrs : rst ps = rs) {W : World} (hW : W = (w5.setCell ⟨p, 1, none⟩ (.string k)).setCell ⟨p, 2, none⟩ (.int .i64 ((n : Int) + 1))) :
    ∃ S', Bd W p S' ps ∧ Fr S w W ∧ ∀ k, S' k → S k ∨ w.heap.size ≤ k := by
  subst hW
  obtain ⟨⟨⟨g', hg', hw⟩, hf⟩, -⟩ := h5
  obtain ⟨v', hp, -, ho, hg, hne⟩ := hw
  have hp : w5.heap[p]? = some (.cells #[v', .string last, .int .i64 n, vr2] 112 (0, 0)) := hp
  have hr5 : w5.ownsRow 0 3 1 vr2 rs.length (rs.map (fun n : Nat => Value.int .i64 n)) := owns_of_block h.rrow (fun k hk => by
    refine hf.block k (h.rrow.lt k hk).2 (fun hs => ?_)
    obtain ⟨cs, hc⟩ := own_type h.rrow hk
    rcases hs with rfl | hs
    · exact type_ne hc h.cells (by decide) rfl
    · obtain ⟨cs2, hc2⟩ := own_type h.wrow hs
      exact type_ne hc hc2 (by decide) rfl)
  have h1 := setAt2 (o := 1) (.string k) hp
  have h2 := setAt2 (o := 2) (.int .i64 ((n : Int) + 1)) h1
  have hvp : v'.ownBlock ≠ some p := by rw [hg]; exact hne
  have hrp : vr2.ownBlock ≠ some p := fun e => by
    obtain ⟨cs, hc⟩ := own_type h.rrow e
    exact type_ne hc h.cells (by decide) rfl
  refine ⟨fun k => k = p ∨ v'.ownBlock = some k ∨ vr2.ownBlock = some k, ⟨hr, v', vr2, ?_, ?_, ?_, fun k => Iff.rfl⟩, ?_, fun k hk => ?_⟩
  · rw [h2, hk, str_bl, hn]
    rfl
  · exact ownsRow_setCell_other (ownsRow_setCell_other ho hvp _) hvp _
  · rw [hrs]; exact ownsRow_setCell_other (ownsRow_setCell_other hr5 hrp _) hrp _
  · have hSp : S p := (hS p).2 (.inl rfl)
    refine ((h.fr.trans hf (fun k _ hk => ?_)).setCell (.inl hSp) _).setCell (.inl hSp) _
    rcases hk with rfl | hk
    · exact hSp
    · exact (hS k).2 (.inr (.inl hk))
  · rcases hk with rfl | hk | hk
    · exact .inl ((hS k).2 (.inl rfl))
    · rw [hg] at hk
      rcases hg' with rfl | ⟨j, rfl, hj⟩
      · exact .inl ((hS k).2 (.inr (.inl hk)))
      · injection hk with hk; have := h.fr.size; right; omega
    · rcases h.at_ with e | ⟨g, e, hge⟩
      · rw [e] at hk; exact .inl ((hS k).2 (.inr (.inr hk)))
      · rw [e] at hk; injection hk with hk; right; omega
end
set_option maxRecDepth 100000 in
theorem str_size2 (l : List UInt8) : (str l).size = l.length := str_size l
set_option maxRecDepth 100000 in
set_option maxHeartbeats 4000000 in
theorem add_ok (p : Nat) (S : Nat → Prop) (ps : List Pr) (k v : ByteArray) (w : World) (h : Bd w p S ps) (hok : Okp (bl k, bl v)) (hlt : lastK ps < bl k) (hn : ps.length < 4096) :
    Calls Tryz.prog 68 #[(Value.pointer (some ⟨p, 0, none⟩)), .string k, .string v] w (AddP p S (ps ++ [(bl k, bl v)]) w) := by
  obtain ⟨i0, hi, hz0, hz1, hz2⟩ := info_parts info_int8
  obtain ⟨vw, vr, h1, h2, h3, h4⟩ := h.ex
  have hrise := h.rise.snoc (p := (bl k, bl v)) hok hlt hn
  have hdl := dat_len h.rise.ok
  have hrl : (rst ps).length ≤ 512 := by have := rst_len ps; omega
  have c1 := cellOf2 (o := 1) h1 rfl
  have hks : k.size ≤ 80 := by have := hok.2.1; simp only [bl_size] at this; exact this
  have hvs : v.size ≤ 16000 := by have := hok.2.2; simp only [bl_size] at this; exact this
  obtain ⟨hls1, hls2⟩ := leq_no (a := k) (b := str (lastK ps)) (by rw [bl_str]; exact hlt)
  have HR := Lib.hid (right_yes k v w hok)
  have hlk : (str (lastK ps)).size ≤ 80 := by
    rw [str_size]
    rcases List.eq_nil_or_concat ps with rfl | ⟨r, z, e⟩
    · simp [lastF]
    · rw [List.concat_eq_append] at e
      subst e
      rw [lastK_snoc]; exact (h.rise.ok z (by simp)).2.1
  have HC := Lib.hid (common_any (str (lastK ps)) k w (by unfold maxLen; omega) (by unfold maxLen; omega))
  rw [bl_str] at HC
  have hsame := sameOf_le ps.length (lastK ps) (bl k)
  rw [bl_size] at hsame
  have HSM := Lib.hid (show (if ps.length % 8 = 0 then 0 else cmn (lastK ps) (bl k)) = sameOf ps.length (lastK ps) (bl k) from rfl)
  have HDS := Lib.hid (dat_snoc ps (bl k, bl v))
  have HRS := Lib.hid (rst_snoc ps (bl k, bl v))
  have hmid : Mid w w p S vw vr vr (str (lastK ps)) ps.length (dat ps) (rst ps) := ⟨h1, h2, h3, Fr.refl _ _, .inl rfl⟩
  have HM := Lib.hid hmid
  have H4 := Lib.hid h4
  have HRI := Lib.hid hrise
  generalize hsm : sameOf ps.length (lastK ps) (bl k) = same at *
  obtain ⟨cm, hcm⟩ : ∃ cm, cm = cmn (lastK ps) (bl k) := ⟨_, rfl⟩
  rw [← hcm] at HC HSM
  generalize hlst : str (lastK ps) = ls at *
  unfold AddP
  clear h h1 h2 h3 h4 hmid hrise hok hlt hlk hsm hcm hlst
  generalize hnn : ps.length = n at *
  have HNN := Lib.hid hnn
  generalize hD : dat ps = D at *
  have HDD := Lib.hid hD
  clear hnn hD
  go_enter Tryz.func68, Tryz.ntmps68
  go_wp2_with fail
  (with_reducible refine HR.out.mono ?_)
  rintro e w1 ⟨rfl, rfl⟩
  have c2 := cellOf2 (o := 2) HM.out.cells rfl
  have dn : decide ((4096 : Int) ≤ (n : Int)) = false := by rw [decide_eq_false_iff_not]; omega
  go_wp2_with fail
  (with_reducible refine HC.out.mono ?_)
  rintro e w1 ⟨rfl, hb1⟩
  have hm1 : Mid w w1 p S vw vr vr ls n D (rst ps) := ⟨(hb1.block p (lt_of_block HM.out.cells)).trans HM.out.cells, owns_of_block HM.out.wrow (fun k hk => hb1.block k (HM.out.wrow.lt k hk).2), owns_of_block HM.out.rrow (fun k hk => hb1.block k (HM.out.rrow.lt k hk).2), Fr.of_below _ hb1, .inl rfl⟩
  have HM1 := Lib.hid hm1
  clear hb1 hm1 c1 c2 HR HC HM
  have c2 := cellOf2 (o := 2) HM1.out.cells rfl
  go_upto_if 42 with (fail)
  go_cut [7] (fun sv wx => ∃ vr2, sv = .int .i64 same ∧ Mid w wx p S vw vr vr2 ls n D (rst (ps ++ [(bl k, bl v)])))
  case first =>
    by_cases h8 : n % 8 = 0
    · have d8 : (((n : Int) % 8) == 0) = true := by rw [beq_iff_eq]; omega
      have hb : ∀ W, Fr (fun _ => False) w1 W → Mid w W p S vw vr vr ls n D (rst ps) := fun W hW => ⟨(hW.block p (lt_of_block HM1.out.cells) (fun h => h)).trans HM1.out.cells, owns_of_block HM1.out.wrow (fun k hk => hW.block k (HM1.out.wrow.lt k hk).2 (fun h => h)), owns_of_block HM1.out.rrow (fun k hk => hW.block k (HM1.out.rrow.lt k hk).2 (fun h => h)), HM1.out.fr.trans hW (fun _ _ h => h.elim), .inl rfl⟩
      have HBY := Lib.hid (fun W hW => bytes_any p 0 _ _ _ D W (hb W hW).wr)
      have HMW := Lib.hid hb
      have c3 := cellOf2 (o := 3) HM1.out.cells rfl
      clear hb
      rw [if_pos h8] at HRS HSM
      have hdr : Fr (fun _ => False) w1 w1.drew := (Fr.refl _ _).drew
      have HMD := Lib.hid (HMW.out _ hdr)
      have HBD := Lib.hid (HBY.out _ hdr)
      have hDs : ByteArray.size ⟨D.toArray⟩ = D.length := by simp [ByteArray.size]
      have c3d : w1.drew.cell? ⟨p, 3, none⟩ = some vr := c3
      clear hdr HMW HBY c2 c3
      generalize hst : ByteArray.mk D.toArray = st at *
      clear hst
      have hvr : vr.ownBlock ≠ some p := fun e => by
        obtain ⟨cs, hc⟩ := own_type HMD.out.rrow e
        exact type_ne hc HMD.out.cells (by decide) rfl
      have HVR := Lib.hid hvr
      have c3a : (w1.alloc (.cells #[.int .i64 D.length] 3)).cell? ⟨p, 3, none⟩ = some vr := ((Fr.refl (fun _ => False) w1).alloc _).cell c3d (fun h => h)
      have HLP := Lib.hid (lt_of_block HMD.out.cells)
      have HOA := Lib.hid (show (w1.alloc (.cells #[.int .i64 D.length] 3)).drew.ownsRow 0 3 1 vr (rst ps).length _ from HMD.out.rrow.alloc (.cells #[.int .i64 D.length] 3))
      have HBA := Lib.hid (show (w1.alloc (.cells #[.int .i64 D.length] 3)).drew.heap[p]? = _ from (Below.heap_alloc w1.drew (.cells #[.int .i64 D.length] 3) p HLP.out).trans HMD.out.cells)
      clear hvr
      go_wp2_with fail
      go_region_law (first | (go_simp; refine HBD.out.mono ?_; rintro e w' ⟨rfl, rfl⟩) | (refine step_append_own_at _ (by rfl) (.tmp 47) (.tmp 53) _ (by rfl) 0 3 i0 (.int .i64 0) 1 8 Tryz.underlying107 hi hz0 hz1 hz2 rfl (by decide) _ _ _ (by rfl) HOA.out ⟨w1.heap.size, 0, none⟩ 1 1 [.int .i64 D.length] (by rfl) rfl (cell_one_new w1 _ _) (fun y hy => by simp at hy; subst hy; rfl) (by unfold maxLen; omega) (by omega) (Nat.zero_le _) ?_; intro v2 w2 hown hgrow hat; have HO2 := Lib.hid hown; have HG2 := Lib.hid hgrow; have HA2 := Lib.hid hat; have hp2 : w2.heap[p]? = some (.cells #[vw, .string ls, .int .i64 n, vr] 112 (0, 0)) := (hgrow.block p (by have := HLP.out; simp at this ⊢; omega) (fun e => HVR.out e.symm)).trans HBA.out; have HP2 := Lib.hid hp2; have c32 : w2.cell? ⟨p, 3, none⟩ = some vr := cellOf2 (o := 3) hp2 rfl; have f32 := free_of2 3 hp2; obtain ⟨ao2, cp2, hv2⟩ := own_form hown; subst hv2; clear hown hgrow hat hp2))
      all_goals
        go_wp2_with fail
        go_meet
        case rel =>
          refine ⟨.slice ao2 ((rst ps).length + 1) cp2, by rw [← HSM.out]; rfl, ?_⟩
          rw [HRS.out]
          exact HMD.out.store H4.out HG2.out HP2.out HO2.out HA2.out
    · have d8 : (((n : Int) % 8) == 0) = false := by rw [beq_eq_false_iff_ne]; omega
      rw [if_neg h8] at HRS HSM
      rw [List.append_nil] at HRS
      go_wp2_with fail
      go_meet
      case rel => exact ⟨vr, by rw [← HSM.out], by rw [HRS.out]; exact HM1.out⟩
  case rest =>
    obtain ⟨vr2, rfl, hm2⟩ := hcut
    have HM2 := Lib.hid hm2
    have hL := hm2.wrl (B := 65986560) (by omega)
    have hLd := hm2.wrld (B := 65986560) (by omega)
    obtain ⟨hsame1, hsame2⟩ := hsame
    obtain ⟨ks, hks2⟩ : ∃ ks : Nat, ks = k.size - same := ⟨_, rfl⟩
    have hwk : IntKind.i64.wrap ((k.size : Int) - (same : Int)) = (ks : Int) := by rw [IntWalk.i64_in _ (by omega)]; omega
    have hwk3 : IntKind.i64.wrap (ks : Int) = (ks : Int) := IntWalk.i64_in _ (by omega)
    have HKS := Lib.hid hks2
    have hksl : ks ≤ 80 := by omega
    have hsg : (0 : Int) ≤ (same : Int) := by omega
    have hsg2 : (same : Int) ≤ (k.size : Int) := by omega
    have hex : (k.extract same k.size).size ≤ 80 := by
      rw [ByteArray.size_extract]; omega
    have HEX := Lib.hid (ext_drop k same)
    clear hm2 hks2 c2 hsame1
    go_wp2_with fail
    go_region_with (first | (go_at_call 111; refine (size_l (by assumption) (by decide) (by omega) (by omega)).mono ?_; rintro e w' ⟨rfl, hby⟩) | (go_at_call 60; refine (raw_l (by assumption) (by omega)).mono ?_; rintro e w' ⟨rfl, hby⟩))
    all_goals
      have h5 := hby
      clear hby
      obtain ⟨⟨⟨g5, -, ⟨v5, hp5, -⟩⟩, -⟩, -⟩ := id h5
      have c15 := cellOf2 (o := 1) hp5 rfl
      have c25 := cellOf2 (o := 2) hp5 rfl
      have f15 := free_of2 1 hp5
      have f25 := free_of2 2 hp5
      have e5 : D ++ grp (same : Int).toNat ++ grp (ks : Int).toNat ++ grp (v.size : Int).toNat ++ bl (k.extract same k.size) ++ bl v = dat (ps ++ [(bl k, bl v)]) := by
        rw [HDS.out]; unfold ent; simp only [Int.toNat_natCast, bl_size, HKS.out, HEX.out, List.append_assoc]
      rw [e5] at h5
      have H5 := Lib.hid h5
      clear h5 hL hLd hp5 e5
      go_wp2_with fail
      go_ret
      exact ⟨rfl, HM2.out.done H4.out H5.out HRI.out (by rw [lastK_snoc]) (by rw [List.length_append, List.length_singleton, HNN.out]) rfl rfl⟩
end Go.Proofs.YtdbfaknpfepnfaaGreatDoor

/-
  The walks of a builder's Len, Last, Size, Bytes; the document's example.
-/
namespace Go.Proofs.YtdbfaknpfepnfaaGreatDoor
open Go.RowKit CodecP

set_option maxRecDepth 100000 in
theorem len_b (p : Nat) (S : Nat → Prop) (ps : List Pr) (w : World) (h : Bd w p S ps) :
    Calls Tryz.prog 83 #[(Value.pointer (some ⟨p, 0, none⟩))] w fun e w' => e = .returned (.int .i64 ps.length) ∧ w = w' := by
  obtain ⟨vw, vr, h1, -⟩ := h.ex
  have c2 := cellOf2 (o := 2) h1 rfl
  clear h h1
  go_enter Tryz.func83, Tryz.ntmps83
  go_wp2_with fail
  go_ret
  exact ⟨rfl, rfl⟩
set_option maxRecDepth 100000 in
theorem last_b (p : Nat) (S : Nat → Prop) (ps : List Pr) (w : World) (h : Bd w p S ps) :
    Calls Tryz.prog 112 #[(Value.pointer (some ⟨p, 0, none⟩))] w fun e w' => e = .returned (.string (str (lastK ps))) ∧ w = w' := by
  obtain ⟨vw, vr, h1, -⟩ := h.ex
  have c1 := cellOf2 (o := 1) h1 rfl
  clear h h1
  generalize str (lastK ps) = s at *
  go_enter Tryz.func112, Tryz.ntmps112
  go_wp2_with fail
  go_ret
  exact ⟨rfl, rfl⟩
set_option maxRecDepth 100000 in
theorem Bd.mid {w : World} {p : Nat} {S : Nat → Prop} {ps : List Pr} (h : Bd w p S ps) : ∃ vw vr, Mid w w p S vw vr vr (str (lastK ps)) ps.length (dat ps) (rst ps) := by
  obtain ⟨vw, vr, h1, h2, h3, h4⟩ := h.ex
  exact ⟨vw, vr, h1, h2, h3, Fr.refl _ _, .inl rfl⟩
set_option maxRecDepth 100000 in
theorem Bd.small {w : World} {p : Nat} {S : Nat → Prop} {ps : List Pr} (h : Bd w p S ps) : (dat ps).length ≤ 65986560 ∧ (rst ps).length ≤ 512 := by
  have h1 := dat_len h.rise.ok
  have h2 := rst_len ps
  have h3 := h.rise.le
  omega
set_option maxRecDepth 100000 in
set_option maxHeartbeats 1000000 in
theorem size_b (p : Nat) (S : Nat → Prop) (ps : List Pr) (w : World) (h : Bd w p S ps) :
    Calls Tryz.prog 69 #[(Value.pointer (some ⟨p, 0, none⟩))] w fun e w' => e = .returned (.int .i64 (blk ps).length) ∧ Below w.heap.size w w' := by
  obtain ⟨vw, vr, hm⟩ := h.mid
  obtain ⟨hd, hr⟩ := h.small
  have HBY := Lib.hid (bytes_any p 0 _ _ _ _ w hm.wr)
  have HBD := Lib.hid (bytes_any p 0 _ _ _ _ w.drew hm.wr.drew)
  obtain ⟨ao, cp, hvr⟩ := own_form hm.rrow
  subst hvr
  have c3 := cellOf2 (o := 3) hm.cells rfl
  have e1 : ByteArray.size ⟨(dat ps).toArray⟩ = (dat ps).length := by simp [ByteArray.size]
  have HL := Lib.hid (show ((blk ps).length : Int) = ((dat ps).length : Int) + 4 * ((rst ps).length : Int) + 4 by have := blk_len ps; omega)
  have HB := Lib.hid (Below.refl w.heap.size w)
  clear h hm
  generalize (blk ps).length = B at *
  generalize (dat ps).length = D at *
  generalize (rst ps).length = R at *
  generalize ByteArray.mk (dat ps).toArray = sd at *
  have s1 : IntKind.i64.wrap ((4 : Int) * (R : Int)) = 4 * (R : Int) := IntWalk.i64_in _ (by omega)
  have s2 : IntKind.i64.wrap ((D : Int) + 4 * (R : Int)) = (D : Int) + 4 * (R : Int) := IntWalk.i64_in _ (by omega)
  have s3 : IntKind.i64.wrap ((D : Int) + 4 * (R : Int) + 4) = (D : Int) + 4 * (R : Int) + 4 := IntWalk.i64_in _ (by omega)
  go_enter Tryz.func69, Tryz.ntmps69
  go_wp2_with fail
  go_region_with (go_at_call 62; refine HBD.out.mono ?_; rintro e w' ⟨rfl, rfl⟩)
  all_goals
    go_wp2_with fail
    go_ret
    exact ⟨by rw [HL.out]; rfl, HB.out.drew⟩
set_option maxRecDepth 100000 in
theorem rst_le (ps : List Pr) : ∀ n ∈ rst ps, n ≤ (dat ps).length := by
  refine snocInd (P := fun ps => ∀ n ∈ rst ps, n ≤ (dat ps).length) ?_ ?_ ps
  · intro n hn; cases hn
  · intro ps p ih n hn
    rw [rst_snoc, List.mem_append] at hn
    rw [dat_snoc, List.length_append]
    rcases hn with hn | hn
    · have := ih n hn; omega
    · split at hn
      · simp at hn; omega
      · cases hn
set_option maxRecDepth 100000 in
set_option maxHeartbeats 1000000 in
theorem bytes_b (p : Nat) (S : Nat → Prop) (ps : List Pr) (w : World) (h : Bd w p S ps) :
    Calls Tryz.prog 78 #[(Value.pointer (some ⟨p, 0, none⟩))] w fun e w' => e = .returned (.string (str (blk ps))) ∧ Below w.heap.size w w' := by
  obtain ⟨vw, vr, hm⟩ := h.mid
  obtain ⟨hd, hr⟩ := h.small
  have hBW : ∀ W, Below w.heap.size w W → Mid w W p S vw vr vr (str (lastK ps)) ps.length (dat ps) (rst ps) := fun W hW =>
    ⟨(hW.block p (lt_of_block hm.cells)).trans hm.cells, owns_of_block hm.wrow (fun k hk => hW.block k (hm.wrow.lt k hk).2), owns_of_block hm.rrow (fun k hk => hW.block k (hm.rrow.lt k hk).2), Fr.of_below _ hW, .inl rfl⟩
  have HBW := Lib.hid hBW
  have HLE := Lib.hid (rst_le ps)
  obtain ⟨ao, cp, hvr⟩ := own_form hm.rrow
  subst hvr
  have hcp := (Sn.of_own hm.rrow).le
  have hcm := (Sn.of_own hm.rrow).max
  unfold maxLen at hcm
  have HBL : Hid (blk ps = dat ps ++ (rst ps).flatMap (fixed 4) ++ fixed 4 (rst ps).length) := Lib.hid rfl
  have HN : Hid (Own w (w.alloc (.cells #[.slice none 0 0] 96)) w.heap.size none []) := Lib.hid (Own.new (Below.refl _ _))
  clear h hm hBW
  generalize blk ps = bk at *
  generalize dat ps = D at *
  generalize rst ps = R at *
  go_enter Tryz.func78, Tryz.ntmps78
  go_wp2_with fail
  have HB1 := Lib.hid HN.out.below
  have HBY := Lib.hid (bytes_any p 0 _ _ _ _ _ (HBW.out _ HB1.out).wr)
  generalize w.alloc (.cells #[.slice none 0 0] 96) = w1 at *
  go_wp2_with fail
  (with_reducible refine HBY.out.mono ?_)
  rintro e w2 ⟨rfl, rfl⟩
  have e1 : ByteArray.size ⟨D.toArray⟩ = D.length := by simp [ByteArray.size]
  have hRW := raw_any w.heap.size 0 _ _ _ _ ⟨D.toArray⟩ w1 HN.out.wr (by rw [e1]; simp; omega)
  have HRW := Lib.hid hRW
  clear hRW HBY e1
  go_wp2_with fail
  (with_reducible refine HRW.out.mono ?_)
  rintro e w2 ⟨rfl, hby⟩
  obtain ⟨g2, ho2⟩ := HN.out.step hby
  rw [show ([] : List UInt8) ++ (ByteArray.mk D.toArray).data.toList = D by simp] at ho2
  have HO2 := Lib.hid ho2
  clear hby HRW ho2 HN HB1
  have c3 := cellOf2 (o := 3) (HBW.out _ HO2.out.below).cells rfl
  go_wp2_with fail
  go_loopg [21] R.length (fun g iv wr => ∃ (i : Nat) (g' : Option Nat), i + g = R.length ∧ iv = .int .i64 i ∧ Own w wr w.heap.size g' (D ++ (R.take i).flatMap (fixed 4)))
  case atStart => exact ⟨0, g2, by omega, rfl, by simpa using HO2.out⟩
  case round =>
    clear c3 HO2
    obtain ⟨i, g', hig, rfl, hO⟩ := hrel
    have HO := Lib.hid hO
    clear hO
    by_cases hlt : i < R.length
    · have hm := HBW.out _ HO.out.below
      obtain ⟨g, cap, hvv, _, _, _, _, hcell⟩ := own_pos hm.rrow (by omega)
      injection hvv with hvv _ hvv2
      subst hvv hvv2
      have ci := hcell i (.int .i64 (R[i] : Nat)) (by simp [hlt])
      have hRi := HLE.out R[i] (List.getElem_mem hlt)
      have htk : (R.take (i + 1)).flatMap (fixed 4) = (R.take i).flatMap (fixed 4) ++ fixed 4 R[i] := by
        rw [List.take_succ_eq_append_getElem hlt, List.flatMap_append]; simp
      have hfl : ((R.take i).flatMap (fixed 4)).length ≤ 2048 := by
        have : ∀ l : List Nat, (l.flatMap (fixed 4)).length = 4 * l.length := fun l => by
          induction l with
          | nil => rfl
          | cons a l ih => rw [List.flatMap_cons, List.length_append, ih, fixed_length, List.length_cons]; omega
        rw [this, List.length_take]; omega
      have HF4 := Lib.hid (fixed4_any w.heap.size 0 _ _ g' _ R[i] wr HO.out.wr (by omega) (by rw [List.length_append]; omega))
      have HTK := Lib.hid htk
      have gi : (i : Int) < (R.length : Int) := by omega
      clear hcell htk hfl hm
      generalize R[i] = x at *
      have hx32 : IntKind.u32.wrap (x : Int) = (x : Int) := by rw [IntKind.wrap_u32]; omega
      have hx322 : (x : Int) % 4294967296 = (x : Int) := by omega
      go_wp2_with fail
      (with_reducible refine HF4.out.mono ?_)
      rintro e w3 ⟨rfl, hby⟩
      rw [List.append_assoc, ← HTK.out] at hby
      obtain ⟨g3, ho3⟩ := HO.out.step hby
      have HO3 := Lib.hid ho3
      clear hby ho3 ci HF4
      go_wp2_with fail
      go_roundg (R.length - (i + 1))
      case measure => omega
      case rel => exact ⟨i + 1, g3, by omega, by go_num, HO3.out⟩
    · obtain rfl : i = R.length := by omega
      have ho := HO.out
      rw [List.take_length] at ho
      have HO := Lib.hid ho
      have c3 := cellOf2 (o := 3) (HBW.out _ HO.out.below).cells rfl
      have hfl : (R.flatMap (fixed 4)).length ≤ 2048 := by
        have : ∀ l : List Nat, (l.flatMap (fixed 4)).length = 4 * l.length := fun l => by
          induction l with
          | nil => rfl
          | cons a l ih => rw [List.flatMap_cons, List.length_append, ih, fixed_length, List.length_cons]; omega
        rw [this]; omega
      have HF4 := Lib.hid (fixed4_any w.heap.size 0 _ _ g' _ R.length wr HO.out.wr (by omega) (by rw [List.length_append]; omega))
      have hx32 : IntKind.u32.wrap (R.length : Int) = (R.length : Int) := by rw [IntKind.wrap_u32]; omega
      have hx322 : (R.length : Int) % 4294967296 = (R.length : Int) := by omega
      clear ho hfl
      go_wp2_with fail
      (with_reducible refine HF4.out.mono ?_)
      rintro e w3 ⟨rfl, hby⟩
      obtain ⟨g3, ho3⟩ := HO.out.step hby
      rw [← HBL.out] at ho3
      have HO3 := Lib.hid ho3
      have HBY := Lib.hid (bytes_any _ 0 _ _ _ _ w3 ho3.wr)
      clear hby ho3 HF4
      go_wp2_with fail
      (with_reducible refine HBY.out.mono ?_)
      rintro e w4 ⟨rfl, rfl⟩
      go_wp2_with fail
      go_ret
      exact ⟨rfl, HO3.out.below⟩
end Go.Proofs.YtdbfaknpfepnfaaGreatDoor

/-
  The document's example.
-/
namespace Go.Proofs.YtdbfaknpfepnfaaGreatDoor
open Go.RowKit CodecP

set_option maxRecDepth 100000 in
theorem Bd.new {w0 w : World} (_hb : Below w0.heap.size w0 w) : Bd (w.alloc (.cells #[.slice none 0 0, .string ⟨#[]⟩, .int .i64 0, .slice none 0 0] 112)) w.heap.size (fun k => k = w.heap.size) [] := by
  refine ⟨Rise.nil, .slice none 0 0, .slice none 0 0, ?_, World.ownsRow_nil _ _ _ _, World.ownsRow_nil _ _ _ _, fun k => ⟨fun h => .inl h, fun h => ?_⟩⟩
  · show (w.heap.push _)[w.heap.size]? = _
    rw [Array.getElem?_push, if_pos rfl]; rfl
  · rcases h with h | h | h
    · exact h
    · cases h
    · cases h
set_option maxRecDepth 100000 in
theorem awk_blk : blk ([] ++ [(bl ⟨#[97]⟩, bl ⟨#[49]⟩)]) = [0, 1, 1, 97, 49, 0, 0, 0, 0, 0, 0, 0, 1] := by decide
/-- A builder of the call's own. -/
structure BOwn (w0 w : World) (p : Nat) (S : Nat → Prop) (ps : List Pr) : Prop where
  bd : Bd w p S ps
  own : ∀ k, S k → w0.heap.size ≤ k
  bel : Below w0.heap.size w0 w
set_option maxRecDepth 100000 in
theorem BOwn.add {w0 w w' : World} {p : Nat} {S S' : Nat → Prop} {ps ps' : List Pr} (h : BOwn w0 w p S ps) (hb : Bd w' p S' ps') (hf : Fr S w w') (hs : ∀ k, S' k → S k ∨ w.heap.size ≤ k) : BOwn w0 w' p S' ps' :=
  ⟨hb, fun k hk => by
    rcases hs k hk with h1 | h1
    · exact h.own k h1
    · exact Nat.le_trans h.bel.size h1, h.bel.trans (hf.below h.bel.size (fun k _ hk => h.own k hk))⟩
set_option maxRecDepth 100000 in
theorem BOwn.below {w0 w w' : World} {p : Nat} {S : Nat → Prop} {ps : List Pr} (h : BOwn w0 w p S ps) (hb : Below w.heap.size w w') : BOwn w0 w' p S ps := ⟨h.bd.below hb, h.own, h.bel.trans (hb.mono h.bel.size)⟩
set_option maxRecDepth 100000 in
theorem BOwn.new {w0 w : World} (hb : Below w0.heap.size w0 w) : BOwn w0 (w.alloc (.cells #[.slice none 0 0, .string ⟨#[]⟩, .int .i64 0, .slice none 0 0] 112)) w.heap.size (fun k => k = w.heap.size) [] :=
  ⟨Bd.new hb, fun k hk => by subst hk; exact hb.size, hb.alloc hb.size _⟩
end Go.Proofs.YtdbfaknpfepnfaaGreatDoor

/-
  The walks of the document's Great and Right; pairs in a slice.
-/
namespace Go.Proofs.YtdbfaknpfepnfaaGreatDoor
open Go.RowKit CodecP

def flatR (ps : List Pr) : List Value := ps.flatMap fun p => [Value.string (str p.1), Value.string (str p.2)]
set_option maxRecDepth 100000 in
theorem flatR_length (ps : List Pr) : (flatR ps).length = ps.length * 2 := by
  induction ps with
  | nil => rfl
  | cons p ps ih => simp [flatR] at ih ⊢; omega
set_option maxRecDepth 100000 in
theorem flatR_append (a b : List Pr) : flatR (a ++ b) = flatR a ++ flatR b := by simp [flatR]
set_option maxRecDepth 100000 in
theorem flatR_get (ps : List Pr) (i : Nat) (h : i < ps.length) : (flatR ps)[i * 2]? = some (.string (str ps[i].1)) ∧ (flatR ps)[i * 2 + 1]? = some (.string (str ps[i].2)) := by
  have h1 : flatR ps = flatR (ps.take i) ++ flatR (ps.drop i) := by rw [← flatR_append, List.take_append_drop]
  have h2 : (flatR (ps.take i)).length = i * 2 := by rw [flatR_length, List.length_take]; omega
  have h3 : ps.drop i = ps[i] :: ps.drop (i + 1) := by rw [List.drop_eq_getElem_cons h]
  rw [h1, h3]
  generalize ps.drop (i + 1) = t
  generalize ps[i] = q
  refine ⟨?_, ?_⟩
  · rw [List.getElem?_append_right (by omega), h2]; simp [flatR]
  · rw [List.getElem?_append_right (by omega), h2, show i * 2 + 1 - i * 2 = 1 by omega]; simp [flatR]
set_option maxRecDepth 100000 in
theorem flatR_one (ps : List Pr) : ∀ u ∈ flatR ps, u.oneCell' = true := by
  intro u hu
  unfold flatR at hu
  obtain ⟨p, _, hp⟩ := List.mem_flatMap.1 hu
  simp at hp
  rcases hp with rfl | rfl <;> rfl
/-- Pairs that came in, or that the call has made. -/
structure PrsIn (w : World) (v : Value) (L : List Pr) : Prop where
  ex : ∃ A cap, v = .slice A L.length cap ∧ Sn w w.heap.size 2 A L.length cap (flatR L)
  le : ∀ p ∈ L, p.1.length ≤ maxLen ∧ p.2.length ≤ maxLen
set_option maxRecDepth 100000 in
theorem PrsIn.below {w w' : World} {v : Value} {L : List Pr} (h : PrsIn w v L) (hb : Below w.heap.size w w') : PrsIn w' v L := by
  obtain ⟨⟨A, cap, hv, hs⟩, hl⟩ := h
  exact ⟨⟨A, cap, hv, (hs.below hb).more hb.size⟩, hl⟩
set_option maxRecDepth 100000 in
/-- What there is to know of a pair's cells. -/
theorem PrsIn.cells {w : World} {v : Value} {L : List Pr} (h : PrsIn w v L) {A : Option Addr} {n cap : Nat} (hv : v = .slice A n cap) {i : Nat} (hi : i < L.length) : ∃ b off, A = some ⟨b, off, none⟩ ∧ ∀ W, Below w.heap.size w W → ∀ j, ∀ hj : j < L.length,
    W.cell? ⟨b, off + j * 2, none⟩ = some (.string (str L[j].1)) ∧ W.cell? ⟨b, off + j * 2 + 1, none⟩ = some (.string (str L[j].2)) := by
  obtain ⟨⟨A', cap', hv', hs⟩, -⟩ := h
  rw [hv'] at hv
  injection hv with h1 h2 h3
  subst h1 h2 h3
  obtain ⟨g, o, e, hb, hc⟩ := hs.at_ (by omega)
  refine ⟨g, o, e, fun W hW j hj => ⟨?_, ?_⟩⟩
  · rw [hW.cell (p := ⟨g, o + j * 2, none⟩) hb]; exact hc _ _ (flatR_get L j hj).1
  · rw [hW.cell (p := ⟨g, o + j * 2 + 1, none⟩) hb, Nat.add_assoc]; exact hc _ _ (flatR_get L j hj).2
def gsum (L : List Pr) : Nat := (L.map (fun p => min p.1.length 20000 + min p.2.length 20000)).sum
set_option maxRecDepth 100000 in
theorem gsum_succ (L : List Pr) (i : Nat) (h : i < L.length) : gsum (L.take (i + 1)) = gsum (L.take i) + (min L[i].1.length 20000 + min L[i].2.length 20000) := by
  unfold gsum
  rw [List.take_succ_eq_append_getElem h, List.map_append, List.sum_append]; simp
set_option maxRecDepth 100000 in
theorem gsum_le (L : List Pr) : gsum L ≤ L.length * 40000 := by
  induction L with
  | nil => simp [gsum]
  | cons p L ih => simp [gsum] at ih ⊢; omega
/-- Is there more than is asked of? -/
def Grt (L : List Pr) : Prop := 200 < L.length ∨ 40000 < gsum L
set_option maxRecDepth 100000 in
set_option maxHeartbeats 400000 in
theorem great_any (v : Value) (L : List Pr) (w : World) (h : PrsIn w v L) (b : Bool) (hb : b = true ↔ Grt L) :
    Calls Tryz.prog 25 #[v] w fun e w' => e = .returned (.bool b) ∧ Below w.heap.size w w' := by
  have HC := Lib.hid (fun A n cap hv i hi => h.cells (A := A) (n := n) (cap := cap) hv (i := i) hi)
  have HLE := Lib.hid h.le
  obtain ⟨A, cap, hv, hs⟩ := h.ex
  subst hv
  have hcl := hs.le
  have hcm := hs.max
  unfold maxLen at hcm
  have HBR := Lib.hid (Below.refl w.heap.size w)
  have HG := Lib.hid hb
  clear h hs hb
  by_cases h2 : 200 < L.length
  · have hb1 : b = true := HG.out.2 (.inl h2)
    subst hb1
    have d1 : decide ((200 : Int) < (L.length : Int)) = true := by rw [decide_eq_true_eq]; omega
    go_enter Tryz.func25, Tryz.ntmps25
    go_wp2_with fail
    go_ret
    exact ⟨rfl, HBR.out⟩
  · have d1 : decide ((200 : Int) < (L.length : Int)) = false := by rw [decide_eq_false_iff_not]; omega
    go_enter Tryz.func25, Tryz.ntmps25
    go_wp2_with fail
    go_loopw [3, 4] (fun nv iv wr => ∃ i : Nat, i ≤ L.length ∧ iv = .int .i64 i ∧ nv = .int .i64 (gsum (L.take i)) ∧ Below w.heap.size w wr) (fun _ iv _ => L.length - (intOf iv).toNat)
    case atStart => exact ⟨0, by omega, rfl, rfl, HBR.out⟩
    case round =>
      obtain ⟨i, hi, rfl, rfl, hbel⟩ := hrel
      have HB := Lib.hid hbel
      clear hbel
      have hgl := gsum_le (L.take i)
      rw [List.length_take] at hgl
      by_cases hlt : i < L.length
      · obtain ⟨bk, off, rfl, hc⟩ := HC.out _ _ _ rfl i hlt
        obtain ⟨c0, c1⟩ := hc wr HB.out i hlt
        have HGS := Lib.hid (gsum_succ L i hlt)
        have e0 := str_size L[i].1
        have e1 := str_size L[i].2
        have hl := HLE.out L[i] (List.getElem_mem hlt)
        rw [← e0, ← e1] at HGS hl
        obtain ⟨hl0, hl1⟩ := hl
        unfold maxLen at hl0 hl1
        clear hc e0 e1
        generalize str L[i].1 = sk at *
        generalize str L[i].2 = sv at *
        generalize hGG : gsum (L.take i) = G at *
        have gi : (i : Int) < (L.length : Int) := by omega
        have hGl : G ≤ 8000000 := by omega
        clear hgl hGG
        go_wp2_with fail
        go_quiet (fail)
        go_wp2_with fail
        go_roundw
        case rel => exact ⟨i + 1, by omega, by go_num, by rw [HGS.out]; go_num, HB.out.drewN _⟩
        case measure => simp [intOf]; omega
      · obtain rfl : i = L.length := by omega
        rw [List.take_length]
        have hG := HG.out
        unfold Grt at hG
        have hgl2 := gsum_le L
        generalize gsum L = G at *
        have dg : decide ((40000 : Int) < (G : Int)) = b := by
          cases b with
          | true => have := hG.1 rfl; rw [decide_eq_true_eq]; omega
          | false => rw [decide_eq_false_iff_not]; intro h; have := hG.2 (.inr (by omega)); cases this
        clear hG hgl hgl2
        go_wp2_with fail
        go_ret
        exact ⟨rfl, HB.out⟩
end Go.Proofs.YtdbfaknpfepnfaaGreatDoor

/-
  The walks of the document's Right and Bytes.
-/
namespace Go.Proofs.YtdbfaknpfepnfaaGreatDoor
open Go.RowKit CodecP

set_option maxRecDepth 100000 in
theorem refRight_any (k v : ByteArray) (w : World) (hk : k.size ≤ maxLen) (hv : v.size ≤ maxLen) (b : Bool) (hb : b = true ↔ Okp (bl k, bl v)) :
    Calls Tryz.prog 28 #[.agg #[.string k, .string v]] w fun e w' => e = .returned (.bool b) ∧ Below w.heap.size w w' := by
  unfold Okp at hb
  simp only [bl_size] at hb
  unfold maxLen at hk hv
  have HBR := Lib.hid ((Below.refl w.heap.size w).alloc (Nat.le_refl _) (.cells #[.string k, .string v] 40))
  by_cases h1 : 1 ≤ k.size
  · have d1 : decide ((1 : Int) ≤ (k.size : Int)) = true := by rw [decide_eq_true_eq]; omega
    by_cases h2 : k.size ≤ 80
    · have d2 : decide ((k.size : Int) ≤ 80) = true := by rw [decide_eq_true_eq]; omega
      have d3 : decide ((v.size : Int) ≤ 16000) = b := by
        cases b with
        | true => have := hb.1 rfl; rw [decide_eq_true_eq]; omega
        | false => rw [decide_eq_false_iff_not]; intro h; have := hb.2 ⟨h1, h2, by omega⟩; cases this
      clear hb
      go_enter Tryz.func28, Tryz.ntmps28
      go_wp2_with fail
      go_ret
      exact ⟨rfl, HBR.out⟩
    · have d2 : decide ((k.size : Int) ≤ 80) = false := by rw [decide_eq_false_iff_not]; omega
      have hb1 : b = false := by cases b with
        | true => exact absurd (hb.1 rfl).2.1 h2
        | false => rfl
      subst hb1
      clear hb
      go_enter Tryz.func28, Tryz.ntmps28
      go_wp2_with fail
      go_ret
      exact ⟨rfl, HBR.out⟩
  · have d1 : decide ((1 : Int) ≤ (k.size : Int)) = false := by rw [decide_eq_false_iff_not]; omega
    have hb1 : b = false := by cases b with
      | true => exact absurd (hb.1 rfl).1 h1
      | false => rfl
    subst hb1
    clear hb
    go_enter Tryz.func28, Tryz.ntmps28
    go_wp2_with fail
    go_ret
    exact ⟨rfl, HBR.out⟩
set_option maxRecDepth 100000 in
theorem conv_row {W : World} {B : Nat} {v : Value} {l : List UInt8} (ho : W.ownsRow B 5 1 v l.length (u8s l)) : (convert 94 9 v).run Tryz.prog W = .ok (.string (str l)) W := by
  rcases ho.2 with ⟨rfl, h0⟩ | ⟨gg, cap, cur, rfl, hgg, hh, hcap, hmax, hcs, htk⟩
  · have : l = [] := List.length_eq_zero_iff.1 h0
    subst this
    exact run_convert_bytes_nil (P := Tryz.prog) (w := W) 94 5 Tryz.underlying94 Tryz.underlying5 0 0 9 Tryz.underlying9
  · refine run_convert_bytes_back W 94 9 5 ⟨gg, 0, none⟩ cap l Tryz.underlying94 Tryz.underlying5 Tryz.underlying9 (fun j hj => ?_)
    rw [Go.WideShapes.add_plain, Nat.zero_add]
    rw [ho.cellAt j (by omega)]
    unfold u8s
    rw [List.getElem?_map, List.getElem?_eq_getElem hj]; rfl
set_option maxRecDepth 100000 in
theorem strCells_u8s (s : ByteArray) : Lib.strCells s = u8s (bl s) := rfl
set_option maxRecDepth 100000 in
theorem cmn_comm : ∀ a b : List UInt8, cmn a b = cmn b a
  | [], [] => rfl
  | [], _ :: _ => rfl
  | _ :: _, [] => rfl
  | a :: a1, b :: b1 => by
    unfold cmn
    by_cases h : a = b
    · rw [if_pos h, if_pos h.symm, cmn_comm a1 b1]
    · rw [if_neg h, if_neg (fun e => h e.symm)]
end Go.Proofs.YtdbfaknpfepnfaaGreatDoor

/-
  The walk of the document's Bytes.
-/
namespace Go.Proofs.YtdbfaknpfepnfaaGreatDoor
open Go.RowKit CodecP

set_option maxRecDepth 100000 in
theorem wpList_append_u8 {w : World} {ops : Array Oper} {rest : List Oper} {o : Oper} {a : Act} {Q : Exit → Act → World → Prop} (hgd : o.guard = none) (sl x : Operand)
    (ho : o.op = .call { callee := .builtin .append, args := #[sl, x], argTypes := #[94, 9] })
    (base : Nat) (v : Value) (n : Nat) (l : List UInt8) (hs : a.eval sl = v) (hown : w.ownsRow base 5 1 v n (u8s l)) (s : ByteArray) (hx : a.eval x = .string s)
    (hb : n + s.size ≤ 1099511627776) (hbase : base ≤ w.heap.size)
    (h : ∀ v' w', w'.ownsRow base 5 1 v' (n + s.size) (u8s (l ++ bl s)) → w.grownBy w' v.ownBlock → wpList Tryz.prog ops Q rest (a.put o.dst v') w') : wpList Tryz.prog ops Q (o :: rest) a w := by
  obtain ⟨i0, hi, hz0, hz1, hz2⟩ := info_parts info_u8b
  refine Lib.wpList_append_own_string w hgd sl x 94 9 ho base 5 i0 Tryz.underlying94 Tryz.underlying9 hi hz0 hz1 hz2 v n (u8s l) hs hown s hx (by unfold maxLen; omega) (by omega) hbase (fun v' w' h1 h2 _ => h v' w' ?_ h2)
  rw [u8s_append]
  exact h1
set_option maxRecDepth 100000 in
theorem refFixed4_any (n : Nat) (w : World) (hn : n < 18446744073709551616) :
    Calls Tryz.prog 63 #[.int .u64 n, .int .i64 4] w fun e w' => e = .returned (.string (str (fixed 4 n))) ∧ Below w.heap.size w w' := refFixed_any n 4 w (by decide) hn
set_option maxRecDepth 100000 in
theorem own_len {w : World} {B n : Nat} {v : Value} {l : List UInt8} (h : w.ownsRow B 5 1 v n (u8s l)) : w.ownsRow B 5 1 v l.length (u8s l) := by
  have := h.1
  rw [u8s_length, Nat.mul_one] at this
  rw [this]; exact h
/-- What stands at each round's beginning. -/
structure RB (w wr : World) (L : List Pr) (i : Nat) (bv : Value) : Prop where
  own : wr.ownsRow w.heap.size 5 1 bv (dat (L.take i)).length (u8s (dat (L.take i)))
  bel : Below w.heap.size w wr
def tailS (L : List Pr) (i : Nat) : ByteArray := str ((rst (L.take i)).flatMap (fixed 4))
set_option maxRecDepth 100000 in
theorem fm4 (l : List Nat) : (l.flatMap (fixed 4)).length = 4 * l.length := by
  induction l with
  | nil => rfl
  | cons a l ih => rw [List.flatMap_cons, List.length_append, ih, fixed_length, List.length_cons]; omega
set_option maxRecDepth 100000 in
theorem lastK_take (L : List Pr) (i : Nat) (h0 : 0 < i) (h : i ≤ L.length) : lastK (L.take i) = (L[i - 1]'(by omega)).1 := by
  obtain ⟨j, rfl⟩ : ∃ j, i = j + 1 := ⟨i - 1, by omega⟩
  rw [List.take_succ_eq_append_getElem (by omega), lastK_snoc]; rfl
set_option maxRecDepth 100000 in
set_option maxHeartbeats 4000000 in
theorem refBytes_any (v : Value) (L : List Pr) (w : World) (h : PrsIn w v L) (hok : ∀ p ∈ L, Okp p) (hn : L.length ≤ 4096) :
    Calls Tryz.prog 33 #[v] w fun e w' => e = .returned (.string (str (blk L))) ∧ Below w.heap.size w w' := by
  have HC := Lib.hid (fun A n cap hv i hi => h.cells (A := A) (n := n) (cap := cap) hv (i := i) hi)
  have HOK := Lib.hid hok
  obtain ⟨A, cap, hv, hs⟩ := h.ex
  subst hv
  have hcl := hs.le
  have hcm := hs.max
  unfold maxLen at hcm
  have HBR := Lib.hid (Below.refl w.heap.size w)
  clear h hs hok
  go_enter Tryz.func33, Tryz.ntmps33
  go_wp2_with fail
  go_loopg [3, 4, 5, 6] L.length (fun g bv tv nv iv wr => ∃ i : Nat, i + g = L.length ∧ iv = .int .i64 i ∧ nv = .int .i64 (rst (L.take i)).length ∧ tv = .string (tailS L i) ∧ RB w wr L i bv)
  case atStart => exact ⟨0, by omega, rfl, rfl, rfl, World.ownsRow_nil _ _ _ _, HBR.out⟩
  case round =>
    obtain ⟨i, hig, rfl, rfl, rfl, hRB⟩ := hrel
    have hdl := dat_len (fun p hp => HOK.out p (List.mem_of_mem_take hp) : ∀ p ∈ L.take i, Okp p)
    have hrl := rst_len (L.take i)
    have htl : (L.take i).length = i := by rw [List.length_take]; omega
    rw [htl] at hdl hrl
    have hrl2 : (rst (L.take i)).length ≤ 512 := by omega
    have hts : (tailS L i).size ≤ 2048 := by unfold tailS; rw [str_size, fm4]; omega
    obtain ⟨ao, cp, hbv⟩ := own_form hRB.own
    subst hbv
    have HRB := Lib.hid hRB
    clear hRB hrl
    by_cases hlt : i < L.length
    · have hpk := HOK.out L[i] (List.getElem_mem hlt)
      have htk := List.take_succ_eq_append_getElem hlt
      have hds := dat_snoc (L.take i) L[i]
      have hrs := rst_snoc (L.take i) L[i]
      rw [← htk, htl] at hds hrs
      have hsl := sameOf_le i (lastK (L.take i)) L[i].1
      have HDS := Lib.hid hds
      have HRS := Lib.hid hrs
      have HTI : Hid (tailS L i = str ((rst (L.take i)).flatMap (fixed 4))) := Lib.hid rfl
      have HTI2 : Hid (tailS L (i + 1) = str ((rst (L.take (i + 1))).flatMap (fixed 4))) := Lib.hid rfl
      have HSM : Hid (sameOf i (lastK (L.take i)) L[i].1 = if i % 8 = 0 then 0 else cmn (lastK (L.take i)) L[i].1) := Lib.hid rfl
      obtain ⟨h1, h2, h3⟩ := hpk
      have e1 := str_size L[i].1
      have e2 := str_size L[i].2
      have hks : (str L[i].1).size ≤ 80 := by omega
      have hvs : (str L[i].2).size ≤ 16000 := by omega
      obtain ⟨-, hsl2⟩ := hsl
      rw [← e1] at hsl2
      have gi : (i : Int) < (L.length : Int) := by omega
      have hD : (dat (L.take i)).length ≤ 65986560 := by omega
      clear htk hds hrs h1 h2 h3 e1 e2 hdl
      generalize hsm : sameOf i (lastK (L.take i)) L[i].1 = same at *
      clear hsm
      have HTL := Lib.hid htl
      clear htl
      go_upto_if 16 with (fail)
      go_cut [4, 5, 7] (fun tv nv sv wx => tv = .string (tailS L (i + 1)) ∧ nv = .int .i64 (rst (L.take (i + 1))).length ∧ sv = .int .i64 same ∧ Below wr.heap.size wr wx)
      case first =>
        by_cases h8 : i % 8 = 0
        · have d8 : (((i : Int) % 8) == 0) = true := by rw [beq_iff_eq]; omega
          rw [if_pos h8] at HRS HSM
          have HFX := Lib.hid (refFixed4_any (dat (L.take i)).length wr (by omega))
          have hts2 : tailS L i ++ str (fixed 4 (dat (L.take i)).length) = tailS L (i + 1) := by
            rw [HTI.out, HTI2.out, HRS.out, str_append, List.flatMap_append]; simp
          have hrl3 : (rst (L.take (i + 1))).length = (rst (L.take i)).length + 1 := by rw [HRS.out]; simp
          have HTS := Lib.hid hts2
          have HRL := Lib.hid hrl3
          have hfs : (str (fixed 4 (dat (L.take i)).length)).size ≤ 4 := by rw [str_size, fixed_length]; omega
          clear hts2 hrl3 h8
          generalize (dat (L.take i)).length = D at *
          generalize str (fixed 4 D) = fx at *
          generalize tailS L i = tl at *
          generalize (rst (L.take i)).length = R at *
          have hw1 : IntKind.u64.wrap (D : Int) = (D : Int) := by rw [IntKind.wrap_u64]; omega
          have hw2 : (D : Int) % 18446744073709551616 = (D : Int) := by omega
          have hcat : ¬ 9223372036854775807 < tl.size + fx.size := by omega
          go_wp2_with fail
          (with_reducible refine HFX.out.mono ?_)
          rintro e w2 ⟨rfl, hb2⟩
          have HB2 := Lib.hid hb2
          clear hb2
          go_wp2_with fail
          go_meet
          case rel => exact ⟨by rw [← HTS.out], by rw [HRL.out]; go_num, by rw [HSM.out]; rfl, HB2.out⟩
        · have d8 : (((i : Int) % 8) == 0) = false := by rw [beq_eq_false_iff_ne]; omega
          rw [if_neg h8] at HRS HSM
          rw [List.append_nil] at HRS
          have i0 : 0 < i := by omega
          have hlk := lastK_take L i i0 (by omega)
          rw [hlk] at HSM
          obtain ⟨bk, off, rfl, hc⟩ := HC.out _ _ _ rfl i hlt
          have hcl1 := fun W hW => (hc W hW i hlt).1
          have hcl2 := fun W hW => (hc W hW (i - 1) (by omega)).1
          have hip : ((i : Int) - 1).toNat = i - 1 := by omega
          have s3 : IntKind.i64.wrap ((i : Int) - 1) = (i : Int) - 1 := IntWalk.i64_in _ (by omega)
          have s5 : (0 : Int) ≤ (i : Int) - 1 := by omega
          have s6 : (i : Int) - 1 < (L.length : Int) := by omega
          have hk2 : (str L[i - 1].1).size ≤ 80 := by rw [str_size]; exact (HOK.out L[i - 1] (List.getElem_mem _)).2.1
          have hsz : (L[i].1 = bl (str L[i].1)) ∧ (L[i - 1].1 = bl (str L[i - 1].1)) := ⟨(bl_str _).symm, (bl_str _).symm⟩
          rw [hsz.1, hsz.2, cmn_comm] at HSM
          have HC1 := Lib.hid hcl1
          have HC2 := Lib.hid hcl2
          clear hc hcl1 hcl2 hlk hsz h8
          generalize str L[i].1 = ka at *
          generalize str L[i - 1].1 = kb at *
          go_wp2_with fail
          go_loopg [7] ka.size (fun g sv wx => ∃ j : Nat, j + g = ka.size ∧ j ≤ kb.size ∧ sv = .int .i64 j ∧ (∀ q, q < j → (bl ka)[q]? = (bl kb)[q]?) ∧ Below wr.heap.size wr wx)
          case atStart => exact ⟨0, by omega, by omega, rfl, fun q hq => by omega, Below.refl _ _⟩
          case round =>
            obtain ⟨j, hjg, hjb, rfl, hall, hbx⟩ := hrel
            have HALL := Lib.hid hall
            have HBX := Lib.hid hbx
            have hbw : Below w.heap.size w wr := HRB.out.bel.trans (hbx.mono HRB.out.bel.size)
            have c1 := HC1.out wr hbw
            have c2 := HC2.out wr hbw
            have HFIN := Lib.hid (fun (h : j = ka.size ∨ j = kb.size ∨ (bl ka)[j]? ≠ (bl kb)[j]?) => show same = j from by
              rw [HSM.out]
              refine cmn_is _ _ j (by rw [bl_size]; omega) (by rw [bl_size]; omega) HALL.out ?_
              rw [bl_size, bl_size]; exact h)
            clear hall hbx hbw
            by_cases h1 : j < ka.size
            · have d1 : decide ((j : Int) < (ka.size : Int)) = true := by rw [decide_eq_true_eq]; omega
              have g1 : (j : Int) < (ka.size : Int) := by omega
              by_cases h2 : j < kb.size
              · have d2 : decide ((j : Int) < (kb.size : Int)) = true := by rw [decide_eq_true_eq]; omega
                have g2 : (j : Int) < (kb.size : Int) := by omega
                by_cases h3 : ka[j] = kb[j]
                · have q : ((ka[j].toNat : Int) == (kb[j].toNat : Int)) = true := by rw [h3]; simp
                  have HX := Lib.hid (show (bl ka)[j]? = (bl kb)[j]? by rw [bl_at ka j h1, bl_at kb j h2, h3])
                  clear h3
                  go_wp2_with fail
                  go_quiet (fail)
                  go_wp2_with fail
                  go_roundg (ka.size - (j + 1))
                  case measure => omega
                  case rel => exact ⟨j + 1, by omega, by omega, by go_num, fun q hq => by
                    rcases Nat.lt_or_eq_of_le (Nat.le_of_lt_succ hq) with h | h
                    · exact HALL.out q h
                    · subst h; exact HX.out, HBX.out.drewN _⟩
                · have q : ((ka[j].toNat : Int) == (kb[j].toNat : Int)) = false := by
                    rw [beq_eq_false_iff_ne]; intro e
                    exact h3 (UInt8.toNat_inj.1 (by omega))
                  obtain rfl := HFIN.out (.inr (.inr (by rw [bl_at ka j h1, bl_at kb j h2]; intro e; injection e with e; exact h3 e)))
                  clear h3
                  go_wp2_with fail
                  go_quiet (fail)
                  go_wp2_with fail
                  go_meet
                  case rel => exact ⟨by rw [HTI2.out, HRS.out, ← HTI.out], by rw [HRS.out], rfl, HBX.out.drewN _⟩
              · have d2 : decide ((j : Int) < (kb.size : Int)) = false := by rw [decide_eq_false_iff_not]; omega
                obtain rfl := HFIN.out (.inr (.inl (by omega)))
                go_wp2_with fail
                go_quiet (fail)
                go_wp2_with fail
                go_meet
                case rel => exact ⟨by rw [HTI2.out, HRS.out, ← HTI.out], by rw [HRS.out], rfl, HBX.out.drewN _⟩
            · have d1 : decide ((j : Int) < (ka.size : Int)) = false := by rw [decide_eq_false_iff_not]; omega
              obtain rfl := HFIN.out (.inl (by omega))
              go_wp2_with fail
              go_quiet (fail)
              go_wp2_with fail
              go_meet
              case rel => exact ⟨by rw [HTI2.out, HRS.out, ← HTI.out], by rw [HRS.out], rfl, HBX.out.drewN _⟩
      case rest =>
        obtain ⟨rfl, rfl, rfl, hb2⟩ := hcut
        obtain ⟨bk, off, rfl, hc⟩ := HC.out _ _ _ rfl i hlt
        have hcw := fun W hW => hc W hW i hlt
        have HCW := Lib.hid hcw
        have HO0 := Lib.hid (owns_of_block HRB.out.own (fun k hk => hb2.block k (HRB.out.own.lt k hk).2))
        have hb0 := HRB.out.bel.trans (hb2.mono HRB.out.bel.size)
        have HB0 := Lib.hid hb0
        obtain ⟨kl, hkl⟩ : ∃ kl : Nat, kl = (str L[i].1).size - same := ⟨_, rfl⟩
        have hgl1 := grp_len same
        have hgl2 := grp_len kl
        have hgl3 := grp_len (str L[i].2).size
        have HE : Hid (dat (L.take (i + 1)) = dat (L.take i) ++ bl (str (grp same)) ++ bl (str (grp kl)) ++ bl (str (grp (str L[i].2).size)) ++ bl ((str L[i].1).extract same (str L[i].1).size) ++ bl (str L[i].2)) := Lib.hid (by
          rw [HDS.out, hkl]
          unfold ent
          rw [ext_drop]
          simp only [bl_str, str_size, List.append_assoc])
        have hks2 : kl ≤ 80 := by omega
        have hwk : IntKind.i64.wrap (((str L[i].1).size : Int) - (same : Int)) = (kl : Int) := by rw [IntWalk.i64_in _ (by omega)]; omega
        have hwk2 : ((str L[i].1).size : Int) - (same : Int) = (kl : Int) := by omega
        have hex : ((str L[i].1).extract same (str L[i].1).size).size ≤ 80 := by rw [ByteArray.size_extract]; omega
        have hxs : ((str L[i].1).extract same (str L[i].1).size).size = (str L[i].1).size - same := by rw [ByteArray.size_extract]; omega
        have hsg2 : (same : Int) ≤ ((str L[i].1).size : Int) := by omega
        have HG1 := Lib.hid (fun W => refGroups_any same W (by omega))
        have HG2 := Lib.hid (fun W => refGroups_any kl W (by omega))
        have HG3 := Lib.hid (fun W => refGroups_any (str L[i].2).size W (by omega))
        obtain ⟨c0, c1⟩ := hcw wc hb0
        clear hcw hc hb2 hb0 hkl HSM HTI HTI2
        have hgs1 := str_size (grp same)
        have hgs2 := str_size (grp kl)
        have hgs3 := str_size (grp (str L[i].2).size)
        rw [← hgs1] at hgl1
        rw [← hgs2] at hgl2
        rw [← hgs3] at hgl3
        clear hgs1 hgs2 hgs3
        generalize str L[i].1 = sk at *
        generalize str L[i].2 = sv at *
        generalize str (grp same) = t1 at *
        generalize str (grp kl) = t2 at *
        generalize str (grp sv.size) = t3 at *
        generalize dat (L.take i) = D at *
        have hw1 : IntKind.u64.wrap (same : Int) = (same : Int) := by rw [IntKind.wrap_u64]; omega
        have hw2 : IntKind.u64.wrap (kl : Int) = (kl : Int) := by rw [IntKind.wrap_u64]; omega
        have hw3 : IntKind.u64.wrap (sv.size : Int) = (sv.size : Int) := by rw [IntKind.wrap_u64]; omega
        go_wp2_with fail
        (with_reducible refine (HG1.out _).mono ?_)
        rintro e w5 ⟨rfl, hb5⟩
        have HO0 := Lib.hid (owns_of_block HO0.out (fun k hk => hb5.block k (HO0.out.lt k hk).2))
        have hbx := HB0.out.trans (hb5.mono HB0.out.size)
        have HB0 := Lib.hid hbx
        clear c0 c1
        obtain ⟨c0, c1⟩ := HCW.out w5 hbx
        clear hb5 hbx
        go_wp2_with (at_builtin; refine wpList_append_u8 rfl (.tmp 64) (.tmp 67) rfl w.heap.size _ _ _ rfl HO0.out t1 rfl (by omega) HB0.out.size ?_; intro v1 w1 hown hgrow; have hb := HB0.out.grown hgrow HB0.out.size (fun j hj => (HO0.out.lt j hj).1); obtain ⟨c0', c1'⟩ := HCW.out w1 hb; have HO1 := Lib.hid hown; have HB1 := Lib.hid hb; obtain ⟨ao1, cp1, hv1⟩ := own_form hown; subst hv1; clear hown hgrow hb)
        (with_reducible refine (HG2.out _).mono ?_)
        rintro e w6 ⟨rfl, hb6⟩
        clear c0' c1'
        have HO1 := Lib.hid (owns_of_block HO1.out (fun k hk => hb6.block k (HO1.out.lt k hk).2))
        have hbx := HB1.out.trans (hb6.mono HB1.out.size)
        have HB1 := Lib.hid hbx
        clear c0 c1
        obtain ⟨c0, c1⟩ := HCW.out w6 hbx
        clear hb6 hbx
        go_wp2_with (at_builtin; refine wpList_append_u8 rfl (.tmp 69) (.tmp 79) rfl w.heap.size _ _ _ rfl HO1.out t2 rfl (by omega) HB1.out.size ?_; intro v2 w2 hown hgrow; have hb := HB1.out.grown hgrow HB1.out.size (fun j hj => (HO1.out.lt j hj).1); obtain ⟨c0', c1'⟩ := HCW.out w2 hb; have HO2 := Lib.hid hown; have HB2 := Lib.hid hb; obtain ⟨ao2, cp2, hv2⟩ := own_form hown; subst hv2; clear hown hgrow hb)
        (with_reducible refine (HG3.out _).mono ?_)
        rintro e w7 ⟨rfl, hb7⟩
        clear c0' c1'
        have HO2 := Lib.hid (owns_of_block HO2.out (fun k hk => hb7.block k (HO2.out.lt k hk).2))
        have hbx := HB2.out.trans (hb7.mono HB2.out.size)
        have HB2 := Lib.hid hbx
        clear c0 c1
        obtain ⟨c0, c1⟩ := HCW.out w7 hbx
        clear hb7 hbx
        go_wp2_with (first | (at_builtin; refine wpList_append_u8 rfl (.tmp 81) (.tmp 89) rfl w.heap.size _ _ _ rfl HO2.out t3 rfl (by omega) HB2.out.size ?_; intro v3 w3 hown hgrow; have hb := HB2.out.grown hgrow HB2.out.size (fun j hj => (HO2.out.lt j hj).1); obtain ⟨c0', c1'⟩ := HCW.out w3 hb; have HO3 := Lib.hid hown; have HB3 := Lib.hid hb; obtain ⟨ao3, cp3, hv3⟩ := own_form hown; subst hv3; clear hown hgrow hb) | (at_builtin; refine wpList_append_u8 rfl (.tmp 91) (.tmp 98) rfl w.heap.size _ _ _ rfl HO3.out (sk.extract same sk.size) rfl (by omega) HB3.out.size ?_; intro v4 w4 hown hgrow; rw [hxs] at hown; have hb := HB3.out.grown hgrow HB3.out.size (fun j hj => (HO3.out.lt j hj).1); obtain ⟨c0', c1'⟩ := HCW.out w4 hb; have HO4 := Lib.hid hown; have HB4 := Lib.hid hb; obtain ⟨ao4, cp4, hv4⟩ := own_form hown; subst hv4; clear hown hgrow hb) | (at_builtin; refine wpList_append_u8 rfl (.tmp 100) (.tmp 105) rfl w.heap.size _ _ _ rfl HO4.out sv rfl (by omega) HB4.out.size ?_; intro v5 w5 hown hgrow; have hb := HB4.out.grown hgrow HB4.out.size (fun j hj => (HO4.out.lt j hj).1); obtain ⟨c0', c1'⟩ := HCW.out w5 hb; have HO5 := Lib.hid hown; have HB5 := Lib.hid hb; obtain ⟨ao5, cp5, hv5⟩ := own_form hown; subst hv5; clear hown hgrow hb))
        go_roundg (L.length - (i + 1))
        case measure => omega
        case rel => exact ⟨i + 1, by omega, by go_num, rfl, rfl, own_len (by rw [HE.out]; exact HO5.out), HB5.out⟩
    · obtain rfl : i = L.length := by omega
      rw [List.take_length] at hrl2
      have ho := HRB.out.own
      have HTI : Hid (tailS L L.length = str ((rst (L.take L.length)).flatMap (fixed 4))) := Lib.hid rfl
      rw [List.take_length] at ho HTI
      rw [List.take_length]
      have HO := Lib.hid ho
      have HB := Lib.hid HRB.out.bel
      have HFX := Lib.hid (fun W => refFixed4_any (rst L).length W (by omega))
      have hcv := fun W (hW : Below wr.heap.size wr W) => conv_row (owns_of_block HO.out (fun k hk => hW.block k (HO.out.lt k hk).2))
      have HCV := Lib.hid hcv
      have hc0 := hcv wr (Below.refl _ _)
      have hcd : (convert 94 9 (.slice ao (dat L).length cp)).run Tryz.prog wr.drew = .ok (.string (str (dat L))) wr.drew := hcv wr.drew (Below.refl _ _).drew
      have e1 := str_size (dat L)
      have e2 : (str (fixed 4 (rst L).length)).size ≤ 4 := by rw [str_size, fixed_length]; omega
      have HE : Hid (str (dat L) ++ tailS L L.length ++ str (fixed 4 (rst L).length) = str (blk L)) := Lib.hid (by
        rw [HTI.out, str_append, str_append]; rfl)
      have hD : (dat L).length ≤ 65986560 := by rw [List.take_length] at hdl; omega
      clear hdl ho hcv htl
      generalize tailS L L.length = tl at *
      generalize (dat L).length = D at *
      generalize str (dat L) = sd at *
      generalize (rst L).length = R at *
      generalize str (fixed 4 R) = fx at *
      have hw1 : IntKind.u64.wrap (R : Int) = (R : Int) := by rw [IntKind.wrap_u64]; omega
      have hcat1 : ¬ 9223372036854775807 < sd.size + tl.size := by omega
      have hcat2 : ¬ 9223372036854775807 < sd.size + tl.size + fx.size := by omega
      have hcat3 : ¬ 9223372036854775807 < (sd ++ tl).size + fx.size := by rw [ByteArray.size_append]; omega
      clear e1
      go_wp2_with fail
      go_region_with (go_at_call 63; refine (HFX.out _).mono ?_; rintro e w3 ⟨rfl, hb3⟩; have hcx := HCV.out w3 (Below.trans (Below.refl _ _).drew hb3))
      all_goals
        go_wp2_with fail
        go_ret
        exact ⟨by rw [← HE.out]; rfl, HB.out.trans ((Below.trans (Below.refl _ _).drew hb3).mono HB.out.size)⟩
end Go.Proofs.YtdbfaknpfepnfaaGreatDoor

/-
  What is framed, one behind the other: the plain law; the walks of crc.All and of the document's Open and All.
-/
namespace Go.Proofs.YtdbfaknpfepnfaaGreatDoor
open Go.RowKit Go.Deep CrcP CodecP FrameP

def allR : Nat → List UInt8 → List (List UInt8) × Nat × Nat
  | 0, _ => ([], 0, 0)
  | f + 1, s => if s = [] then ([], 0, 0) else if (opn s).2.2 ≠ 0 then ([], 0, (opn s).2.2) else
    ((opn s).1 :: (allR f (s.drop (opn s).2.1)).1, (opn s).2.1 + (allR f (s.drop (opn s).2.1)).2.1, (allR f (s.drop (opn s).2.1)).2.2)
def allF (s : List UInt8) := allR s.length s
set_option maxRecDepth 100000 in
theorem opn_pos (s : List UInt8) (h : (opn s).2.2 = 0) : (opn s).1.length ≤ 131072 ∧ (opn s).2.1 = 12 + (opn s).1.length ∧ (opn s).2.1 ≤ s.length ∧ s.take (opn s).2.1 = frame (opn s).1 := by
  have := frame_opn s (opn s).1 (opn s).2.1 (by rw [← h])
  exact this
set_option maxRecDepth 100000 in
theorem allR_more (f : Nat) : ∀ (g : Nat) (s : List UInt8), s.length ≤ f → f ≤ g → allR g s = allR f s := by
  induction f with
  | zero =>
    intro g s h _
    have : s = [] := List.length_eq_zero_iff.1 (by omega)
    subst this
    cases g <;> simp [allR]
  | succ f ih =>
    intro g s h hg
    obtain ⟨g, rfl⟩ : ∃ k, g = k + 1 := ⟨g - 1, by omega⟩
    by_cases hs : s = []
    · simp [allR, hs]
    · by_cases hw : (opn s).2.2 ≠ 0
      · simp [allR, hs, hw]
      · have hp := opn_pos s (by omega)
        have := ih g (s.drop (opn s).2.1) (by simp; omega) (by omega)
        simp [allR, hs, hw, this]
set_option maxRecDepth 100000 in
theorem allF_step (s : List UInt8) (hs : s ≠ []) (hw : (opn s).2.2 = 0) : allF s = ((opn s).1 :: (allF (s.drop (opn s).2.1)).1, (opn s).2.1 + (allF (s.drop (opn s).2.1)).2.1, (allF (s.drop (opn s).2.1)).2.2) := by
  have hp := opn_pos s hw
  have hl : 0 < s.length := List.length_pos_iff.2 hs
  obtain ⟨k, hk⟩ : ∃ k, s.length = k + 1 := ⟨s.length - 1, by omega⟩
  unfold allF
  rw [hk]
  have := allR_more (s.drop (opn s).2.1).length k (s.drop (opn s).2.1) (Nat.le_refl _) (by simp; omega)
  simp only [allR, hs, hw, if_false, ne_eq, not_true_eq_false, this]
set_option maxRecDepth 100000 in
theorem allF_bad (s : List UInt8) (hs : s ≠ []) (hw : (opn s).2.2 ≠ 0) : allF s = ([], 0, (opn s).2.2) := by
  have hl : 0 < s.length := List.length_pos_iff.2 hs
  obtain ⟨k, hk⟩ : ∃ k, s.length = k + 1 := ⟨s.length - 1, by omega⟩
  unfold allF
  rw [hk]
  simp [allR, hs, hw]
set_option maxRecDepth 100000 in
theorem allF_nil : allF [] = ([], 0, 0) := rfl
/-- So far. -/
def AllTo (s : List UInt8) (L : List (List UInt8)) (k : Nat) : Prop := k ≤ s.length ∧ L.length ≤ k ∧ (∀ x ∈ L, x.length ≤ 131072) ∧ allF s = (L ++ (allF (s.drop k)).1, k + (allF (s.drop k)).2.1, (allF (s.drop k)).2.2)
set_option maxRecDepth 100000 in
theorem AllTo.start (s : List UInt8) : AllTo s [] 0 := ⟨by omega, by simp, by simp, by simp⟩
set_option maxRecDepth 100000 in
theorem AllTo.step {s : List UInt8} {L : List (List UInt8)} {k : Nat} (h : AllTo s L k) (hk : k < s.length) (hw : (opn (s.drop k)).2.2 = 0) : AllTo s (L ++ [(opn (s.drop k)).1]) (k + (opn (s.drop k)).2.1) := by
  obtain ⟨h1, h2, h3, h4⟩ := h
  have hp := opn_pos _ hw
  have hne : s.drop k ≠ [] := by intro h; have := List.drop_eq_nil_iff.1 h; omega
  have hs := allF_step _ hne hw
  rw [List.length_drop] at hp
  refine ⟨by omega, by simp; omega, ?_, ?_⟩
  · intro x hx
    rcases List.mem_append.1 hx with h | h
    · exact h3 x h
    · rw [List.mem_singleton.1 h]; exact hp.1
  · rw [h4, hs, List.drop_drop]
    simp [Nat.add_assoc]
set_option maxRecDepth 100000 in
theorem AllTo.bad {s : List UInt8} {L : List (List UInt8)} {k : Nat} (h : AllTo s L k) (hk : k < s.length) (hw : (opn (s.drop k)).2.2 ≠ 0) : allF s = (L, k, (opn (s.drop k)).2.2) := by
  have hne : s.drop k ≠ [] := by intro h; have := List.drop_eq_nil_iff.1 h; omega
  rw [h.2.2.2, allF_bad _ hne hw]; simp
set_option maxRecDepth 100000 in
theorem AllTo.done {s : List UInt8} {L : List (List UInt8)} {k : Nat} (h : AllTo s L k) (hk : s.length ≤ k) : allF s = (L, k, 0) := by
  have : s.drop k = [] := List.drop_eq_nil_iff.2 hk
  rw [h.2.2.2, this, allF_nil]; simp

end Go.Proofs.YtdbfaknpfepnfaaGreatDoor

/-
  The walks of the document's Value, Open, All and Same.
-/
namespace Go.Proofs.YtdbfaknpfepnfaaGreatDoor
open Go.RowKit Go.Deep CrcP CodecP FrameP

set_option maxRecDepth 100000 in
theorem refValue_any (s : ByteArray) (w : World) (hs : s.size ≤ 8) :
    Calls Tryz.prog 15 #[.string s] w fun e w' => e = .returned (.int .u64 (value (bl s) : Nat)) ∧ w = w' := by
  go_enter Tryz.func15, Tryz.ntmps15
  go_wp2
  go_loop [3, 4] (fun x c => ∃ k : Nat, k ≤ s.size ∧ c = .int .i64 k ∧ x = .int .u64 (value ((bl s).take k) : Nat)) (fun _ c => s.size - (intOf c).toNat)
  case atStart => exact ⟨0, by omega, rfl, rfl⟩
  case round =>
    obtain ⟨k, hk, rfl, rfl⟩ := hrel
    by_cases hlt : k < s.size
    · have hv := value_take (bl s) k hlt
      have hl := value_take_lt (bl s) k (by omega)
      rw [getD_bl s k hlt] at hv
      have hc := (s[k]).toNat_lt
      generalize value ((bl s).take k) = x at *
      have HV := Lib.hid hv
      clear hv
      go_wp2
      go_round
      case rel => exact ⟨k + 1, by omega, by go_num, by rw [HV.out]; go_num⟩
      case measure => simp [intOf]; omega
    · go_wp2
      go_ret
      exact ⟨ret_u64 (by rw [List.take_of_length_le (by show s.size ≤ k; omega)]), rfl⟩

set_option maxRecDepth 100000 in
theorem frame_cut (s : List UInt8) (n : Nat) (h1 : 12 + n ≤ s.length) (hv : value (s.take 4) = n) (hl : laid (s.take 4) = (s.drop 4).take 4) :
    decide (frame ((s.drop 8).take n) = s.take (12 + n)) = decide (laid ((s.drop 8).take n) = (s.drop (8 + n)).take 4) := by
  have h4 : (s.take 4).length = 4 := by rw [List.length_take]; omega
  have hdl : ((s.drop 8).take n).length = n := by rw [List.length_take, List.length_drop]; omega
  have e1 : be4 ((s.drop 8).take n).length = s.take 4 := by
    rw [hdl, ← hv]
    have := fixed_value (s.take 4)
    rw [h4] at this
    exact this
  have e2 : s.take (12 + n) = s.take 4 ++ (s.drop 4).take 4 ++ (s.drop 8).take n ++ (s.drop (8 + n)).take 4 := by
    rw [show 12 + n = 4 + (4 + (n + 4)) by omega, List.take_add, List.take_add, List.take_add, List.drop_drop, List.drop_drop]
    simp [List.append_assoc]
  unfold frame
  rw [e1, e2, hl]
  rw [decide_eq_decide]
  constructor
  · intro h; exact List.append_cancel_left h
  · intro h; rw [h]

end Go.Proofs.YtdbfaknpfepnfaaGreatDoor

/-
  The walk of the document's Open.
-/
namespace Go.Proofs.YtdbfaknpfepnfaaGreatDoor
open Go.RowKit Go.Deep CrcP CodecP FrameP

set_option maxRecDepth 100000 in
theorem _root_.Go.RowKit.Below.undrew {B : Nat} {w w1 : World} (h : Below B w.drew w1) : Below B w w1 := ⟨h.os, h.tape, h.output, h.size, h.block⟩
set_option maxRecDepth 100000 in
set_option maxHeartbeats 2000000 in
theorem refCrcOpen_any (s : ByteArray) (w : World) (hs : s.size ≤ 1099511627776) :
    Calls Tryz.prog 165 #[.string s] w fun e w' => e = .returned (opnV (opn (bl s))) ∧ Below w.heap.size w w' := by
  have hbel0 := Below.refl w.heap.size w
  by_cases h8 : s.size < 8
  · have ho : opn (bl s) = ([], 0, 1) := by unfold opn; rw [if_pos (by exact h8)]
    rw [ho]
    clear ho
    go_enter Tryz.func165, Tryz.ntmps165
    go_wp2
    go_ret3
    exact ⟨rfl, hbel0⟩
  · have RV := fun W => refValue_any (s.extract 0 4) W (by simp; omega)
    have RL := fun W => refLaid_any (s.extract 0 4) W (small _ (by simp; omega))
    rw [bl_take] at RV RL
    have hvl : value ((bl s).take 4) < 4294967296 := value_lt4 _ (by rw [List.length_take]; omega)
    have hc1 := ne_str (str (laid ((bl s).take 4))) (s.extract 4 8)
    rw [bl_str, ext_bl] at hc1
    have hO1 : laid ((bl s).take 4) ≠ ((bl s).drop 4).take (8 - 4) → opn (bl s) = ([], 0, 2) := fun h => by
      unfold opn; rw [if_neg (show ¬ (bl s).length < 8 from h8), if_pos (.inl h)]
    have hO2 : 131072 < value ((bl s).take 4) → opn (bl s) = ([], 0, 2) := fun h => by
      unfold opn; rw [if_neg (show ¬ (bl s).length < 8 from h8), if_pos (.inr h)]
    have hO3 : laid ((bl s).take 4) = ((bl s).drop 4).take (8 - 4) → ¬ 131072 < value ((bl s).take 4) → s.size < 12 + value ((bl s).take 4) → opn (bl s) = ([], 0, 1) := fun h1 h2 h3 => by
      unfold opn; rw [if_neg (show ¬ (bl s).length < 8 from h8), if_neg (by rintro (h | h); exact h h1; exact h2 h), if_pos (show (bl s).length < _ from h3)]
    have hO4 : laid ((bl s).take 4) = ((bl s).drop 4).take (8 - 4) → ¬ 131072 < value ((bl s).take 4) → ¬ s.size < 12 + value ((bl s).take 4) → (opn (bl s) = if laid (((bl s).drop 8).take (value ((bl s).take 4))) ≠ ((bl s).drop (8 + value ((bl s).take 4))).take 4 then ([], 0, 2) else (((bl s).drop 8).take (value ((bl s).take 4)), 12 + value ((bl s).take 4), 0)) := fun h1 h2 h3 => by
      unfold opn; rw [if_neg (show ¬ (bl s).length < 8 from h8), if_neg (by rintro (h | h); exact h h1; exact h2 h), if_neg (show ¬ (bl s).length < _ from h3)]
    have hO5 := frame_cut (bl s) (value ((bl s).take 4))
    generalize hn : value ((bl s).take 4) = n at *
    have HNn := Lib.hid hn
    generalize laid ((bl s).take 4) = La at *
    generalize ((bl s).drop 4).take (8 - 4) = Qa at *
    generalize opn (bl s) = O at *
    have HRL := Lib.hid RL
    have HC1 := Lib.hid hc1
    have H1 := Lib.hid hO1
    have H2 := Lib.hid hO2
    have H3 := Lib.hid hO3
    have H4 := Lib.hid hO4
    have H5 := Lib.hid hO5
    clear RL hc1 hO1 hO2 hO3 hO4 hO5 hn
    go_enter Tryz.func165, Tryz.ntmps165
    go_wp2_with fail
    refine (RV _).mono ?_
    rintro e w1 ⟨rfl, rfl⟩
    clear RV
    by_cases hq : La = Qa
    · have q1 : ((str La).toList == (s.extract 4 8).toList) = true := by rw [HC1.out]; simp [hq]
      have q2 : ((str La).toList != (s.extract 4 8).toList) = false := by rw [bne, q1]; rfl
      clear HC1 H1
      by_cases hn2 : 131072 < n
      · have HO := Lib.hid (H2.out hn2)
        clear H2 H3 H4 H5 hq
        go_wp2_with fail
        go_region_with (go_at_call 114; refine (HRL.out _).mono ?_; rintro e w1 ⟨rfl, hb1⟩)
        go_wp2
        go_ret3
        exact ⟨by rw [HO.out]; rfl, hb1.undrew⟩
      · by_cases hn3 : s.size < 12 + n
        · have HO := Lib.hid (H3.out hq hn2 hn3)
          clear H2 H3 H4 H5 hq
          go_wp2_with fail
          go_region_with (go_at_call 114; refine (HRL.out _).mono ?_; rintro e w1 ⟨rfl, hb1⟩)
          go_wp2
          go_ret3
          exact ⟨by rw [HO.out]; rfl, hb1.undrew⟩
        · have ho := H4.out hq hn2 hn3
          have h5 := H5.out (show 12 + n ≤ s.size by omega) trivial hq
          have e8 : bl (s.extract 8 (8 + n)) = ((bl s).drop 8).take n := by rw [ext_bl]; congr 1; omega
          have RF := fun W => refFrame_any (s.extract 8 (8 + n)) W (by simp; omega)
          rw [e8] at RF
          have hc2 := ne_str (str (frame (((bl s).drop 8).take n))) (s.extract 0 (12 + n))
          rw [bl_str, bl_take, h5] at hc2
          have hsd : s.extract 8 (8 + n) = str (((bl s).drop 8).take n) := by rw [← e8, str_bl]
          have HSD := Lib.hid hsd
          have hle : 12 + n ≤ s.size := by omega
          have HRF := Lib.hid RF
          have HC2 := Lib.hid hc2
          have HO := Lib.hid ho
          clear H2 H3 H4 H5 hsd h5 e8 RF hc2 ho hq
          generalize frame (((bl s).drop 8).take n) = Fb at *
          by_cases hlast : laid (((bl s).drop 8).take n) = ((bl s).drop (8 + n)).take 4
          · have r1 : ((str Fb).toList == (s.extract 0 (12 + n)).toList) = true := by rw [HC2.out]; simp [hlast]
            have r2 : ((str Fb).toList != (s.extract 0 (12 + n)).toList) = false := by rw [bne, r1]; rfl
            have ho := HO.out
            rw [if_neg (by simp [hlast])] at ho
            have HO' := Lib.hid ho
            clear HO HC2 hlast ho
            have gA : IntKind.i64.wrap (8 + (n : Int)) = ((8 + n : Nat) : Int) := by rw [show (8 : Int) + (n : Int) = ((8 + n : Nat) : Int) by omega]; exact IntWalk.i64_in _ (by omega)
            have gB : IntKind.i64.wrap (12 + (n : Int)) = ((12 + n : Nat) : Int) := by rw [show (12 : Int) + (n : Int) = ((12 + n : Nat) : Int) by omega]; exact IntWalk.i64_in _ (by omega)
            have gC : ((8 + n : Nat) : Int) ≤ (s.size : Int) := by omega
            have gD : ((12 + n : Nat) : Int) ≤ (s.size : Int) := by omega
            have gE : (8 : Int) ≤ ((8 + n : Nat) : Int) := by omega
            have gF : (0 : Int) ≤ ((8 + n : Nat) : Int) := by omega
            have gG : (0 : Int) ≤ ((12 + n : Nat) : Int) := by omega
            go_wp2_with fail
            go_region_with (go_at_call 114; refine (HRL.out _).mono ?_; rintro e w1 ⟨rfl, hb1⟩)
            go_wp2_with fail
            go_region_with (go_at_call 71; refine (HRF.out _).mono ?_; rintro e w2 ⟨rfl, hb2⟩)
            all_goals
              go_wp2
              all_goals
                go_ret3
                refine ⟨?_, hb1.undrew.trans (Below.mono hb2.undrew hb1.undrew.size)⟩
                rw [HO'.out, HSD.out]; rfl
          · have r1 : ((str Fb).toList == (s.extract 0 (12 + n)).toList) = false := by rw [HC2.out]; simp [hlast]
            have r2 : ((str Fb).toList != (s.extract 0 (12 + n)).toList) = true := by rw [bne, r1]; rfl
            have ho := HO.out
            rw [if_pos hlast] at ho
            have HO' := Lib.hid ho
            clear HO HC2 hlast ho
            have gA : IntKind.i64.wrap (8 + (n : Int)) = ((8 + n : Nat) : Int) := by rw [show (8 : Int) + (n : Int) = ((8 + n : Nat) : Int) by omega]; exact IntWalk.i64_in _ (by omega)
            have gB : IntKind.i64.wrap (12 + (n : Int)) = ((12 + n : Nat) : Int) := by rw [show (12 : Int) + (n : Int) = ((12 + n : Nat) : Int) by omega]; exact IntWalk.i64_in _ (by omega)
            have gC : ((8 + n : Nat) : Int) ≤ (s.size : Int) := by omega
            have gD : ((12 + n : Nat) : Int) ≤ (s.size : Int) := by omega
            have gE : (8 : Int) ≤ ((8 + n : Nat) : Int) := by omega
            have gF : (0 : Int) ≤ ((8 + n : Nat) : Int) := by omega
            have gG : (0 : Int) ≤ ((12 + n : Nat) : Int) := by omega
            go_wp2_with fail
            go_region_with (go_at_call 114; refine (HRL.out _).mono ?_; rintro e w1 ⟨rfl, hb1⟩)
            go_wp2_with fail
            go_region_with (go_at_call 71; refine (HRF.out _).mono ?_; rintro e w2 ⟨rfl, hb2⟩)
            all_goals
              go_wp2
              all_goals
                go_ret3
                refine ⟨?_, hb1.undrew.trans (Below.mono hb2.undrew hb1.undrew.size)⟩
                rw [HO'.out]; rfl
    · have q1 : ((str La).toList == (s.extract 4 8).toList) = false := by rw [HC1.out]; simp [hq]
      have q2 : ((str La).toList != (s.extract 4 8).toList) = true := by rw [bne, q1]; rfl
      have HO := Lib.hid (H1.out hq)
      clear HC1 H1 H2 H3 H4 H5 hq
      have g4 : (4 : Int) ≤ (s.size : Int) := by omega
      have g8 : (8 : Int) ≤ (s.size : Int) := by omega
      go_wp2_with fail
      first | go_region_with (go_at_call 114; refine (HRL.out _).mono ?_; rintro e w1 ⟨rfl, hb1⟩) | fail
      go_wp2
      go_ret3
      exact ⟨by rw [HO.out]; rfl, hb1.undrew⟩
end Go.Proofs.YtdbfaknpfepnfaaGreatDoor

/-
  The walk of the law BlockBuilds.
-/
namespace Go.Proofs.YtdbfaknpfepnfaaGreatDoor
open Go.RowKit CodecP

set_option maxRecDepth 100000 in
theorem Bd.types {w : World} {p : Nat} {S : Nat → Prop} {ps : List Pr} (h : Bd w p S ps) {k : Nat} (hk : S k) : ∃ cs t, w.heap[k]? = some (.cells cs t (0, 0)) ∧ t ≠ 40 := by
  obtain ⟨vw, vr, h1, h2, h3, h4⟩ := h.ex
  rcases (h4 k).1 hk with rfl | hk | hk
  · exact ⟨_, _, h1, by decide⟩
  · obtain ⟨cs, hc⟩ := own_type h2 hk
    exact ⟨cs, _, hc, by decide⟩
  · obtain ⟨cs, hc⟩ := own_type h3 hk
    exact ⟨cs, _, hc, by decide⟩
/-- The builder, and the pairs beside it. -/
structure BN (w0 w : World) (p : Nat) (S : Nat → Prop) (ps : List Pr) (nv : Value) (qs : List Pr) : Prop where
  own : BOwn w0 w p S ps
  row : w.ownsRow w0.heap.size 40 2 nv qs.length (flatR qs)
section
variable {w0 w w' : World} {p : Nat} {S S' : Nat → Prop} {ps ps' qs qs' : List Pr} {nv nv' : Value}
set_option maxRecDepth 100000 in
theorem BN.apart (h : BN w0 w p S ps nv qs) {k : Nat} (hk : nv.ownBlock = some k) : ¬ S k := fun hS => by
  obtain ⟨cs, t, h1, h2⟩ := h.own.bd.types hS
  obtain ⟨cs2, h3⟩ := own_type h.row hk
  exact type_ne h1 h3 h2 rfl
set_option maxRecDepth 100000 in
theorem BN.below (h : BN w0 w p S ps nv qs) (hb : Below w.heap.size w w') : BN w0 w' p S ps nv qs := ⟨h.own.below hb, owns_of_block h.row (fun k hk => hb.block k (h.row.lt k hk).2)⟩
set_option maxRecDepth 100000 in
theorem BN.add (h : BN w0 w p S ps nv qs) (hb : Bd w' p S' ps') (hf : Fr S w w') (hs : ∀ k, S' k → S k ∨ w.heap.size ≤ k) : BN w0 w' p S' ps' nv qs :=
  ⟨h.own.add hb hf hs, owns_of_block h.row (fun k hk => hf.block k (h.row.lt k hk).2 (h.apart hk))⟩
set_option maxRecDepth 100000 in
theorem BN.append (h : BN w0 w p S ps nv qs) {o : Obj} (hg : (w.alloc o).grownBy w' nv.ownBlock) (hr : w'.ownsRow w0.heap.size 40 2 nv' qs'.length (flatR qs')) : BN w0 w' p S ps nv' qs' := by
  have hf : Fr (fun k => nv.ownBlock = some k) w w' := ((Fr.refl _ w).alloc o).grown hg (fun _ _ h => h)
  exact ⟨⟨h.own.bd.keep (fun k hk => hf.block k (h.own.bd.lt k hk) (fun e => h.apart e hk)), h.own.own, h.own.bel.trans (hf.below h.own.bel.size (fun k _ hk => (h.row.lt k hk).1))⟩, hr⟩
end
set_option maxRecDepth 100000 in
theorem cells2_new (w : World) (x y : Value) (t : TypeId) : ∀ j u, [x, y][j]? = some u → (w.alloc (.cells #[x, y] t)).cell? ((⟨w.heap.size, 0, none⟩ : Addr).add j) = some u := by
  intro j u hj
  match j, hj with
  | 0, hj => simp at hj; subst hj; simp [Addr.add]
  | 1, hj => simp at hj; subst hj; simp [Addr.add]
set_option maxRecDepth 100000 in
theorem two_one (a b : ByteArray) : ∀ u ∈ [Value.string a, Value.string b], u.oneCell' = true := by
  intro u hu
  rcases List.mem_cons.1 hu with rfl | hu
  · rfl
  · rw [List.mem_singleton.1 hu]; rfl
set_option maxRecDepth 100000 in
theorem takeH {P : Program} {md : Region.Mode} {ops : Array Oper} {Q : Exit → Act → World → Prop} {S : World → Prop} {i : Nat} {d : Option Tmp} {oi : Oper} {v : Value} {fuel : Nat} {listed : Array Bool} {a : Act} {w : World} (hi : ops[i]? = some oi) (hd : oi.dst = d)
    (hs : Region.noSelect ops = true) (hf : Region.free md ops listed i = true) (hr : (Region.ready md ops listed).contains i = true)
    (hQ : ∀ c a w, Q (.panic c) (a.put d v) w → Q (.panic c) a w) (hy : YieldsIf P ops S oi v a) (hS : S w)
    (h : wpAnyH P md ops Q S fuel (listed.setIfInBounds i true) (a.put d v) w) : wpAnyH P md ops Q S (fuel + 1) listed a w := by
  subst hd
  exact wpAnyH_take hi hs hf hr hQ hy hS h
set_option maxRecDepth 100000 in
/-- What an operation that didn't run yields. -/
theorem yl_undef : (match some undef with | some (Value.bool b) => some b | _ => none : Option Bool) = none := rfl
attribute [local go_sem] yl_undef
set_option maxRecDepth 100000 in
theorem info_prR : (Tryz.prog.info? 40).map (fun i => (i.zero, i.size, i.bytes)) = some (some (.agg #[.string ⟨#[]⟩, .string ⟨#[]⟩]), 2, 32) := by kernel_rfl
set_option maxRecDepth 100000 in
theorem PrsIn.own {w : World} {B : Nat} {v : Value} {L : List Pr} (h : w.ownsRow B 40 2 v L.length (flatR L)) (hl : ∀ p ∈ L, Okp p) : PrsIn w v L := by
  obtain ⟨A, cap, rfl⟩ := own_form h
  exact ⟨⟨A, cap, rfl, Sn.of_own h⟩, fun p hp => by obtain ⟨h1, h2, h3⟩ := hl p hp; unfold maxLen; omega⟩
set_option maxRecDepth 100000 in
theorem lastK_get (ps : List Pr) (h : 0 < ps.length) : lastK ps = (ps[ps.length - 1]'(by omega)).1 := by
  have := lastK_take ps ps.length h (Nat.le_refl _)
  rwa [List.take_length] at this
end Go.Proofs.YtdbfaknpfepnfaaGreatDoor

/-
  The walks of a strings.Builder that lies within a block.
-/
namespace Go.Proofs.YtdbfaknpfepnfaaGreatDoor
open Go.RowKit CodecP

open Go.Lib in
set_option maxRecDepth 100000 in
/-- A text's bytes, appended to a row of the call's own: the row's block is the old one, or the next new one. -/
theorem append_str_at {P : Program} {w : World} (base : Nat) (t u ty e : TypeId) (i : TypeInfo) (ht : P.underlying t = some (.slice e)) (hu : P.underlying u = some .string) (hi : P.info? e = some i) (hz : i.zero = some (.int .u8 0))
    (hsize : i.size = 1) (hby : i.bytes = 1) (v : Value) (n : Nat) (xs : List Value) (hown : w.ownsRow base e 1 v n xs) (s : ByteArray)
    (h63 : n + s.size ≤ maxLen) (hbytes : n + s.size ≤ 140737488355328) (hbase : base ≤ w.heap.size) :
    ∃ v' w', (Builtin.append_ #[t, u] ty #[v, .string s]).run P w = .ok v' w' ∧ w'.ownsRow base e 1 v' (n + s.size) (xs ++ strCells s) ∧ w.grownBy w' v.ownBlock ∧
      (v'.ownBlock = v.ownBlock ∨ v'.ownBlock = some w.heap.size) ∧ (v' = .slice none 0 0 ↔ v = .slice none 0 0 ∧ s.size = 0) := by
  have hxl : xs.length = n := by simpa using hown.1
  obtain ⟨v', w', hr, h1, h2, h3⟩ := run_append_own_string (P := P) w base t u ty e i ht hu hi hz hsize hby v n xs hown s h63 hbytes hbase
  refine ⟨v', w', hr, h1, h2, ?_, h3⟩
  rcases hown.2 with ⟨rfl, rfl⟩ | ⟨g, cap, cur, rfl, hbg, hg, hnc, hcm, hcs, htake⟩
  · have hx : xs = [] := List.eq_nil_of_length_eq_zero hxl
    subst hx
    by_cases hm : s.size = 0
    · rw [h3.2 ⟨rfl, hm⟩]
      exact .inl rfl
    · unfold maxLen at h63
      have hr2 := run_append_nil_string (P := P) w t u ty e i (.int .u8 0) ht hu hi hz s (by omega) (by omega) (by rw [hby]; omega)
      rw [hr] at hr2
      injection hr2 with e1 e2
      rw [e1]
      exact .inr rfl
  · by_cases hroom : n + s.size ≤ cap
    · have hcs' : cur.size = cap := by simpa using hcs
      have hr2 := run_append_room_string (P := P) w t u ty e i ht hu hi hsize g n cap cur hg s hroom (by omega)
      rw [hr] at hr2
      injection hr2 with e1 e2
      rw [e1]
      exact .inl rfl
    · have holds : ∀ j u, xs[j]? = some u → w.cell? ((⟨g, 0, none⟩ : Addr).add j) = some u := hown.cells (g := g) rfl
      unfold maxLen at h63
      have hr2 := run_append_grow_string (P := P) w t u ty e i (.int .u8 0) ht hu hi hz ⟨g, 0, none⟩ n cap xs (by rw [hsize]; simpa using hxl) holds s (by omega) (by omega) (by rw [hby]; exact growslice_fits (by omega) (by omega))
      rw [hr] at hr2
      injection hr2 with e1 e2
      rw [e1]
      exact .inr rfl
set_option maxRecDepth 100000 in
theorem wpList_append_u8_at {w : World} {ops : Array Oper} {rest : List Oper} {o : Oper} {a : Act} {Q : Exit → Act → World → Prop} (hgd : o.guard = none) (sl x : Operand)
    (ho : o.op = .call { callee := .builtin .append, args := #[sl, x], argTypes := #[94, 9] })
    (base : Nat) (v : Value) (n : Nat) (l : List UInt8) (hs : a.eval sl = v) (hown : w.ownsRow base 5 1 v n (u8s l)) (s : ByteArray) (hx : a.eval x = .string s)
    (hb : n + s.size ≤ 1099511627776) (hbase : base ≤ w.heap.size)
    (h : ∀ v' w', w'.ownsRow base 5 1 v' (n + s.size) (u8s (l ++ bl s)) → w.grownBy w' v.ownBlock → (v'.ownBlock = v.ownBlock ∨ v'.ownBlock = some w.heap.size) → (v' = .slice none 0 0 ↔ v = .slice none 0 0 ∧ s.size = 0) → wpList Tryz.prog ops Q rest (a.put o.dst v') w') : wpList Tryz.prog ops Q (o :: rest) a w := by
  refine wpList_plain hgd fun K hK => ?_
  obtain ⟨i0, hi, hz0, hz1, hz2⟩ := info_parts info_u8b
  obtain ⟨v', w', hr, h2, h3, h4, h5⟩ := append_str_at (P := Tryz.prog) (w := w) base 94 9 o.type 5 i0 Tryz.underlying94 Tryz.underlying9 hi hz0 hz1 hz2 v n (u8s l) hown s (by unfold maxLen; omega) (by omega) hbase
  unfold Oper.wp execOp
  simp only [ho, resolve, invoke, builtin, Sem.run_bind, Sem.run_pure, Result.andThen_ok, List.map_toArray, List.map_cons, List.map_nil, hs, hx, hr]
  exact hK _ _ (h v' w' (by rw [u8s_append]; exact h2) h3 h4 h5)
section
variable {p o : Nat} {cs : Array Value} {t : TypeId} {w : World}
set_option maxRecDepth 100000 in
theorem cc_used (h0 : w.cell? ⟨p, o, none⟩ = some (.pointer (some ⟨p, o, none⟩))) :
    Calls Tryz.prog 117 #[.pointer (some ⟨p, o, none⟩)] w fun e w' => e = .returned (.tuple #[]) ∧ w' = w := by
  obtain ⟨j, hj⟩ : ∃ j, Tryz.prog.info? 115 = some j := Option.isSome_iff_exists.1 (by kernel_rfl)
  go_enter Tryz.func117, Tryz.ntmps117
  go_wp2
  rw [Lib.run_neq_ptr_same w _ Tryz.underlying113 hj]
  go_wp2
  go_end0
  exact ⟨rfl, rfl⟩
set_option maxRecDepth 100000 in
theorem info_sb : (Tryz.prog.info? 115).map (fun i => i.size) = some 2 := by kernel_rfl
set_option maxRecDepth 100000 in
set_option maxHeartbeats 1000000 in
theorem cc_fresh (hp : w.heap[p]? = some (.cells cs t (0, 0))) (h0 : cs[o]? = some (.pointer none)) (hlies : liesAt Tryz.prog Tryz.prog.depth t (cs.size / Tryz.prog.cellsOf t) o 115 1 = true) :
    Calls Tryz.prog 117 #[.pointer (some ⟨p, o, none⟩)] w fun e w' => e = .returned (.tuple #[]) ∧ w' = w.setCell ⟨p, o, none⟩ (.pointer (some ⟨p, o, none⟩)) := by
  obtain ⟨j, hj, hjs⟩ := Option.map_eq_some_iff.1 info_sb
  have hsh : w.shape? p = some (t, cs.size) := by simp [World.shape?, hp]
  have hlt : o < cs.size := by
    rcases Nat.lt_or_ge o cs.size with h | h
    · exact h
    · rw [Array.getElem?_eq_none h] at h0; cases h0
  have c0 := cellOf2 hp h0
  have f0 := free_of2 o hp
  have HP := Lib.hid hp
  clear hp h0
  go_enter Tryz.func117, Tryz.ntmps117
  go_wp2
  rw [Lib.run_to_unsafe w ⟨p, o, none⟩ Tryz.underlying113 Tryz.underlying210 hj (by rw [hjs]; decide) hsh hlt]
  simp only [Result.andThen]
  rw [Oper.upon_value]
  go_wp2
  rw [run_callFunc_extern Tryz.func154 (by kernel_rfl) (by kernel_rfl) (by kernel_rfl) (e := Extern.AbiNoEscape.same) (by kernel_rfl)]
  rw [Lib.run_noEscape]
  simp only [Result.andThen]
  rw [Oper.upon_value]
  go_wp2
  rw [Lib.run_from_unsafe w ⟨p, o, none⟩ Tryz.underlying210 Tryz.underlying113 hj hsh hlies]
  simp only [Result.andThen]
  rw [Oper.upon_value]
  go_wp2
  go_end0
  exact ⟨rfl, rfl⟩
/-- An own row of bytes; it is nil, if it holds none. -/
def OwnE (w : World) (v : Value) (l : List UInt8) : Prop := w.ownsRow 0 5 1 v l.length (u8s l) ∧ (l = [] → v = .slice none 0 0)
/-- What a write to a builder leaves. -/
def SbP (p o : Nat) (cs : Array Value) (t : TypeId) (v : Value) (l : List UInt8) (w w' : World) : Prop :=
  ∃ v', w'.heap[p]? = some (.cells ((cs.setIfInBounds o (.pointer (some ⟨p, o, none⟩))).setIfInBounds (o + 1) v') t (0, 0)) ∧ OwnE w' v' l ∧
    (v'.ownBlock = v.ownBlock ∨ ∃ k, v'.ownBlock = some k ∧ w.heap.size ≤ k) ∧ Fr (fun k => k = p ∨ v.ownBlock = some k) w w'
set_option maxRecDepth 100000 in
theorem cc_any {a : Value} (hp : w.heap[p]? = some (.cells cs t (0, 0))) (ha : cs[o]? = some a) (hav : a = .pointer none ∨ a = .pointer (some ⟨p, o, none⟩)) (hlies : liesAt Tryz.prog Tryz.prog.depth t (cs.size / Tryz.prog.cellsOf t) o 115 1 = true) :
    Calls Tryz.prog 117 #[.pointer (some ⟨p, o, none⟩)] w fun e w' => e = .returned (.tuple #[]) ∧ w'.heap[p]? = some (.cells (cs.setIfInBounds o (.pointer (some ⟨p, o, none⟩))) t (0, 0)) ∧ Fr (fun k => k = p) w w' := by
  rcases hav with rfl | rfl
  · refine (cc_fresh hp ha hlies).mono ?_
    rintro e w' ⟨he, rfl⟩
    exact ⟨he, setAt2 (o := o) _ hp, (Fr.refl (fun k => k = p) w).setCell (p := ⟨p, o, none⟩) (.inl rfl) _⟩
  · refine (cc_used (cellOf2 hp ha)).mono ?_
    rintro e w' ⟨he, rfl⟩
    refine ⟨he, ?_, Fr.refl _ _⟩
    rw [hp]
    congr 2
    apply Array.ext'
    simp only [Array.toList_setIfInBounds]
    apply List.ext_getElem?
    intro i
    rw [List.getElem?_set]
    split
    · rename_i h
      subst h
      split
      · rw [Array.getElem?_toList, ha]
      · rename_i h2
        rw [Array.getElem?_toList, ha]
        have : o < cs.size := by
          rcases Nat.lt_or_ge o cs.size with h | h
          · exact h
          · rw [Array.getElem?_eq_none h] at ha; cases ha
        simp at h2
        omega
    · rfl
set_option maxRecDepth 100000 in
set_option maxHeartbeats 2000000 in
theorem sbWrite_any {a v : Value} {l : List UInt8} (s : ByteArray) (hp : w.heap[p]? = some (.cells cs t (0, 0))) (ha : cs[o]? = some a) (hv : cs[o + 1]? = some v) (hav : a = .pointer none ∨ a = .pointer (some ⟨p, o, none⟩))
    (hown : OwnE w v l) (hne : v.ownBlock ≠ some p) (hlies : liesAt Tryz.prog Tryz.prog.depth t (cs.size / Tryz.prog.cellsOf t) o 115 1 = true) (hlen : l.length + s.size ≤ 1099511627776) :
    Calls Tryz.prog 75 #[.pointer (some ⟨p, o, none⟩), .string s] w fun e w' => e = .returned (.tuple #[.int .i64 s.size, .nilIface]) ∧ SbP p o cs t v (l ++ bl s) w w' := by
  have HCC := Lib.hid (cc_any hp ha hav hlies)
  have hlt := lt_of_block hp
  have HOWN := Lib.hid hown.1
  have HNIL := Lib.hid hown.2
  have HV := Lib.hid hv
  clear hp ha hav hown hlies hv
  go_enter Tryz.func75, Tryz.ntmps75
  go_wp2_with fail
  (with_reducible refine HCC.out.mono ?_)
  rintro e w1 ⟨rfl, hp1, hf1⟩
  have hvg : (cs.setIfInBounds o (.pointer (some ⟨p, o, none⟩)))[o + 1]? = some v := by
    rw [Array.getElem?_setIfInBounds_ne (by omega)]
    exact HV.out
  have hown1 : w1.ownsRow 0 5 1 v l.length (u8s l) := owns_of_block HOWN.out (fun k hk => hf1.block k (HOWN.out.lt k hk).2 (fun e => hne (by rw [hk, e])))
  have hsz := hf1.size
  have hlt1 := lt_of_block hp1
  have c1 := cellOf2 hp1 hvg
  have HP1 := Lib.hid hp1
  have HF1 := Lib.hid hf1
  have HO1 := Lib.hid hown1
  have HVG := Lib.hid hvg
  clear hp1 hf1 hvg hown1 HCC HV HOWN
  go_wp2_with (at_builtin; refine wpList_append_u8_at rfl _ _ rfl 0 v _ l rfl HO1.out s rfl (by omega) (Nat.zero_le _) ?_; intro v7 w7 hown7 hgrow7 hat7 hif7; obtain ⟨ao7, cp7, hv7⟩ := own_form hown7; subst hv7; have hp7 := (hgrow7.block p hlt1 (fun e => hne e.symm)).trans HP1.out; have f7 := free_of2 (o + 1) hp7; have c7 := cellOf2 hp7 HVG.out; have HP7 := Lib.hid hp7; have HOW7 := Lib.hid hown7; have HG7 := Lib.hid hgrow7; have HA7 := Lib.hid hat7; have HI7 := Lib.hid hif7; clear hp7 hown7 hgrow7 hat7 hif7)
  refine bodyPost_ret (v := .tuple #[.int .i64 s.size, .nilIface]) (by simp [results, Tryz.results75, go_sem]) rfl ⟨rfl, _, setAt2 (o := o + 1) _ HP7.out, ⟨?_, fun hnil => ?_⟩, ?_, ?_⟩
  · have h1 := HOW7.out
    rw [show l.length + s.size = (l ++ bl s).length by rw [List.length_append, bl_size]] at h1
    rw [show (Value.slice ao7 (l.length + s.size) cp7) = .slice ao7 (l ++ bl s).length cp7 by rw [List.length_append, bl_size]]
    refine owns_of_block h1 (fun k hk => ?_)
    rw [Below.heap_setCell _ _ _ _ (fun e => ?_)]
    have e2 : k = p := e
    subst e2
    have hk2 : (Value.slice ao7 (l.length + s.size) cp7).ownBlock = some k := by
      rw [show l.length + s.size = (l ++ bl s).length by rw [List.length_append, bl_size]]
      exact hk
    rcases HA7.out with h | h
    · exact hne (h.symm.trans hk2)
    · have h2 : some k = some w1.heap.size := hk2.symm.trans h
      injection h2 with h2
      omega
  · have h1 := List.append_eq_nil_iff.1 hnil
    refine HI7.out.2 ⟨HNIL.out h1.1, ?_⟩
    rw [← bl_size, h1.2]
    rfl
  · rcases HA7.out with h | h
    · exact .inl h
    · exact .inr ⟨_, h, hsz⟩
  · have h1 : Fr (fun k => k = p ∨ v.ownBlock = some k) w w1 := HF1.out.mono (fun k _ hk => .inl hk)
    exact (h1.trans ((Fr.refl _ w1).grown HG7.out (fun k _ hk => .inr hk)) (fun _ _ h => h)).setCell (p := ⟨p, o + 1, none⟩) (.inl (.inl rfl)) _
set_option maxRecDepth 100000 in
theorem sbLen_any {A : Option Addr} {n cap : Nat} (hc : w.cell? ⟨p, o + 1, none⟩ = some (.slice A n cap)) :
    Calls Tryz.prog 79 #[.pointer (some ⟨p, o, none⟩)] w fun e w' => e = .returned (.int .i64 n) ∧ w = w' := by
  go_enter Tryz.func79, Tryz.ntmps79
  go_wp2_with fail
  go_ret
  exact ⟨rfl, rfl⟩
set_option maxRecDepth 100000 in
theorem sb_lt {b o : Nat} {v : Value} (h : w.cell? ⟨b, o, none⟩ = some v) : b < w.heap.size := by
  rcases Nat.lt_or_ge b w.heap.size with h1 | h1
  · exact h1
  · simp [World.cell?, Array.getElem?_eq_none h1] at h
/-- A row of bytes that can be read; some of it may be frozen. -/
def RowR (w : World) (v : Value) (l : List UInt8) : Prop :=
  (v = .slice none 0 0 ∧ l = []) ∨ ∃ g cap cur fr, v = .slice (some ⟨g, 0, none⟩) l.length cap ∧ w.heap[g]? = some (.cells cur 5 fr) ∧ l ≠ [] ∧ l.length ≤ cap ∧ cap ≤ maxLen ∧ cur.size = cap ∧ cur.toList.take l.length = u8s l
set_option maxRecDepth 100000 in
theorem OwnE.row {v : Value} {l : List UInt8} (h : OwnE w v l) : RowR w v l := by
  by_cases h0 : l = []
  · exact .inl ⟨h.2 h0, h0⟩
  · rcases h.1.2 with ⟨hv, h1⟩ | ⟨g, cap, cur, hv, hg, hh, h1, h2, h3, h4⟩
    · exact absurd (List.eq_nil_of_length_eq_zero h1) h0
    · exact .inr ⟨g, cap, cur, (0, 0), hv, hh, h0, h1, h2, by simpa using h3, by simpa using h4⟩
set_option maxRecDepth 100000 in
theorem RowR.keep {w w' : World} {v : Value} {l : List UInt8} (h : RowR w v l) (hb : ∀ k, v.ownBlock = some k → w'.heap[k]? = w.heap[k]?) : RowR w' v l := by
  rcases h with h | ⟨g, cap, cur, fr, rfl, hh, r⟩
  · exact .inl h
  · exact .inr ⟨g, cap, cur, fr, rfl, (hb g rfl).trans hh, r⟩
set_option maxRecDepth 100000 in
theorem RowR.form {v : Value} {l : List UInt8} (h : RowR w v l) : ∃ A cap, v = .slice A l.length cap := by
  rcases h with ⟨rfl, rfl⟩ | ⟨g, cap, cur, fr, rfl, r⟩
  · exact ⟨_, _, rfl⟩
  · exact ⟨_, _, rfl⟩
set_option maxRecDepth 100000 in
theorem RowR.lt {v : Value} {l : List UInt8} (h : RowR w v l) : ∀ k, v.ownBlock = some k → k < w.heap.size := by
  rcases h with ⟨rfl, rfl⟩ | ⟨g, cap, cur, fr, rfl, hh, r⟩
  · intro k hk; cases hk
  · intro k hk
    injection hk with hk
    subst hk
    rcases Nat.lt_or_ge g w.heap.size with h | h
    · exact h
    · rw [Array.getElem?_eq_none h] at hh; cases hh
set_option maxRecDepth 100000 in
theorem freeze_block (w : World) (a : Addr) (n k : Nat) (h : k ≠ a.block) : (w.freeze a n).heap[k]? = w.heap[k]? := by
  unfold World.freeze
  split
  · rfl
  · simp only [Array.getElem?_modify]
    rw [if_neg (fun e => h e.symm)]
set_option maxRecDepth 100000 in
theorem cell_freeze (w : World) (a : Addr) (n : Nat) (b : Addr) : (w.freeze a n).cell? b = w.cell? b := by
  by_cases h : b.block = a.block
  · unfold World.freeze
    split
    · rfl
    · simp only [World.cell?, Array.getElem?_modify, h, if_true]
      cases w.heap[a.block]? with
      | none => rfl
      | some o =>
        cases o <;> rfl
  · exact World.cell?_of_block (freeze_block w a n _ h)
set_option maxRecDepth 100000 in
theorem freeze_at {w : World} {g : Nat} {cur : Array Value} {t : TypeId} {fr : Nat × Nat} (h : w.heap[g]? = some (.cells cur t fr)) (n : Nat) : ∃ fr', (w.freeze ⟨g, 0, none⟩ n).heap[g]? = some (.cells cur t fr') := by
  unfold World.freeze
  split
  · exact ⟨fr, h⟩
  · simp only [Array.getElem?_modify, if_true, h, Option.map_some]
    exact ⟨_, rfl⟩
set_option maxRecDepth 100000 in
theorem freeze_fr (w : World) (g n : Nat) : Fr (fun k => k = g) w (w.freeze ⟨g, 0, none⟩ n) := by
  unfold World.freeze
  split
  · exact Fr.refl _ _
  · exact ⟨rfl, rfl, rfl, by simp, fun k _ hk => by
      simp only [Array.getElem?_modify]
      rw [if_neg (fun e => hk e.symm)]⟩
/-- What a reading of a builder leaves: its row may be frozen. -/
def FrzP (v : Value) (l : List UInt8) (w w' : World) : Prop := Fr (fun k => v.ownBlock = some k) w w' ∧ RowR w' v l
set_option maxRecDepth 100000 in
set_option maxHeartbeats 2000000 in
theorem sbString_any {v : Value} {l : List UInt8} (hc : w.cell? ⟨p, o + 1, none⟩ = some v) (hr : RowR w v l) (hl : l.length ≤ 1099511627776) :
    Calls Tryz.prog 76 #[.pointer (some ⟨p, o, none⟩)] w fun e w' => e = .returned (.string (str l)) ∧ FrzP v l w w' := by
  rcases hr with ⟨rfl, rfl⟩ | ⟨g, cap, cur, fr, rfl, hg, hl0, hnc, hcm, hcs, htake⟩
  · have hUS := fun W q => Lib.run_unsafeString_none (P := Tryz.prog) W 172 3 9 q
    have hSD := fun W => Lib.run_unsafeSliceData_nil (P := Tryz.prog) W #[94] 172 0 0
    have HFIN := Lib.hid (show FrzP (.slice none 0 0) [] w w.drew from ⟨(Fr.refl _ w).drew, .inl ⟨rfl, rfl⟩⟩)
    go_enter Tryz.func76, Tryz.ntmps76
    go_wp2_with fail
    refine wp_region_held_drew (S := (fun W => W.cell? ⟨p, o + 1, none⟩ = some (.slice none 0 0))) (by kernel_rfl) (by (try dsimp only); exact hc) (fun hHeld => ?_)
    refine takeH (i := 0) (d := some 3) (v := ?_) rfl rfl (by kernel_rfl) (by kernel_rfl) (by kernel_rfl) (fun _ _ _ h => h) (Or.inl ⟨by rfl, ?_⟩) (by assumption) ?_
    rotate_left
    · intro wS hSw; (try dsimp only at hSw); go_simp; (try (with_reducible rfl))
    simp only [Act.put, List.setIfInBounds_toArray, List.set_cons_zero, List.set_cons_succ]
    refine takeH (i := 1) (d := some 4) (v := ?_) rfl rfl (by kernel_rfl) (by kernel_rfl) (by kernel_rfl) (fun _ _ _ h => h) (Or.inl ⟨by rfl, ?_⟩) (by assumption) ?_
    rotate_left
    · intro wS hSw; (try dsimp only at hSw); go_simp; (try (with_reducible rfl))
    simp only [Act.put, List.setIfInBounds_toArray, List.set_cons_zero, List.set_cons_succ]
    refine takeH (i := 2) (d := some 5) (v := ?_) rfl rfl (by kernel_rfl) (by kernel_rfl) (by kernel_rfl) (fun _ _ _ h => h) (Or.inl ⟨by rfl, ?_⟩) (by assumption) ?_
    rotate_left
    · intro wS hSw; (try dsimp only at hSw); go_simp; (try (with_reducible rfl))
    simp only [Act.put, List.setIfInBounds_toArray, List.set_cons_zero, List.set_cons_succ]
    refine takeH (i := 3) (d := some 6) (v := ?_) rfl rfl (by kernel_rfl) (by kernel_rfl) (by kernel_rfl) (fun _ _ _ h => h) (Or.inl ⟨by rfl, ?_⟩) (by assumption) ?_
    rotate_left
    · intro wS hSw; (try dsimp only at hSw); go_simp; (try (with_reducible rfl))
    simp only [Act.put, List.setIfInBounds_toArray, List.set_cons_zero, List.set_cons_succ]
    refine takeH (i := 4) (d := some 7) (v := ?_) rfl rfl (by kernel_rfl) (by kernel_rfl) (by kernel_rfl) (fun _ _ _ h => h) (Or.inl ⟨by rfl, ?_⟩) (by assumption) ?_
    rotate_left
    · intro wS hSw; (try dsimp only at hSw); go_simp; (try (with_reducible rfl))
    simp only [Act.put, List.setIfInBounds_toArray, List.set_cons_zero, List.set_cons_succ]
    refine takeH (i := 5) (d := some 8) (v := ?_) rfl rfl (by kernel_rfl) (by kernel_rfl) (by kernel_rfl) (fun _ _ _ h => h) (Or.inl ⟨by rfl, ?_⟩) (by assumption) ?_
    rotate_left
    · intro wS hSw; (try dsimp only at hSw); go_simp; (try (with_reducible rfl))
    simp only [Act.put, List.setIfInBounds_toArray, List.set_cons_zero, List.set_cons_succ]
    refine takeH (i := 6) (d := some 9) (v := ?_) rfl rfl (by kernel_rfl) (by kernel_rfl) (by kernel_rfl) (fun _ _ _ h => h) (Or.inl ⟨by rfl, ?_⟩) (by assumption) ?_
    rotate_left
    · intro wS hSw; (try dsimp only at hSw); go_simp; (try (with_reducible rfl))
    simp only [Act.put, List.setIfInBounds_toArray, List.set_cons_zero, List.set_cons_succ]
    refine takeH (i := 7) (d := some 10) (v := ?_) rfl rfl (by kernel_rfl) (by kernel_rfl) (by kernel_rfl) (fun _ _ _ h => h) (Or.inl ⟨by rfl, ?_⟩) (by assumption) ?_
    rotate_left
    · intro wS hSw; (try dsimp only at hSw); go_simp; (try (with_reducible rfl))
    simp only [Act.put, List.setIfInBounds_toArray, List.set_cons_zero, List.set_cons_succ]
    refine takeH (i := 8) (d := some 11) (v := ?_) rfl rfl (by kernel_rfl) (by kernel_rfl) (by kernel_rfl) (fun _ _ _ h => h) (Or.inl ⟨by rfl, ?_⟩) (by assumption) ?_
    rotate_left
    · intro wS hSw; (try dsimp only at hSw); go_simp; (try (with_reducible rfl))
    simp only [Act.put, List.setIfInBounds_toArray, List.set_cons_zero, List.set_cons_succ]
    refine takeH (i := 9) (d := some 12) (v := ?_) rfl rfl (by kernel_rfl) (by kernel_rfl) (by kernel_rfl) (fun _ _ _ h => h) (Or.inl ⟨by rfl, ?_⟩) (by assumption) ?_
    rotate_left
    · intro wS hSw; (try dsimp only at hSw); go_simp; (try (with_reducible rfl))
    simp only [Act.put, List.setIfInBounds_toArray, List.set_cons_zero, List.set_cons_succ]
    refine takeH (i := 10) (d := some 13) (v := ?_) rfl rfl (by kernel_rfl) (by kernel_rfl) (by kernel_rfl) (fun _ _ _ h => h) (Or.inl ⟨by rfl, ?_⟩) (by assumption) ?_
    rotate_left
    · intro wS hSw; (try dsimp only at hSw); go_simp; (try (with_reducible rfl))
    simp only [Act.put, List.setIfInBounds_toArray, List.set_cons_zero, List.set_cons_succ]
    refine takeH (i := 11) (d := some 2) (v := ?_) rfl rfl (by kernel_rfl) (by kernel_rfl) (by kernel_rfl) (fun _ _ _ h => h) (Or.inl ⟨by rfl, ?_⟩) (by assumption) ?_
    rotate_left
    · intro wS hSw; (try dsimp only at hSw); go_simp; (try (with_reducible rfl))
    simp only [Act.put, List.setIfInBounds_toArray, List.set_cons_zero, List.set_cons_succ]
    refine wpAnyH_done (by kernel_rfl) ?_ _
    go_wp2_with fail
    go_ret
    exact ⟨rfl, HFIN.out⟩
  · have hll : 0 < l.length := List.length_pos_iff.2 hl0
    have hfin : FrzP (.slice (some ⟨g, 0, none⟩) l.length cap) l w (w.drew.freeze ⟨g, 0, none⟩ l.length) := by
      have hg' : w.drew.heap[g]? = some (.cells cur 5 fr) := hg
      obtain ⟨fr', hfr⟩ := freeze_at hg' l.length
      refine ⟨(((Fr.refl _ w).drew).trans (freeze_fr w.drew g l.length) (fun k _ hk => by rw [hk]; rfl)), .inr ⟨g, cap, cur, fr', rfl, hfr, hl0, hnc, hcm, hcs, htake⟩⟩
    have HFIN := Lib.hid hfin
    have hSD := fun W => Lib.run_unsafeSliceData_row (P := Tryz.prog) W #[94] 172 ⟨g, 0, none⟩ l.length cap (by omega)
    have hUS : (Builtin.unsafeString_ #[172, 3] 9 #[.pointer (some ⟨g, 0, none⟩), .int .i64 l.length]).run Tryz.prog w.drew = .ok (.string ⟨l.toArray⟩) (w.drew.freeze ⟨g, 0, none⟩ l.length) := by
      have hg' : w.drew.heap[g]? = some (.cells cur 5 fr) := hg
      refine Lib.run_unsafeString_row w.drew 172 3 9 5 Tryz.underlying172 (by kernel_rfl) g cur.size (by simp [World.shape?, hg']) l hl0 (by omega) (by omega) ?_
      intro j x hx
      rw [Go.WideShapes.add_plain, Nat.zero_add]
      refine cellOf2 hg' ?_
      rw [← Array.getElem?_toList]
      have hj : j < l.length := by
        rcases Nat.lt_or_ge j l.length with h | h
        · exact h
        · rw [List.getElem?_eq_none h] at hx; cases hx
      have h1 : (cur.toList.take l.length)[j]? = cur.toList[j]? := List.getElem?_take_of_lt hj
      rw [← h1, htake]
      simp [u8s, hx]
    clear hfin hnc hcm hcs htake hg hll hl0
    go_enter Tryz.func76, Tryz.ntmps76
    go_wp2_with fail
    refine wp_region_held_drew (S := (fun W => W.cell? ⟨p, o + 1, none⟩ = some (.slice (some ⟨g, 0, none⟩) l.length cap))) (by kernel_rfl) (by (try dsimp only); exact hc) (fun hHeld => ?_)
    refine takeH (i := 0) (d := some 3) (v := ?_) rfl rfl (by kernel_rfl) (by kernel_rfl) (by kernel_rfl) (fun _ _ _ h => h) (Or.inl ⟨by rfl, ?_⟩) (by assumption) ?_
    rotate_left
    · intro wS hSw; (try dsimp only at hSw); go_simp; (try (with_reducible rfl))
    simp only [Act.put, List.setIfInBounds_toArray, List.set_cons_zero, List.set_cons_succ]
    refine takeH (i := 1) (d := some 4) (v := ?_) rfl rfl (by kernel_rfl) (by kernel_rfl) (by kernel_rfl) (fun _ _ _ h => h) (Or.inl ⟨by rfl, ?_⟩) (by assumption) ?_
    rotate_left
    · intro wS hSw; (try dsimp only at hSw); go_simp; (try (with_reducible rfl))
    simp only [Act.put, List.setIfInBounds_toArray, List.set_cons_zero, List.set_cons_succ]
    refine takeH (i := 2) (d := some 5) (v := ?_) rfl rfl (by kernel_rfl) (by kernel_rfl) (by kernel_rfl) (fun _ _ _ h => h) (Or.inl ⟨by rfl, ?_⟩) (by assumption) ?_
    rotate_left
    · intro wS hSw; (try dsimp only at hSw); go_simp; (try (with_reducible rfl))
    simp only [Act.put, List.setIfInBounds_toArray, List.set_cons_zero, List.set_cons_succ]
    refine takeH (i := 3) (d := some 6) (v := ?_) rfl rfl (by kernel_rfl) (by kernel_rfl) (by kernel_rfl) (fun _ _ _ h => h) (Or.inl ⟨by rfl, ?_⟩) (by assumption) ?_
    rotate_left
    · intro wS hSw; (try dsimp only at hSw); go_simp; (try (with_reducible rfl))
    simp only [Act.put, List.setIfInBounds_toArray, List.set_cons_zero, List.set_cons_succ]
    refine takeH (i := 4) (d := some 7) (v := ?_) rfl rfl (by kernel_rfl) (by kernel_rfl) (by kernel_rfl) (fun _ _ _ h => h) (Or.inl ⟨by rfl, ?_⟩) (by assumption) ?_
    rotate_left
    · intro wS hSw; (try dsimp only at hSw); go_simp; (try (with_reducible rfl))
    simp only [Act.put, List.setIfInBounds_toArray, List.set_cons_zero, List.set_cons_succ]
    refine takeH (i := 5) (d := some 8) (v := ?_) rfl rfl (by kernel_rfl) (by kernel_rfl) (by kernel_rfl) (fun _ _ _ h => h) (Or.inl ⟨by rfl, ?_⟩) (by assumption) ?_
    rotate_left
    · intro wS hSw; (try dsimp only at hSw); go_simp; (try (with_reducible rfl))
    simp only [Act.put, List.setIfInBounds_toArray, List.set_cons_zero, List.set_cons_succ]
    refine takeH (i := 6) (d := some 9) (v := ?_) rfl rfl (by kernel_rfl) (by kernel_rfl) (by kernel_rfl) (fun _ _ _ h => h) (Or.inl ⟨by rfl, ?_⟩) (by assumption) ?_
    rotate_left
    · intro wS hSw; (try dsimp only at hSw); go_simp; (try (with_reducible rfl))
    simp only [Act.put, List.setIfInBounds_toArray, List.set_cons_zero, List.set_cons_succ]
    refine takeH (i := 7) (d := some 10) (v := ?_) rfl rfl (by kernel_rfl) (by kernel_rfl) (by kernel_rfl) (fun _ _ _ h => h) (Or.inl ⟨by rfl, ?_⟩) (by assumption) ?_
    rotate_left
    · intro wS hSw; (try dsimp only at hSw); go_simp; (try (with_reducible rfl))
    simp only [Act.put, List.setIfInBounds_toArray, List.set_cons_zero, List.set_cons_succ]
    refine takeH (i := 8) (d := some 11) (v := ?_) rfl rfl (by kernel_rfl) (by kernel_rfl) (by kernel_rfl) (fun _ _ _ h => h) (Or.inl ⟨by rfl, ?_⟩) (by assumption) ?_
    rotate_left
    · intro wS hSw; (try dsimp only at hSw); go_simp; (try (with_reducible rfl))
    simp only [Act.put, List.setIfInBounds_toArray, List.set_cons_zero, List.set_cons_succ]
    refine takeH (i := 9) (d := some 12) (v := ?_) rfl rfl (by kernel_rfl) (by kernel_rfl) (by kernel_rfl) (fun _ _ _ h => h) (Or.inl ⟨by rfl, ?_⟩) (by assumption) ?_
    rotate_left
    · intro wS hSw; (try dsimp only at hSw); go_simp; (try (with_reducible rfl))
    simp only [Act.put, List.setIfInBounds_toArray, List.set_cons_zero, List.set_cons_succ]
    refine wpAnyH_ready (rs := [10]) (by kernel_rfl) (by simp) ?_
    refine AllReadyH.cons rfl (fun K hK => ?_) AllReadyH.nil
    go_simp
    refine hK.out _ _ (by (try dsimp only); rw [cell_freeze]; exact hc) (fun hHeld => ?_)
    clear hK K
    refine takeH (i := 11) (d := some 2) (v := ?_) rfl rfl (by kernel_rfl) (by kernel_rfl) (by kernel_rfl) (fun _ _ _ h => h) (Or.inl ⟨by rfl, ?_⟩) (by assumption) ?_
    rotate_left
    · intro wS hSw; (try dsimp only at hSw); go_simp; (try (with_reducible rfl))
    simp only [Act.put, List.setIfInBounds_toArray, List.set_cons_zero, List.set_cons_succ]
    refine wpAnyH_done (by kernel_rfl) ?_ _
    go_wp2_with fail
    go_ret
    exact ⟨rfl, HFIN.out⟩
end
end Go.Proofs.YtdbfaknpfepnfaaGreatDoor

/-
  Small facts on cells, rows and texts, for the cursor's walks.
-/
namespace Go.Proofs.YtdbfaknpfepnfaaGreatDoor.Cur
open Go.RowKit CodecP

set_option maxRecDepth 100000 in
theorem cellOf2 {w : World} {b o : Nat} {cs : Array Value} {t : TypeId} {f : Nat × Nat} {v : Value} (h : w.heap[b]? = some (.cells cs t f)) (hv : cs[o]? = some v) : w.cell? ⟨b, o, none⟩ = some v := by simp [World.cell?, h, hv]
set_option maxRecDepth 100000 in
theorem setAt2 {w : World} {p o : Nat} {cs : Array Value} {t : TypeId} (u : Value) (h : w.heap[p]? = some (.cells cs t (0, 0))) : (w.setCell ⟨p, o, none⟩ u).heap[p]? = some (.cells (cs.setIfInBounds o u) t (0, 0)) := by
  have hlt := lt_of_block h
  have h' : w.heap[p] = .cells cs t (0, 0) := by simpa [Array.getElem?_eq_getElem hlt] using h
  show (w.heap.modify p _)[p]? = _
  rw [Array.getElem?_eq_getElem (by simpa using hlt), Array.getElem_modify_self, h']; rfl
set_option maxRecDepth 100000 in
theorem free_of2 {w : World} {b : Nat} {cs : Array Value} {t : TypeId} (o : Nat) (h : w.heap[b]? = some (.cells cs t (0, 0))) : w.frozen? ⟨b, o, none⟩ = false := by simp [World.frozen?, h]
set_option maxRecDepth 100000 in
theorem takeH {P : Program} {md : Region.Mode} {ops : Array Oper} {Q : Exit → Act → World → Prop} {S : World → Prop} {i : Nat} {d : Option Tmp} {oi : Oper} {v : Value} {fuel : Nat} {listed : Array Bool} {a : Act} {w : World} (hi : ops[i]? = some oi) (hd : oi.dst = d)
    (hs : Region.noSelect ops = true) (hf : Region.free md ops listed i = true) (hr : (Region.ready md ops listed).contains i = true)
    (hQ : ∀ c a w, Q (.panic c) (a.put d v) w → Q (.panic c) a w) (hy : YieldsIf P ops S oi v a) (hS : S w)
    (h : wpAnyH P md ops Q S fuel (listed.setIfInBounds i true) (a.put d v) w) : wpAnyH P md ops Q S (fuel + 1) listed a w := by
  subst hd
  exact wpAnyH_take hi hs hf hr hQ hy hS h
set_option maxRecDepth 100000 in
theorem undrew {B : Nat} {w w1 : World} (h : Below B w.drew w1) : Below B w w1 := ⟨h.os, h.tape, h.output, h.size, h.block⟩
set_option maxRecDepth 100000 in
theorem own_base {w : World} {b b' e size n : Nat} {v : Value} {xs : List Value} (h : w.ownsRow b e size v n xs) (hb : b' ≤ b) : w.ownsRow b' e size v n xs := by
  obtain ⟨h1, h2⟩ := h
  refine ⟨h1, ?_⟩
  rcases h2 with h2 | ⟨g, cap, cur, hv, hg, r⟩
  · exact .inl h2
  · exact .inr ⟨g, cap, cur, hv, Nat.le_trans hb hg, r⟩
set_option maxRecDepth 100000 in
theorem cmpB : ∀ a b : List UInt8, (Lib.compareBytes a b < 0 ↔ a < b) ∧ (Lib.compareBytes a b = 0 ↔ a = b)
  | [], [] => by simp [Lib.compareBytes]
  | [], b :: bs => by simp [Lib.compareBytes]
  | a :: s, [] => by simp [Lib.compareBytes]
  | a :: s, b :: bs => by
    obtain ⟨h1, h2⟩ := cmpB s bs
    unfold Lib.compareBytes
    rw [List.cons_lt_cons_iff]
    by_cases hab : a < b
    · have hne : a ≠ b := fun e => by subst e; exact absurd hab (by simp)
      simp [hab, hne]
    · by_cases hba : b < a
      · have hne : a ≠ b := fun e => by subst e; exact hab hba
        simp [hab, hba, hne]
      · have e : a = b := by
          apply UInt8.toNat_inj.1
          rw [UInt8.lt_iff_toNat_lt] at hab hba
          omega
        subst e
        simp [h1, h2]
/-- The cells of pairs. -/
def flatR (ps : List Pr) : List Value := ps.flatMap fun p => [Value.string (str p.1), Value.string (str p.2)]
set_option maxRecDepth 100000 in
theorem flatR_append (a b : List Pr) : flatR (a ++ b) = flatR a ++ flatR b := by simp [flatR]
set_option maxRecDepth 100000 in
theorem flatR_length (ps : List Pr) : (flatR ps).length = ps.length * 2 := by
  induction ps with
  | nil => rfl
  | cons p ps ih => simp [flatR] at ih ⊢; omega
set_option maxRecDepth 100000 in
theorem flatR_get (ps : List Pr) (i : Nat) (h : i < ps.length) : (flatR ps)[i * 2]? = some (.string (str ps[i].1)) ∧ (flatR ps)[i * 2 + 1]? = some (.string (str ps[i].2)) := by
  have h1 : flatR ps = flatR (ps.take i) ++ flatR (ps.drop i) := by rw [← flatR_append, List.take_append_drop]
  have h2 : (flatR (ps.take i)).length = i * 2 := by rw [flatR_length, List.length_take]; omega
  rw [List.drop_eq_getElem_cons h] at h1
  rw [h1]
  constructor
  · rw [List.getElem?_append_right (by omega), h2, Nat.sub_self]; rfl
  · rw [List.getElem?_append_right (by omega), h2, show i * 2 + 1 - i * 2 = 1 by omega]; rfl
end Go.Proofs.YtdbfaknpfepnfaaGreatDoor.Cur
