/-
  Texts of the claim, joined: WrapT, CodecP, Fr0, Fr, WriterW, Writer2W, Writer3W, Writer4W, ReaderW, Reader2W, Reader3W, CodecAwake, CodecBackW, CodecBack2W, RefGroupsW, RefTakeW, RefTake2W, RefNumW, SizesW, RefLaysW, BlockP, BlockW, Sn, CelW, CurPackW.
-/
import Derived.Test.YtdbfaknpfepnfaaDoorRows
import Derived.ProofKit
import Derived.OpenShut
import Derived.WalkKit
import Derived.WalkSpells
import Derived.WalkLawsBesides
import Derived.Laws.BitsAllLaws
import Derived.Laws.IdiomStrings
import Derived.Lib.ConvBytes
import Derived.Maps.AppendAt
import Derived.OneCell
import Derived.Outline
import Derived.Lib.Hide
import Derived.Deep.QuietTactic
import Derived.BigQuiet
import Derived.BigRegion
import Derived.Laws.BytesArg
import Derived.Deep.RegionWith
import Derived.Laws.AppendOwnNone
import Derived.Lib.Bytealg
import Derived.Deep.LoopGhost
import Derived.Deep.RegionHeld3
import Derived.Deep.CutBlock
import Derived.Deep.DeepCutAuto
import Derived.Deep.RegionLaw
import Derived.StillTailTactics
import Derived.Handy

/-
  What the claims of this seat share: the table that was laid.
-/
namespace Go.Proofs.YtdbfaknpfepnfaaDoor
open Go.ChangeShapes Go.WideShapes Go.ChangeAt Go.RowKit Go.ChangeMaps

theorem own : ownKnob Tryd.prog.godebug = none := by kernel_rfl
theorem laidOut : laidOutB Tryd.prog = true := by kernel_rfl
noncomputable def laidWorld (os : Os) : World :=
  { World.holding Tryd.prog os ⟨#[], #[], []⟩ with heap := (World.holding Tryd.prog os ⟨#[], #[], []⟩).heap.modify 1 fun
      | .cells _ t frozen => .cells #[.int .u32 0, .int .u32 274646895, .int .u32 549293790, .int .u32 820201905, .int .u32 1098587580, .int .u32 1361435347, .int .u32 1640403810, .int .u32 1905808397, .int .u32 2197175160, .int .u32 2460548119, .int .u32 2722870694, .int .u32 2987750089, .int .u32 3280807620, .int .u32 3553878443, .int .u32 3811616794, .int .u32 4084100981] t frozen
      | o => o }
end Go.Proofs.YtdbfaknpfepnfaaDoor

/-
  Numbers in groups of seven bits, fixed bytes. Plain lists and numbers: no program in sight.
-/
namespace CodecP
/-- a number in groups of seven bits; 'f': enough steps -/
def groups : Nat → Nat → List UInt8
  | 0, n => [UInt8.ofNat n]
  | f + 1, n => if n < 128 then [UInt8.ofNat n] else UInt8.ofNat (n % 128 + 128) :: groups f (n / 128)
def grp (n : Nat) : List UInt8 := groups 9 n
/-- the bytes of a number, the highest first -/
def fixed : Nat → Nat → List UInt8
  | 0, _ => []
  | k + 1, n => fixed k (n / 256) ++ [UInt8.ofNat (n % 256)]
def value (l : List UInt8) : Nat := l.foldl (fun n c => 256 * n + c.toNat) 0
theorem fixed_length (k : Nat) : ∀ n, (fixed k n).length = k := by
  induction k with
  | zero => intro n; rfl
  | succ k ih => intro n; simp [fixed, ih]
theorem value_snoc (l : List UInt8) (c : UInt8) : value (l ++ [c]) = 256 * value l + c.toNat := by simp [value]
theorem value_fixed (k : Nat) : ∀ n, n < 256 ^ k → value (fixed k n) = n := by
  induction k with
  | zero => intro n h; simp at h; subst h; rfl
  | succ k ih =>
    intro n h
    rw [Nat.pow_succ] at h
    rw [fixed, value_snoc, ih _ (by omega), UInt8.toNat_ofNat', Nat.mod_eq_of_lt (by omega)]
    omega
theorem snoc_ind {P : List UInt8 → Prop} (h0 : P []) (h1 : ∀ l c, P l → P (l ++ [c])) (l : List UInt8) : P l := by
  have : ∀ n, ∀ l : List UInt8, l.length = n → P l := by
    intro n
    induction n with
    | zero => intro l hl; rw [List.length_eq_zero_iff.1 hl]; exact h0
    | succ n ih =>
      intro l hl
      have hne : l ≠ [] := by intro e; subst e; simp at hl
      rw [← List.dropLast_concat_getLast hne]
      exact h1 _ _ (ih _ (by simp [hl]))
  exact this _ l rfl
theorem value_lt (l : List UInt8) : value l < 256 ^ l.length := by
  induction l using snoc_ind with
  | h0 => simp [value]
  | h1 l c ih =>
    have := c.toNat_lt
    rw [value_snoc, List.length_append, List.length_singleton, Nat.pow_succ]; omega
theorem fixed_value (l : List UInt8) : fixed l.length (value l) = l := by
  induction l using snoc_ind with
  | h0 => rfl
  | h1 l c ih =>
    have := c.toNat_lt
    rw [List.length_append, List.length_singleton, fixed, value_snoc, show (256 * value l + c.toNat) / 256 = value l by omega, ih,
      show (256 * value l + c.toNat) % 256 = c.toNat by omega, UInt8.ofNat_toNat]
/-- a signed number's code -/
def zig (n : Int) : Nat := if 0 ≤ n then (2 * n).toNat else (-2 * n - 1).toNat
def unzig (n : Nat) : Int := if n % 2 = 0 then (n / 2 : Nat) else -((n / 2 : Nat) : Int) - 1
theorem unzig_zig (n : Int) : unzig (zig n) = n := by
  unfold zig unzig
  split <;> split <;> omega
/-- what a number in groups is: from the i-th byte on -/
def tk : Nat → List UInt8 → Option (Nat × List UInt8)
  | _, [] => none
  | i, c :: r => if (i = 9 ∧ 1 < c.toNat) ∨ (0 < i ∧ c.toNat = 0) then none
    else if c.toNat < 128 then some (c.toNat, r)
    else (tk (i + 1) r).map fun x => (c.toNat % 128 + 128 * x.1, x.2)
def text (l : List UInt8) : List UInt8 := grp l.length ++ l

theorem pow64 (i : Nat) (h : i ≤ 8) : 2 ^ (64 - 7 * i) = 128 * 2 ^ (64 - 7 * (i + 1)) := by
  rw [show 64 - 7 * i = 7 + (64 - 7 * (i + 1)) by omega, Nat.pow_add]
theorem tk_groups (k : Nat) : ∀ (i n : Nat) (rest : List UInt8), i + k = 9 → n < 2 ^ (64 - 7 * i) → (0 < i → 0 < n) → tk i (groups k n ++ rest) = some (n, rest) := by
  induction k with
  | zero =>
    intro i n rest hi hn h0
    obtain rfl : i = 9 := by omega
    have hn' : n < 2 := by simpa using hn
    have h0' := h0 (by omega)
    obtain rfl : n = 1 := by omega
    rfl
  | succ k ih =>
    intro i n rest hi hn h0
    simp only [groups]
    by_cases h : n < 128
    · rw [if_pos h, List.singleton_append]
      simp only [tk]
      rw [UInt8.toNat_ofNat', Nat.mod_eq_of_lt (by omega), if_neg (by omega), if_pos h]
    · rw [if_neg h, List.cons_append]
      have hp := pow64 i (by omega)
      simp only [tk]
      rw [UInt8.toNat_ofNat', Nat.mod_eq_of_lt (by omega), if_neg (by omega), if_neg (by omega), ih (i + 1) (n / 128) rest (by omega) (by omega) (by omega)]
      simp only [Option.map_some]
      congr 2
      omega
theorem groups_tk (k : Nat) : ∀ (i n : Nat) (l rest : List UInt8), i + k = 9 → tk i l = some (n, rest) → l = groups k n ++ rest ∧ n < 2 ^ (64 - 7 * i) ∧ (0 < i → 0 < n) := by
  induction k with
  | zero =>
    intro i n l rest hi h
    have hi9 : i = 9 := by omega
    cases l with
    | nil => simp [tk] at h
    | cons c r =>
      simp only [tk] at h
      by_cases h1 : (i = 9 ∧ 1 < c.toNat) ∨ (0 < i ∧ c.toNat = 0)
      · rw [if_pos h1] at h; simp at h
      · rw [if_neg h1, if_pos (by omega)] at h
        simp only [Option.some.injEq, Prod.mk.injEq] at h
        obtain ⟨rfl, rfl⟩ := h
        subst hi9; refine ⟨by simp [groups], by simp; omega, fun _ => by omega⟩
  | succ k ih =>
    intro i n l rest hi h
    cases l with
    | nil => simp [tk] at h
    | cons c r =>
      have hp := pow64 i (by omega)
      have h2p : 0 < 2 ^ (64 - 7 * (i + 1)) := Nat.two_pow_pos _
      have hc := c.toNat_lt
      simp only [tk] at h
      by_cases h1 : (i = 9 ∧ 1 < c.toNat) ∨ (0 < i ∧ c.toNat = 0)
      · rw [if_pos h1] at h; simp at h
      · rw [if_neg h1] at h
        by_cases h2 : c.toNat < 128
        · rw [if_pos h2] at h
          simp only [Option.some.injEq, Prod.mk.injEq] at h
          obtain ⟨rfl, rfl⟩ := h
          refine ⟨by simp [groups, h2], by omega, by omega⟩
        · rw [if_neg h2] at h
          cases hm : tk (i + 1) r with
          | none => rw [hm] at h; simp at h
          | some x =>
            obtain ⟨n', r'⟩ := x
            rw [hm] at h
            simp only [Option.map_some, Option.some.injEq, Prod.mk.injEq] at h
            obtain ⟨rfl, rfl⟩ := h
            obtain ⟨e, hb, h0⟩ := ih (i + 1) n' r r' (by omega) hm
            have h0' := h0 (by omega)
            refine ⟨?_, by omega, by omega⟩
            simp only [groups]
            rw [if_neg (by omega), List.cons_append, show (c.toNat % 128 + 128 * n') / 128 = n' by omega, ← e]
            congr 1
            rw [show (c.toNat % 128 + 128 * n') % 128 + 128 = c.toNat by omega, UInt8.ofNat_toNat]
theorem tk_grp (n : Nat) (rest : List UInt8) (h : n < 2 ^ 64) : tk 0 (grp n ++ rest) = some (n, rest) := tk_groups 9 0 n rest rfl h (by omega)
theorem grp_tk (n : Nat) (l rest : List UInt8) (h : tk 0 l = some (n, rest)) : l = grp n ++ rest ∧ n < 2 ^ 64 := by
  obtain ⟨a, b, _⟩ := groups_tk 9 0 n l rest rfl h
  exact ⟨a, b⟩
theorem fixed_get (k : Nat) : ∀ (n j : Nat), j < k → (fixed k n)[j]? = some (UInt8.ofNat (n / 256 ^ (k - 1 - j) % 256)) := by
  induction k with
  | zero => intro n j h; omega
  | succ k ih =>
    intro n j h
    rw [fixed]
    by_cases hj : j < k
    · rw [List.getElem?_append_left (by rw [fixed_length]; exact hj), ih _ _ hj, Nat.div_div_eq_div_mul]
      have : k + 1 - 1 - j = (k - 1 - j) + 1 := by omega
      rw [this, Nat.pow_succ, Nat.mul_comm]
    · have : j = k := by omega
      subst this
      rw [List.getElem?_append_right (by rw [fixed_length]; omega), fixed_length]
      simp
theorem fixed_take (k n j : Nat) (h : j < k) : (fixed k n).take (j + 1) = (fixed k n).take j ++ [UInt8.ofNat (n / 256 ^ (k - 1 - j) % 256)] := by
  have hl : j < (fixed k n).length := by rw [fixed_length]; exact h
  rw [List.take_succ_eq_append_getElem hl]
  have := fixed_get k n j h
  rw [List.getElem?_eq_getElem hl] at this
  injection this with this
  rw [this]
end CodecP

/-
  Which blocks may have turned.
-/
namespace Go.Proofs.YtdbfaknpfepnfaaDoor
open Go.RowKit

/-- But for the blocks of S, and new ones, w' is as w was. -/
structure Fr (S : Nat → Prop) (w w' : World) : Prop where
  os : w'.os = w.os
  tape : w'.tape = w.tape
  output : w'.output = w.output
  size : w.heap.size ≤ w'.heap.size
  block : ∀ k, k < w.heap.size → ¬ S k → w'.heap[k]? = w.heap[k]?
theorem Fr.refl (S : Nat → Prop) (w : World) : Fr S w w := ⟨rfl, rfl, rfl, Nat.le_refl _, fun _ _ _ => rfl⟩
theorem Fr.trans {S T : Nat → Prop} {a b c : World} (h : Fr S a b) (k : Fr T b c) (hs : ∀ n, n < a.heap.size → T n → S n) : Fr S a c :=
  ⟨k.os.trans h.os, k.tape.trans h.tape, k.output.trans h.output, Nat.le_trans h.size k.size,
    fun n hn hS => (k.block n (Nat.lt_of_lt_of_le hn h.size) (fun hT => hS (hs n hn hT))).trans (h.block n hn hS)⟩
theorem Fr.mono {S T : Nat → Prop} {a b : World} (h : Fr S a b) (hs : ∀ n, n < a.heap.size → S n → T n) : Fr T a b :=
  ⟨h.os, h.tape, h.output, h.size, fun n hn hT => h.block n hn (fun hS => hT (hs n hn hS))⟩
theorem Fr.below {S : Nat → Prop} {w w' : World} (h : Fr S w w') {B : Nat} (hB : B ≤ w.heap.size) (hS : ∀ k, k < w.heap.size → S k → B ≤ k) : Below B w w' :=
  ⟨h.os, h.tape, h.output, h.size, fun k hk => h.block k (by omega) (fun hs => by have := hS k (by omega) hs; omega)⟩
theorem Fr.of_below {w w' : World} (S : Nat → Prop) (h : Below w.heap.size w w') : Fr S w w' := ⟨h.os, h.tape, h.output, h.size, fun k hk _ => h.block k hk⟩
theorem Fr.drew {S : Nat → Prop} {a w : World} (h : Fr S a w) : Fr S a w.drew := ⟨h.os, h.tape, h.output, h.size, h.block⟩
theorem Fr.drewN {S : Nat → Prop} {a w : World} (h : Fr S a w) (n : Nat) : Fr S a (w.drewN n) := ⟨h.os, h.tape, h.output, h.size, h.block⟩
theorem Fr.alloc {S : Nat → Prop} {a w : World} (h : Fr S a w) (o : Obj) : Fr S a (w.alloc o) :=
  ⟨h.os, h.tape, h.output, Nat.le_trans h.size (by simp), fun k hk hS => (Below.heap_alloc w o k (Nat.lt_of_lt_of_le hk h.size)).trans (h.block k hk hS)⟩
theorem Fr.setCell {S : Nat → Prop} {a w : World} (h : Fr S a w) {p : Addr} (hp : S p.block ∨ a.heap.size ≤ p.block) (u : Value) : Fr S a (w.setCell p u) :=
  ⟨h.os, h.tape, h.output, by simpa [World.setCell] using h.size, fun k hk hS => (Below.heap_setCell w p u k (by
    rintro rfl
    rcases hp with hp | hp
    · exact hS hp
    · omega)).trans (h.block k hk hS)⟩
theorem Fr.grown {S : Nat → Prop} {a w w' : World} {row : Option Nat} (h : Fr S a w) (hg : w.grownBy w' row) (hr : ∀ k, k < a.heap.size → row = some k → S k) : Fr S a w' :=
  ⟨hg.os.trans h.os, hg.tape.trans h.tape, hg.output.trans h.output, Nat.le_trans h.size hg.size,
    fun k hk hS => (hg.block k (Nat.lt_of_lt_of_le hk h.size) (fun e => hS (hr k hk e.symm))).trans (h.block k hk hS)⟩
theorem Fr.bytes {S : Nat → Prop} {a w : World} (h : Fr S a w) (e : TypeId) (s : ByteArray) : Fr S a (Lib.bytesWorld w e s) :=
  ⟨h.os, h.tape, h.output, Nat.le_trans h.size (by rw [Lib.bytesWorld_size]; omega), fun k hk hS => (Lib.bytesWorld_at_old w e s k (Nat.lt_of_lt_of_le hk h.size)).trans (h.block k hk hS)⟩
theorem Fr.cell {S : Nat → Prop} {w w' : World} (h : Fr S w w') {a : Addr} {v : Value} (hc : w.cell? a = some v) (hS : ¬ S a.block) : w'.cell? a = some v := by
  have hlt : a.block < w.heap.size := by
    unfold World.cell? at hc
    rcases Nat.lt_or_ge a.block w.heap.size with h1 | h1
    · exact h1
    · rw [Array.getElem?_eq_none h1] at hc; simp at hc
  rw [World.cell?_of_block (w := w) (h.block _ hlt hS)]; exact hc

/-- A block known whole but for one cell: what that cell holds, behind a store too. -/
theorem cell_of_set {w : World} {p o : Nat} {cs : Array Value} {v : Value} {t : TypeId} (h : w.heap[p]? = some (.cells (cs.setIfInBounds o v) t (0, 0))) (ho : o < cs.size) : w.cell? ⟨p, o, none⟩ = some v := by
  simp [World.cell?, h, ho]
theorem free_of_set {w : World} {p : Nat} {cs : Array Value} {t : TypeId} (o : Nat) (h : w.heap[p]? = some (.cells cs t (0, 0))) : w.frozen? ⟨p, o, none⟩ = false := by simp [World.frozen?, h]
theorem set_setCell {w : World} {p o : Nat} {cs : Array Value} {v : Value} {t : TypeId} (u : Value) (h : w.heap[p]? = some (.cells (cs.setIfInBounds o v) t (0, 0))) : (w.setCell ⟨p, o, none⟩ u).heap[p]? = some (.cells (cs.setIfInBounds o u) t (0, 0)) := by
  have hlt := lt_of_block h
  have h' : w.heap[p] = .cells (cs.setIfInBounds o v) t (0, 0) := by simpa [Array.getElem?_eq_getElem hlt] using h
  show (w.heap.modify p _)[p]? = _
  rw [Array.getElem?_eq_getElem (by simpa using hlt), Array.getElem_modify_self, h']
  simp
theorem owns_of_block {w w' : World} {base e size : Nat} {v : Value} {n : Nat} {xs : List Value} (h : w.ownsRow base e size v n xs) (hb : ∀ k, v.ownBlock = some k → w'.heap[k]? = w.heap[k]?) : w'.ownsRow base e size v n xs := by
  obtain ⟨h1, h2⟩ := h
  refine ⟨h1, ?_⟩
  rcases h2 with h2 | ⟨g, cap, cur, hv, hg, hh, r⟩
  · exact Or.inl h2
  · exact Or.inr ⟨g, cap, cur, hv, hg, by rw [hb g (by rw [hv]; rfl)]; exact hh, r⟩
theorem own_form {w : World} {base e size : Nat} {v : Value} {n : Nat} {xs : List Value} (h : w.ownsRow base e size v n xs) : ∃ ao c, v = .slice ao n c := by
  rcases h.2 with ⟨h, h0⟩ | ⟨g, cap, cur, hv, _⟩
  · exact ⟨none, 0, by rw [h, h0]⟩
  · exact ⟨_, _, hv⟩
theorem _root_.Go.RowKit.Below.drewN {B : Nat} {a w : World} (h : Below B a w) (n : Nat) : Below B a (w.drewN n) := ⟨h.os, h.tape, h.output, h.size, h.block⟩
end Go.Proofs.YtdbfaknpfepnfaaDoor

/-
  A writer in memory.
-/
namespace Go.Proofs.YtdbfaknpfepnfaaDoor
open Go.RowKit

theorem info_u8b : (Tryd.prog.info? 5).map (fun i => (i.zero, i.size, i.bytes)) = some (some (.int .u8 0), 1, 1) := by kernel_rfl
/-- Bytes as cells. -/
def u8s (l : List UInt8) : List Value := l.map fun b => Value.int .u8 (b.toNat : Int)
theorem u8s_length (l : List UInt8) : (u8s l).length = l.length := by simp [u8s]
theorem u8s_append (a b : List UInt8) : u8s (a ++ b) = u8s a ++ u8s b := by simp [u8s]
theorem u8s_one (l : List UInt8) : ∀ x ∈ u8s l, x.oneCell' = true := by
  intro x hx; unfold u8s at hx; simp at hx; obtain ⟨b, _, rfl⟩ := hx; rfl
/-- A slice of bytes, as it lies. -/
def BsAt (w : World) (ad : Addr) (l : List UInt8) : Prop := ∀ (j : Nat) (x : Value), (u8s l)[j]? = some x → w.cell? (ad.add j) = some x
/-- A writer, whose one cell is cell o of block p (the block's other cells: cs), with what was laid; its bytes lie in block g. -/
def Wr (w : World) (p o : Nat) (cs : Array Value) (t : TypeId) (g : Option Nat) (l : List UInt8) : Prop :=
  ∃ v, w.heap[p]? = some (.cells (cs.setIfInBounds o v) t (0, 0)) ∧ o < cs.size ∧ w.ownsRow 0 5 1 v l.length (u8s l) ∧ v.ownBlock = g ∧ g ≠ some p
/-- The blocks of a writer. -/
def WrS (p : Nat) (g : Option Nat) : Nat → Prop := fun k => k = p ∨ g = some k
theorem Wr.lt {w : World} {p o : Nat} {cs : Array Value} {t : TypeId} {g : Option Nat} {l : List UInt8} (h : Wr w p o cs t g l) : p < w.heap.size := by
  obtain ⟨v, hp, _⟩ := h
  exact lt_of_block hp
theorem Wr.lt2 {w : World} {p o : Nat} {cs : Array Value} {t : TypeId} {g : Option Nat} {l : List UInt8} (h : Wr w p o cs t g l) : ∀ k, g = some k → k < w.heap.size := by
  obtain ⟨v, hp, _, ho, hg, _⟩ := h
  intro k hk
  exact (ho.lt k (by rw [hg, hk])).2
theorem Wr.keep {w w' : World} {S : Nat → Prop} {p o : Nat} {cs : Array Value} {t : TypeId} {g : Option Nat} {l : List UInt8} (h : Wr w p o cs t g l) (hf : Fr S w w') (hS : ∀ k, WrS p g k → ¬ S k) : Wr w' p o cs t g l := by
  have h1 := h.lt
  have h2 := h.lt2
  obtain ⟨v, hp, hlt, ho, hg, hne⟩ := h
  refine ⟨v, (hf.block p h1 (hS p (.inl rfl))).trans hp, hlt, ?_, hg, hne⟩
  refine owns_of_block ho (fun k hk => hf.block k (h2 k (by rw [← hg, hk])) (hS k (.inr (by rw [← hg, hk]))))
theorem Wr.drew {w : World} {p o : Nat} {cs : Array Value} {t : TypeId} {g : Option Nat} {l : List UInt8} (h : Wr w p o cs t g l) : Wr w.drew p o cs t g l := h
/-- What a call to a writer leaves: what was laid, and that nothing but the writer's own blocks has turned. -/
structure WrBy (w w' : World) (p o : Nat) (cs : Array Value) (t : TypeId) (g : Option Nat) (l : List UInt8) : Prop where
  wr : ∃ g', (g' = g ∨ ∃ k, g' = some k ∧ w.heap.size ≤ k) ∧ Wr w' p o cs t g' l
  fr : Fr (WrS p g) w w'
theorem WrBy.refl {w : World} {p o : Nat} {cs : Array Value} {t : TypeId} {g : Option Nat} {l : List UInt8} (h : Wr w p o cs t g l) : WrBy w w p o cs t g l := ⟨⟨g, .inl rfl, h⟩, Fr.refl _ _⟩
theorem WrBy.trans {a b c : World} {p o : Nat} {cs : Array Value} {t : TypeId} {g g' : Option Nat} {m : List UInt8} (h : Fr (WrS p g) a b) (hg : g' = g ∨ ∃ k, g' = some k ∧ a.heap.size ≤ k) (k : WrBy b c p o cs t g' m) : WrBy a c p o cs t g m := by
  obtain ⟨⟨g2, hg2, hw⟩, hf⟩ := k
  refine ⟨⟨g2, ?_, hw⟩, h.trans hf (fun n hn hs => ?_)⟩
  · rcases hg2 with rfl | ⟨k, rfl, hk⟩
    · exact hg
    · exact .inr ⟨k, rfl, Nat.le_trans h.size hk⟩
  · rcases hs with hs | hs
    · exact .inl hs
    · rcases hg with rfl | ⟨k, rfl, hk⟩
      · exact .inr hs
      · injection hs with hs; omega
/-- A writer of its own, just made. -/
theorem Wr.new (w : World) : Wr (w.alloc (.cells #[.slice none 0 0] 68)) w.heap.size 0 #[undef] 68 none [] :=
  ⟨.slice none 0 0, by show (w.heap.push _)[w.heap.size]? = _; simp, by decide, World.ownsRow_nil _ _ _ _, rfl, by simp⟩
/-- A writer that the call itself has made at block B, with what was laid. -/
structure Own (w0 w : World) (B : Nat) (g : Option Nat) (l : List UInt8) : Prop where
  wr : Wr w B 0 #[undef] 68 g l
  below : Below w0.heap.size w0 w
  base : w0.heap.size ≤ B
  row : ∀ k, g = some k → w0.heap.size ≤ k
theorem Own.new {w0 w : World} (hb : Below w0.heap.size w0 w) : Own w0 (w.alloc (.cells #[.slice none 0 0] 68)) w.heap.size none [] :=
  ⟨Wr.new w, hb.alloc hb.size _, hb.size, fun k h => by cases h⟩
theorem Own.step {w0 w w' : World} {B : Nat} {g : Option Nat} {l m : List UInt8} (h : Own w0 w B g l) (hb : WrBy w w' B 0 #[undef] 68 g m) : ∃ g', Own w0 w' B g' m := by
  obtain ⟨⟨g', hg', hw⟩, hf⟩ := hb
  have hbel : Below w0.heap.size w w' := hf.below h.below.size (fun k _ hk => by
    rcases hk with rfl | hk
    · exact h.base
    · exact h.row k hk)
  refine ⟨g', hw, h.below.trans hbel, h.base, fun k hk => ?_⟩
  rcases hg' with rfl | ⟨j, rfl, hj⟩
  · exact h.row k hk
  · injection hk with hk; have := h.below.size; omega
theorem Own.keep {w0 w w' : World} {B : Nat} {g : Option Nat} {l : List UInt8} (h : Own w0 w B g l) (hb : Below w.heap.size w w') : Own w0 w' B g l :=
  ⟨h.wr.keep (Fr.of_below (fun _ => False) hb) (fun _ _ h => h), h.below.trans (hb.mono h.below.size), h.base, h.row⟩
end Go.Proofs.YtdbfaknpfepnfaaDoor

/-
  The walks of a writer's inner functions: put, fixed, Fixed4, Raw, Bytes.
-/
namespace Go.Proofs.YtdbfaknpfepnfaaDoor
open Go.RowKit CodecP

theorem size_le (n : Nat) (h : n ≤ 1099511627776) : n ≤ maxLen := by unfold maxLen; omega

set_option maxHeartbeats 400000 in
theorem put_any (p o : Nat) (cs : Array Value) (t : TypeId) (g : Option Nat) (l : List UInt8) (ad : Addr) (c : Nat) (bs : List UInt8) (w : World) (h : Wr w p o cs t g l) (hb : BsAt w ad bs) (hlen : l.length + bs.length ≤ 1099511627776) :
    Calls Tryd.prog 52 #[.pointer (some ⟨p, o, none⟩), .slice (some ad) bs.length c] w fun e w' => e = .returned (.pointer (some ⟨p, o, none⟩)) ∧ WrBy w w' p o cs t g (l ++ bs) := by
  obtain ⟨i0, hi, hz0, hz1, hz2⟩ := info_parts info_u8b
  obtain ⟨v, hp, hoc, ho, hg, hne⟩ := h
  have c0 := cell_of_set hp hoc
  have HP := Lib.hid hp
  have HO := Lib.hid ho
  have HG := Lib.hid hg
  have HB := Lib.hid hb
  have HNE := Lib.hid hne
  have hlt := lt_of_block hp
  clear hp ho hg hb hne
  go_enter Tryd.func52, Tryd.ntmps52
  go_wp2_with (at_builtin; refine wpList_append_own_at _ rfl _ _ 66 rfl 0 5 i0 (.int .u8 0) 1 1 Tryd.underlying66 hi hz0 hz1 hz2 rfl (by decide) _ _ _ rfl HO.out ad bs.length c (u8s bs) rfl (by rw [u8s_length]; omega) HB.out (u8s_one _) (size_le _ hlen) (by omega) (Nat.zero_le _) ?_; intro v2 w1 hown hgrow _ hat; have hgr : w.grownBy w1 v.ownBlock := hgrow; have hatt : v2.ownBlock = v.ownBlock ∨ v2.ownBlock = some w.heap.size := hat; clear hgrow hat; obtain ⟨ao, c2, hv2⟩ := own_form hown; have hp1 := (hgr.block p hlt (fun e => HNE.out (by rw [← HG.out, e]))).trans HP.out; have c1 := cell_of_set hp1 hoc; have f1 := free_of_set o hp1; have HP1 := Lib.hid hp1; have HO2 := Lib.hid hown; have HV2 := Lib.hid hv2; have HGR := Lib.hid hgr; have HAT := Lib.hid hatt; rw [hv2]; clear hp1 hown hgr hatt hv2)
  go_ret
  refine ⟨rfl, ?_, ?_⟩
  · have hne2 : v2.ownBlock ≠ some p := by
      rcases HAT.out with e | e
      · rw [e, HG.out]; exact HNE.out
      · rw [e]; intro h; injection h with h; omega
    refine ⟨v2.ownBlock, ?_, v2, ?_, hoc, ?_, rfl, hne2⟩
    · rcases HAT.out with e | e
      · exact .inl (by rw [e, HG.out])
      · exact .inr ⟨_, e, Nat.le_refl _⟩
    · rw [HV2.out]; exact set_setCell _ HP1.out
    · rw [List.length_append, u8s_append]
      exact ownsRow_setCell_other HO2.out hne2 _
  · exact ((Fr.refl _ _).grown HGR.out (fun k _ hk => .inr (by rw [← HG.out, hk]))).setCell (.inl (.inl rfl)) _

/-- What was laid, as a text. -/
theorem bytes_any (p o : Nat) (cs : Array Value) (t : TypeId) (g : Option Nat) (l : List UInt8) (w : World) (h : Wr w p o cs t g l) :
    Calls Tryd.prog 39 #[.pointer (some ⟨p, o, none⟩)] w fun e w' => e = .returned (.string ⟨l.toArray⟩) ∧ w = w' := by
  obtain ⟨v, hp, hoc, ho, hg, hne⟩ := h
  have c0 := cell_of_set hp hoc
  have hlen := ho.1
  rw [u8s_length] at hlen
  have hcv : (convert 66 9 v).run Tryd.prog w = .ok (.string ⟨l.toArray⟩) w := by
    rcases ho.2 with ⟨rfl, h0⟩ | ⟨gg, cap, cur, rfl, hgg, hh, hcap, hmax, hcs, htk⟩
    · have : l = [] := List.length_eq_zero_iff.1 h0
      subst this
      exact run_convert_bytes_nil (P := Tryd.prog) (w := w) 66 5 Tryd.underlying66 Tryd.underlying5 0 0 9 Tryd.underlying9
    · refine run_convert_bytes_back w 66 9 5 ⟨gg, 0, none⟩ cap l Tryd.underlying66 Tryd.underlying5 Tryd.underlying9 (fun j hj => ?_)
      rw [Go.WideShapes.add_plain, Nat.zero_add]
      rw [ho.cellAt j (by omega)]
      unfold u8s
      rw [List.getElem?_map, List.getElem?_eq_getElem hj]; rfl
  clear hp ho hg hne hlen
  obtain ⟨s, hs⟩ : ∃ s, s = ByteArray.mk l.toArray := ⟨_, rfl⟩
  rw [← hs] at hcv ⊢
  clear hs
  go_enter Tryd.func39, Tryd.ntmps39
  go_wp2
  go_ret
  exact ⟨rfl, rfl⟩
end Go.Proofs.YtdbfaknpfepnfaaDoor

/-
  The walks of a writer's Raw, fixed and Fixed4.
-/
namespace Go.Proofs.YtdbfaknpfepnfaaDoor
open Go.RowKit CodecP

/-- Bytes of a text that were laid into a new block. -/
theorem bs_bytes (w : World) (s : ByteArray) : BsAt (Lib.bytesWorld w 5 s) ⟨w.heap.size, 0, none⟩ s.data.toList := by
  intro j x hj
  have hjl : j < s.size := by
    rcases Nat.lt_or_ge j s.size with h | h
    · exact h
    · rw [List.getElem?_eq_none (by rw [u8s_length]; simpa using h)] at hj; simp at hj
  rw [Go.WideShapes.add_plain, Nat.zero_add, Lib.bytesWorld_cell w _ s j hjl]
  unfold u8s at hj
  rw [List.getElem?_map, List.getElem?_eq_getElem (by simpa using hjl)] at hj
  rw [← hj, List.getD_eq_getElem?_getD, List.getElem?_eq_getElem (by simpa using hjl)]
  rfl

theorem raw_any (p o : Nat) (cs : Array Value) (t : TypeId) (g : Option Nat) (l : List UInt8) (s : ByteArray) (w : World) (h : Wr w p o cs t g l) (hlen : l.length + s.size ≤ 1099511627776) :
    Calls Tryd.prog 37 #[.pointer (some ⟨p, o, none⟩), .string s] w fun e w' => e = .returned (.pointer (some ⟨p, o, none⟩)) ∧ WrBy w w' p o cs t g (l ++ s.data.toList) := by
  have hcv := fun W => Lib.run_convert_string_bytes (P := Tryd.prog) W 9 66 5 s Tryd.underlying9 Tryd.underlying66 Tryd.underlying5
  have hf : Fr (WrS p g) w (Lib.bytesWorld w 5 s) := (Fr.refl _ w).bytes _ _
  have hw : Wr (Lib.bytesWorld w 5 s) p o cs t g l := h.keep ((Fr.refl (fun k => w.heap.size ≤ k) w).bytes _ _) (fun k hk => by
    rcases hk with rfl | hk
    · have := h.lt; omega
    · have := h.lt2 k hk; omega)
  have HW := Lib.hid hw
  have HF := Lib.hid hf
  clear hf hw h
  go_enter Tryd.func37, Tryd.ntmps37
  go_wp2_with fail
  refine (put_any p o cs t g l ⟨w.heap.size, 0, none⟩ _ s.data.toList _ HW.out (bs_bytes w s) hlen).mono ?_
  rintro e w' ⟨rfl, hby⟩
  go_wp2
  go_ret
  exact ⟨rfl, WrBy.trans HF.out (.inl rfl) hby⟩

theorem byte_at (n m : Nat) : ((n : Int) / (2 : Int) ^ (8 * m)) % 256 = ((n / 256 ^ m % 256 : Nat) : Int) := by
  rw [show (2 : Int) ^ (8 * m) = ((256 ^ m : Nat) : Int) by rw [Int.pow_mul]; simp]
  rw [← Int.natCast_ediv]; omega
theorem u8s_byte (n m : Nat) : u8s [UInt8.ofNat (n / 256 ^ m % 256)] = [Value.int .u8 ((n / 256 ^ m % 256 : Nat) : Int)] := by
  unfold u8s
  have : n / 256 ^ m % 256 < 256 := Nat.mod_lt _ (by decide)
  simp
theorem bs_one (w : World) (x : Value) (t : TypeId) (l : List UInt8) (h : u8s l = [x]) : BsAt (w.alloc (.cells #[x] t)) ⟨w.heap.size, 0, none⟩ l := by
  intro j y hj
  rw [h] at hj
  match j, hj with
  | 0, hj => simp at hj; subst hj; simp [Addr.add]

set_option maxHeartbeats 400000 in
theorem fixed_any (p o : Nat) (cs : Array Value) (t : TypeId) (g : Option Nat) (l : List UInt8) (n size : Nat) (w : World) (h : Wr w p o cs t g l) (hs : size ≤ 8) (hlen : l.length + 8 ≤ 1099511627776) :
    Calls Tryd.prog 53 #[.pointer (some ⟨p, o, none⟩), .int .u64 n, .int .i64 size] w fun e w' => e = .returned (.pointer (some ⟨p, o, none⟩)) ∧ WrBy w w' p o cs t g (l ++ fixed size n) := by
  have hby := WrBy.refl h
  clear h
  go_enter Tryd.func53, Tryd.ntmps53
  go_wp2
  go_loopw [7] (fun i wr => (∃ m k : Nat, m + k + 1 = size ∧ i = .int .i64 m ∧ WrBy w wr p o cs t g (l ++ (fixed size n).take k)) ∨ (i = .int .i64 (-1) ∧ WrBy w wr p o cs t g (l ++ fixed size n))) (fun i _ => (intOf i + 1).toNat)
  case atStart =>
    by_cases hz : size = 0
    · right; subst hz; exact ⟨rfl, by simpa [fixed] using hby⟩
    · left; exact ⟨size - 1, 0, by omega, by go_num, by simpa using hby⟩
  case round =>
    clear hby
    rcases hrel with ⟨m, k, hmk, rfl, hby⟩ | ⟨rfl, hby⟩
    · have hby2 := byte_at n m
      have hu := u8s_byte n m
      have htk := fixed_take size n k (by omega)
      rw [show size - 1 - k = m by omega] at htk
      generalize n / 256 ^ m % 256 = b at *
      have HU := Lib.hid hu
      have HT := Lib.hid htk
      clear hu htk
      obtain ⟨⟨g', hg', hw⟩, hf⟩ := hby
      have HW := Lib.hid hw
      have HG := Lib.hid hg'
      have HF := Lib.hid hf
      clear hg' hw hf
      go_wp2_with fail
      have hw2 : Wr (wr.alloc (.cells #[.int .u8 (b : Int)] 5)) p o cs t g' (l ++ (fixed size n).take k) := HW.out.keep ((Fr.refl (fun _ => False) wr).alloc _) (fun _ _ h => h)
      have hlk : ((fixed size n).take k).length ≤ 7 := by rw [List.length_take, fixed_length]; omega
      refine (put_any p o cs t g' _ ⟨wr.heap.size, 0, none⟩ 1 [UInt8.ofNat b] _ hw2 (bs_one _ _ _ _ HU.out) (by rw [List.length_append]; simp only [List.length_cons, List.length_nil]; omega)).mono ?_
      rintro e w2 ⟨rfl, hby⟩
      rw [List.append_assoc, ← HT.out] at hby
      have hby3 : WrBy w w2 p o cs t g (l ++ (fixed size n).take (k + 1)) := WrBy.trans (HF.out.alloc _) HG.out ⟨hby.wr.imp fun g2 h2 => h2, hby.fr⟩
      clear hby hw2
      have HBY := Lib.hid hby3
      clear hby3
      go_wp2
      go_roundw
      case rel =>
        cases m with
        | zero => right; exact ⟨by go_num, by have := HBY.out; rwa [List.take_of_length_le (by rw [fixed_length]; omega)] at this⟩
        | succ m => left; exact ⟨m, k + 1, by omega, by go_num, HBY.out⟩
      case measure => simp [intOf]
    · go_wp2
      go_ret
      exact ⟨rfl, hby⟩
theorem fixed4_any (p o : Nat) (cs : Array Value) (t : TypeId) (g : Option Nat) (l : List UInt8) (n : Nat) (w : World) (h : Wr w p o cs t g l) (hn : n < 4294967296) (hlen : l.length + 8 ≤ 1099511627776) :
    Calls Tryd.prog 98 #[.pointer (some ⟨p, o, none⟩), .int .u32 n] w fun e w' => e = .returned (.pointer (some ⟨p, o, none⟩)) ∧ WrBy w w' p o cs t g (l ++ fixed 4 n) := by
  have H := Lib.hid h
  clear h
  go_enter Tryd.func98, Tryd.ntmps98
  go_wp2_with fail
  refine (fixed_any p o cs t g l n 4 w H.out (by omega) hlen).mono ?_
  rintro e w' ⟨rfl, hby⟩
  go_wp2
  go_ret
  exact ⟨rfl, hby⟩
end Go.Proofs.YtdbfaknpfepnfaaDoor

/-
  The walks of a writer's groups, Size, Signed, Fixed8, Text.
-/
namespace Go.Proofs.YtdbfaknpfepnfaaDoor
open Go.RowKit CodecP

theorem groups_low (f n : Nat) (h : n < 128) : groups f n = [UInt8.ofNat n] := by cases f <;> simp [groups, h]
theorem groups_high (f n : Nat) (h : ¬ n < 128) : groups (f + 1) n = UInt8.ofNat (n % 128 + 128) :: groups f (n / 128) := by simp [groups, h]
theorem groups_length (f : Nat) : ∀ n, (groups f n).length ≤ f + 1 := by
  induction f with
  | zero => intro n; simp [groups]
  | succ f ih => intro n; simp only [groups]; split <;> simp; exact ih _
theorem or128 (n : Nat) : bits .or .u8 (((n : Int)) % 256) 128 = ((n % 128 + 128 : Nat) : Int) := by
  rw [show (n : Int) % 256 = ((n % 256 : Nat) : Int) by omega, show (128 : Int) = ((128 : Nat) : Int) from rfl, u8_or_nat _ _ (by omega) (by omega)]
  congr 1
  have h : n % 256 = 128 * (n / 128 % 2) + n % 128 := by omega
  rw [h]
  rcases Nat.mod_two_eq_zero_or_one (n / 128) with e | e <;> rw [e]
  · rw [show 128 * 0 + n % 128 = n % 128 by omega]
    have := Nat.two_pow_add_eq_or_of_lt (i := 7) (b := n % 128) (by omega) 1
    rw [show (2 : Nat) ^ 7 * 1 = 128 from rfl] at this
    rw [Nat.or_comm, ← this]; omega
  · have := Nat.two_pow_add_eq_or_of_lt (i := 7) (b := n % 128) (by omega) 1
    rw [show (2 : Nat) ^ 7 * 1 = 128 from rfl] at this
    rw [show 128 * 1 + n % 128 = 128 + n % 128 by omega, this, Nat.or_assoc, Nat.or_comm (n % 128) 128, ← Nat.or_assoc, Nat.or_self, ← this]
    omega
end Go.Proofs.YtdbfaknpfepnfaaDoor

/-
  The walks of a writer's Size, Signed, Fixed8, Text; of a writer that there isn't.
-/
namespace Go.Proofs.YtdbfaknpfepnfaaDoor
open Go.RowKit CodecP

theorem xor_max (a : Nat) (h : a < 18446744073709551616) : a ^^^ 18446744073709551615 = 18446744073709551615 - a := by
  have e1 : (BitVec.ofNat 64 a ^^^ BitVec.allOnes 64).toNat = a ^^^ 18446744073709551615 := by
    rw [BitVec.toNat_xor, BitVec.toNat_ofNat, Nat.mod_eq_of_lt h]; rfl
  rw [← e1, BitVec.xor_allOnes, BitVec.toNat_not, BitVec.toNat_ofNat, Nat.mod_eq_of_lt h]
theorem zig_neg (n : Int) (h1 : -9223372036854775808 ≤ n) (h2 : n < 0) : bits .xor .u64 (IntKind.u64.wrap (IntKind.u64.wrap n * 2)) (IntKind.u64.wrap (n / 9223372036854775808)) = ((zig n : Nat) : Int) := by
  have e1 : IntKind.u64.wrap (IntKind.u64.wrap n * 2) = (((2 * n + 18446744073709551616).toNat : Nat) : Int) := by
    rw [IntKind.wrap_u64, IntKind.wrap_u64]; omega
  have e2 : IntKind.u64.wrap (n / 9223372036854775808) = ((18446744073709551615 : Nat) : Int) := by
    rw [IntKind.wrap_u64]; omega
  rw [e1, e2, u64_xor_nat _ _ (by omega) (by omega), xor_max _ (by omega)]
  unfold zig
  rw [if_neg (by omega)]
  congr 1
  omega
theorem zig_pos (n : Int) (h1 : 0 ≤ n) (h2 : n < 9223372036854775808) : bits .xor .u64 (n * 2) (n / 9223372036854775808) = ((zig n : Nat) : Int) := by
  rw [show n * 2 = (((2 * n).toNat : Nat) : Int) by omega, show n / 9223372036854775808 = ((0 : Nat) : Int) by omega, u64_xor_nat _ _ (by omega) (by omega), Nat.xor_zero]
  unfold zig
  rw [if_pos h1]
theorem fixed8_any (p o : Nat) (cs : Array Value) (t : TypeId) (g : Option Nat) (l : List UInt8) (n : Nat) (w : World) (h : Wr w p o cs t g l) (hlen : l.length + 8 ≤ 1099511627776) :
    Calls Tryd.prog 38 #[.pointer (some ⟨p, o, none⟩), .int .u64 n] w fun e w' => e = .returned (.pointer (some ⟨p, o, none⟩)) ∧ WrBy w w' p o cs t g (l ++ fixed 8 n) := by
  have H := Lib.hid h
  clear h
  go_enter Tryd.func38, Tryd.ntmps38
  go_wp2_with fail
  refine (fixed_any p o cs t g l n 8 w H.out (by omega) hlen).mono ?_
  rintro e w' ⟨rfl, hby⟩
  go_wp2
  go_ret
  exact ⟨rfl, hby⟩
theorem grp_length (n : Nat) : (grp n).length ≤ 10 := groups_length 9 n
end Go.Proofs.YtdbfaknpfepnfaaDoor

/-
  The walks of a reader's inner functions: Read, Good, fail, Raw, fixed, Fixed4.
-/
namespace Go.Proofs.YtdbfaknpfepnfaaDoor
open Go.RowKit CodecP

/-- A reader at block p: what is to come, and whether it is bad. -/
def Rd (w : World) (p : Nat) (s : ByteArray) (bad : Bool) : Prop := w.heap[p]? = some (.cells #[.string s, .bool bad] 62 (0, 0)) ∧ s.size ≤ maxLen
theorem Rd.keep {w w' : World} {S : Nat → Prop} {p : Nat} {s : ByteArray} {bad : Bool} (h : Rd w p s bad) (hf : Fr S w w') (hS : ¬ S p) : Rd w' p s bad :=
  ⟨(hf.block p (lt_of_block h.1) hS).trans h.1, h.2⟩
theorem Rd.c0 {w : World} {p : Nat} {s : ByteArray} {bad : Bool} (h : Rd w p s bad) : w.cell? ⟨p, 0, none⟩ = some (.string s) := by simp [World.cell?, h.1]
theorem Rd.c1 {w : World} {p : Nat} {s : ByteArray} {bad : Bool} (h : Rd w p s bad) : w.cell? ⟨p, 1, none⟩ = some (.bool bad) := by simp [World.cell?, h.1]
theorem Rd.free {w : World} {p : Nat} {s : ByteArray} {bad : Bool} (h : Rd w p s bad) (o : Nat) : w.frozen? ⟨p, o, none⟩ = false := by simp [World.frozen?, h.1]
theorem Rd.set0 {w : World} {p : Nat} {s : ByteArray} {bad : Bool} (h : Rd w p s bad) (s' : ByteArray) (hs : s'.size ≤ maxLen) : Rd (w.setCell ⟨p, 0, none⟩ (.string s')) p s' bad := by
  have hlt := lt_of_block h.1
  have h' : w.heap[p] = .cells #[.string s, .bool bad] 62 (0, 0) := by simpa [Array.getElem?_eq_getElem hlt] using h.1
  refine ⟨?_, hs⟩
  show (w.heap.modify p _)[p]? = _
  rw [Array.getElem?_eq_getElem (by simpa using hlt), Array.getElem_modify_self, h']
  rfl
theorem Rd.set1 {w : World} {p : Nat} {s : ByteArray} {bad : Bool} (h : Rd w p s bad) (b' : Bool) : Rd (w.setCell ⟨p, 1, none⟩ (.bool b')) p s b' := by
  have hlt := lt_of_block h.1
  have h' : w.heap[p] = .cells #[.string s, .bool bad] 62 (0, 0) := by simpa [Array.getElem?_eq_getElem hlt] using h.1
  refine ⟨?_, h.2⟩
  show (w.heap.modify p _)[p]? = _
  rw [Array.getElem?_eq_getElem (by simpa using hlt), Array.getElem_modify_self, h']
  rfl
/-- A reader's own block. -/
def RdS (p : Nat) : Nat → Prop := fun k => k = p

theorem rdS_set (p o : Nat) (v : Value) (w : World) : Fr (RdS p) w (w.setCell ⟨p, o, none⟩ v) := (Fr.refl (RdS p) w).setCell (p := ⟨p, o, none⟩) (.inl rfl) v

theorem read_any (s : ByteArray) (w : World) (hs : s.size ≤ maxLen) :
    Calls Tryd.prog 23 #[.string s] w fun e w' => e = .returned (.pointer (some ⟨w.heap.size, 0, none⟩)) ∧ Rd w' w.heap.size s false ∧ Below w.heap.size w w' := by
  have H := Lib.hid hs
  clear hs
  go_enter Tryd.func23, Tryd.ntmps23
  go_wp2
  go_ret
  refine ⟨rfl, ⟨?_, H.out⟩, (Below.refl _ _).alloc (Nat.le_refl _) _⟩
  show (w.heap.push _)[w.heap.size]? = _
  simp

theorem good_any (p : Nat) (s : ByteArray) (bad : Bool) (w : World) (h : Rd w p s bad) :
    Calls Tryd.prog 63 #[.pointer (some ⟨p, 0, none⟩)] w fun e w' => e = .returned (.bool (!bad)) ∧ w = w' := by
  have c1 := h.c1
  clear h
  go_enter Tryd.func63, Tryd.ntmps63
  go_wp2
  go_ret
  exact ⟨rfl, rfl⟩

theorem fail_any (p : Nat) (s : ByteArray) (bad : Bool) (w : World) (h : Rd w p s bad) :
    Calls Tryd.prog 64 #[.pointer (some ⟨p, 0, none⟩)] w fun e w' => e = .returned (.tuple #[]) ∧ Rd w' p s true ∧ Fr (RdS p) w w' := by
  have c1 := h.c1
  have f1 := h.free 1
  have H := Lib.hid h
  clear h
  go_enter Tryd.func64, Tryd.ntmps64
  go_wp2
  go_end0
  exact ⟨rfl, H.out.set1 true, rdS_set _ _ _ _⟩

/-- What Raw takes: the text, what is to come, whether the reader is bad. -/
def rawOut (s : ByteArray) (bad : Bool) (n : Int) : ByteArray × ByteArray × Bool :=
  if bad = true ∨ n < 0 ∨ (s.size : Int) < n then (ByteArray.empty, s, true) else (s.extract 0 n.toNat, s.extract n.toNat s.size, false)

theorem rdRaw_any (p : Nat) (s : ByteArray) (bad : Bool) (n : Int) (w : World) (h : Rd w p s bad) :
    Calls Tryd.prog 50 #[.pointer (some ⟨p, 0, none⟩), .int .i64 n] w fun e w' => e = .returned (.string (rawOut s bad n).1) ∧ Rd w' p (rawOut s bad n).2.1 (rawOut s bad n).2.2 ∧ Fr (RdS p) w w' := by
  by_cases hb : bad = true ∨ n < 0 ∨ (s.size : Int) < n
  · have hr : rawOut s bad n = (ByteArray.empty, s, true) := by unfold rawOut; rw [if_pos hb]
    rw [hr]
    have c0 := h.c0
    have c1 := h.c1
    have H := Lib.hid h
    clear h hr
    cases bad
    · have hb2 : n < 0 ∨ (s.size : Int) < n := by simpa using hb
      clear hb
      by_cases hn : n < 0
      · clear hb2
        go_enter Tryd.func50, Tryd.ntmps50
        go_wp2_with fail
        refine (good_any _ _ _ _ H.out).mono ?_
        rintro e w1 ⟨rfl, rfl⟩
        go_wp2_with fail
        refine (fail_any _ _ _ _ H.out).mono ?_
        rintro e w1 ⟨rfl, h1, hf⟩
        go_wp2
        go_ret
        exact ⟨rfl, h1, hf⟩
      · have hn2 : (s.size : Int) < n := by omega
        clear hb2
        go_enter Tryd.func50, Tryd.ntmps50
        go_wp2_with fail
        refine (good_any _ _ _ _ H.out).mono ?_
        rintro e w1 ⟨rfl, rfl⟩
        go_wp2_with fail
        refine (fail_any _ _ _ _ H.out).mono ?_
        rintro e w1 ⟨rfl, h1, hf⟩
        go_wp2
        go_ret
        exact ⟨rfl, h1, hf⟩
    · clear hb
      go_enter Tryd.func50, Tryd.ntmps50
      go_wp2_with fail
      refine (good_any _ _ _ _ H.out).mono ?_
      rintro e w1 ⟨rfl, rfl⟩
      go_wp2_with fail
      refine (fail_any _ _ _ _ H.out).mono ?_
      rintro e w1 ⟨rfl, h1, hf⟩
      go_wp2
      go_ret
      exact ⟨rfl, h1, hf⟩
  · have hr : rawOut s bad n = (s.extract 0 n.toNat, s.extract n.toNat s.size, false) := by unfold rawOut; rw [if_neg hb]
    rw [hr]
    have hbad : bad = false := by cases bad <;> simp_all
    subst hbad
    obtain ⟨k, rfl⟩ := Int.eq_ofNat_of_zero_le (show 0 ≤ n by omega)
    have hk : k ≤ s.size := by omega
    have c0 := h.c0
    have c1 := h.c1
    have f0 := h.free 0
    have hs := h.2
    have hs2 : (s.extract k s.size).size ≤ maxLen := by
      have : (s.extract k s.size).size ≤ s.size := by simp [ByteArray.size_extract]
      omega
    have H := Lib.hid h
    have H2 := Lib.hid (h.set0 _ hs2)
    clear h hb hr hs2
    unfold maxLen at hs
    rw [Int.toNat_natCast]
    go_enter Tryd.func50, Tryd.ntmps50
    go_wp2_with fail
    refine (good_any _ _ _ _ H.out).mono ?_
    rintro e w1 ⟨rfl, rfl⟩
    go_wp2
    go_ret
    exact ⟨rfl, H2.out, rdS_set _ _ _ _⟩
theorem value_take (l : List UInt8) (k : Nat) (h : k < l.length) : value (l.take (k + 1)) = 256 * value (l.take k) + (l.getD k 0).toNat := by
  rw [List.take_succ_eq_append_getElem h, value_snoc]
  simp [h]
theorem value_take_lt (l : List UInt8) (k : Nat) (h : k ≤ 7) : value (l.take k) < 72057594037927936 := by
  have h1 := value_lt (l.take k)
  have h2 : 256 ^ (l.take k).length ≤ 256 ^ 7 := Nat.pow_le_pow_right (by decide) (by rw [List.length_take]; omega)
  have h3 : 256 ^ 7 = 72057594037927936 := by decide
  omega
theorem or_byte (x c : Nat) (hx : x < 72057594037927936) (hc : c < 256) : bits .or .u64 ((x : Int) * 256) (c : Int) = ((256 * x + c : Nat) : Int) := by
  rw [show (x : Int) * 256 = ((256 * x : Nat) : Int) by omega, u64_or_nat _ _ (by omega) (by omega)]
  congr 1
  exact nat_join 8 (256 * x) c (by omega) (by omega)
theorem ret_u64 {a b : Int} (h : a = b) : Ending.returned (.int .u64 a) = .returned (.int .u64 b) := by rw [h]

set_option maxHeartbeats 400000 in
theorem rdFixed_any (p : Nat) (s : ByteArray) (bad : Bool) (n : Nat) (w : World) (h : Rd w p s bad) (hn : n ≤ 8) :
    Calls Tryd.prog 35 #[.pointer (some ⟨p, 0, none⟩), .int .i64 n] w fun e w' => e = .returned (.int .u64 (value (rawOut s bad n).1.data.toList : Nat)) ∧ Rd w' p (rawOut s bad n).2.1 (rawOut s bad n).2.2 ∧ Fr (RdS p) w w' := by
  have hsz : (rawOut s bad n).1.size ≤ 8 := by
    unfold rawOut
    split
    · show (0 : Nat) ≤ 8; omega
    · rename_i hh
      simp only [ByteArray.size_extract, Int.toNat_natCast]; omega
  have HR := Lib.hid (rdRaw_any p s bad n w h)
  clear h
  generalize rawOut s bad n = r at *
  obtain ⟨t, s2, b2⟩ := r
  have hcv := fun W => Lib.run_convert_string_bytes (P := Tryd.prog) W 9 66 5 t Tryd.underlying9 Tryd.underlying66 Tryd.underlying5
  simp only at hsz
  have hpos : (n : Int) ≤ 8 := by omega
  go_enter Tryd.func35, Tryd.ntmps35
  go_wp2_with fail
  refine HR.out.mono ?_
  rintro e w1 ⟨rfl, h1, hf⟩
  simp only
  have h2 : Rd (Lib.bytesWorld w1 5 t) p s2 b2 := h1.keep ((Fr.refl (fun _ => False) w1).bytes _ _) (fun h => h)
  have hf2 : Fr (RdS p) w (Lib.bytesWorld w1 5 t) := hf.bytes _ _
  have hc := Lib.bytesWorld_cell w1 5 t
  have HC := Lib.hid hc
  have H2 := Lib.hid h2
  have HF := Lib.hid hf2
  clear h1 h2 hf hf2 hc HR
  go_wp2
  clear hcv
  generalize Lib.bytesWorld w1 5 t = w2 at *
  go_loop [5, 7, 13] (fun x _ c => ∃ k : Nat, k ≤ t.size ∧ c = .int .i64 k ∧ x = .int .u64 (value (t.data.toList.take k) : Nat)) (fun _ _ c => t.size - (intOf c).toNat)
  case atStart => exact ⟨0, by omega, rfl, rfl⟩
  case round =>
    obtain ⟨k, hk, rfl, rfl⟩ := hrel
    by_cases hlt : k < t.size
    · have c0 := HC.out k hlt
      have hv := value_take t.data.toList k (by simpa using hlt)
      have hl := value_take_lt t.data.toList k (by omega)
      have hcl := (t.data.toList.getD k 0).toNat_lt
      have hor := or_byte (value (t.data.toList.take k)) (t.data.toList.getD k 0).toNat hl (by omega)
      generalize value (t.data.toList.take k) = x at *
      generalize (t.data.toList.getD k 0).toNat = c at *
      have HV := Lib.hid hv
      clear hv
      go_wp2
      go_round
      case rel => exact ⟨k + 1, by omega, by go_num, by rw [HV.out]; go_num⟩
      case measure => simp [intOf]; omega
    · go_wp2
      go_ret
      exact ⟨ret_u64 (by rw [List.take_of_length_le (by simp; omega)]), H2.out, HF.out⟩
theorem value_lt4 (l : List UInt8) (h : l.length ≤ 4) : value l < 4294967296 := by
  have h1 := value_lt l
  have h2 : 256 ^ l.length ≤ 256 ^ 4 := Nat.pow_le_pow_right (by decide) h
  have h3 : 256 ^ 4 = 4294967296 := by decide
  omega
theorem rdFixed4_any (p : Nat) (s : ByteArray) (bad : Bool) (w : World) (h : Rd w p s bad) :
    Calls Tryd.prog 96 #[.pointer (some ⟨p, 0, none⟩)] w fun e w' => e = .returned (.int .u32 (value (rawOut s bad 4).1.data.toList : Nat)) ∧ Rd w' p (rawOut s bad 4).2.1 (rawOut s bad 4).2.2 ∧ Fr (RdS p) w w' := by
  have hsz : (rawOut s bad 4).1.data.toList.length ≤ 4 := by
    unfold rawOut
    split
    · show (0 : Nat) ≤ 4; omega
    · show ((s.extract 0 4).data.toList).length ≤ 4
      rw [Array.length_toList, ByteArray.size_data, ByteArray.size_extract]; omega
  have hv := value_lt4 _ hsz
  have HR := Lib.hid (rdFixed_any p s bad 4 w h (by omega))
  clear h hsz
  have e4 : ((4 : Nat) : Int) = 4 := rfl
  rw [e4] at HR
  clear e4
  generalize rawOut s bad 4 = r at *
  generalize value r.1.data.toList = x at *
  go_enter Tryd.func96, Tryd.ntmps96
  go_wp2_with fail
  refine HR.out.mono ?_
  rintro e w1 ⟨rfl, h1, hf⟩
  go_wp2
  go_ret
  exact ⟨rfl, h1, hf⟩
end Go.Proofs.YtdbfaknpfepnfaaDoor

/-
  The walks of a reader's groups, Size, Signed, Fixed8, Text, Left, End.
-/
namespace Go.Proofs.YtdbfaknpfepnfaaDoor
open Go.RowKit CodecP

def bl (s : ByteArray) : List UInt8 := s.data.toList
def str (l : List UInt8) : ByteArray := ⟨l.toArray⟩
theorem str_bl (s : ByteArray) : str (bl s) = s := by cases s; simp [str, bl]
theorem bl_str (l : List UInt8) : bl (str l) = l := by simp [str, bl]
/-- What a reader has to come; none: it is bad. -/
def st (s : ByteArray) (bad : Bool) : Option (List UInt8) := if bad then none else some (bl s)
/-- What groups takes from the i-th byte on, behind a number. -/
def tkI (i n : Nat) (s : ByteArray) (bad : Bool) : Nat × Option (List UInt8) :=
  if bad then (0, none) else match tk i (bl s) with
    | none => (0, none)
    | some (m, r) => (n + 2 ^ (7 * i) * m, some r)
def RdTo (w w' : World) (p : Nat) (o : Option (List UInt8)) : Prop := ∃ s bad, Rd w' p s bad ∧ st s bad = o ∧ Fr (RdS p) w w'

theorem ext_bl (s : ByteArray) (a b : Nat) : bl (s.extract a b) = ((bl s).drop a).take (b - a) := by
  unfold bl
  rw [ByteArray.data_extract, Array.toList_extract]
theorem or_part (n x i : Nat) (hi : i ≤ 9) (hn : n < 2 ^ (7 * i)) (hx : i = 9 → x ≤ 1) : bits .or .u64 (n : Int) (IntKind.u64.wrap ((x : Int) % 128 * 2 ^ (7 * i))) = ((n + 2 ^ (7 * i) * (x % 128) : Nat) : Int) ∧ n + 2 ^ (7 * i) * (x % 128) < 18446744073709551616 ∧ n + 2 ^ (7 * i) * (x % 128) < 2 ^ (7 * (i + 1)) := by
  have hp : 2 ^ (7 * i) ≤ 2 ^ 63 := Nat.pow_le_pow_right (by omega) (by omega)
  have hq : (2 : Nat) ^ 63 = 9223372036854775808 := by decide
  have h7 : 2 ^ (7 * (i + 1)) = 128 * 2 ^ (7 * i) := by rw [show 7 * (i + 1) = 7 + 7 * i by omega, Nat.pow_add]
  have h8 : i ≤ 8 → 2 ^ (7 * i) ≤ 2 ^ 56 := fun h => Nat.pow_le_pow_right (by omega) (by omega)
  have hr : (2 : Nat) ^ 56 = 72057594037927936 := by decide
  have ei : (x : Int) % 128 * 2 ^ (7 * i) = ((2 ^ (7 * i) * (x % 128) : Nat) : Int) := by first | (push_cast; done) | (push_cast; rw [Int.mul_comm])
  have hle : 2 ^ (7 * i) * (x % 128) ≤ 2 ^ (7 * i) * 127 := Nat.mul_le_mul_left _ (by omega)
  have hle9 : i = 9 → 2 ^ (7 * i) * (x % 128) ≤ 2 ^ (7 * i) * 1 := fun h => Nat.mul_le_mul_left _ (by have := hx h; omega)
  have hor := Nat.two_pow_add_eq_or_of_lt hn (x % 128)
  rw [ei]
  generalize hP : 2 ^ (7 * i) = P at *
  generalize hM : P * (x % 128) = M at *
  have hMl : n + M < 18446744073709551616 := by
    by_cases h9 : i = 9
    · have := hle9 h9; omega
    · have := h8 (by omega); omega
  refine ⟨?_, hMl, by rw [h7]; omega⟩
  rw [IntKind.wrap_u64, show (M : Int) % 18446744073709551616 = (M : Int) by omega, u64_or_nat _ _ (by omega) (by omega), Nat.or_comm, ← hor, Nat.add_comm]
theorem tkI_more (i n : Nat) (s s2 : ByteArray) (c : UInt8) (r : List UInt8) (hc : bl s = c :: r) (h2 : bl s2 = r) (hbad : ¬ ((i = 9 ∧ 1 < c.toNat) ∨ (0 < i ∧ c.toNat = 0))) (h : ¬ c.toNat < 128) : tkI i n s false = tkI (i + 1) (n + 2 ^ (7 * i) * (c.toNat % 128)) s2 false := by
  unfold tkI
  rw [if_neg (by simp), if_neg (by simp), hc, h2]
  simp only [tk]
  rw [if_neg hbad, if_neg h]
  cases hk : tk (i + 1) r with
  | none => rfl
  | some y =>
    obtain ⟨m, q⟩ := y
    simp only [Option.map_some]
    congr 1
    rw [Nat.mul_add, show 7 * (i + 1) = 7 * i + 7 by omega, Nat.pow_add, Nat.add_assoc, Nat.mul_assoc]
theorem tkI_end (i n : Nat) (s s2 : ByteArray) (c : UInt8) (r : List UInt8) (hc : bl s = c :: r) (h2 : bl s2 = r) (hbad : ¬ ((i = 9 ∧ 1 < c.toNat) ∨ (0 < i ∧ c.toNat = 0))) (h : c.toNat < 128) : tkI i n s false = (n + 2 ^ (7 * i) * (c.toNat % 128), some (bl s2)) := by
  unfold tkI
  rw [if_neg (by simp), hc, h2]
  simp only [tk]
  rw [if_neg hbad, if_pos h, Nat.mod_eq_of_lt h]
theorem rdGroups_any (p : Nat) (s : ByteArray) (bad : Bool) (w : World) (h : Rd w p s bad) :
    Calls Tryd.prog 95 #[.pointer (some ⟨p, 0, none⟩)] w fun e w' => e = .returned (.int .u64 ((tkI 0 0 s bad).1 : Nat)) ∧ RdTo w w' p (tkI 0 0 s bad).2 := by
  have H0 := Lib.hid h
  clear h
  go_enter Tryd.func95, Tryd.ntmps95
  go_wp2
  go_loopw [3, 4] (fun x c wr => ∃ (n i : Nat) (s' : ByteArray) (b' : Bool), x = .int .u64 (n : Int) ∧ c = .int .i64 (i : Int) ∧ i ≤ 9 ∧ n < 2 ^ (7 * i) ∧ Rd wr p s' b' ∧ Fr (RdS p) w wr ∧ tkI 0 0 s bad = tkI i n s' b') (fun _ c _ => 9 - (intOf c).toNat)
  case atStart => exact ⟨0, 0, s, bad, rfl, rfl, by omega, by simp, H0.out, Fr.refl _ _, rfl⟩
  case round =>
    obtain ⟨n, i, s', b', rfl, rfl, hi, hn, hr, hf, he⟩ := hrel
    have HF := Lib.hid hf
    have HE := Lib.hid he
    have HR := Lib.hid (rdRaw_any p s' b' 1 wr hr)
    have HN := Lib.hid hn
    clear hf he hr hn
    by_cases hb : b' = true ∨ s'.size = 0
    · have hr : rawOut s' b' 1 = (ByteArray.empty, s', true) := by unfold rawOut; rw [if_pos (by rcases hb with h | h; exact .inl h; exact .inr (.inr (by omega)))]
      have ht : tkI i n s' b' = (0, none) := by
        unfold tkI
        rcases hb with h | h
        · rw [if_pos h]
        · split
          · rfl
          · have : bl s' = [] := List.length_eq_zero_iff.1 h
            rw [this]; rfl
      rw [hr] at HR
      rw [ht] at HE
      clear hr ht hb
      go_wp2_with fail
      refine HR.out.mono ?_
      rintro e w1 ⟨rfl, h1, hf1⟩
      go_wp2
      go_ret
      exact ⟨by rw [HE.out]; rfl, s', true, h1, by rw [HE.out]; rfl, HF.out.trans hf1 (fun _ _ h => h)⟩
    · obtain ⟨c, r, hc⟩ : ∃ c r, bl s' = c :: r := by
        cases hbs : bl s' with
        | nil => exact absurd (.inr (congrArg List.length hbs)) hb
        | cons c r => exact ⟨c, r, rfl⟩
      have hb1 : b' = false := by cases b' with | false => rfl | true => exact absurd (.inl rfl) hb
      have hs1 : 1 ≤ s'.size := by have : s'.size ≠ 0 := fun h => hb (.inr h); omega
      have hr : rawOut s' b' 1 = (s'.extract 0 1, s'.extract 1 s'.size, false) := by unfold rawOut; rw [if_neg (by rw [hb1]; simp; omega)]; rfl
      rw [hr] at HR
      subst hb1
      have ht0 : (s'.extract 0 1).size = 1 := by simp; omega
      have hbt : bl (s'.extract 0 1) = [c] := by rw [ext_bl, hc]; rfl
      have htc : ∀ h, (s'.extract 0 1)[0]'h = c := by
        intro h
        have h2 : (bl (s'.extract 0 1))[0]? = some c := by rw [hbt]; rfl
        have h3 : (bl (s'.extract 0 1))[0]? = some ((s'.extract 0 1)[0]'h) := List.getElem?_eq_getElem (show 0 < (bl (s'.extract 0 1)).length from h)
        rw [h3] at h2; injection h2
      have hbr : bl (s'.extract 1 s'.size) = r := by
        rw [ext_bl, hc, List.take_of_length_le]
        · rfl
        · have := congrArg List.length hc
          rw [show (bl s').length = s'.size from rfl] at this
          simp at this ⊢; omega
      generalize s'.extract 0 1 = t at *
      generalize s'.extract 1 s'.size = s2 at *
      have HT := Lib.hid ht0
      have HI := Lib.hid hi
      have q0 : t.toList.isEmpty = false := by
        rw [ByteArray.toList_eq, show t.data.toList = [c] from hbt]; rfl
      have ht1 : 0 < t.size := by omega
      simp only at HR
      clear hb hr ht0 hi hs1 hbt
      have hcl := c.toNat_lt
      obtain ⟨x, hx⟩ : ∃ x, x = c.toNat := ⟨_, rfl⟩
      rw [← hx] at hcl
      have htc' : ∀ h, ((t[0]'h).toNat : Int) = (x : Int) := fun h => by rw [htc h, hx]
      have hwc : IntKind.u64.wrap (x : Int) = (x : Int) := by rw [IntKind.wrap_u64]; omega
      clear htc
      by_cases hbad : (i = 9 ∧ 1 < x) ∨ (0 < i ∧ x = 0)
      · have htk : tkI i n s' false = (0, none) := by
          unfold tkI
          rw [if_neg (by simp), hc]
          simp only [tk]
          rw [if_pos (by rw [← hx]; exact hbad)]
        rw [htk] at HE
        clear htk hc hx
        rcases hbad with ⟨rfl, h1x⟩ | ⟨hi0, rfl⟩
        · have q1 : decide ((1 : Int) < (x : Int)) = true := by rw [decide_eq_true_eq]; omega
          go_wp2_with fail
          refine HR.out.mono ?_
          rintro e w1 ⟨rfl, h1, hf1⟩
          have HFA := Lib.hid (fail_any p s2 false w1 h1)
          have HF1 := Lib.hid hf1
          clear h1 hf1
          go_wp2_with fail
          refine HFA.out.mono ?_
          rintro e w2 ⟨rfl, h2, hf2⟩
          go_wp2
          go_ret
          exact ⟨by rw [HE.out]; rfl, s2, true, h2, by rw [HE.out]; rfl, (HF.out.trans HF1.out (fun _ _ h => h)).trans hf2 (fun _ _ h => h)⟩
        · by_cases h9 : i = 9
          · subst h9
            go_wp2_with fail
            refine HR.out.mono ?_
            rintro e w1 ⟨rfl, h1, hf1⟩
            have HFA := Lib.hid (fail_any p s2 false w1 h1)
            have HF1 := Lib.hid hf1
            clear h1 hf1
            go_wp2_with fail
            refine HFA.out.mono ?_
            rintro e w2 ⟨rfl, h2, hf2⟩
            go_wp2
            go_ret
            exact ⟨by rw [HE.out]; rfl, s2, true, h2, by rw [HE.out]; rfl, (HF.out.trans HF1.out (fun _ _ h => h)).trans hf2 (fun _ _ h => h)⟩
          · have q1 : ((i : Int) == 9) = false := by rw [beq_eq_false_iff_ne]; omega
            have q3 : decide ((0 : Int) < (i : Int)) = true := by rw [decide_eq_true_eq]; omega
            go_wp2_with fail
            refine HR.out.mono ?_
            rintro e w1 ⟨rfl, h1, hf1⟩
            have HFA := Lib.hid (fail_any p s2 false w1 h1)
            have HF1 := Lib.hid hf1
            clear h1 hf1
            go_wp2_with fail
            refine HFA.out.mono ?_
            rintro e w2 ⟨rfl, h2, hf2⟩
            go_wp2
            go_ret
            exact ⟨by rw [HE.out]; rfl, s2, true, h2, by rw [HE.out]; rfl, (HF.out.trans HF1.out (fun _ _ h => h)).trans hf2 (fun _ _ h => h)⟩
      · have HXC := Lib.hid hx
        clear hx
        have hand : bits .and .u64 (x : Int) 127 = ((x % 128 : Nat) : Int) := by
          rw [show (127 : Int) = ((127 : Nat) : Int) from rfl, u64_and_nat _ _ (by omega) (by omega)]
          congr 1
          exact Nat.and_two_pow_sub_one_eq_mod x 7
        have hi : i ≤ 9 := HI.out
        have hop := or_part n x i hi HN.out (fun h => by omega)
        obtain ⟨ho1, ho2, ho3⟩ := hop
        have HO2 := Lib.hid ho2
        have HO3 := Lib.hid ho3
        clear ho2 ho3
        by_cases h128 : x < 128
        · have hE := HE.out
          rw [tkI_end i n s' s2 c r hc hbr (by rw [← HXC.out]; exact hbad) (by rw [← HXC.out]; exact h128), ← HXC.out] at hE
          have HE2 := Lib.hid hE
          have q5 : decide ((x : Int) < 128) = true := by rw [decide_eq_true_eq]; omega
          clear hc hbr HE hE h128
          generalize n + 2 ^ (7 * i) * (x % 128) = N at *
          by_cases hi0 : i = 0
          · subst hi0
            have ho0 : bits .or .u64 (n : Int) ((x : Int) % 128) = (N : Int) := by
              rw [← ho1, IntKind.wrap_u64, Nat.mul_zero, Int.pow_zero, Int.mul_one, show (x : Int) % 128 % 18446744073709551616 = (x : Int) % 128 by omega]
            clear hbad ho1
            go_wp2_with fail
            refine HR.out.mono ?_
            rintro e w1 ⟨rfl, h1, hf1⟩
            have HF1 := Lib.hid hf1
            have H1 := Lib.hid h1
            clear h1 hf1
            go_wp2
            go_ret
            exact ⟨by rw [HE2.out]; rfl, s2, false, H1.out, by rw [HE2.out]; rfl, HF.out.trans HF1.out (fun _ _ h => h)⟩
          · by_cases hi9 : i = 9
            · subst hi9
              have hx1 : x = 1 := by omega
              subst hx1
              have hw9 : IntKind.u64.wrap 9223372036854775808 = 9223372036854775808 := by rw [IntKind.wrap_u64]; rfl
              have hand1 : bits .and .u64 1 127 = 1 := hand
              have ho9 : bits .or .u64 (n : Int) 9223372036854775808 = (N : Int) := by
                rw [← ho1]; congr 1
              have ho9' : bits .or .u64 (n : Int) (IntKind.u64.wrap (bits .and .u64 1 127 * 9223372036854775808)) = (N : Int) := by
                rw [hand1, Int.one_mul, hw9]; exact ho9
              clear hbad hand ho1
              go_wp2_with fail
              refine HR.out.mono ?_
              rintro e w1 ⟨rfl, h1, hf1⟩
              have HF1 := Lib.hid hf1
              have H1 := Lib.hid h1
              clear h1 hf1
              go_wp2
              go_ret
              exact ⟨by rw [HE2.out]; rfl, s2, false, H1.out, by rw [HE2.out]; rfl, HF.out.trans HF1.out (fun _ _ h => h)⟩
            · have q3 : 0 < i := by omega
              have q1 : ((i : Int) == 9) = false := by rw [beq_eq_false_iff_ne]; omega
              have q4 : ((x : Int) == 0) = false := by rw [beq_eq_false_iff_ne]; omega
              have hi1 : (0 : Int) ≤ 7 * (i : Int) := by omega
              have hi2 : 7 * (i : Int) ≤ 63 := by omega
              clear hbad
              go_wp2_with fail
              refine HR.out.mono ?_
              rintro e w1 ⟨rfl, h1, hf1⟩
              have HF1 := Lib.hid hf1
              have H1 := Lib.hid h1
              clear h1 hf1
              go_wp2
              go_ret
              exact ⟨by rw [HE2.out]; rfl, s2, false, H1.out, by rw [HE2.out]; rfl, HF.out.trans HF1.out (fun _ _ h => h)⟩
        · have hx9 : i < 9 := by
            rcases Nat.lt_or_ge i 9 with h | h
            · exact h
            · exact absurd (.inl ⟨by omega, by omega⟩) hbad
          have hE := HE.out
          rw [tkI_more i n s' s2 c r hc hbr (by rw [← HXC.out]; exact hbad) (by rw [← HXC.out]; exact h128), ← HXC.out] at hE
          have HE2 := Lib.hid hE
          have q1 : ((i : Int) == 9) = false := by rw [beq_eq_false_iff_ne]; omega
          have q4 : ((x : Int) == 0) = false := by rw [beq_eq_false_iff_ne]; omega
          have q5 : decide ((x : Int) < 128) = false := by rw [decide_eq_false_iff_not]; omega
          clear hbad h128 hc hbr HE hE
          generalize n + 2 ^ (7 * i) * (x % 128) = N at *
          by_cases hi0 : i = 0
          · subst hi0
            have ho0 : bits .or .u64 (n : Int) ((x : Int) % 128) = (N : Int) := by
              rw [← ho1, IntKind.wrap_u64, Nat.mul_zero, Int.pow_zero, Int.mul_one, show (x : Int) % 128 % 18446744073709551616 = (x : Int) % 128 by omega]
            clear ho1 q1
            go_wp2_with fail
            refine HR.out.mono ?_
            rintro e w1 ⟨rfl, h1, hf1⟩
            have HF1 := Lib.hid hf1
            have H1 := Lib.hid h1
            clear h1 hf1
            go_wp2
            go_roundw
            case rel => exact ⟨N, 1, s2, false, rfl, rfl, by omega, HO3.out, H1.out, HF.out.trans HF1.out (fun _ _ h => h), HE2.out⟩
            case measure => simp [intOf]
          · have q3 : 0 < i := by omega
            have hi1 : (0 : Int) ≤ 7 * (i : Int) := by omega
            have hi2 : 7 * (i : Int) ≤ 63 := by omega
            go_wp2_with fail
            refine HR.out.mono ?_
            rintro e w1 ⟨rfl, h1, hf1⟩
            have HF1 := Lib.hid hf1
            have H1 := Lib.hid h1
            clear h1 hf1
            go_wp2
            go_roundw
            case rel => exact ⟨N, i + 1, s2, false, by go_num, by go_num, by omega, HO3.out, H1.out, HF.out.trans HF1.out (fun _ _ h => h), HE2.out⟩
            case measure => simp [intOf]; omega
end Go.Proofs.YtdbfaknpfepnfaaDoor

/-
  The walks of a reader's Size, Signed, Fixed8, Text, Left, End.
-/
namespace Go.Proofs.YtdbfaknpfepnfaaDoor
open Go.RowKit CodecP

theorem tkI_lt (s : ByteArray) (bad : Bool) : (tkI 0 0 s bad).1 < 18446744073709551616 := by
  unfold tkI
  split
  · decide
  · cases hk : tk 0 (bl s) with
    | none => decide
    | some y =>
      obtain ⟨m, r⟩ := y
      have := (grp_tk m _ _ hk).2
      simp only
      omega
/-- What Size takes. -/
def sizeO (s : ByteArray) (bad : Bool) : Nat × Option (List UInt8) := if 9223372036854775808 ≤ (tkI 0 0 s bad).1 then (0, none) else tkI 0 0 s bad
theorem rdSize_any (p : Nat) (s : ByteArray) (bad : Bool) (w : World) (h : Rd w p s bad) :
    Calls Tryd.prog 83 #[.pointer (some ⟨p, 0, none⟩)] w fun e w' => e = .returned (.int .i64 ((sizeO s bad).1 : Nat)) ∧ RdTo w w' p (sizeO s bad).2 := by
  have HG := Lib.hid (rdGroups_any p s bad w h)
  have hl := tkI_lt s bad
  unfold sizeO
  clear h
  generalize tkI 0 0 s bad = r at *
  obtain ⟨n, o⟩ := r
  simp only at *
  by_cases hn : 9223372036854775808 ≤ n
  · rw [if_pos hn]
    have q1 : decide ((9223372036854775808 : Int) ≤ (n : Int)) = true := by rw [decide_eq_true_eq]; omega
    clear hn hl
    go_enter Tryd.func83, Tryd.ntmps83
    go_wp2_with fail
    refine HG.out.mono ?_
    rintro e w1 ⟨rfl, s1, b1, h1, hs1, hf1⟩
    have HFA := Lib.hid (fail_any p s1 b1 w1 h1)
    clear h1 hs1
    go_wp2_with fail
    refine HFA.out.mono ?_
    rintro e w2 ⟨rfl, h2, hf2⟩
    go_wp2
    go_ret
    exact ⟨rfl, s1, true, h2, rfl, hf1.trans hf2 (fun _ _ h => h)⟩
  · rw [if_neg hn]
    have q1 : decide ((9223372036854775808 : Int) ≤ (n : Int)) = false := by rw [decide_eq_false_iff_not]; omega
    have hw : IntKind.i64.wrap (n : Int) = (n : Int) := IntWalk.i64_in _ (by omega)
    have hw2 : wrap64 (n : Int) = (n : Int) := IntWalk.wrap64_in _ (by omega)
    clear hn hl
    go_enter Tryd.func83, Tryd.ntmps83
    go_wp2_with fail
    refine HG.out.mono ?_
    rintro e w1 ⟨rfl, h1⟩
    have H1 := Lib.hid h1
    clear h1
    go_wp2
    go_ret
    exact ⟨rfl, H1.out⟩
theorem i64_xor0 (a : Nat) (ha : a < 9223372036854775808) : bits .xor .i64 (a : Int) 0 = (a : Int) := by
  have e : BitVec.ofInt 64 (a : Int) ^^^ BitVec.ofInt 64 0 = BitVec.ofNat 64 a := by
    rw [show BitVec.ofInt 64 0 = 0#64 by decide, BitVec.xor_zero, BitVec.ofInt_natCast]
  show IntKind.i64.wrap ((BitVec.ofInt 64 (a : Int) ^^^ BitVec.ofInt 64 0).toNat : Int) = _
  rw [e, BitVec.toNat_ofNat, Nat.mod_eq_of_lt (by omega)]
  exact IntWalk.i64_in _ (by omega)
theorem i64_xorm (a : Nat) (ha : a < 9223372036854775808) : bits .xor .i64 (a : Int) (-1) = -(a : Int) - 1 := by
  have e : BitVec.ofInt 64 (a : Int) ^^^ BitVec.ofInt 64 (-1) = ~~~(BitVec.ofNat 64 a) := by
    rw [show BitVec.ofInt 64 (-1) = BitVec.allOnes 64 by decide, BitVec.xor_allOnes, BitVec.ofInt_natCast]
  show IntKind.i64.wrap ((BitVec.ofInt 64 (a : Int) ^^^ BitVec.ofInt 64 (-1)).toNat : Int) = _
  rw [e, BitVec.toNat_not, BitVec.toNat_ofNat, Nat.mod_eq_of_lt (by omega)]
  simp [IntKind.wrap, IntKind.bits, IntKind.signed]
  omega
theorem unzig_bits (n : Nat) (hn : n < 18446744073709551616) : bits .xor .i64 (wrap64 ((n : Int) / 2)) (wrap64 (-wrap64 (bits .and .u64 (n : Int) 1))) = unzig n := by
  have h1 : bits .and .u64 (n : Int) 1 = ((n % 2 : Nat) : Int) := by
    rw [show (1 : Int) = ((1 : Nat) : Int) from rfl, u64_and_nat _ _ hn (by omega)]
    congr 1
    exact Nat.and_two_pow_sub_one_eq_mod n 1
  have h2 : wrap64 ((n : Int) / 2) = ((n / 2 : Nat) : Int) := by rw [IntWalk.wrap64_in _ (by omega)]; omega
  have h3 : wrap64 ((n % 2 : Nat) : Int) = ((n % 2 : Nat) : Int) := IntWalk.wrap64_in _ (by omega)
  have h4 : wrap64 (-((n % 2 : Nat) : Int)) = -((n % 2 : Nat) : Int) := IntWalk.wrap64_in _ (by omega)
  rw [h1, h2, h3, h4]
  unfold unzig
  rcases Nat.mod_two_eq_zero_or_one n with e | e
  · rw [e, if_pos rfl]; exact i64_xor0 _ (by omega)
  · rw [e, if_neg (by decide)]; exact i64_xorm _ (by omega)
theorem rdFixed8_any (p : Nat) (s : ByteArray) (bad : Bool) (w : World) (h : Rd w p s bad) :
    Calls Tryd.prog 24 #[.pointer (some ⟨p, 0, none⟩)] w fun e w' => e = .returned (.int .u64 (value (rawOut s bad 8).1.data.toList : Nat)) ∧ Rd w' p (rawOut s bad 8).2.1 (rawOut s bad 8).2.2 ∧ Fr (RdS p) w w' := by
  have HR := Lib.hid (rdFixed_any p s bad 8 w h (by omega))
  clear h
  have e4 : ((8 : Nat) : Int) = 8 := rfl
  rw [e4] at HR
  clear e4
  generalize rawOut s bad 8 = r at *
  generalize value r.1.data.toList = x at *
  go_enter Tryd.func24, Tryd.ntmps24
  go_wp2_with fail
  refine HR.out.mono ?_
  rintro e w1 ⟨rfl, h1, hf⟩
  go_wp2
  go_ret
  exact ⟨rfl, h1, hf⟩
theorem left_any (p : Nat) (s : ByteArray) (bad : Bool) (w : World) (h : Rd w p s bad) :
    Calls Tryd.prog 90 #[.pointer (some ⟨p, 0, none⟩)] w fun e w' => e = .returned (.int .i64 ((if bad then 0 else s.size : Nat) : Int)) ∧ w = w' := by
  have HG := Lib.hid (good_any p s bad w h)
  have c0 := h.c0
  have hs := h.2
  unfold maxLen at hs
  clear h
  cases bad
  · go_enter Tryd.func90, Tryd.ntmps90
    go_wp2_with fail
    refine HG.out.mono ?_
    rintro e w1 ⟨rfl, rfl⟩
    go_wp2
    go_ret
    exact ⟨rfl, rfl⟩
  · go_enter Tryd.func90, Tryd.ntmps90
    go_wp2_with fail
    refine HG.out.mono ?_
    rintro e w1 ⟨rfl, rfl⟩
    go_wp2
    go_ret
    exact ⟨rfl, rfl⟩
theorem end_any (p : Nat) (s : ByteArray) (bad : Bool) (w : World) (h : Rd w p s bad) :
    Calls Tryd.prog 93 #[.pointer (some ⟨p, 0, none⟩)] w fun e w' => e = .returned (.bool (!bad && s.size == 0)) ∧ w = w' := by
  have HG := Lib.hid (good_any p s bad w h)
  have c0 := h.c0
  have hs := h.2
  unfold maxLen at hs
  clear h
  cases bad
  · have e0 : ((s.size : Int) == 0) = (s.size == 0) := by
      rw [Bool.eq_iff_iff, beq_iff_eq, beq_iff_eq]; omega
    go_enter Tryd.func93, Tryd.ntmps93
    go_wp2_with fail
    refine HG.out.mono ?_
    rintro e w1 ⟨rfl, rfl⟩
    go_wp2
    go_ret
    exact ⟨rfl, rfl⟩
  · go_enter Tryd.func93, Tryd.ntmps93
    go_wp2_with fail
    refine HG.out.mono ?_
    rintro e w1 ⟨rfl, rfl⟩
    go_wp2
    go_ret
    exact ⟨rfl, rfl⟩
/-- What Raw takes of what is to come. -/
def rawS (n : Int) : Option (List UInt8) → List UInt8 × Option (List UInt8)
  | none => ([], none)
  | some l => if n < 0 ∨ (l.length : Int) < n then ([], none) else (l.take n.toNat, some (l.drop n.toNat))
theorem rawOut_st (s : ByteArray) (bad : Bool) (n : Int) : (rawOut s bad n).1 = str (rawS n (st s bad)).1 ∧ st (rawOut s bad n).2.1 (rawOut s bad n).2.2 = (rawS n (st s bad)).2 := by
  unfold rawOut st rawS
  cases bad
  · simp only [Bool.false_eq_true, false_or, if_false]
    by_cases h : n < 0 ∨ (s.size : Int) < n
    · rw [if_pos h, if_pos (show n < 0 ∨ ((bl s).length : Int) < n from h)]
      exact ⟨rfl, rfl⟩
    · rw [if_neg h, if_neg (show ¬ (n < 0 ∨ ((bl s).length : Int) < n) from h)]
      refine ⟨?_, ?_⟩
      · rw [← str_bl (s.extract 0 n.toNat), ext_bl]; simp
      · simp only [Bool.false_eq_true, if_false]
        rw [ext_bl, List.take_of_length_le (by rw [List.length_drop]; exact Nat.le_refl _)]
  · simp; rfl
/-- What Text takes. -/
def textO (s : ByteArray) (bad : Bool) (most : Int) : List UInt8 × Option (List UInt8) :=
  if most < ((sizeO s bad).1 : Int) then ([], none) else rawS ((sizeO s bad).1 : Int) (sizeO s bad).2
end Go.Proofs.YtdbfaknpfepnfaaDoor

/-
  The walk of law 03's awake.
-/
namespace Go.Proofs.YtdbfaknpfepnfaaDoor
open Go.RowKit CodecP

theorem st_some {s : ByteArray} {b : Bool} {l : List UInt8} (h : st s b = some l) : b = false ∧ s = str l := by
  unfold st at h
  cases b
  · rw [if_neg (by simp)] at h
    injection h with h
    exact ⟨rfl, by rw [← h, str_bl]⟩
  · rw [if_pos rfl] at h; cases h
/-- A reader that the call itself has made at block p, with what is to come (none: it is bad). -/
structure ROwn (w0 w : World) (p : Nat) (o : Option (List UInt8)) : Prop where
  rd : ∃ s b, Rd w p s b ∧ st s b = o
  below : Below w0.heap.size w0 w
  base : w0.heap.size ≤ p
theorem ROwn.step {w0 w w' : World} {p : Nat} {o o' : Option (List UInt8)} (h : ROwn w0 w p o) (k : RdTo w w' p o') : ROwn w0 w' p o' := by
  obtain ⟨s, b, hr, hs, hf⟩ := k
  exact ⟨⟨s, b, hr, hs⟩, h.below.trans (hf.below h.below.size (fun k _ hk => by unfold RdS at hk; rw [hk]; exact h.base)), h.base⟩
theorem ROwn.some {w0 w : World} {p : Nat} {l : List UInt8} (h : ROwn w0 w p (some l)) : Rd w p (str l) false := by
  obtain ⟨s, b, hr, hs⟩ := h.rd
  obtain ⟨rfl, rfl⟩ := st_some hs
  exact hr
theorem ROwn.none {w0 w : World} {p : Nat} (h : ROwn w0 w p none) : ∃ s, Rd w p s true := by
  obtain ⟨s, b, hr, hs⟩ := h.rd
  unfold st at hs
  cases b
  · cases hs
  · exact ⟨s, hr⟩
theorem ROwn.new {w0 w w' : World} {p : Nat} {s : ByteArray} (hb : Below w0.heap.size w0 w) (hr : Rd w' p s false) (hb' : Below w.heap.size w w') (hp : w.heap.size ≤ p) : ROwn w0 w' p (Option.some (bl s)) :=
  ⟨⟨s, false, hr, rfl⟩, hb.trans (hb'.mono hb.size), Nat.le_trans hb.size hp⟩
theorem awk_laid : ([] ++ grp (300 : Int).toNat ++ grp (zig (-1)) ++ text (ByteArray.mk #[97, 98]).data.toList : List UInt8) = [172, 2, 1, 2, 97, 98] := by decide
theorem awk_len : ([] ++ grp (300 : Int).toNat ++ grp (zig (-1)) : List UInt8).length = 3 := by decide
theorem awk_size : sizeO (str [172, 2, 1, 2, 97, 98]) false = (300, some [1, 2, 97, 98]) := by decide
theorem awk_signed : tkI 0 0 (str [1, 2, 97, 98]) false = (1, some [2, 97, 98]) := by decide
theorem awk_text : textO (str [2, 97, 98]) false 5 = ([97, 98], some []) := by decide
end Go.Proofs.YtdbfaknpfepnfaaDoor

/-
  The plain law of CodecBack, and its walk.
-/
namespace Go.Proofs.YtdbfaknpfepnfaaDoor
open Go.RowKit CodecP

theorem zig_lt (n : Int) (h1 : -9223372036854775808 ≤ n) (h2 : n < 9223372036854775808) : zig n < 18446744073709551616 := by unfold zig; split <;> omega
theorem tkI_str (l : List UInt8) (m : Nat) (r : List UInt8) (h : tk 0 l = some (m, r)) : tkI 0 0 (str l) false = (m, some r) := by
  unfold tkI; rw [if_neg (by simp), bl_str, h]; simp
theorem tkI_no (l : List UInt8) (h : tk 0 l = none) : tkI 0 0 (str l) false = (0, none) := by
  unfold tkI; rw [if_neg (by simp), bl_str, h]
theorem tk_cut (n : Nat) (rest : List UInt8) (k : Nat) (hn : n < 2 ^ 64) (hk : k < (grp n).length) : tk 0 ((grp n ++ rest).take k) = none := by
  cases h : tk 0 ((grp n ++ rest).take k) with
  | none => rfl
  | some y =>
    exfalso
    obtain ⟨m, r⟩ := y
    obtain ⟨e, hm⟩ := grp_tk m _ _ h
    have e2 : grp n ++ rest = grp m ++ (r ++ (grp n ++ rest).drop k) := by
      rw [← List.append_assoc, ← e, List.take_append_drop]
    have h1 := tk_grp n rest hn
    rw [e2, tk_grp m _ hm] at h1
    injection h1 with h1
    injection h1 with h1 h2
    subst h1
    have := congrArg List.length e
    rw [List.length_append, List.length_take] at this
    omega
theorem text_take (s more : List UInt8) (hs : s.length ≤ 3000) : textO (str (text s ++ more)) false 3000 = (s, some more) := by
  have h1 : tkI 0 0 (str (text s ++ more)) false = (s.length, some (s ++ more)) := tkI_str _ _ _ (by unfold text; rw [List.append_assoc]; exact tk_grp _ _ (by omega))
  unfold textO sizeO
  rw [h1]
  simp only
  rw [if_neg (show ¬ 9223372036854775808 ≤ s.length by omega)]
  simp only
  rw [if_neg (show ¬ (3000 : Int) < (s.length : Int) by omega)]
  unfold rawS
  simp
  omega
theorem text_cut (s : List UInt8) (k : Nat) (hs : s.length ≤ 3000) (hk : k < (text s).length) : (textO (str ((text s).take k)) false 3000).2 = none := by
  unfold text at hk ⊢
  by_cases h : k < (grp s.length).length
  · have h1 : tkI 0 0 (str ((grp s.length ++ s).take k)) false = (0, none) := tkI_no _ (tk_cut _ _ _ (by omega) h)
    unfold textO sizeO
    rw [h1]
    rfl
  · have ht : (grp s.length ++ s).take k = grp s.length ++ s.take (k - (grp s.length).length) := by rw [List.take_append, List.take_of_length_le (by omega)]
    have h1 : tkI 0 0 (str ((grp s.length ++ s).take k)) false = (s.length, some (s.take (k - (grp s.length).length))) := tkI_str _ _ _ (by rw [ht]; exact tk_grp _ _ (by omega))
    rw [List.length_append] at hk
    unfold textO sizeO
    rw [h1]
    simp only
    rw [if_neg (show ¬ 9223372036854775808 ≤ s.length by omega)]
    simp only
    rw [if_neg (show ¬ (3000 : Int) < (s.length : Int) by omega)]
    unfold rawS
    simp only
    rw [if_pos (.inr (by rw [List.length_take]; omega))]
/-- What was laid, cut off: the reader is bad at the end. -/
theorem back_cut (n : Nat) (s : List UInt8) (k : Nat) (hn : n < 2 ^ 64) (hs : s.length ≤ 3000) (hk : k < (grp n ++ text s).length) :
    ∃ o, (tkI 0 0 (str ((grp n ++ text s).take k)) false).2 = o ∧ (o = none ∨ ∃ l, o = some l ∧ (textO (str l) false 3000).2 = none) := by
  by_cases h : k < (grp n).length
  · exact ⟨none, by rw [tkI_no _ (tk_cut n (text s) k hn h)], .inl rfl⟩
  · have ht : (grp n ++ text s).take k = grp n ++ (text s).take (k - (grp n).length) := by rw [List.take_append, List.take_of_length_le (by omega)]
    rw [List.length_append] at hk
    refine ⟨some ((text s).take (k - (grp n).length)), ?_, .inr ⟨_, rfl, text_cut s _ hs (by omega)⟩⟩
    rw [ht, tkI_str _ _ _ (tk_grp n _ hn)]
end Go.Proofs.YtdbfaknpfepnfaaDoor

/-
  The walk of the law CodecBack.
-/
namespace Go.Proofs.YtdbfaknpfepnfaaDoor
open Go.RowKit CodecP

theorem bl_append (a b : ByteArray) : bl (a ++ b) = bl a ++ bl b := by
  unfold bl; simp
theorem str_append (a b : List UInt8) : str a ++ str b = str (a ++ b) := by
  rw [← str_bl (str a ++ str b), bl_append, bl_str, bl_str]

set_option maxHeartbeats 400000 in
theorem str_size (l : List UInt8) : (str l).size = l.length := by simp [str, ByteArray.size]
theorem bl_take (a : ByteArray) (n : Nat) : bl (a.extract 0 n) = (bl a).take n := by rw [ext_bl]; simp
theorem turn_by (by_ : Int) (n : Nat) (h : 0 < n) (h2 : n ≤ 4611686018427387904) : ∃ t : Nat, t < n ∧ wrap64 ((IntKind.u64.wrap by_).tmod (n : Int)) = (t : Int) := by
  rw [IntKind.wrap_u64]
  have h0 : 0 ≤ by_ % 18446744073709551616 := Int.emod_nonneg _ (by decide)
  rw [Int.tmod_eq_emod_of_nonneg h0]
  have h1 := Int.emod_nonneg (by_ % 18446744073709551616) (show (n : Int) ≠ 0 by omega)
  have h3 := Int.emod_lt_of_pos (by_ % 18446744073709551616) (show (0 : Int) < n by omega)
  refine ⟨(by_ % 18446744073709551616 % (n : Int)).toNat, by omega, ?_⟩
  rw [IntWalk.wrap64_in _ ⟨by omega, by omega⟩]
  omega
theorem grp_pos (n : Nat) : 1 ≤ (grp n).length := by unfold grp groups; split <;> simp
end Go.Proofs.YtdbfaknpfepnfaaDoor

/-
  The walks of the document's Groups, Take, Number.
-/
namespace Go.Proofs.YtdbfaknpfepnfaaDoor
open Go.RowKit CodecP

theorem one_str (x : Nat) : strOfNums [(x : Int)] = str [UInt8.ofNat x] := by
  unfold strOfNums str
  simp only [List.map_cons, List.map_nil, Int.toNat_natCast]
theorem conv_one (W : World) (x : Nat) : (convert 66 9 (.slice (some ⟨W.heap.size, 0, none⟩) 1 1)).run Tryd.prog (W.alloc (.cells #[.int .u8 (x : Int)] 5)) = .ok (.string (str [UInt8.ofNat x])) (W.alloc (.cells #[.int .u8 (x : Int)] 5)) := by
  have hcv := run_convert_bytes_arg (P := Tryd.prog) (w := W.alloc (.cells #[.int .u8 (x : Int)] 5)) 66 5 Tryd.underlying66 Tryd.underlying5 W.heap.size 0 1 1 [(x : Int)] rfl
    (fun i hi => by obtain rfl : i = 0 := by omega
                    simp) 9 Tryd.underlying9
  rw [one_str] at hcv
  exact hcv
theorem conv_mid {W w1 : World} {x : Nat} (hb : Below (W.alloc (.cells #[.int .u8 (x : Int)] 5)).heap.size (W.alloc (.cells #[.int .u8 (x : Int)] 5)) w1) : (convert 66 9 (.slice (some ⟨W.heap.size, 0, none⟩) 1 1)).run Tryd.prog w1 = .ok (.string (str [UInt8.ofNat x])) w1 := by
  have hcv := run_convert_bytes_arg (P := Tryd.prog) (w := w1) 66 5 Tryd.underlying66 Tryd.underlying5 W.heap.size 0 1 1 [(x : Int)] rfl
    (fun i hi => by
      obtain rfl : i = 0 := by omega
      rw [Nat.zero_add, hb.cell (p := ⟨W.heap.size, 0, none⟩) (by show W.heap.size < (W.heap.push _).size; simp)]
      simp) 9 Tryd.underlying9
  rw [one_str] at hcv
  exact hcv
theorem conv_oneD (W : World) (x : Nat) : (convert 66 9 (.slice (some ⟨W.heap.size, 0, none⟩) 1 1)).run Tryd.prog (W.alloc (.cells #[.int .u8 (x : Int)] 5)).drew = .ok (.string (str [UInt8.ofNat x])) (W.alloc (.cells #[.int .u8 (x : Int)] 5)).drew := conv_one W.drew x
theorem conv_midD {W w1 : World} {x : Nat} (hb : Below (W.alloc (.cells #[.int .u8 (x : Int)] 5)).drew.heap.size (W.alloc (.cells #[.int .u8 (x : Int)] 5)).drew w1) : (convert 66 9 (.slice (some ⟨W.heap.size, 0, none⟩) 1 1)).run Tryd.prog w1 = .ok (.string (str [UInt8.ofNat x])) w1 := conv_mid (W := W.drew) hb
theorem belA {W w1 : World} {o : Obj} (hb : Below (W.alloc o).drew.heap.size (W.alloc o).drew w1) : Below W.heap.size W w1 :=
  have h0 : Below W.heap.size W (W.alloc o).drew := ((Below.refl W.heap.size W).alloc (Nat.le_refl _) o).drew
  h0.trans (hb.mono h0.size)
theorem belB {W w1 : World} (hb : Below W.drew.heap.size W.drew w1) : Below W.heap.size W w1 := ⟨hb.os, hb.tape, hb.output, hb.size, hb.block⟩
theorem belC {W w1 : World} {o : Obj} (hb : Below W.drew.heap.size W.drew w1) : Below W.heap.size W (w1.alloc o) := (belB hb).alloc (belB hb).size o
end Go.Proofs.YtdbfaknpfepnfaaDoor

/-
  The document's Take: the plain law and the walk; Number.
-/
namespace Go.Proofs.YtdbfaknpfepnfaaDoor
open Go.RowKit CodecP

def lowv : List UInt8 → Nat
  | [] => 0
  | c :: l => c.toNat % 128 + 128 * lowv l
theorem lowv_groups (f : Nat) : ∀ n, n < 2 ^ (7 * f + 1) → lowv (groups f n) = n := by
  induction f with
  | zero => intro n h; have : n < 2 := by simpa using h
            simp only [groups, lowv, UInt8.toNat_ofNat']; omega
  | succ f ih =>
    intro n h
    by_cases hlt : n < 128
    · rw [groups_low _ _ hlt]; simp only [lowv, UInt8.toNat_ofNat']; omega
    · rw [groups_high _ _ hlt]
      have hm2 : n / 128 < 2 ^ (7 * f + 1) := by
        rw [Nat.div_lt_iff_lt_mul (by omega)]
        rw [show 7 * (f + 1) + 1 = (7 * f + 1) + 7 by omega, Nat.pow_add] at h
        exact h
      simp only [lowv, UInt8.toNat_ofNat', ih _ hm2]; omega
/-- All but the last are at least 128, the last is less. -/
theorem groups_form (f : Nat) : ∀ n, n < 2 ^ (7 * f + 1) → ∃ l c, groups f n = l ++ [c] ∧ (∀ x ∈ l, 128 ≤ x.toNat) ∧ c.toNat < 128 ∧ l.length ≤ f := by
  induction f with
  | zero => intro n h; have : n < 2 := by simpa using h
            exact ⟨[], UInt8.ofNat n, rfl, by simp, by rw [UInt8.toNat_ofNat']; omega, by simp⟩
  | succ f ih =>
    intro n h
    by_cases hlt : n < 128
    · exact ⟨[], UInt8.ofNat n, by rw [groups_low _ _ hlt]; rfl, by simp, by rw [UInt8.toNat_ofNat']; omega, by simp⟩
    · have hm2 : n / 128 < 2 ^ (7 * f + 1) := by
        rw [Nat.div_lt_iff_lt_mul (by omega)]
        rw [show 7 * (f + 1) + 1 = (7 * f + 1) + 7 by omega, Nat.pow_add] at h
        exact h
      obtain ⟨l, c, e, h1, h2, h3⟩ := ih _ hm2
      refine ⟨UInt8.ofNat (n % 128 + 128) :: l, c, by rw [groups_high _ _ hlt, e]; rfl, ?_, h2, by simpa using h3⟩
      intro x hx
      rcases List.mem_cons.1 hx with rfl | hx
      · rw [UInt8.toNat_ofNat']; omega
      · exact h1 x hx
/-- What the document's Take answers. -/
def takeR (l : List UInt8) : Nat × Nat := match tk 0 l with
  | none => (0, 0)
  | some (n, r) => (n, l.length - r.length)
/-- At the first byte below 128, or the tenth. -/
theorem takeR_at (l : List UInt8) (k : Nat) (hk : k < 10) (hkl : k < l.length) (hb : ∀ j, j < k → 128 ≤ (l.getD j 0).toNat) (he : (l.getD k 0).toNat < 128 ∨ k = 9) :
    takeR l = if grp (lowv (l.take (k + 1)) % 18446744073709551616) = l.take (k + 1) then (lowv (l.take (k + 1)) % 18446744073709551616, k + 1) else (0, 0) := by
  by_cases hg : grp (lowv (l.take (k + 1)) % 18446744073709551616) = l.take (k + 1)
  · rw [if_pos hg]
    have h1 := tk_grp (lowv (l.take (k + 1)) % 18446744073709551616) (l.drop (k + 1)) (Nat.mod_lt _ (by omega))
    rw [hg, List.take_append_drop] at h1
    unfold takeR
    rw [h1]
    simp only [List.length_drop]
    congr 1
    omega
  · rw [if_neg hg]
    unfold takeR
    cases ht : tk 0 l with
    | none => rfl
    | some y =>
      exfalso
      obtain ⟨m, r⟩ := y
      obtain ⟨e, hm⟩ := grp_tk m _ _ ht
      obtain ⟨q, c, eq, h1, h2, h3⟩ := groups_form 9 m hm
      have eg : grp m = q ++ [c] := eq
      have hlen : (grp m).length = q.length + 1 := by rw [eg]; simp
      have hqk : q.length = k := by
        rcases Nat.lt_trichotomy q.length k with h | h | h
        · have := hb q.length h
          rw [e, eg] at this
          simp at this; omega
        · exact h
        · rcases he with he | he
          · have hkq : l.getD k 0 = q.getD k 0 := by
              rw [e, eg, List.append_assoc, List.getD_eq_getElem?_getD, List.getD_eq_getElem?_getD, List.getElem?_append_left h]
            have : q.getD k 0 ∈ q := by
              rw [List.getD_eq_getElem?_getD, List.getElem?_eq_getElem h]; simp
            have := h1 _ this
            rw [← hkq] at this; omega
          · omega
      have htk : l.take (k + 1) = grp m := by rw [e]; exact List.take_left' (by rw [hlen, hqk])
      apply hg
      rw [htk]
      have hl : lowv (grp m) = m := lowv_groups 9 m hm
      rw [hl, Nat.mod_eq_of_lt hm]
theorem takeR_out (l : List UInt8) (hb : ∀ j, j < l.length → 128 ≤ (l.getD j 0).toNat) : takeR l = (0, 0) := by
  unfold takeR
  cases ht : tk 0 l with
  | none => rfl
  | some y =>
    exfalso
    obtain ⟨m, r⟩ := y
    obtain ⟨e, hm⟩ := grp_tk m _ _ ht
    obtain ⟨q, c, eq, h1, h2, h3⟩ := groups_form 9 m hm
    have eg : grp m = q ++ [c] := eq
    have := hb q.length (by rw [e, eg]; simp)
    rw [e, eg] at this
    simp at this; omega
end Go.Proofs.YtdbfaknpfepnfaaDoor

/-
  The walk of the document's Take.
-/
namespace Go.Proofs.YtdbfaknpfepnfaaDoor
open Go.RowKit CodecP

theorem getD_bl (s : ByteArray) (i : Nat) (h : i < s.size) : (bl s).getD i 0 = s[i] := by
  have : i < (bl s).length := h
  rw [List.getD_eq_getElem?_getD, List.getElem?_eq_getElem this]
  rfl
theorem ne_str (a b : ByteArray) : (a.toList == b.toList) = decide (bl a = bl b) := by
  rw [ByteArray.toList_eq, ByteArray.toList_eq, Bool.eq_iff_iff]; simp [bl]
theorem lowv_drop (l : List UInt8) (k i : Nat) (hi : i < k) (hk : k ≤ l.length) : lowv ((l.take k).drop i) = (l.getD i 0).toNat % 128 + 128 * lowv ((l.take k).drop (i + 1)) := by
  have h : i < (l.take k).length := by rw [List.length_take]; omega
  rw [List.drop_eq_getElem_cons h, lowv]
  congr 3
  rw [List.getElem_take, List.getD_eq_getElem?_getD, List.getElem?_eq_getElem (by omega)]; rfl
end Go.Proofs.YtdbfaknpfepnfaaDoor

/-
  The walk of the document's Number; the law CodecSizes.
-/
namespace Go.Proofs.YtdbfaknpfepnfaaDoor
open Go.RowKit CodecP

/-- What Take and a reader's groups tell of each other. -/
theorem take_tk (s : ByteArray) : (∃ n r, takeR (bl s) = (n, s.size - r.length) ∧ tkI 0 0 s false = (n, some r) ∧ n < 18446744073709551616 ∧ r.length < s.size) ∨ (takeR (bl s) = (0, 0) ∧ tkI 0 0 s false = (0, none)) := by
  unfold takeR tkI
  rw [if_neg (by simp)]
  cases h : tk 0 (bl s) with
  | none => right; exact ⟨rfl, rfl⟩
  | some y =>
    left
    obtain ⟨n, r⟩ := y
    obtain ⟨e, hn⟩ := grp_tk n _ _ h
    have hl := congrArg List.length e
    rw [List.length_append, show (bl s).length = s.size from rfl] at hl
    have := grp_pos n
    exact ⟨n, r, rfl, by simp, by simpa using hn, by omega⟩
theorem ROwn.other {w0 w w' : World} {p q : Nat} {o o' : Option (List UInt8)} (h : ROwn w0 w q o) (hp : w0.heap.size ≤ p) (k : RdTo w w' p o') (hne : q ≠ p) : ROwn w0 w' q o := by
  obtain ⟨s1, b1, _, _, hf⟩ := k
  obtain ⟨s, b, hr, hs⟩ := h.rd
  exact ⟨⟨s, b, hr.keep hf hne, hs⟩, h.below.trans (hf.below h.below.size (fun k _ hk => by unfold RdS at hk; rw [hk]; exact hp)), h.base⟩
theorem ROwn.keep {w0 w w' : World} {p : Nat} {o : Option (List UInt8)} (h : ROwn w0 w p o) (hb : Below w.heap.size w w') : ROwn w0 w' p o := by
  obtain ⟨s, b, hr, hs⟩ := h.rd
  exact ⟨⟨s, b, hr.keep (Fr.of_below (fun _ => False) hb) (fun h => h), hs⟩, h.below.trans (hb.mono h.below.size), h.base⟩
theorem ROwn.lt {w0 w : World} {p : Nat} {o : Option (List UInt8)} (h : ROwn w0 w p o) : p < w.heap.size := by
  obtain ⟨s, b, hr, _⟩ := h.rd
  exact lt_of_block hr.1
end Go.Proofs.YtdbfaknpfepnfaaDoor

/-
  The walk of the law CodecSizes.
-/
namespace Go.Proofs.YtdbfaknpfepnfaaDoor
open Go.RowKit CodecP

end Go.Proofs.YtdbfaknpfepnfaaDoor

/-
  The walks of the document's Signed, Fixed, Text.
-/
namespace Go.Proofs.YtdbfaknpfepnfaaDoor
open Go.RowKit CodecP

theorem fixed_high (k : Nat) : ∀ n, fixed (k + 1) n = UInt8.ofNat (n / 256 ^ k % 256) :: fixed k n := by
  induction k with
  | zero => intro n; simp [fixed]
  | succ k ih =>
    intro n
    rw [fixed, ih, Nat.div_div_eq_div_mul, List.cons_append]
    congr 2
    · rw [Nat.pow_succ, Nat.mul_comm]
set_option maxHeartbeats 400000 in
theorem refFixed_any (n size : Nat) (w : World) (h : size ≤ 8) (hn : n < 18446744073709551616) :
    Calls Tryd.prog 26 #[.int .u64 n, .int .i64 size] w fun e w' => e = .returned (.string (str (fixed size n))) ∧ Below w.heap.size w w' := by
  have hb0 := Below.refl w.heap.size w
  go_enter Tryd.func26, Tryd.ntmps26
  go_wp2
  go_loopw [0, 5, 6] (fun x t i wr => ∃ k : Nat, k ≤ size ∧ i = .int .i64 k ∧ x = .int .u64 (n / 256 ^ k : Nat) ∧ t = .string (str (fixed k n)) ∧ Below w.heap.size w wr) (fun _ _ i _ => size - (intOf i).toNat)
  case atStart => exact ⟨0, by omega, rfl, by simp, rfl, hb0⟩
  case round =>
    clear hb0
    obtain ⟨k, hk, rfl, rfl, rfl, hbel⟩ := hrel
    by_cases hlt : k < size
    · have hq : n / 256 ^ k < 18446744073709551616 := Nat.lt_of_le_of_lt (Nat.div_le_self _ _) hn
      have hst := fixed_high k n
      have hdiv : n / 256 ^ (k + 1) = n / 256 ^ k / 256 := by rw [Nat.pow_succ, Nat.div_div_eq_div_mul]
      generalize n / 256 ^ k = q at *
      have HD := Lib.hid hdiv
      have hone : strOfNums [((q : Int) % 256)] = str [UInt8.ofNat (q % 256)] := by
        unfold strOfNums str
        have : ((q : Int) % 256).toNat = q % 256 := by omega
        simp only [List.map_cons, List.map_nil, this]
      have hcv := run_convert_bytes_arg (P := Tryd.prog) (w := wr.alloc (.cells #[.int .u8 ((q : Int) % 256)] 5)) 66 5 Tryd.underlying66 Tryd.underlying5 wr.heap.size 0 1 1 [((q : Int) % 256)] rfl
        (fun i hi => by obtain rfl : i = 0 := by omega
                        simp) 9 Tryd.underlying9
      rw [hone] at hcv
      have happ := str_append [UInt8.ofNat (q % 256)] (fixed k n)
      have hbel2 := hbel.alloc hbel.size (.cells #[.int .u8 ((q : Int) % 256)] 5)
      have HST := Lib.hid hst
      have HA := Lib.hid happ
      clear hone hst happ hdiv
      have hsz : (str [UInt8.ofNat (q % 256)]).size + (str (fixed k n)).size ≤ 100 := by rw [str_size, str_size, fixed_length]; simp; omega
      generalize str [UInt8.ofNat (q % 256)] = b at *
      generalize str (fixed k n) = f at *
      go_wp2
      go_roundw
      case rel =>
        refine ⟨k + 1, by omega, by go_num, by rw [HD.out]; go_num, ?_, hbel2⟩
        rw [HST.out, ← List.singleton_append, ← HA.out]
      case measure => simp [intOf]; omega
    · obtain rfl : k = size := by omega
      go_wp2
      go_ret
      exact ⟨rfl, hbel⟩
end Go.Proofs.YtdbfaknpfepnfaaDoor

/-
  Plain mathematics: pairs, packed.
-/
namespace Go.Proofs.YtdbfaknpfepnfaaDoor
open CodecP

theorem snocInd {α : Type} {P : List α → Prop} (h0 : P []) (h1 : ∀ l c, P l → P (l ++ [c])) (l : List α) : P l := by
  rw [← List.reverse_reverse l]
  induction l.reverse with
  | nil => exact h0
  | cons c r ih => rw [List.reverse_cons]; exact h1 _ _ ih
/-- A key with its value. -/
abbrev Pr := List UInt8 × List UInt8
/-- How many first bytes two texts have in common. -/
def cmn : List UInt8 → List UInt8 → Nat
  | a :: a1, b :: b1 => if a = b then cmn a1 b1 + 1 else 0
  | [], _ => 0
  | _ :: _, [] => 0
theorem cmn_le : ∀ a b : List UInt8, cmn a b ≤ a.length ∧ cmn a b ≤ b.length
  | [], b => by simp [cmn]
  | a :: a1, [] => by simp [cmn]
  | a :: a1, b :: b1 => by
    have := cmn_le a1 b1
    unfold cmn
    split <;> simp <;> omega
theorem cmn_take : ∀ a b : List UInt8, a.take (cmn a b) = b.take (cmn a b)
  | [], b => by simp [cmn]
  | a :: a1, [] => by simp [cmn]
  | a :: a1, b :: b1 => by
    have := cmn_take a1 b1
    unfold cmn
    split
    · rename_i h; rw [List.take_succ_cons, List.take_succ_cons, this, h]
    · simp
/-- How far two texts are alike, told byte by byte. -/
theorem cmn_is : ∀ (a b : List UInt8) (n : Nat), n ≤ a.length → n ≤ b.length → (∀ j, j < n → a[j]? = b[j]?) → (n = a.length ∨ n = b.length ∨ a[n]? ≠ b[n]?) → cmn a b = n
  | [], b, n, h1, _, _, _ => by simp at h1; subst h1; simp [cmn]
  | a :: a1, [], n, _, h2, _, _ => by simp at h2; subst h2; simp [cmn]
  | a :: a1, b :: b1, 0, _, _, _, h4 => by
    unfold cmn
    rw [if_neg]
    intro h
    rcases h4 with h4 | h4 | h4
    · simp at h4
    · simp at h4
    · simp [h] at h4
  | a :: a1, b :: b1, n + 1, h1, h2, h3, h4 => by
    have h0 := h3 0 (by omega)
    simp at h0
    unfold cmn
    rw [if_pos h0, cmn_is a1 b1 n (by simpa using h1) (by simpa using h2) (fun j hj => by have := h3 (j + 1) (by omega); simpa using this) (by
      rcases h4 with h4 | h4 | h4
      · left; simpa using h4
      · right; left; simpa using h4
      · right; right; simpa using h4)]
/-- A pair, laid. -/
def ent (same : Nat) (p : Pr) : List UInt8 := grp same ++ grp (p.1.length - same) ++ grp p.2.length ++ p.1.drop same ++ p.2
def sameOf (i : Nat) (last k : List UInt8) : Nat := if i % 8 = 0 then 0 else cmn last k
theorem sameOf_le (i : Nat) (last k : List UInt8) : sameOf i last k ≤ last.length ∧ sameOf i last k ≤ k.length := by
  unfold sameOf
  split
  · omega
  · exact cmn_le last k
def datF : Nat → List UInt8 → List Pr → List UInt8
  | _, _, [] => []
  | i, last, p :: r => ent (sameOf i last p.1) p ++ datF (i + 1) p.1 r
/-- The places of restarts. -/
def rstF : Nat → Nat → List UInt8 → List Pr → List Nat
  | _, _, _, [] => []
  | i, at_, last, p :: r => (if i % 8 = 0 then [at_] else []) ++ rstF (i + 1) (at_ + (ent (sameOf i last p.1) p).length) p.1 r
def dat (ps : List Pr) : List UInt8 := datF 0 [] ps
def rst (ps : List Pr) : List Nat := rstF 0 0 [] ps
def lastF (last : List UInt8) (ps : List Pr) : List UInt8 := (ps.getLast?.map (fun p => p.1)).getD last
abbrev lastK (ps : List Pr) : List UInt8 := lastF [] ps
theorem lastF_cons (last : List UInt8) (p : Pr) (r : List Pr) : lastF last (p :: r) = lastF p.1 r := by
  unfold lastF
  cases r with
  | nil => rfl
  | cons q r => rw [List.getLast?_cons_cons]; cases h : (q :: r).getLast? with
    | none => simp at h
    | some x => rfl
theorem lastK_snoc (ps : List Pr) (p : Pr) : lastK (ps ++ [p]) = p.1 := by simp [lastF]
theorem datF_append : ∀ (a b : List Pr) (i : Nat) (last : List UInt8), datF i last (a ++ b) = datF i last a ++ datF (i + a.length) (lastF last a) b
  | [], b, i, last => by simp [datF, lastF]
  | p :: a, b, i, last => by
    rw [List.cons_append, datF, datF, datF_append a b, lastF_cons, List.length_cons, List.append_assoc]
    congr 3
    omega
theorem rstF_append : ∀ (a b : List Pr) (i at_ : Nat) (last : List UInt8), rstF i at_ last (a ++ b) = rstF i at_ last a ++ rstF (i + a.length) (at_ + (datF i last a).length) (lastF last a) b
  | [], b, i, at_, last => by simp [datF, rstF, lastF]
  | p :: a, b, i, at_, last => by
    rw [List.cons_append, rstF, rstF, rstF_append a b, lastF_cons, List.length_cons, List.append_assoc, datF, List.length_append]
    congr 3 <;> omega
theorem dat_snoc (ps : List Pr) (p : Pr) : dat (ps ++ [p]) = dat ps ++ ent (sameOf ps.length (lastK ps) p.1) p := by
  unfold dat
  rw [datF_append]
  simp [datF]
theorem rst_snoc (ps : List Pr) (p : Pr) : rst (ps ++ [p]) = rst ps ++ (if ps.length % 8 = 0 then [(dat ps).length] else []) := by
  unfold rst dat
  rw [rstF_append]
  simp [rstF]
/-- The block of pairs. -/
def blk (ps : List Pr) : List UInt8 := dat ps ++ (rst ps).flatMap (fixed 4) ++ fixed 4 (rst ps).length
def Okp (p : Pr) : Prop := 1 ≤ p.1.length ∧ p.1.length ≤ 80 ∧ p.2.length ≤ 16000
instance (p : Pr) : Decidable (Okp p) := by unfold Okp; infer_instance
structure Rise (ps : List Pr) : Prop where
  ok : ∀ p ∈ ps, Okp p
  up : ps.Pairwise (fun a b => a.1 < b.1)
  le : ps.length ≤ 4096
theorem grp_len (n : Nat) : (grp n).length ≤ 10 := groups_length 9 n
theorem ent_len (same : Nat) (p : Pr) : (ent same p).length ≤ 30 + p.1.length + p.2.length := by
  unfold ent
  have h1 := grp_len same
  have h2 := grp_len (p.1.length - same)
  have h3 := grp_len p.2.length
  simp only [List.length_append, List.length_drop]
  omega
theorem dat_len {ps : List Pr} (h : ∀ p ∈ ps, Okp p) : (dat ps).length ≤ ps.length * 16110 := by
  revert h
  refine snocInd (P := fun ps => (∀ p ∈ ps, Okp p) → (dat ps).length ≤ ps.length * 16110) ?_ ?_ ps
  · intro _; simp [dat, datF]
  · intro ps p ih h
    have h1 := ih (fun q hq => h q (by simp [hq]))
    have h2 := ent_len (sameOf ps.length (lastK ps) p.1) p
    obtain ⟨-, h3, h4⟩ := h p (by simp)
    rw [dat_snoc, List.length_append, List.length_append, List.length_singleton]
    omega
theorem rst_len (ps : List Pr) : (rst ps).length = (ps.length + 7) / 8 := by
  refine snocInd (P := fun ps => (rst ps).length = (ps.length + 7) / 8) ?_ ?_ ps
  · rfl
  · intro ps p ih
    rw [rst_snoc, List.length_append, ih, List.length_append, List.length_singleton]
    split
    · simp; omega
    · simp; omega
theorem blk_len (ps : List Pr) : (blk ps).length = (dat ps).length + 4 * (rst ps).length + 4 := by
  unfold blk
  have : ∀ l : List Nat, (l.flatMap (fixed 4)).length = 4 * l.length := fun l => by
    induction l with
    | nil => rfl
    | cons a l ih => rw [List.flatMap_cons, List.length_append, ih, fixed_length, List.length_cons]; omega
  rw [List.length_append, List.length_append, this, fixed_length]
theorem Rise.snoc {ps : List Pr} {p : Pr} (h : Rise ps) (hp : Okp p) (hl : lastK ps < p.1) (hn : ps.length < 4096) : Rise (ps ++ [p]) := by
  refine ⟨fun q hq => ?_, ?_, by simp; omega⟩
  · rcases List.mem_append.1 hq with hq | hq
    · exact h.ok q hq
    · simp at hq; subst hq; exact hp
  · rw [List.pairwise_append]
    refine ⟨h.up, by simp, fun a ha b hb => ?_⟩
    simp at hb
    subst hb
    rcases List.eq_nil_or_concat ps with rfl | ⟨r, z, e⟩
    · simp at ha
    · rw [List.concat_eq_append] at e
      subst e
      rw [lastK_snoc] at hl
      rcases List.mem_append.1 ha with ha | ha
      · exact List.lt_trans ((List.pairwise_append.1 h.up).2.2 a ha z (by simp)) hl
      · simp at ha; subst ha; exact hl
theorem Rise.nil : Rise [] := ⟨by simp, List.Pairwise.nil, by simp⟩
theorem Rise.init {ps : List Pr} {p : Pr} (h : Rise (ps ++ [p])) : Rise ps ∧ Okp p ∧ lastK ps < p.1 ∧ ps.length < 4096 := by
  have hl := h.le
  rw [List.length_append, List.length_singleton] at hl
  have hu := List.pairwise_append.1 h.up
  refine ⟨⟨fun q hq => h.ok q (by simp [hq]), hu.1, by omega⟩, h.ok p (by simp), ?_, by omega⟩
  rcases List.eq_nil_or_concat ps with rfl | ⟨r, z, e⟩
  · have := (h.ok p (by simp)).1
    show [] < p.1
    cases hp : p.1 with
    | nil => rw [hp] at this; simp at this
    | cons a l => exact List.nil_lt_cons a l
  · rw [List.concat_eq_append] at e
    subst e
    rw [lastK_snoc]
    exact hu.2.2 z (by simp) p (by simp)
end Go.Proofs.YtdbfaknpfepnfaaDoor

/-
  The walks of block's right and common.
-/
namespace Go.Proofs.YtdbfaknpfepnfaaDoor
open Go.RowKit CodecP

theorem bl_size (k : ByteArray) : (bl k).length = k.size := by simp [bl]
theorem ne_facts {k : ByteArray} (h : 1 ≤ k.size) : k.toList.isEmpty = false ∧ (!k.toList.isEmpty) = true := by
  have : k.toList.isEmpty = false := by
    rw [ByteArray.toList_eq]
    have e1 := bl_size k
    cases h2 : k.data.toList with
    | nil => simp [bl, h2] at e1; omega
    | cons a l => rfl
  exact ⟨this, by rw [this]; rfl⟩
theorem em_facts {k : ByteArray} (h : k.size = 0) : k.toList.isEmpty = true ∧ (!k.toList.isEmpty) = false ∧ k.toList = [] := by
  have : k.toList = [] := by
    rw [ByteArray.toList_eq]
    exact List.length_eq_zero_iff.1 ((bl_size k).trans h)
  rw [this]; exact ⟨rfl, rfl, rfl⟩
theorem right_yes (k v : ByteArray) (w : World) (h : Okp (bl k, bl v)) :
    Calls Tryd.prog 91 #[.string k, .string v] w fun e w' => e = .returned (.bool true) ∧ w = w' := by
  obtain ⟨h1, h2, h3⟩ := h
  simp only [bl_size] at h1 h2 h3
  obtain ⟨hne, hne2⟩ := ne_facts h1
  have d3 : decide ((v.size : Int) ≤ 16000) = true := by rw [decide_eq_true_eq]; omega
  go_enter Tryd.func91, Tryd.ntmps91
  go_wp2_with fail
  go_ret
  exact ⟨rfl, rfl⟩
theorem right_no (k v : ByteArray) (w : World) (hk : k.size ≤ maxLen) (hv : v.size ≤ maxLen) (h : ¬ Okp (bl k, bl v)) :
    Calls Tryd.prog 91 #[.string k, .string v] w fun e w' => e = .returned (.bool false) ∧ w = w' := by
  unfold Okp at h
  simp only [bl_size] at h
  unfold maxLen at hk hv
  by_cases h1 : 1 ≤ k.size
  · obtain ⟨hne, hne2⟩ := ne_facts h1
    by_cases h2 : k.size ≤ 80
    · have h3 : ¬ v.size ≤ 16000 := fun h3 => h ⟨h1, h2, h3⟩
      have d3 : decide ((v.size : Int) ≤ 16000) = false := by rw [decide_eq_false_iff_not]; omega
      clear h h3
      go_enter Tryd.func91, Tryd.ntmps91
      go_wp2_with fail
      go_ret
      exact ⟨rfl, rfl⟩
    · have d3 : decide ((k.size : Int) ≤ 80) = false := by rw [decide_eq_false_iff_not]; omega
      clear h h2
      go_enter Tryd.func91, Tryd.ntmps91
      go_wp2_with fail
      go_ret
      exact ⟨rfl, rfl⟩
  · obtain ⟨e1, e2, e3⟩ := em_facts (k := k) (by omega)
    clear h h1
    go_enter Tryd.func91, Tryd.ntmps91
    go_wp2_with fail
    go_ret
    exact ⟨rfl, rfl⟩
theorem bl_at (s : ByteArray) (j : Nat) (h : j < s.size) : (bl s)[j]? = some s[j] := by
  unfold bl
  rw [List.getElem?_eq_getElem (by simpa using h)]
  rfl
theorem common_any (a b : ByteArray) (w : World) (ha : a.size ≤ maxLen) (hb : b.size ≤ maxLen) :
    Calls Tryd.prog 92 #[.string a, .string b] w fun e w' => e = .returned (.int .i64 (cmn (bl a) (bl b))) ∧ Below w.heap.size w w' := by
  unfold maxLen at ha hb
  have HR := Lib.hid (Below.refl w.heap.size w)
  obtain ⟨n, hn⟩ : ∃ n, n = cmn (bl a) (bl b) := ⟨_, rfl⟩
  rw [← hn]
  have Hhn := Lib.hid hn
  clear hn
  go_enter Tryd.func92, Tryd.ntmps92
  go_wp2_with fail
  go_loopw [5] (fun nv wr => ∃ j : Nat, j ≤ a.size ∧ j ≤ b.size ∧ nv = .int .i64 j ∧ (∀ i, i < j → (bl a)[i]? = (bl b)[i]?) ∧ Below w.heap.size w wr) (fun nv _ => a.size - (intOf nv).toNat)
  case atStart => exact ⟨0, by omega, by omega, rfl, fun i hi => by omega, HR.out⟩
  case round =>
    obtain ⟨j, hja, hjb, rfl, hall, hbel⟩ := hrel
    have HALL := Lib.hid hall
    have HB := Lib.hid hbel
    clear hall hbel
    have fin : (j = a.size ∨ j = b.size ∨ (bl a)[j]? ≠ (bl b)[j]?) → n = j := fun h => by
      rw [Hhn.out]
      refine cmn_is _ _ j (by rw [bl_size]; exact hja) (by rw [bl_size]; exact hjb) HALL.out ?_
      rw [bl_size, bl_size]; exact h
    have HFIN := Lib.hid fin
    clear fin
    by_cases h1 : j < a.size
    · have d1 : decide ((j : Int) < (a.size : Int)) = true := by rw [decide_eq_true_eq]; omega
      by_cases h2 : j < b.size
      · have d2 : decide ((j : Int) < (b.size : Int)) = true := by rw [decide_eq_true_eq]; omega
        have g1 : (j : Int) < (a.size : Int) := by omega
        have g2 : (j : Int) < (b.size : Int) := by omega
        by_cases h3 : a[j] = b[j]
        · have q : ((a[j].toNat : Int) == (b[j].toNat : Int)) = true := by rw [h3]; simp
          have HX := Lib.hid (show (bl a)[j]? = (bl b)[j]? by rw [bl_at a j h1, bl_at b j h2, h3])
          clear h3
          go_wp2_with fail
          go_quiet (fail)
          go_wp2_with fail
          go_roundw
          case rel => exact ⟨j + 1, by omega, by omega, by go_num, fun i hi => by
            rcases Nat.lt_or_eq_of_le (Nat.le_of_lt_succ hi) with h | h
            · exact HALL.out i h
            · subst h; exact HX.out, HB.out.drewN _⟩
          case measure => simp [intOf]; omega
        · have q : ((a[j].toNat : Int) == (b[j].toNat : Int)) = false := by
            rw [beq_eq_false_iff_ne]; intro e
            exact h3 (UInt8.toNat_inj.1 (by omega))
          have hf := HFIN.out (.inr (.inr (by rw [bl_at a j h1, bl_at b j h2]; intro e; injection e with e; exact h3 e)))
          subst hf
          clear h3
          go_wp2_with fail
          go_quiet (fail)
          go_wp2_with fail
          go_ret
          exact ⟨rfl, HB.out.drewN _⟩
      · have d2 : decide ((j : Int) < (b.size : Int)) = false := by rw [decide_eq_false_iff_not]; omega
        have hf := HFIN.out (.inr (.inl (by omega)))
        subst hf
        go_wp2_with fail
        go_quiet (fail)
        go_wp2_with fail
        go_ret
        exact ⟨rfl, HB.out.drewN _⟩
    · have d1 : decide ((j : Int) < (a.size : Int)) = false := by rw [decide_eq_false_iff_not]; omega
      have hf := HFIN.out (.inl (by omega))
      subst hf
      go_wp2_with fail
      go_quiet (fail)
      go_wp2_with fail
      go_ret
      exact ⟨rfl, HB.out.drewN _⟩
end Go.Proofs.YtdbfaknpfepnfaaDoor

/-
  A slice whose elements take one or more cells each, as it lies, nil let in; append of such a one.
-/
namespace Go.Proofs.YtdbfaknpfepnfaaDoor
open Go.RowKit

/-- The slice value (A, n, c) holds the cells xs, below block B. -/
structure Sn (w : World) (B size : Nat) (A : Option Addr) (n c : Nat) (xs : List Value) : Prop where
  len : xs.length = n * size
  nil : A = none → c = 0
  le : n ≤ c
  max : c ≤ maxLen
  at_ : 0 < n → ∃ g o, A = some ⟨g, o, none⟩ ∧ g < B ∧ ∀ j u, xs[j]? = some u → w.cell? ⟨g, o + j, none⟩ = some u
section
variable {w w' : World} {B size n c : Nat} {A : Option Addr} {xs : List Value}
theorem Sn.keep (h : Sn w B size A n c xs) (hk : ∀ p : Addr, p.block < B → w'.cell? p = w.cell? p) : Sn w' B size A n c xs :=
  ⟨h.len, h.nil, h.le, h.max, fun hn => by
    obtain ⟨g, o, e, hb, hc⟩ := h.at_ hn
    exact ⟨g, o, e, hb, fun j u hu => (hk ⟨g, o + j, none⟩ hb).trans (hc j u hu)⟩⟩
theorem Sn.below (h : Sn w B size A n c xs) (hb : Below B w w') : Sn w' B size A n c xs := h.keep fun _ hp => hb.cell hp
theorem Sn.more {B' : Nat} (h : Sn w B size A n c xs) (hB : B ≤ B') : Sn w B' size A n c xs :=
  ⟨h.len, h.nil, h.le, h.max, fun hn => by
    obtain ⟨g, o, e, hb, hc⟩ := h.at_ hn
    exact ⟨g, o, e, by omega, hc⟩⟩
theorem Sn.front (h : Sn w B size A n c xs) {k : Nat} (hk : k ≤ n) : Sn w B size A k c (xs.take (k * size)) := by
  refine ⟨?_, h.nil, Nat.le_trans hk h.le, h.max, fun h0 => ?_⟩
  · rw [List.length_take, h.len]; exact Nat.min_eq_left (Nat.mul_le_mul_right _ hk)
  · obtain ⟨g, o, e, hb, hc⟩ := h.at_ (by omega)
    refine ⟨g, o, e, hb, fun j u hu => hc j u ?_⟩
    rw [List.getElem?_take] at hu
    split at hu
    · exact hu
    · cases hu
theorem Sn.cut (h : Sn w B size A n c xs) {k : Nat} (hk : k ≤ n) : Sn w B size (if c = k then A else A.map (·.add (k * size))) (n - k) (c - k) (xs.drop (k * size)) := by
  refine ⟨by rw [List.length_drop, h.len, Nat.sub_mul], fun hA => ?_, by have := h.le; omega, by have := h.max; omega, fun hn => ?_⟩
  · split at hA
    · omega
    · have := h.nil (by cases A <;> simp_all); omega
  · obtain ⟨g, o, rfl, hb, hc⟩ := h.at_ (by omega)
    have hle := h.le
    rw [if_neg (by omega)]
    refine ⟨g, o + k * size, ?_, hb, fun j u hu => ?_⟩
    · simp [Go.WideShapes.add_plain]
    · rw [List.getElem?_drop] at hu
      rw [Nat.add_assoc]; exact hc _ u hu
theorem Sn.of_own {base : Nat} {e : TypeId} (h : w.ownsRow base e size (.slice A n c) n xs) : Sn w w.heap.size size A n c xs := by
  obtain ⟨hl, h2⟩ := h
  rcases h2 with ⟨hv, h0⟩ | ⟨g, cap, cur, hv, hg, hh, hcap, hmax, hcs, htk⟩
  · injection hv with h1 _ h3
    subst h1 h3 h0
    exact ⟨hl, fun _ => rfl, Nat.le_refl _, Nat.zero_le _, fun h => absurd h (by omega)⟩
  · injection hv with h1 _ h3
    subst h1 h3
    refine ⟨hl, (fun h => by cases h), hcap, hmax, fun _ => ⟨g, 0, rfl, lt_of_block hh, fun j u hu => ?_⟩⟩
    have hlt := (List.getElem?_eq_some_iff.1 hu).1
    have : cur[j]? = some u := by
      have e : (cur.toList.take (n * size))[j]? = cur.toList[j]? := by rw [List.getElem?_take, if_pos (by omega)]
      rw [← Array.getElem?_toList, ← e, htk, hu]
    simp [World.cell?, hh, this]
end
/-- A row that is not empty, as it lies. -/
theorem own_pos {w : World} {B : Nat} {e : TypeId} {size n : Nat} {v : Value} {xs : List Value} (h : w.ownsRow B e size v n xs) (hn : 0 < n) :
    ∃ g cap, v = .slice (some ⟨g, 0, none⟩) n cap ∧ B ≤ g ∧ g < w.heap.size ∧ n ≤ cap ∧ cap ≤ maxLen ∧ ∀ j x, xs[j]? = some x → w.cell? ⟨g, j, none⟩ = some x := by
  obtain ⟨hl, h2⟩ := h
  rcases h2 with ⟨rfl, rfl⟩ | ⟨g, cap, cur, rfl, hg, hh, hcap, hmax, hcs, htk⟩
  · omega
  · refine ⟨g, cap, rfl, hg, lt_of_block hh, hcap, hmax, fun j x hx => ?_⟩
    have hlt := (List.getElem?_eq_some_iff.1 hx).1
    have : cur[j]? = some x := by
      have e : (cur.toList.take (n * size))[j]? = cur.toList[j]? := by rw [List.getElem?_take, if_pos (by omega)]
      rw [← Array.getElem?_toList, ← e, htk, hx]
    simp [World.cell?, hh, this]
theorem own_le {w : World} {B : Nat} {e : TypeId} {size n : Nat} {v : Value} {xs : List Value} (h : w.ownsRow B e size v n xs) : ∃ ao cap, v = .slice ao n cap ∧ n ≤ cap ∧ cap ≤ maxLen := by
  rcases h.2 with ⟨rfl, rfl⟩ | ⟨g, cap, cur, rfl, hg, hh, hcap, hmax, hcs, htk⟩
  · exact ⟨none, 0, rfl, Nat.le_refl _, Nat.zero_le _⟩
  · exact ⟨_, cap, rfl, hcap, hmax⟩
/-- append of such a slice onto a row of the call's own. -/
theorem wpList_append_sn {P : Program} {w : World} {ops : Array Oper} {rest : List Oper} {o : Oper} {a : Act} {Q : Exit → Act → World → Prop} (hgd : o.guard = none) (s x : Operand) (t : TypeId)
    (ho : o.op = .call { callee := .builtin .append, args := #[s, x], argTypes := #[t, t] })
    (base : Nat) (e : TypeId) (i : TypeInfo) (z : Value) (size bytes : Nat) (ht : P.underlying t = some (.slice e)) (hi : P.info? e = some i) (hz : i.zero = some z)
    (hsize : i.size = size) (hby : i.bytes = bytes) (hzs : z.cells.size = size) (hsz : 0 < size)
    (v : Value) (n : Nat) (xs : List Value) (hs : a.eval s = v) (hown : w.ownsRow base e size v n xs)
    (B : Nat) (A : Option Addr) (m c : Nat) (news : List Value) (hx : a.eval x = .slice A m c) (hsn : Sn w B size A m c news) (h1 : ∀ u ∈ news, u.oneCell' = true)
    (h63 : n + m ≤ maxLen) (hbytes : (n + m) * bytes ≤ 140737488355328) (hbase : base ≤ w.heap.size)
    (h : ∀ v' w', w'.ownsRow base e size v' (n + m) (xs ++ news) → w.grownBy w' v.ownBlock → (v'.ownBlock = v.ownBlock ∨ v'.ownBlock = some w.heap.size) → wpList P ops Q rest (a.put o.dst v') w') :
    wpList P ops Q (o :: rest) a w := by
  cases A with
  | none =>
    have hc := hsn.nil rfl
    have hm : m = 0 := by have := hsn.le; omega
    subst hc hm
    have hn : news = [] := List.length_eq_zero_iff.1 (by have := hsn.len; simpa using this)
    subst hn
    exact wpList_append_own_none hgd s x t ho base e i size ht hi v n xs hs hown hx (h v w (by simpa using hown) (World.grownBy.refl w _) (.inl rfl))
  | some ad =>
    refine wpList_append_own_at w hgd s x t ho base e i z size bytes ht hi hz hsize hby hzs hsz v n xs hs hown ad m c news hx hsn.len (fun j u hj => ?_) h1 h63 hbytes hbase (fun v' w' h2 h3 _ h5 => h v' w' h2 h3 h5)
    rcases Nat.eq_zero_or_pos m with h0 | h0
    · have := hsn.len; rw [h0, Nat.zero_mul] at this; rw [List.length_eq_zero_iff.1 this] at hj; cases hj
    · obtain ⟨g, o', e', hb, hc⟩ := hsn.at_ h0
      injection e' with e'
      subst e'
      rw [Go.WideShapes.add_plain]
      exact hc j u hj
end Go.Proofs.YtdbfaknpfepnfaaDoor

/-
  Small facts on cells, rows and texts, for the cursor's walks.
-/
namespace Go.Proofs.YtdbfaknpfepnfaaDoor.Cur
open Go.RowKit CodecP

theorem cellOf2 {w : World} {b o : Nat} {cs : Array Value} {t : TypeId} {f : Nat × Nat} {v : Value} (h : w.heap[b]? = some (.cells cs t f)) (hv : cs[o]? = some v) : w.cell? ⟨b, o, none⟩ = some v := by simp [World.cell?, h, hv]
theorem setAt2 {w : World} {p o : Nat} {cs : Array Value} {t : TypeId} (u : Value) (h : w.heap[p]? = some (.cells cs t (0, 0))) : (w.setCell ⟨p, o, none⟩ u).heap[p]? = some (.cells (cs.setIfInBounds o u) t (0, 0)) := by
  have hlt := lt_of_block h
  have h' : w.heap[p] = .cells cs t (0, 0) := by simpa [Array.getElem?_eq_getElem hlt] using h
  show (w.heap.modify p _)[p]? = _
  rw [Array.getElem?_eq_getElem (by simpa using hlt), Array.getElem_modify_self, h']; rfl
theorem free_of2 {w : World} {b : Nat} {cs : Array Value} {t : TypeId} (o : Nat) (h : w.heap[b]? = some (.cells cs t (0, 0))) : w.frozen? ⟨b, o, none⟩ = false := by simp [World.frozen?, h]
theorem takeH {P : Program} {md : Region.Mode} {ops : Array Oper} {Q : Exit → Act → World → Prop} {S : World → Prop} {i : Nat} {d : Option Tmp} {oi : Oper} {v : Value} {fuel : Nat} {listed : Array Bool} {a : Act} {w : World} (hi : ops[i]? = some oi) (hd : oi.dst = d)
    (hs : Region.noSelect ops = true) (hf : Region.free md ops listed i = true) (hr : (Region.ready md ops listed).contains i = true)
    (hQ : ∀ c a w, Q (.panic c) (a.put d v) w → Q (.panic c) a w) (hy : YieldsIf P ops S oi v a) (hS : S w)
    (h : wpAnyH P md ops Q S fuel (listed.setIfInBounds i true) (a.put d v) w) : wpAnyH P md ops Q S (fuel + 1) listed a w := by
  subst hd
  exact wpAnyH_take hi hs hf hr hQ hy hS h
theorem undrew {B : Nat} {w w1 : World} (h : Below B w.drew w1) : Below B w w1 := ⟨h.os, h.tape, h.output, h.size, h.block⟩
theorem own_base {w : World} {b b' e size n : Nat} {v : Value} {xs : List Value} (h : w.ownsRow b e size v n xs) (hb : b' ≤ b) : w.ownsRow b' e size v n xs := by
  obtain ⟨h1, h2⟩ := h
  refine ⟨h1, ?_⟩
  rcases h2 with h2 | ⟨g, cap, cur, hv, hg, r⟩
  · exact .inl h2
  · exact .inr ⟨g, cap, cur, hv, Nat.le_trans hb hg, r⟩
theorem cmpB : ∀ a b : List UInt8, (Lib.compareBytes a b < 0 ↔ a < b) ∧ (Lib.compareBytes a b = 0 ↔ a = b)
  | [], [] => by simp [Lib.compareBytes]
  | [], b :: bs => by simp [Lib.compareBytes]
  | a :: s, [] => by simp [Lib.compareBytes]
  | a :: s, b :: bs => by
    obtain ⟨h1, h2⟩ := cmpB s bs
    unfold Lib.compareBytes
    rw [List.cons_lt_cons_iff]
    by_cases hab : a < b
    · have hne : a ≠ b := fun e => by subst e; exact absurd hab (by simp)
      simp [hab, hne]
    · by_cases hba : b < a
      · have hne : a ≠ b := fun e => by subst e; exact hab hba
        simp [hab, hba, hne]
      · have e : a = b := by
          apply UInt8.toNat_inj.1
          rw [UInt8.lt_iff_toNat_lt] at hab hba
          omega
        subst e
        simp [h1, h2]
/-- The cells of pairs. -/
def flatR (ps : List Pr) : List Value := ps.flatMap fun p => [Value.string (str p.1), Value.string (str p.2)]
theorem flatR_append (a b : List Pr) : flatR (a ++ b) = flatR a ++ flatR b := by simp [flatR]
theorem flatR_length (ps : List Pr) : (flatR ps).length = ps.length * 2 := by
  induction ps with
  | nil => rfl
  | cons p ps ih => simp [flatR] at ih ⊢; omega
theorem flatR_get (ps : List Pr) (i : Nat) (h : i < ps.length) : (flatR ps)[i * 2]? = some (.string (str ps[i].1)) ∧ (flatR ps)[i * 2 + 1]? = some (.string (str ps[i].2)) := by
  have h1 : flatR ps = flatR (ps.take i) ++ flatR (ps.drop i) := by rw [← flatR_append, List.take_append_drop]
  have h2 : (flatR (ps.take i)).length = i * 2 := by rw [flatR_length, List.length_take]; omega
  rw [List.drop_eq_getElem_cons h] at h1
  rw [h1]
  constructor
  · rw [List.getElem?_append_right (by omega), h2, Nat.sub_self]; rfl
  · rw [List.getElem?_append_right (by omega), h2, show i * 2 + 1 - i * 2 = 1 by omega]; rfl
end Go.Proofs.YtdbfaknpfepnfaaDoor.Cur

/-
  The walk of cursor's Pack and Unpack.
-/
namespace Go.Proofs.YtdbfaknpfepnfaaDoor
open Go.RowKit CodecP Cur

set_option maxRecDepth 100000 in
theorem idxByteS_any (a : ByteArray) (c : Int) (w : World) :
    Calls Tryd.prog 75 #[.string a, .int .u8 c] w fun e w' => e = .returned (.int .i64 (Lib.indexByte (bl a) c.toNat.toUInt8)) ∧ w = w' := by
  go_enter Tryd.func75, Tryd.ntmps75
  go_wp2
  rw [run_callFunc_extern Tryd.func84 (by kernel_rfl) (by kernel_rfl) (by kernel_rfl) (e := Extern.BytealgIndexByte.indexByte) (by kernel_rfl), Lib.run_indexByteString]
  simp only [Result.andThen]
  rw [Oper.upon_value]
  go_wp2
  go_ret
  exact ⟨rfl, rfl⟩
theorem indexByte_mem (l : List UInt8) (c : UInt8) : (0 ≤ Lib.indexByte l c ↔ c ∈ l) := by
  induction l with
  | nil => simp [Lib.indexByte]
  | cons b l ih =>
    have hge := Lib.indexByte_ge l c
    unfold Lib.indexByte
    by_cases hb : b = c
    · simp [hb]
    · have h1 : (b == c) = false := by simpa using hb
      rw [h1]
      simp only [Bool.false_eq_true, if_false]
      by_cases h2 : Lib.indexByte l c = -1
      · rw [h2]
        have : ¬ c ∈ l := fun h => by have := ih.2 h; omega
        simp [this]
        exact fun h => hb h.symm
      · have h3 : (Lib.indexByte l c == -1) = false := by simpa using h2
        rw [h3]
        simp only [Bool.false_eq_true, if_false]
        have : c ∈ l := ih.1 (by omega)
        simp [this]
        omega
set_option maxRecDepth 100000 in
theorem slIndex0_any (a : ByteArray) (w : World) :
    Calls Tryd.prog 65 #[.string a, .string ⟨#[0]⟩] w fun e w' => e = .returned (.int .i64 (Lib.indexByte (bl a) 0)) ∧ w = w' := by
  have HI := Lib.hid (idxByteS_any a 0 w)
  by_cases h0 : bl a = [0]
  · have e0 : (([0] : List UInt8) == a.toList) = true := by rw [ByteArray.toList_eq, beq_iff_eq]; exact h0.symm
    have H0 := Lib.hid h0
    clear h0
    go_enter Tryd.func65, Tryd.ntmps65
    go_wp2_with fail
    go_ret
    exact ⟨by rw [H0.out]; rfl, rfl⟩
  · have e0 : (([0] : List UInt8) == a.toList) = false := by
      rw [ByteArray.toList_eq, beq_eq_false_iff_ne]
      exact fun h => h0 h.symm
    clear h0
    go_enter Tryd.func65, Tryd.ntmps65
    go_wp2_with fail
    rw [show ((((⟨#[0]⟩ : ByteArray)[0]).toNat : Nat) : Int) = 0 from rfl]
    (with_reducible refine HI.out.mono ?_)
    rintro e w1 ⟨rfl, rfl⟩
    go_wp2_with fail
    go_ret
    exact ⟨rfl, rfl⟩
theorem contains0_any (a : ByteArray) (w : World) :
    Calls Tryd.prog 36 #[.string a, .string ⟨#[0]⟩] w fun e w' => e = .returned (.bool (decide ((0 : UInt8) ∈ bl a))) ∧ w = w' := by
  have HI := Lib.hid (slIndex0_any a)
  have hix : ∀ W, Calls Tryd.prog 51 #[.string a, .string ⟨#[0]⟩] W fun e w' => e = .returned (.int .i64 (Lib.indexByte (bl a) 0)) ∧ W = w' := by
    intro W
    go_enter Tryd.func51, Tryd.ntmps51
    go_wp2_with fail
    (with_reducible refine (HI.out _).mono ?_)
    rintro e w1 ⟨rfl, rfl⟩
    go_wp2_with fail
    go_ret
    exact ⟨rfl, rfl⟩
  have HX := Lib.hid hix
  have hm := indexByte_mem (bl a) 0
  have hd : decide (0 ≤ Lib.indexByte (bl a) 0) = decide ((0 : UInt8) ∈ bl a) := by congr 1; exact propext hm
  have HD := Lib.hid hd
  clear hix hm hd
  generalize Lib.indexByte (bl a) 0 = x at *
  go_enter Tryd.func36, Tryd.ntmps36
  go_wp2_with fail
  (with_reducible refine (HX.out _).mono ?_)
  rintro e w1 ⟨rfl, rfl⟩
  go_wp2_with fail
  go_ret
  exact ⟨by rw [← HD.out]; rfl, rfl⟩
/-- An inner key, where a key and a number may be. -/
def OkK (k : List UInt8) (n : Int) : Prop := 1 ≤ k.length ∧ k.length ≤ 64 ∧ (0 : UInt8) ∉ k ∧ 0 ≤ n ∧ n ≤ 4611686018427387904
instance (k : List UInt8) (n : Int) : Decidable (OkK k n) := by unfold OkK; infer_instance
def inn (k : List UInt8) (n : Int) : List UInt8 := k ++ [0] ++ fixed 8 (4611686018427387904 - n).toNat
set_option maxRecDepth 100000 in
theorem pack_any (k : ByteArray) (n : Int) (w : World) :
    Calls Tryd.prog 25 #[.string k, .int .i64 n] w fun e w' => Below w.heap.size w w' ∧
      ((OkK (bl k) n ∧ e = .returned (.tuple #[.string (str (inn (bl k) n)), .bool true])) ∨ (¬ OkK (bl k) n ∧ e = .returned (.tuple #[.string ⟨#[]⟩, .bool false]))) := by
  have HC := Lib.hid (contains0_any k)
  have HR := Lib.hid (Below.refl w.heap.size w)
  by_cases hok : OkK (bl k) n
  · have HOK := Lib.hid hok
    obtain ⟨h1, h2, h3, h4, h5⟩ := hok
    rw [bl_size] at h1 h2
    obtain ⟨g1, g2⟩ := ne_facts h1
    have d1 : decide ((64 : Int) < (k.size : Int)) = false := by rw [decide_eq_false_iff_not]; omega
    have d2 : decide ((0 : UInt8) ∈ bl k) = false := by rw [decide_eq_false_iff_not]; exact h3
    have d3 : decide (n < 0) = false := by rw [decide_eq_false_iff_not]; omega
    have d4 : decide (4611686018427387904 < n) = false := by rw [decide_eq_false_iff_not]; omega
    have w4 : IntKind.i64.wrap (4611686018427387904 - n) = 4611686018427387904 - n := IntWalk.i64_in _ (by omega)
    have w5 : IntKind.u64.wrap (4611686018427387904 - n) = 4611686018427387904 - n := by rw [IntKind.wrap_u64]; omega
    rw [d2] at HC
    clear h3 d2
    have O0 := Own.new (Below.refl w.heap.size w)
    have H0 := Lib.hid O0
    clear O0
    go_enter Tryd.func25, Tryd.ntmps25
    go_wp2_with fail
    (with_reducible refine (HC.out _).mono ?_)
    rintro e w1 ⟨rfl, rfl⟩
    go_upto_region 4 with (fail)
    generalize w.alloc (.cells #[.slice none 0 0] 68) = w2 at *
    generalize w.heap.size = p at H0 ⊢
    have R1 := Lib.hid (raw_any p 0 #[undef] 68 none [] k w2 H0.out.wr (by simp; omega))
    go_wp2_with fail
    (with_reducible refine R1.out.mono ?_)
    rintro e w3 ⟨rfl, hb3⟩
    obtain ⟨g3, O3⟩ := H0.out.step hb3
    have H3 := Lib.hid O3
    have R2 := Lib.hid (raw_any p 0 #[undef] 68 g3 _ ⟨#[0]⟩ w3 O3.wr (by rw [show (⟨#[0]⟩ : ByteArray).size = 1 from rfl]; simp; omega))
    clear hb3 O3
    go_wp2_with fail
    (with_reducible refine R2.out.mono ?_)
    rintro e w4 ⟨rfl, hb4⟩
    obtain ⟨g4, O4⟩ := H3.out.step hb4
    have H4 := Lib.hid O4
    have R3 := Lib.hid (fixed8_any p 0 #[undef] 68 g4 _ (4611686018427387904 - n).toNat w4 O4.wr (by simp; omega))
    rw [show (((4611686018427387904 - n).toNat : Nat) : Int) = 4611686018427387904 - n by omega] at R3
    clear hb4 O4
    go_wp2_with fail
    (with_reducible refine R3.out.mono ?_)
    rintro e w5 ⟨rfl, hb5⟩
    obtain ⟨g5, O5⟩ := H4.out.step hb5
    have H5 := Lib.hid O5
    have R4 := Lib.hid (bytes_any p 0 #[undef] 68 g5 _ w5 O5.wr)
    clear hb5 O5
    go_wp2_with fail
    (with_reducible refine R4.out.mono ?_)
    rintro e w6 ⟨rfl, rfl⟩
    go_wp2_with fail
    refine bodyPost_ret (v := .tuple #[.string (str (inn (bl k) n)), .bool true]) ?_ rfl ⟨H5.out.below, .inl ⟨HOK.out, rfl⟩⟩
    simp [results, Tryd.results25, go_sem]
    simp [inn, str, bl]
  · have HOK := Lib.hid hok
    rcases Nat.eq_zero_or_pos k.size with h0 | h0
    · obtain ⟨g1, g2, g3⟩ := em_facts h0
      clear hok
      go_enter Tryd.func25, Tryd.ntmps25
      go_wp2_with fail
      exact bodyPost_ret (v := .tuple #[.string ⟨#[]⟩, .bool false]) (by simp [results, Tryd.results25, go_sem]) rfl ⟨HR.out, .inr ⟨HOK.out, rfl⟩⟩
    · obtain ⟨g1, g2⟩ := ne_facts h0
      by_cases h2 : 64 < k.size
      · have d1 : decide ((64 : Int) < (k.size : Int)) = true := by rw [decide_eq_true_eq]; omega
        clear hok
        go_enter Tryd.func25, Tryd.ntmps25
        go_wp2_with fail
        exact bodyPost_ret (v := .tuple #[.string ⟨#[]⟩, .bool false]) (by simp [results, Tryd.results25, go_sem]) rfl ⟨HR.out, .inr ⟨HOK.out, rfl⟩⟩
      · have d1 : decide ((64 : Int) < (k.size : Int)) = false := by rw [decide_eq_false_iff_not]; omega
        by_cases h3 : (0 : UInt8) ∈ bl k
        · rw [decide_eq_true h3] at HC
          clear hok h3
          go_enter Tryd.func25, Tryd.ntmps25
          go_wp2_with fail
          (with_reducible refine (HC.out _).mono ?_)
          rintro e w1 ⟨rfl, rfl⟩
          go_wp2_with fail
          exact bodyPost_ret (v := .tuple #[.string ⟨#[]⟩, .bool false]) (by simp [results, Tryd.results25, go_sem]) rfl ⟨HR.out, .inr ⟨HOK.out, rfl⟩⟩
        · rw [decide_eq_false h3] at HC
          have hbs := bl_size k
          unfold OkK at hok
          by_cases h4 : n < 0
          · have d3 : decide (n < 0) = true := by rw [decide_eq_true_eq]; exact h4
            clear hok h3 h4 hbs
            go_enter Tryd.func25, Tryd.ntmps25
            go_wp2_with fail
            (with_reducible refine (HC.out _).mono ?_)
            rintro e w1 ⟨rfl, rfl⟩
            go_wp2_with fail
            exact bodyPost_ret (v := .tuple #[.string ⟨#[]⟩, .bool false]) (by simp [results, Tryd.results25, go_sem]) rfl ⟨HR.out, .inr ⟨HOK.out, rfl⟩⟩
          · have d3 : decide (n < 0) = false := by rw [decide_eq_false_iff_not]; exact h4
            have h5 : 4611686018427387904 < n := by
              rcases Classical.em (4611686018427387904 < n) with h | h
              · exact h
              · exact absurd ⟨by omega, by omega, h3, by omega, by omega⟩ hok
            have d4 : decide (4611686018427387904 < n) = true := by rw [decide_eq_true_eq]; exact h5
            clear hok h3 h4 h5 hbs
            go_enter Tryd.func25, Tryd.ntmps25
            go_wp2_with fail
            (with_reducible refine (HC.out _).mono ?_)
            rintro e w1 ⟨rfl, rfl⟩
            go_wp2_with fail
            exact bodyPost_ret (v := .tuple #[.string ⟨#[]⟩, .bool false]) (by simp [results, Tryd.results25, go_sem]) rfl ⟨HR.out, .inr ⟨HOK.out, rfl⟩⟩
theorem inn_len (k : List UInt8) (n : Int) : (inn k n).length = k.length + 9 := by
  unfold inn
  rw [List.length_append, List.length_append, fixed_length]
  rfl
theorem inn_parts {k : List UInt8} {n : Int} (h : OkK k n) : (inn k n).take ((inn k n).length - 9) = k ∧ value ((inn k n).drop ((inn k n).length - 8)) = (4611686018427387904 - n).toNat := by
  obtain ⟨-, -, -, h4, h5⟩ := h
  have hl := inn_len k n
  rw [hl]
  constructor
  · unfold inn
    rw [show k.length + 9 - 9 = k.length by omega, List.append_assoc, List.take_left' rfl]
  · unfold inn
    rw [show k.length + 9 - 8 = (k ++ [0]).length by rw [List.length_append]; simp, List.drop_left' rfl, value_fixed]
    omega
theorem inner_any (k : ByteArray) (n : Int) (w : World) (hk : k.size ≤ 1000000) (h0 : 0 ≤ n) (h1 : n ≤ 4611686018427387904) :
    Calls Tryd.prog 8 #[.string k, .int .i64 n] w fun e w' => e = .returned (.string (str (inn (bl k) n))) ∧ Below w.heap.size w w' := by
  have hf := refFixed_any (4611686018427387904 - n).toNat 8 w (by omega) (by omega)
  rw [show (((4611686018427387904 - n).toNat : Nat) : Int) = 4611686018427387904 - n by omega, show ((8 : Nat) : Int) = 8 from rfl] at hf
  have HF := Lib.hid hf
  clear hf
  have w4 : IntKind.i64.wrap (4611686018427387904 - n) = 4611686018427387904 - n := IntWalk.i64_in _ (by omega)
  have w5 : IntKind.u64.wrap (4611686018427387904 - n) = 4611686018427387904 - n := by rw [IntKind.wrap_u64]; omega
  have z1 : (⟨#[0]⟩ : ByteArray).size = 1 := rfl
  go_enter Tryd.func8, Tryd.ntmps8
  go_wp2_with fail
  (with_reducible refine HF.out.mono ?_)
  rintro e w1 ⟨rfl, hb⟩
  have z2 : (str (fixed 8 (4611686018427387904 - n).toNat)).size = 8 := by rw [str_size, fixed_length]
  have HB := Lib.hid hb
  clear hb
  go_wp2_with fail
  go_ret
  have he : k ++ ⟨#[0]⟩ ++ str (fixed 8 (4611686018427387904 - n).toNat) = str (inn (bl k) n) := by
    rw [← str_bl (k ++ ⟨#[0]⟩ ++ str _)]
    congr 1
  exact ⟨congrArg (fun x => Ending.returned (Value.string x)) he, HB.out⟩
/-- What Unpack answers. -/
def UnpackP (s : ByteArray) (w : World) (e : Ending) (w' : World) : Prop :=
  Below w.heap.size w w' ∧ ((∃ (k : List UInt8) (n : Int), OkK k n ∧ bl s = inn k n ∧ e = .returned (.tuple #[.string (str k), .int .i64 n, .bool true])) ∨
    ((∀ (k : List UInt8) (n : Int), OkK k n → bl s ≠ inn k n) ∧ e = .returned (.tuple #[.string ⟨#[]⟩, .int .i64 0, .bool false])))
set_option maxRecDepth 100000 in
theorem unpack_any (s : ByteArray) (w : World) (hs : s.size ≤ maxLen) :
    Calls Tryd.prog 7 #[.string s] w (UnpackP s w) := by
  unfold maxLen at hs
  have hbs := bl_size s
  have hpt : ∀ (k : List UInt8) (n : Int), OkK k n → bl s = inn k n → 9 < s.size ∧ (bl s).take (s.size - 9) = k ∧ value ((bl s).drop (s.size - 8)) = (4611686018427387904 - n).toNat := fun k n h e => by
    have h1 := inn_parts h
    have h2 := inn_len k n
    have h3 := h.1
    rw [← e, hbs] at h1 h2
    exact ⟨by omega, h1.1, h1.2⟩
  have HPT := Lib.hid hpt
  have HR := Lib.hid (Below.refl w.heap.size w)
  clear hpt
  by_cases h9 : s.size ≤ 9
  · have d1 : decide ((s.size : Int) ≤ 9) = true := by rw [decide_eq_true_eq]; omega
    have H9 := Lib.hid h9
    clear h9 hbs
    go_enter Tryd.func7, Tryd.ntmps7
    go_wp2_with fail
    exact bodyPost_ret (v := .tuple #[.string ⟨#[]⟩, .int .i64 0, .bool false]) (by simp [results, Tryd.results7, go_sem]) rfl ⟨HR.out, .inr ⟨fun k n h e => by have := (HPT.out k n h e).1; have := H9.out; omega, rfl⟩⟩
  · have d1 : decide ((s.size : Int) ≤ 9) = false := by rw [decide_eq_false_iff_not]; omega
    have hex : bl (s.extract (s.size - 8) s.size) = (bl s).drop (s.size - 8) := by
      rw [ext_bl, List.take_of_length_le (by rw [List.length_drop, hbs]; omega)]
    have hke : s.extract 0 (s.size - 9) = str ((bl s).take (s.size - 9)) := by
      rw [← str_bl (s.extract 0 _), ext_bl, List.drop_zero, Nat.sub_zero]
    have hl8 : ((bl s).drop (s.size - 8)).length = 8 := by rw [List.length_drop, hbs]; omega
    have HRD := Lib.hid (read_any (s.extract (s.size - 8) s.size) w (by rw [ByteArray.size_extract]; unfold maxLen; omega))
    obtain ⟨m, hm⟩ : ∃ m, m = value ((bl s).drop (s.size - 8)) := ⟨_, rfl⟩
    have hml : m < 18446744073709551616 := by
      have h1 := value_lt ((bl s).drop (s.size - 8))
      rw [hl8] at h1
      omega
    have hro : value (rawOut (s.extract (s.size - 8) s.size) false 8).1.data.toList = m := by
      rw [(rawOut_st _ _ _).1]
      show value (bl (str _)) = m
      rw [bl_str, hm]
      unfold st rawS
      simp only [Bool.false_eq_true, if_false]
      rw [hex, if_neg (by rw [hl8]; omega)]
      simp only []
      rw [List.take_of_length_le (by rw [hl8]; omega)]
    have HRO := Lib.hid hro
    have HM := Lib.hid hm
    have HKE := Lib.hid hke
    have s1 : IntKind.i64.wrap ((s.size : Int) - 9) = (s.size : Int) - 9 := IntWalk.i64_in _ (by omega)
    have s2 : IntKind.i64.wrap ((s.size : Int) - 9 + 1) = (s.size : Int) - 9 + 1 := IntWalk.i64_in _ (by omega)
    have s3 : ((s.size : Int) - 9).toNat = s.size - 9 := by omega
    have s4 : ((s.size : Int) - 9 + 1).toNat = s.size - 8 := by omega
    have s5 : (0 : Int) ≤ (s.size : Int) - 9 := by omega
    have s6 : (0 : Int) ≤ (s.size : Int) - 9 + 1 := by omega
    have s7 : (s.size : Int) - 9 ≤ (s.size : Int) := by omega
    have s8 : (s.size : Int) - 9 + 1 ≤ (s.size : Int) := by omega
    clear hro hm hke hex hl8 hbs
    go_enter Tryd.func7, Tryd.ntmps7
    go_wp2_with fail
    (with_reducible refine HRD.out.mono ?_)
    rintro e w1 ⟨rfl, hr1, hb1⟩
    have HF := Lib.hid (rdFixed8_any _ _ _ w1 hr1)
    rw [HRO.out] at HF
    have HB1 := Lib.hid hb1
    clear hr1 hb1
    go_wp2_with fail
    (with_reducible refine HF.out.mono ?_)
    rintro e w2 ⟨rfl, -, hf2⟩
    have HB2 : Hid (Below w.heap.size w w2) := Lib.hid (HB1.out.trans (hf2.below HB1.out.size (fun k _ hk => by unfold RdS at hk; omega)))
    clear hf2
    by_cases hbig : 4611686018427387904 < m
    · have d2 : decide ((4611686018427387904 : Int) < (m : Int)) = true := by rw [decide_eq_true_eq]; omega
      have HBG := Lib.hid hbig
      clear hbig
      go_wp2_with fail
      exact bodyPost_ret (v := .tuple #[.string ⟨#[]⟩, .int .i64 0, .bool false]) (by simp [results, Tryd.results7, go_sem]) rfl ⟨HB2.out, .inr ⟨fun k n h e => by
        have h1 := (HPT.out k n h e).2.2
        rw [← HM.out] at h1
        have h2 := HBG.out
        have h3 := h.2.2.2.1
        omega, rfl⟩⟩
    · have d2 : decide ((4611686018427387904 : Int) < (m : Int)) = false := by rw [decide_eq_false_iff_not]; omega
      have w3 : IntKind.i64.wrap (m : Int) = (m : Int) := IntWalk.i64_in _ (by omega)
      have w4 : IntKind.i64.wrap (4611686018427387904 - (m : Int)) = 4611686018427387904 - (m : Int) := IntWalk.i64_in _ (by omega)
      have HPK := Lib.hid (pack_any (str ((bl s).take (s.size - 9))) (4611686018427387904 - (m : Int)) w2)
      rw [bl_str] at HPK
      have hmn : ∀ (k : List UInt8) (n : Int), OkK k n → bl s = inn k n → k = (bl s).take (s.size - 9) ∧ n = 4611686018427387904 - (m : Int) := fun k n h e => by
        obtain ⟨-, h1, h2⟩ := HPT.out k n h e
        rw [← HM.out] at h2
        have h3 := h.2.2.2.1
        have h4 := h.2.2.2.2
        exact ⟨h1.symm, by omega⟩
      have HMN := Lib.hid hmn
      clear hmn
      go_wp2_with fail
      rw [HKE.out]
      (with_reducible refine HPK.out.mono ?_)
      rintro e w5 ⟨hb5, ⟨hok, rfl⟩ | ⟨hok, rfl⟩⟩
      · have HB5 := Lib.hid (HB2.out.trans (hb5.mono HB2.out.size))
        have HOK := Lib.hid hok
        clear hb5 hok
        by_cases he : bl s = inn ((bl s).take (s.size - 9)) (4611686018427387904 - (m : Int))
        · have e1 : ((str (inn ((bl s).take (s.size - 9)) (4611686018427387904 - (m : Int)))).toList == s.toList) = true := by rw [← he, str_bl]; simp
          have HE := Lib.hid he
          clear he
          go_wp2_with fail
          exact bodyPost_ret (v := .tuple #[.string (str ((bl s).take (s.size - 9))), .int .i64 (4611686018427387904 - (m : Int)), .bool true]) (by simp [results, Tryd.results7, go_sem]) rfl ⟨HB5.out, .inl ⟨_, _, HOK.out, HE.out, rfl⟩⟩
        · have e1 : ((str (inn ((bl s).take (s.size - 9)) (4611686018427387904 - (m : Int)))).toList == s.toList) = false := by
            rw [beq_eq_false_iff_ne]
            intro e
            rw [ByteArray.toList_eq, ByteArray.toList_eq] at e
            exact he e.symm
          have HE := Lib.hid he
          clear he
          go_wp2_with fail
          exact bodyPost_ret (v := .tuple #[.string ⟨#[]⟩, .int .i64 0, .bool false]) (by simp [results, Tryd.results7, go_sem]) rfl ⟨HB5.out, .inr ⟨fun k n h e => by
            obtain ⟨h1, h2⟩ := HMN.out k n h e
            rw [h1, h2] at e
            exact HE.out e, rfl⟩⟩
      · have HB5 := Lib.hid (HB2.out.trans (hb5.mono HB2.out.size))
        have HOK := Lib.hid hok
        clear hb5 hok
        go_wp2_with fail
        exact bodyPost_ret (v := .tuple #[.string ⟨#[]⟩, .int .i64 0, .bool false]) (by simp [results, Tryd.results7, go_sem]) rfl ⟨HB5.out, .inr ⟨fun k n h e => by
          obtain ⟨h1, h2⟩ := HMN.out k n h e
          rw [h1, h2] at h
          exact HOK.out h, rfl⟩⟩
end Go.Proofs.YtdbfaknpfepnfaaDoor
