/-
  Texts of the claim, joined: RefCrcW, BloomP, BloomW, PlacesW, HasW, MakeW, FrameP.
-/
import Derived.Test.YtdbfaknpfepnfaaGreatDoorMxBK1
import Derived.Deep.OwnRows
import Derived.Deep.QuietTactic
import Derived.BigQuiet
import Derived.Deep.LoopGhost
import Derived.Handy
import Derived.BigRegion
import Derived.Laws.BytesArg
set_option maxRecDepth 100000
set_option maxHeartbeats 40000000
namespace Go.Proofs.YtdbfaknpfepnfaaGreatDoor
open Go.RowKit Go.Deep CrcP

structure Row (w0 w : World) (f : Nat → Bool) : Prop where
 row : w.rowIs w0.heap.size 221 32 (fun i => .bool (f i))
 below : Below w0.heap.size w0 w
theorem Row.cell {w0 w : World} {f : Nat → Bool} (h : Row w0 w f) {i : Nat} (hi : i < 32) : w.cell? ⟨w0.heap.size, i, none⟩ = some (.bool (f i)) := h.row.cell hi
theorem Row.frozen {w0 w : World} {f : Nat → Bool} (h : Row w0 w f) (i : Nat) : w.frozen? ⟨w0.heap.size, i, none⟩ = false := h.row.frozen i
theorem Row.set {w0 w : World} {f : Nat → Bool} (h : Row w0 w f) (i : Nat) (b : Bool) {g : Nat → Bool} (e : ∀ j, j < 32 → g j = if j = i then b else f j) : Row w0 (w.setCell ⟨w0.heap.size, i, none⟩ (.bool b)) g :=
 ⟨(h.row.set i (.bool b)).congr (fun j hj => by rw [e j hj]; split <;> rfl), h.below.setCell (Nat.le_refl _) _⟩
theorem Row.congr {w0 w : World} {f g : Nat → Bool} (h : Row w0 w f) (e : ∀ j, j < 32 → f j = g j) : Row w0 w g :=
 ⟨h.row.congr (fun j hj => by rw [e j hj]), h.below⟩
theorem Row.drewN {w0 w : World} {f : Nat → Bool} (h : Row w0 w f) (n : Nat) : Row w0 (w.drewN n) f :=
 ⟨h.row, ⟨h.below.os, h.below.tape, h.below.output, h.below.size, h.below.block⟩⟩
theorem Row.drew {w0 w : World} {f : Nat → Bool} (h : Row w0 w f) : Row w0 w.drew f :=
 ⟨h.row, ⟨h.below.os, h.below.tape, h.below.output, h.below.size, h.below.block⟩⟩
theorem Row.new (w0 : World) : Row w0 (w0.alloc (.cells #[.bool false, .bool false, .bool false, .bool false, .bool false, .bool false, .bool false, .bool false, .bool false, .bool false, .bool false, .bool false, .bool false, .bool false, .bool false, .bool false,
  .bool false, .bool false, .bool false, .bool false, .bool false, .bool false, .bool false, .bool false, .bool false, .bool false, .bool false, .bool false, .bool false, .bool false, .bool false, .bool false] 221)) (fun _ => false) :=
 ⟨World.rowIs_alloc w0 (Array.replicate 32 (.bool false)) 221 (fun _ => .bool false) (by intro i hi; rw [Array.size_replicate] at hi; simp [hi]), (Below.refl _ _).alloc (Nat.le_refl _) _⟩

def gb (v : BitVec 32) (k : Nat) : Bool := v.getLsbD k
theorem bit_out (v : BitVec 32) (k : Nat) : (v.toNat / 2 ^ k % 2 == 1) = gb v k := by
 unfold gb
 rw [BitVec.getLsbD, Nat.testBit_eq_decide_div_mod_eq, Bool.eq_iff_iff]; simp
theorem test0 (sum : BitVec 32) (k : Nat) (h : k < 32) : ((u sum / 2 ^ k).tmod 2 == 0) = gb (~~~sum) k := by
 have e : gb (~~~sum) k = !gb sum k := by unfold gb; simp [h]
 rw [e, ← bit_out]
 have e2 : u sum / 2 ^ k = ((sum.toNat / 2 ^ k : Nat) : Int) := by unfold u; simp
 rw [e2]
 generalize sum.toNat / 2 ^ k = n
 rw [Int.tmod_eq_emod_of_nonneg (by omega), Bool.eq_iff_iff]
 simp only [beq_iff_eq, Bool.not_eq_true', beq_eq_false_iff_ne, ne_eq]
 omega

theorem test1 (c : UInt8) (b : Nat) : (((c.toNat : Int) / 2 ^ b).tmod 2 == 1) = (c.toNat / 2 ^ b % 2 == 1) := by
 have e2 : (c.toNat : Int) / 2 ^ b = ((c.toNat / 2 ^ b : Nat) : Int) := by simp
 rw [e2]
 generalize c.toNat / 2 ^ b = n
 rw [Int.tmod_eq_emod_of_nonneg (by omega), Bool.eq_iff_iff]
 simp only [beq_iff_eq]
 omega
theorem test2 (a : Nat) : (((2197175160 : Int) / 2 ^ a).tmod 2 == 1) = gb poly a := by
 rw [← bit_out]
 have e2 : (2197175160 : Int) / 2 ^ a = ((poly.toNat / 2 ^ a : Nat) : Int) := by rw [show poly.toNat = 2197175160 from rfl]; simp
 rw [e2]
 generalize poly.toNat / 2 ^ a = n
 rw [Int.tmod_eq_emod_of_nonneg (by omega), Bool.eq_iff_iff]
 simp only [beq_iff_eq]
 omega
theorem low_bit (v : BitVec 32) (m : Nat) (hm : m < 32) : (~~~v).toNat / 2 ^ m % 2 = if gb v m = true then 0 else 1 := by
 have h := bit_out (~~~v) m
 have e : gb (~~~v) m = !gb v m := by unfold gb; simp [hm]
 rw [e] at h
 cases hg : gb v m
 ·rw [hg] at h; simpa using h
 ·rw [hg] at h; simp at h; simp; omega
theorem bitsN_succ (b : Nat) (v : BitVec 32) (x : Nat) : bitsN (b + 1) v x = bit1 (bitsN b v x) (x / 2 ^ b % 2 == 1) := by
 rw [bitsN_add]; rfl
theorem shr_row (vb : BitVec 32) {a : Nat} (ha : 31 ≤ a) : ∀ j, j < 32 → gb (vb >>> 1) j = if j = 31 then false else if j < a then gb vb (j + 1) else gb vb j := by
 intro j hj
 unfold gb
 rw [BitVec.getLsbD_ushiftRight]
 by_cases h : j = 31
 ·subst h; simp
 ·rw [if_neg h, if_pos (by omega), Nat.add_comm]

theorem refMore_any (sum : BitVec 32) (s : ByteArray) (w : World) (hs : s.size ≤ maxLen) :
  Calls Tryz.prog 153 #[.int .u32 (u sum), .string s] w fun e w' => e = .returned (.int .u32 (u (more sum s.data.toList))) ∧ Below w.heap.size w w' := by
 unfold maxLen at hs
 have T0 := test0 sum
 have M0 : more sum s.data.toList = ~~~ (reg (~~~sum) s.data.toList) := rfl
 generalize ~~~sum = v0 at T0 M0
 have M := Lib.hid M0
 have T := Lib.hid T0
 clear M0 T0
 go_enter Tryz.func153, Tryz.ntmps153
 go_wp2
 go_loopw [6] (fun i wr => ∃ k : Nat, k ≤ 32 ∧ i = .int .i64 k ∧ Row w wr (fun j => decide (j < k) && gb v0 j)) (fun i _ => 32 - (intOf i).toNat)
 case atStart => exact ⟨0, by omega, rfl, (Row.new w).congr (by simp)⟩
 case round =>
  obtain ⟨k, hk, rfl, hrow⟩ := hrel
  by_cases hlt : k < 32
  ·have c0 := hrow.cell hlt
   have f0 := hrow.frozen k
   have t0 := T.out k hlt
   go_wp2
   go_roundw
   case rel =>
    refine ⟨k + 1, by omega, by go_num, hrow.set k _ ?_⟩
    intro j hj
    by_cases h : j = k
    ·subst h; simp
    ·rw [if_neg h, show decide (j < k + 1) = decide (j < k) by simp; omega]
   case measure => simp [intOf]; omega
  ·have hrow2 : Row w wr (gb (reg v0 (s.data.toList.take 0))) := hrow.congr (fun j hj => by simp [show j < k by omega, reg])
   clear hrow
   go_wp2
   go_loopw [7, 8, 9, 10, 11] (fun i _ _ _ _ wr => ∃ k : Nat, k ≤ s.size ∧ i = .int .i64 k ∧ Row w wr (gb (reg v0 (s.data.toList.take k)))) (fun i _ _ _ _ _ => s.size - (intOf i).toNat)
   case atStart => exact ⟨0, by omega, rfl, hrow2⟩
   case round =>
    obtain ⟨k2, hk2, rfl, hrow⟩ := hrel
    by_cases hlt2 : k2 < s.size
    ·have HT := Lib.hid (take_snoc s k2 hlt2)
     generalize hv : reg v0 (s.data.toList.take k2) = v at *
     have hR := Lib.hid hv
     clear hv
     have hrow3 : Row w wr (gb (bitsN 0 v (s[k2]'hlt2).toNat)) := hrow
     clear hrow hrow2
     go_wp2
     go_loopw [8, 9, 10, 11] (fun i _ _ _ wr => ∃ b : Nat, b ≤ 8 ∧ i = .int .i64 b ∧ Row w wr (gb (bitsN b v (s[k2]'hlt2).toNat))) (fun i _ _ _ _ => 8 - (intOf i).toNat)
     case atStart => exact ⟨0, by omega, rfl, hrow3⟩
     case round =>
      obtain ⟨b, hb, rfl, hrow⟩ := hrel
      clear hrow3
      by_cases hlt3 : b < 8
      ·have hnext := bitsN_succ b v (s[k2]'hlt2).toNat
       generalize hvb : bitsN b v (s[k2]'hlt2).toNat = vb at *
       clear hvb
       have c0 := hrow.cell (i := 0) (by omega)
       have tb := test1 (s[k2]'hlt2) b
       generalize ((s[k2]'hlt2).toNat / 2 ^ b % 2 == 1) = bt at *
       obtain ⟨o, ho⟩ : ∃ o : Bool, (!(gb vb 0 == bt)) = o := ⟨_, rfl⟩
       have hN : bit1 vb bt = (vb >>> 1) ^^^ (if o = true then poly else 0#32) := by rw [bit1_eq, ← ho]; rfl
       rw [hN] at hnext
       have HN := Lib.hid hnext
       clear hN hnext
       go_wp2
       go_quiet (fail)
       clear tb c0
       have hrow := hrow.drewN nq
       go_wp2
       clear ho
       go_loopw [10] (fun i wr => ∃ a : Nat, a ≤ 31 ∧ i = .int .i64 a ∧ Row w wr (fun j => if j < a then gb vb (j + 1) else gb vb j)) (fun i _ => 31 - (intOf i).toNat)
       case atStart => exact ⟨0, by omega, rfl, hrow.congr (by simp)⟩
       case round =>
        clear hrow
        obtain ⟨a, ha, rfl, hrow⟩ := hrel
        by_cases hlt4 : a < 31
        ·have c0 := hrow.cell (i := a + 1) (by omega)
         rw [if_neg (by omega)] at c0
         have c1 := hrow.cell (i := a) (by omega)
         have f1 := hrow.frozen a
         go_wp2
         go_roundw
         case rel =>
          refine ⟨a + 1, by omega, by go_num, hrow.set a _ ?_⟩
          intro j hj
          by_cases h : j = a
          ·subst h; simp
          ·rw [if_neg h]; by_cases h2 : j < a
           ·rw [if_pos h2, if_pos (by omega)]
           ·rw [if_neg h2, if_neg (by omega)]
         case measure => simp [intOf]; omega
        ·have c1 := hrow.cell (i := 31) (by omega)
         have f1 := hrow.frozen 31
         have hrow5 : Row w (_ : World) (gb (vb >>> 1)) := hrow.set 31 false (shr_row vb (by omega))
         clear hrow
         cases o
         ·go_wp2
          go_loopw [11] (fun i wr => (∃ a : Int, i = .int .i64 a) ∧ Row w wr (gb (vb >>> 1))) (fun _ _ => 0)
          case atStart => exact ⟨⟨0, rfl⟩, hrow5⟩
          case round =>
           clear hrow5 f1
           obtain ⟨⟨i, rfl⟩, hrow⟩ := hrel
           by_cases hi : i < 32
           all_goals
            go_wp2
            go_roundw
            case rel => exact ⟨b + 1, by omega, by go_num, by rw [HN.out]; simpa using hrow⟩
            case measure => simp [intOf]; omega
         ·go_wp2
          go_loopw [11] (fun i wr => ∃ a : Nat, a ≤ 32 ∧ i = .int .i64 a ∧ Row w wr (fun j => if j < a then (gb (vb >>> 1) j != gb poly j) else gb (vb >>> 1) j)) (fun i _ => 32 - (intOf i).toNat)
          case atStart => exact ⟨0, by omega, rfl, hrow5.congr (by simp)⟩
          case round =>
           clear hrow5 f1
           obtain ⟨a2, ha2, rfl, hrow⟩ := hrel
           by_cases hi : a2 < 32
           ·have tp := test2 a2
            have c1 := hrow.cell (i := a2) hi
            rw [if_neg (by omega)] at c1
            have f1 := hrow.frozen a2
            cases hp : gb poly a2
            ·rw [hp] at tp
             have HP := Lib.hid hp
             clear hp
             go_wp2
             go_roundw
             case rel =>
              refine ⟨a2 + 1, by omega, by go_num, hrow.congr ?_⟩
              intro j hj
              by_cases h : j = a2
              ·subst h; rw [if_neg (by omega), if_pos (by omega), HP.out]; simp
              ·by_cases h2 : j < a2
               ·rw [if_pos h2, if_pos (by omega)]
               ·rw [if_neg h2, if_neg (by omega)]
             case measure => simp [intOf]; omega
            ·rw [hp] at tp
             have HP := Lib.hid hp
             clear hp
             go_wp2
             go_roundw
             case rel =>
              refine ⟨a2 + 1, by omega, by go_num, hrow.set a2 _ ?_⟩
              intro j hj
              by_cases h : j = a2
              ·subst h; rw [if_pos (by omega), if_pos rfl, HP.out]; simp
              ·rw [if_neg h]; by_cases h2 : j < a2
               ·rw [if_pos h2, if_pos (by omega)]
               ·rw [if_neg h2, if_neg (by omega)]
             case measure => simp [intOf]; omega
           ·go_wp2
            go_roundw
            case rel =>
             refine ⟨b + 1, by omega, by go_num, hrow.congr ?_⟩
             intro j hj
             rw [if_pos (by omega), HN.out]; show _ = gb (vb >>> 1 ^^^ poly) j; unfold gb; rw [BitVec.getLsbD_xor]
            case measure => simp [intOf]; omega
      ·have hb8 : b = 8 := by omega
       have HB := Lib.hid hb8
       clear hb8
       go_wp2
       go_roundw
       case rel =>
        refine ⟨k2 + 1, by omega, by go_num, ?_⟩
        rw [HT.out, reg_snoc, hR.out, ← byt_bits, ← HB.out]
        exact hrow
       case measure => simp [intOf]; omega
    ·have hall : s.data.toList.take k2 = s.data.toList := List.take_of_length_le (by simp; omega)
     rw [hall] at hrow
     have hM : ~~~ (reg v0 s.data.toList) = more sum s.data.toList := M.out.symm
     generalize reg v0 s.data.toList = v at *
     have hN := low_bit v
     have hlt32 := (~~~v).isLt
     have hfin : ∀ N : Nat, N = (~~~v).toNat → ((N : Nat) : Int) = u (more sum s.data.toList) := by intro N e; rw [e, ← hM]; rfl
     generalize (~~~v).toNat = N at *
     have HN := Lib.hid hN
     have HF := Lib.hid (hfin N rfl)
     clear hrow2 hall hM hN hfin
     go_wp2
     go_loop [12, 13] (fun x i => (∃ m : Nat, m < 32 ∧ i = .int .i64 m ∧ x = .int .u32 ((N / 2 ^ (m + 1) : Nat) : Int)) ∨ (i = .int .i64 (-1) ∧ x = .int .u32 (N : Int))) (fun _ i => (intOf i + 1).toNat)
     case atStart => exact .inl ⟨31, by omega, rfl, by rw [Nat.div_eq_of_lt (by omega)]; rfl⟩
     case round =>
      rcases hrel with ⟨m, hm, rfl, rfl⟩ | ⟨rfl, rfl⟩
      ·have c1 := hrow.cell (i := m) hm
       have hd := HN.out m hm
       have hb1 : N / 2 ^ (m + 1) < 2147483648 := by
        have : N / 2 ^ (m + 1) ≤ N / 2 := by rw [Nat.pow_succ, Nat.mul_comm, ← Nat.div_div_eq_div_mul]; exact Nat.div_le_self _ _
        omega
       have hd2 : N / 2 ^ (m + 1) = N / 2 ^ m / 2 := by rw [Nat.pow_succ, Nat.div_div_eq_div_mul]
       generalize N / 2 ^ (m + 1) = x1 at *
       generalize hx0 : N / 2 ^ m = x0 at *
       have hx1 : 0 ≤ (x1 : Int) := by omega
       have hgo : ∀ d : Nat, 2 * x1 + d = x0 → ∀ y : Int, y = ((2 * x1 + d : Nat) : Int) → (∃ m_1 : Nat, m_1 < 32 ∧ Value.int .i64 ((m : Int) - 1) = .int .i64 m_1 ∧ Value.int .u32 y = .int .u32 ((N / 2 ^ (m_1 + 1) : Nat) : Int)) ∨ (Value.int .i64 ((m : Int) - 1) = .int .i64 (-1) ∧ Value.int .u32 y = .int .u32 (N : Int)) := by
        intro d e y hy
        subst hy
        rw [e, ← hx0]
        cases m with
        | zero => right; exact ⟨rfl, by simp⟩
        | succ m => left; exact ⟨m, by omega, by go_num, rfl⟩
       cases hg : gb v m
       ·rw [hg] at c1 hd
        have e1 : 2 * x1 + 1 = x0 := by rw [if_neg (by decide)] at hd; omega
        have HG := Lib.hid (hgo 1 e1)
        clear hg hd hd2 hgo e1 hx0
        go_wp2
        go_round
        case rel => exact HG.out _ (by omega)
        case measure => simp [intOf]
       ·rw [hg] at c1 hd
        have e1 : 2 * x1 + 0 = x0 := by rw [if_pos rfl] at hd; omega
        have HG := Lib.hid (hgo 0 e1)
        clear hg hd hd2 hgo e1 hx0
        go_wp2
        go_round
        case rel => exact HG.out _ (by omega)
        case measure => simp [intOf]
      ·have hbel := hrow.below
       go_wp2
       go_ret
       exact ⟨congrArg (fun x => Ending.returned (.int .u32 x)) HF.out, hbel⟩
end Go.Proofs.YtdbfaknpfepnfaaGreatDoor


namespace BloomP
open CrcP
def bitsOf (n : Int) : Nat := max ((10 * min (max n 0).toNat 1048576 + 7) / 8 * 8) 64
def packN (f : Nat → Bool) : Nat → Nat
 | 0 => 0
 | n + 1 => packN f n + (if f n then 2 ^ n else 0)
theorem packN_lt (f : Nat → Bool) (n : Nat) : packN f n < 2 ^ n := by
 induction n with
 | zero => simp [packN]
 | succ n ih =>
  simp only [packN, Nat.pow_succ]
  split <;> omega
theorem packN_congr (f g : Nat → Bool) (n : Nat) (h : ∀ i, i < n → f i = g i) : packN f n = packN g n := by
 induction n with
 | zero => rfl
 | succ n ih => simp only [packN]; rw [ih (fun i hi => h i (by omega)), h n (by omega)]
def byteAt (S : Nat → Bool) (j : Nat) : Nat := packN (fun t => S (8 * j + t)) 8
def pack (S : Nat → Bool) (m : Nat) : List UInt8 := (List.range m).map fun j => UInt8.ofNat (packN (fun t => S (8 * j + t)) 8)
theorem pack_length (S : Nat → Bool) (m : Nat) : (pack S m).length = m := by simp [pack]
theorem byteAt_lt (S : Nat → Bool) (j : Nat) : byteAt S j < 256 := packN_lt _ 8
theorem byteAt_other (S : Nat → Bool) (p j : Nat) (h : j ≠ p / 8) : byteAt (fun i => S i || i == p) j = byteAt S j := by
 unfold byteAt
 apply packN_congr
 intro i hi
 have : (8 * j + i == p) = false := by simp; omega
 show (S (8 * j + i) || (8 * j + i == p)) = _
 rw [this, Bool.or_false]
theorem byteAt_congr (S T : Nat → Bool) (h : ∀ i, S i = T i) (j : Nat) : byteAt S j = byteAt T j := packN_congr _ _ 8 (fun _ _ => h _)
theorem pack_bytes (S : Nat → Bool) (m : Nat) : pack S m = (List.range m).map fun j => UInt8.ofNat (byteAt S j) := rfl
theorem packN_top (f : Nat → Bool) (r d : Nat) (h : ∀ t, r ≤ t → f t = false) : packN f (r + d) = packN f r := by
 induction d with
 | zero => rfl
 | succ d ih =>
  rw [← Nat.add_assoc]
  simp only [packN]
  rw [h (r + d) (by omega), ih]; simp
def upto (S : Nat → Bool) (i : Nat) (t : Nat) : Bool := decide (t < i) && S t
theorem packN_cut (f : Nat → Bool) (r m : Nat) (hr : r ≤ m) (h : ∀ t, r ≤ t → f t = false) : packN f m = packN f r := by
 obtain ⟨d, rfl⟩ : ∃ d, m = r + d := ⟨m - r, by omega⟩
 exact packN_top f r d h
theorem upto_step (S : Nat → Bool) (i : Nat) : byteAt (upto S (i + 1)) (i / 8) = byteAt (upto S i) (i / 8) + (if S i = true then 2 ^ (i % 8) else 0) := by
 unfold byteAt
 rw [packN_cut (fun t => upto S (i + 1) (8 * (i / 8) + t)) (i % 8 + 1) 8 (by omega) (fun t ht => by unfold upto; simp; omega),
  packN_cut (fun t => upto S i (8 * (i / 8) + t)) (i % 8) 8 (by omega) (fun t ht => by unfold upto; simp; omega)]
 have e : upto S (i + 1) (8 * (i / 8) + i % 8) = S i := by
  rw [show 8 * (i / 8) + i % 8 = i by omega]; unfold upto; simp
 simp only [packN, e]
 congr 1
 apply packN_congr
 intro t ht
 unfold upto
 rw [show decide (8 * (i / 8) + t < i + 1) = true by simp; omega, show decide (8 * (i / 8) + t < i) = true by simp; omega]
theorem upto_other (S : Nat → Bool) (i j : Nat) (h : j ≠ i / 8) : byteAt (upto S (i + 1)) j = byteAt (upto S i) j := by
 unfold byteAt
 apply packN_congr
 intro t ht
 unfold upto
 rw [show decide (8 * j + t < i + 1) = decide (8 * j + t < i) by simp; omega]
theorem upto_zero (S : Nat → Bool) (j : Nat) : byteAt (upto S 0) j = 0 := by
 unfold byteAt
 have := packN_top (fun t => upto S 0 (8 * j + t)) 0 8 (fun t _ => by simp [upto])
 simpa [packN] using this
theorem upto_all (S : Nat → Bool) (n j : Nat) (h : j < n) : byteAt (upto S (8 * n)) j = byteAt S j := by
 unfold byteAt
 apply packN_congr
 intro t ht
 unfold upto
 rw [show decide (8 * j + t < 8 * n) = true by simp; omega]; simp
def ka (key : List UInt8) : Nat := (sum key).toNat
def kb (key : List UInt8) : Nat := (more 0x9e3779b9#32 key).toNat ||| 1
def plc (key : List UInt8) (m i : Nat) : Nat := (ka key + i * kb key) % 4294967296 % m
def places (key : List UInt8) (m : Int) : List Nat := if m < 1 ∨ m > 1073741824 then [] else (List.range 6).map (plc key m.toNat)
theorem or_one (x : Nat) : x ||| 1 = if x % 2 = 0 then x + 1 else x := by
 apply Nat.eq_of_testBit_eq
 intro i
 rw [Nat.testBit_or]
 cases i with
 | zero => simp only [Nat.testBit_zero]; split <;> simp <;> omega
 | succ i =>
  rw [Nat.testBit_succ, Nat.testBit_succ, Nat.testBit_succ]
  rw [show (1 : Nat) / 2 = 0 by rfl, Nat.zero_testBit, Bool.or_false]
  split
  ·rw [show (x + 1) / 2 = x / 2 by omega]
  ·rfl
def setOf (keys : List (List UInt8)) (m : Nat) (i : Nat) : Bool := keys.any fun k => (places k m).contains i
theorem setOf_snoc (keys : List (List UInt8)) (k : List UInt8) (m i : Nat) : setOf (keys ++ [k]) m i = (setOf keys m i || (places k m).contains i) := by
 unfold setOf; simp
def make (keys : List (List UInt8)) : List UInt8 := pack (setOf keys (bitsOf keys.length)) (bitsOf keys.length / 8)
def bitAt (f : List UInt8) (p : Nat) : Bool := (f.getD (p / 8) 0).toNat / 2 ^ (p % 8) % 2 == 1
def has (filter key : List UInt8) : Bool := (places key (8 * filter.length : Nat)).all (bitAt filter) && !(places key (8 * filter.length : Nat)).isEmpty
theorem plc_lt (key : List UInt8) (m i : Nat) (h : 0 < m) : plc key m i < m := Nat.mod_lt _ h
theorem places_eq (key : List UInt8) (m : Nat) (h1 : 1 ≤ m) (h2 : m ≤ 1073741824) : places key m = (List.range 6).map (plc key m) := by
 unfold places; rw [if_neg (by omega)]; rfl
theorem bitsOf_eq (n : Nat) : ∃ k, bitsOf n = 8 * k ∧ 8 ≤ k ∧ k ≤ 1310720 := by
 refine ⟨bitsOf n / 8, ?_⟩
 unfold bitsOf
 omega
end BloomP


namespace Go.Proofs.YtdbfaknpfepnfaaGreatDoor
open Go.RowKit Go.Deep CrcP BloomP

theorem ret_i64 {a b : Int} (h : a = b) : Ending.returned (.int .i64 a) = .returned (.int .i64 b) := by rw [h]

theorem refBits_core (n : Int) (h1 : n ≤ 1048576) (w : World) :
  Calls Tryz.prog 115 #[.int .i64 n] w fun e w' => e = .returned (.int .i64 (bitsOf n : Nat)) ∧ w = w' := by
 have hb : (bitsOf n : Int) = max ((10 * min (max n 0) 1048576 + 7) / 8 * 8) 64 := by unfold bitsOf; omega
 generalize bitsOf n = r at *
 have HB := Lib.hid hb
 clear hb
 go_enter Tryz.func115, Tryz.ntmps115
 go_wp2
 go_loop [3] (fun b => ∃ k : Nat, 8 ≤ k ∧ (k = 8 ∨ 8 * ((k : Int) - 1) < 10 * n) ∧ b = .int .i64 k) (fun b => (10 * n - 8 * intOf b).toNat)
 case atStart => exact ⟨8, by omega, by omega, rfl⟩
 case round =>
  obtain ⟨k, hk, hk2, rfl⟩ := hrel
  have HK := Lib.hid hk2
  have hk3 : k ≤ 1310721 := by omega
  clear hk2
  by_cases hn : 0 < n
  ·by_cases hlt : 8 * (k : Int) < 10 * n
   ·by_cases h5 : 8 * (k : Int) + 4096 < 10 * n
    ·go_wp2
     go_round
     case rel => exact ⟨k + 512, by omega, by omega, by go_num⟩
     case measure => simp [intOf]; omega
    ·go_wp2
     go_round
     case rel => exact ⟨k + 1, by omega, by omega, by go_num⟩
     case measure => simp [intOf]; omega
   ·go_wp2
    go_ret
    exact ⟨ret_i64 (by rw [HB.out]; have := HK.out; omega), rfl⟩
  ·go_wp2
   go_ret
   exact ⟨ret_i64 (by rw [HB.out]; have := HK.out; omega), rfl⟩
theorem refBits_big (n : Int) (h1 : 1048576 < n) (w : World) :
  Calls Tryz.prog 115 #[.int .i64 n] w fun e w' => e = .returned (.int .i64 (bitsOf n : Nat)) ∧ w = w' := by
 have hb : (bitsOf n : Int) = 10485760 := by unfold bitsOf; omega
 generalize bitsOf n = r at *
 have HB := Lib.hid hb
 clear hb
 go_enter Tryz.func115, Tryz.ntmps115
 go_wp2
 go_loop [3] (fun b => ∃ k : Nat, 8 ≤ k ∧ 8 * ((k : Int) - 1) < 10485760 ∧ b = .int .i64 k) (fun b => (10485760 - 8 * intOf b).toNat)
 case atStart => exact ⟨8, by omega, by omega, rfl⟩
 case round =>
  obtain ⟨k, hk, hk2, rfl⟩ := hrel
  have hk3 : k ≤ 1310721 := by omega
  by_cases hlt : 8 * (k : Int) < 10485760
  ·by_cases h5 : 8 * (k : Int) + 4096 < 10485760
   ·go_wp2
    go_round
    case rel => exact ⟨k + 512, by omega, by omega, by go_num⟩
    case measure => simp [intOf]; omega
   ·go_wp2
    go_round
    case rel => exact ⟨k + 1, by omega, by omega, by go_num⟩
    case measure => simp [intOf]; omega
  ·go_wp2
   go_ret
   exact ⟨ret_i64 (by rw [HB.out]; omega), rfl⟩
theorem refBits_any (n : Int) (w : World) :
  Calls Tryz.prog 115 #[.int .i64 n] w fun e w' => e = .returned (.int .i64 (bitsOf n : Nat)) ∧ w = w' := by
 by_cases h : n ≤ 1048576
 ·exact refBits_core n h w
 ·exact refBits_big n (by omega) w
end Go.Proofs.YtdbfaknpfepnfaaGreatDoor


namespace Go.Proofs.YtdbfaknpfepnfaaGreatDoor
open Go.RowKit Go.Deep CrcP BloomP

theorem more_at (x : Int) (sum : BitVec 32) (hx : x = u sum) (s : ByteArray) (w : World) (hs : s.size ≤ maxLen) (hn : Nibs w) :
  Calls Tryz.prog 157 #[.int .u32 x, .string s] w fun e w' => e = .returned (.int .u32 (u (more sum s.data.toList))) ∧ w = w' := by
 subst hx; exact more_any sum s w hs hn
theorem refMore_at (x : Int) (sum : BitVec 32) (hx : x = u sum) (s : ByteArray) (w : World) (hs : s.size ≤ maxLen) :
  Calls Tryz.prog 153 #[.int .u32 x, .string s] w fun e w' => e = .returned (.int .u32 (u (more sum s.data.toList))) ∧ Below w.heap.size w w' := by
 subst hx; exact refMore_any sum s w hs
theorem sum_any (s : ByteArray) (w : World) (hs : s.size ≤ maxLen) (hn : Nibs w) :
  Calls Tryz.prog 156 #[.string s] w fun e w' => e = .returned (.int .u32 (u (CrcP.sum s.data.toList))) ∧ w = w' := by
 have hh := Lib.hid hn
 clear hn
 go_enter Tryz.func156, Tryz.ntmps156
 go_wp2_with fail
 refine (more_at _ 0#32 rfl _ _ hs hh.out).mono ?_
 rintro e w' ⟨rfl, rfl⟩
 go_wp2
 go_ret
 exact ⟨rfl, rfl⟩

def Ints (w : World) (B : Nat) (v : Value) (l : List Int) : Prop :=
 (l = [] ∧ v = .slice none 0 0) ∨ (∃ g cap, B ≤ g ∧ g < w.heap.size ∧ v = .slice (some ⟨g, 0, none⟩) l.length cap ∧ l.length ≤ cap ∧ ∀ i, i < l.length → w.cell? ⟨g, i, none⟩ = some (.int .i64 (l.getD i 0)))
def GivesInts (w : World) (l : List Int) (e : Ending) (w' : World) : Prop := ∃ v, e = .returned v ∧ Ints w' w.heap.size v l ∧ Below w.heap.size w w'
def placesI (key : List UInt8) (m : Int) : List Int := (places key m).map fun (n : Nat) => (n : Int)
theorem placesI_some (key : List UInt8) (m : Int) (h : ¬ (m < 1 ∨ m > 1073741824)) : placesI key m = (List.range 6).map fun i => ((plc key m.toNat i : Nat) : Int) := by
 unfold placesI places; rw [if_neg h]; simp
structure Six (w0 w : World) (f : Nat → Int) : Prop where
 row : w.rowIs w0.heap.size 3 6 (fun i => .int .i64 (f i))
 below : Below w0.heap.size w0 w
theorem Six.new (w0 : World) : Six w0 (w0.alloc (.cells #[.int .i64 0, .int .i64 0, .int .i64 0, .int .i64 0, .int .i64 0, .int .i64 0] 3)) (fun _ => 0) :=
 ⟨World.rowIs_alloc w0 (Array.replicate 6 (.int .i64 0)) 3 (fun _ => .int .i64 0) (by intro i hi; rw [Array.size_replicate] at hi; simp [hi]), (Below.refl _ _).alloc (Nat.le_refl _) _⟩
theorem Six.set {w0 w : World} {f : Nat → Int} (h : Six w0 w f) (i : Nat) (b : Int) {g : Nat → Int} (e : ∀ j, j < 6 → g j = if j = i then b else f j) : Six w0 (w.setCell ⟨w0.heap.size, i, none⟩ (.int .i64 b)) g :=
 ⟨(h.row.set i (.int .i64 b)).congr (fun j hj => by rw [e j hj]; split <;> rfl), h.below.setCell (Nat.le_refl _) _⟩
theorem Six.ints {w0 w : World} {f : Nat → Int} (h : Six w0 w f) (l : List Int) (hl : l.length = 6) (e : ∀ i, i < 6 → f i = l.getD i 0) : Ints w w0.heap.size (.slice (some ⟨w0.heap.size, 0, none⟩) 6 6) l :=
 .inr ⟨w0.heap.size, 6, Nat.le_refl _, h.row.lt, by rw [hl], by omega, fun i hi => by rw [← e i (by omega)]; exact h.row.cell (by omega)⟩
def stepA (key : List UInt8) (i : Nat) : Nat := (ka key + i * kb key) % 4294967296
theorem stepA_zero (key : List UInt8) : stepA key 0 = ka key := by
 have : ka key < 2 ^ 32 := BitVec.isLt _
 unfold stepA; omega
theorem stepA_lt (key : List UInt8) (i : Nat) : stepA key i < 4294967296 := Nat.mod_lt _ (by decide)
theorem kb_lt (key : List UInt8) : kb key < 4294967296 := by
 have h : (more 0x9e3779b9#32 key).toNat < 2 ^ 32 := BitVec.isLt _
 exact Nat.or_lt_two_pow (n := 32) h (by decide)

def gathered (key : List UInt8) (m k : Nat) : List Value := (List.range k).map fun i => Value.int .i64 (plc key m i : Nat)
theorem gathered_succ (key : List UInt8) (m k : Nat) : gathered key m (k + 1) = gathered key m k ++ [Value.int .i64 (plc key m k : Nat)] := by
 unfold gathered; rw [List.range_succ]; simp
theorem info_int : (Tryz.prog.info? 3).map (fun i => (i.zero, i.size, i.bytes)) = some (some (.int .i64 0), 1, 8) := by kernel_rfl
theorem ints_of_own {w : World} {B : Nat} {v : Value} {n : Nat} {l : List Int} (h : w.ownsRow B 3 1 v n (l.map fun x => Value.int .i64 x)) : Ints w B v l := by
 obtain ⟨hl, h2⟩ := h
 simp at hl
 rcases h2 with ⟨rfl, rfl⟩ | ⟨g, cap, cur, rfl, hg, hh, hcap, hmax, hcs, htk⟩
 ·exact .inl ⟨by simpa using hl, rfl⟩
 ·refine .inr ⟨g, cap, hg, ?_, by rw [hl], by omega, ?_⟩
  ·rcases Nat.lt_or_ge g w.heap.size with h | h
   ·exact h
   ·rw [Array.getElem?_eq_none h] at hh; simp at hh
  ·intro i hi
   have : cur[i]? = some (.int .i64 (l.getD i 0)) := by
    have e : (cur.toList.take (n * 1))[i]? = cur.toList[i]? := by rw [List.getElem?_take, if_pos (by omega)]
    rw [← Array.getElem?_toList, ← e, htk]
    simp [hi]
   simp [World.cell?, hh, this]
theorem ka_u (key : List UInt8) : u (more 0#32 key) = ((stepA key 0 : Nat) : Int) := by rw [stepA_zero]; rfl
theorem kb_u (key : List UInt8) : ((more 0x9e3779b9#32 key).toNat % 2 = 0 → kb key = (more 0x9e3779b9#32 key).toNat + 1) ∧ (¬ (more 0x9e3779b9#32 key).toNat % 2 = 0 → kb key = (more 0x9e3779b9#32 key).toNat) := by
 unfold kb; rw [or_one]
 exact ⟨fun h => by rw [if_pos h], fun h => by rw [if_neg h]⟩

theorem refPlaces_some (s : ByteArray) (m : Nat) (w : World) (hs : s.size ≤ maxLen) (h1 : 1 ≤ m) (h2 : m ≤ 1073741824) :
  Calls Tryz.prog 116 #[.string s, .int .i64 m] w (GivesInts w (placesI s.data.toList m)) := by
 obtain ⟨i0, hi, hz0, hz1, hz2⟩ := info_parts info_int
 have hp := placesI_some s.data.toList m (by omega)
 have hka := ka_u s.data.toList
 have hkb := kb_u s.data.toList
 have hB := kb_lt s.data.toList
 have hA := stepA_lt s.data.toList 0
 have hM : (more 0x9e3779b9#32 s.data.toList).toNat < 4294967296 := BitVec.isLt _
 have hbu : u (more 0x9e3779b9#32 s.data.toList) = (((more 0x9e3779b9#32 s.data.toList).toNat : Nat) : Int) := rfl
 generalize (more 0x9e3779b9#32 s.data.toList).toNat = mb at *
 have HP := Lib.hid hp
 have HM := Lib.hid hs
 have HKB := Lib.hid hkb
 clear hp hs hkb
 have d1 : decide ((m : Int) < 1) = false := by simp; omega
 have d2 : decide ((1073741824 : Int) < (m : Int)) = false := by simp; omega
 go_enter Tryz.func116, Tryz.ntmps116
 go_wp2_with fail
 refine (refMore_at _ 0#32 rfl _ _ HM.out).mono ?_
 rintro e w1 ⟨rfl, hb1⟩
 go_wp2_with fail
 refine (refMore_at _ 0x9e3779b9#32 rfl _ _ HM.out).mono ?_
 rintro e w2 ⟨rfl, hb2⟩
 have hK := HKB.out
 generalize hB' : kb s.data.toList = B at *
 have HBB := Lib.hid hB'
 clear hB'
 have hcase : (((mb : Int) % 2 == 0) = true ∧ (mb : Int) + 1 = (B : Int)) ∨ (((mb : Int) % 2 == 0) = false ∧ B = mb) := by
  by_cases h : mb % 2 = 0
  ·exact .inl ⟨by simp; omega, by have := hK.1 h; omega⟩
  ·exact .inr ⟨by simp; omega, hK.2 h⟩
 clear hK HKB
 have hbel := hb1.trans (hb2.mono hb1.size)
 clear hb1 hb2
 rcases hcase with ⟨hev, e1⟩ | ⟨hev, rfl⟩
 all_goals
  go_wp2
  try clear e1
  clear hev
  go_loopw [7, 8] (fun v i wr => ∃ k : Nat, k ≤ 6 ∧ i = .int .u64 k ∧ wr.ownsRow w.heap.size 3 1 v k (gathered s.data.toList m k) ∧ Below w.heap.size w wr) (fun _ i _ => 6 - (intOf i).toNat)
  case atStart => exact ⟨0, by omega, rfl, World.ownsRow_nil _ _ _ _, hbel⟩
  case round =>
   clear hbel
   obtain ⟨k, hk, rfl, hown, hbel⟩ := hrel
   by_cases hlt : k < 6
   ·have hs2 : stepA s.data.toList k % m = plc s.data.toList m k := rfl
    have hs3 : stepA s.data.toList k = (stepA s.data.toList 0 + k * B) % 4294967296 := by rw [stepA_zero, ← HBB.out]; rfl
    have hmul : (k : Int) * (B : Int) = ((k * B : Nat) : Int) := by simp
    have hle : k * B ≤ 6 * 4294967296 := Nat.mul_le_mul (by omega) (by omega)
    generalize k * B = p at *
    generalize stepA s.data.toList 0 = A at *
    have hval : ((A : Int) + (p : Int)) % 4294967296 % (m : Int) = ((plc s.data.toList m k : Nat) : Int) := by rw [← hs2, hs3]; simp
    have hpl : plc s.data.toList m k < 4294967296 := by rw [← hs2]; exact Nat.lt_of_le_of_lt (Nat.mod_le _ _) (stepA_lt _ _)
    have hg := gathered_succ s.data.toList m k
    generalize plc s.data.toList m k = pl at *
    have HG := Lib.hid hg
    clear hs2 hs3 hg
    go_wp2_with (at_builtin; refine wpList_append_own _ rfl _ _ 107 rfl w.heap.size 3 i0 (.int .i64 0) 1 8 Tryz.underlying107 hi hz0 hz1 hz2 rfl (by decide) _ _ _ rfl (hown.alloc _) ⟨wr.heap.size, 0, none⟩ 1 1 [.int .i64 (pl : Int)] rfl rfl ?c1 ?c2 ?c3 ?c4 ?c5 ?_)
    case c1 =>
     intro j u hj
     match j, hj with
     | 0, hj => simp at hj; subst hj; simp [Addr.add]
    case c2 => intro u hu; simp at hu; subst hu; rfl
    case c3 => unfold maxLen; omega
    case c4 => omega
    case c5 => have := hbel.size; simp; omega
    ·intro v' w3 hown' hgrow _
     have hsz := hbel.size
     have hbel' : Below w.heap.size w w3 := (hbel.alloc hsz _).grown hgrow (by simp; omega) (fun k hk => (hown.lt k hk).1)
     have hown2 : w3.ownsRow w.heap.size 3 1 v' (k + 1) (gathered s.data.toList m (k + 1)) := by rw [HG.out]; exact hown'
     clear hown' hgrow hown hbel
     go_wp2
     go_roundw
     case rel => first | exact ⟨k + 1, by omega, by go_num, hown2, hbel'⟩ | ((repeat apply Exists.intro); exact ⟨⟨k + 1, by omega, by go_num, hown2, hbel'⟩, rfl⟩)
     case measure => simp [intOf]; omega
   ·go_wp2
    go_ret
    obtain rfl : k = 6 := by omega
    refine ⟨_, rfl, ints_of_own (n := 6) ?_, hbel⟩
    have e : placesI s.data.toList m = List.map (fun i => ((plc s.data.toList m i : Nat) : Int)) (List.range 6) := HP.out
    rw [e, List.map_map]
    exact hown
end Go.Proofs.YtdbfaknpfepnfaaGreatDoor


namespace Go.Proofs.YtdbfaknpfepnfaaGreatDoor
open Go.RowKit Go.Deep CrcP BloomP

theorem lt_of_cell {w : World} {a : Addr} {v : Value} (h : w.cell? a = some v) : a.block < w.heap.size := by
 unfold World.cell? at h
 rcases Nat.lt_or_ge a.block w.heap.size with h1 | h1
 ·exact h1
 ·rw [Array.getElem?_eq_none h1] at h; simp at h
theorem Nibs.lt {w : World} (h : Nibs w) : 1 < w.heap.size := lt_of_cell (h 0 (by decide))
theorem Nibs.below {w w' : World} (h : Nibs w) (hb : Below w.heap.size w w') : Nibs w' := fun i hi => (hb.cell (p := ⟨_, _, none⟩) h.lt).trans (h i hi)
theorem Nibs.of_below {w0 w w' : World} (h : Nibs w) (hb : Below w0.heap.size w w') (h0 : Nibs w0) : Nibs w' := fun i hi => (hb.cell (p := ⟨_, _, none⟩) h0.lt).trans (h i hi)

theorem placesAt {w : World} {B : Nat} {v : Value} {key : List UInt8} {m : Nat} (h : Ints w B v (placesI key m)) (h1 : 1 ≤ m) (h2 : m ≤ 1073741824) :
  ∃ g cap, B ≤ g ∧ g < w.heap.size ∧ v = .slice (some ⟨g, 0, none⟩) 6 cap ∧ ∀ i, i < 6 → w.cell? ⟨g, i, none⟩ = some (.int .i64 (plc key m i : Nat)) := by
 have e := placesI_some key m (by omega)
 rw [Int.toNat_natCast] at e
 rcases h with ⟨h, _⟩ | ⟨g, cap, hg, hlt, hv, hcap, hc⟩
 ·rw [e] at h; exact absurd h (by simp)
 ·have hl : (placesI key m).length = 6 := by rw [e]; rfl
  refine ⟨g, cap, hg, hlt, by rw [hv, hl], fun i hi => ?_⟩
  rw [hc i (by omega), e]
  simp [hi]

end Go.Proofs.YtdbfaknpfepnfaaGreatDoor


namespace Go.Proofs.YtdbfaknpfepnfaaGreatDoor
open Go.RowKit Go.Deep CrcP BloomP

structure StrsAt (w : World) (b off : Nat) (ks : List ByteArray) : Prop where
 cell : ∀ i, i < ks.length → w.cell? ⟨b, off + i, none⟩ = some (.string (ks.getD i ByteArray.empty))
 lt : b < w.heap.size
 size : ∀ i, i < ks.length → (ks.getD i ByteArray.empty).size ≤ maxLen
theorem StrsAt.below {w w' : World} {B b off : Nat} {ks : List ByteArray} (h : StrsAt w b off ks) (hb : Below B w w') (hB : b < B) : StrsAt w' b off ks :=
 ⟨fun i hi => (hb.cell (p := ⟨b, _, none⟩) hB).trans (h.cell i hi), Nat.lt_of_lt_of_le h.lt hb.size, h.size⟩
def bl (s : ByteArray) : List UInt8 := s.data.toList
def bls (ks : List ByteArray) : List (List UInt8) := ks.map bl
theorem info_u8 : (Tryz.prog.info? 5).map (fun i => (i.zero, i.size, i.bytes)) = some (some (.int .u8 0), 1, 1) := by kernel_rfl
def str (l : List UInt8) : ByteArray := ⟨l.toArray⟩
theorem str_bl (s : ByteArray) : str (bl s) = s := by cases s; simp [str, bl]
theorem bl_str (l : List UInt8) : bl (str l) = l := by simp [str, bl]
structure Bits (w0 w : World) (n : Nat) (S : Nat → Bool) : Prop where
 row : w.rowIs w0.heap.size 5 n (fun j => .int .u8 (byteAt S j : Nat))
 below : Below w0.heap.size w0 w
theorem Bits.congr {w0 w : World} {n : Nat} {S T : Nat → Bool} (h : Bits w0 w n S) (e : ∀ i, S i = T i) : Bits w0 w n T :=
 ⟨h.row.congr (fun j _ => by rw [byteAt_congr S T e]), h.below⟩
theorem Bits.set {w0 w : World} {n : Nat} {S : Nat → Bool} (h : Bits w0 w n S) (p : Nat) : Bits w0 (w.setCell ⟨w0.heap.size, p / 8, none⟩ (.int .u8 (byteAt (fun i => S i || i == p) (p / 8) : Nat))) n (fun i => S i || i == p) :=
  ⟨(h.row.set (p / 8) _).congr (fun j _ => by
    by_cases e : j = p / 8
    · subst e; rw [if_pos rfl]
    · rw [if_neg e, byteAt_other S p j e]), h.below.setCell (Nat.le_refl _) _⟩
theorem Bits.later {w0 w w' : World} {n : Nat} {S : Nat → Bool} (h : Bits w0 w n S) (hb : Below w.heap.size w w') : Bits w0 w' n S :=
 ⟨h.row.of_block (hb.block _ h.row.lt), h.below.trans (hb.mono h.below.size)⟩
theorem Bits.drew {w0 w : World} {n : Nat} {S : Nat → Bool} (h : Bits w0 w n S) : Bits w0 w.drew n S := ⟨h.row, h.below.drew⟩
theorem take_snoc' (ks : List ByteArray) (k : Nat) (h : k < ks.length) : ks.take (k + 1) = ks.take k ++ [ks.getD k ByteArray.empty] := by
 rw [List.take_succ_eq_append_getElem h]; simp [h]
theorem or_snoc (a : Bool) (l : List Nat) (p i : Nat) : ((a || l.contains i) || i == p) = (a || (l ++ [p]).contains i) := by
 rw [List.contains_append, Bool.or_assoc]; congr 2
 rw [Bool.eq_iff_iff]; simp
theorem strOfNums_str (f : Nat → Nat) (n : Nat) : strOfNums ((List.range n).map fun j => (f j : Int)) = str ((List.range n).map fun j => UInt8.ofNat (f j)) := by
 unfold strOfNums str; simp [Function.comp_def]
def Strs (w : World) (v : Value) (ks : List ByteArray) : Prop := ∃ ao cap, v = .slice ao ks.length cap ∧ ks.length ≤ maxLen ∧ (ks ≠ [] → ∃ b off, ao = some ⟨b, off, none⟩ ∧ StrsAt w b off ks)
end Go.Proofs.YtdbfaknpfepnfaaGreatDoor


namespace FrameP
open CrcP CodecP
def be4 (n : Nat) : List UInt8 := fixed 4 n
def frame (s : List UInt8) : List UInt8 := be4 s.length ++ laid (be4 s.length) ++ s ++ laid s
def opn (s : List UInt8) : List UInt8 × Nat × Nat :=
 if s.length < 8 then ([], 0, 1)
 else if laid (s.take 4) ≠ (s.drop 4).take 4 ∨ 131072 < value (s.take 4) then ([], 0, 2)
 else if s.length < 12 + value (s.take 4) then ([], 0, 1)
 else if laid ((s.drop 8).take (value (s.take 4))) ≠ (s.drop (8 + value (s.take 4))).take 4 then ([], 0, 2)
 else ((s.drop 8).take (value (s.take 4)), 12 + value (s.take 4), 0)
theorem le4_length (v : BitVec 32) : (le4 v).length = 4 := rfl
theorem laid_length (l : List UInt8) : (laid l).length = 4 := rfl
theorem be4_length (n : Nat) : (be4 n).length = 4 := fixed_length 4 n
theorem frame_length (s : List UInt8) : (frame s).length = 12 + s.length := by simp [frame, be4_length, laid_length]; omega
theorem value_be4 (n : Nat) (h : n < 4294967296) : value (be4 n) = n := value_fixed 4 n (by simpa using h)
theorem take_app {α} (a b : List α) (n : Nat) (h : a.length = n) : (a ++ b).take n = a := by subst h; simp
theorem drop_app {α} (a b : List α) (n : Nat) (h : a.length = n) : (a ++ b).drop n = b := by subst h; simp
theorem opn_frame (s rest : List UInt8) (h : s.length ≤ 131072) : opn (frame s ++ rest) = (s, 12 + s.length, 0) := by
 have e1 : (frame s ++ rest).take 4 = be4 s.length := by
  unfold frame; simp only [List.append_assoc]; exact take_app _ _ 4 (be4_length _)
 have e2 : (frame s ++ rest).drop 4 = laid (be4 s.length) ++ (s ++ (laid s ++ rest)) := by
  unfold frame; simp only [List.append_assoc]; exact drop_app _ _ 4 (be4_length _)
 have e3 : (frame s ++ rest).drop 8 = s ++ (laid s ++ rest) := by
  rw [show 8 = 4 + 4 by rfl, ← List.drop_drop, e2]; exact drop_app _ _ 4 (laid_length _)
 have ev : value (be4 s.length) = s.length := value_be4 _ (by omega)
 have e4 : (frame s ++ rest).drop (8 + s.length) = laid s ++ rest := by
  rw [← List.drop_drop, e3]; exact drop_app _ _ _ rfl
 have el : (frame s ++ rest).length = 12 + s.length + rest.length := by rw [List.length_append, frame_length]
 unfold opn
 rw [e1, e2, ev, e3, e4, el]
 rw [if_neg (by omega), take_app _ _ 4 (laid_length _), if_neg (by simp; omega), if_neg (by omega), take_app _ _ _ rfl, take_app _ _ 4 (laid_length _), if_neg (by simp)]
theorem frame_opn (s d : List UInt8) (n : Nat) (h : opn s = (d, n, 0)) : d.length ≤ 131072 ∧ n = 12 + d.length ∧ n ≤ s.length ∧ s.take n = frame d := by
 unfold opn at h
 split at h
 ·simp at h
 rename_i h1
 split at h
 ·simp at h
 rename_i h2
 split at h
 ·simp at h
 rename_i h3
 split at h
 ·simp at h
 rename_i h4
 simp only [Prod.mk.injEq] at h
 obtain ⟨hd, hn, _⟩ := h
 have h2' : laid (s.take 4) = (s.drop 4).take 4 ∧ value (s.take 4) ≤ 131072 := by
  constructor
  ·apply Decidable.byContradiction; intro e; exact h2 (Or.inl e)
  ·apply Decidable.byContradiction; intro e; exact h2 (Or.inr (by omega))
 have h4' : laid ((s.drop 8).take (value (s.take 4))) = (s.drop (8 + value (s.take 4))).take 4 := Decidable.byContradiction fun e => h4 e
 have hl : d.length = value (s.take 4) := by rw [← hd]; simp; omega
 have hb : be4 d.length = s.take 4 := by
  have := fixed_value (s.take 4)
  rw [show (s.take 4).length = 4 by simp; omega] at this
  rw [hl]; exact this
 refine ⟨by omega, by omega, by omega, ?_⟩
 unfold frame
 rw [hb, h2'.1]
 rw [hd] at h4'
 rw [h4', ← hd, ← hn]
 apply List.ext_getElem?
 intro i
 have l4 : (s.take 4).length = 4 := by simp; omega
 have l4b : ((s.drop 4).take 4).length = 4 := by simp; omega
 have ld : ((s.drop 8).take (value (s.take 4))).length = value (s.take 4) := by simp; omega
 generalize value (s.take 4) = v at *
 simp only [List.getElem?_append, List.length_append, l4, l4b, ld, List.getElem?_take, List.getElem?_drop]
 by_cases a1 : i < 4
 ·simp [a1, show i < 12 + v by omega, show i < 4 + 4 by omega, show i < 4 + 4 + v by omega]
 by_cases a2 : i < 8
 ·simp [a1, a2, show i < 12 + v by omega, show i < 8 + v by omega, show i - 4 < 4 by omega, show 4 + (i - 4) = i by omega]
 by_cases a3 : i < 8 + v
 ·simp [a2, a3, show i < 12 + v by omega, show i - 8 < v by omega, show 8 + (i - 8) = i by omega]
 by_cases a4 : i < 12 + v
 ·simp [a3, a4, show i - (8 + v) < 4 by omega, show 8 + v + (i - (8 + v)) = i by omega]
 ·simp [a3, a4, show ¬ i - (8 + v) < 4 by omega]
def ones : BitVec 32 := ~~~ 0#32
theorem byt_ofNat (v : BitVec 32) (x : Nat) : byt v (UInt8.ofNat (x % 256)) = bitsN 8 v x := by
 rw [← byt_bits, UInt8.toNat_ofNat', Nat.mod_eq_of_lt (by omega), bitsN_mod 8 v x]
theorem reg_le4 (v y : BitVec 32) : reg v (le4 y) = stpN 32 (v ^^^ y) := by
 have hy := y.isLt
 unfold le4
 rw [reg_cons, reg_cons, reg_cons, reg_cons]
 show byt (byt (byt (byt v _) _) _) _ = _
 rw [show y.toNat / 16777216 = y.toNat / 16777216 % 256 by omega, byt_ofNat, byt_ofNat, byt_ofNat, byt_ofNat]
 have e := bitsN_eq 32 v y.toNat hy hy
 rw [BitVec.ofNat_toNat, BitVec.setWidth_eq] at e
 have e2 : bitsN 32 v y.toNat = bitsN (8 + (8 + (8 + 8))) v y.toNat := rfl
 rw [← e, e2, bitsN_add, bitsN_add, bitsN_add]
 simp only [Nat.div_div_eq_div_mul]
theorem reg_laid (l : List UInt8) : reg ones (l ++ laid l) = stpN 32 ones := by
 rw [reg_append]
 unfold laid
 rw [reg_le4]
 congr 1
 show reg (~~~ 0#32) l ^^^ ~~~ (reg (~~~ 0#32) l) = _
 generalize reg (~~~ 0#32) l = v
 apply BitVec.eq_of_getLsbD_eq
 intro i hi
 unfold ones
 rw [BitVec.getLsbD_xor, BitVec.getLsbD_not, BitVec.getLsbD_not]
 simp only [hi, decide_true, Bool.true_and, BitVec.getLsbD_zero]
 cases v.getLsbD i <;> rfl
theorem div_burst (k b : Nat) (hb : b < 4294967296) : ∃ k' b', b' < 4294967296 ∧ 2 ^ k * b / 256 ^ 8 = 2 ^ k' * b' := by
 have h64 : 256 ^ 8 = 2 ^ 64 := by decide
 rw [h64]
 by_cases h : 64 ≤ k
 ·refine ⟨k - 64, b, hb, ?_⟩
  have : 2 ^ k = 2 ^ 64 * 2 ^ (k - 64) := by rw [← Nat.pow_add]; congr 1; omega
  rw [this, Nat.mul_assoc, Nat.mul_div_cancel_left _ (by decide)]
 ·refine ⟨0, b / 2 ^ (64 - k), Nat.lt_of_le_of_lt (Nat.div_le_self _ _) hb, ?_⟩
  have : 2 ^ 64 = 2 ^ k * 2 ^ (64 - k) := by rw [← Nat.pow_add]; congr 1; omega
  rw [this, Nat.mul_div_mul_left _ _ (Nat.two_pow_pos k)]; simp
theorem opn_burst (s : List UInt8) (k b : Nat) (hs : s.length ≤ 131072) (hb : b < 4294967296) (hne : xorNum (frame s) (2 ^ k * b) ≠ frame s) :
  (opn (xorNum (frame s) (2 ^ k * b))).2.2 ≠ 0 := by
 intro h0
 apply hne
 obtain ⟨d, n, why, hop⟩ : ∃ d n why, opn (xorNum (frame s) (2 ^ k * b)) = (d, n, why) := ⟨_, _, _, rfl⟩
 rw [hop] at h0
 obtain rfl : why = 0 := h0
 obtain ⟨hd, hn, hle, htk⟩ := frame_opn _ _ _ hop
 generalize hg : xorNum (frame s) (2 ^ k * b) = g at *
 have hgl : g.length = (frame s).length := by rw [← hg, xorNum_length]
 have f8 : (frame s).take 8 = be4 s.length ++ laid (be4 s.length) := by
  unfold frame; rw [List.append_assoc]; exact take_app _ _ 8 (by simp [be4_length, laid_length])
 have d8 : (frame d).take 8 = be4 d.length ++ laid (be4 d.length) := by
  unfold frame; rw [List.append_assoc]; exact take_app _ _ 8 (by simp [be4_length, laid_length])
 have g8 : g.take 8 = (frame d).take 8 := by rw [← htk, List.take_take]; congr 1; omega
 have r8 : reg ones (g.take 8) = reg ones ((frame s).take 8) := by rw [g8, d8, f8, reg_laid, reg_laid]
 have x8 : g.take 8 = xorNum ((frame s).take 8) (2 ^ k * b) := by rw [← hg, xorNum_take]
 rw [x8] at r8
 have s8 := reg_burst _ _ k b hb r8
 have e8 : g.take 8 = (frame s).take 8 := by rw [x8, s8]
 have hlen : d.length = s.length := by
  have : (g.take 8).take 4 = ((frame s).take 8).take 4 := by rw [e8]
  rw [g8, d8, f8, take_app _ _ 4 (be4_length _), take_app _ _ 4 (be4_length _)] at this
  have := congrArg value this
  rwa [value_be4 _ (by omega), value_be4 _ (by omega)] at this
 have gn : g = frame d := by
  rw [← htk, List.take_of_length_le]; rw [hgl, frame_length]; omega
 have fd : (frame s).drop 8 = s ++ laid s := by
  unfold frame; rw [List.append_assoc (be4 s.length ++ laid (be4 s.length))]; exact drop_app _ _ 8 (by simp [be4_length, laid_length])
 have dd : (frame d).drop 8 = d ++ laid d := by
  unfold frame; rw [List.append_assoc (be4 d.length ++ laid (be4 d.length))]; exact drop_app _ _ 8 (by simp [be4_length, laid_length])
 have r9 : reg ones (g.drop 8) = reg ones ((frame s).drop 8) := by rw [gn, dd, fd, reg_laid, reg_laid]
 obtain ⟨k', b', hb', ekb⟩ := div_burst k b hb
 have x9 : g.drop 8 = xorNum ((frame s).drop 8) (2 ^ k' * b') := by rw [← hg, xorNum_drop, ekb]
 rw [x9] at r9
 have e9 : g.drop 8 = (frame s).drop 8 := by rw [x9, reg_burst _ _ k' b' hb' r9]
 rw [← List.take_append_drop 8 g, e8, e9, List.take_append_drop]
theorem and_parts (a b c d : Nat) (ha : a < 65536) (hc : c < 65536) : (65536 * b + a) &&& (65536 * d + c) = 65536 * (b &&& d) + (a &&& c) := by
 apply Nat.eq_of_testBit_eq
 intro i
 have e : ∀ x y : Nat, 65536 * x + y = 2 ^ 16 * x + y := by intro x y; rfl
 have hac : a &&& c < 2 ^ 16 := Nat.lt_of_le_of_lt Nat.and_le_left ha
 rw [Nat.testBit_and, e b a, e d c, e (b &&& d) (a &&& c), Nat.testBit_two_pow_mul_add _ ha, Nat.testBit_two_pow_mul_add _ hc, Nat.testBit_two_pow_mul_add _ hac]
 by_cases h : i < 16
 ·simp [h]
 ·simp [h]
theorem or_parts (a b c d : Nat) (ha : a < 65536) (hc : c < 65536) : (65536 * b + a) ||| (65536 * d + c) = 65536 * (b ||| d) + (a ||| c) := by
 apply Nat.eq_of_testBit_eq
 intro i
 have e : ∀ x y : Nat, 65536 * x + y = 2 ^ 16 * x + y := by intro x y; rfl
 have hac : a ||| c < 2 ^ 16 := Nat.or_lt_two_pow ha hc
 rw [Nat.testBit_or, e b a, e d c, e (b ||| d) (a ||| c), Nat.testBit_two_pow_mul_add _ ha, Nat.testBit_two_pow_mul_add _ hc, Nat.testBit_two_pow_mul_add _ hac]
 by_cases h : i < 16
 ·simp [h]
 ·simp [h]
theorem mask_bytes (n : Nat) : n &&& 16711935 = n % 256 + 65536 * (n / 65536 % 256) := by
 have h : n = 65536 * (n / 65536) + n % 65536 := by omega
 have h2 : 16711935 = 65536 * 255 + 255 := by decide
 conv => lhs; rw [h, h2]
 rw [and_parts _ _ _ _ (by omega) (by decide)]
 have m : ∀ x : Nat, x &&& 255 = x % 256 := fun x => Nat.and_two_pow_sub_one_eq_mod x 8
 rw [m, m]; omega
def rev (x : Nat) : Nat := x % 256 * 16777216 + x / 256 % 256 * 65536 + x / 65536 % 256 * 256 + x / 16777216
theorem rev_value (v : BitVec 32) : rev v.toNat = value (le4 v) := by
 have hv := v.isLt
 unfold le4 value rev
 have m : ∀ x : Nat, x % 256 % 2 ^ 8 = x % 256 := fun x => Nat.mod_mod x 256
 have m2 : v.toNat / 16777216 % 2 ^ 8 = v.toNat / 16777216 := Nat.mod_eq_of_lt (by omega)
 simp only [List.foldl_cons, List.foldl_nil, UInt8.toNat_ofNat', m, m2]
 generalize v.toNat % 256 = a
 generalize v.toNat / 256 % 256 = b
 generalize v.toNat / 65536 % 256 = c
 generalize v.toNat / 16777216 = d
 omega
theorem fixed_rev (v : BitVec 32) : fixed 4 (rev v.toNat) = le4 v := by
 rw [rev_value]
 exact fixed_value (le4 v)
end FrameP


