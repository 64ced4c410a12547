/-
  The walk of bloom.Make.
-/
import Derived.Test.YtbkdlkhaeidhcaaDoorHasW
import Derived.BigRegion
import Derived.Laws.BytesArg
namespace Go.Proofs.YtbkdlkhaeidhcaaDoor
open Go.RowKit Go.Deep CrcP BloomP

/-- Texts that lie side by side. -/
structure StrsAt (w : World) (b off : Nat) (ks : List ByteArray) : Prop where
  cell : ∀ i, i < ks.length → w.cell? ⟨b, off + i, none⟩ = some (.string (ks.getD i ByteArray.empty))
  lt : b < w.heap.size
  size : ∀ i, i < ks.length → (ks.getD i ByteArray.empty).size ≤ maxLen
theorem StrsAt.below {w w' : World} {B b off : Nat} {ks : List ByteArray} (h : StrsAt w b off ks) (hb : Below B w w') (hB : b < B) : StrsAt w' b off ks :=
  ⟨fun i hi => (hb.cell (p := ⟨b, _, none⟩) hB).trans (h.cell i hi), Nat.lt_of_lt_of_le h.lt hb.size, h.size⟩
/-- bytes as a list -/
def bl (s : ByteArray) : List UInt8 := s.data.toList
def bls (ks : List ByteArray) : List (List UInt8) := ks.map bl
theorem info_u8 : (Tryd.prog.info? 5).map (fun i => (i.zero, i.size, i.bytes)) = some (some (.int .u8 0), 1, 1) := by kernel_rfl
/-- A text out of a list of bytes. -/
def str (l : List UInt8) : ByteArray := ⟨l.toArray⟩
theorem str_bl (s : ByteArray) : str (bl s) = s := by cases s; simp [str, bl]
theorem bl_str (l : List UInt8) : bl (str l) = l := by simp [str, bl]
/-- Bytes in a block of the call's own, told by a set of bits. -/
structure Bits (w0 w : World) (n : Nat) (S : Nat → Bool) : Prop where
  row : w.rowIs w0.heap.size 5 n (fun j => .int .u8 (byteAt S j : Nat))
  below : Below w0.heap.size w0 w
theorem Bits.congr {w0 w : World} {n : Nat} {S T : Nat → Bool} (h : Bits w0 w n S) (e : ∀ i, S i = T i) : Bits w0 w n T :=
  ⟨h.row.congr (fun j _ => by rw [byteAt_congr S T e]), h.below⟩
theorem Bits.set {w0 w : World} {n : Nat} {S : Nat → Bool} (h : Bits w0 w n S) (p : Nat) : Bits w0 (w.setCell ⟨w0.heap.size, p / 8, none⟩ (.int .u8 (byteAt (fun i => S i || i == p) (p / 8) : Nat))) n (fun i => S i || i == p) :=
  ⟨(h.row.set (p / 8) _).congr (fun j _ => by
    by_cases e : j = p / 8
    · subst e; rw [if_pos rfl]
    · rw [if_neg e, byteAt_other S p j e]), h.below.setCell (Nat.le_refl _) _⟩
theorem Bits.later {w0 w w' : World} {n : Nat} {S : Nat → Bool} (h : Bits w0 w n S) (hb : Below w.heap.size w w') : Bits w0 w' n S :=
  ⟨h.row.of_block (hb.block _ h.row.lt), h.below.trans (hb.mono h.below.size)⟩
theorem Bits.drew {w0 w : World} {n : Nat} {S : Nat → Bool} (h : Bits w0 w n S) : Bits w0 w.drew n S := ⟨h.row, h.below.drew⟩
theorem u8_shl (c p : Nat) (hc : c < 256) : bits .or .u8 (c : Int) ((2 : Int) ^ (p % 8) % 256) = ((c ||| 2 ^ (p % 8) : Nat) : Int) := by
  have h : 2 ^ (p % 8) < 256 := by
    have : 2 ^ (p % 8) ≤ 2 ^ 7 := Nat.pow_le_pow_right (by omega) (by omega)
    omega
  have e : (2 : Int) ^ (p % 8) % 256 = ((2 ^ (p % 8) : Nat) : Int) := by
    rw [show (2 : Int) ^ (p % 8) = ((2 ^ (p % 8) : Nat) : Int) by simp]
    generalize 2 ^ (p % 8) = q at *
    omega
  rw [e, u8_or_nat _ _ hc h]

theorem take_snoc' (ks : List ByteArray) (k : Nat) (h : k < ks.length) : ks.take (k + 1) = ks.take k ++ [ks.getD k ByteArray.empty] := by
  rw [List.take_succ_eq_append_getElem h]; simp [h]
theorem cell_other (w : World) (a : Addr) (v : Value) (b : Addr) (h : a.block ≠ b.block) : (w.setCell a v).drew.cell? b = w.cell? b := World.cell?_setCell_other _ _ _ _ (fun e => h (congrArg Addr.block e))
theorem or_snoc (a : Bool) (l : List Nat) (p i : Nat) : ((a || l.contains i) || i == p) = (a || (l ++ [p]).contains i) := by
  rw [List.contains_append, Bool.or_assoc]; congr 2
  rw [Bool.eq_iff_iff]; simp
theorem strOfNums_str (f : Nat → Nat) (n : Nat) : strOfNums ((List.range n).map fun j => (f j : Int)) = str ((List.range n).map fun j => UInt8.ofNat (f j)) := by
  unfold strOfNums str; simp [Function.comp_def]
set_option maxHeartbeats 1000000 in
theorem make_some (b off cap : Nat) (ks : List ByteArray) (w : World) (hk : StrsAt w b off ks) (hn : Nibs w) (hl : ks.length ≤ maxLen) :
    Calls Tryd.prog 20 #[.slice (some ⟨b, off, none⟩) ks.length cap] w fun e w' => e = .returned (.string (str (make (bls ks)))) ∧ Below w.heap.size w w' := by
  obtain ⟨n, hbits, hn1, hn2⟩ := bitsOf_eq ks.length
  have hmk := run_make_row' (P := Tryd.prog) 45 5 (.int .u8 0) 1 Tryd.underlying45 info_u8 rfl .i64 .i64 n (by omega) (by omega)
  have hM : make (bls ks) = pack (setOf (bls ks) (8 * n)) n := by
    unfold make
    rw [show (bls ks).length = ks.length by simp [bls], hbits, show 8 * n / 8 = n by omega]
  have HM := Lib.hid hM
  have HN := Lib.hid hn
  have HK := Lib.hid hk
  have HB := Lib.hid hbits
  clear hM hn hk hbits
  unfold maxLen at hl
  go_enter Tryd.func20, Tryd.ntmps20
  go_wp2_with fail
  refine (bits_any _ _).mono ?_
  rintro e w1 ⟨rfl, rfl⟩
  rw [HB.out]
  have hq : ((8 * n : Nat) : Int) / 8 = (n : Int) := by omega
  go_wp2
  have hnew : Bits w (w.alloc (.cells (madeCells #[.int .u8 0] n) 5)) n (setOf (bls (ks.take 0)) (8 * n)) :=
    ⟨(World.rowIs_made w (.int .u8 0) n 5).congr (fun j _ => rfl), (Below.refl _ _).alloc (Nat.le_refl _) _⟩
  go_loopw [6, 8, 17] (fun _ _ c wr => ∃ k : Nat, k ≤ ks.length ∧ c = .int .i64 k ∧ Bits w wr n (setOf (bls (ks.take k)) (8 * n))) (fun _ _ c _ => ks.length - (intOf c).toNat)
  case atStart => exact ⟨0, by omega, rfl, hnew⟩
  case round =>
    clear hnew hmk
    obtain ⟨k, hk, rfl, hrow⟩ := hrel
    by_cases hlt : k < ks.length
    · have hkr := HK.out.below hrow.below HK.out.lt
      have c0 := hkr.cell k hlt
      have hsz := hkr.size k hlt
      have hnr := HN.out.below hrow.below
      have hsn := take_snoc' ks k hlt
      generalize ks.getD k ByteArray.empty = key at *
      have HS := Lib.hid hsn
      have HZ := Lib.hid hsz
      have HNR := Lib.hid hnr
      clear hsn hsz hnr hkr
      go_wp2_with fail
      rw [show (8 * (n : Int)) = ((8 * n : Nat) : Int) by omega]
      refine (places_some key (8 * n) _ HZ.out HNR.out (by omega) (by omega)).mono ?_
      rintro e w1 ⟨v, rfl, hv, hbel⟩
      obtain ⟨g, cap2, hg1, hg2, rfl, hc⟩ := placesAt hv (by omega) (by omega)
      have hgB : g ≠ w.heap.size := by have := hrow.row.lt; omega
      have hin : Bits w w1 n (fun i => setOf (bls (ks.take k)) (8 * n) i || ((List.range 0).map (plc (bl key) (8 * n))).contains i) := (hrow.later hbel).congr (by simp)
      clear hv
      have HC := Lib.hid hc
      clear hc hrow c0
      rw [show ((8 * n : Nat) : Int) = 8 * (n : Int) by omega]
      go_wp2
      go_loopw [8, 25] (fun _ c wr => ∃ j : Nat, j ≤ 6 ∧ c = .int .i64 j ∧ Bits w wr n (fun i => setOf (bls (ks.take k)) (8 * n) i || ((List.range j).map (plc (bl key) (8 * n))).contains i) ∧
          (∀ i, i < 6 → wr.cell? ⟨g, i, none⟩ = some (.int .i64 (plc (bl key) (8 * n) i : Nat)))) (fun _ c _ => 6 - (intOf c).toNat)
      case atStart => exact ⟨0, by omega, rfl, hin, HC.out⟩
      case round =>
        clear hin HC
        obtain ⟨j, hj, rfl, hrow, hcs⟩ := hrel
        by_cases hlt2 : j < 6
        · have c1 := hcs j hlt2
          have hp := plc_lt (bl key) (8 * n) j (by omega)
          generalize hq : plc (bl key) (8 * n) j = p at *
          generalize hT : (fun i => setOf (bls (ks.take k)) (8 * n) i || ((List.range j).map (plc (bl key) (8 * n))).contains i) = T at *
          have c2 := hrow.row.cell (i := p / 8) (by omega)
          have f2 := hrow.row.frozen (p / 8)
          have hor := u8_shl (byteAt T (p / 8)) p (byteAt_lt _ _)
          have hset := hrow.set p
          rw [← byteAt_or] at hset
          generalize byteAt T (p / 8) = bt at *
          have HQ := Lib.hid hq
          have HT := Lib.hid hT
          have HCS := Lib.hid hcs
          have HSET := Lib.hid hset
          clear hq hT hcs hset
          go_wp2
          go_region
          go_wp2
          go_roundw
          case rel =>
            refine ⟨j + 1, by omega, by go_num, HSET.out.drew.congr (fun i => ?_), fun i hi => ?_⟩
            · rw [← HT.out, List.range_succ, List.map_append, List.map_singleton, HQ.out]
              exact or_snoc _ _ _ _
            · exact (cell_other wr _ _ _ (fun e => hgB e.symm)).trans (HCS.out i hi)
          case measure => simp [intOf]; omega
        · clear hcs
          go_wp2
          go_roundw
          case rel =>
            refine ⟨k + 1, by omega, by go_num, hrow.congr (fun i => ?_)⟩
            rw [HS.out, show bls (ks.take k ++ [key]) = bls (ks.take k) ++ [bl key] by simp [bls], setOf_snoc, places_eq (bl key) (8 * n) (by omega) (by omega), show j = 6 by omega]
          case measure => simp [intOf]; omega
    · have hall : ks.take k = ks := List.take_of_length_le (by omega)
      rw [hall] at hrow
      have hM := HM.out
      generalize hS : setOf (bls ks) (8 * n) = S at *
      clear hS
      have hcv := run_convert_bytes_arg (P := Tryd.prog) (w := wr) 45 5 Tryd.underlying45 Tryd.underlying5 w.heap.size 0 n n ((List.range n).map fun j => (byteAt S j : Int)) (by simp)
        (fun i hi => by rw [Nat.zero_add, hrow.row.cell hi]; simp [hi]) 9 Tryd.underlying9
      have hbel := hrow.below
      have hfin : strOfNums ((List.range n).map fun j => (byteAt S j : Int)) = str (make (bls ks)) := by
        rw [hM, pack_bytes]; exact strOfNums_str _ _
      rw [hfin] at hcv
      clear hM hfin hall hrow
      go_wp2
      go_ret
      exact ⟨rfl, hbel⟩
theorem make_none (ao : Option Addr) (cap : Nat) (w : World) :
    Calls Tryd.prog 20 #[.slice ao 0 cap] w fun e w' => e = .returned (.string (str (make []))) ∧ Below w.heap.size w w' := by
  have hmk := run_make_row' (P := Tryd.prog) 45 5 (.int .u8 0) 1 Tryd.underlying45 info_u8 rfl .i64 .i64 8 (by omega) (by omega)
  have hb : bitsOf 0 = 64 := rfl
  go_enter Tryd.func20, Tryd.ntmps20
  go_wp2_with fail
  refine (bits_any _ _).mono ?_
  rintro e w1 ⟨rfl, rfl⟩
  rw [hb]
  have hnew : Bits w (w.alloc (.cells (madeCells #[.int .u8 0] 8) 5)) 8 (setOf [] 64) :=
    ⟨(World.rowIs_made w (.int .u8 0) 8 5).congr (fun j _ => rfl), (Below.refl _ _).alloc (Nat.le_refl _) _⟩
  have hmk8 : ∀ W : World, Sem.run Tryd.prog (Instr.makeSlice 45 (.int .i64 8) (.int .i64 8)) W = .ok (.slice (some ⟨W.heap.size, 0, none⟩) 8 8) (W.alloc (.cells (madeCells #[.int .u8 0] 8) 5)) := hmk
  clear hmk
  generalize madeCells #[.int .u8 0] 8 = C at *
  go_wp2
  go_loopw [6, 8, 17] (fun _ _ c wr => c = .int .i64 0 ∧ Bits w wr 8 (setOf [] 64)) (fun _ _ _ _ => 0)
  case atStart => exact ⟨rfl, hnew⟩
  case round =>
    clear hnew hmk8
    obtain ⟨rfl, hrow⟩ := hrel
    generalize hS : setOf [] 64 = S at *
    have hcv := run_convert_bytes_arg (P := Tryd.prog) (w := wr) 45 5 Tryd.underlying45 Tryd.underlying5 w.heap.size 0 8 8 ((List.range 8).map fun j => (byteAt S j : Int)) (by simp)
        (fun i hi => by rw [Nat.zero_add, hrow.row.cell hi]; simp [hi]) 9 Tryd.underlying9
    have hbel := hrow.below
    have hfin : strOfNums ((List.range 8).map fun j => (byteAt S j : Int)) = str (make []) := by
      rw [strOfNums_str, ← hS]; rfl
    rw [hfin] at hcv
    clear hfin hrow hS
    go_wp2
    go_ret
    exact ⟨rfl, hbel⟩
/-- Texts as a slice: of none, whatever address. -/
def Strs (w : World) (v : Value) (ks : List ByteArray) : Prop := ∃ ao cap, v = .slice ao ks.length cap ∧ ks.length ≤ maxLen ∧ (ks ≠ [] → ∃ b off, ao = some ⟨b, off, none⟩ ∧ StrsAt w b off ks)
theorem make_any (v : Value) (ks : List ByteArray) (w : World) (hk : Strs w v ks) (hn : Nibs w) :
    Calls Tryd.prog 20 #[v] w fun e w' => e = .returned (.string (str (make (bls ks)))) ∧ Below w.heap.size w w' := by
  obtain ⟨ao, cap, rfl, hl, hk⟩ := hk
  by_cases h : ks = []
  · subst h; exact make_none ao cap w
  · obtain ⟨b, off, rfl, hk2⟩ := hk h
    exact make_some b off cap ks w hk2 hn hl
end Go.Proofs.YtbkdlkhaeidhcaaDoor
