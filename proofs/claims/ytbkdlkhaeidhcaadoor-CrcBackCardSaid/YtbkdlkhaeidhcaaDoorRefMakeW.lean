/-
  The walk of the document's own bloom.Make.
-/
import Derived.Test.YtbkdlkhaeidhcaaDoorMakeW
namespace Go.Proofs.YtbkdlkhaeidhcaaDoor
open Go.RowKit Go.Deep CrcP BloomP

theorem info_bool : (Tryd.prog.info? 4).map (fun i => (i.zero, i.size, i.bytes)) = some (some (.bool false), 1, 1) := by kernel_rfl
/-- Bools in a block of the call's own. -/
structure Set (w0 w : World) (m : Nat) (S : Nat → Bool) : Prop where
  row : w.rowIs w0.heap.size 4 m (fun j => .bool (S j))
  below : Below w0.heap.size w0 w
theorem Set.congr {w0 w : World} {n : Nat} {S T : Nat → Bool} (h : Set w0 w n S) (e : ∀ i, S i = T i) : Set w0 w n T :=
  ⟨h.row.congr (fun j _ => by rw [e]), h.below⟩
theorem Set.set {w0 w : World} {n : Nat} {S : Nat → Bool} (h : Set w0 w n S) (p : Nat) : Set w0 (w.setCell ⟨w0.heap.size, p, none⟩ (.bool true)) n (fun i => S i || i == p) :=
  ⟨(h.row.set p _).congr (fun j _ => by
    by_cases e : j = p
    · subst e; simp
    · rw [if_neg e]; have : (j == p) = false := by simpa using e
      rw [this, Bool.or_false]), h.below.setCell (Nat.le_refl _) _⟩
theorem Set.later {w0 w w' : World} {n : Nat} {S : Nat → Bool} (h : Set w0 w n S) (hb : Below w.heap.size w w') : Set w0 w' n S :=
  ⟨h.row.of_block (hb.block _ h.row.lt), h.below.trans (hb.mono h.below.size)⟩

theorem u8_add (bt i nb : Nat) (h : nb = bt + 2 ^ (i % 8)) (hl : nb < 256) : ((bt : Int) + (2 : Int) ^ (i % 8) % 256) % 256 = (nb : Int) := by
  rw [show (2 : Int) ^ (i % 8) = ((2 ^ (i % 8) : Nat) : Int) by simp]
  generalize 2 ^ (i % 8) = q at *
  omega
set_option maxHeartbeats 1000000 in
theorem refMake_any (v : Value) (ks : List ByteArray) (w : World) (hk : Strs w v ks) :
    Calls Tryd.prog 21 #[v] w fun e w' => e = .returned (.string (str (make (bls ks)))) ∧ Below w.heap.size w w' := by
  obtain ⟨ao, cap, rfl, hl, hk⟩ := hk
  obtain ⟨n, hbits, hn1, hn2⟩ := bitsOf_eq ks.length
  have hmk := run_make_row' (P := Tryd.prog) 45 5 (.int .u8 0) 1 Tryd.underlying45 info_u8 rfl .i64 .i64 n (by omega) (by omega)
  have hmk2 := run_make_row' (P := Tryd.prog) 52 4 (.bool false) 1 Tryd.underlying52 info_bool rfl .i64 .i64 (8 * n) (by omega) (by omega)
  have ec : ((8 * n : Nat) : Int) = 8 * (n : Int) := by omega
  rw [ec] at hmk2
  have hM : make (bls ks) = pack (setOf (bls ks) (8 * n)) n := by
    unfold make
    rw [show (bls ks).length = ks.length by simp [bls], hbits, show 8 * n / 8 = n by omega]
  have HM := Lib.hid hM
  have HK := Lib.hid hk
  have HB := Lib.hid hbits
  have HE := Lib.hid ec
  clear hM hk hbits ec
  unfold maxLen at hl
  go_enter Tryd.func21, Tryd.ntmps21
  go_wp2_with fail
  refine (refBits_any _ _).mono ?_
  rintro e w1 ⟨rfl, rfl⟩
  rw [HB.out, HE.out]
  have hq : (8 * (n : Int)) / 8 = (n : Int) := by omega
  go_wp2
  have hnew : Set w (w.alloc (.cells (madeCells #[.bool false] (8 * n)) 4)) (8 * n) (setOf (bls (ks.take 0)) (8 * n)) :=
    ⟨(World.rowIs_made w (.bool false) (8 * n) 4).congr (fun j _ => rfl), (Below.refl _ _).alloc (Nat.le_refl _) _⟩
  go_loopw [5, 6, 7] (fun c _ _ wr => ∃ k : Nat, k ≤ ks.length ∧ c = .int .i64 k ∧ Set w wr (8 * n) (setOf (bls (ks.take k)) (8 * n))) (fun c _ _ _ => ks.length - (intOf c).toNat)
  case atStart => exact ⟨0, by omega, rfl, hnew⟩
  case round =>
    clear hnew hmk2
    obtain ⟨k, hk, rfl, hrow⟩ := hrel
    by_cases hlt : k < ks.length
    · obtain ⟨b, off, rfl, hks⟩ := HK.out (by intro e; subst e; simp at hlt)
      have hkr := hks.below hrow.below hks.lt
      have c0 := hkr.cell k hlt
      have hsz := hkr.size k hlt
      have hsn := take_snoc' ks k hlt
      generalize ks.getD k ByteArray.empty = key at *
      have HS := Lib.hid hsn
      have HZ := Lib.hid hsz
      clear hsn hsz hkr hks hmk
      go_wp2_with fail
      rw [← HE.out]
      refine (refPlaces_some key (8 * n) _ HZ.out (by omega) (by omega)).mono ?_
      rintro e w1 ⟨v, rfl, hv, hbel⟩
      obtain ⟨g, cap2, hg1, hg2, rfl, hc⟩ := placesAt hv (by omega) (by omega)
      have hgB : g ≠ w.heap.size := by have := hrow.row.lt; omega
      have hin : Set w w1 (8 * n) (fun i => setOf (bls (ks.take k)) (8 * n) i || ((List.range 0).map (plc (bl key) (8 * n))).contains i) := (hrow.later hbel).congr (by simp)
      clear hv
      have HC := Lib.hid hc
      clear hc hrow c0
      rw [HE.out]
      go_wp2
      go_loopw [7] (fun c wr => ∃ j : Nat, j ≤ 6 ∧ c = .int .i64 j ∧ Set w wr (8 * n) (fun i => setOf (bls (ks.take k)) (8 * n) i || ((List.range j).map (plc (bl key) (8 * n))).contains i) ∧
          (∀ i, i < 6 → wr.cell? ⟨g, i, none⟩ = some (.int .i64 (plc (bl key) (8 * n) i : Nat)))) (fun c _ => 6 - (intOf c).toNat)
      case atStart => exact ⟨0, by omega, rfl, hin, HC.out⟩
      case round =>
        clear hin HC
        obtain ⟨j, hj, rfl, hrow, hcs⟩ := hrel
        by_cases hlt2 : j < 6
        · have c1 := hcs j hlt2
          have hp := plc_lt (bl key) (8 * n) j (by omega)
          generalize hq : plc (bl key) (8 * n) j = p at *
          generalize hT : (fun i => setOf (bls (ks.take k)) (8 * n) i || ((List.range j).map (plc (bl key) (8 * n))).contains i) = T at *
          have c2 := hrow.row.cell (i := p) (by omega)
          have f2 := hrow.row.frozen p
          have hset := hrow.set p
          have HQ := Lib.hid hq
          have HT := Lib.hid hT
          have HCS := Lib.hid hcs
          have HSET := Lib.hid hset
          clear hq hT hcs hset
          go_wp2
          go_roundw
          case rel =>
            refine ⟨j + 1, by omega, by go_num, HSET.out.congr (fun i => ?_), fun i hi => ?_⟩
            · rw [← HT.out, List.range_succ, List.map_append, List.map_singleton, HQ.out]
              exact or_snoc _ _ _ _
            · exact (World.cell?_setCell_other _ _ _ _ (fun e => hgB (congrArg Addr.block e).symm)).trans (HCS.out i hi)
          case measure => simp [intOf]; omega
        · clear hcs
          go_wp2
          go_roundw
          case rel =>
            refine ⟨k + 1, by omega, by go_num, hrow.congr (fun i => ?_)⟩
            rw [HS.out, show bls (ks.take k ++ [key]) = bls (ks.take k) ++ [bl key] by simp [bls], setOf_snoc, places_eq (bl key) (8 * n) (by omega) (by omega), show j = 6 by omega]
          case measure => simp [intOf]; omega
    · have hall : ks.take k = ks := List.take_of_length_le (by omega)
      rw [hall] at hrow
      have hM := HM.out
      generalize hS : setOf (bls ks) (8 * n) = S at *
      have HM2 := Lib.hid hM
      clear hS HM hM hall
      go_wp2
      have hnew : Bits wr (wr.alloc (.cells (madeCells #[.int .u8 0] n) 5)) n (upto S 0) :=
        ⟨(World.rowIs_made wr (.int .u8 0) n 5).congr (fun j _ => by rw [upto_zero]; rfl), (Below.refl _ _).alloc (Nat.le_refl _) _⟩
      obtain ⟨wm, hwm⟩ : ∃ wm : World, wm = wr := ⟨_, rfl⟩
      rw [← hwm] at hnew hrow ⊢
      clear hwm
      go_loopw [9] (fun c wr => ∃ i : Nat, i ≤ 8 * n ∧ c = .int .i64 i ∧ Bits wm wr n (upto S i)) (fun c _ => 8 * n - (intOf c).toNat)
      case atStart => exact ⟨0, by omega, rfl, hnew⟩
      case round =>
        clear hnew hmk
        obtain ⟨i, hi, rfl, hb⟩ := hrel
        have hrow' := hrow.later hb.below
        by_cases hlt2 : i < 8 * n
        · have c1 := hrow'.row.cell hlt2
          have c2 := hb.row.cell (i := i / 8) (by omega)
          have f2 := hb.row.frozen (i / 8)
          have hst := upto_step S i
          have hoth := upto_other S i
          have hl2 := byteAt_lt (upto S (i + 1)) (i / 8)
          cases hSi : S i
          · rw [hSi] at c1 hst
            have hB : Bits wm wr n (upto S (i + 1)) := ⟨hb.row.congr (fun j _ => by
              by_cases e : j = i / 8
              · subst e; rw [hst]; rfl
              · rw [hoth j e]), hb.below⟩
            have HO := Lib.hid hB
            clear hst hoth hSi hB
            go_wp2
            go_roundw
            case rel => exact ⟨i + 1, by omega, by go_num, HO.out⟩
            case measure => simp [intOf]; omega
          · rw [hSi] at c1 hst
            have hB : Bits wm (wr.setCell ⟨wm.heap.size, i / 8, none⟩ (.int .u8 (byteAt (upto S (i + 1)) (i / 8) : Nat))) n (upto S (i + 1)) := ⟨(hb.row.set (i / 8) _).congr (fun j _ => by
              by_cases e : j = i / 8
              · subst e; rw [if_pos rfl]
              · rw [if_neg e, hoth j e]), hb.below.setCell (Nat.le_refl _) _⟩
            rw [if_pos rfl] at hst
            generalize byteAt (upto S (i + 1)) (i / 8) = nb at *
            generalize byteAt (upto S i) (i / 8) = bt at *
            have hadd := u8_add bt i nb hst hl2
            have HO := Lib.hid hB
            clear hst hoth hSi hB
            go_wp2
            go_region
            go_wp2
            go_roundw
            case rel => exact ⟨i + 1, by omega, by go_num, HO.out.drew⟩
            case measure => simp [intOf]; omega
        · have hS8 : Bits wm wr n S := ⟨hb.row.congr (fun j hj => by rw [show i = 8 * n by omega, upto_all S n j hj]), hb.below⟩
          have hcv := run_convert_bytes_arg (P := Tryd.prog) (w := wr) 45 5 Tryd.underlying45 Tryd.underlying5 wm.heap.size 0 n n ((List.range n).map fun j => (byteAt S j : Int)) (by simp)
            (fun i hi => by rw [Nat.zero_add, hS8.row.cell hi]; simp [hi]) 9 Tryd.underlying9
          have hfin : strOfNums ((List.range n).map fun j => (byteAt S j : Int)) = str (make (bls ks)) := by
            rw [HM2.out, pack_bytes]; exact strOfNums_str _ _
          rw [hfin] at hcv
          have hbel := hrow'.below
          clear hfin hS8 hb
          go_wp2
          go_ret
          exact ⟨rfl, hbel⟩
end Go.Proofs.YtbkdlkhaeidhcaaDoor
