/-
  Texts of the claim, joined: CodecAwake, CrcLaws1, RefMakeW, BloomKeepsW, CrcPatW, CrcTurnW, CrcPieceW, CrcPiece2W, CodecBack2W, RefGroupsW, RefTakeW, RefTake2W.
-/
import Derived.Test.YtdbfaknpfepnfaaGreatDoorMxBK3
import Derived.Test.YtdbfaknpfepnfaaGreatDoorMxBK2
import Derived.Deep.RegionLaw
import Derived.Deep.AppendLies
import Derived.StillTailTactics
import Derived.Laws.BytesArg
import Derived.Deep.RegionWith
set_option maxRecDepth 100000
set_option maxHeartbeats 40000000
namespace Go.Proofs.YtdbfaknpfepnfaaGreatDoor
open Go.RowKit CodecP

theorem st_some {s : ByteArray} {b : Bool} {l : List UInt8} (h : st s b = some l) : b = false ∧ s = str l := by
 unfold st at h
 cases b
 ·rw [if_neg (by simp)] at h
  injection h with h
  exact ⟨rfl, by rw [← h, str_bl]⟩
 ·rw [if_pos rfl] at h; cases h
structure ROwn (w0 w : World) (p : Nat) (o : Option (List UInt8)) : Prop where
 rd : ∃ s b, Rd w p s b ∧ st s b = o
 below : Below w0.heap.size w0 w
 base : w0.heap.size ≤ p
theorem ROwn.step {w0 w w' : World} {p : Nat} {o o' : Option (List UInt8)} (h : ROwn w0 w p o) (k : RdTo w w' p o') : ROwn w0 w' p o' := by
 obtain ⟨s, b, hr, hs, hf⟩ := k
 exact ⟨⟨s, b, hr, hs⟩, h.below.trans (hf.below h.below.size (fun k _ hk => by unfold RdS at hk; rw [hk]; exact h.base)), h.base⟩
theorem ROwn.some {w0 w : World} {p : Nat} {l : List UInt8} (h : ROwn w0 w p (some l)) : Rd w p (str l) false := by
 obtain ⟨s, b, hr, hs⟩ := h.rd
 obtain ⟨rfl, rfl⟩ := st_some hs
 exact hr
theorem ROwn.none {w0 w : World} {p : Nat} (h : ROwn w0 w p none) : ∃ s, Rd w p s true := by
 obtain ⟨s, b, hr, hs⟩ := h.rd
 unfold st at hs
 cases b
 ·cases hs
 ·exact ⟨s, hr⟩
theorem ROwn.new {w0 w w' : World} {p : Nat} {s : ByteArray} (hb : Below w0.heap.size w0 w) (hr : Rd w' p s false) (hb' : Below w.heap.size w w') (hp : w.heap.size ≤ p) : ROwn w0 w' p (Option.some (bl s)) :=
 ⟨⟨s, false, hr, rfl⟩, hb.trans (hb'.mono hb.size), Nat.le_trans hb.size hp⟩
end Go.Proofs.YtdbfaknpfepnfaaGreatDoor


namespace Go.Proofs.YtdbfaknpfepnfaaGreatDoor
open Go.RowKit Go.Deep CrcP CodecP FrameP

theorem fixed_high (k : Nat) : ∀ n, fixed (k + 1) n = UInt8.ofNat (n / 256 ^ k % 256) :: fixed k n := by
 induction k with
 | zero => intro n; simp [fixed]
 | succ k ih =>
  intro n
  rw [fixed, ih, Nat.div_div_eq_div_mul, List.cons_append]
  congr 2
  ·rw [Nat.pow_succ, Nat.mul_comm]
theorem bl_append (a b : ByteArray) : bl (a ++ b) = bl a ++ bl b := by
 unfold bl; simp
theorem str_append (a b : List UInt8) : str a ++ str b = str (a ++ b) := by
 rw [← str_bl (str a ++ str b), bl_append, bl_str, bl_str]

theorem refFixed_any (n size : Nat) (w : World) (h : size ≤ 8) (hn : n < 18446744073709551616) :
    Calls Tryz.prog 63 #[.int .u64 n, .int .i64 size] w fun e w' => e = .returned (.string (str (fixed size n))) ∧ Below w.heap.size w w' := by
  have hb0 := Below.refl w.heap.size w
  go_enter Tryz.func63, Tryz.ntmps63
  go_wp2
  go_loopw [0, 5, 6] (fun x t i wr => ∃ k : Nat, k ≤ size ∧ i = .int .i64 k ∧ x = .int .u64 (n / 256 ^ k : Nat) ∧ t = .string (str (fixed k n)) ∧ Below w.heap.size w wr) (fun _ _ i _ => size - (intOf i).toNat)
  case atStart => exact ⟨0, by omega, rfl, by simp, rfl, hb0⟩
  case round =>
    clear hb0
    obtain ⟨k, hk, rfl, rfl, rfl, hbel⟩ := hrel
    by_cases hlt : k < size
    · have hq : n / 256 ^ k < 18446744073709551616 := Nat.lt_of_le_of_lt (Nat.div_le_self _ _) hn
      have hst := fixed_high k n
      have hdiv : n / 256 ^ (k + 1) = n / 256 ^ k / 256 := by rw [Nat.pow_succ, Nat.div_div_eq_div_mul]
      generalize n / 256 ^ k = q at *
      have HD := Lib.hid hdiv
      have hone : strOfNums [((q : Int) % 256)] = str [UInt8.ofNat (q % 256)] := by
        unfold strOfNums str
        have : ((q : Int) % 256).toNat = q % 256 := by omega
        simp only [List.map_cons, List.map_nil, this]
      have hcv := run_convert_bytes_arg (P := Tryz.prog) (w := wr.alloc (.cells #[.int .u8 ((q : Int) % 256)] 5)) 94 5 Tryz.underlying94 Tryz.underlying5 wr.heap.size 0 1 1 [((q : Int) % 256)] rfl
        (fun i hi => by obtain rfl : i = 0 := by omega
                        simp) 9 Tryz.underlying9
      rw [hone] at hcv
      have happ := str_append [UInt8.ofNat (q % 256)] (fixed k n)
      have hbel2 := hbel.alloc hbel.size (.cells #[.int .u8 ((q : Int) % 256)] 5)
      have HST := Lib.hid hst
      have HA := Lib.hid happ
      clear hone hst happ hdiv
      have hsz : (str [UInt8.ofNat (q % 256)]).size + (str (fixed k n)).size ≤ 100 := by rw [str_size, str_size, fixed_length]; simp; omega
      generalize str [UInt8.ofNat (q % 256)] = b at *
      generalize str (fixed k n) = f at *
      go_wp2
      go_roundw
      case rel =>
        refine ⟨k + 1, by omega, by go_num, by rw [HD.out]; go_num, ?_, hbel2⟩
        rw [HST.out, ← List.singleton_append, ← HA.out]
      case measure => simp [intOf]; omega
    · obtain rfl : k = size := by omega
      go_wp2
      go_ret
      exact ⟨rfl, hbel⟩
theorem refFrame_str (s : ByteArray) : str (fixed 4 s.size) ++ str (laid (fixed 4 s.size)) ++ s ++ str (laid (bl s)) = str (frame (bl s)) := by
 conv => lhs; rw [← str_bl s]
 rw [str_append, str_append, str_append]
 rw [bl_str]
 rfl
theorem refFrame_any (s : ByteArray) (w : World) (h : s.size ≤ 131072) :
  Calls Tryz.prog 71 #[.string s] w fun e w' => e = .returned (.string (str (frame (bl s)))) ∧ Below w.heap.size w w' := by
 have hfin := refFrame_str s
 have hsm : s.size ≤ maxLen := small _ (by omega)
 have HS := Lib.hid hsm
 have z1 : (str (fixed 4 s.size)).size = 4 := by rw [str_size, fixed_length]
 have z2 : (str (laid (fixed 4 s.size))).size = 4 := by rw [str_size, laid_length]
 have z3 : (str (laid (bl s))).size = 4 := by rw [str_size, laid_length]
 have hbs : laid (bl (str (fixed 4 s.size))) = laid (fixed 4 s.size) := by rw [bl_str]
 have HB := Lib.hid hbs
 have R1 := fun W => refFixed_any s.size 4 W (by omega) (by omega)
 have R2 := fun W => refLaid_any (str (fixed 4 s.size)) W (small _ (by omega))
 rw [hbs] at R2
 have R3 := fun W => refLaid_any s W hsm
 have HR1 := Lib.hid R1
 have HR2 := Lib.hid R2
 have HR3 := Lib.hid R3
 have y1 : (str (fixed 4 s.size)).size + (str (laid (fixed 4 s.size))).size ≤ 100 := by omega
 have y2 : (str (fixed 4 s.size) ++ str (laid (fixed 4 s.size))).size + s.size ≤ 1000000 := by rw [ByteArray.size_append]; omega
 have y3 : (str (fixed 4 s.size) ++ str (laid (fixed 4 s.size)) ++ s).size + (str (laid (bl s))).size ≤ 1000000 := by rw [ByteArray.size_append, ByteArray.size_append]; omega
 clear R1 R2 R3 z1 z2 z3 hbs hsm HB
 rw [← hfin]
 clear hfin
 generalize str (fixed 4 s.size) = f1 at *
 generalize str (laid (fixed 4 s.size)) = f2 at *
 generalize str (laid (bl s)) = f3 at *
 go_enter Tryz.func71, Tryz.ntmps71
 go_wp2_with fail
 refine (HR1.out _).mono ?_
 rintro e w1 ⟨rfl, hb1⟩
 go_wp2_with fail
 refine (HR2.out _).mono ?_
 rintro e w2 ⟨rfl, hb2⟩
 go_wp2_with fail
 refine (HR3.out _).mono ?_
 rintro e w3 ⟨rfl, hb3⟩
 have hbel := (hb1.trans (hb2.mono hb1.size)).trans (hb3.mono (Nat.le_trans hb1.size hb2.size))
 clear hb1 hb2 hb3
 go_wp2
 go_ret
 exact ⟨rfl, hbel⟩

end Go.Proofs.YtdbfaknpfepnfaaGreatDoor


namespace Go.Proofs.YtdbfaknpfepnfaaGreatDoor
open Go.RowKit Go.Deep CrcP BloomP

theorem info_bool : (Tryz.prog.info? 4).map (fun i => (i.zero, i.size, i.bytes)) = some (some (.bool false), 1, 1) := by kernel_rfl
structure Set (w0 w : World) (m : Nat) (S : Nat → Bool) : Prop where
 row : w.rowIs w0.heap.size 4 m (fun j => .bool (S j))
 below : Below w0.heap.size w0 w
theorem Set.congr {w0 w : World} {n : Nat} {S T : Nat → Bool} (h : Set w0 w n S) (e : ∀ i, S i = T i) : Set w0 w n T :=
 ⟨h.row.congr (fun j _ => by rw [e]), h.below⟩
theorem Set.set {w0 w : World} {n : Nat} {S : Nat → Bool} (h : Set w0 w n S) (p : Nat) : Set w0 (w.setCell ⟨w0.heap.size, p, none⟩ (.bool true)) n (fun i => S i || i == p) :=
  ⟨(h.row.set p _).congr (fun j _ => by
    by_cases e : j = p
    · subst e; simp
    · rw [if_neg e]; have : (j == p) = false := by simpa using e
      rw [this, Bool.or_false]), h.below.setCell (Nat.le_refl _) _⟩
theorem Set.later {w0 w w' : World} {n : Nat} {S : Nat → Bool} (h : Set w0 w n S) (hb : Below w.heap.size w w') : Set w0 w' n S :=
 ⟨h.row.of_block (hb.block _ h.row.lt), h.below.trans (hb.mono h.below.size)⟩

theorem u8_add (bt i nb : Nat) (h : nb = bt + 2 ^ (i % 8)) (hl : nb < 256) : ((bt : Int) + (2 : Int) ^ (i % 8) % 256) % 256 = (nb : Int) := by
 rw [show (2 : Int) ^ (i % 8) = ((2 ^ (i % 8) : Nat) : Int) by simp]
 generalize 2 ^ (i % 8) = q at *
 omega
theorem refMake_any (v : Value) (ks : List ByteArray) (w : World) (hk : Strs w v ks) :
  Calls Tryz.prog 74 #[v] w fun e w' => e = .returned (.string (str (make (bls ks)))) ∧ Below w.heap.size w w' := by
 obtain ⟨ao, cap, rfl, hl, hk⟩ := hk
 obtain ⟨n, hbits, hn1, hn2⟩ := bitsOf_eq ks.length
 have hmk := run_make_row' (P := Tryz.prog) 94 5 (.int .u8 0) 1 Tryz.underlying94 info_u8 rfl .i64 .i64 n (by omega) (by omega)
 have hmk2 := run_make_row' (P := Tryz.prog) 170 4 (.bool false) 1 Tryz.underlying170 info_bool rfl .i64 .i64 (8 * n) (by omega) (by omega)
 have ec : ((8 * n : Nat) : Int) = 8 * (n : Int) := by omega
 rw [ec] at hmk2
 have hM : make (bls ks) = pack (setOf (bls ks) (8 * n)) n := by
  unfold make
  rw [show (bls ks).length = ks.length by simp [bls], hbits, show 8 * n / 8 = n by omega]
 have HM := Lib.hid hM
 have HK := Lib.hid hk
 have HB := Lib.hid hbits
 have HE := Lib.hid ec
 clear hM hk hbits ec
 unfold maxLen at hl
 go_enter Tryz.func74, Tryz.ntmps74
 go_wp2_with fail
 refine (refBits_any _ _).mono ?_
 rintro e w1 ⟨rfl, rfl⟩
 rw [HB.out, HE.out]
 have hq : (8 * (n : Int)) / 8 = (n : Int) := by omega
 go_wp2
 have hnew : Set w (w.alloc (.cells (madeCells #[.bool false] (8 * n)) 4)) (8 * n) (setOf (bls (ks.take 0)) (8 * n)) :=
  ⟨(World.rowIs_made w (.bool false) (8 * n) 4).congr (fun j _ => rfl), (Below.refl _ _).alloc (Nat.le_refl _) _⟩
 go_loopw [5, 6, 7] (fun c _ _ wr => ∃ k : Nat, k ≤ ks.length ∧ c = .int .i64 k ∧ Set w wr (8 * n) (setOf (bls (ks.take k)) (8 * n))) (fun c _ _ _ => ks.length - (intOf c).toNat)
 case atStart => exact ⟨0, by omega, rfl, hnew⟩
 case round =>
  clear hnew hmk2
  obtain ⟨k, hk, rfl, hrow⟩ := hrel
  by_cases hlt : k < ks.length
  ·obtain ⟨b, off, rfl, hks⟩ := HK.out (by intro e; subst e; simp at hlt)
   have hkr := hks.below hrow.below hks.lt
   have c0 := hkr.cell k hlt
   have hsz := hkr.size k hlt
   have hsn := take_snoc' ks k hlt
   generalize ks.getD k ByteArray.empty = key at *
   have HS := Lib.hid hsn
   have HZ := Lib.hid hsz
   clear hsn hsz hkr hks hmk
   go_wp2_with fail
   rw [← HE.out]
   refine (refPlaces_some key (8 * n) _ HZ.out (by omega) (by omega)).mono ?_
   rintro e w1 ⟨v, rfl, hv, hbel⟩
   obtain ⟨g, cap2, hg1, hg2, rfl, hc⟩ := placesAt hv (by omega) (by omega)
   have hgB : g ≠ w.heap.size := by have := hrow.row.lt; omega
   have hin : Set w w1 (8 * n) (fun i => setOf (bls (ks.take k)) (8 * n) i || ((List.range 0).map (plc (bl key) (8 * n))).contains i) := (hrow.later hbel).congr (by simp)
   clear hv
   have HC := Lib.hid hc
   clear hc hrow c0
   rw [HE.out]
   go_wp2
   go_loopw [7] (fun c wr => ∃ j : Nat, j ≤ 6 ∧ c = .int .i64 j ∧ Set w wr (8 * n) (fun i => setOf (bls (ks.take k)) (8 * n) i || ((List.range j).map (plc (bl key) (8 * n))).contains i) ∧
     (∀ i, i < 6 → wr.cell? ⟨g, i, none⟩ = some (.int .i64 (plc (bl key) (8 * n) i : Nat)))) (fun c _ => 6 - (intOf c).toNat)
   case atStart => exact ⟨0, by omega, rfl, hin, HC.out⟩
   case round =>
    clear hin HC
    obtain ⟨j, hj, rfl, hrow, hcs⟩ := hrel
    by_cases hlt2 : j < 6
    ·have c1 := hcs j hlt2
     have hp := plc_lt (bl key) (8 * n) j (by omega)
     generalize hq : plc (bl key) (8 * n) j = p at *
     generalize hT : (fun i => setOf (bls (ks.take k)) (8 * n) i || ((List.range j).map (plc (bl key) (8 * n))).contains i) = T at *
     have c2 := hrow.row.cell (i := p) (by omega)
     have f2 := hrow.row.frozen p
     have hset := hrow.set p
     have HQ := Lib.hid hq
     have HT := Lib.hid hT
     have HCS := Lib.hid hcs
     have HSET := Lib.hid hset
     clear hq hT hcs hset
     go_wp2
     go_roundw
     case rel =>
      refine ⟨j + 1, by omega, by go_num, HSET.out.congr (fun i => ?_), fun i hi => ?_⟩
      ·rw [← HT.out, List.range_succ, List.map_append, List.map_singleton, HQ.out]
       exact or_snoc _ _ _ _
      ·exact (World.cell?_setCell_other _ _ _ _ (fun e => hgB (congrArg Addr.block e).symm)).trans (HCS.out i hi)
     case measure => simp [intOf]; omega
    ·clear hcs
     go_wp2
     go_roundw
     case rel =>
      refine ⟨k + 1, by omega, by go_num, hrow.congr (fun i => ?_)⟩
      rw [HS.out, show bls (ks.take k ++ [key]) = bls (ks.take k) ++ [bl key] by simp [bls], setOf_snoc, places_eq (bl key) (8 * n) (by omega) (by omega), show j = 6 by omega]
     case measure => simp [intOf]; omega
  ·have hall : ks.take k = ks := List.take_of_length_le (by omega)
   rw [hall] at hrow
   have hM := HM.out
   generalize hS : setOf (bls ks) (8 * n) = S at *
   have HM2 := Lib.hid hM
   clear hS HM hM hall
   go_wp2
   have hnew : Bits wr (wr.alloc (.cells (madeCells #[.int .u8 0] n) 5)) n (upto S 0) :=
    ⟨(World.rowIs_made wr (.int .u8 0) n 5).congr (fun j _ => by rw [upto_zero]; rfl), (Below.refl _ _).alloc (Nat.le_refl _) _⟩
   obtain ⟨wm, hwm⟩ : ∃ wm : World, wm = wr := ⟨_, rfl⟩
   rw [← hwm] at hnew hrow ⊢
   clear hwm
   go_loopw [9] (fun c wr => ∃ i : Nat, i ≤ 8 * n ∧ c = .int .i64 i ∧ Bits wm wr n (upto S i)) (fun c _ => 8 * n - (intOf c).toNat)
   case atStart => exact ⟨0, by omega, rfl, hnew⟩
   case round =>
    clear hnew hmk
    obtain ⟨i, hi, rfl, hb⟩ := hrel
    have hrow' := hrow.later hb.below
    by_cases hlt2 : i < 8 * n
    ·have c1 := hrow'.row.cell hlt2
     have c2 := hb.row.cell (i := i / 8) (by omega)
     have f2 := hb.row.frozen (i / 8)
     have hst := upto_step S i
     have hoth := upto_other S i
     have hl2 := byteAt_lt (upto S (i + 1)) (i / 8)
     cases hSi : S i
     ·rw [hSi] at c1 hst
      have hB : Bits wm wr n (upto S (i + 1)) := ⟨hb.row.congr (fun j _ => by
       by_cases e : j = i / 8
       ·subst e; rw [hst]; rfl
       ·rw [hoth j e]), hb.below⟩
      have HO := Lib.hid hB
      clear hst hoth hSi hB
      go_wp2
      go_roundw
      case rel => exact ⟨i + 1, by omega, by go_num, HO.out⟩
      case measure => simp [intOf]; omega
     ·rw [hSi] at c1 hst
      have hB : Bits wm (wr.setCell ⟨wm.heap.size, i / 8, none⟩ (.int .u8 (byteAt (upto S (i + 1)) (i / 8) : Nat))) n (upto S (i + 1)) := ⟨(hb.row.set (i / 8) _).congr (fun j _ => by
       by_cases e : j = i / 8
       ·subst e; rw [if_pos rfl]
       ·rw [if_neg e, hoth j e]), hb.below.setCell (Nat.le_refl _) _⟩
      rw [if_pos rfl] at hst
      generalize byteAt (upto S (i + 1)) (i / 8) = nb at *
      generalize byteAt (upto S i) (i / 8) = bt at *
      have hadd := u8_add bt i nb hst hl2
      have HO := Lib.hid hB
      clear hst hoth hSi hB
      go_wp2
      go_region
      go_wp2
      go_roundw
      case rel => exact ⟨i + 1, by omega, by go_num, HO.out.drew⟩
      case measure => simp [intOf]; omega
    ·have hS8 : Bits wm wr n S := ⟨hb.row.congr (fun j hj => by rw [show i = 8 * n by omega, upto_all S n j hj]), hb.below⟩
     have hcv := run_convert_bytes_arg (P := Tryz.prog) (w := wr) 94 5 Tryz.underlying94 Tryz.underlying5 wm.heap.size 0 n n ((List.range n).map fun j => (byteAt S j : Int)) (by simp)
      (fun i hi => by rw [Nat.zero_add, hS8.row.cell hi]; simp [hi]) 9 Tryz.underlying9
     have hfin : strOfNums ((List.range n).map fun j => (byteAt S j : Int)) = str (make (bls ks)) := by
      rw [HM2.out, pack_bytes]; exact strOfNums_str _ _
     rw [hfin] at hcv
     have hbel := hrow'.below
     clear hfin hS8 hb
     go_wp2
     go_ret
     exact ⟨rfl, hbel⟩
end Go.Proofs.YtdbfaknpfepnfaaGreatDoor


namespace Go.Proofs.YtdbfaknpfepnfaaGreatDoor
open Go.RowKit Go.Deep CrcP BloomP

theorem turn_by (by_ : Int) (n : Nat) (h : 0 < n) (h2 : n ≤ 4611686018427387904) : ∃ t : Nat, t < n ∧ wrap64 ((IntKind.u64.wrap by_).tmod (n : Int)) = (t : Int) := by
 rw [IntKind.wrap_u64]
 have h0 : 0 ≤ by_ % 18446744073709551616 := Int.emod_nonneg _ (by decide)
 rw [Int.tmod_eq_emod_of_nonneg h0]
 have h1 := Int.emod_nonneg (by_ % 18446744073709551616) (show (n : Int) ≠ 0 by omega)
 have h3 := Int.emod_lt_of_pos (by_ % 18446744073709551616) (show (0 : Int) < n by omega)
 refine ⟨(by_ % 18446744073709551616 % (n : Int)).toNat, by omega, ?_⟩
 rw [IntWalk.wrap64_in _ ⟨by omega, by omega⟩]
 omega
end Go.Proofs.YtdbfaknpfepnfaaGreatDoor


namespace Go.Proofs.YtdbfaknpfepnfaaGreatDoor
open Go.RowKit Go.Deep CrcP CodecP FrameP

structure BRow (w0 w : World) (B : Nat) (l : List UInt8) : Prop where
 cell : ∀ j, j < l.length → w.cell? ⟨B, j, none⟩ = some (.int .u8 ((l.getD j 0).toNat : Int))
 free : ∀ j, j < l.length → w.frozen? ⟨B, j, none⟩ = false
 below : Below w0.heap.size w0 w
 base : w0.heap.size ≤ B
theorem BRow.new {w0 w : World} (hb : Below w0.heap.size w0 w) (s : ByteArray) : BRow w0 (Lib.bytesWorld w 5 s) w.heap.size (bl s) :=
 ⟨fun j hj => Lib.bytesWorld_cell w _ s j hj, fun j hj => by
  have h1 : j < (Lib.bytesCells w 5 s).size := by
   unfold Lib.bytesCells
   have : (bl s).length = s.data.size := by simp [bl]
   rw [Array.size_append, Array.size_map]; omega
  simp only [World.frozen?, Lib.bytesWorld_at_new]
  generalize (Lib.bytesCells w 5 s).size = C at *
  simp; omega,
  ⟨hb.os, hb.tape, hb.output, Nat.le_trans hb.size (by rw [Lib.bytesWorld_size]; omega), fun k hk => (Lib.bytesWorld_at_old w _ s k (Nat.lt_of_lt_of_le hk hb.size)).trans (hb.block k hk)⟩, hb.size⟩
theorem BRow.set {w0 w : World} {B : Nat} {l : List UInt8} (h : BRow w0 w B l) (j : Nat) (hj : j < l.length) (b : UInt8) : BRow w0 (w.setCell ⟨B, j, none⟩ (.int .u8 (b.toNat : Int))) B (l.set j b) :=
 ⟨fun i hi => by
  rw [List.length_set] at hi
  by_cases e : i = j
  ·subst e
   rw [World.cell?_setCell_same _ _ _ (h.cell i hi)]
   simp [hi]
  ·rw [World.cell?_setCell_other _ _ _ _ (by intro he; injection he with _ he; exact e he.symm), h.cell i hi]
   simp [List.getD_eq_getElem?_getD, List.getElem?_set_ne (Ne.symm e)],
  fun i hi => by rw [World.frozen?_setCell]; exact h.free i (by simpa using hi),
  h.below.setCell h.base _, h.base⟩
theorem BRow.drew {w0 w : World} {B : Nat} {l : List UInt8} (h : BRow w0 w B l) : BRow w0 w.drew B l := ⟨h.cell, h.free, h.below.drew, h.base⟩
theorem BRow.text {w0 w : World} {B : Nat} {l : List UInt8} (h : BRow w0 w B l) (cap : Nat) : (convert 94 9 (.slice (some ⟨B, 0, none⟩) l.length cap)).run Tryz.prog w = .ok (.string (str l)) w :=
 run_convert_bytes_back w 94 9 5 ⟨B, 0, none⟩ cap l Tryz.underlying94 Tryz.underlying5 Tryz.underlying9 (fun j hj => by
  rw [Go.WideShapes.add_plain, Nat.zero_add, h.cell j hj]
  simp [hj])

theorem xorL_get (a : List UInt8) : ∀ (b : List UInt8) (j : Nat), j < a.length → j < b.length → (xorL a b).getD j 0 = a.getD j 0 ^^^ b.getD j 0 := by
 induction a with
 | nil => intro b j h; simp at h
 | cons x a ih =>
  intro b j h1 h2
  cases b with
  | nil => simp at h2
  | cons y b =>
   cases j with
   | zero => rfl
   | succ j =>
    have := ih b j (by simpa using h1) (by simpa using h2)
    simpa [xorL] using this
theorem xorL_length (a : List UInt8) : ∀ b : List UInt8, a.length = b.length → (xorL a b).length = a.length := by
 induction a with
 | nil => intro b h; cases b <;> simp_all [xorL]
 | cons x a ih => intro b h; cases b with
  | nil => simp at h
  | cons y b => simp [xorL, ih b (by simpa using h)]
def TurnedTo (l : List UInt8) (k d : Nat) (m : List UInt8) : Prop := m.length = l.length ∧ ∀ j, j < l.length → m.getD j 0 = if k ≤ j ∧ j < k + d then l.getD j 0 ^^^ 0xa5 else l.getD j 0
theorem TurnedTo.eq {l m : List UInt8} {k d : Nat} (h : TurnedTo l k d m) (hk : k + d ≤ l.length) : m = turnA5 l k d := by
 have hl : (List.replicate k (0 : UInt8) ++ List.replicate d 0xa5 ++ List.replicate (l.length - k - d) 0).length = l.length := by simp; omega
 apply List.ext_getElem?
 intro j
 by_cases hj : j < l.length
 ·have h1 := h.2 j hj
  have h2 := xorL_get l _ j hj (by rw [hl]; exact hj)
  have e1 : m[j]? = some (m.getD j 0) := by rw [List.getD_eq_getElem?_getD, List.getElem?_eq_getElem (by rw [h.1]; exact hj)]; simp
  have hl2 : j < (turnA5 l k d).length := by unfold turnA5; rw [xorL_length _ _ hl.symm]; exact hj
  have e2 : (turnA5 l k d)[j]? = some ((turnA5 l k d).getD j 0) := by rw [List.getD_eq_getElem?_getD, List.getElem?_eq_getElem hl2]; simp
  rw [e1, e2]
  congr 1
  unfold turnA5
  rw [h1, h2]
  simp only [List.getD_eq_getElem?_getD, List.getElem?_append, List.length_append, List.length_replicate, List.getElem?_replicate]
  by_cases a1 : j < k
  ·simp [a1, show j < k + d by omega, show ¬ k ≤ j by omega]
  ·by_cases a2 : j < k + d
   ·simp [a1, a2, show k ≤ j by omega, show j - k < d by omega]
   ·simp [a2, show j - (k + d) < l.length - k - d by omega]
 ·rw [List.getElem?_eq_none (by rw [h.1]; omega), List.getElem?_eq_none (by unfold turnA5; rw [xorL_length _ _ hl.symm]; omega)]
theorem TurnedTo.start (l : List UInt8) (k : Nat) : TurnedTo l k 0 l := ⟨rfl, fun j _ => by rw [if_neg (by omega)]⟩
theorem TurnedTo.step {l m : List UInt8} {k d : Nat} (h : TurnedTo l k d m) (hk : k + d < l.length) : TurnedTo l k (d + 1) (m.set (k + d) (m.getD (k + d) 0 ^^^ 0xa5)) := by
 refine ⟨by rw [List.length_set, h.1], fun j hj => ?_⟩
 have h1 := h.2 j hj
 by_cases e : j = k + d
 ·subst e
  rw [if_neg (by omega)] at h1
  rw [if_pos (by omega), ← h1]
  simp [List.getD_eq_getElem?_getD, h.1, hk]
 ·have : (m.set (k + d) (m.getD (k + d) 0 ^^^ 0xa5)).getD j 0 = m.getD j 0 := by
   simp [List.getD_eq_getElem?_getD, List.getElem?_set_ne (Ne.symm e)]
  rw [this, h1]
  by_cases a : k ≤ j ∧ j < k + d
  ·rw [if_pos a, if_pos (by omega)]
  ·rw [if_neg a, if_neg (by omega)]
end Go.Proofs.YtdbfaknpfepnfaaGreatDoor


namespace Go.Proofs.YtdbfaknpfepnfaaGreatDoor
open Go.RowKit Go.Deep CrcP CodecP FrameP

theorem xor_pow (x n : Nat) (h : x < 2 ^ n) : x ^^^ 2 ^ n = x + 2 ^ n := by
 apply Nat.eq_of_testBit_eq
 intro i
 rw [Nat.testBit_xor, Nat.testBit_two_pow, Nat.add_comm]
 by_cases e : n = i
 ·subst e
  rw [Nat.testBit_two_pow_add_eq, Nat.testBit_lt_two_pow h]; simp
 ·by_cases h2 : i < n
  ·rw [Nat.testBit_two_pow_add_gt h2]; simp [e]
  ·have h3 : 2 ^ n + x < 2 ^ i := by
    have : 2 ^ (n + 1) ≤ 2 ^ i := Nat.pow_le_pow_right (by omega) (by omega)
    rw [Nat.pow_succ] at this; omega
   have h4 : x < 2 ^ i := by omega
   rw [Nat.testBit_lt_two_pow h3, Nat.testBit_lt_two_pow h4]; simp [e]
theorem xorNum_getD (l : List UInt8) : ∀ X j, j < l.length → (xorNum l X).getD j 0 = l.getD j 0 ^^^ UInt8.ofNat (X / 256 ^ j % 256) := by
 induction l with
 | nil => intro X j h; simp at h
 | cons c l ih =>
  intro X j h
  cases j with
  | zero => simp [xorNum]
  | succ j =>
   have := ih (X / 256) j (by simpa using h)
   rw [Nat.div_div_eq_div_mul, Nat.mul_comm 256, ← Nat.pow_succ] at this
   simpa [xorNum] using this
theorem xorNum_set (l : List UInt8) (X j t : Nat) (ht : t < 8) : (xorNum l X).set j ((xorNum l X).getD j 0 ^^^ UInt8.ofNat (2 ^ t)) = xorNum l (X ^^^ 2 ^ (8 * j + t)) := by
 apply List.ext_getElem?
 intro i
 by_cases hi : i < l.length
 ·have e1 : ∀ m : List UInt8, m.length = l.length → m[i]? = some (m.getD i 0) := by
   intro m hm; rw [List.getD_eq_getElem?_getD, List.getElem?_eq_getElem (by omega)]; simp
  rw [e1 _ (by rw [List.length_set, xorNum_length]), e1 _ (xorNum_length _ _)]
  congr 1
  have hpow : 256 ^ i = 2 ^ (8 * i) := by rw [Nat.pow_mul]
  rw [xorNum_getD _ _ _ hi, hpow, Nat.xor_div_two_pow, ofNat8_xor]
  by_cases e : i = j
  ·subst e
   have : ((xorNum l X).set i ((xorNum l X).getD i 0 ^^^ UInt8.ofNat (2 ^ t))).getD i 0 = (xorNum l X).getD i 0 ^^^ UInt8.ofNat (2 ^ t) := by
    simp [List.getD_eq_getElem?_getD, xorNum_length, hi]
   rw [this, xorNum_getD _ _ _ hi, hpow, UInt8.xor_assoc]
   congr 2
   have h2 : 2 ^ (8 * i + t) / 2 ^ (8 * i) = 2 ^ t := by rw [Nat.pow_add, Nat.mul_div_cancel_left _ (Nat.two_pow_pos _)]
   rw [h2, Nat.mod_eq_of_lt]
   have : 2 ^ t ≤ 2 ^ 7 := Nat.pow_le_pow_right (by omega) (by omega)
   omega
  ·have : ((xorNum l X).set j ((xorNum l X).getD j 0 ^^^ UInt8.ofNat (2 ^ t))).getD i 0 = (xorNum l X).getD i 0 := by
    simp [List.getD_eq_getElem?_getD, List.getElem?_set_ne (Ne.symm e)]
   rw [this, xorNum_getD _ _ _ hi, hpow]
   have hz : 2 ^ (8 * j + t) / 2 ^ (8 * i) % 256 = 0 := by
    rcases Nat.lt_or_ge i j with h | h
    ·have : 2 ^ (8 * j + t) = 2 ^ (8 * i) * (2 ^ (8 * (j - i - 1) + t) * 256) := by
      rw [show (256 : Nat) = 2 ^ 8 from rfl, ← Nat.pow_add, ← Nat.pow_add]; congr 1; omega
     rw [this, Nat.mul_div_cancel_left _ (Nat.two_pow_pos _), Nat.mul_mod_left]
    ·have : 2 ^ (8 * j + t) < 2 ^ (8 * i) := Nat.pow_lt_pow_right (by omega) (by omega)
     rw [Nat.div_eq_of_lt this]
   rw [hz]; simp
 ·rw [List.getElem?_eq_none (by rw [List.length_set, xorNum_length]; omega), List.getElem?_eq_none (by rw [xorNum_length]; omega)]
def turnTo (l : List UInt8) (k b i : Nat) : List UInt8 := xorNum l (2 ^ k * (b % 2 ^ i))
theorem turnTo_zero (l : List UInt8) (k b : Nat) : turnTo l k b 0 = l := by unfold turnTo; rw [Nat.pow_zero, Nat.mod_one, Nat.mul_zero, xorNum_zero]
theorem mod_succ (b i : Nat) : b % 2 ^ (i + 1) = b % 2 ^ i + 2 ^ i * (b / 2 ^ i % 2) := by
 rw [Nat.pow_succ, Nat.mod_mul]
theorem turnTo_yes (l : List UInt8) (k b i : Nat) (h : b / 2 ^ i % 2 = 1) : turnTo l k b (i + 1) = (turnTo l k b i).set ((k + i) / 8) ((turnTo l k b i).getD ((k + i) / 8) 0 ^^^ UInt8.ofNat (2 ^ ((k + i) % 8))) := by
 unfold turnTo
 rw [xorNum_set _ _ _ _ (by omega), mod_succ, h, Nat.mul_one]
 congr 1
 have e : 8 * ((k + i) / 8) + (k + i) % 8 = k + i := by omega
 rw [e, Nat.mul_add, ← Nat.pow_add]
 refine (xor_pow _ _ ?_).symm
 rw [Nat.pow_add]
 exact Nat.mul_lt_mul_of_pos_left (Nat.mod_lt _ (Nat.two_pow_pos _)) (Nat.two_pow_pos _)
def turned (l : List UInt8) (k b : Nat) : List UInt8 := xorNum l (2 ^ k * b)
theorem xor_shl (c : UInt8) (t : Nat) (ht : t < 8) : bits .xor .u8 (c.toNat : Int) ((2 : Int) ^ t % 256) = ((c ^^^ UInt8.ofNat (2 ^ t)).toNat : Int) := by
 have := c.toNat_lt
 have h : 2 ^ t < 256 := by
  have : 2 ^ t ≤ 2 ^ 7 := Nat.pow_le_pow_right (by omega) (by omega)
  omega
 have e : (2 : Int) ^ t % 256 = ((2 ^ t : Nat) : Int) := by
  rw [show (2 : Int) ^ t = ((2 ^ t : Nat) : Int) by simp]
  generalize 2 ^ t = q at *
  omega
 rw [e, u8_xor_nat _ _ (by omega) h, UInt8.toNat_xor, UInt8.toNat_ofNat', Nat.mod_eq_of_lt h]
end Go.Proofs.YtdbfaknpfepnfaaGreatDoor


namespace Go.Proofs.YtdbfaknpfepnfaaGreatDoor
open Go.RowKit Go.Deep CrcP CodecP FrameP

def MixTo (a b c : List UInt8) (n i : Nat) (m : List UInt8) : Prop := m.length = n ∧ ∀ j, j < n → m.getD j 0 = if j < i then a.getD j 0 ^^^ b.getD j 0 ^^^ c.getD j 0 else a.getD j 0
theorem getD_take (l : List UInt8) (n j : Nat) (h : j < n) : (l.take n).getD j 0 = l.getD j 0 := by
 simp [List.getD_eq_getElem?_getD, h]
theorem MixTo.start (a b c : List UInt8) (n : Nat) (h : n ≤ a.length) : MixTo a b c n 0 (a.take n) :=
 ⟨by rw [List.length_take]; omega, fun j hj => by rw [if_neg (by omega), getD_take _ _ _ hj]⟩
theorem MixTo.step {a b c m : List UInt8} {n i : Nat} (h : MixTo a b c n i m) (hi : i < n) : MixTo a b c n (i + 1) (m.set i (a.getD i 0 ^^^ b.getD i 0 ^^^ c.getD i 0)) := by
 refine ⟨by rw [List.length_set, h.1], fun j hj => ?_⟩
 by_cases e : j = i
 ·subst e
  rw [if_pos (by omega)]
  simp [List.getD_eq_getElem?_getD, h.1, hi]
 ·have : (m.set i (a.getD i 0 ^^^ b.getD i 0 ^^^ c.getD i 0)).getD j 0 = m.getD j 0 := by
   simp [List.getD_eq_getElem?_getD, List.getElem?_set_ne (Ne.symm e)]
  rw [this, h.2 j hj]
  by_cases a1 : j < i
  ·rw [if_pos a1, if_pos (by omega)]
  ·rw [if_neg a1, if_neg (by omega)]
theorem MixTo.eq {a b c m : List UInt8} {n : Nat} (h : MixTo a b c n n m) (ha : n ≤ a.length) (hb : n ≤ b.length) (hc : n ≤ c.length) : m = xorL (xorL (a.take n) (b.take n)) (c.take n) := by
 have la : (a.take n).length = n := by rw [List.length_take]; omega
 have lb : (b.take n).length = n := by rw [List.length_take]; omega
 have lc : (c.take n).length = n := by rw [List.length_take]; omega
 have l1 : (xorL (a.take n) (b.take n)).length = n := by rw [xorL_length _ _ (by rw [la, lb]), la]
 have l2 : (xorL (xorL (a.take n) (b.take n)) (c.take n)).length = n := by rw [xorL_length _ _ (by rw [l1, lc]), l1]
 apply List.ext_getElem?
 intro j
 by_cases hj : j < n
 ·have h1 := h.2 j hj
  rw [if_pos hj] at h1
  have e1 : m[j]? = some (m.getD j 0) := by rw [List.getD_eq_getElem?_getD, List.getElem?_eq_getElem (by rw [h.1]; exact hj)]; simp
  have e2 : (xorL (xorL (a.take n) (b.take n)) (c.take n))[j]? = some ((xorL (xorL (a.take n) (b.take n)) (c.take n)).getD j 0) := by rw [List.getD_eq_getElem?_getD, List.getElem?_eq_getElem (by rw [l2]; exact hj)]; simp
  rw [e1, e2, h1, xorL_get _ _ j (by rw [l1]; exact hj) (by rw [lc]; exact hj), xorL_get _ _ j (by rw [la]; exact hj) (by rw [lb]; exact hj), getD_take _ _ _ hj, getD_take _ _ _ hj, getD_take _ _ _ hj]
 ·rw [List.getElem?_eq_none (by rw [h.1]; omega), List.getElem?_eq_none (by rw [l2]; omega)]
theorem getD_bl (s : ByteArray) (i : Nat) (h : i < s.size) : (bl s).getD i 0 = s[i] := by
 have : i < (bl s).length := h
 rw [List.getD_eq_getElem?_getD, List.getElem?_eq_getElem this]
 rfl
end Go.Proofs.YtdbfaknpfepnfaaGreatDoor


namespace Go.Proofs.YtdbfaknpfepnfaaGreatDoor
open Go.RowKit Go.Deep CrcP CodecP FrameP

theorem bl_take (a : ByteArray) (n : Nat) : bl (a.extract 0 n) = (bl a).take n := by rw [ext_bl]; simp
end Go.Proofs.YtdbfaknpfepnfaaGreatDoor


namespace Go.Proofs.YtdbfaknpfepnfaaGreatDoor
open Go.RowKit CodecP

theorem grp_pos (n : Nat) : 1 ≤ (grp n).length := by unfold grp groups; split <;> simp
end Go.Proofs.YtdbfaknpfepnfaaGreatDoor


namespace Go.Proofs.YtdbfaknpfepnfaaGreatDoor
open Go.RowKit CodecP

theorem one_str (x : Nat) : strOfNums [(x : Int)] = str [UInt8.ofNat x] := by
 unfold strOfNums str
 simp only [List.map_cons, List.map_nil, Int.toNat_natCast]
theorem conv_one (W : World) (x : Nat) : (convert 94 9 (.slice (some ⟨W.heap.size, 0, none⟩) 1 1)).run Tryz.prog (W.alloc (.cells #[.int .u8 (x : Int)] 5)) = .ok (.string (str [UInt8.ofNat x])) (W.alloc (.cells #[.int .u8 (x : Int)] 5)) := by
  have hcv := run_convert_bytes_arg (P := Tryz.prog) (w := W.alloc (.cells #[.int .u8 (x : Int)] 5)) 94 5 Tryz.underlying94 Tryz.underlying5 W.heap.size 0 1 1 [(x : Int)] rfl
    (fun i hi => by obtain rfl : i = 0 := by omega
                    simp) 9 Tryz.underlying9
  rw [one_str] at hcv
  exact hcv
theorem conv_mid {W w1 : World} {x : Nat} (hb : Below (W.alloc (.cells #[.int .u8 (x : Int)] 5)).heap.size (W.alloc (.cells #[.int .u8 (x : Int)] 5)) w1) : (convert 94 9 (.slice (some ⟨W.heap.size, 0, none⟩) 1 1)).run Tryz.prog w1 = .ok (.string (str [UInt8.ofNat x])) w1 := by
 have hcv := run_convert_bytes_arg (P := Tryz.prog) (w := w1) 94 5 Tryz.underlying94 Tryz.underlying5 W.heap.size 0 1 1 [(x : Int)] rfl
  (fun i hi => by
   obtain rfl : i = 0 := by omega
   rw [Nat.zero_add, hb.cell (p := ⟨W.heap.size, 0, none⟩) (by show W.heap.size < (W.heap.push _).size; simp)]
   simp) 9 Tryz.underlying9
 rw [one_str] at hcv
 exact hcv
theorem conv_oneD (W : World) (x : Nat) : (convert 94 9 (.slice (some ⟨W.heap.size, 0, none⟩) 1 1)).run Tryz.prog (W.alloc (.cells #[.int .u8 (x : Int)] 5)).drew = .ok (.string (str [UInt8.ofNat x])) (W.alloc (.cells #[.int .u8 (x : Int)] 5)).drew := conv_one W.drew x
theorem conv_midD {W w1 : World} {x : Nat} (hb : Below (W.alloc (.cells #[.int .u8 (x : Int)] 5)).drew.heap.size (W.alloc (.cells #[.int .u8 (x : Int)] 5)).drew w1) : (convert 94 9 (.slice (some ⟨W.heap.size, 0, none⟩) 1 1)).run Tryz.prog w1 = .ok (.string (str [UInt8.ofNat x])) w1 := conv_mid (W := W.drew) hb
theorem belA {W w1 : World} {o : Obj} (hb : Below (W.alloc o).drew.heap.size (W.alloc o).drew w1) : Below W.heap.size W w1 :=
 have h0 : Below W.heap.size W (W.alloc o).drew := ((Below.refl W.heap.size W).alloc (Nat.le_refl _) o).drew
 h0.trans (hb.mono h0.size)
theorem belB {W w1 : World} (hb : Below W.drew.heap.size W.drew w1) : Below W.heap.size W w1 := ⟨hb.os, hb.tape, hb.output, hb.size, hb.block⟩
theorem belC {W w1 : World} {o : Obj} (hb : Below W.drew.heap.size W.drew w1) : Below W.heap.size W (w1.alloc o) := (belB hb).alloc (belB hb).size o
theorem refGroups_low (f n : Nat) (w : World) (h : n < 128) :
    Calls Tryz.prog 72 #[.int .u64 n] w fun e w' => e = .returned (.string (str (groups f n))) ∧ Below w.heap.size w w' := by
  rw [groups_low f n h]
  have hcv := run_convert_bytes_arg (P := Tryz.prog) (w := w.alloc (.cells #[.int .u8 (n : Int)] 5)) 94 5 Tryz.underlying94 Tryz.underlying5 w.heap.size 0 1 1 [(n : Int)] rfl
    (fun i hi => by obtain rfl : i = 0 := by omega
                    simp) 9 Tryz.underlying9
  rw [one_str] at hcv
  have q1 : decide ((n : Int) < 128) = true := by rw [decide_eq_true_eq]; omega
  have q2 : (n : Int) % 256 = (n : Int) := by omega
  have hbel := (Below.refl w.heap.size w).alloc (Nat.le_refl _) (.cells #[.int .u8 (n : Int)] 5)
  clear h
  generalize str [UInt8.ofNat n] = S at *
  go_enter Tryz.func72, Tryz.ntmps72
  go_wp2
  go_ret
  exact ⟨rfl, hbel⟩
theorem refGroups_f (f : Nat) : ∀ (n : Nat) (w : World), f ≤ 100000 → n < 18446744073709551616 → n < 2 ^ (7 * f + 1) →
    Calls Tryz.prog 72 #[.int .u64 n] w fun e w' => e = .returned (.string (str (groups f n))) ∧ Below w.heap.size w w' := by
  induction f with
  | zero =>
    intro n w hf hn hm
    exact refGroups_low 0 n w (by have : n < 2 := by simpa using hm
                                  omega)
  | succ f ih =>
    intro n w hf hn hm
    by_cases hlt : n < 128
    · exact refGroups_low (f + 1) n w hlt
    · have hm2 : n / 128 < 2 ^ (7 * f + 1) := by
        rw [Nat.div_lt_iff_lt_mul (by omega)]
        rw [show 7 * (f + 1) + 1 = (7 * f + 1) + 7 by omega, Nat.pow_add] at hm
        exact hm
      have IH := fun W => ih (n / 128) W (by omega) (by omega) hm2
      have hcv := fun W => conv_one W (n % 128 + 128)
      have q1 : decide ((n : Int) < 128) = false := by rw [decide_eq_false_iff_not]; omega
      have hap := str_append [UInt8.ofNat (n % 128 + 128)] (groups f (n / 128))
      rw [List.singleton_append, ← groups_high f n hlt] at hap
      have hsz : (str [UInt8.ofNat (n % 128 + 128)]).size + (str (groups f (n / 128))).size ≤ 1000000 := by
        rw [str_size, str_size]
        have := groups_length f (n / 128)
        simp only [List.length_singleton]; omega
      have HIH := Lib.hid IH
      have HAP := Lib.hid hap
      have ht1 : (n : Int).tmod 128 = ((n % 128 : Nat) : Int) := by rw [Int.tmod_eq_emod_of_nonneg (by omega)]; omega
      have hw1 : IntKind.u8.wrap ((n % 128 : Nat) : Int) = ((n % 128 : Nat) : Int) := IntWalk.u8_in _ (by omega)
      have hw2 : IntKind.u8.wrap (((n % 128 : Nat) : Int) + 128) = ((n % 128 + 128 : Nat) : Int) := by rw [IntWalk.u8_in _ (by omega)]; omega
      have hw3 : IntKind.u64.wrap ((n : Int) / 128) = ((n / 128 : Nat) : Int) := by rw [IntKind.wrap_u64]; omega
      have hcvd := fun W => conv_oneD W (n % 128 + 128)
      have hbd := Below.refl w.heap.size w
      clear IH ih hm hm2 hlt hap hn
      generalize n % 128 + 128 = y at *
      generalize n % 128 = x at *
      generalize n / 128 = q at *
      have hcat : ¬ 9223372036854775807 < (str [UInt8.ofNat y]).size + (str (groups f q)).size := by omega
      clear hsz
      generalize str (groups f q) = G at *
      go_enter Tryz.func72, Tryz.ntmps72
      go_wp2_with fail
      go_region_with (go_at_call 72; refine (HIH.out _).mono ?_; rintro e w1 ⟨rfl, hb1⟩; first | have hmid := conv_mid hb1 | have hmid := conv_midD hb1 | skip)
      all_goals
        go_wp2
        go_ret
        refine ⟨by rw [← HAP.out]; rfl, ?_⟩
        first | exact belA hb1 | exact belC hb1 | exact belB hb1
theorem refGroups_any (n : Nat) (w : World) (hn : n < 18446744073709551616) :
  Calls Tryz.prog 72 #[.int .u64 n] w fun e w' => e = .returned (.string (str (grp n))) ∧ Below w.heap.size w w' :=
 refGroups_f 9 n w (by decide) hn (by simpa using hn)
end Go.Proofs.YtdbfaknpfepnfaaGreatDoor


namespace Go.Proofs.YtdbfaknpfepnfaaGreatDoor
open Go.RowKit CodecP

def lowv : List UInt8 → Nat
 | [] => 0
 | c :: l => c.toNat % 128 + 128 * lowv l
theorem lowv_groups (f : Nat) : ∀ n, n < 2 ^ (7 * f + 1) → lowv (groups f n) = n := by
  induction f with
  | zero => intro n h; have : n < 2 := by simpa using h
            simp only [groups, lowv, UInt8.toNat_ofNat']; omega
  | succ f ih =>
    intro n h
    by_cases hlt : n < 128
    · rw [groups_low _ _ hlt]; simp only [lowv, UInt8.toNat_ofNat']; omega
    · rw [groups_high _ _ hlt]
      have hm2 : n / 128 < 2 ^ (7 * f + 1) := by
        rw [Nat.div_lt_iff_lt_mul (by omega)]
        rw [show 7 * (f + 1) + 1 = (7 * f + 1) + 7 by omega, Nat.pow_add] at h
        exact h
      simp only [lowv, UInt8.toNat_ofNat', ih _ hm2]; omega
theorem groups_form (f : Nat) : ∀ n, n < 2 ^ (7 * f + 1) → ∃ l c, groups f n = l ++ [c] ∧ (∀ x ∈ l, 128 ≤ x.toNat) ∧ c.toNat < 128 ∧ l.length ≤ f := by
  induction f with
  | zero => intro n h; have : n < 2 := by simpa using h
            exact ⟨[], UInt8.ofNat n, rfl, by simp, by rw [UInt8.toNat_ofNat']; omega, by simp⟩
  | succ f ih =>
    intro n h
    by_cases hlt : n < 128
    · exact ⟨[], UInt8.ofNat n, by rw [groups_low _ _ hlt]; rfl, by simp, by rw [UInt8.toNat_ofNat']; omega, by simp⟩
    · have hm2 : n / 128 < 2 ^ (7 * f + 1) := by
        rw [Nat.div_lt_iff_lt_mul (by omega)]
        rw [show 7 * (f + 1) + 1 = (7 * f + 1) + 7 by omega, Nat.pow_add] at h
        exact h
      obtain ⟨l, c, e, h1, h2, h3⟩ := ih _ hm2
      refine ⟨UInt8.ofNat (n % 128 + 128) :: l, c, by rw [groups_high _ _ hlt, e]; rfl, ?_, h2, by simpa using h3⟩
      intro x hx
      rcases List.mem_cons.1 hx with rfl | hx
      · rw [UInt8.toNat_ofNat']; omega
      · exact h1 x hx
def takeR (l : List UInt8) : Nat × Nat := match tk 0 l with
 | none => (0, 0)
 | some (n, r) => (n, l.length - r.length)
theorem takeR_at (l : List UInt8) (k : Nat) (hk : k < 10) (hkl : k < l.length) (hb : ∀ j, j < k → 128 ≤ (l.getD j 0).toNat) (he : (l.getD k 0).toNat < 128 ∨ k = 9) :
  takeR l = if grp (lowv (l.take (k + 1)) % 18446744073709551616) = l.take (k + 1) then (lowv (l.take (k + 1)) % 18446744073709551616, k + 1) else (0, 0) := by
 by_cases hg : grp (lowv (l.take (k + 1)) % 18446744073709551616) = l.take (k + 1)
 ·rw [if_pos hg]
  have h1 := tk_grp (lowv (l.take (k + 1)) % 18446744073709551616) (l.drop (k + 1)) (Nat.mod_lt _ (by omega))
  rw [hg, List.take_append_drop] at h1
  unfold takeR
  rw [h1]
  simp only [List.length_drop]
  congr 1
  omega
 ·rw [if_neg hg]
  unfold takeR
  cases ht : tk 0 l with
  | none => rfl
  | some y =>
   exfalso
   obtain ⟨m, r⟩ := y
   obtain ⟨e, hm⟩ := grp_tk m _ _ ht
   obtain ⟨q, c, eq, h1, h2, h3⟩ := groups_form 9 m hm
   have eg : grp m = q ++ [c] := eq
   have hlen : (grp m).length = q.length + 1 := by rw [eg]; simp
   have hqk : q.length = k := by
    rcases Nat.lt_trichotomy q.length k with h | h | h
    ·have := hb q.length h
     rw [e, eg] at this
     simp at this; omega
    ·exact h
    ·rcases he with he | he
     ·have hkq : l.getD k 0 = q.getD k 0 := by
       rw [e, eg, List.append_assoc, List.getD_eq_getElem?_getD, List.getD_eq_getElem?_getD, List.getElem?_append_left h]
      have : q.getD k 0 ∈ q := by
       rw [List.getD_eq_getElem?_getD, List.getElem?_eq_getElem h]; simp
      have := h1 _ this
      rw [← hkq] at this; omega
     ·omega
   have htk : l.take (k + 1) = grp m := by rw [e]; exact List.take_left' (by rw [hlen, hqk])
   apply hg
   rw [htk]
   have hl : lowv (grp m) = m := lowv_groups 9 m hm
   rw [hl, Nat.mod_eq_of_lt hm]
theorem takeR_out (l : List UInt8) (hb : ∀ j, j < l.length → 128 ≤ (l.getD j 0).toNat) : takeR l = (0, 0) := by
 unfold takeR
 cases ht : tk 0 l with
 | none => rfl
 | some y =>
  exfalso
  obtain ⟨m, r⟩ := y
  obtain ⟨e, hm⟩ := grp_tk m _ _ ht
  obtain ⟨q, c, eq, h1, h2, h3⟩ := groups_form 9 m hm
  have eg : grp m = q ++ [c] := eq
  have := hb q.length (by rw [e, eg]; simp)
  rw [e, eg] at this
  simp at this; omega
end Go.Proofs.YtdbfaknpfepnfaaGreatDoor


namespace Go.Proofs.YtdbfaknpfepnfaaGreatDoor
open Go.RowKit CodecP

theorem lowv_drop (l : List UInt8) (k i : Nat) (hi : i < k) (hk : k ≤ l.length) : lowv ((l.take k).drop i) = (l.getD i 0).toNat % 128 + 128 * lowv ((l.take k).drop (i + 1)) := by
 have h : i < (l.take k).length := by rw [List.length_take]; omega
 rw [List.drop_eq_getElem_cons h, lowv]
 congr 3
 rw [List.getElem_take, List.getD_eq_getElem?_getD, List.getElem?_eq_getElem (by omega)]; rfl
theorem refTake_any (s : ByteArray) (w : World) (hs : s.size ≤ maxLen) :
  Calls Tryz.prog 139 #[.string s] w fun e w' => e = .returned (.tuple #[.int .u64 ((takeR (bl s)).1 : Nat), .int .i64 ((takeR (bl s)).2 : Nat)]) ∧ Below w.heap.size w w' := by
 unfold maxLen at hs
 have hbel0 := Below.refl w.heap.size w
 go_enter Tryz.func139, Tryz.ntmps139
 go_wp2
 go_loopw [4] (fun c wr => ∃ k : Nat, k ≤ 9 ∧ k ≤ s.size ∧ c = .int .i64 ((k : Int) + 1) ∧ (∀ j, j < k → 128 ≤ ((bl s).getD j 0).toNat) ∧ wr = w) (fun c _ => 10 - (intOf c).toNat)
 case atStart => exact ⟨0, by omega, by omega, rfl, fun j hj => by omega, rfl⟩
 case round =>
  obtain ⟨k, hk9, hks, rfl, hj, rfl⟩ := hrel
  have HJ := Lib.hid hj
  have g1 : (k : Int) + 1 ≤ 10 := by omega
  clear hj
  by_cases hlt : k < s.size
  ·have g2 : (k : Int) + 1 ≤ (s.size : Int) := by omega
   have hgd := getD_bl s k hlt
   obtain ⟨x, hx⟩ : ∃ x, x = (s[k]).toNat := ⟨_, rfl⟩
   have hx' : ((s[k]).toNat : Int) = (x : Int) := by rw [hx]
   have HX := Lib.hid hx
   have HGD := Lib.hid hgd
   have hxl : x < 256 := by rw [hx]; exact (s[k]).toNat_lt
   clear hx hgd
   by_cases hc : 128 ≤ x ∧ k < 9
   ·have q1 : decide ((128 : Int) ≤ (x : Int)) = true := by rw [decide_eq_true_eq]; omega
    have q2 : decide ((k : Int) + 1 < 10) = true := by rw [decide_eq_true_eq]; omega
    have hst : ∀ j, j < k + 1 → 128 ≤ ((bl s).getD j 0).toNat := fun j hj => by
     rcases Nat.lt_or_eq_of_le (Nat.le_of_lt_succ hj) with h | h
     ·exact HJ.out j h
     ·rw [h, HGD.out, ← HX.out]; exact hc.1
    have HST := Lib.hid hst
    have hk8 := hc.2
    clear hst hc
    go_wp2
    go_roundw
    case rel => exact ⟨k + 1, by omega, by omega, by push_cast; rfl, HST.out, by first | trivial | rfl⟩
    case measure => simp [intOf]; omega
   ·have hta := takeR_at (bl s) k (by omega) hlt HJ.out (by rw [HGD.out, ← HX.out]; omega)
    have HTA := Lib.hid hta
    clear hta
    have hcase : (decide ((128 : Int) ≤ (x : Int)) = true ∧ decide ((k : Int) + 1 < 10) = false) ∨ (decide ((128 : Int) ≤ (x : Int)) = false ∧ True) := by
     by_cases hx128 : 128 ≤ x
     ·exact .inl ⟨by rw [decide_eq_true_eq]; omega, by rw [decide_eq_false_iff_not]; omega⟩
     ·exact .inr ⟨by rw [decide_eq_false_iff_not]; omega, trivial⟩
    clear hc
    have hdr0 : lowv (((bl s).take (k + 1)).drop (k + 1)) % 18446744073709551616 = 0 := by
     rw [List.drop_of_length_le (by rw [List.length_take]; omega)]; rfl
    have HDR0 := Lib.hid hdr0
    clear hdr0
    rcases hcase with ⟨q1, q2⟩ | ⟨q1, _⟩
    all_goals
     go_wp2
     go_loopw [5, 6] (fun n i wr2 => ∃ m : Nat, m ≤ k + 1 ∧ i = .int .i64 ((m : Int) - 1) ∧ n = .int .u64 ((lowv (((bl s).take (k + 1)).drop m) % 18446744073709551616 : Nat) : Int) ∧ wr2 = wr) (fun _ i _ => (intOf i + 1).toNat)
     case atStart => exact ⟨k + 1, by omega, by go_num, by rw [HDR0.out]; rfl, rfl⟩
     case round =>
      obtain ⟨m, hm, rfl, rfl, rfl⟩ := hrel
      by_cases hm0 : m = 0
      ·subst hm0
       rw [List.drop_zero]
       have hN : lowv ((bl s).take (k + 1)) % 18446744073709551616 < 18446744073709551616 := Nat.mod_lt _ (by omega)
       have HG := Lib.hid (fun W => refGroups_any (lowv ((bl s).take (k + 1)) % 18446744073709551616) W hN)
       have hcmp := ne_str (str (grp (lowv ((bl s).take (k + 1)) % 18446744073709551616))) (s.extract 0 (k + 1))
       rw [bl_str, bl_take] at hcmp
       have HNN := Lib.hid hN
       clear hN
       generalize lowv ((bl s).take (k + 1)) % 18446744073709551616 = N at *
       have g3 : ((k + 1 : Nat) : Int) ≤ (s.size : Int) := by omega
       by_cases hg : grp N = (bl s).take (k + 1)
       ·have hta := HTA.out
        rw [if_pos hg] at hta
        have HT := Lib.hid hta
        have r1 : ((str (grp N)).toList == (s.extract 0 (k + 1)).toList) = true := by rw [hcmp]; simp [hg]
        have r2 : ((str (grp N)).toList != (s.extract 0 (k + 1)).toList) = false := by rw [bne, r1]; rfl
        clear hg hcmp HTA hta
        generalize str (grp N) = GS at *
        go_wp2_with fail
        go_region_with (go_at_call 72; refine (HG.out _).mono ?_; rintro e w1 ⟨rfl, hb1⟩)
        all_goals
         go_wp2
         go_ret2
         exact ⟨by rw [HT.out]; rfl, belB hb1⟩
       ·have hta := HTA.out
        rw [if_neg hg] at hta
        have HT := Lib.hid hta
        have r1 : ((str (grp N)).toList == (s.extract 0 (k + 1)).toList) = false := by rw [hcmp]; simp [hg]
        have r2 : ((str (grp N)).toList != (s.extract 0 (k + 1)).toList) = true := by rw [bne, r1]; rfl
        clear hg hcmp HTA hta
        generalize str (grp N) = GS at *
        go_wp2_with fail
        go_region_with (go_at_call 72; refine (HG.out _).mono ?_; rintro e w1 ⟨rfl, hb1⟩)
        all_goals
         go_wp2
         go_ret2
         exact ⟨by rw [HT.out]; rfl, belB hb1⟩
      ·obtain ⟨i, rfl⟩ : ∃ i, m = i + 1 := ⟨m - 1, by omega⟩
       have hil : i < s.size := by omega
       have hld := lowv_drop (bl s) (k + 1) i (by omega) hlt
       rw [getD_bl s i hil] at hld
       obtain ⟨y, hy⟩ : ∃ y, y = (s[i]).toNat := ⟨_, rfl⟩
       have hy' : ((s[i]).toNat : Int) = (y : Int) := by rw [hy]
       have hyl : y < 256 := by rw [hy]; exact (s[i]).toNat_lt
       rw [← hy] at hld
       generalize lowv (((bl s).take (k + 1)).drop (i + 1)) = V at *
       have hnew : IntKind.u64.wrap (IntKind.u64.wrap (128 * ((V % 18446744073709551616 : Nat) : Int)) + ((y % 128 : Nat) : Int)) = ((lowv (((bl s).take (k + 1)).drop i) % 18446744073709551616 : Nat) : Int) := by
        rw [hld, IntKind.wrap_u64, IntKind.wrap_u64]; omega
       have HLD := Lib.hid hld
       have HNEW := Lib.hid hnew
       clear hld hnew hy
       have g4 : (0 : Int) ≤ (i : Int) := by omega
       have g5 : (i : Int) < (s.size : Int) := by omega
       go_wp2
       go_roundw
       case rel =>
        refine ⟨i, by omega, by go_num, ?_, by first | trivial | rfl⟩
        rw [← HNEW.out, show ((V % 18446744073709551616 : Nat) : Int) = (V : Int) % 18446744073709551616 by omega, show ((y % 128 : Nat) : Int) = (y : Int) % 128 by omega]
       case measure => simp [intOf]
  ·obtain rfl : k = s.size := by omega
   have hto := takeR_out (bl s) HJ.out
   have HTO := Lib.hid hto
   have g2 : ¬ (s.size : Int) + 1 ≤ (s.size : Int) := by omega
   clear hto
   go_wp2
   go_ret2
   exact ⟨by rw [HTO.out]; rfl, hbel0⟩
end Go.Proofs.YtdbfaknpfepnfaaGreatDoor


