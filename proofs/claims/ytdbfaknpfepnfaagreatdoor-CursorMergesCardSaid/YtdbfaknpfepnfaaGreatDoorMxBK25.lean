/-
  Texts of the claim, joined: RefBlkW.
-/
import Derived.Test.YtdbfaknpfepnfaaGreatDoorMxBK23
import Derived.Test.YtdbfaknpfepnfaaGreatDoorMxBK24
import Derived.Test.YtdbfaknpfepnfaaGreatDoorMxBK18
import Derived.Test.YtdbfaknpfepnfaaGreatDoorMxBK8
import Derived.Test.YtdbfaknpfepnfaaGreatDoorMxBK10
import Derived.Deep.RegionHeld3
import Derived.Deep.RegionWith
set_option maxRecDepth 100000
set_option maxHeartbeats 40000000
namespace Go.Proofs.YtdbfaknpfepnfaaGreatDoor
open Go.RowKit CodecP CrcP FrameP

attribute [local go_sem] yl_undef
theorem str_eqR (x y : List UInt8) : ((str x).toList == (str y).toList) = decide (x = y) := by
 by_cases h : x = y
 ·subst h; simp
 ·rw [decide_eq_false h, beq_eq_false_iff_ne]
  intro e
  rw [ByteArray.toList_eq, ByteArray.toList_eq] at e
  exact h (by simpa [str] using e)
def frP (l : List UInt8) (x : Wh) : List UInt8 := (l.drop x.1).take x.2.1
theorem frP_len {l : List UInt8} {x : Wh} (h : x.1 + x.2.1 ≤ l.length) : (frP l x).length = x.2.1 := by
 unfold frP
 rw [List.length_take, List.length_drop]; omega
theorem frmd_part {l : List UInt8} {x : Wh} (h : x.1 + x.2.1 ≤ l.length) : frmd (frP l x) 0 ((frP l x).length : Int) = frmd l (x.1 : Int) ((x.1 : Int) + x.2.1) := by
 unfold frmd
 rw [if_neg (by omega), if_neg (by omega), frP_len h]
 have e1 : ((x.1 : Int) + (x.2.1 : Int) - (x.1 : Int)).toNat = x.2.1 := by omega
 have e2 : ((x.2.1 : Int) - 0).toNat = x.2.1 := by omega
 have e3 : (x.1 : Int).toNat = x.1 := rfl
 have e4 : (0 : Int).toNat = 0 := rfl
 rw [e1, e2, e3, e4, List.drop_zero, List.take_of_length_le (by rw [frP_len h]; exact Nat.le_refl _)]
 rfl
def BlkP (l : List UInt8) (x : Wh) (w : World) (e : Ending) (w' : World) : Prop :=
 Below w.heap.size w w' ∧ ((e = .returned (.tuple #[.slice none 0 0, .bool false]) ∧ ∀ ps, ¬ LoadR l x ps) ∨
  ∃ v ps, e = .returned (.tuple #[v, .bool true]) ∧ LoadR l x ps ∧ w'.ownsRow w.heap.size 40 2 v ps.length (flatR ps))
theorem refBlock_any (l : List UInt8) (L : List Wh) (F : ByteArray) (n : Int) (vl vf : Value) (w : World) (i : Nat) (hi : i < L.length) (hlr : w.ownsRow 0 9 1 vl L.length (ksV (L.map fun x => x.2.2))) (hfr : w.ownsRow 0 9 1 vf L.length (ksV (L.map (frP l)))) (hl : l.length ≤ 100000000) (hx : L[i].1 + L[i].2.1 ≤ l.length) (hk : 1 ≤ L[i].2.2.length) (hL : L.length ≤ 1000000) :
  Calls Tryz.prog 140 #[.agg #[.string F, vl, vf, .int .i64 n], .int .i64 i] w (BlkP l L[i] w) := by
 have hba : Below w.heap.size w (w.alloc (.cells #[.string F, vl, vf, .int .i64 n] 147)) := (Below.refl _ w).alloc (Nat.le_refl _) _
 have hp1 : (w.alloc (.cells #[.string F, vl, vf, .int .i64 n] 147)).heap[w.heap.size]? = some (.cells #[.string F, vl, vf, .int .i64 n] 147 (0, 0)) := by
  show (w.heap.push _)[w.heap.size]? = _
  simp
 obtain ⟨gl, cl, rfl, -, hgl, hcl, hml, -⟩ := own_pos hlr (by omega)
 obtain ⟨gf, cf, rfl, -, hgf, hcf, hmf, -⟩ := own_pos hfr (by omega)
 unfold maxLen at hml hmf
 have z1 := hlr.cellAt i (by omega)
 have z2 := hfr.cellAt i (by omega)
 have e1 : (ksV (L.map fun x => x.2.2))[i]? = some (.string (str L[i].2.2)) := by unfold ksV; rw [List.getElem?_map, List.getElem?_map, List.getElem?_eq_getElem hi]; rfl
 have e2 : (ksV (L.map (frP l)))[i]? = some (.string (str (frP l L[i]))) := by unfold ksV; rw [List.getElem?_map, List.getElem?_map, List.getElem?_eq_getElem hi]; rfl
 rw [e1] at z1
 rw [e2] at z2
 generalize hxd : L[i] = x at *
 have hfl := frP_len hx
 have hwh := fun W => refWhole_any (str (frP l x)) 0 ((frP l x).length : Int) W (by rw [str_size]; omega)
 rw [bl_str, frmd_part hx] at hwh
 have hdl := frmd_le l (x.1 : Int) ((x.1 : Int) + x.2.1)
 obtain ⟨⟨D, ok⟩, hd⟩ : ∃ r, frmd l (x.1 : Int) ((x.1 : Int) + x.2.1) = r := ⟨_, rfl⟩
 have hLR : ∀ ps, LoadR l x ps ↔ (D = blk ps ∧ ok = true) ∧ Rise ps ∧ lastK ps = x.2.2 := fun ps => by
  unfold LoadR
  rw [hd, Prod.mk.injEq]
 rw [hd] at hwh hdl
 dsimp only at hwh hdl
 have hop := fun W => refOpenB_any (str D) W (by rw [str_size]; omega)
 have hsz : (str (frP l x)).size = (frP l x).length := str_size _
 obtain ⟨fr, hfrd⟩ : ∃ fr, fr = frP l x := ⟨_, rfl⟩
 obtain ⟨key, hkd⟩ : ∃ key, key = x.2.2 := ⟨_, rfl⟩
 rw [← hfrd] at hwh hfl hsz z2
 clear hfl
 obtain ⟨m, hm⟩ : ∃ m, m = fr.length := ⟨_, rfl⟩
 rw [← hm] at hwh hsz
 clear hm hfrd
 generalize str fr = sfr at *
 rw [← hkd] at hLR hk z1
 have hi' : (i : Int) < (L.length : Int) := by omega
 have HWB := Lib.hid (fun W (hW : Below w.heap.size w W) => show W.cell? ⟨gl, i, none⟩ = some (.string (str key)) ∧ W.cell? ⟨gf, i, none⟩ = some (.string sfr) from ⟨(hW.cell (p := ⟨gl, i, none⟩) hgl).trans z1, (hW.cell (p := ⟨gf, i, none⟩) hgf).trans z2⟩)
 have HWH := Lib.hid hwh
 have HOP := Lib.hid hop
 have HLR := Lib.hid hLR
 have HBA := Lib.hid hba
 have HP1 := Lib.hid hp1
 have HKL := Lib.hid hk
 clear hlr hfr z1 z2 e1 e2 hwh hop hLR hba hp1 hd hkd hx hxd hk
 go_enter Tryz.func140, Tryz.ntmps140
 go_upto_region 1 with (fail)
 generalize w.alloc (.cells #[.string F, .slice (some ⟨gl, 0, none⟩) L.length cl, .slice (some ⟨gf, 0, none⟩) L.length cf, .int .i64 n] 147) = wa at *
 have hsa : w.heap.size ≤ wa.heap.size := HBA.out.size
 generalize hbx : w.heap.size = bx at *
 have HBX := Lib.hid hbx
 have HSA := Lib.hid hsa
 clear hbx hsa
 have hpx : wa.heap[bx]? = some (.cells #[.string F, .slice (some ⟨gl, 0, none⟩) L.length cl, .slice (some ⟨gf, 0, none⟩) L.length cf, .int .i64 n] 147 (0, 0)) := HP1.out
 have HPX := Lib.hid hpx
 have p2 : wa.drew.cell? ⟨bx, 2, none⟩ = some (.slice (some ⟨gf, 0, none⟩) L.length cf) := cellOf2 (o := 2) hpx rfl
 have p3 := (HWB.out wa.drew HBA.out.drew).2
 clear hpx
 go_wp2_with fail
 refine wp_region_held_drew (S := (fun w' => w'.cell? ⟨bx, 2, none⟩ = some (.slice (some ⟨gf, 0, none⟩) L.length cf) ∧ w'.cell? ⟨gf, i, none⟩ = some (.string sfr))) (by kernel_rfl) (by (try dsimp only); exact ⟨p2, p3⟩) (fun hHeld => ?_)
 refine takeH (i := 0) (d := some 11) (v := ?_) rfl rfl (by kernel_rfl) (by kernel_rfl) (by kernel_rfl) (fun _ _ _ h => h) (Or.inl ⟨by rfl, ?_⟩) (by assumption) ?_
 rotate_left
 ·intro wS hSw; (try dsimp only at hSw); go_simp; (try (with_reducible rfl))
 simp only [Act.put, zA, zB, zC]
 refine takeH (i := 1) (d := some 12) (v := ?_) rfl rfl (by kernel_rfl) (by kernel_rfl) (by kernel_rfl) (fun _ _ _ h => h) (Or.inl ⟨by rfl, ?_⟩) (by assumption) ?_
 rotate_left
 ·intro wS hSw; (try dsimp only at hSw); go_simp; (try (with_reducible rfl))
 simp only [Act.put, zA, zB, zC]
 refine takeH (i := 2) (d := some 13) (v := ?_) rfl rfl (by kernel_rfl) (by kernel_rfl) (by kernel_rfl) (fun _ _ _ h => h) (Or.inl ⟨by rfl, ?_⟩) (by assumption) ?_
 rotate_left
 ·intro wS hSw; (try dsimp only at hSw); go_simp; (try (with_reducible rfl))
 simp only [Act.put, zA, zB, zC]
 refine takeH (i := 3) (d := some 14) (v := ?_) rfl rfl (by kernel_rfl) (by kernel_rfl) (by kernel_rfl) (fun _ _ _ h => h) (Or.inl ⟨by rfl, ?_⟩) (by assumption) ?_
 rotate_left
 ·intro wS hSw; (try dsimp only at hSw); go_simp; (try (with_reducible rfl))
 simp only [Act.put, zA, zB, zC]
 refine takeH (i := 4) (d := some 15) (v := ?_) rfl rfl (by kernel_rfl) (by kernel_rfl) (by kernel_rfl) (fun _ _ _ h => h) (Or.inl ⟨by rfl, ?_⟩) (by assumption) ?_
 rotate_left
 ·intro wS hSw; (try dsimp only at hSw); go_simp; (try (with_reducible rfl))
 simp only [Act.put, zA, zB, zC]
 refine takeH (i := 5) (d := some 16) (v := ?_) rfl rfl (by kernel_rfl) (by kernel_rfl) (by kernel_rfl) (fun _ _ _ h => h) (Or.inl ⟨by rfl, ?_⟩) (by assumption) ?_
 rotate_left
 ·intro wS hSw; (try dsimp only at hSw); go_simp; (try (with_reducible rfl))
 simp only [Act.put, zA, zB, zC]
 refine takeH (i := 6) (d := some 17) (v := ?_) rfl rfl (by kernel_rfl) (by kernel_rfl) (by kernel_rfl) (fun _ _ _ h => h) (Or.inl ⟨by rfl, ?_⟩) (by assumption) ?_
 rotate_left
 ·intro wS hSw; (try dsimp only at hSw); go_simp; (try (with_reducible rfl))
 simp only [Act.put, zA, zB, zC]
 refine takeH (i := 7) (d := some 18) (v := ?_) rfl rfl (by kernel_rfl) (by kernel_rfl) (by kernel_rfl) (fun _ _ _ h => h) (Or.inl ⟨by rfl, ?_⟩) (by assumption) ?_
 rotate_left
 ·intro wS hSw; (try dsimp only at hSw); go_simp; (try (with_reducible rfl))
 simp only [Act.put, zA, zB, zC]
 refine takeH (i := 8) (d := some 19) (v := ?_) rfl rfl (by kernel_rfl) (by kernel_rfl) (by kernel_rfl) (fun _ _ _ h => h) (Or.inl ⟨by rfl, ?_⟩) (by assumption) ?_
 rotate_left
 ·intro wS hSw; (try dsimp only at hSw); go_simp; (try (with_reducible rfl))
 simp only [Act.put, zA, zB, zC]
 refine takeH (i := 9) (d := some 20) (v := ?_) rfl rfl (by kernel_rfl) (by kernel_rfl) (by kernel_rfl) (fun _ _ _ h => h) (Or.inl ⟨by rfl, ?_⟩) (by assumption) ?_
 rotate_left
 ·intro wS hSw; (try dsimp only at hSw); go_simp; (try (with_reducible rfl))
 simp only [Act.put, zA, zB, zC]
 refine takeH (i := 10) (d := some 21) (v := ?_) rfl rfl (by kernel_rfl) (by kernel_rfl) (by kernel_rfl) (fun _ _ _ h => h) (Or.inl ⟨by rfl, ?_⟩) (by assumption) ?_
 rotate_left
 ·intro wS hSw; (try dsimp only at hSw); go_simp; (try (with_reducible rfl))
 simp only [Act.put, zA, zB, zC]
 refine wpAnyH_ready (rs := [11]) (by kernel_rfl) (by simp) ?_
 refine AllReadyH.cons rfl (fun K hK => ?_) AllReadyH.nil
 go_simp
 refine (HWH.out _).mono ?_
 rintro e w2 ⟨rfl, hb2⟩
 have hb2' := hb2.undrew
 have k2 : w2.cell? ⟨bx, 2, none⟩ = some (.slice (some ⟨gf, 0, none⟩) L.length cf) := cellOf2 (o := 2) ((hb2'.block bx (lt_of_block HPX.out)).trans HPX.out) rfl
 have k3 := (HWB.out w2 (HBA.out.trans (hb2'.mono HSA.out))).2
 have HB2 := Lib.hid hb2'
 clear hb2 hb2'
 go_wp2_with fail
 refine hK.out _ _ (by (try dsimp only); exact ⟨k2, k3⟩) (fun hHeld => ?_)
 clear hK K
 refine takeH (i := 12) (d := some 10) (v := ?_) rfl rfl (by kernel_rfl) (by kernel_rfl) (by kernel_rfl) (fun _ _ _ h => h) (Or.inl ⟨by rfl, ?_⟩) (by assumption) ?_
 rotate_left
 ·intro wS hSw; (try dsimp only at hSw); go_simp; (try (with_reducible rfl))
 simp only [Act.put, zA, zB, zC]
 refine takeH (i := 13) (d := some 23) (v := ?_) rfl rfl (by kernel_rfl) (by kernel_rfl) (by kernel_rfl) (fun _ _ _ h => h) (Or.inl ⟨by rfl, ?_⟩) (by assumption) ?_
 rotate_left
 ·intro wS hSw; (try dsimp only at hSw); go_simp; (try (with_reducible rfl))
 simp only [Act.put, zA, zB, zC]
 refine takeH (i := 14) (d := some 24) (v := ?_) rfl rfl (by kernel_rfl) (by kernel_rfl) (by kernel_rfl) (fun _ _ _ h => h) (Or.inl ⟨by rfl, ?_⟩) (by assumption) ?_
 rotate_left
 ·intro wS hSw; (try dsimp only at hSw); go_simp; (try (with_reducible rfl))
 simp only [Act.put, zA, zB, zC]
 refine takeH (i := 15) (d := some 6) (v := ?_) rfl rfl (by kernel_rfl) (by kernel_rfl) (by kernel_rfl) (fun _ _ _ h => h) (Or.inl ⟨by rfl, ?_⟩) (by assumption) ?_
 rotate_left
 ·intro wS hSw; (try dsimp only at hSw); go_simp; (try (with_reducible rfl))
 simp only [Act.put, zA, zB, zC]
 refine takeH (i := 16) (d := some 7) (v := ?_) rfl rfl (by kernel_rfl) (by kernel_rfl) (by kernel_rfl) (fun _ _ _ h => h) (Or.inl ⟨by rfl, ?_⟩) (by assumption) ?_
 rotate_left
 ·intro wS hSw; (try dsimp only at hSw); go_simp; (try (with_reducible rfl))
 simp only [Act.put, zA, zB, zC]
 refine wpAnyH_done (by kernel_rfl) ?_ _
 clear p2 p3 k2 k3
 go_wp2_with fail
 (with_reducible refine (HOP.out w2).mono ?_)
 rintro e w3 ⟨hb3, hcase⟩
 have hpx3 := (hb3.block bx (Nat.lt_of_lt_of_le (lt_of_block HPX.out) HB2.out.size)).trans ((HB2.out.block bx (lt_of_block HPX.out)).trans HPX.out)
 have HB3 := Lib.hid ((HBA.out.trans (HB2.out.mono HSA.out)).trans (hb3.mono (Nat.le_trans HSA.out HB2.out.size)))
 have a1 : w3.drew.cell? ⟨bx, 1, none⟩ = some (.slice (some ⟨gl, 0, none⟩) L.length cl) := cellOf2 (o := 1) hpx3 rfl
 have a2 := (HWB.out w3.drew HB3.out.drew).1
 have hsz2 : bx ≤ w2.heap.size := Nat.le_trans HSA.out HB2.out.size
 have HS2 := Lib.hid hsz2
 clear hb3 hpx3 hsz2
 cases ok
 case false =>
  have HNO := Lib.hid (fun ps => show ¬ LoadR l x ps from fun h => absurd ((HLR.out ps).1 h).1.2 (by simp))
  rcases hcase with ⟨rfl, -⟩ | ⟨v, ps, rfl, -⟩
  ·go_wp2_with fail
   refine wp_region_held_drew (S := (fun w' => w'.cell? ⟨bx, 1, none⟩ = some (.slice (some ⟨gl, 0, none⟩) L.length cl) ∧ w'.cell? ⟨gl, i, none⟩ = some (.string (str key)))) (by kernel_rfl) (by (try dsimp only); exact ⟨a1, a2⟩) (fun hHeld => ?_)
   refine takeH (i := 0) (d := some 30) (v := ?_) rfl rfl (by kernel_rfl) (by kernel_rfl) (by kernel_rfl) (fun _ _ _ h => h) (Or.inl ⟨by rfl, ?_⟩) (by assumption) ?_
   rotate_left
   ·intro wS hSw; (try dsimp only at hSw); go_simp; (try (with_reducible rfl))
   simp only [Act.put, zA, zB, zC]
   refine takeH (i := 1) (d := some 31) (v := ?_) rfl rfl (by kernel_rfl) (by kernel_rfl) (by kernel_rfl) (fun _ _ _ h => h) (Or.inl ⟨by rfl, ?_⟩) (by assumption) ?_
   rotate_left
   ·intro wS hSw; (try dsimp only at hSw); go_simp; (try (with_reducible rfl))
   simp only [Act.put, zA, zB, zC]
   refine takeH (i := 2) (d := some 32) (v := ?_) rfl rfl (by kernel_rfl) (by kernel_rfl) (by kernel_rfl) (fun _ _ _ h => h) (Or.inl ⟨by rfl, ?_⟩) (by assumption) ?_
   rotate_left
   ·intro wS hSw; (try dsimp only at hSw); go_simp; (try (with_reducible rfl))
   simp only [Act.put, zA, zB, zC]
   refine takeH (i := 3) (d := some 33) (v := undef) rfl rfl (by kernel_rfl) (by kernel_rfl) (by kernel_rfl) (fun _ _ _ h => h) (Or.inr ⟨by rfl, rfl⟩) (by assumption) ?_
   simp only [Act.put, zA, zB, zC]
   refine takeH (i := 4) (d := some 34) (v := undef) rfl rfl (by kernel_rfl) (by kernel_rfl) (by kernel_rfl) (fun _ _ _ h => h) (Or.inr ⟨by rfl, rfl⟩) (by assumption) ?_
   simp only [Act.put, zA, zB, zC]
   refine takeH (i := 5) (d := some 35) (v := ?_) rfl rfl (by kernel_rfl) (by kernel_rfl) (by kernel_rfl) (fun _ _ _ h => h) (Or.inl ⟨by rfl, ?_⟩) (by assumption) ?_
   rotate_left
   ·intro wS hSw; (try dsimp only at hSw); go_simp; (try (with_reducible rfl))
   simp only [Act.put, zA, zB, zC]
   refine takeH (i := 6) (d := some 36) (v := ?_) rfl rfl (by kernel_rfl) (by kernel_rfl) (by kernel_rfl) (fun _ _ _ h => h) (Or.inl ⟨by rfl, ?_⟩) (by assumption) ?_
   rotate_left
   ·intro wS hSw; (try dsimp only at hSw); go_simp; (try (with_reducible rfl))
   simp only [Act.put, zA, zB, zC]
   refine takeH (i := 7) (d := some 37) (v := undef) rfl rfl (by kernel_rfl) (by kernel_rfl) (by kernel_rfl) (fun _ _ _ h => h) (Or.inr ⟨by rfl, rfl⟩) (by assumption) ?_
   simp only [Act.put, zA, zB, zC]
   refine takeH (i := 8) (d := some 38) (v := undef) rfl rfl (by kernel_rfl) (by kernel_rfl) (by kernel_rfl) (fun _ _ _ h => h) (Or.inr ⟨by rfl, rfl⟩) (by assumption) ?_
   simp only [Act.put, zA, zB, zC]
   refine takeH (i := 9) (d := some 39) (v := undef) rfl rfl (by kernel_rfl) (by kernel_rfl) (by kernel_rfl) (fun _ _ _ h => h) (Or.inr ⟨by rfl, rfl⟩) (by assumption) ?_
   simp only [Act.put, zA, zB, zC]
   refine takeH (i := 10) (d := some 40) (v := ?_) rfl rfl (by kernel_rfl) (by kernel_rfl) (by kernel_rfl) (fun _ _ _ h => h) (Or.inl ⟨by rfl, ?_⟩) (by assumption) ?_
   rotate_left
   ·intro wS hSw; (try dsimp only at hSw); go_simp; (try (with_reducible rfl))
   simp only [Act.put, zA, zB, zC]
   refine takeH (i := 11) (d := some 41) (v := ?_) rfl rfl (by kernel_rfl) (by kernel_rfl) (by kernel_rfl) (fun _ _ _ h => h) (Or.inl ⟨by rfl, ?_⟩) (by assumption) ?_
   rotate_left
   ·intro wS hSw; (try dsimp only at hSw); go_simp; (try (with_reducible rfl))
   simp only [Act.put, zA, zB, zC]
   refine takeH (i := 12) (d := some 42) (v := undef) rfl rfl (by kernel_rfl) (by kernel_rfl) (by kernel_rfl) (fun _ _ _ h => h) (Or.inr ⟨by rfl, rfl⟩) (by assumption) ?_
   simp only [Act.put, zA, zB, zC]
   refine takeH (i := 13) (d := some 43) (v := undef) rfl rfl (by kernel_rfl) (by kernel_rfl) (by kernel_rfl) (fun _ _ _ h => h) (Or.inr ⟨by rfl, rfl⟩) (by assumption) ?_
   simp only [Act.put, zA, zB, zC]
   refine takeH (i := 14) (d := some 44) (v := undef) rfl rfl (by kernel_rfl) (by kernel_rfl) (by kernel_rfl) (fun _ _ _ h => h) (Or.inr ⟨by rfl, rfl⟩) (by assumption) ?_
   simp only [Act.put, zA, zB, zC]
   refine takeH (i := 15) (d := some 45) (v := undef) rfl rfl (by kernel_rfl) (by kernel_rfl) (by kernel_rfl) (fun _ _ _ h => h) (Or.inr ⟨by rfl, rfl⟩) (by assumption) ?_
   simp only [Act.put, zA, zB, zC]
   refine takeH (i := 16) (d := some 46) (v := undef) rfl rfl (by kernel_rfl) (by kernel_rfl) (by kernel_rfl) (fun _ _ _ h => h) (Or.inr ⟨by rfl, rfl⟩) (by assumption) ?_
   simp only [Act.put, zA, zB, zC]
   refine takeH (i := 17) (d := some 47) (v := undef) rfl rfl (by kernel_rfl) (by kernel_rfl) (by kernel_rfl) (fun _ _ _ h => h) (Or.inr ⟨by rfl, rfl⟩) (by assumption) ?_
   simp only [Act.put, zA, zB, zC]
   refine takeH (i := 18) (d := some 48) (v := undef) rfl rfl (by kernel_rfl) (by kernel_rfl) (by kernel_rfl) (fun _ _ _ h => h) (Or.inr ⟨by rfl, rfl⟩) (by assumption) ?_
   simp only [Act.put, zA, zB, zC]
   refine takeH (i := 19) (d := some 49) (v := undef) rfl rfl (by kernel_rfl) (by kernel_rfl) (by kernel_rfl) (fun _ _ _ h => h) (Or.inr ⟨by rfl, rfl⟩) (by assumption) ?_
   simp only [Act.put, zA, zB, zC]
   refine takeH (i := 20) (d := some 50) (v := undef) rfl rfl (by kernel_rfl) (by kernel_rfl) (by kernel_rfl) (fun _ _ _ h => h) (Or.inr ⟨by rfl, rfl⟩) (by assumption) ?_
   simp only [Act.put, zA, zB, zC]
   refine takeH (i := 21) (d := some 51) (v := undef) rfl rfl (by kernel_rfl) (by kernel_rfl) (by kernel_rfl) (fun _ _ _ h => h) (Or.inr ⟨by rfl, rfl⟩) (by assumption) ?_
   simp only [Act.put, zA, zB, zC]
   refine takeH (i := 22) (d := some 52) (v := undef) rfl rfl (by kernel_rfl) (by kernel_rfl) (by kernel_rfl) (fun _ _ _ h => h) (Or.inr ⟨by rfl, rfl⟩) (by assumption) ?_
   simp only [Act.put, zA, zB, zC]
   refine takeH (i := 23) (d := some 53) (v := undef) rfl rfl (by kernel_rfl) (by kernel_rfl) (by kernel_rfl) (fun _ _ _ h => h) (Or.inr ⟨by rfl, rfl⟩) (by assumption) ?_
   simp only [Act.put, zA, zB, zC]
   refine takeH (i := 24) (d := some 54) (v := undef) rfl rfl (by kernel_rfl) (by kernel_rfl) (by kernel_rfl) (fun _ _ _ h => h) (Or.inr ⟨by rfl, rfl⟩) (by assumption) ?_
   simp only [Act.put, zA, zB, zC]
   refine takeH (i := 25) (d := some 55) (v := ?_) rfl rfl (by kernel_rfl) (by kernel_rfl) (by kernel_rfl) (fun _ _ _ h => h) (Or.inl ⟨by rfl, ?_⟩) (by assumption) ?_
   rotate_left
   ·intro wS hSw; (try dsimp only at hSw); go_simp; (try (with_reducible rfl))
   simp only [Act.put, zA, zB, zC]
   refine wpAnyH_done (by kernel_rfl) ?_ _
   go_wp2_with fail
   exact bodyPost_ret (v := .tuple #[.slice none 0 0, .bool false]) (by simp [results, Tryz.results140, go_sem]) rfl ⟨by rw [HBX.out]; exact HB3.out.drew, .inl ⟨rfl, HNO.out⟩⟩
  ·go_wp2_with fail
   refine wp_region_held_drew (S := (fun w' => w'.cell? ⟨bx, 1, none⟩ = some (.slice (some ⟨gl, 0, none⟩) L.length cl) ∧ w'.cell? ⟨gl, i, none⟩ = some (.string (str key)))) (by kernel_rfl) (by (try dsimp only); exact ⟨a1, a2⟩) (fun hHeld => ?_)
   refine takeH (i := 0) (d := some 30) (v := ?_) rfl rfl (by kernel_rfl) (by kernel_rfl) (by kernel_rfl) (fun _ _ _ h => h) (Or.inl ⟨by rfl, ?_⟩) (by assumption) ?_
   rotate_left
   ·intro wS hSw; (try dsimp only at hSw); go_simp; (try (with_reducible rfl))
   simp only [Act.put, zA, zB, zC]
   refine takeH (i := 1) (d := some 31) (v := ?_) rfl rfl (by kernel_rfl) (by kernel_rfl) (by kernel_rfl) (fun _ _ _ h => h) (Or.inl ⟨by rfl, ?_⟩) (by assumption) ?_
   rotate_left
   ·intro wS hSw; (try dsimp only at hSw); go_simp; (try (with_reducible rfl))
   simp only [Act.put, zA, zB, zC]
   refine takeH (i := 2) (d := some 32) (v := ?_) rfl rfl (by kernel_rfl) (by kernel_rfl) (by kernel_rfl) (fun _ _ _ h => h) (Or.inl ⟨by rfl, ?_⟩) (by assumption) ?_
   rotate_left
   ·intro wS hSw; (try dsimp only at hSw); go_simp; (try (with_reducible rfl))
   simp only [Act.put, zA, zB, zC]
   refine takeH (i := 3) (d := some 33) (v := undef) rfl rfl (by kernel_rfl) (by kernel_rfl) (by kernel_rfl) (fun _ _ _ h => h) (Or.inr ⟨by rfl, rfl⟩) (by assumption) ?_
   simp only [Act.put, zA, zB, zC]
   refine takeH (i := 4) (d := some 34) (v := undef) rfl rfl (by kernel_rfl) (by kernel_rfl) (by kernel_rfl) (fun _ _ _ h => h) (Or.inr ⟨by rfl, rfl⟩) (by assumption) ?_
   simp only [Act.put, zA, zB, zC]
   refine takeH (i := 5) (d := some 35) (v := ?_) rfl rfl (by kernel_rfl) (by kernel_rfl) (by kernel_rfl) (fun _ _ _ h => h) (Or.inl ⟨by rfl, ?_⟩) (by assumption) ?_
   rotate_left
   ·intro wS hSw; (try dsimp only at hSw); go_simp; (try (with_reducible rfl))
   simp only [Act.put, zA, zB, zC]
   refine takeH (i := 6) (d := some 36) (v := ?_) rfl rfl (by kernel_rfl) (by kernel_rfl) (by kernel_rfl) (fun _ _ _ h => h) (Or.inl ⟨by rfl, ?_⟩) (by assumption) ?_
   rotate_left
   ·intro wS hSw; (try dsimp only at hSw); go_simp; (try (with_reducible rfl))
   simp only [Act.put, zA, zB, zC]
   refine takeH (i := 7) (d := some 37) (v := undef) rfl rfl (by kernel_rfl) (by kernel_rfl) (by kernel_rfl) (fun _ _ _ h => h) (Or.inr ⟨by rfl, rfl⟩) (by assumption) ?_
   simp only [Act.put, zA, zB, zC]
   refine takeH (i := 8) (d := some 38) (v := undef) rfl rfl (by kernel_rfl) (by kernel_rfl) (by kernel_rfl) (fun _ _ _ h => h) (Or.inr ⟨by rfl, rfl⟩) (by assumption) ?_
   simp only [Act.put, zA, zB, zC]
   refine takeH (i := 9) (d := some 39) (v := undef) rfl rfl (by kernel_rfl) (by kernel_rfl) (by kernel_rfl) (fun _ _ _ h => h) (Or.inr ⟨by rfl, rfl⟩) (by assumption) ?_
   simp only [Act.put, zA, zB, zC]
   refine takeH (i := 10) (d := some 40) (v := ?_) rfl rfl (by kernel_rfl) (by kernel_rfl) (by kernel_rfl) (fun _ _ _ h => h) (Or.inl ⟨by rfl, ?_⟩) (by assumption) ?_
   rotate_left
   ·intro wS hSw; (try dsimp only at hSw); go_simp; (try (with_reducible rfl))
   simp only [Act.put, zA, zB, zC]
   refine takeH (i := 11) (d := some 41) (v := ?_) rfl rfl (by kernel_rfl) (by kernel_rfl) (by kernel_rfl) (fun _ _ _ h => h) (Or.inl ⟨by rfl, ?_⟩) (by assumption) ?_
   rotate_left
   ·intro wS hSw; (try dsimp only at hSw); go_simp; (try (with_reducible rfl))
   simp only [Act.put, zA, zB, zC]
   refine takeH (i := 12) (d := some 42) (v := undef) rfl rfl (by kernel_rfl) (by kernel_rfl) (by kernel_rfl) (fun _ _ _ h => h) (Or.inr ⟨by rfl, rfl⟩) (by assumption) ?_
   simp only [Act.put, zA, zB, zC]
   refine takeH (i := 13) (d := some 43) (v := undef) rfl rfl (by kernel_rfl) (by kernel_rfl) (by kernel_rfl) (fun _ _ _ h => h) (Or.inr ⟨by rfl, rfl⟩) (by assumption) ?_
   simp only [Act.put, zA, zB, zC]
   refine takeH (i := 14) (d := some 44) (v := undef) rfl rfl (by kernel_rfl) (by kernel_rfl) (by kernel_rfl) (fun _ _ _ h => h) (Or.inr ⟨by rfl, rfl⟩) (by assumption) ?_
   simp only [Act.put, zA, zB, zC]
   refine takeH (i := 15) (d := some 45) (v := undef) rfl rfl (by kernel_rfl) (by kernel_rfl) (by kernel_rfl) (fun _ _ _ h => h) (Or.inr ⟨by rfl, rfl⟩) (by assumption) ?_
   simp only [Act.put, zA, zB, zC]
   refine takeH (i := 16) (d := some 46) (v := undef) rfl rfl (by kernel_rfl) (by kernel_rfl) (by kernel_rfl) (fun _ _ _ h => h) (Or.inr ⟨by rfl, rfl⟩) (by assumption) ?_
   simp only [Act.put, zA, zB, zC]
   refine takeH (i := 17) (d := some 47) (v := undef) rfl rfl (by kernel_rfl) (by kernel_rfl) (by kernel_rfl) (fun _ _ _ h => h) (Or.inr ⟨by rfl, rfl⟩) (by assumption) ?_
   simp only [Act.put, zA, zB, zC]
   refine takeH (i := 18) (d := some 48) (v := undef) rfl rfl (by kernel_rfl) (by kernel_rfl) (by kernel_rfl) (fun _ _ _ h => h) (Or.inr ⟨by rfl, rfl⟩) (by assumption) ?_
   simp only [Act.put, zA, zB, zC]
   refine takeH (i := 19) (d := some 49) (v := undef) rfl rfl (by kernel_rfl) (by kernel_rfl) (by kernel_rfl) (fun _ _ _ h => h) (Or.inr ⟨by rfl, rfl⟩) (by assumption) ?_
   simp only [Act.put, zA, zB, zC]
   refine takeH (i := 20) (d := some 50) (v := undef) rfl rfl (by kernel_rfl) (by kernel_rfl) (by kernel_rfl) (fun _ _ _ h => h) (Or.inr ⟨by rfl, rfl⟩) (by assumption) ?_
   simp only [Act.put, zA, zB, zC]
   refine takeH (i := 21) (d := some 51) (v := undef) rfl rfl (by kernel_rfl) (by kernel_rfl) (by kernel_rfl) (fun _ _ _ h => h) (Or.inr ⟨by rfl, rfl⟩) (by assumption) ?_
   simp only [Act.put, zA, zB, zC]
   refine takeH (i := 22) (d := some 52) (v := undef) rfl rfl (by kernel_rfl) (by kernel_rfl) (by kernel_rfl) (fun _ _ _ h => h) (Or.inr ⟨by rfl, rfl⟩) (by assumption) ?_
   simp only [Act.put, zA, zB, zC]
   refine takeH (i := 23) (d := some 53) (v := undef) rfl rfl (by kernel_rfl) (by kernel_rfl) (by kernel_rfl) (fun _ _ _ h => h) (Or.inr ⟨by rfl, rfl⟩) (by assumption) ?_
   simp only [Act.put, zA, zB, zC]
   refine takeH (i := 24) (d := some 54) (v := undef) rfl rfl (by kernel_rfl) (by kernel_rfl) (by kernel_rfl) (fun _ _ _ h => h) (Or.inr ⟨by rfl, rfl⟩) (by assumption) ?_
   simp only [Act.put, zA, zB, zC]
   refine takeH (i := 25) (d := some 55) (v := ?_) rfl rfl (by kernel_rfl) (by kernel_rfl) (by kernel_rfl) (fun _ _ _ h => h) (Or.inl ⟨by rfl, ?_⟩) (by assumption) ?_
   rotate_left
   ·intro wS hSw; (try dsimp only at hSw); go_simp; (try (with_reducible rfl))
   simp only [Act.put, zA, zB, zC]
   refine wpAnyH_done (by kernel_rfl) ?_ _
   go_wp2_with fail
   exact bodyPost_ret (v := .tuple #[.slice none 0 0, .bool false]) (by simp [results, Tryz.results140, go_sem]) rfl ⟨by rw [HBX.out]; exact HB3.out.drew, .inl ⟨rfl, HNO.out⟩⟩
 case true =>
  rcases hcase with ⟨rfl, hno⟩ | ⟨v, ps, rfl, hri, hbp, hrow⟩
  ·have HNO := Lib.hid (fun ps => show ¬ LoadR l x ps from fun h => by
    obtain ⟨⟨h1, -⟩, h2, -⟩ := (HLR.out ps).1 h
    exact hno ps h2 (by rw [bl_str]; exact h1))
   clear hno
   go_wp2_with fail
   refine wp_region_held_drew (S := (fun w' => w'.cell? ⟨bx, 1, none⟩ = some (.slice (some ⟨gl, 0, none⟩) L.length cl) ∧ w'.cell? ⟨gl, i, none⟩ = some (.string (str key)))) (by kernel_rfl) (by (try dsimp only); exact ⟨a1, a2⟩) (fun hHeld => ?_)
   refine takeH (i := 0) (d := some 30) (v := ?_) rfl rfl (by kernel_rfl) (by kernel_rfl) (by kernel_rfl) (fun _ _ _ h => h) (Or.inl ⟨by rfl, ?_⟩) (by assumption) ?_
   rotate_left
   ·intro wS hSw; (try dsimp only at hSw); go_simp; (try (with_reducible rfl))
   simp only [Act.put, zA, zB, zC]
   refine takeH (i := 1) (d := some 31) (v := ?_) rfl rfl (by kernel_rfl) (by kernel_rfl) (by kernel_rfl) (fun _ _ _ h => h) (Or.inl ⟨by rfl, ?_⟩) (by assumption) ?_
   rotate_left
   ·intro wS hSw; (try dsimp only at hSw); go_simp; (try (with_reducible rfl))
   simp only [Act.put, zA, zB, zC]
   refine takeH (i := 2) (d := some 32) (v := ?_) rfl rfl (by kernel_rfl) (by kernel_rfl) (by kernel_rfl) (fun _ _ _ h => h) (Or.inl ⟨by rfl, ?_⟩) (by assumption) ?_
   rotate_left
   ·intro wS hSw; (try dsimp only at hSw); go_simp; (try (with_reducible rfl))
   simp only [Act.put, zA, zB, zC]
   refine takeH (i := 3) (d := some 33) (v := ?_) rfl rfl (by kernel_rfl) (by kernel_rfl) (by kernel_rfl) (fun _ _ _ h => h) (Or.inl ⟨by rfl, ?_⟩) (by assumption) ?_
   rotate_left
   ·intro wS hSw; (try dsimp only at hSw); go_simp; (try (with_reducible rfl))
   simp only [Act.put, zA, zB, zC]
   refine takeH (i := 4) (d := some 34) (v := ?_) rfl rfl (by kernel_rfl) (by kernel_rfl) (by kernel_rfl) (fun _ _ _ h => h) (Or.inl ⟨by rfl, ?_⟩) (by assumption) ?_
   rotate_left
   ·intro wS hSw; (try dsimp only at hSw); go_simp; (try (with_reducible rfl))
   simp only [Act.put, zA, zB, zC]
   refine takeH (i := 5) (d := some 35) (v := ?_) rfl rfl (by kernel_rfl) (by kernel_rfl) (by kernel_rfl) (fun _ _ _ h => h) (Or.inl ⟨by rfl, ?_⟩) (by assumption) ?_
   rotate_left
   ·intro wS hSw; (try dsimp only at hSw); go_simp; (try (with_reducible rfl))
   simp only [Act.put, zA, zB, zC]
   refine takeH (i := 6) (d := some 36) (v := ?_) rfl rfl (by kernel_rfl) (by kernel_rfl) (by kernel_rfl) (fun _ _ _ h => h) (Or.inl ⟨by rfl, ?_⟩) (by assumption) ?_
   rotate_left
   ·intro wS hSw; (try dsimp only at hSw); go_simp; (try (with_reducible rfl))
   simp only [Act.put, zA, zB, zC]
   refine takeH (i := 7) (d := some 37) (v := undef) rfl rfl (by kernel_rfl) (by kernel_rfl) (by kernel_rfl) (fun _ _ _ h => h) (Or.inr ⟨by rfl, rfl⟩) (by assumption) ?_
   simp only [Act.put, zA, zB, zC]
   refine takeH (i := 8) (d := some 38) (v := undef) rfl rfl (by kernel_rfl) (by kernel_rfl) (by kernel_rfl) (fun _ _ _ h => h) (Or.inr ⟨by rfl, rfl⟩) (by assumption) ?_
   simp only [Act.put, zA, zB, zC]
   refine takeH (i := 9) (d := some 39) (v := undef) rfl rfl (by kernel_rfl) (by kernel_rfl) (by kernel_rfl) (fun _ _ _ h => h) (Or.inr ⟨by rfl, rfl⟩) (by assumption) ?_
   simp only [Act.put, zA, zB, zC]
   refine takeH (i := 10) (d := some 40) (v := ?_) rfl rfl (by kernel_rfl) (by kernel_rfl) (by kernel_rfl) (fun _ _ _ h => h) (Or.inl ⟨by rfl, ?_⟩) (by assumption) ?_
   rotate_left
   ·intro wS hSw; (try dsimp only at hSw); go_simp; (try (with_reducible rfl))
   simp only [Act.put, zA, zB, zC]
   refine takeH (i := 11) (d := some 41) (v := ?_) rfl rfl (by kernel_rfl) (by kernel_rfl) (by kernel_rfl) (fun _ _ _ h => h) (Or.inl ⟨by rfl, ?_⟩) (by assumption) ?_
   rotate_left
   ·intro wS hSw; (try dsimp only at hSw); go_simp; (try (with_reducible rfl))
   simp only [Act.put, zA, zB, zC]
   refine takeH (i := 12) (d := some 42) (v := undef) rfl rfl (by kernel_rfl) (by kernel_rfl) (by kernel_rfl) (fun _ _ _ h => h) (Or.inr ⟨by rfl, rfl⟩) (by assumption) ?_
   simp only [Act.put, zA, zB, zC]
   refine takeH (i := 13) (d := some 43) (v := undef) rfl rfl (by kernel_rfl) (by kernel_rfl) (by kernel_rfl) (fun _ _ _ h => h) (Or.inr ⟨by rfl, rfl⟩) (by assumption) ?_
   simp only [Act.put, zA, zB, zC]
   refine takeH (i := 14) (d := some 44) (v := undef) rfl rfl (by kernel_rfl) (by kernel_rfl) (by kernel_rfl) (fun _ _ _ h => h) (Or.inr ⟨by rfl, rfl⟩) (by assumption) ?_
   simp only [Act.put, zA, zB, zC]
   refine takeH (i := 15) (d := some 45) (v := undef) rfl rfl (by kernel_rfl) (by kernel_rfl) (by kernel_rfl) (fun _ _ _ h => h) (Or.inr ⟨by rfl, rfl⟩) (by assumption) ?_
   simp only [Act.put, zA, zB, zC]
   refine takeH (i := 16) (d := some 46) (v := undef) rfl rfl (by kernel_rfl) (by kernel_rfl) (by kernel_rfl) (fun _ _ _ h => h) (Or.inr ⟨by rfl, rfl⟩) (by assumption) ?_
   simp only [Act.put, zA, zB, zC]
   refine takeH (i := 17) (d := some 47) (v := undef) rfl rfl (by kernel_rfl) (by kernel_rfl) (by kernel_rfl) (fun _ _ _ h => h) (Or.inr ⟨by rfl, rfl⟩) (by assumption) ?_
   simp only [Act.put, zA, zB, zC]
   refine takeH (i := 18) (d := some 48) (v := undef) rfl rfl (by kernel_rfl) (by kernel_rfl) (by kernel_rfl) (fun _ _ _ h => h) (Or.inr ⟨by rfl, rfl⟩) (by assumption) ?_
   simp only [Act.put, zA, zB, zC]
   refine takeH (i := 19) (d := some 49) (v := undef) rfl rfl (by kernel_rfl) (by kernel_rfl) (by kernel_rfl) (fun _ _ _ h => h) (Or.inr ⟨by rfl, rfl⟩) (by assumption) ?_
   simp only [Act.put, zA, zB, zC]
   refine takeH (i := 20) (d := some 50) (v := undef) rfl rfl (by kernel_rfl) (by kernel_rfl) (by kernel_rfl) (fun _ _ _ h => h) (Or.inr ⟨by rfl, rfl⟩) (by assumption) ?_
   simp only [Act.put, zA, zB, zC]
   refine takeH (i := 21) (d := some 51) (v := undef) rfl rfl (by kernel_rfl) (by kernel_rfl) (by kernel_rfl) (fun _ _ _ h => h) (Or.inr ⟨by rfl, rfl⟩) (by assumption) ?_
   simp only [Act.put, zA, zB, zC]
   refine takeH (i := 22) (d := some 52) (v := undef) rfl rfl (by kernel_rfl) (by kernel_rfl) (by kernel_rfl) (fun _ _ _ h => h) (Or.inr ⟨by rfl, rfl⟩) (by assumption) ?_
   simp only [Act.put, zA, zB, zC]
   refine takeH (i := 23) (d := some 53) (v := undef) rfl rfl (by kernel_rfl) (by kernel_rfl) (by kernel_rfl) (fun _ _ _ h => h) (Or.inr ⟨by rfl, rfl⟩) (by assumption) ?_
   simp only [Act.put, zA, zB, zC]
   refine takeH (i := 24) (d := some 54) (v := undef) rfl rfl (by kernel_rfl) (by kernel_rfl) (by kernel_rfl) (fun _ _ _ h => h) (Or.inr ⟨by rfl, rfl⟩) (by assumption) ?_
   simp only [Act.put, zA, zB, zC]
   refine takeH (i := 25) (d := some 55) (v := ?_) rfl rfl (by kernel_rfl) (by kernel_rfl) (by kernel_rfl) (fun _ _ _ h => h) (Or.inl ⟨by rfl, ?_⟩) (by assumption) ?_
   rotate_left
   ·intro wS hSw; (try dsimp only at hSw); go_simp; (try (with_reducible rfl))
   simp only [Act.put, zA, zB, zC]
   refine wpAnyH_done (by kernel_rfl) ?_ _
   go_wp2_with fail
   exact bodyPost_ret (v := .tuple #[.slice none 0 0, .bool false]) (by simp [results, Tryz.results140, go_sem]) rfl ⟨by rw [HBX.out]; exact HB3.out.drew, .inl ⟨rfl, HNO.out⟩⟩
  ·rw [bl_str] at hbp
   have HUN := Lib.hid (fun ps' (h : LoadR l x ps') => show ps' = ps from blk_inj ((HLR.out ps').1 h).2.1 hri (((HLR.out ps').1 h).1.1.symm.trans hbp))
   have hple := hri.le
   rcases Nat.eq_zero_or_pos ps.length with h0 | h0
   ·have HNO := Lib.hid (fun ps' => show ¬ LoadR l x ps' from fun h => by
     have h1 := HUN.out ps' h
     have h2 := ((HLR.out ps').1 h).2.2
     rw [h1, List.length_eq_zero_iff.1 h0] at h2
     have := HKL.out
     rw [← h2] at this
     simp [lastK, lastF] at this)
    have g0 : ((ps.length : Int) == 0) = true := by rw [h0]; rfl
    obtain ⟨ao, cp, hv⟩ := own_form hrow
    subst hv
    clear hrow h0 hbp hri
    go_wp2_with fail
    refine wp_region_held_drew (S := (fun w' => w'.cell? ⟨bx, 1, none⟩ = some (.slice (some ⟨gl, 0, none⟩) L.length cl) ∧ w'.cell? ⟨gl, i, none⟩ = some (.string (str key)))) (by kernel_rfl) (by (try dsimp only); exact ⟨a1, a2⟩) (fun hHeld => ?_)
    refine takeH (i := 0) (d := some 30) (v := ?_) rfl rfl (by kernel_rfl) (by kernel_rfl) (by kernel_rfl) (fun _ _ _ h => h) (Or.inl ⟨by rfl, ?_⟩) (by assumption) ?_
    rotate_left
    ·intro wS hSw; (try dsimp only at hSw); go_simp; (try (with_reducible rfl))
    simp only [Act.put, zA, zB, zC]
    refine takeH (i := 1) (d := some 31) (v := ?_) rfl rfl (by kernel_rfl) (by kernel_rfl) (by kernel_rfl) (fun _ _ _ h => h) (Or.inl ⟨by rfl, ?_⟩) (by assumption) ?_
    rotate_left
    ·intro wS hSw; (try dsimp only at hSw); go_simp; (try (with_reducible rfl))
    simp only [Act.put, zA, zB, zC]
    refine takeH (i := 2) (d := some 32) (v := ?_) rfl rfl (by kernel_rfl) (by kernel_rfl) (by kernel_rfl) (fun _ _ _ h => h) (Or.inl ⟨by rfl, ?_⟩) (by assumption) ?_
    rotate_left
    ·intro wS hSw; (try dsimp only at hSw); go_simp; (try (with_reducible rfl))
    simp only [Act.put, zA, zB, zC]
    refine takeH (i := 3) (d := some 33) (v := ?_) rfl rfl (by kernel_rfl) (by kernel_rfl) (by kernel_rfl) (fun _ _ _ h => h) (Or.inl ⟨by rfl, ?_⟩) (by assumption) ?_
    rotate_left
    ·intro wS hSw; (try dsimp only at hSw); go_simp; (try (with_reducible rfl))
    simp only [Act.put, zA, zB, zC]
    refine takeH (i := 4) (d := some 34) (v := ?_) rfl rfl (by kernel_rfl) (by kernel_rfl) (by kernel_rfl) (fun _ _ _ h => h) (Or.inl ⟨by rfl, ?_⟩) (by assumption) ?_
    rotate_left
    ·intro wS hSw; (try dsimp only at hSw); go_simp; (try (with_reducible rfl))
    simp only [Act.put, zA, zB, zC]
    refine takeH (i := 5) (d := some 35) (v := ?_) rfl rfl (by kernel_rfl) (by kernel_rfl) (by kernel_rfl) (fun _ _ _ h => h) (Or.inl ⟨by rfl, ?_⟩) (by assumption) ?_
    rotate_left
    ·intro wS hSw; (try dsimp only at hSw); go_simp; (try (with_reducible rfl))
    simp only [Act.put, zA, zB, zC]
    refine takeH (i := 6) (d := some 36) (v := ?_) rfl rfl (by kernel_rfl) (by kernel_rfl) (by kernel_rfl) (fun _ _ _ h => h) (Or.inl ⟨by rfl, ?_⟩) (by assumption) ?_
    rotate_left
    ·intro wS hSw; (try dsimp only at hSw); go_simp; (try (with_reducible rfl))
    simp only [Act.put, zA, zB, zC]
    refine takeH (i := 7) (d := some 37) (v := ?_) rfl rfl (by kernel_rfl) (by kernel_rfl) (by kernel_rfl) (fun _ _ _ h => h) (Or.inl ⟨by rfl, ?_⟩) (by assumption) ?_
    rotate_left
    ·intro wS hSw; (try dsimp only at hSw); go_simp; (try (with_reducible rfl))
    simp only [Act.put, zA, zB, zC]
    refine takeH (i := 8) (d := some 38) (v := ?_) rfl rfl (by kernel_rfl) (by kernel_rfl) (by kernel_rfl) (fun _ _ _ h => h) (Or.inl ⟨by rfl, ?_⟩) (by assumption) ?_
    rotate_left
    ·intro wS hSw; (try dsimp only at hSw); go_simp; (try (with_reducible rfl))
    simp only [Act.put, zA, zB, zC]
    refine takeH (i := 9) (d := some 39) (v := ?_) rfl rfl (by kernel_rfl) (by kernel_rfl) (by kernel_rfl) (fun _ _ _ h => h) (Or.inl ⟨by rfl, ?_⟩) (by assumption) ?_
    rotate_left
    ·intro wS hSw; (try dsimp only at hSw); go_simp; (try (with_reducible rfl))
    simp only [Act.put, zA, zB, zC]
    refine takeH (i := 10) (d := some 40) (v := ?_) rfl rfl (by kernel_rfl) (by kernel_rfl) (by kernel_rfl) (fun _ _ _ h => h) (Or.inl ⟨by rfl, ?_⟩) (by assumption) ?_
    rotate_left
    ·intro wS hSw; (try dsimp only at hSw); go_simp; (try (with_reducible rfl))
    simp only [Act.put, zA, zB, zC]
    refine takeH (i := 11) (d := some 41) (v := ?_) rfl rfl (by kernel_rfl) (by kernel_rfl) (by kernel_rfl) (fun _ _ _ h => h) (Or.inl ⟨by rfl, ?_⟩) (by assumption) ?_
    rotate_left
    ·intro wS hSw; (try dsimp only at hSw); go_simp; (try (with_reducible rfl))
    simp only [Act.put, zA, zB, zC]
    refine takeH (i := 12) (d := some 42) (v := undef) rfl rfl (by kernel_rfl) (by kernel_rfl) (by kernel_rfl) (fun _ _ _ h => h) (Or.inr ⟨by rfl, rfl⟩) (by assumption) ?_
    simp only [Act.put, zA, zB, zC]
    refine takeH (i := 13) (d := some 43) (v := undef) rfl rfl (by kernel_rfl) (by kernel_rfl) (by kernel_rfl) (fun _ _ _ h => h) (Or.inr ⟨by rfl, rfl⟩) (by assumption) ?_
    simp only [Act.put, zA, zB, zC]
    refine takeH (i := 14) (d := some 44) (v := undef) rfl rfl (by kernel_rfl) (by kernel_rfl) (by kernel_rfl) (fun _ _ _ h => h) (Or.inr ⟨by rfl, rfl⟩) (by assumption) ?_
    simp only [Act.put, zA, zB, zC]
    refine takeH (i := 15) (d := some 45) (v := undef) rfl rfl (by kernel_rfl) (by kernel_rfl) (by kernel_rfl) (fun _ _ _ h => h) (Or.inr ⟨by rfl, rfl⟩) (by assumption) ?_
    simp only [Act.put, zA, zB, zC]
    refine takeH (i := 16) (d := some 46) (v := undef) rfl rfl (by kernel_rfl) (by kernel_rfl) (by kernel_rfl) (fun _ _ _ h => h) (Or.inr ⟨by rfl, rfl⟩) (by assumption) ?_
    simp only [Act.put, zA, zB, zC]
    refine takeH (i := 17) (d := some 47) (v := undef) rfl rfl (by kernel_rfl) (by kernel_rfl) (by kernel_rfl) (fun _ _ _ h => h) (Or.inr ⟨by rfl, rfl⟩) (by assumption) ?_
    simp only [Act.put, zA, zB, zC]
    refine takeH (i := 18) (d := some 48) (v := undef) rfl rfl (by kernel_rfl) (by kernel_rfl) (by kernel_rfl) (fun _ _ _ h => h) (Or.inr ⟨by rfl, rfl⟩) (by assumption) ?_
    simp only [Act.put, zA, zB, zC]
    refine takeH (i := 19) (d := some 49) (v := undef) rfl rfl (by kernel_rfl) (by kernel_rfl) (by kernel_rfl) (fun _ _ _ h => h) (Or.inr ⟨by rfl, rfl⟩) (by assumption) ?_
    simp only [Act.put, zA, zB, zC]
    refine takeH (i := 20) (d := some 50) (v := undef) rfl rfl (by kernel_rfl) (by kernel_rfl) (by kernel_rfl) (fun _ _ _ h => h) (Or.inr ⟨by rfl, rfl⟩) (by assumption) ?_
    simp only [Act.put, zA, zB, zC]
    refine takeH (i := 21) (d := some 51) (v := undef) rfl rfl (by kernel_rfl) (by kernel_rfl) (by kernel_rfl) (fun _ _ _ h => h) (Or.inr ⟨by rfl, rfl⟩) (by assumption) ?_
    simp only [Act.put, zA, zB, zC]
    refine takeH (i := 22) (d := some 52) (v := undef) rfl rfl (by kernel_rfl) (by kernel_rfl) (by kernel_rfl) (fun _ _ _ h => h) (Or.inr ⟨by rfl, rfl⟩) (by assumption) ?_
    simp only [Act.put, zA, zB, zC]
    refine takeH (i := 23) (d := some 53) (v := undef) rfl rfl (by kernel_rfl) (by kernel_rfl) (by kernel_rfl) (fun _ _ _ h => h) (Or.inr ⟨by rfl, rfl⟩) (by assumption) ?_
    simp only [Act.put, zA, zB, zC]
    refine takeH (i := 24) (d := some 54) (v := undef) rfl rfl (by kernel_rfl) (by kernel_rfl) (by kernel_rfl) (fun _ _ _ h => h) (Or.inr ⟨by rfl, rfl⟩) (by assumption) ?_
    simp only [Act.put, zA, zB, zC]
    refine takeH (i := 25) (d := some 55) (v := ?_) rfl rfl (by kernel_rfl) (by kernel_rfl) (by kernel_rfl) (fun _ _ _ h => h) (Or.inl ⟨by rfl, ?_⟩) (by assumption) ?_
    rotate_left
    ·intro wS hSw; (try dsimp only at hSw); go_simp; (try (with_reducible rfl))
    simp only [Act.put, zA, zB, zC]
    refine wpAnyH_done (by kernel_rfl) ?_ _
    go_wp2_with fail
    exact bodyPost_ret (v := .tuple #[.slice none 0 0, .bool false]) (by simp [results, Tryz.results140, go_sem]) rfl ⟨by rw [HBX.out]; exact HB3.out.drew, .inl ⟨rfl, HNO.out⟩⟩
   ·obtain ⟨gp, cp, hv6, _, hg6, hc6, hm6, hcell6⟩ := own_pos hrow h0
    subst hv6
    unfold maxLen at hm6
    have hlkg := lastK_get ps h0
    have a3 := hcell6 _ _ (flatR_get ps (ps.length - 1) (by omega)).1
    rw [← hlkg] at a3
    have a3 : w3.drew.cell? ⟨gp, (ps.length - 1) * 2, none⟩ = some (.string (str (lastK ps))) := a3
    have s3 : IntKind.i64.wrap ((ps.length : Int) - 1) = (ps.length : Int) - 1 := IntWalk.i64_in _ (by omega)
    have s4 : ((ps.length : Int) - 1).toNat = ps.length - 1 := by omega
    have s5 : (0 : Int) ≤ (ps.length : Int) - 1 := by omega
    have s6 : (ps.length : Int) - 1 < (ps.length : Int) := by omega
    have s7 : (1 : Int) ≤ (ps.length : Int) := by omega
    have g0 : ((ps.length : Int) == 0) = false := by rw [beq_eq_false_iff_ne]; omega
    have heq := str_eqR (lastK ps) key
    have HROW := Lib.hid (own_base hrow HS2.out)
    by_cases hke : lastK ps = key
    ·have HYES := Lib.hid ((HLR.out ps).2 ⟨⟨hbp, rfl⟩, hri, hke⟩)
     rw [decide_eq_true hke] at heq
     clear hrow hcell6 hlkg hbp hri hke
     generalize lastK ps = lk at *
     go_wp2_with fail
     refine wp_region_held_drew (S := (fun w' => w'.cell? ⟨bx, 1, none⟩ = some (.slice (some ⟨gl, 0, none⟩) L.length cl) ∧ w'.cell? ⟨gl, i, none⟩ = some (.string (str key)) ∧ w'.cell? ⟨gp, (ps.length - 1) * 2, none⟩ = some (.string (str lk)))) (by kernel_rfl) (by (try dsimp only); exact ⟨a1, a2, a3⟩) (fun hHeld => ?_)
     refine takeH (i := 0) (d := some 30) (v := ?_) rfl rfl (by kernel_rfl) (by kernel_rfl) (by kernel_rfl) (fun _ _ _ h => h) (Or.inl ⟨by rfl, ?_⟩) (by assumption) ?_
     rotate_left
     ·intro wS hSw; (try dsimp only at hSw); go_simp; (try (with_reducible rfl))
     simp only [Act.put, zA, zB, zC]
     refine takeH (i := 1) (d := some 31) (v := ?_) rfl rfl (by kernel_rfl) (by kernel_rfl) (by kernel_rfl) (fun _ _ _ h => h) (Or.inl ⟨by rfl, ?_⟩) (by assumption) ?_
     rotate_left
     ·intro wS hSw; (try dsimp only at hSw); go_simp; (try (with_reducible rfl))
     simp only [Act.put, zA, zB, zC]
     refine takeH (i := 2) (d := some 32) (v := ?_) rfl rfl (by kernel_rfl) (by kernel_rfl) (by kernel_rfl) (fun _ _ _ h => h) (Or.inl ⟨by rfl, ?_⟩) (by assumption) ?_
     rotate_left
     ·intro wS hSw; (try dsimp only at hSw); go_simp; (try (with_reducible rfl))
     simp only [Act.put, zA, zB, zC]
     refine takeH (i := 3) (d := some 33) (v := ?_) rfl rfl (by kernel_rfl) (by kernel_rfl) (by kernel_rfl) (fun _ _ _ h => h) (Or.inl ⟨by rfl, ?_⟩) (by assumption) ?_
     rotate_left
     ·intro wS hSw; (try dsimp only at hSw); go_simp; (try (with_reducible rfl))
     simp only [Act.put, zA, zB, zC]
     refine takeH (i := 4) (d := some 34) (v := ?_) rfl rfl (by kernel_rfl) (by kernel_rfl) (by kernel_rfl) (fun _ _ _ h => h) (Or.inl ⟨by rfl, ?_⟩) (by assumption) ?_
     rotate_left
     ·intro wS hSw; (try dsimp only at hSw); go_simp; (try (with_reducible rfl))
     simp only [Act.put, zA, zB, zC]
     refine takeH (i := 5) (d := some 35) (v := ?_) rfl rfl (by kernel_rfl) (by kernel_rfl) (by kernel_rfl) (fun _ _ _ h => h) (Or.inl ⟨by rfl, ?_⟩) (by assumption) ?_
     rotate_left
     ·intro wS hSw; (try dsimp only at hSw); go_simp; (try (with_reducible rfl))
     simp only [Act.put, zA, zB, zC]
     refine takeH (i := 6) (d := some 36) (v := ?_) rfl rfl (by kernel_rfl) (by kernel_rfl) (by kernel_rfl) (fun _ _ _ h => h) (Or.inl ⟨by rfl, ?_⟩) (by assumption) ?_
     rotate_left
     ·intro wS hSw; (try dsimp only at hSw); go_simp; (try (with_reducible rfl))
     simp only [Act.put, zA, zB, zC]
     refine takeH (i := 7) (d := some 37) (v := ?_) rfl rfl (by kernel_rfl) (by kernel_rfl) (by kernel_rfl) (fun _ _ _ h => h) (Or.inl ⟨by rfl, ?_⟩) (by assumption) ?_
     rotate_left
     ·intro wS hSw; (try dsimp only at hSw); go_simp; (try (with_reducible rfl))
     simp only [Act.put, zA, zB, zC]
     refine takeH (i := 8) (d := some 38) (v := ?_) rfl rfl (by kernel_rfl) (by kernel_rfl) (by kernel_rfl) (fun _ _ _ h => h) (Or.inl ⟨by rfl, ?_⟩) (by assumption) ?_
     rotate_left
     ·intro wS hSw; (try dsimp only at hSw); go_simp; (try (with_reducible rfl))
     simp only [Act.put, zA, zB, zC]
     refine takeH (i := 9) (d := some 39) (v := ?_) rfl rfl (by kernel_rfl) (by kernel_rfl) (by kernel_rfl) (fun _ _ _ h => h) (Or.inl ⟨by rfl, ?_⟩) (by assumption) ?_
     rotate_left
     ·intro wS hSw; (try dsimp only at hSw); go_simp; (try (with_reducible rfl))
     simp only [Act.put, zA, zB, zC]
     refine takeH (i := 10) (d := some 40) (v := ?_) rfl rfl (by kernel_rfl) (by kernel_rfl) (by kernel_rfl) (fun _ _ _ h => h) (Or.inl ⟨by rfl, ?_⟩) (by assumption) ?_
     rotate_left
     ·intro wS hSw; (try dsimp only at hSw); go_simp; (try (with_reducible rfl))
     simp only [Act.put, zA, zB, zC]
     refine takeH (i := 11) (d := some 41) (v := ?_) rfl rfl (by kernel_rfl) (by kernel_rfl) (by kernel_rfl) (fun _ _ _ h => h) (Or.inl ⟨by rfl, ?_⟩) (by assumption) ?_
     rotate_left
     ·intro wS hSw; (try dsimp only at hSw); go_simp; (try (with_reducible rfl))
     simp only [Act.put, zA, zB, zC]
     refine takeH (i := 12) (d := some 42) (v := ?_) rfl rfl (by kernel_rfl) (by kernel_rfl) (by kernel_rfl) (fun _ _ _ h => h) (Or.inl ⟨by rfl, ?_⟩) (by assumption) ?_
     rotate_left
     ·intro wS hSw; (try dsimp only at hSw); go_simp; (try (with_reducible rfl))
     simp only [Act.put, zA, zB, zC]
     refine takeH (i := 13) (d := some 43) (v := ?_) rfl rfl (by kernel_rfl) (by kernel_rfl) (by kernel_rfl) (fun _ _ _ h => h) (Or.inl ⟨by rfl, ?_⟩) (by assumption) ?_
     rotate_left
     ·intro wS hSw; (try dsimp only at hSw); go_simp; (try (with_reducible rfl))
     simp only [Act.put, zA, zB, zC]
     refine takeH (i := 14) (d := some 44) (v := ?_) rfl rfl (by kernel_rfl) (by kernel_rfl) (by kernel_rfl) (fun _ _ _ h => h) (Or.inl ⟨by rfl, ?_⟩) (by assumption) ?_
     rotate_left
     ·intro wS hSw; (try dsimp only at hSw); go_simp; (try (with_reducible rfl))
     simp only [Act.put, zA, zB, zC]
     refine takeH (i := 15) (d := some 45) (v := ?_) rfl rfl (by kernel_rfl) (by kernel_rfl) (by kernel_rfl) (fun _ _ _ h => h) (Or.inl ⟨by rfl, ?_⟩) (by assumption) ?_
     rotate_left
     ·intro wS hSw; (try dsimp only at hSw); go_simp; (try (with_reducible rfl))
     simp only [Act.put, zA, zB, zC]
     refine takeH (i := 16) (d := some 46) (v := ?_) rfl rfl (by kernel_rfl) (by kernel_rfl) (by kernel_rfl) (fun _ _ _ h => h) (Or.inl ⟨by rfl, ?_⟩) (by assumption) ?_
     rotate_left
     ·intro wS hSw; (try dsimp only at hSw); go_simp; (try (with_reducible rfl))
     simp only [Act.put, zA, zB, zC]
     refine takeH (i := 17) (d := some 47) (v := ?_) rfl rfl (by kernel_rfl) (by kernel_rfl) (by kernel_rfl) (fun _ _ _ h => h) (Or.inl ⟨by rfl, ?_⟩) (by assumption) ?_
     rotate_left
     ·intro wS hSw; (try dsimp only at hSw); go_simp; (try (with_reducible rfl))
     simp only [Act.put, zA, zB, zC]
     refine takeH (i := 18) (d := some 48) (v := ?_) rfl rfl (by kernel_rfl) (by kernel_rfl) (by kernel_rfl) (fun _ _ _ h => h) (Or.inl ⟨by rfl, ?_⟩) (by assumption) ?_
     rotate_left
     ·intro wS hSw; (try dsimp only at hSw); go_simp; (try (with_reducible rfl))
     simp only [Act.put, zA, zB, zC]
     refine takeH (i := 19) (d := some 49) (v := ?_) rfl rfl (by kernel_rfl) (by kernel_rfl) (by kernel_rfl) (fun _ _ _ h => h) (Or.inl ⟨by rfl, ?_⟩) (by assumption) ?_
     rotate_left
     ·intro wS hSw; (try dsimp only at hSw); go_simp; (try (with_reducible rfl))
     simp only [Act.put, zA, zB, zC]
     refine takeH (i := 20) (d := some 50) (v := ?_) rfl rfl (by kernel_rfl) (by kernel_rfl) (by kernel_rfl) (fun _ _ _ h => h) (Or.inl ⟨by rfl, ?_⟩) (by assumption) ?_
     rotate_left
     ·intro wS hSw; (try dsimp only at hSw); go_simp; (try (with_reducible rfl))
     simp only [Act.put, zA, zB, zC]
     refine takeH (i := 21) (d := some 51) (v := ?_) rfl rfl (by kernel_rfl) (by kernel_rfl) (by kernel_rfl) (fun _ _ _ h => h) (Or.inl ⟨by rfl, ?_⟩) (by assumption) ?_
     rotate_left
     ·intro wS hSw; (try dsimp only at hSw); go_simp; (try (with_reducible rfl))
     simp only [Act.put, zA, zB, zC]
     refine takeH (i := 22) (d := some 52) (v := ?_) rfl rfl (by kernel_rfl) (by kernel_rfl) (by kernel_rfl) (fun _ _ _ h => h) (Or.inl ⟨by rfl, ?_⟩) (by assumption) ?_
     rotate_left
     ·intro wS hSw; (try dsimp only at hSw); go_simp; (try (with_reducible rfl))
     simp only [Act.put, zA, zB, zC]
     refine takeH (i := 23) (d := some 53) (v := ?_) rfl rfl (by kernel_rfl) (by kernel_rfl) (by kernel_rfl) (fun _ _ _ h => h) (Or.inl ⟨by rfl, ?_⟩) (by assumption) ?_
     rotate_left
     ·intro wS hSw; (try dsimp only at hSw); go_simp; (try (with_reducible rfl))
     simp only [Act.put, zA, zB, zC]
     refine takeH (i := 24) (d := some 54) (v := ?_) rfl rfl (by kernel_rfl) (by kernel_rfl) (by kernel_rfl) (fun _ _ _ h => h) (Or.inl ⟨by rfl, ?_⟩) (by assumption) ?_
     rotate_left
     ·intro wS hSw; (try dsimp only at hSw); go_simp; (try (with_reducible rfl))
     simp only [Act.put, zA, zB, zC]
     refine takeH (i := 25) (d := some 55) (v := ?_) rfl rfl (by kernel_rfl) (by kernel_rfl) (by kernel_rfl) (fun _ _ _ h => h) (Or.inl ⟨by rfl, ?_⟩) (by assumption) ?_
     rotate_left
     ·intro wS hSw; (try dsimp only at hSw); go_simp; (try (with_reducible rfl))
     simp only [Act.put, zA, zB, zC]
     refine wpAnyH_done (by kernel_rfl) ?_ _
     go_wp2_with fail
     exact bodyPost_ret (v := .tuple #[.slice (some ⟨gp, 0, none⟩) ps.length cp, .bool true]) (by simp [results, Tryz.results140, go_sem]) rfl ⟨by rw [HBX.out]; exact HB3.out.drew, .inr ⟨_, ps, rfl, HYES.out, by rw [HBX.out]; exact HROW.out⟩⟩
    ·have HNO := Lib.hid (fun ps' => show ¬ LoadR l x ps' from fun h => by
      have h1 := HUN.out ps' h
      have h2 := ((HLR.out ps').1 h).2.2
      rw [h1] at h2
      exact hke h2)
     rw [decide_eq_false hke] at heq
     clear hrow hcell6 hlkg hbp hri hke
     generalize lastK ps = lk at *
     go_wp2_with fail
     refine wp_region_held_drew (S := (fun w' => w'.cell? ⟨bx, 1, none⟩ = some (.slice (some ⟨gl, 0, none⟩) L.length cl) ∧ w'.cell? ⟨gl, i, none⟩ = some (.string (str key)) ∧ w'.cell? ⟨gp, (ps.length - 1) * 2, none⟩ = some (.string (str lk)))) (by kernel_rfl) (by (try dsimp only); exact ⟨a1, a2, a3⟩) (fun hHeld => ?_)
     refine takeH (i := 0) (d := some 30) (v := ?_) rfl rfl (by kernel_rfl) (by kernel_rfl) (by kernel_rfl) (fun _ _ _ h => h) (Or.inl ⟨by rfl, ?_⟩) (by assumption) ?_
     rotate_left
     ·intro wS hSw; (try dsimp only at hSw); go_simp; (try (with_reducible rfl))
     simp only [Act.put, zA, zB, zC]
     refine takeH (i := 1) (d := some 31) (v := ?_) rfl rfl (by kernel_rfl) (by kernel_rfl) (by kernel_rfl) (fun _ _ _ h => h) (Or.inl ⟨by rfl, ?_⟩) (by assumption) ?_
     rotate_left
     ·intro wS hSw; (try dsimp only at hSw); go_simp; (try (with_reducible rfl))
     simp only [Act.put, zA, zB, zC]
     refine takeH (i := 2) (d := some 32) (v := ?_) rfl rfl (by kernel_rfl) (by kernel_rfl) (by kernel_rfl) (fun _ _ _ h => h) (Or.inl ⟨by rfl, ?_⟩) (by assumption) ?_
     rotate_left
     ·intro wS hSw; (try dsimp only at hSw); go_simp; (try (with_reducible rfl))
     simp only [Act.put, zA, zB, zC]
     refine takeH (i := 3) (d := some 33) (v := ?_) rfl rfl (by kernel_rfl) (by kernel_rfl) (by kernel_rfl) (fun _ _ _ h => h) (Or.inl ⟨by rfl, ?_⟩) (by assumption) ?_
     rotate_left
     ·intro wS hSw; (try dsimp only at hSw); go_simp; (try (with_reducible rfl))
     simp only [Act.put, zA, zB, zC]
     refine takeH (i := 4) (d := some 34) (v := ?_) rfl rfl (by kernel_rfl) (by kernel_rfl) (by kernel_rfl) (fun _ _ _ h => h) (Or.inl ⟨by rfl, ?_⟩) (by assumption) ?_
     rotate_left
     ·intro wS hSw; (try dsimp only at hSw); go_simp; (try (with_reducible rfl))
     simp only [Act.put, zA, zB, zC]
     refine takeH (i := 5) (d := some 35) (v := ?_) rfl rfl (by kernel_rfl) (by kernel_rfl) (by kernel_rfl) (fun _ _ _ h => h) (Or.inl ⟨by rfl, ?_⟩) (by assumption) ?_
     rotate_left
     ·intro wS hSw; (try dsimp only at hSw); go_simp; (try (with_reducible rfl))
     simp only [Act.put, zA, zB, zC]
     refine takeH (i := 6) (d := some 36) (v := ?_) rfl rfl (by kernel_rfl) (by kernel_rfl) (by kernel_rfl) (fun _ _ _ h => h) (Or.inl ⟨by rfl, ?_⟩) (by assumption) ?_
     rotate_left
     ·intro wS hSw; (try dsimp only at hSw); go_simp; (try (with_reducible rfl))
     simp only [Act.put, zA, zB, zC]
     refine takeH (i := 7) (d := some 37) (v := ?_) rfl rfl (by kernel_rfl) (by kernel_rfl) (by kernel_rfl) (fun _ _ _ h => h) (Or.inl ⟨by rfl, ?_⟩) (by assumption) ?_
     rotate_left
     ·intro wS hSw; (try dsimp only at hSw); go_simp; (try (with_reducible rfl))
     simp only [Act.put, zA, zB, zC]
     refine takeH (i := 8) (d := some 38) (v := ?_) rfl rfl (by kernel_rfl) (by kernel_rfl) (by kernel_rfl) (fun _ _ _ h => h) (Or.inl ⟨by rfl, ?_⟩) (by assumption) ?_
     rotate_left
     ·intro wS hSw; (try dsimp only at hSw); go_simp; (try (with_reducible rfl))
     simp only [Act.put, zA, zB, zC]
     refine takeH (i := 9) (d := some 39) (v := ?_) rfl rfl (by kernel_rfl) (by kernel_rfl) (by kernel_rfl) (fun _ _ _ h => h) (Or.inl ⟨by rfl, ?_⟩) (by assumption) ?_
     rotate_left
     ·intro wS hSw; (try dsimp only at hSw); go_simp; (try (with_reducible rfl))
     simp only [Act.put, zA, zB, zC]
     refine takeH (i := 10) (d := some 40) (v := ?_) rfl rfl (by kernel_rfl) (by kernel_rfl) (by kernel_rfl) (fun _ _ _ h => h) (Or.inl ⟨by rfl, ?_⟩) (by assumption) ?_
     rotate_left
     ·intro wS hSw; (try dsimp only at hSw); go_simp; (try (with_reducible rfl))
     simp only [Act.put, zA, zB, zC]
     refine takeH (i := 11) (d := some 41) (v := ?_) rfl rfl (by kernel_rfl) (by kernel_rfl) (by kernel_rfl) (fun _ _ _ h => h) (Or.inl ⟨by rfl, ?_⟩) (by assumption) ?_
     rotate_left
     ·intro wS hSw; (try dsimp only at hSw); go_simp; (try (with_reducible rfl))
     simp only [Act.put, zA, zB, zC]
     refine takeH (i := 12) (d := some 42) (v := ?_) rfl rfl (by kernel_rfl) (by kernel_rfl) (by kernel_rfl) (fun _ _ _ h => h) (Or.inl ⟨by rfl, ?_⟩) (by assumption) ?_
     rotate_left
     ·intro wS hSw; (try dsimp only at hSw); go_simp; (try (with_reducible rfl))
     simp only [Act.put, zA, zB, zC]
     refine takeH (i := 13) (d := some 43) (v := ?_) rfl rfl (by kernel_rfl) (by kernel_rfl) (by kernel_rfl) (fun _ _ _ h => h) (Or.inl ⟨by rfl, ?_⟩) (by assumption) ?_
     rotate_left
     ·intro wS hSw; (try dsimp only at hSw); go_simp; (try (with_reducible rfl))
     simp only [Act.put, zA, zB, zC]
     refine takeH (i := 14) (d := some 44) (v := ?_) rfl rfl (by kernel_rfl) (by kernel_rfl) (by kernel_rfl) (fun _ _ _ h => h) (Or.inl ⟨by rfl, ?_⟩) (by assumption) ?_
     rotate_left
     ·intro wS hSw; (try dsimp only at hSw); go_simp; (try (with_reducible rfl))
     simp only [Act.put, zA, zB, zC]
     refine takeH (i := 15) (d := some 45) (v := ?_) rfl rfl (by kernel_rfl) (by kernel_rfl) (by kernel_rfl) (fun _ _ _ h => h) (Or.inl ⟨by rfl, ?_⟩) (by assumption) ?_
     rotate_left
     ·intro wS hSw; (try dsimp only at hSw); go_simp; (try (with_reducible rfl))
     simp only [Act.put, zA, zB, zC]
     refine takeH (i := 16) (d := some 46) (v := ?_) rfl rfl (by kernel_rfl) (by kernel_rfl) (by kernel_rfl) (fun _ _ _ h => h) (Or.inl ⟨by rfl, ?_⟩) (by assumption) ?_
     rotate_left
     ·intro wS hSw; (try dsimp only at hSw); go_simp; (try (with_reducible rfl))
     simp only [Act.put, zA, zB, zC]
     refine takeH (i := 17) (d := some 47) (v := ?_) rfl rfl (by kernel_rfl) (by kernel_rfl) (by kernel_rfl) (fun _ _ _ h => h) (Or.inl ⟨by rfl, ?_⟩) (by assumption) ?_
     rotate_left
     ·intro wS hSw; (try dsimp only at hSw); go_simp; (try (with_reducible rfl))
     simp only [Act.put, zA, zB, zC]
     refine takeH (i := 18) (d := some 48) (v := ?_) rfl rfl (by kernel_rfl) (by kernel_rfl) (by kernel_rfl) (fun _ _ _ h => h) (Or.inl ⟨by rfl, ?_⟩) (by assumption) ?_
     rotate_left
     ·intro wS hSw; (try dsimp only at hSw); go_simp; (try (with_reducible rfl))
     simp only [Act.put, zA, zB, zC]
     refine takeH (i := 19) (d := some 49) (v := ?_) rfl rfl (by kernel_rfl) (by kernel_rfl) (by kernel_rfl) (fun _ _ _ h => h) (Or.inl ⟨by rfl, ?_⟩) (by assumption) ?_
     rotate_left
     ·intro wS hSw; (try dsimp only at hSw); go_simp; (try (with_reducible rfl))
     simp only [Act.put, zA, zB, zC]
     refine takeH (i := 20) (d := some 50) (v := ?_) rfl rfl (by kernel_rfl) (by kernel_rfl) (by kernel_rfl) (fun _ _ _ h => h) (Or.inl ⟨by rfl, ?_⟩) (by assumption) ?_
     rotate_left
     ·intro wS hSw; (try dsimp only at hSw); go_simp; (try (with_reducible rfl))
     simp only [Act.put, zA, zB, zC]
     refine takeH (i := 21) (d := some 51) (v := ?_) rfl rfl (by kernel_rfl) (by kernel_rfl) (by kernel_rfl) (fun _ _ _ h => h) (Or.inl ⟨by rfl, ?_⟩) (by assumption) ?_
     rotate_left
     ·intro wS hSw; (try dsimp only at hSw); go_simp; (try (with_reducible rfl))
     simp only [Act.put, zA, zB, zC]
     refine takeH (i := 22) (d := some 52) (v := ?_) rfl rfl (by kernel_rfl) (by kernel_rfl) (by kernel_rfl) (fun _ _ _ h => h) (Or.inl ⟨by rfl, ?_⟩) (by assumption) ?_
     rotate_left
     ·intro wS hSw; (try dsimp only at hSw); go_simp; (try (with_reducible rfl))
     simp only [Act.put, zA, zB, zC]
     refine takeH (i := 23) (d := some 53) (v := ?_) rfl rfl (by kernel_rfl) (by kernel_rfl) (by kernel_rfl) (fun _ _ _ h => h) (Or.inl ⟨by rfl, ?_⟩) (by assumption) ?_
     rotate_left
     ·intro wS hSw; (try dsimp only at hSw); go_simp; (try (with_reducible rfl))
     simp only [Act.put, zA, zB, zC]
     refine takeH (i := 24) (d := some 54) (v := ?_) rfl rfl (by kernel_rfl) (by kernel_rfl) (by kernel_rfl) (fun _ _ _ h => h) (Or.inl ⟨by rfl, ?_⟩) (by assumption) ?_
     rotate_left
     ·intro wS hSw; (try dsimp only at hSw); go_simp; (try (with_reducible rfl))
     simp only [Act.put, zA, zB, zC]
     refine takeH (i := 25) (d := some 55) (v := ?_) rfl rfl (by kernel_rfl) (by kernel_rfl) (by kernel_rfl) (fun _ _ _ h => h) (Or.inl ⟨by rfl, ?_⟩) (by assumption) ?_
     rotate_left
     ·intro wS hSw; (try dsimp only at hSw); go_simp; (try (with_reducible rfl))
     simp only [Act.put, zA, zB, zC]
     refine wpAnyH_done (by kernel_rfl) ?_ _
     go_wp2_with fail
     exact bodyPost_ret (v := .tuple #[.slice none 0 0, .bool false]) (by simp [results, Tryz.results140, go_sem]) rfl ⟨by rw [HBX.out]; exact HB3.out.drew, .inl ⟨rfl, HNO.out⟩⟩
end Go.Proofs.YtdbfaknpfepnfaaGreatDoor


