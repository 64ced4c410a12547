/-
  Texts of the claim, joined: TabLdW, TabCuP.
-/
import Derived.Test.YtdbfaknpfepnfaaGreatDoorMxBK16
import Derived.Test.YtdbfaknpfepnfaaGreatDoorMxBK17
set_option maxRecDepth 100000
set_option maxHeartbeats 40000000
namespace Go.Proofs.YtdbfaknpfepnfaaGreatDoor
open Go.RowKit CodecP CrcP FrameP

def LoadR (l : List UInt8) (x : Wh) (ps : List Pr) : Prop := frmd l (x.1 : Int) ((x.1 : Int) + x.2.1) = (blk ps, true) ∧ Rise ps ∧ lastK ps = x.2.2
def AtP (w : World) (k : Nat) (file : Int) (a : Nat) : Prop := w.heap[k]? = some (.cells #[.int .i64 file, .int .i64 a] 141 (0, 0))
theorem AtP.new (w : World) (file : Int) (a : Nat) : AtP (w.alloc (.cells #[.int .i64 file, .int .i64 a] 141)) w.heap.size file a := by
 show (w.heap.push _)[w.heap.size]? = _
 simp
theorem AtP.set {w : World} {k : Nat} {f0 : Int} {a0 : Nat} (h : AtP w k f0 a0) (file : Int) (a : Nat) : AtP ((w.setCell ⟨k, 0, none⟩ (.int .i64 file)).setCell ⟨k, 1, none⟩ (.int .i64 a)) k file a :=
 setAt2 (o := 1) _ (setAt2 (o := 0) _ h)
theorem atLast_any (p B : Nat) (v : Value) (l : List Pr) (w : World) (h : Bk w B p v l) :
  Calls Tryz.prog 102 #[(Value.pointer (some ⟨p, 0, none⟩)), .int .i64 ((l.length : Int) - 1)] w fun e w' => ∃ q b, e = .returned (.tuple #[prV q, .bool b]) ∧ q.1 = lastK l ∧ Below w.heap.size w w' := by
 by_cases h0 : l = []
 ·refine (at_no _ p B v l w h (.inl (by rw [h0]; simp))).mono ?_
  rintro e w' ⟨rfl, hb⟩
  exact ⟨_, _, rfl, by rw [h0]; rfl, hb⟩
 ·have hl : 0 < l.length := List.length_pos_iff.2 h0
  rw [show (l.length : Int) - 1 = ((l.length - 1 : Nat) : Int) by omega]
  refine (at_yes (l.length - 1) p B v l w h (by omega)).mono ?_
  rintro e w' ⟨rfl, hb⟩
  exact ⟨_, _, rfl, (lastK_get l hl).symm, hb⟩
theorem load_any {Q : Nat → Prop} {bo : Option Addr} {file : Int} {Ld : Nat → List Pr → Prop} (kc : Kch Q bo file Ld) (w : World) (B p : Nat) (s : ByteArray) (bits : List UInt8) (ip : List Pr) (L : List Wh) (n pi : Nat) (vi pv : Value) (i : Nat) (hi : i < L.length)
    (h : Tt w B p s file bo bits ip L n pi vi pv) (hC : kc.C w) (hs : s.size ≤ 1000000000000) (hL : L.length ≤ 1000000) (hx : L[i].1 + L[i].2.1 ≤ 1000000000000) (hni : ∀ W, KF Q w W → Nibs W) (hLd : ∀ ps, Ld L[i].1 ps ↔ LoadR (bl s) L[i] ps) :
    Calls Tryz.prog 90 #[(Value.pointer (some ⟨p, 0, none⟩)), .int .i64 i] w fun e w' => KF Q w w' ∧ kc.C w' ∧
      ((e = .returned (.tuple #[.pointer none, .int .i64 9]) ∧ ∀ ps, ¬ LoadR (bl s) L[i] ps) ∨
       (∃ q v ps, LoadR (bl s) L[i] ps ∧ e = .returned (.tuple #[(Value.pointer (some ⟨q, 0, none⟩)), .int .i64 0]) ∧ Bk w' 0 q v ps ∧ ∀ k, v.ownBlock = some k → kc.nb k ∨ w.heap.size ≤ k)) := by
  obtain ⟨x, hxi⟩ : ∃ x, x = L[i] := ⟨_, rfl⟩
  obtain ⟨b, cap, hv, _, hb, hc, hm, hcell⟩ := own_pos h.places (by omega)
  subst hv
  unfold maxLen at hm
  obtain ⟨f1, f2, f3⟩ := flatW_get L i hi
  have c1 := hcell _ _ f1
  have c2 := hcell _ _ f2
  have c3 := hcell _ _ f3
  rw [← hxi] at c1 c2 c3 hx hLd ⊢
  have t5 := cellOf2 (o := 5) h.cells rfl
  have hii : (i : Int) < (L.length : Int) := by omega
  have HT := Lib.hid h
  have HC := Lib.hid hC
  have HNI := Lib.hid hni
  have HLD := Lib.hid hLd
  clear h hC hni hLd hcell f1 f2 f3 hxi
  go_enter Tryz.func90, Tryz.ntmps90
  go_upto_region 2 with (fail)
  have hba : Below w.heap.size w (w.alloc (.cells #[.int .i64 x.1, .int .i64 x.2.1, .string (str x.2.2)] 183)) := (Below.refl _ w).alloc (Nat.le_refl _) _
  have ha3 := At3.new w x.1 x.2.1 x.2.2
  have HBA := Lib.hid hba
  have HA3 := Lib.hid ha3
  have HTA := Lib.hid (HT.out.below hba)
  have HK1 := Lib.hid (KF.of_below (Q := Q) hba)
  have HCA := Lib.hid (kc.below HC.out hba)
  clear hba ha3 c1 c2 c3 t5
  generalize w.alloc (.cells #[.int .i64 x.1, .int .i64 x.2.1, .string (str x.2.2)] 183) = wa at *
  generalize w.heap.size = wq at *
  have t1 := cellOf2 (o := 1) HTA.out.cells rfl
  have z0 := cellOf2 (o := 0) HA3.out rfl
  go_wp2_with fail
  refine wp_region_held_drew (S := (fun w' => w'.cell? ⟨p, 1, none⟩ = some (.int .i64 file) ∧ w'.cell? ⟨wq, 0, none⟩ = some (.int .i64 x.1))) (by kernel_rfl) (by (try dsimp only); exact ⟨t1, z0⟩) (fun hHeld => ?_)
  refine takeH (i := 0) (d := some 23) (v := ?_) rfl rfl (by kernel_rfl) (by kernel_rfl) (by kernel_rfl) (fun _ _ _ h => h) (Or.inl ⟨by rfl, ?_⟩) (by assumption) ?_
  rotate_left
  · intro wS hSw; (try dsimp only at hSw); go_simp; (try (with_reducible rfl))
  simp only [Act.put, zA, zB, zC]
  refine takeH (i := 1) (d := some 24) (v := ?_) rfl rfl (by kernel_rfl) (by kernel_rfl) (by kernel_rfl) (fun _ _ _ h => h) (Or.inl ⟨by rfl, ?_⟩) (by assumption) ?_
  rotate_left
  · intro wS hSw; (try dsimp only at hSw); go_simp; (try (with_reducible rfl))
  simp only [Act.put, zA, zB, zC]
  refine takeH (i := 2) (d := some 25) (v := ?_) rfl rfl (by kernel_rfl) (by kernel_rfl) (by kernel_rfl) (fun _ _ _ h => h) (Or.inl ⟨by rfl, ?_⟩) (by assumption) ?_
  rotate_left
  · intro wS hSw; (try dsimp only at hSw); go_simp; (try (with_reducible rfl))
  simp only [Act.put, zA, zB, zC]
  refine takeH (i := 3) (d := some 26) (v := ?_) rfl rfl (by kernel_rfl) (by kernel_rfl) (by kernel_rfl) (fun _ _ _ h => h) (Or.inl ⟨by rfl, ?_⟩) (by assumption) ?_
  rotate_left
  · intro wS hSw; (try dsimp only at hSw); go_simp; (try (with_reducible rfl))
  simp only [Act.put, zA, zB, zC]
  refine takeH (i := 4) (d := some 27) (v := ?_) rfl rfl (by kernel_rfl) (by kernel_rfl) (by kernel_rfl) (fun _ _ _ h => h) (Or.inl ⟨by rfl, ?_⟩) (by assumption) ?_
  rotate_left
  · intro wS hSw; (try dsimp only at hSw); go_simp; (try (with_reducible rfl))
  simp only [Act.put, zA, zB, zC]
  refine takeH (i := 5) (d := some 28) (v := ?_) rfl rfl (by kernel_rfl) (by kernel_rfl) (by kernel_rfl) (fun _ _ _ h => h) (Or.inl ⟨by rfl, ?_⟩) (by assumption) ?_
  rotate_left
  · intro wS hSw; (try dsimp only at hSw); go_simp; (try (with_reducible rfl))
  simp only [Act.put, zA, zB, zC]
  refine takeH (i := 6) (d := some 29) (v := ?_) rfl rfl (by kernel_rfl) (by kernel_rfl) (by kernel_rfl) (fun _ _ _ h => h) (Or.inl ⟨by rfl, ?_⟩) (by assumption) ?_
  rotate_left
  · intro wS hSw; (try dsimp only at hSw); go_simp; (try (with_reducible rfl))
  simp only [Act.put, zA, zB, zC]
  refine wpAnyH_ready (rs := [7]) (by kernel_rfl) (by simp) ?_
  refine AllReadyH.cons rfl (fun K hK => ?_) AllReadyH.nil
  go_simp
  have hb1 : Below wa.heap.size wa (wa.alloc (.cells #[.int .i64 0, .int .i64 (0 : Nat)] 141)).drew := ((Below.refl _ wa).alloc (Nat.le_refl _) _).drew
  have hp1 : AtP (wa.alloc (.cells #[.int .i64 0, .int .i64 (0 : Nat)] 141)).drew wa.heap.size 0 0 := AtP.new wa 0 0
  have k1 := (hb1.cell (p := ⟨p, 1, none⟩) (lt_of_block HTA.out.cells)).trans t1
  have k2 := (hb1.cell (p := ⟨wq, 0, none⟩) (lt_of_block HA3.out)).trans z0
  have HB1 := Lib.hid hb1
  have HP1 := Lib.hid hp1
  clear hb1 hp1
  refine hK.out _ _ (by (try dsimp only); exact ⟨k1, k2⟩) (fun hHeld => ?_)
  clear hK K
  change wpAnyH _ _ _ _ _ _ _ _ (wa.alloc (.cells #[.int .i64 0, .int .i64 (0 : Nat)] 141)).drew at *
  generalize (wa.alloc (.cells #[.int .i64 0, .int .i64 (0 : Nat)] 141)).drew = w1 at *
  refine wpAnyH_ready (rs := [8]) (by kernel_rfl) (by simp) ?_
  refine AllReadyH.cons rfl (fun K hK => ?_) AllReadyH.nil
  have y0 := cellOf2 (o := 0) HP1.out rfl
  have y1 := cellOf2 (o := 1) HP1.out rfl
  have yf := fun o => free_of2 o HP1.out
  go_simp
  have hp2 := HP1.out.set file x.1
  have hf2 : Fr (fun k => k = wa.heap.size) w1 ((w1.setCell ⟨wa.heap.size, 0, none⟩ (.int .i64 file)).setCell ⟨wa.heap.size, 1, none⟩ (.int .i64 x.1)) := ((Fr.refl (fun k => k = wa.heap.size) w1).setCell (p := ⟨wa.heap.size, 0, none⟩) (.inl rfl) _).setCell (p := ⟨wa.heap.size, 1, none⟩) (.inl rfl) _
  have hb2 := HB1.out.trans (hf2.below (B := wa.heap.size) HB1.out.size (fun k _ hk => Nat.le_of_eq hk.symm))
  have k1 := (hb2.cell (p := ⟨p, 1, none⟩) (lt_of_block HTA.out.cells)).trans t1
  have k2 := (hb2.cell (p := ⟨wq, 0, none⟩) (lt_of_block HA3.out)).trans z0
  have HB2 := Lib.hid hb2
  have HP2 := Lib.hid hp2
  clear hb2 hp2 hf2 y0 y1 yf HP1 HB1
  refine hK.out _ _ (by (try dsimp only); exact ⟨k1, k2⟩) (fun hHeld => ?_)
  clear hK K
  refine wpAnyH_done (by kernel_rfl) ?_ _
  clear hHeld t1 z0 k1 k2
  generalize (w1.setCell ⟨wa.heap.size, 0, none⟩ (.int .i64 file)).setCell ⟨wa.heap.size, 1, none⟩ (.int .i64 x.1) = w2 at *
  have HT2 := Lib.hid (HTA.out.below HB2.out)
  have HC2 := Lib.hid (kc.below HCA.out HB2.out)
  have ha32 : At3 w2 wq x.1 x.2.1 x.2.2 := HA3.out.below HB2.out (lt_of_block HA3.out)
  have hk2 : KF Q w w2 := HK1.out.trans (KF.of_below (Q := Q) HB2.out)
  have HA32 := Lib.hid ha32
  have HK2 := Lib.hid hk2
  clear ha32 hk2
  generalize wa.heap.size = pq at *
  have t2 := cellOf2 (o := 2) HT2.out.cells rfl
  have y0 := cellOf2 (o := 0) HP2.out rfl
  have y1 := cellOf2 (o := 1) HP2.out rfl
  go_wp2_with fail
  refine wp_region_held_drew (S := (fun w' => w'.cell? ⟨p, 2, none⟩ = some (.pointer bo) ∧ w'.cell? ⟨pq, 0, none⟩ = some (.int .i64 file) ∧ w'.cell? ⟨pq, 1, none⟩ = some (.int .i64 x.1))) (by kernel_rfl) (by (try dsimp only); exact ⟨t2, y0, y1⟩) (fun hHeld => ?_)
  refine takeH (i := 0) (d := some 31) (v := ?_) rfl rfl (by kernel_rfl) (by kernel_rfl) (by kernel_rfl) (fun _ _ _ h => h) (Or.inl ⟨by rfl, ?_⟩) (by assumption) ?_
  rotate_left
  · intro wS hSw; (try dsimp only at hSw); go_simp; (try (with_reducible rfl))
  simp only [Act.put, zA, zB, zC]
  refine takeH (i := 1) (d := some 32) (v := ?_) rfl rfl (by kernel_rfl) (by kernel_rfl) (by kernel_rfl) (fun _ _ _ h => h) (Or.inl ⟨by rfl, ?_⟩) (by assumption) ?_
  rotate_left
  · intro wS hSw; (try dsimp only at hSw); go_simp; (try (with_reducible rfl))
  simp only [Act.put, zA, zB, zC]
  refine takeH (i := 2) (d := some 33) (v := ?_) rfl rfl (by kernel_rfl) (by kernel_rfl) (by kernel_rfl) (fun _ _ _ h => h) (Or.inl ⟨by rfl, ?_⟩) (by assumption) ?_
  rotate_left
  · intro wS hSw; (try dsimp only at hSw); go_simp; (try (with_reducible rfl))
  simp only [Act.put, zA, zB, zC]
  refine takeH (i := 3) (d := some 34) (v := ?_) rfl rfl (by kernel_rfl) (by kernel_rfl) (by kernel_rfl) (fun _ _ _ h => h) (Or.inl ⟨by rfl, ?_⟩) (by assumption) ?_
  rotate_left
  · intro wS hSw; (try dsimp only at hSw); go_simp; (try (with_reducible rfl))
  simp only [Act.put, zA, zB, zC]
  refine takeH (i := 4) (d := some 35) (v := ?_) rfl rfl (by kernel_rfl) (by kernel_rfl) (by kernel_rfl) (fun _ _ _ h => h) (Or.inl ⟨by rfl, ?_⟩) (by assumption) ?_
  rotate_left
  · intro wS hSw; (try dsimp only at hSw); go_simp; (try (with_reducible rfl))
  simp only [Act.put, zA, zB, zC]
  refine wpAnyH_ready (rs := [5]) (by kernel_rfl) (by simp) ?_
  refine AllReadyH.cons rfl (fun K hK => ?_) AllReadyH.nil
  go_simp
  have hdr : Below w2.heap.size w2 w2.drew := (Below.refl _ w2).drew
  refine (kc.get _ x.1 (by omega) (kc.below HC2.out hdr)).mono ?_
  have HDR := Lib.hid (KF.of_below (Q := Q) hdr)
  clear hdr
  rintro e w3 ⟨hk3, hc3, hcase⟩
  have hk3' : KF Q w2 w3 := HDR.out.trans hk3
  have ht3 := hk3'.tt HT2.out
  have hp3 : AtP w3 pq file x.1 := hk3'.at HP2.out (by decide) (by decide)
  have ha3 : At3 w3 wq x.1 x.2.1 x.2.2 := hk3'.at HA32.out (by decide) (by decide)
  have hk30 := HK2.out.trans hk3'
  have u2 := cellOf2 (o := 2) ht3.cells rfl
  have v0 := cellOf2 (o := 0) hp3 rfl
  have v1 := cellOf2 (o := 1) hp3 rfl
  have HT3 := Lib.hid ht3
  have HP3 := Lib.hid hp3
  have HA33 := Lib.hid ha3
  have HK3 := Lib.hid hk30
  have HC3 := Lib.hid hc3
  clear hk3 hk3' ht3 hp3 ha3 hk30 hc3
  rcases hcase with rfl | ⟨q, v, ps, hld, rfl, hbk, hnb⟩
  case inr =>
    have HLR := Lib.hid ((HLD.out ps).1 hld)
    have HBK := Lib.hid hbk
    have HNB := Lib.hid hnb
    clear hld hbk hnb
    go_wp2_with fail
    refine hK.out _ _ (by (try dsimp only); exact ⟨u2, v0, v1⟩) (fun hHeld => ?_)
    clear hK K
    refine takeH (i := 6) (d := some 30) (v := ?_) rfl rfl (by kernel_rfl) (by kernel_rfl) (by kernel_rfl) (fun _ _ _ h => h) (Or.inl ⟨by rfl, ?_⟩) (by assumption) ?_
    rotate_left
    · intro wS hSw; (try dsimp only at hSw); go_simp; (try (with_reducible rfl))
    simp only [Act.put, zA, zB, zC]
    refine takeH (i := 7) (d := some 37) (v := ?_) rfl rfl (by kernel_rfl) (by kernel_rfl) (by kernel_rfl) (fun _ _ _ h => h) (Or.inl ⟨by rfl, ?_⟩) (by assumption) ?_
    rotate_left
    · intro wS hSw; (try dsimp only at hSw); go_simp; (try (with_reducible rfl))
    simp only [Act.put, zA, zB, zC]
    refine takeH (i := 8) (d := some 38) (v := ?_) rfl rfl (by kernel_rfl) (by kernel_rfl) (by kernel_rfl) (fun _ _ _ h => h) (Or.inl ⟨by rfl, ?_⟩) (by assumption) ?_
    rotate_left
    · intro wS hSw; (try dsimp only at hSw); go_simp; (try (with_reducible rfl))
    simp only [Act.put, zA, zB, zC]
    refine takeH (i := 9) (d := some 8) (v := ?_) rfl rfl (by kernel_rfl) (by kernel_rfl) (by kernel_rfl) (fun _ _ _ h => h) (Or.inl ⟨by rfl, ?_⟩) (by assumption) ?_
    rotate_left
    · intro wS hSw; (try dsimp only at hSw); go_simp; (try (with_reducible rfl))
    simp only [Act.put, zA, zB, zC]
    refine takeH (i := 10) (d := some 9) (v := ?_) rfl rfl (by kernel_rfl) (by kernel_rfl) (by kernel_rfl) (fun _ _ _ h => h) (Or.inl ⟨by rfl, ?_⟩) (by assumption) ?_
    rotate_left
    · intro wS hSw; (try dsimp only at hSw); go_simp; (try (with_reducible rfl))
    simp only [Act.put, zA, zB, zC]
    refine wpAnyH_done (by kernel_rfl) ?_ _
    go_wp2_with fail
    go_ret2
    exact ⟨HK3.out, HC3.out, .inr ⟨q, v, ps, HLR.out, rfl, HBK.out, fun k hk => .inl (HNB.out k hk)⟩⟩
  go_wp2_with fail
  refine hK.out _ _ (by (try dsimp only); exact ⟨u2, v0, v1⟩) (fun hHeld => ?_)
  clear hK K
  refine takeH (i := 6) (d := some 30) (v := ?_) rfl rfl (by kernel_rfl) (by kernel_rfl) (by kernel_rfl) (fun _ _ _ h => h) (Or.inl ⟨by rfl, ?_⟩) (by assumption) ?_
  rotate_left
  · intro wS hSw; (try dsimp only at hSw); go_simp; (try (with_reducible rfl))
  simp only [Act.put, zA, zB, zC]
  refine takeH (i := 7) (d := some 37) (v := ?_) rfl rfl (by kernel_rfl) (by kernel_rfl) (by kernel_rfl) (fun _ _ _ h => h) (Or.inl ⟨by rfl, ?_⟩) (by assumption) ?_
  rotate_left
  · intro wS hSw; (try dsimp only at hSw); go_simp; (try (with_reducible rfl))
  simp only [Act.put, zA, zB, zC]
  refine takeH (i := 8) (d := some 38) (v := ?_) rfl rfl (by kernel_rfl) (by kernel_rfl) (by kernel_rfl) (fun _ _ _ h => h) (Or.inl ⟨by rfl, ?_⟩) (by assumption) ?_
  rotate_left
  · intro wS hSw; (try dsimp only at hSw); go_simp; (try (with_reducible rfl))
  simp only [Act.put, zA, zB, zC]
  refine takeH (i := 9) (d := some 8) (v := ?_) rfl rfl (by kernel_rfl) (by kernel_rfl) (by kernel_rfl) (fun _ _ _ h => h) (Or.inl ⟨by rfl, ?_⟩) (by assumption) ?_
  rotate_left
  · intro wS hSw; (try dsimp only at hSw); go_simp; (try (with_reducible rfl))
  simp only [Act.put, zA, zB, zC]
  refine takeH (i := 10) (d := some 9) (v := ?_) rfl rfl (by kernel_rfl) (by kernel_rfl) (by kernel_rfl) (fun _ _ _ h => h) (Or.inl ⟨by rfl, ?_⟩) (by assumption) ?_
  rotate_left
  · intro wS hSw; (try dsimp only at hSw); go_simp; (try (with_reducible rfl))
  simp only [Act.put, zA, zB, zC]
  refine wpAnyH_done (by kernel_rfl) ?_ _
  clear hHeld u2 v0 v1 t2 y0 y1
  have HF := Lib.hid fun W (hW : Nibs W) => framed_any s (x.1 : Int) ((x.1 : Int) + x.2.1) W (by omega) hW
  have hd2 := frmd_le (bl s) (x.1 : Int) ((x.1 : Int) + x.2.1)
  obtain ⟨d, hd⟩ : ∃ d, frmd (bl s) (x.1 : Int) ((x.1 : Int) + x.2.1) = d := ⟨_, rfl⟩
  rw [hd] at HF hd2
  obtain ⟨d, okf⟩ := d
  have hyes : ∀ ps, d = blk ps → okf = true → Rise ps → lastK ps = x.2.2 → LoadR (bl s) x ps := fun ps h1 h2 h3 h4 => ⟨by rw [hd, h1, h2], h3, h4⟩
  have hno : ∀ ps, LoadR (bl s) x ps → d = blk ps ∧ okf = true ∧ Rise ps ∧ lastK ps = x.2.2 := fun ps h => by
    obtain ⟨h1, h2, h3⟩ := h
    rw [hd] at h1
    injection h1 with h4 h5
    exact ⟨h4, h5, h2, h3⟩
  have HYES := Lib.hid hyes
  have HNO := Lib.hid hno
  clear hd hyes hno
  simp only at HF hd2
  have hds : (str d).size ≤ 100000000 := by
    rw [← bl_len, bl_str]; omega
  have HOP := Lib.hid fun W => open_any (str d) W hds
  rw [bl_str] at HOP
  clear hds hd2
  have t0 := cellOf2 (o := 0) HT3.out.cells rfl
  have z0 := cellOf2 (o := 0) HA33.out rfl
  have z1 := cellOf2 (o := 1) HA33.out rfl
  have wz : IntKind.i64.wrap ((x.1 : Int) + (x.2.1 : Int)) = (x.1 : Int) + (x.2.1 : Int) := IntWalk.i64_in _ (by omega)
  go_wp2_with fail
  refine wp_region_held_drew (S := (fun w' => w'.cell? ⟨p, 0, none⟩ = some (.string s) ∧ w'.cell? ⟨wq, 0, none⟩ = some (.int .i64 x.1) ∧ w'.cell? ⟨wq, 1, none⟩ = some (.int .i64 x.2.1))) (by kernel_rfl) (by (try dsimp only); exact ⟨t0, z0, z1⟩) (fun hHeld => ?_)
  refine takeH (i := 0) (d := some 42) (v := ?_) rfl rfl (by kernel_rfl) (by kernel_rfl) (by kernel_rfl) (fun _ _ _ h => h) (Or.inl ⟨by rfl, ?_⟩) (by assumption) ?_
  rotate_left
  · intro wS hSw; (try dsimp only at hSw); go_simp; (try (with_reducible rfl))
  simp only [Act.put, zA, zB, zC]
  refine takeH (i := 1) (d := some 43) (v := ?_) rfl rfl (by kernel_rfl) (by kernel_rfl) (by kernel_rfl) (fun _ _ _ h => h) (Or.inl ⟨by rfl, ?_⟩) (by assumption) ?_
  rotate_left
  · intro wS hSw; (try dsimp only at hSw); go_simp; (try (with_reducible rfl))
  simp only [Act.put, zA, zB, zC]
  refine takeH (i := 2) (d := some 44) (v := ?_) rfl rfl (by kernel_rfl) (by kernel_rfl) (by kernel_rfl) (fun _ _ _ h => h) (Or.inl ⟨by rfl, ?_⟩) (by assumption) ?_
  rotate_left
  · intro wS hSw; (try dsimp only at hSw); go_simp; (try (with_reducible rfl))
  simp only [Act.put, zA, zB, zC]
  refine takeH (i := 3) (d := some 45) (v := ?_) rfl rfl (by kernel_rfl) (by kernel_rfl) (by kernel_rfl) (fun _ _ _ h => h) (Or.inl ⟨by rfl, ?_⟩) (by assumption) ?_
  rotate_left
  · intro wS hSw; (try dsimp only at hSw); go_simp; (try (with_reducible rfl))
  simp only [Act.put, zA, zB, zC]
  refine takeH (i := 4) (d := some 46) (v := ?_) rfl rfl (by kernel_rfl) (by kernel_rfl) (by kernel_rfl) (fun _ _ _ h => h) (Or.inl ⟨by rfl, ?_⟩) (by assumption) ?_
  rotate_left
  · intro wS hSw; (try dsimp only at hSw); go_simp; (try (with_reducible rfl))
  simp only [Act.put, zA, zB, zC]
  refine takeH (i := 5) (d := some 47) (v := ?_) rfl rfl (by kernel_rfl) (by kernel_rfl) (by kernel_rfl) (fun _ _ _ h => h) (Or.inl ⟨by rfl, ?_⟩) (by assumption) ?_
  rotate_left
  · intro wS hSw; (try dsimp only at hSw); go_simp; (try (with_reducible rfl))
  simp only [Act.put, zA, zB, zC]
  refine takeH (i := 6) (d := some 48) (v := ?_) rfl rfl (by kernel_rfl) (by kernel_rfl) (by kernel_rfl) (fun _ _ _ h => h) (Or.inl ⟨by rfl, ?_⟩) (by assumption) ?_
  rotate_left
  · intro wS hSw; (try dsimp only at hSw); go_simp; (try (with_reducible rfl))
  simp only [Act.put, zA, zB, zC]
  refine takeH (i := 7) (d := some 49) (v := ?_) rfl rfl (by kernel_rfl) (by kernel_rfl) (by kernel_rfl) (fun _ _ _ h => h) (Or.inl ⟨by rfl, ?_⟩) (by assumption) ?_
  rotate_left
  · intro wS hSw; (try dsimp only at hSw); go_simp; (try (with_reducible rfl))
  simp only [Act.put, zA, zB, zC]
  refine takeH (i := 8) (d := some 50) (v := ?_) rfl rfl (by kernel_rfl) (by kernel_rfl) (by kernel_rfl) (fun _ _ _ h => h) (Or.inl ⟨by rfl, ?_⟩) (by assumption) ?_
  rotate_left
  · intro wS hSw; (try dsimp only at hSw); go_simp; (try (with_reducible rfl))
  simp only [Act.put, zA, zB, zC]
  refine takeH (i := 9) (d := some 51) (v := ?_) rfl rfl (by kernel_rfl) (by kernel_rfl) (by kernel_rfl) (fun _ _ _ h => h) (Or.inl ⟨by rfl, ?_⟩) (by assumption) ?_
  rotate_left
  · intro wS hSw; (try dsimp only at hSw); go_simp; (try (with_reducible rfl))
  simp only [Act.put, zA, zB, zC]
  refine takeH (i := 10) (d := some 52) (v := ?_) rfl rfl (by kernel_rfl) (by kernel_rfl) (by kernel_rfl) (fun _ _ _ h => h) (Or.inl ⟨by rfl, ?_⟩) (by assumption) ?_
  rotate_left
  · intro wS hSw; (try dsimp only at hSw); go_simp; (try (with_reducible rfl))
  simp only [Act.put, zA, zB, zC]
  refine wpAnyH_ready (rs := [11]) (by kernel_rfl) (by simp) ?_
  refine AllReadyH.cons rfl (fun K hK => ?_) AllReadyH.nil
  go_simp
  have hd3 : Below w3.heap.size w3 w3.drew := (Below.refl _ w3).drew
  refine (HF.out _ (HNI.out _ (HK3.out.trans (KF.of_below (Q := Q) hd3)))).mono ?_
  rintro e w4 ⟨rfl, hb4⟩
  have hb4' : Below w3.heap.size w3 w4 := hd3.trans hb4
  have k0 := (hb4'.cell (p := ⟨p, 0, none⟩) (lt_of_block HT3.out.cells)).trans t0
  have k1 := (hb4'.cell (p := ⟨wq, 0, none⟩) (lt_of_block HA33.out)).trans z0
  have k2 := (hb4'.cell (p := ⟨wq, 1, none⟩) (lt_of_block HA33.out)).trans z1
  have HT4 := Lib.hid (HT3.out.below hb4')
  have ha4 : At3 w4 wq x.1 x.2.1 x.2.2 := HA33.out.below hb4' (lt_of_block HA33.out)
  have HA34 := Lib.hid ha4
  have hp4 : AtP w4 pq file x.1 := (hb4'.block pq (lt_of_block HP3.out)).trans HP3.out
  have HP4 := Lib.hid hp4
  have HK4 := Lib.hid (HK3.out.trans (KF.of_below (Q := Q) hb4'))
  have HC4 := Lib.hid (kc.below HC3.out hb4')
  clear hd3 hb4 hb4' ha4 hp4
  go_wp2_with fail
  refine hK.out _ _ (by (try dsimp only); exact ⟨k0, k1, k2⟩) (fun hHeld => ?_)
  clear hK K
  refine takeH (i := 12) (d := some 41) (v := ?_) rfl rfl (by kernel_rfl) (by kernel_rfl) (by kernel_rfl) (fun _ _ _ h => h) (Or.inl ⟨by rfl, ?_⟩) (by assumption) ?_
  rotate_left
  · intro wS hSw; (try dsimp only at hSw); go_simp; (try (with_reducible rfl))
  simp only [Act.put, zA, zB, zC]
  refine takeH (i := 13) (d := some 54) (v := ?_) rfl rfl (by kernel_rfl) (by kernel_rfl) (by kernel_rfl) (fun _ _ _ h => h) (Or.inl ⟨by rfl, ?_⟩) (by assumption) ?_
  rotate_left
  · intro wS hSw; (try dsimp only at hSw); go_simp; (try (with_reducible rfl))
  simp only [Act.put, zA, zB, zC]
  refine takeH (i := 14) (d := some 55) (v := ?_) rfl rfl (by kernel_rfl) (by kernel_rfl) (by kernel_rfl) (fun _ _ _ h => h) (Or.inl ⟨by rfl, ?_⟩) (by assumption) ?_
  rotate_left
  · intro wS hSw; (try dsimp only at hSw); go_simp; (try (with_reducible rfl))
  simp only [Act.put, zA, zB, zC]
  refine takeH (i := 15) (d := some 10) (v := ?_) rfl rfl (by kernel_rfl) (by kernel_rfl) (by kernel_rfl) (fun _ _ _ h => h) (Or.inl ⟨by rfl, ?_⟩) (by assumption) ?_
  rotate_left
  · intro wS hSw; (try dsimp only at hSw); go_simp; (try (with_reducible rfl))
  simp only [Act.put, zA, zB, zC]
  refine takeH (i := 16) (d := some 11) (v := ?_) rfl rfl (by kernel_rfl) (by kernel_rfl) (by kernel_rfl) (fun _ _ _ h => h) (Or.inl ⟨by rfl, ?_⟩) (by assumption) ?_
  rotate_left
  · intro wS hSw; (try dsimp only at hSw); go_simp; (try (with_reducible rfl))
  simp only [Act.put, zA, zB, zC]
  refine wpAnyH_done (by kernel_rfl) ?_ _
  clear hHeld k0 k1 k2 t0 z0 z1
  go_wp2_with fail
  (with_reducible refine (HOP.out _).mono ?_)
  rintro e w5 ⟨hb5, ⟨rfl, hno⟩ | ⟨ps, p5, v5, hblk, rfl, hbk⟩⟩
  · have HK5 := Lib.hid (HK4.out.trans (KF.of_below (Q := Q) hb5))
    have HC5 := Lib.hid (kc.below HC4.out hb5)
    have HN5 := Lib.hid (show ∀ ps, ¬ LoadR (bl s) x ps from fun ps h => hno ps (HNO.out ps h).2.2.1 (HNO.out ps h).1)
    clear hb5 hno
    cases okf <;> (go_wp2_with fail; go_ret2; exact ⟨HK5.out, HC5.out, .inl ⟨rfl, HN5.out⟩⟩)
  have HK5 := Lib.hid (HK4.out.trans (KF.of_below (Q := Q) hb5))
  have HC5 := Lib.hid (kc.below HC4.out hb5)
  have HT5 := Lib.hid (HT4.out.below hb5)
  have ha5 : At3 w5 wq x.1 x.2.1 x.2.2 := HA34.out.below hb5 (lt_of_block HA34.out)
  have HA35 := Lib.hid ha5
  have hp5 : AtP w5 pq file x.1 := (hb5.block pq (lt_of_block HP4.out)).trans HP4.out
  have HP5 := Lib.hid hp5
  have HBK := Lib.hid (hbk.base (Nat.zero_le _))
  have HOW := Lib.hid (show ∀ k, v5.ownBlock = some k → w.heap.size ≤ k from fun k hk => Nat.le_trans (Fr.size HK4.out) (hbk.row.lt k hk).1)
  have hsame : ∀ ps', LoadR (bl s) x ps' → ps' = ps := fun ps' h => blk_inj (HNO.out ps' h).2.2.1 hbk.rise ((HNO.out ps' h).1.symm.trans hblk)
  have HSA := Lib.hid hsame
  have HBL := Lib.hid hblk
  clear hb5 ha5 hp5 hbk hsame hblk
  cases okf
  · have HN5 := Lib.hid (show ∀ ps, ¬ LoadR (bl s) x ps from fun ps h => absurd (HNO.out ps h).2.1 (by simp))
    go_wp2_with fail
    go_ret2
    exact ⟨HK5.out, HC5.out, .inl ⟨rfl, HN5.out⟩⟩
  have HLN := Lib.hid (bk_len p5 0 v5 ps w5 HBK.out)
  have HAT := Lib.hid (atLast_any p5 0 v5 ps w5 HBK.out)
  have hpl := HBK.out.rise.le
  have wl : IntKind.i64.wrap ((ps.length : Int) - 1) = (ps.length : Int) - 1 := IntWalk.i64_in _ (by omega)
  have HYE := Lib.hid (show lastK ps = x.2.2 → LoadR (bl s) x ps from fun h => HYES.out ps HBL.out rfl HBK.out.rise h)
  have HNE := Lib.hid (show lastK ps ≠ x.2.2 → ∀ ps', ¬ LoadR (bl s) x ps' from fun h ps' h2 => h (by have := (HNO.out ps' h2).2.2.2; rw [HSA.out ps' h2] at this; exact this))
  clear HYES HNO
  go_wp2_with fail
  (with_reducible refine HLN.out.mono ?_)
  rintro e w6 ⟨rfl, rfl⟩
  go_wp2_with fail
  (with_reducible refine HAT.out.mono ?_)
  rintro e w6 ⟨q, b6, rfl, hq, hb6⟩
  unfold prV
  have HQ := Lib.hid hq
  clear hq
  go_upto_region 11 with (fail)
  have hba6 : Below w6.heap.size w6 (w6.alloc (.cells #[.string (str q.1), .string (str q.2)] 43)) := (Below.refl _ w6).alloc (Nat.le_refl _) _
  have hpa6 : (w6.alloc (.cells #[.string (str q.1), .string (str q.2)] 43)).heap[w6.heap.size]? = some (.cells #[.string (str q.1), .string (str q.2)] 43 (0, 0)) := by
    show (w6.heap.push _)[w6.heap.size]? = _
    simp
  have hb7 := hb6.trans (hba6.mono hb6.size)
  have r0 := cellOf2 (o := 0) hpa6 rfl
  have ha7 : At3 _ wq x.1 x.2.1 x.2.2 := HA35.out.below hb7 (lt_of_block HA35.out)
  have r2 := cellOf2 (o := 2) ha7 rfl
  have hp7 : AtP _ pq file x.1 := (hb7.block pq (lt_of_block HP5.out)).trans HP5.out
  have HP7 := Lib.hid hp7
  have HT7 := Lib.hid (HT5.out.below hb7)
  have HK7 := Lib.hid (HK5.out.trans (KF.of_below (Q := Q) hb7))
  have HC7 := Lib.hid (kc.below HC5.out hb7)
  have HBK7 := Lib.hid (h2_of hb7 HBK.out)
  clear hba6 hpa6 hb7 ha7 hp7 hb6
  generalize w6.alloc (.cells #[.string (str q.1), .string (str q.2)] 43) = w7 at *
  have qe : ((str q.1).toList == (str x.2.2).toList) = decide (lastK ps = x.2.2) := by rw [ne_str, bl_str, bl_str, HQ.out]
  by_cases he : lastK ps = x.2.2
  case neg =>
    rw [decide_eq_false he] at qe
    have qn : ((str q.1).toList != (str x.2.2).toList) = true := by rw [bne, qe]; rfl
    have HN := Lib.hid (HNE.out he)
    clear he
    go_wp2_with fail
    go_ret2
    exact ⟨HK7.out, HC7.out, .inl ⟨rfl, HN.out⟩⟩
  rw [decide_eq_true he] at qe
  have qn : ((str q.1).toList != (str x.2.2).toList) = false := by rw [bne, qe]; rfl
  have HY := Lib.hid (HYE.out he)
  clear he
  have hpt := HC7.out
  have HPU := Lib.hid fun W (hW : kc.C W) (hB : Bk W 0 p5 v5 ps) => kc.put W x.1 p5 v5 ps (by omega) hW ((HLD.out ps).2 HY.out) hB
  clear hpt
  have t2 := cellOf2 (o := 2) HT7.out.cells rfl
  have y0 := cellOf2 (o := 0) HP7.out rfl
  have y1 := cellOf2 (o := 1) HP7.out rfl
  go_wp2_with fail
  refine wp_region_held_drew (S := (fun w' => w'.cell? ⟨p, 2, none⟩ = some (.pointer bo) ∧ w'.cell? ⟨pq, 0, none⟩ = some (.int .i64 file) ∧ w'.cell? ⟨pq, 1, none⟩ = some (.int .i64 x.1))) (by kernel_rfl) (by (try dsimp only); exact ⟨t2, y0, y1⟩) (fun hHeld => ?_)
  refine takeH (i := 0) (d := some 80) (v := ?_) rfl rfl (by kernel_rfl) (by kernel_rfl) (by kernel_rfl) (fun _ _ _ h => h) (Or.inl ⟨by rfl, ?_⟩) (by assumption) ?_
  rotate_left
  · intro wS hSw; (try dsimp only at hSw); go_simp; (try (with_reducible rfl))
  simp only [Act.put, zA, zB, zC]
  refine takeH (i := 1) (d := some 81) (v := ?_) rfl rfl (by kernel_rfl) (by kernel_rfl) (by kernel_rfl) (fun _ _ _ h => h) (Or.inl ⟨by rfl, ?_⟩) (by assumption) ?_
  rotate_left
  · intro wS hSw; (try dsimp only at hSw); go_simp; (try (with_reducible rfl))
  simp only [Act.put, zA, zB, zC]
  refine takeH (i := 2) (d := some 82) (v := ?_) rfl rfl (by kernel_rfl) (by kernel_rfl) (by kernel_rfl) (fun _ _ _ h => h) (Or.inl ⟨by rfl, ?_⟩) (by assumption) ?_
  rotate_left
  · intro wS hSw; (try dsimp only at hSw); go_simp; (try (with_reducible rfl))
  simp only [Act.put, zA, zB, zC]
  refine takeH (i := 3) (d := some 83) (v := ?_) rfl rfl (by kernel_rfl) (by kernel_rfl) (by kernel_rfl) (fun _ _ _ h => h) (Or.inl ⟨by rfl, ?_⟩) (by assumption) ?_
  rotate_left
  · intro wS hSw; (try dsimp only at hSw); go_simp; (try (with_reducible rfl))
  simp only [Act.put, zA, zB, zC]
  refine takeH (i := 4) (d := some 84) (v := ?_) rfl rfl (by kernel_rfl) (by kernel_rfl) (by kernel_rfl) (fun _ _ _ h => h) (Or.inl ⟨by rfl, ?_⟩) (by assumption) ?_
  rotate_left
  · intro wS hSw; (try dsimp only at hSw); go_simp; (try (with_reducible rfl))
  simp only [Act.put, zA, zB, zC]
  refine takeH (i := 5) (d := some 85) (v := ?_) rfl rfl (by kernel_rfl) (by kernel_rfl) (by kernel_rfl) (fun _ _ _ h => h) (Or.inl ⟨by rfl, ?_⟩) (by assumption) ?_
  rotate_left
  · intro wS hSw; (try dsimp only at hSw); go_simp; (try (with_reducible rfl))
  simp only [Act.put, zA, zB, zC]
  refine wpAnyH_ready (rs := [6]) (by kernel_rfl) (by simp) ?_
  refine AllReadyH.cons rfl (fun K hK => ?_) AllReadyH.nil
  go_simp
  have hd7 : Below w7.heap.size w7 w7.drew := (Below.refl _ w7).drew
  refine (HPU.out _ (kc.below HC7.out hd7) (h2_of hd7 HBK7.out)).mono ?_
  have HK8 := Lib.hid (HK7.out.trans (KF.of_below (Q := Q) hd7))
  have HT8 := Lib.hid (HT7.out.below hd7)
  have hp8 : AtP w7.drew pq file x.1 := (hd7.block pq (lt_of_block HP7.out)).trans HP7.out
  have HP8 := Lib.hid hp8
  have HB8 := Lib.hid (h2_of hd7 HBK7.out)
  clear hd7 hp8
  rintro e w9 ⟨⟨r, rfl⟩, hk9, hc9⟩
  have u2 := cellOf2 (o := 2) (hk9.tt HT8.out).cells rfl
  have hp9 : AtP w9 pq file x.1 := hk9.at HP8.out (by decide) (by decide)
  have u0 := cellOf2 (o := 0) hp9 rfl
  have u1 := cellOf2 (o := 1) hp9 rfl
  have HK9 := Lib.hid (HK8.out.trans hk9)
  have HC9 := Lib.hid hc9
  have HB9 := Lib.hid (hk9.bk HB8.out)
  clear hk9 hc9 hp9
  go_wp2_with fail
  refine hK.out _ _ (by (try dsimp only); exact ⟨u2, u0, u1⟩) (fun hHeld => ?_)
  clear hK K
  refine wpAnyH_done (by kernel_rfl) ?_ _
  go_wp2_with fail
  go_ret2
  exact ⟨HK9.out, HC9.out, .inr ⟨p5, v5, ps, HY.out, rfl, HB9.out, fun k hk => .inr (HOW.out k hk)⟩⟩
end Go.Proofs.YtdbfaknpfepnfaaGreatDoor


namespace Go.Proofs.YtdbfaknpfepnfaaGreatDoor
open Go.RowKit CodecP CrcP FrameP

theorem loadR_fun {l : List UInt8} {x : Wh} {ps qs : List Pr} (h : LoadR l x ps) (h' : LoadR l x qs) : qs = ps := by
 obtain ⟨h1, h2, -⟩ := h
 obtain ⟨h3, h4, -⟩ := h'
 rw [h1] at h3
 injection h3 with h3
 exact (blk_inj h2 h4 h3).symm
noncomputable def blkO (l : List UInt8) (x : Wh) : Option (List Pr) := @dite (Option (List Pr)) (∃ ps, LoadR l x ps) (Classical.propDecidable _) (fun h => some (Classical.choose h)) (fun _ => none)
theorem blkO_iff {l : List UInt8} {x : Wh} {ps : List Pr} : blkO l x = some ps ↔ LoadR l x ps := by
 unfold blkO
 constructor
 ·intro h
  split at h
  ·rename_i h1
   injection h with h
   rw [← h]
   exact Classical.choose_spec h1
  ·cases h
 ·intro h
  rw [dif_pos ⟨ps, h⟩]
  exact congrArg some (loadR_fun h (Classical.choose_spec (⟨ps, h⟩ : ∃ ps, LoadR l x ps)))
theorem blkO_none {l : List UInt8} {x : Wh} : blkO l x = none ↔ ∀ ps, ¬ LoadR l x ps := by
 constructor
 ·intro h ps hp
  rw [blkO_iff.2 hp] at h
  cases h
 ·intro h
  cases e : blkO l x with
  | none => rfl
  | some ps => exact absurd (blkO_iff.1 e) (h ps)
def goL : List (Option (List Pr)) → List Pr × Bool
 | [] => ([], false)
 | none :: _ => ([], true)
 | some ps :: r => (ps ++ (goL r).1, (goL r).2)
def restL (bls : List (Option (List Pr))) (i a : Nat) : List Pr × Bool := match bls[i]? with
 | none => ([], false)
 | some none => ([], true)
 | some (some ps) => (ps.drop a ++ (goL (bls.drop (i + 1))).1, (goL (bls.drop (i + 1))).2)
theorem restL_zero (bls : List (Option (List Pr))) (i : Nat) : restL bls i 0 = goL (bls.drop i) := by
 unfold restL
 cases e : bls[i]? with
 | none => rw [List.drop_of_length_le (List.getElem?_eq_none_iff.1 e)]; rfl
 | some o =>
  obtain ⟨hi, rfl⟩ := List.getElem?_eq_some_iff.1 e
  rw [List.drop_eq_getElem_cons hi]
  cases bls[i] with
  | none => rfl
  | some ps => rfl
theorem restL_over {bls : List (Option (List Pr))} {i a : Nat} {ps : List Pr} (h : bls[i]? = some (some ps)) (ha : ps.length ≤ a) : restL bls i a = restL bls (i + 1) 0 := by
 rw [restL_zero]
 unfold restL
 rw [h]
 simp only []
 rw [List.drop_of_length_le ha, List.nil_append]
theorem restL_end {bls : List (Option (List Pr))} {i a : Nat} (h : bls.length ≤ i) : restL bls i a = ([], false) := by
 unfold restL
 rw [List.getElem?_eq_none_iff.2 h]
theorem restL_bad {bls : List (Option (List Pr))} {i a : Nat} (h : bls[i]? = some none) : restL bls i a = ([], true) := by
 unfold restL
 rw [h]
theorem restL_at {bls : List (Option (List Pr))} {i a : Nat} {ps : List Pr} (h : bls[i]? = some (some ps)) (ha : a < ps.length) : restL bls i a = (ps[a] :: (restL bls i (a + 1)).1, (restL bls i (a + 1)).2) := by
 unfold restL
 rw [h]
 simp only []
 rw [List.drop_eq_getElem_cons ha]
 rfl
def KC (Q : Nat → Prop) (c : Nat) (w w' : World) : Prop := Fr (fun k => k = c ∨ (Kt w k ∧ Q k)) w w'
section
variable {Q : Nat → Prop} {c : Nat} {w w' : World}
theorem KC.refl (w : World) : KC Q c w w := Fr.refl _ w
theorem KC.of_kf (h : KF Q w w') : KC Q c w w' := Fr.mono h (fun _ _ h => .inr h)
theorem KC.of_below (h : Below w.heap.size w w') : KC Q c w w' := Fr.of_below _ h
theorem KC.trans {a b d : World} (h : KC Q c a b) (k : KC Q c b d) : KC Q c a d :=
 Fr.trans h k (fun n hn hT => by
  rcases hT with hT | ⟨⟨o, h1, h2⟩, hQ⟩
  ·exact .inl hT
  ·by_cases hk : n = c ∨ (Kt a n ∧ Q n)
   ·exact hk
   ·exact .inr ⟨⟨o, (h.block n hn hk).symm.trans h1, h2⟩, hQ⟩)
theorem KC.set (o : Nat) (v : Value) : KC Q c w (w.setCell ⟨c, o, none⟩ v) := (Fr.refl _ w).setCell (p := ⟨c, o, none⟩) (.inl (.inl rfl)) v
theorem KC.size (h : KC Q c w w') : w.heap.size ≤ w'.heap.size := Fr.size h
end
structure TbC {Q : Nat → Prop} {bo : Option Addr} {file : Int} {Ld : Nat → List Pr → Prop} (kc : Kch Q bo file Ld) (w : World) (p : Nat) (s : ByteArray) (bits : List UInt8) (ip : List Pr) (L : List Wh) (n : Nat) : Prop where
 tt : ∃ B pi vi pv, Tt w B p s file bo bits ip L n pi vi pv
 c : kc.C w
 hs : s.size ≤ 1000000000000
 hL : L.length ≤ 1000000
 hx : ∀ i (hi : i < L.length), L[i].1 + L[i].2.1 ≤ 1000000000000
 hLd : ∀ i (hi : i < L.length) ps, Ld L[i].1 ps ↔ LoadR (bl s) L[i] ps
noncomputable def blsO (s : ByteArray) (L : List Wh) : List (Option (List Pr)) := L.map (blkO (bl s))
theorem blsO_len (s : ByteArray) (L : List Wh) : (blsO s L).length = L.length := by simp [blsO]
theorem blsO_get (s : ByteArray) (L : List Wh) (i : Nat) (hi : i < L.length) : (blsO s L)[i]? = some (blkO (bl s) L[i]) := by
 unfold blsO
 rw [List.getElem?_map, List.getElem?_eq_getElem hi]
 rfl
section
variable {Q : Nat → Prop} {bo : Option Addr} {file : Int} {Ld : Nat → List Pr → Prop} {kc : Kch Q bo file Ld} {w w' : World} {p c : Nat} {s : ByteArray} {bits : List UInt8} {ip : List Pr} {L : List Wh} {n : Nat}
theorem TbC.kf (h : TbC kc w p s bits ip L n) (hf : KF Q w w') (hc : kc.C w') : TbC kc w' p s bits ip L n := by
 obtain ⟨B, pi, vi, pv, ht⟩ := h.tt
 exact ⟨⟨B, pi, vi, pv, hf.tt ht⟩, hc, h.hs, h.hL, h.hx, h.hLd⟩
theorem TbC.below (h : TbC kc w p s bits ip L n) (hb : Below w.heap.size w w') : TbC kc w' p s bits ip L n := h.kf (KF.of_below hb) (kc.below h.c hb)
theorem TbC.keep (h : TbC kc w p s bits ip L n) {S : Nat → Prop} (hf : Fr S w w') (hS : ∀ k, k < w.heap.size → S k → ∃ cs t, w.heap[k]? = some (.cells cs t (0, 0)) ∧ t ∉ [186, 189, 179, 3, 139, 183]) : TbC kc w' p s bits ip L n := by
 obtain ⟨B, pi, vi, pv, ht⟩ := h.tt
 have key : ∀ {k : Nat} {cs : Array Value} {t : TypeId}, w.heap[k]? = some (.cells cs t (0, 0)) → t ∈ [186, 189, 179, 3, 139, 183] → w'.heap[k]? = w.heap[k]? := fun {k cs t} hk ht => by
  refine hf.block k (lt_of_block hk) (fun hs => ?_)
  obtain ⟨cs2, t2, h1, h2⟩ := hS k (lt_of_block hk) hs
  rw [hk] at h1
  injection h1 with h1
  injection h1 with _ h3
  exact h2 (h3 ▸ ht)
 refine ⟨⟨B, pi, vi, pv, ⟨(key ht.cells (by decide)).trans ht.cells, ⟨(key ht.index.cells (by decide)).trans ht.index.cells, owns_of_block ht.index.row (fun k hk => ?_), ht.index.rise, ht.index.at_⟩, owns_of_block ht.places (fun k hk => ?_), ht.at_, ht.len⟩⟩, kc.keep w w' S h.c hf (fun k hk hs => ?_), h.hs, h.hL, h.hx, h.hLd⟩
 ·obtain ⟨cs, hc⟩ := own_type ht.index.row hk
  exact key hc (by decide)
 ·obtain ⟨cs, hc⟩ := own_type ht.places hk
  exact key hc (by decide)
 ·rintro ⟨o, ho, hh⟩
  obtain ⟨cs2, t2, h1, h2⟩ := hS k hk hs
  rw [h1] at ho
  injection ho with ho
  subst ho
  simp only [List.mem_cons, List.not_mem_nil, or_false] at hh h2
  rcases hh with hh | hh | hh | hh <;> simp [hh] at h2
theorem bk_keep {B q : Nat} {v : Value} {ps : List Pr} (hb : Bk w B q v ps) {S : Nat → Prop} (hf : Fr S w w') (hS : ∀ k, k < w.heap.size → S k → ∃ cs t, w.heap[k]? = some (.cells cs t (0, 0)) ∧ t ∉ [179, 3]) : Bk w' B q v ps := by
 have key : ∀ {k : Nat} {cs : Array Value} {t : TypeId}, w.heap[k]? = some (.cells cs t (0, 0)) → t ∈ [179, 3] → w'.heap[k]? = w.heap[k]? := fun {k cs t} hk ht => by
  refine hf.block k (lt_of_block hk) (fun hs => ?_)
  obtain ⟨cs2, t2, h1, h2⟩ := hS k (lt_of_block hk) hs
  rw [hk] at h1
  injection h1 with h1
  injection h1 with _ h3
  exact h2 (h3 ▸ ht)
 refine ⟨(key hb.cells (by decide)).trans hb.cells, owns_of_block hb.row (fun k hk => ?_), hb.rise, hb.at_⟩
 obtain ⟨cs, hc⟩ := own_type hb.row hk
 exact key hc (by decide)
end
def CuC (w : World) (c p : Nat) (i a : Int) (nv : Value) (ev : Int) : Prop := w.heap[c]? = some (.cells #[(Value.pointer (some ⟨p, 0, none⟩)), .int .i64 i, .int .i64 a, nv, .int .i64 ev] 157 (0, 0))
theorem CuC.types {w : World} {c p : Nat} {i a : Int} {nv : Value} {ev : Int} (h : CuC w c p i a nv ev) : ∀ k, k < w.heap.size → k = c → ∃ cs t, w.heap[k]? = some (.cells cs t (0, 0)) ∧ t ∉ [186, 189, 179, 3, 139, 183] :=
 fun k _ hk => ⟨_, _, hk ▸ h, by decide⟩
theorem CuC.types2 {w : World} {c p : Nat} {i a : Int} {nv : Value} {ev : Int} (h : CuC w c p i a nv ev) : ∀ k, k < w.heap.size → k = c → ∃ cs t, w.heap[k]? = some (.cells cs t (0, 0)) ∧ t ∉ [179, 3] :=
 fun k _ hk => ⟨_, _, hk ▸ h, by decide⟩
theorem CuC.kf {Q : Nat → Prop} {w w' : World} {c p : Nat} {i a : Int} {nv : Value} {ev : Int} (h : CuC w c p i a nv ev) (hf : KF Q w w') : CuC w' c p i a nv ev := hf.at h (by decide) (by decide)
theorem CuC.below {w w' : World} {c p : Nat} {i a : Int} {nv : Value} {ev : Int} (h : CuC w c p i a nv ev) (hb : Below w.heap.size w w') : CuC w' c p i a nv ev := (hb.block c (lt_of_block h)).trans h
def Cu (w : World) (c p : Nat) (bls : List (Option (List Pr))) (r : List Pr) (bad : Bool) : Prop :=
 (∃ i a, r = [] ∧ CuC w c p i a (.pointer none) (if bad then 9 else 0)) ∨
 (∃ (i a q : Nat) (v : Value) (ps : List Pr), bls[i]? = some (some ps) ∧ a < ps.length ∧ Bk w 0 q v ps ∧ (r, bad) = restL bls i a ∧ CuC w c p i a ((Value.pointer (some ⟨q, 0, none⟩))) 0)
def CuN (N : Nat → Prop) (w : World) (c p : Nat) (bls : List (Option (List Pr))) (r : List Pr) (bad : Bool) : Prop :=
 (∃ i a, r = [] ∧ CuC w c p i a (.pointer none) (if bad then 9 else 0)) ∨
 (∃ (i a q : Nat) (v : Value) (ps : List Pr), bls[i]? = some (some ps) ∧ a < ps.length ∧ Bk w 0 q v ps ∧ (∀ k, v.ownBlock = some k → N k) ∧ (r, bad) = restL bls i a ∧ CuC w c p i a ((Value.pointer (some ⟨q, 0, none⟩))) 0)
theorem CuN.cu {N : Nat → Prop} {w : World} {c p : Nat} {bls : List (Option (List Pr))} {r : List Pr} {bad : Bool} (h : CuN N w c p bls r bad) : Cu w c p bls r bad := by
 rcases h with ⟨i, a, h1, h2⟩ | ⟨i, a, q, v, ps, h1, h2, h3, -, h4, h5⟩
 ·exact .inl ⟨i, a, h1, h2⟩
 ·exact .inr ⟨i, a, q, v, ps, h1, h2, h3, h4, h5⟩
theorem CuN.mono {N N' : Nat → Prop} {w : World} {c p : Nat} {bls : List (Option (List Pr))} {r : List Pr} {bad : Bool} (h : CuN N w c p bls r bad) (hN : ∀ k, k < w.heap.size → N k → N' k) : CuN N' w c p bls r bad := by
 rcases h with ⟨i, a, h1, h2⟩ | ⟨i, a, q, v, ps, h1, h2, h3, h6, h4, h5⟩
 ·exact .inl ⟨i, a, h1, h2⟩
 ·exact .inr ⟨i, a, q, v, ps, h1, h2, h3, fun k hk => hN k (h3.row.lt k hk).2 (h6 k hk), h4, h5⟩
theorem Cu.kf {Q : Nat → Prop} {w w' : World} {c p : Nat} {bls : List (Option (List Pr))} {r : List Pr} {bad : Bool} (h : Cu w c p bls r bad) (hf : KF Q w w') : Cu w' c p bls r bad := by
 rcases h with ⟨i, a, h1, h2⟩ | ⟨i, a, q, v, ps, h1, h2, h3, h4, h5⟩
 ·exact .inl ⟨i, a, h1, h2.kf hf⟩
 ·exact .inr ⟨i, a, q, v, ps, h1, h2, hf.bk h3, h4, h5.kf hf⟩
theorem Cu.below {w w' : World} {c p : Nat} {bls : List (Option (List Pr))} {r : List Pr} {bad : Bool} (h : Cu w c p bls r bad) (hb : Below w.heap.size w w') : Cu w' c p bls r bad := h.kf (KF.of_below (Q := fun _ => False) hb)
end Go.Proofs.YtdbfaknpfepnfaaGreatDoor


