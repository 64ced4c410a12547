/-
  Texts of the claim, joined: TabCu3W, TabCu4W, MxTabP.
-/
import Derived.Test.YtdbfaknpfepnfaaGreatDoorMxBK19
import Derived.Test.YtdbfaknpfepnfaaGreatDoorMxBK13
set_option maxRecDepth 100000
set_option maxHeartbeats 40000000
namespace Go.Proofs.YtdbfaknpfepnfaaGreatDoor
open Go.RowKit CodecP CrcP FrameP

section
variable {Q : Nat → Prop} {bo : Option Addr} {file : Int} {Ld : Nat → List Pr → Prop} {kc : Kch Q bo file Ld} {w w' : World} {p c : Nat} {s : ByteArray} {bits : List UInt8} {ip : List Pr} {L : List Wh} {n : Nat}
theorem cuPair_any {bls : List (Option (List Pr))} {x : Pr} {r : List Pr} {bad : Bool} (h : Cu w c p bls (x :: r) bad) :
  Calls Tryz.prog 54 #[(Value.pointer (some ⟨c, 0, none⟩))] w fun e w' => e = .returned (.agg #[.string (str x.1), .string (str x.2)]) ∧ Below w.heap.size w w' := by
 have hp1 : (w.alloc (.cells #[.string ⟨#[]⟩, .string ⟨#[]⟩] 43)).heap[w.heap.size]? = some (.cells #[.string ⟨#[]⟩, .string ⟨#[]⟩] 43 (0, 0)) := by
  show (w.heap.push _)[w.heap.size]? = _
  simp
 have hb1 := ((Below.refl w.heap.size w).alloc (Nat.le_refl _) (.cells #[.string ⟨#[]⟩, .string ⟨#[]⟩] 43))
 have h1 := h.below hb1
 have HP := Lib.hid hp1
 have HB := Lib.hid hb1
 have HV := Lib.hid (cuValid_yes h1)
 have H1 := Lib.hid h1
 clear hp1 hb1 h h1
 go_enter Tryz.func54, Tryz.ntmps54
 go_upto_region 1 with (fail)
 generalize w.alloc (.cells #[.string ⟨#[]⟩, .string ⟨#[]⟩] 43) = w1 at *
 obtain ⟨i, a, q, v, ps, ha, -, h3, h4, -, h5⟩ := H1.out.some
 have c3 := cellOf2 (o := 3) h5 rfl
 have c2 := cellOf2 (o := 2) h5 rfl
 have HAT := Lib.hid fun W (hW : Below w1.heap.size w1 W) => at_yes a q 0 v ps W (h2_of hW h3) ha
 unfold prV at HAT
 rw [← h4] at HAT
 have d3 : w1.drew.cell? ⟨c, 3, none⟩ = some ((Value.pointer (some ⟨q, 0, none⟩))) := c3
 have d2 : w1.drew.cell? ⟨c, 2, none⟩ = some (.int .i64 a) := c2
 have H5 := Lib.hid h5
 clear h3 h4 h5
 go_wp2_with fail
 (with_reducible refine HV.out.mono ?_)
 rintro e w2 ⟨rfl, rfl⟩
 go_wp2_with fail
 refine wp_region_held_drew (S := (fun w' => w'.cell? ⟨c, 3, none⟩ = some ((Value.pointer (some ⟨q, 0, none⟩))) ∧ w'.cell? ⟨c, 2, none⟩ = some (.int .i64 a))) (by kernel_rfl) (by (try dsimp only); exact ⟨d3, d2⟩) (fun hHeld => ?_)
 refine takeH (i := 0) (d := some 10) (v := ?_) rfl rfl (by kernel_rfl) (by kernel_rfl) (by kernel_rfl) (fun _ _ _ h => h) (Or.inl ⟨by rfl, ?_⟩) (by assumption) ?_
 rotate_left
 ·intro wS hSw; (try dsimp only at hSw); go_simp; (try (with_reducible rfl))
 simp only [Act.put, zA, zB, zC]
 refine takeH (i := 1) (d := some 11) (v := ?_) rfl rfl (by kernel_rfl) (by kernel_rfl) (by kernel_rfl) (fun _ _ _ h => h) (Or.inl ⟨by rfl, ?_⟩) (by assumption) ?_
 rotate_left
 ·intro wS hSw; (try dsimp only at hSw); go_simp; (try (with_reducible rfl))
 simp only [Act.put, zA, zB, zC]
 refine takeH (i := 2) (d := some 12) (v := ?_) rfl rfl (by kernel_rfl) (by kernel_rfl) (by kernel_rfl) (fun _ _ _ h => h) (Or.inl ⟨by rfl, ?_⟩) (by assumption) ?_
 rotate_left
 ·intro wS hSw; (try dsimp only at hSw); go_simp; (try (with_reducible rfl))
 simp only [Act.put, zA, zB, zC]
 refine takeH (i := 3) (d := some 13) (v := ?_) rfl rfl (by kernel_rfl) (by kernel_rfl) (by kernel_rfl) (fun _ _ _ h => h) (Or.inl ⟨by rfl, ?_⟩) (by assumption) ?_
 rotate_left
 ·intro wS hSw; (try dsimp only at hSw); go_simp; (try (with_reducible rfl))
 simp only [Act.put, zA, zB, zC]
 refine takeH (i := 4) (d := some 14) (v := ?_) rfl rfl (by kernel_rfl) (by kernel_rfl) (by kernel_rfl) (fun _ _ _ h => h) (Or.inl ⟨by rfl, ?_⟩) (by assumption) ?_
 rotate_left
 ·intro wS hSw; (try dsimp only at hSw); go_simp; (try (with_reducible rfl))
 simp only [Act.put, zA, zB, zC]
 refine takeH (i := 5) (d := some 15) (v := ?_) rfl rfl (by kernel_rfl) (by kernel_rfl) (by kernel_rfl) (fun _ _ _ h => h) (Or.inl ⟨by rfl, ?_⟩) (by assumption) ?_
 rotate_left
 ·intro wS hSw; (try dsimp only at hSw); go_simp; (try (with_reducible rfl))
 simp only [Act.put, zA, zB, zC]
 refine takeH (i := 6) (d := some 16) (v := ?_) rfl rfl (by kernel_rfl) (by kernel_rfl) (by kernel_rfl) (fun _ _ _ h => h) (Or.inl ⟨by rfl, ?_⟩) (by assumption) ?_
 rotate_left
 ·intro wS hSw; (try dsimp only at hSw); go_simp; (try (with_reducible rfl))
 simp only [Act.put, zA, zB, zC]
 refine takeH (i := 7) (d := some 17) (v := ?_) rfl rfl (by kernel_rfl) (by kernel_rfl) (by kernel_rfl) (fun _ _ _ h => h) (Or.inl ⟨by rfl, ?_⟩) (by assumption) ?_
 rotate_left
 ·intro wS hSw; (try dsimp only at hSw); go_simp; (try (with_reducible rfl))
 simp only [Act.put, zA, zB, zC]
 refine wpAnyH_ready (rs := [8, 12]) (by kernel_rfl) (by simp) ?_
 refine AllReadyH.cons rfl (fun K hK => ?_) (AllReadyH.cons rfl (fun K hK => ?_) AllReadyH.nil)
 ·go_simp
  refine (HAT.out _ (Below.refl _ _).drew).mono ?_
  rintro e w3 ⟨rfl, hb3⟩
  have hb3' : Below w1.heap.size w1 w3 := (Below.refl _ w1).drew.trans hb3
  have k3 := (hb3'.cell (p := ⟨c, 3, none⟩) (lt_of_block H5.out)).trans c3
  have k2 := (hb3'.cell (p := ⟨c, 2, none⟩) (lt_of_block H5.out)).trans c2
  have HB3 := Lib.hid hb3'
  clear hb3 hb3'
  go_wp2_with fail
  refine hK.out _ _ (by (try dsimp only); exact ⟨k3, k2⟩) (fun hHeld => ?_)
  clear hK K
  refine takeH (i := 9) (d := some 9) (v := ?_) rfl rfl (by kernel_rfl) (by kernel_rfl) (by kernel_rfl) (fun _ _ _ h => h) (Or.inl ⟨by rfl, ?_⟩) (by assumption) ?_
  rotate_left
  ·intro wS hSw; (try dsimp only at hSw); go_simp; (try (with_reducible rfl))
  simp only [Act.put, zA, zB, zC]
  refine takeH (i := 10) (d := some 19) (v := ?_) rfl rfl (by kernel_rfl) (by kernel_rfl) (by kernel_rfl) (fun _ _ _ h => h) (Or.inl ⟨by rfl, ?_⟩) (by assumption) ?_
  rotate_left
  ·intro wS hSw; (try dsimp only at hSw); go_simp; (try (with_reducible rfl))
  simp only [Act.put, zA, zB, zC]
  refine takeH (i := 11) (d := some 20) (v := ?_) rfl rfl (by kernel_rfl) (by kernel_rfl) (by kernel_rfl) (fun _ _ _ h => h) (Or.inl ⟨by rfl, ?_⟩) (by assumption) ?_
  rotate_left
  ·intro wS hSw; (try dsimp only at hSw); go_simp; (try (with_reducible rfl))
  simp only [Act.put, zA, zB, zC]
  refine wpAnyH_ready (rs := [12]) (by kernel_rfl) (by simp) ?_
  refine AllReadyH.cons rfl (fun K hK => ?_) AllReadyH.nil
  go_simp
  have hb4 : Below w1.heap.size w1 (w3.alloc (.cells #[.string ⟨#[]⟩, .string ⟨#[]⟩] 43)) := HB3.out.alloc (HB3.out).size _
  have hq4 : (w3.alloc (.cells #[.string ⟨#[]⟩, .string ⟨#[]⟩] 43)).heap[w3.heap.size]? = some (.cells #[.string ⟨#[]⟩, .string ⟨#[]⟩] 43 (0, 0)) := by
   show (w3.heap.push _)[w3.heap.size]? = _
   simp
  have hge : w1.heap.size ≤ w3.heap.size := (HB3.out).size
  have j3 := (hb4.cell (p := ⟨c, 3, none⟩) (lt_of_block H5.out)).trans c3
  have j2 := (hb4.cell (p := ⟨c, 2, none⟩) (lt_of_block H5.out)).trans c2
  have HB4 := Lib.hid hb4
  have HQ4 := Lib.hid hq4
  have HGE := Lib.hid hge
  clear hb4 hq4 hge
  refine hK.out _ _ (by (try dsimp only); exact ⟨j3, j2⟩) (fun hHeld => ?_)
  clear hK K
  generalize w3.alloc (.cells #[.string ⟨#[]⟩, .string ⟨#[]⟩] 43) = w4 at *
  generalize w3.heap.size = pk at *
  refine wpAnyH_ready (rs := [13]) (by kernel_rfl) (by simp) ?_
  refine AllReadyH.cons rfl (fun K hK => ?_) AllReadyH.nil
  have y0 := cellOf2 (o := 0) HQ4.out rfl
  have y1 := cellOf2 (o := 1) HQ4.out rfl
  have yf := fun o => free_of2 o HQ4.out
  go_simp
  have hq5 := setAt2 (o := 1) (.string (str x.2)) (setAt2 (o := 0) (.string (str x.1)) HQ4.out)
  have hb5 : Below w1.heap.size w1 ((w4.setCell ⟨pk, 0, none⟩ (.string (str x.1))).setCell ⟨pk, 1, none⟩ (.string (str x.2))) := (HB4.out.setCell (p := ⟨pk, 0, none⟩) HGE.out _).setCell (p := ⟨pk, 1, none⟩) HGE.out _
  have i3 := (hb5.cell (p := ⟨c, 3, none⟩) (lt_of_block H5.out)).trans c3
  have i2 := (hb5.cell (p := ⟨c, 2, none⟩) (lt_of_block H5.out)).trans c2
  have HB5 := Lib.hid hb5
  have HQ5 := Lib.hid hq5
  clear hb5 hq5 y0 y1 yf
  refine hK.out _ _ (by (try dsimp only); exact ⟨i3, i2⟩) (fun hHeld => ?_)
  clear hK K
  refine takeH (i := 14) (d := some 4) (v := ?_) rfl rfl (by kernel_rfl) (by kernel_rfl) (by kernel_rfl) (fun _ _ _ h => h) (Or.inl ⟨by rfl, ?_⟩) (by assumption) ?_
  rotate_left
  ·intro wS hSw; (try dsimp only at hSw); go_simp; (try (with_reducible rfl))
  simp only [Act.put, zA, zB, zC]
  refine wpAnyH_done (by kernel_rfl) ?_ _
  clear hHeld
  generalize (w4.setCell ⟨pk, 0, none⟩ (.string (str x.1))).setCell ⟨pk, 1, none⟩ (.string (str x.2)) = w6 at *
  have hp6 := (HB5.out.block w.heap.size (lt_of_block HP.out)).trans HP.out
  have z0 := cellOf2 (o := 0) HQ5.out rfl
  have z1 := cellOf2 (o := 1) HQ5.out rfl
  have r0 := cellOf2 (o := 0) hp6 rfl
  have r1 := cellOf2 (o := 1) hp6 rfl
  have f0 := free_of2 0 hp6
  have f1 := free_of2 1 hp6
  have hs := setAt2 (o := 1) (.string (str x.2)) (setAt2 (o := 0) (.string (str x.1)) hp6)
  have b0 := cellOf2 (o := 0) hs rfl
  have b1 := cellOf2 (o := 1) hs rfl
  have hbw : Below w.heap.size w w6 := HB.out.trans (HB5.out.mono HB.out.size)
  have HBB := Lib.hid ((hbw.setCell (p := ⟨w.heap.size, 0, none⟩) (Nat.le_refl _) (.string (str x.1))).setCell (p := ⟨w.heap.size, 1, none⟩) (Nat.le_refl _) (.string (str x.2)))
  clear hs hp6 hbw
  go_wp2_with fail
  exact bodyPost_ret (v := .agg #[.string (str x.1), .string (str x.2)]) (by simp [results, Tryz.results54, go_sem, b0, b1]) rfl ⟨rfl, HBB.out⟩
 ·go_simp
  have hb4 : Below w1.heap.size w1 (w1.alloc (.cells #[.string ⟨#[]⟩, .string ⟨#[]⟩] 43)).drew := ((Below.refl w1.heap.size w1).alloc (Nat.le_refl _) _).drew
  have hq4 : (w1.alloc (.cells #[.string ⟨#[]⟩, .string ⟨#[]⟩] 43)).drew.heap[w1.heap.size]? = some (.cells #[.string ⟨#[]⟩, .string ⟨#[]⟩] 43 (0, 0)) := by
   show (w1.heap.push _)[w1.heap.size]? = _
   simp
  have hge : w1.heap.size ≤ w1.heap.size := Nat.le_refl _
  have j3 := (hb4.cell (p := ⟨c, 3, none⟩) (lt_of_block H5.out)).trans c3
  have j2 := (hb4.cell (p := ⟨c, 2, none⟩) (lt_of_block H5.out)).trans c2
  have HB4 := Lib.hid hb4
  have HQ4 := Lib.hid hq4
  have HGE := Lib.hid hge
  clear hb4 hq4 hge
  refine hK.out _ _ (by (try dsimp only); exact ⟨j3, j2⟩) (fun hHeld => ?_)
  clear hK K
  generalize (w1.alloc (.cells #[.string ⟨#[]⟩, .string ⟨#[]⟩] 43)).drew = w4 at *
  refine wpAnyH_ready (rs := [8]) (by kernel_rfl) (by simp) ?_
  refine AllReadyH.cons rfl (fun K hK => ?_) AllReadyH.nil
  go_simp
  refine (HAT.out _ HB4.out).mono ?_
  rintro e w3 ⟨rfl, hb3⟩
  have hb3' : Below w1.heap.size w1 w3 := HB4.out.trans (hb3.mono HB4.out.size)
  have k3 := (hb3'.cell (p := ⟨c, 3, none⟩) (lt_of_block H5.out)).trans c3
  have k2 := (hb3'.cell (p := ⟨c, 2, none⟩) (lt_of_block H5.out)).trans c2
  have HQ3 := Lib.hid ((hb3.block w1.heap.size (lt_of_block HQ4.out)).trans HQ4.out)
  have HB3 := Lib.hid hb3'
  clear hb3 hb3'
  go_wp2_with fail
  refine hK.out _ _ (by (try dsimp only); exact ⟨k3, k2⟩) (fun hHeld => ?_)
  clear hK K
  refine takeH (i := 9) (d := some 9) (v := ?_) rfl rfl (by kernel_rfl) (by kernel_rfl) (by kernel_rfl) (fun _ _ _ h => h) (Or.inl ⟨by rfl, ?_⟩) (by assumption) ?_
  rotate_left
  ·intro wS hSw; (try dsimp only at hSw); go_simp; (try (with_reducible rfl))
  simp only [Act.put, zA, zB, zC]
  refine takeH (i := 10) (d := some 19) (v := ?_) rfl rfl (by kernel_rfl) (by kernel_rfl) (by kernel_rfl) (fun _ _ _ h => h) (Or.inl ⟨by rfl, ?_⟩) (by assumption) ?_
  rotate_left
  ·intro wS hSw; (try dsimp only at hSw); go_simp; (try (with_reducible rfl))
  simp only [Act.put, zA, zB, zC]
  refine takeH (i := 11) (d := some 20) (v := ?_) rfl rfl (by kernel_rfl) (by kernel_rfl) (by kernel_rfl) (fun _ _ _ h => h) (Or.inl ⟨by rfl, ?_⟩) (by assumption) ?_
  rotate_left
  ·intro wS hSw; (try dsimp only at hSw); go_simp; (try (with_reducible rfl))
  simp only [Act.put, zA, zB, zC]
  refine wpAnyH_ready (rs := [13]) (by kernel_rfl) (by simp) ?_
  refine AllReadyH.cons rfl (fun K hK => ?_) AllReadyH.nil
  have y0 := cellOf2 (o := 0) HQ3.out rfl
  have y1 := cellOf2 (o := 1) HQ3.out rfl
  have yf := fun o => free_of2 o HQ3.out
  go_simp
  have hq5 := setAt2 (o := 1) (.string (str x.2)) (setAt2 (o := 0) (.string (str x.1)) HQ3.out)
  have hb5 : Below w1.heap.size w1 ((w3.setCell ⟨w1.heap.size, 0, none⟩ (.string (str x.1))).setCell ⟨w1.heap.size, 1, none⟩ (.string (str x.2))) := (HB3.out.setCell (p := ⟨w1.heap.size, 0, none⟩) HGE.out _).setCell (p := ⟨w1.heap.size, 1, none⟩) HGE.out _
  have i3 := (hb5.cell (p := ⟨c, 3, none⟩) (lt_of_block H5.out)).trans c3
  have i2 := (hb5.cell (p := ⟨c, 2, none⟩) (lt_of_block H5.out)).trans c2
  have HB5 := Lib.hid hb5
  have HQ5 := Lib.hid hq5
  clear hb5 hq5 y0 y1 yf
  refine hK.out _ _ (by (try dsimp only); exact ⟨i3, i2⟩) (fun hHeld => ?_)
  clear hK K
  refine takeH (i := 14) (d := some 4) (v := ?_) rfl rfl (by kernel_rfl) (by kernel_rfl) (by kernel_rfl) (fun _ _ _ h => h) (Or.inl ⟨by rfl, ?_⟩) (by assumption) ?_
  rotate_left
  ·intro wS hSw; (try dsimp only at hSw); go_simp; (try (with_reducible rfl))
  simp only [Act.put, zA, zB, zC]
  refine wpAnyH_done (by kernel_rfl) ?_ _
  clear hHeld
  generalize (w3.setCell ⟨w1.heap.size, 0, none⟩ (.string (str x.1))).setCell ⟨w1.heap.size, 1, none⟩ (.string (str x.2)) = w6 at *
  have hp6 := (HB5.out.block w.heap.size (lt_of_block HP.out)).trans HP.out
  have z0 := cellOf2 (o := 0) HQ5.out rfl
  have z1 := cellOf2 (o := 1) HQ5.out rfl
  have r0 := cellOf2 (o := 0) hp6 rfl
  have r1 := cellOf2 (o := 1) hp6 rfl
  have f0 := free_of2 0 hp6
  have f1 := free_of2 1 hp6
  have hs := setAt2 (o := 1) (.string (str x.2)) (setAt2 (o := 0) (.string (str x.1)) hp6)
  have b0 := cellOf2 (o := 0) hs rfl
  have b1 := cellOf2 (o := 1) hs rfl
  have hbw : Below w.heap.size w w6 := HB.out.trans (HB5.out.mono HB.out.size)
  have HBB := Lib.hid ((hbw.setCell (p := ⟨w.heap.size, 0, none⟩) (Nat.le_refl _) (.string (str x.1))).setCell (p := ⟨w.heap.size, 1, none⟩) (Nat.le_refl _) (.string (str x.2)))
  clear hs hp6 hbw
  go_wp2_with fail
  exact bodyPost_ret (v := .agg #[.string (str x.1), .string (str x.2)]) (by simp [results, Tryz.results54, go_sem, b0, b1]) rfl ⟨rfl, HBB.out⟩
end
end Go.Proofs.YtdbfaknpfepnfaaGreatDoor


namespace Go.Proofs.YtdbfaknpfepnfaaGreatDoor
open Go.RowKit CodecP CrcP FrameP

def seekL (bls : List (Option (List Pr))) (key : List UInt8) (j : Nat) : List Pr × Bool := match bls[j]? with
 | some (some ps) => restL bls j (findN key ps)
 | _ => restL bls j 0
section
variable {Q : Nat → Prop} {bo : Option Addr} {file : Int} {Ld : Nat → List Pr → Prop} {kc : Kch Q bo file Ld} {w w' : World} {p c : Nat} {s : ByteArray} {bits : List UInt8} {ip : List Pr} {L : List Wh} {n : Nat}
theorem cuSeek_any (key : ByteArray) (x1 x2 : Int) (x3 : Value) (hc : CuC w c p x1 x2 x3 0) (hT : TbC kc w p s bits ip L n) (hne : ∀ (i : Nat) (ps : List Pr), (blsO s L)[i]? = some (some ps) → ps ≠ []) (hni : ∀ W, KC Q c w W → Nibs W) :
  Calls Tryz.prog 57 #[(Value.pointer (some ⟨c, 0, none⟩)), .string key] w fun e w' => e = .returned (.tuple #[]) ∧ KC Q c w w' ∧ TbC kc w' p s bits ip L n ∧ CuN (fun k => kc.nb k ∨ w.heap.size ≤ k) w' c p (blsO s L) (seekL (blsO s L) (bl key) (findN (bl key) ip)).1 (seekL (blsO s L) (bl key) (findN (bl key) ip)).2 := by
 obtain ⟨B, pi, vi, pv, ht⟩ := hT.tt
 have c0 := cellOf2 (o := 0) hc rfl
 have t4 := cellOf2 (o := 4) ht.cells rfl
 have HSK := Lib.hid (seek_any pi B vi ip key w ht.index)
 have hjl : findN (bl key) ip ≤ L.length := by rw [ht.len]; exact findN_le _ _
 generalize findN (bl key) ip = j at *
 have hLl := hT.hL
 have HE := Lib.hid fun W (hW : Below w.heap.size w W) => enter_any (kc := kc) p c s bits ip L n L.length j 0 x1 x2 x3 W (by omega) (hc.below hW) (hT.below hW) (fun W2 hW2 => hni W2 ((KC.of_below hW).trans hW2)) (by omega) (by omega)
 rw [show ((0 : Nat) : Int) = 0 from rfl] at HE
 have HNI := Lib.hid hni
 have HNE := Lib.hid hne
 clear hc hT hni hne ht
 go_enter Tryz.func57, Tryz.ntmps57
 go_wp2_with fail
 (with_reducible refine HSK.out.mono ?_)
 rintro e w1 ⟨rfl, hb1⟩
 have HB1 := Lib.hid hb1
 clear hb1
 go_wp2_with fail
 (with_reducible refine (HE.out _ HB1.out).mono ?_)
 rintro e w2 hE
 obtain ⟨rfl, hk2, hT2, i', a', h1, h2, h3⟩ := hE
 have HK2 := Lib.hid ((KC.of_below (c := c) HB1.out).trans hk2)
 have HT2 := Lib.hid hT2
 have hsame : restL (blsO s L) j 0 = ([], (restL (blsO s L) j 0).2) → seekL (blsO s L) (bl key) j = restL (blsO s L) j 0 := fun h => by
  unfold seekL
  cases e : (blsO s L)[j]? with
  | none => rfl
  | some o =>
   cases o with
   | none => rfl
   | some ps =>
    have hp : 0 < ps.length := List.length_pos_iff.2 (HNE.out j ps e)
    rw [restL_at e hp] at h
    injection h with h
    cases h
 clear hk2 hT2
 rcases h3 with ⟨h4, y1, y2, h5⟩ | ⟨h4, y1, y2, h5⟩ | ⟨q, v, ps, h4, h5, h6, -, h7⟩
 ·have e1 := restL_end (a := a') (List.getElem?_eq_none_iff.1 h4)
  rw [e1] at h1
  have HS := Lib.hid ((hsame (by rw [← h1])).trans h1.symm)
  have k3 := cellOf2 (o := 3) h5 rfl
  have H5 := Lib.hid h5
  clear h1 h2 h4 h5 hsame
  go_wp2_with fail
  go_end0
  rw [HS.out]
  exact ⟨rfl, HK2.out, HT2.out, .inl ⟨y1, y2, rfl, H5.out⟩⟩
 ·have e1 := restL_bad (a := a') h4
  rw [e1] at h1
  have HS := Lib.hid ((hsame (by rw [← h1])).trans h1.symm)
  have k3 := cellOf2 (o := 3) h5 rfl
  have H5 := Lib.hid h5
  clear h1 h2 h4 h5 hsame
  go_wp2_with fail
  go_end0
  rw [HS.out]
  exact ⟨rfl, HK2.out, HT2.out, .inl ⟨y1, y2, rfl, H5.out⟩⟩
 ·have hj : (blsO s L)[j]? = some (some ps) ∧ i' = j := by
   cases e : (blsO s L)[j]? with
   | none =>
    rw [restL_at h4 h5, restL_end (List.getElem?_eq_none_iff.1 e)] at h1
    injection h1 with h1
    cases h1
   | some o =>
    cases o with
    | none =>
     rw [restL_at h4 h5, restL_bad e] at h1
     injection h1 with h1
     cases h1
    | some ps2 =>
     obtain ⟨rfl, rfl⟩ := h2 ps2 e (List.length_pos_iff.2 (HNE.out j ps2 e))
     rw [h4] at e
     exact ⟨e ▸ rfl, rfl⟩
  obtain ⟨hj, rfl⟩ := hj
  have hsk : seekL (blsO s L) (bl key) i' = restL (blsO s L) i' (findN (bl key) ps) := by
   unfold seekL
   rw [hj]
  have HS := Lib.hid hsk
  have hfl := findN_le (bl key) ps
  have hpl := h6.rise.le
  have k3 := cellOf2 (o := 3) h7 rfl
  have k1 := cellOf2 (o := 1) h7 rfl
  have HSK2 := Lib.hid fun W (hW : Below w2.heap.size w2 W) => seek_any q 0 v ps key W (h2_of hW h6)
  have HE2 := Lib.hid fun W (hW : Below w2.heap.size w2 W) => enter_any (kc := kc) p c s bits ip L n L.length i' (findN (bl key) ps) i' a' ((Value.pointer (some ⟨q, 0, none⟩))) W (by omega) (h7.below hW) (HT2.out.below hW) (fun W2 hW2 => HNI.out W2 (HK2.out.trans ((KC.of_below hW).trans hW2))) (by omega) (by omega)
  have H7 := Lib.hid h7
  clear h1 h2 h4 h5 h6 h7 hj hsk hsame
  generalize hA2 : findN (bl key) ps = a2 at *
  clear hA2
  go_wp2_with fail
  go_region_with (first | (go_at_call 89; refine (HSK2.out _ ?_).mono ?_; exact (Below.refl _ _).drew; rintro e w3 ⟨rfl, hb3⟩; have hb4 : Below w2.heap.size w2 w3 := (Below.refl _ w2).drew.trans hb3; have j1 := (hb4.cell (p := ⟨c, 1, none⟩) (lt_of_block H7.out)).trans k1) | (go_at_call 101; refine (HE2.out _ (by assumption)).mono ?_; rintro e w4 hE; have hcu := hE.cu; obtain ⟨rfl, hk4, hT4, -⟩ := hE; have HK4 := Lib.hid (HK2.out.trans ((KC.of_below (c := c) hb4).trans hk4)); have HT4 := Lib.hid hT4; have hsz4 : w.heap.size ≤ w3.heap.size := Nat.le_trans (KC.size HK2.out) hb4.size; have HC4 := Lib.hid (hcu.mono (N' := fun k => kc.nb k ∨ w.heap.size ≤ k) (fun k _ h => h.imp id (fun h => Nat.le_trans hsz4 h))); clear hcu hk4 hT4 hsz4) | fail)
  all_goals (go_wp2_with fail; go_end0; rw [HS.out]; exact ⟨rfl, HK4.out, HT4.out, HC4.out⟩)
end
end Go.Proofs.YtdbfaknpfepnfaaGreatDoor


namespace Go.Proofs.YtdbfaknpfepnfaaGreatDoor
open Go.RowKit CodecP CrcP FrameP
namespace Mx

theorem goL_good : ∀ bls : List (Option (List Pr)), (goL bls).2 = false → ∃ ls : List (List Pr), bls = ls.map some
 | [], _ => ⟨[], rfl⟩
 | none :: _, h => by cases h
 | some ps :: r, h => by
  obtain ⟨ls, e⟩ := goL_good r h
  exact ⟨ps :: ls, by rw [e]; rfl⟩
theorem goL_all (bs : List (List Pr)) : goL (bs.map some) = (bs.flatten, false) := by
 induction bs with
 | nil => rfl
 | cons b r ih => simp [goL, ih]
theorem blsO_good {bs : List (List Pr)} {sb : ByteArray} (hl : ∀ i (hi : i < (whs 0 bs).length) ps, LoadR (bl sb) (whs 0 bs)[i] ps → ps = bs[i]'(by rw [whs_len] at hi; exact hi)) (h : (goL (blsO sb (whs 0 bs))).2 = false) : blsO sb (whs 0 bs) = bs.map some := by
 obtain ⟨ls, hls⟩ := goL_good _ h
 have hlen : ls.length = bs.length := by
  have := congrArg List.length hls
  rw [blsO_len, whs_len, List.length_map] at this
  exact this.symm
 rw [hls]
 congr 1
 apply List.ext_getElem hlen
 intro i h1 h2
 have hi : i < (whs 0 bs).length := by rw [whs_len]; exact h2
 have e := blsO_get sb (whs 0 bs) i hi
 rw [hls, List.getElem?_map, List.getElem?_eq_getElem h1] at e
 simp only [Option.map_some, Option.some.injEq] at e
 exact hl i hi _ (blkO_iff.1 e.symm)
theorem findN_app (key : List UInt8) : ∀ A B : List Pr, (∀ p ∈ A, p.1 < key) → findN key (A ++ B) = A.length + findN key B
 | [], B, _ => by simp
 | p :: A, B, h => by
  rw [List.cons_append, findN, if_pos (h p (by simp)), findN_app key A B (fun q hq => h q (by simp [hq])), List.length_cons]
  omega
theorem findN_pre (key : List UInt8) : ∀ A B : List Pr, findN key A < A.length → findN key (A ++ B) = findN key A
 | [], B, h => absurd h (Nat.not_lt_zero _)
 | p :: A, B, h => by
  rw [List.cons_append, findN, findN]
  by_cases hp : p.1 < key
  ·rw [if_pos hp, if_pos hp]
   rw [findN, if_pos hp, List.length_cons] at h
   rw [findN_pre key A B (by omega)]
  ·rw [if_neg hp, if_neg hp]
theorem seekL_whole {bs : List (List Pr)} {l : List Pr} (h : BksI bs l) (key : List UInt8) : seekL (bs.map some) key (findN key (idx bs)) = (l.drop (findN key l), false) := by
 have hj := findN_le key (idx bs)
 rw [idx_len] at hj
 have hlow : ∀ i (hi : i < bs.length), i < findN key (idx bs) → ∀ p ∈ bs[i], p.1 < key := fun i hi hij p hp => by
  have h1 := findN_lt key (idx bs) i hij
  rw [idx_get bs i (by rw [idx_len]; exact hi)] at h1
  have h2 := last_ge (h.rise _ (List.getElem_mem hi)) hp
  by_cases hlt : p.1 < key
  ·exact hlt
  ·exact absurd h1 (nlt_trans h2 hlt)
 have hA : ∀ p ∈ (bs.take (findN key (idx bs))).flatten, p.1 < key := fun p hp => by
  obtain ⟨b, hb, hpb⟩ := List.mem_flatten.1 hp
  obtain ⟨i, hi, rfl⟩ := List.getElem_of_mem hb
  rw [List.length_take] at hi
  rw [List.getElem_take] at hpb
  exact hlow i (by omega) (by omega) p hpb
 have hfl : l = (bs.take (findN key (idx bs))).flatten ++ (bs.drop (findN key (idx bs))).flatten := by
  rw [← List.flatten_append, List.take_append_drop]; exact h.flat.symm
 have hat := findN_at key (idx bs)
 generalize findN key (idx bs) = j at *
 rcases Nat.lt_or_ge j bs.length with hlt | hge
 ·have hnl : ¬ lastK bs[j] < key := by
   have := hat (by rw [idx_len]; exact hlt)
   rw [idx_get] at this
   exact this
  have hne : bs[j] ≠ [] := h.ne _ (List.getElem_mem hlt)
  have hpos : 0 < bs[j].length := List.length_pos_iff.2 hne
  have hfa : findN key bs[j] < bs[j].length := by
   rcases Nat.lt_or_ge (findN key bs[j]) bs[j].length with h1 | h1
   ·exact h1
   ·exfalso
    refine hnl ?_
    rw [lastK_get _ hpos]
    exact findN_lt key bs[j] (bs[j].length - 1) (by omega)
  have e1 : findN key l = (bs.take j).flatten.length + findN key bs[j] := by
   rw [hfl, findN_app key _ _ hA, List.drop_eq_getElem_cons hlt, List.flatten_cons, findN_pre key _ _ hfa]
  have e2 : l.drop (findN key l) = bs[j].drop (findN key bs[j]) ++ (bs.drop (j + 1)).flatten := by
   rw [e1]
   conv => lhs; rw [hfl]
   rw [← List.drop_drop, List.drop_left, List.drop_eq_getElem_cons hlt, List.flatten_cons, List.drop_append_of_le_length (by omega)]
  unfold seekL restL
  rw [List.getElem?_map, List.getElem?_eq_getElem hlt]
  simp only [Option.map_some]
  rw [← List.map_drop, goL_all, e2]
 ·have e1 : findN key l = l.length := by
   conv => lhs; rw [hfl]
   conv => rhs; rw [hfl]
   rw [findN_app key _ _ hA, List.drop_of_length_le hge]
   simp [findN]
  rw [e1, List.drop_length]
  unfold seekL
  rw [List.getElem?_eq_none (by rw [List.length_map]; exact hge)]
  simp only []
  rw [restL_end (by rw [List.length_map]; exact hge)]
end Mx
end Go.Proofs.YtdbfaknpfepnfaaGreatDoor


