/-
  Texts of the claim, joined: MxGoW, CurViewP, CurViewW, CurView2W, CurOneW.
-/
import Derived.Test.YtdbfaknpfepnfaaGreatDoorMxBK27
import Derived.Test.YtdbfaknpfepnfaaGreatDoorMxBK31
import Derived.Test.YtdbfaknpfepnfaaGreatDoorMxBK11
set_option maxRecDepth 100000
set_option maxHeartbeats 40000000
namespace Go.Proofs.YtdbfaknpfepnfaaGreatDoor
open Go.RowKit CodecP CrcP FrameP
namespace Mx

attribute [local go_sem] yl_undef
def MxS (w1 : World) (cs : Nat → Prop) (w : World) (p : Nat) (lv kv : Value) (sg : List (List Pr × Bool)) (r : List Pr) : Prop :=
 ∃ hv m, Mg w1 cs 0 w p lv hv kv m ∧ Stand m ∧ Ups m ∧ Fine m ∧ Good m ∧ sig m.ss = sg ∧ IsM (rems m) r
def MxE (w1 : World) (cs : Nat → Prop) (w : World) (p : Nat) (lv kv : Value) : Prop := ∃ hv m, Mg w1 cs 9 w p lv hv kv m
def noBad (sg : List (List Pr × Bool)) : Prop := ∀ x ∈ sg, x.2 = false
theorem noBad.no {ss : List Src} (h : noBad (sig ss)) : ¬ ∃ i, ∃ h : i < ss.length, ss[i].bad = true := by
 rintro ⟨i, hi, hb⟩
 have := h (ss[i].l, ss[i].bad) (List.mem_map.2 ⟨ss[i], List.getElem_mem hi, rfl⟩)
 rw [hb] at this
 cases this
section
variable {w1 w w' : World} {cs : Nat → Prop} {p : Nat} {lv kv : Value} {sg : List (List Pr × Bool)} {r : List Pr}
theorem MxS.below (h : MxS w1 cs w p lv kv sg r) (hb : Below w.heap.size w w') : MxS w1 cs w' p lv kv sg r := by
 obtain ⟨hv, m, h1, h2⟩ := h
 exact ⟨hv, m, h1.below hb, h2⟩
theorem MxE.below (h : MxE w1 cs w p lv kv) (hb : Below w.heap.size w w') : MxE w1 cs w' p lv kv := by
 obtain ⟨hv, m, h1⟩ := h
 exact ⟨hv, m, h1.below hb⟩
theorem sValid_yes {x : Pr} (h : MxS w1 cs w p lv kv sg (x :: r)) :
  Calls Tryz.prog 41 #[(Value.pointer (some ⟨p, 0, none⟩))] w fun e w' => e = .returned (.bool true) ∧ w = w' := by
 obtain ⟨hv, m, h1, h2, h3, h4, h5, h6, h7⟩ := h
 have := mxgValid_any h1
 rw [decide_eq_true (IsM.ne_empty h2 h7)] at this
 exact this
theorem sValid_no (h : MxS w1 cs w p lv kv sg []) :
  Calls Tryz.prog 41 #[(Value.pointer (some ⟨p, 0, none⟩))] w fun e w' => e = .returned (.bool false) ∧ w = w' := by
 obtain ⟨hv, m, h1, h2, h3, h4, h5, h6, h7⟩ := h
 have := mxgValid_any h1
 rw [decide_eq_false (by have := IsM.empty h2 h7; omega)] at this
 exact this
theorem eValid (h : MxE w1 cs w p lv kv) :
  Calls Tryz.prog 41 #[(Value.pointer (some ⟨p, 0, none⟩))] w fun e w' => e = .returned (.bool false) ∧ w = w' := by
 obtain ⟨hv, m, h1⟩ := h
 exact mxgValid_er h1
theorem sErr (h : MxS w1 cs w p lv kv sg r) :
  Calls Tryz.prog 42 #[(Value.pointer (some ⟨p, 0, none⟩))] w fun e w' => e = .returned (.int .i64 0) ∧ w = w' := by
 obtain ⟨hv, m, h1, -⟩ := h
 exact mxgErr_any h1
theorem eErr (h : MxE w1 cs w p lv kv) :
  Calls Tryz.prog 42 #[(Value.pointer (some ⟨p, 0, none⟩))] w fun e w' => e = .returned (.int .i64 9) ∧ w = w' := by
 obtain ⟨hv, m, h1⟩ := h
 exact mxgErr_any h1
theorem sPair {x : Pr} (h : MxS w1 cs w p lv kv sg (x :: r)) :
  Calls Tryz.prog 47 #[(Value.pointer (some ⟨p, 0, none⟩))] w fun e w' => e = .returned (.agg #[.string (str x.1), .string (str x.2)]) ∧ Below w.heap.size w w' := by
 obtain ⟨hv, m, h1, h2, h3, h4, h5, h6, h7⟩ := h
 exact mxgPair_any h1 h2 h3 (IsM.ne_empty h2 h7) x (IsM.head h2 h5 h7)
theorem sPair_no (h : MxS w1 cs w p lv kv sg []) :
  Calls Tryz.prog 47 #[(Value.pointer (some ⟨p, 0, none⟩))] w fun e w' => e = .returned (.agg #[.string ⟨#[]⟩, .string ⟨#[]⟩]) ∧ Below w.heap.size w w' :=
 mxgPair_no (fun _ hW => sValid_no (h.below hW))
theorem ePair (h : MxE w1 cs w p lv kv) :
  Calls Tryz.prog 47 #[(Value.pointer (some ⟨p, 0, none⟩))] w fun e w' => e = .returned (.agg #[.string ⟨#[]⟩, .string ⟨#[]⟩]) ∧ Below w.heap.size w w' :=
 mxgPair_no (fun _ hW => eValid (h.below hW))
theorem sNext {x : Pr} (C : Ctx w1 cs) (h : MxS w1 cs w p lv kv sg (x :: r)) :
  Calls Tryz.prog 48 #[(Value.pointer (some ⟨p, 0, none⟩))] w fun e w' => e = .returned (.tuple #[]) ∧ MF w1 cs w w' ∧ (MxS w1 cs w' p lv kv sg r ∨ (MxE w1 cs w' p lv kv ∧ ¬ noBad sg)) := by
 obtain ⟨hv, m, h1, h2, h3, h4, h5, h6, h7⟩ := h
 refine (mxgNext_any C x r h1 h2 h5 h4 h3 h7).mono ?_
 rintro e w' ⟨he, hf, hv', m', er', g1, g2, g3, g4, g5, ⟨rfl, g6, g7⟩ | ⟨rfl, g6⟩⟩
 ·exact ⟨he, hf, .inl ⟨hv', m', g1, g2, g3, g6, g4.good h5, g5.trans h6, g7⟩⟩
 ·exact ⟨he, hf, .inr ⟨⟨hv', m', g1⟩, fun hn => noBad.no (h6 ▸ hn) g6⟩⟩
end
theorem goes_any {w1 : World} {cs : Nat → Prop} {p : Nat} {lv kv : Value} {sg : List (List Pr × Bool)} (C : Ctx w1 cs) (v : Value) (o : List Pr) (w : World) (h : MxS w1 cs w p lv kv sg o) (hn : noBad sg) (hr : w.ownsRow 0 40 2 v o.length (flatR o)) (hl : o.length ≤ 10000000) :
  Calls Tryz.prog 45 #[(Value.pointer (some ⟨p, 0, none⟩)), v] w fun e w' => e = .returned (.bool true) ∧ MF w1 cs w w' ∧ MxS w1 cs w' p lv kv sg [] := by
 obtain ⟨ao, cp, hv⟩ := own_form hr
 subst hv
 have HROW := Lib.hid (fun W (hW : MF w1 cs w W) => hW.row hr (by decide))
 have H := Lib.hid h
 have HN := Lib.hid hn
 clear h hn hr
 go_enter Tryz.func45, Tryz.ntmps45
 go_wp2_with fail
 go_loopg [5] o.length (fun g iv wr => ∃ i : Nat, i + g = o.length ∧ iv = .int .i64 i ∧ MF w1 cs w wr ∧ MxS w1 cs wr p lv kv sg (o.drop i))
 case atStart => exact ⟨0, by omega, rfl, MF.refl _, by rw [List.drop_zero]; exact H.out⟩
 case round =>
  clear H
  obtain ⟨i, hig, rfl, hmf, hs⟩ := hrel
  have HMF := Lib.hid hmf
  have HS := Lib.hid hs
  have HIG := Lib.hid hig
  clear hmf hs hig
  by_cases hlt : i < o.length
  ·have hrow := HROW.out wr HMF.out
   obtain ⟨g6, cp6, hv6, -, hg6, hc6, hm6, hcell6⟩ := own_pos hrow (by omega)
   injection hv6 with hw1 hw2 hw3
   subst hw1 hw3
   unfold maxLen at hm6
   obtain ⟨x0, x1⟩ := flatR_get o i hlt
   have hds : o.drop i = o[i] :: o.drop (i + 1) := List.drop_eq_getElem_cons hlt
   have hs := HS.out
   rw [hds] at hs
   have hsd := hs.below (Below.refl _ wr).drew
   have hcw := fun (W : World) (hW : Below wr.heap.size wr W) => And.intro ((hW.cell (p := ⟨g6, i * 2, none⟩) hg6).trans (hcell6 _ _ x0)) ((hW.cell (p := ⟨g6, i * 2 + 1, none⟩) hg6).trans (hcell6 _ _ x1))
   have gi : (i : Int) < (o.length : Int) := by omega
   have HSD := Lib.hid hsd
   have HCW := Lib.hid hcw
   clear hrow hcell6 x0 x1 hw2 hds hs hsd hcw
   generalize o[i] = px at *
   obtain ⟨qk, qv⟩ := px
   have HV := Lib.hid (sValid_yes HSD.out)
   have HP := Lib.hid (fun W (hW : Below wr.drew.heap.size wr.drew W) => sPair (HSD.out.below hW))
   dsimp only at HCW HP
   generalize str qk = sk at *
   generalize str qv = sv at *
   have hfd : ∀ wS, (Instr.field 43 (.agg #[.string sk, .string sv]) 0).run Tryz.prog wS = .ok (.string sk) wS := fun wS => by first | rfl | (simp [Instr.field, go_sem])
   have hfd2 : ∀ wS, (Instr.field 43 (.agg #[.string sk, .string sv]) 1).run Tryz.prog wS = .ok (.string sv) wS := fun wS => by first | rfl | (simp [Instr.field, go_sem])
   obtain ⟨d0, d1⟩ := HCW.out wr.drew (Below.refl _ wr).drew
   have HR := Lib.hid (Below.refl wr.drew.heap.size wr.drew)
   go_wp2_with fail
   refine wp_region_held_drew (S := (fun w' => w'.cell? ⟨g6, i * 2, none⟩ = some (.string sk) ∧ w'.cell? ⟨g6, i * 2 + 1, none⟩ = some (.string sv))) (by kernel_rfl) (by (try dsimp only); exact ⟨d0, d1⟩) (fun hHeld => ?_)
   refine takeH (i := 0) (d := some 12) (v := ?_) rfl rfl (by kernel_rfl) (by kernel_rfl) (by kernel_rfl) (fun _ _ _ h => h) (Or.inl ⟨by rfl, ?_⟩) (by assumption) ?_
   rotate_left
   ·intro wS hSw; (try dsimp only at hSw); go_simp; (try (with_reducible rfl))
   simp only [Act.put, zA, zB, zC]
   refine wpAnyH_ready (rs := [1]) (by kernel_rfl) (by simp) ?_
   refine AllReadyH.cons rfl (fun K hK => ?_) AllReadyH.nil
   go_simp
   refine HV.out.mono ?_
   rintro e w4 ⟨rfl, rfl⟩
   go_wp2_with fail
   refine hK.out _ _ (by (try dsimp only); exact ⟨d0, d1⟩) (fun hHeld => ?_)
   clear hK K
   refine takeH (i := 2) (d := some 14) (v := ?_) rfl rfl (by kernel_rfl) (by kernel_rfl) (by kernel_rfl) (fun _ _ _ h => h) (Or.inl ⟨by rfl, ?_⟩) (by assumption) ?_
   rotate_left
   ·intro wS hSw; (try dsimp only at hSw); go_simp; (try (with_reducible rfl))
   simp only [Act.put, zA, zB, zC]
   refine takeH (i := 3) (d := some 15) (v := ?_) rfl rfl (by kernel_rfl) (by kernel_rfl) (by kernel_rfl) (fun _ _ _ h => h) (Or.inl ⟨by rfl, ?_⟩) (by assumption) ?_
   rotate_left
   ·intro wS hSw; (try dsimp only at hSw); go_simp; (try (with_reducible rfl))
   simp only [Act.put, zA, zB, zC]
   refine takeH (i := 4) (d := some 16) (v := ?_) rfl rfl (by kernel_rfl) (by kernel_rfl) (by kernel_rfl) (fun _ _ _ h => h) (Or.inl ⟨by rfl, ?_⟩) (by assumption) ?_
   rotate_left
   ·intro wS hSw; (try dsimp only at hSw); go_simp; (try (with_reducible rfl))
   simp only [Act.put, zA, zB, zC]
   refine takeH (i := 7) (d := some 19) (v := ?_) rfl rfl (by kernel_rfl) (by kernel_rfl) (by kernel_rfl) (fun _ _ _ h => h) (Or.inl ⟨by rfl, ?_⟩) (by assumption) ?_
   rotate_left
   ·intro wS hSw; (try dsimp only at hSw); go_simp; (try (with_reducible rfl))
   simp only [Act.put, zA, zB, zC]
   refine takeH (i := 8) (d := some 20) (v := ?_) rfl rfl (by kernel_rfl) (by kernel_rfl) (by kernel_rfl) (fun _ _ _ h => h) (Or.inl ⟨by rfl, ?_⟩) (by assumption) ?_
   rotate_left
   ·intro wS hSw; (try dsimp only at hSw); go_simp; (try (with_reducible rfl))
   simp only [Act.put, zA, zB, zC]
   refine takeH (i := 9) (d := some 21) (v := ?_) rfl rfl (by kernel_rfl) (by kernel_rfl) (by kernel_rfl) (fun _ _ _ h => h) (Or.inl ⟨by rfl, ?_⟩) (by assumption) ?_
   rotate_left
   ·intro wS hSw; (try dsimp only at hSw); go_simp; (try (with_reducible rfl))
   simp only [Act.put, zA, zB, zC]
   refine takeH (i := 10) (d := some 22) (v := ?_) rfl rfl (by kernel_rfl) (by kernel_rfl) (by kernel_rfl) (fun _ _ _ h => h) (Or.inl ⟨by rfl, ?_⟩) (by assumption) ?_
   rotate_left
   ·intro wS hSw; (try dsimp only at hSw); go_simp; (try (with_reducible rfl))
   simp only [Act.put, zA, zB, zC]
   refine takeH (i := 11) (d := some 23) (v := ?_) rfl rfl (by kernel_rfl) (by kernel_rfl) (by kernel_rfl) (fun _ _ _ h => h) (Or.inl ⟨by rfl, ?_⟩) (by assumption) ?_
   rotate_left
   ·intro wS hSw; (try dsimp only at hSw); go_simp; (try (with_reducible rfl))
   simp only [Act.put, zA, zB, zC]
   refine wpAnyH_ready (rs := [5]) (by kernel_rfl) (by simp) ?_
   refine AllReadyH.cons rfl (fun K hK => ?_) AllReadyH.nil
   go_simp
   refine (HP.out _ HR.out).mono ?_
   rintro e w5 ⟨rfl, hb5⟩
   have hb5' : Below wr.heap.size wr w5 := hb5.undrew
   obtain ⟨k0, k1⟩ := HCW.out w5 hb5'
   have HB5 := Lib.hid hb5
   clear hb5 hb5'
   go_wp2_with fail
   refine hK.out _ _ (by (try dsimp only); exact ⟨k0, k1⟩) (fun hHeld => ?_)
   clear hK K
   refine takeH (i := 6) (d := some 18) (v := ?_) rfl rfl (by kernel_rfl) (by kernel_rfl) (by kernel_rfl) (fun _ _ _ h => h) (Or.inl ⟨by rfl, ?_⟩) (by assumption) ?_
   rotate_left
   ·intro wS hSw; (try dsimp only at hSw); go_simp; (try (with_reducible rfl))
   simp only [Act.put, zA, zB, zC]
   refine takeH (i := 12) (d := some 24) (v := ?_) rfl rfl (by kernel_rfl) (by kernel_rfl) (by kernel_rfl) (fun _ _ _ h => h) (Or.inl ⟨by rfl, ?_⟩) (by assumption) ?_
   rotate_left
   ·intro wS hSw; (try dsimp only at hSw); go_simp; (try (with_reducible rfl))
   simp only [Act.put, zA, zB, zC]
   refine takeH (i := 13) (d := some 25) (v := ?_) rfl rfl (by kernel_rfl) (by kernel_rfl) (by kernel_rfl) (fun _ _ _ h => h) (Or.inl ⟨by rfl, ?_⟩) (by assumption) ?_
   rotate_left
   ·intro wS hSw; (try dsimp only at hSw); go_simp; (try (with_reducible rfl))
   simp only [Act.put, zA, zB, zC]
   refine takeH (i := 14) (d := some 26) (v := ?_) rfl rfl (by kernel_rfl) (by kernel_rfl) (by kernel_rfl) (fun _ _ _ h => h) (Or.inl ⟨by rfl, ?_⟩) (by assumption) ?_
   rotate_left
   ·intro wS hSw; (try dsimp only at hSw); go_simp; (try (with_reducible rfl))
   simp only [Act.put, zA, zB, zC]
   refine takeH (i := 15) (d := some 27) (v := ?_) rfl rfl (by kernel_rfl) (by kernel_rfl) (by kernel_rfl) (fun _ _ _ h => h) (Or.inl ⟨by rfl, ?_⟩) (by assumption) ?_
   rotate_left
   ·intro wS hSw; (try dsimp only at hSw); go_simp; (try (with_reducible rfl))
   simp only [Act.put, zA, zB, zC]
   refine takeH (i := 18) (d := some 30) (v := ?_) rfl rfl (by kernel_rfl) (by kernel_rfl) (by kernel_rfl) (fun _ _ _ h => h) (Or.inl ⟨by rfl, ?_⟩) (by assumption) ?_
   rotate_left
   ·intro wS hSw; (try dsimp only at hSw); go_simp; (try (with_reducible rfl))
   simp only [Act.put, zA, zB, zC]
   refine takeH (i := 19) (d := some 31) (v := ?_) rfl rfl (by kernel_rfl) (by kernel_rfl) (by kernel_rfl) (fun _ _ _ h => h) (Or.inl ⟨by rfl, ?_⟩) (by assumption) ?_
   rotate_left
   ·intro wS hSw; (try dsimp only at hSw); go_simp; (try (with_reducible rfl))
   simp only [Act.put, zA, zB, zC]
   refine takeH (i := 20) (d := some 32) (v := ?_) rfl rfl (by kernel_rfl) (by kernel_rfl) (by kernel_rfl) (fun _ _ _ h => h) (Or.inl ⟨by rfl, ?_⟩) (by assumption) ?_
   rotate_left
   ·intro wS hSw; (try dsimp only at hSw); go_simp; (try (with_reducible rfl))
   simp only [Act.put, zA, zB, zC]
   refine takeH (i := 21) (d := some 33) (v := ?_) rfl rfl (by kernel_rfl) (by kernel_rfl) (by kernel_rfl) (fun _ _ _ h => h) (Or.inl ⟨by rfl, ?_⟩) (by assumption) ?_
   rotate_left
   ·intro wS hSw; (try dsimp only at hSw); go_simp; (try (with_reducible rfl))
   simp only [Act.put, zA, zB, zC]
   refine takeH (i := 22) (d := some 34) (v := ?_) rfl rfl (by kernel_rfl) (by kernel_rfl) (by kernel_rfl) (fun _ _ _ h => h) (Or.inl ⟨by rfl, ?_⟩) (by assumption) ?_
   rotate_left
   ·intro wS hSw; (try dsimp only at hSw); go_simp; (try (with_reducible rfl))
   simp only [Act.put, zA, zB, zC]
   refine wpAnyH_ready (rs := [16]) (by kernel_rfl) (by simp) ?_
   refine AllReadyH.cons rfl (fun K hK => ?_) AllReadyH.nil
   go_simp
   refine (HP.out _ HB5.out).mono ?_
   rintro e w6 ⟨rfl, hb6⟩
   have hb6' : Below wr.drew.heap.size wr.drew w6 := HB5.out.trans (hb6.mono HB5.out.size)
   obtain ⟨l0, l1⟩ := HCW.out w6 hb6'.undrew
   have HB6 := Lib.hid hb6'
   clear hb6 hb6'
   go_wp2_with fail
   refine hK.out _ _ (by (try dsimp only); exact ⟨l0, l1⟩) (fun hHeld => ?_)
   clear hK K
   refine takeH (i := 17) (d := some 29) (v := ?_) rfl rfl (by kernel_rfl) (by kernel_rfl) (by kernel_rfl) (fun _ _ _ h => h) (Or.inl ⟨by rfl, ?_⟩) (by assumption) ?_
   rotate_left
   ·intro wS hSw; (try dsimp only at hSw); go_simp; (try (with_reducible rfl))
   simp only [Act.put, zA, zB, zC]
   refine takeH (i := 23) (d := some 35) (v := ?_) rfl rfl (by kernel_rfl) (by kernel_rfl) (by kernel_rfl) (fun _ _ _ h => h) (Or.inl ⟨by rfl, ?_⟩) (by assumption) ?_
   rotate_left
   ·intro wS hSw; (try dsimp only at hSw); go_simp; (try (with_reducible rfl))
   simp only [Act.put, zA, zB, zC]
   refine takeH (i := 24) (d := some 36) (v := ?_) rfl rfl (by kernel_rfl) (by kernel_rfl) (by kernel_rfl) (fun _ _ _ h => h) (Or.inl ⟨by rfl, ?_⟩) (by assumption) ?_
   rotate_left
   ·intro wS hSw; (try dsimp only at hSw); go_simp; (try (with_reducible rfl))
   simp only [Act.put, zA, zB, zC]
   refine wpAnyH_done (by kernel_rfl) ?_ _
   have HNX := Lib.hid (sNext C (HSD.out.below HB6.out))
   have HM6 := Lib.hid (HMF.out.trans (MF.of_below HB6.out.undrew))
   go_wp2_with fail
   (with_reducible refine HNX.out.mono ?_)
   rintro e w7 ⟨rfl, hf7, hs7 | ⟨-, hb7⟩⟩
   ·have HM7 := Lib.hid (HM6.out.trans hf7)
    have HS7 := Lib.hid hs7
    clear hf7 hs7
    go_wp2_with fail
    go_roundg (o.length - (i + 1))
    case measure => have := HIG.out; omega
    case rel => exact ⟨i + 1, by have := HIG.out; omega, by go_num, HM7.out, HS7.out⟩
   ·exact absurd HN.out hb7
  ·have hie : i = o.length := by have := HIG.out; omega
   subst hie
   have hs := HS.out
   rw [List.drop_length] at hs
   have HV := Lib.hid (sValid_no hs)
   have HP := Lib.hid (sPair_no hs)
   have HE := Lib.hid (fun W (hW : Below wr.heap.size wr W) => sErr (hs.below hW))
   have HS0 := Lib.hid hs
   clear hs HS
   go_wp2_with fail
   (with_reducible refine HV.out.mono ?_)
   rintro e w4 ⟨rfl, rfl⟩
   go_wp2_with fail
   (with_reducible refine HP.out.mono ?_)
   rintro e w5 ⟨rfl, hb5⟩
   have HE5 := Lib.hid (HE.out _ hb5)
   have HB5 := Lib.hid hb5
   clear hb5
   go_wp2_with fail
   (with_reducible refine HE5.out.mono ?_)
   rintro e w6 ⟨rfl, rfl⟩
   go_wp2_with fail
   go_ret
   exact ⟨rfl, HMF.out.trans (MF.of_below HB5.out), HS0.out.below HB5.out⟩
end Mx
end Go.Proofs.YtdbfaknpfepnfaaGreatDoor


namespace Go.Proofs.YtdbfaknpfepnfaaGreatDoor
open Go.RowKit CodecP Cur

def unp (b : List UInt8) : Option (List UInt8 × Int) :=
 if OkK (b.take (b.length - 9)) (4611686018427387904 - (value (b.drop (b.length - 8)) : Int)) ∧ b = inn (b.take (b.length - 9)) (4611686018427387904 - (value (b.drop (b.length - 8)) : Int)) then some (b.take (b.length - 9), 4611686018427387904 - (value (b.drop (b.length - 8)) : Int)) else none
theorem unp_inn {k : List UInt8} {n : Int} (h : OkK k n) : unp (inn k n) = some (k, n) := by
 obtain ⟨h1, h2⟩ := inn_parts h
 have h3 : 4611686018427387904 - (((4611686018427387904 - n).toNat : Nat) : Int) = n := by
  have := h.2.2.2.2
  omega
 unfold unp
 rw [h1, h2, h3, if_pos ⟨h, rfl⟩]
theorem unp_none {b : List UInt8} (h : ∀ (k : List UInt8) (n : Int), OkK k n → b ≠ inn k n) : unp b = none := by
 unfold unp
 rw [if_neg (fun hh => h _ _ hh.1 hh.2)]
theorem unpackP_unp {s : ByteArray} {w : World} {e : Ending} {w' : World} (h : UnpackP s w e w') : Below w.heap.size w w' ∧
  ((∃ k n, unp (bl s) = some (k, n) ∧ e = .returned (.tuple #[.string (str k), .int .i64 n, .bool true])) ∨ (unp (bl s) = none ∧ e = .returned (.tuple #[.string ⟨#[]⟩, .int .i64 0, .bool false]))) := by
 obtain ⟨h1, ⟨k, n, h2, h3, h4⟩ | ⟨h2, h3⟩⟩ := h
 ·exact ⟨h1, .inl ⟨k, n, by rw [h3]; exact unp_inn h2, h4⟩⟩
 ·exact ⟨h1, .inr ⟨unp_none h2, h3⟩⟩
def goodV (v : List UInt8) : Bool := v.head? == some 80 || v == [68]
structure VSt where
 key : List UInt8
 value : List UInt8
 valid : Bool
 err : Int
def settleF (seq : Int) : List UInt8 → List Pr → List Pr × VSt
 | _, [] => ([], ⟨[], [], false, 0⟩)
 | last, x :: r => match unp x.1 with
  | none => (x :: r, ⟨[], [], false, 9⟩)
  | some (k, n) =>
   if goodV x.2 = false then (x :: r, ⟨[], [], false, 9⟩)
   else if k = last ∨ seq < n then settleF seq last r
   else if x.2.head? = some 80 then (x :: r, ⟨k, x.2.tail, true, 0⟩)
   else settleF seq k r
structure MerK (B p : Nat) where
 M : World → (Nat → Prop) → List Pr → Prop
 lt : ∀ {w S r}, M w S r → ∀ k, S k → k < w.heap.size
 own : ∀ {w S r}, M w S r → ∀ k, S k → B ≤ k
 base : ∀ {w S r}, M w S r → B ≤ w.heap.size
 keep : ∀ {w w' S r}, M w S r → (∀ k, S k → w'.heap[k]? = w.heap[k]?) → Below B w w' → M w' S r
 valid : ∀ {w S r}, M w S r → Calls Tryz.prog 41 #[(Value.pointer (some ⟨p, 0, none⟩))] w fun e w' => e = .returned (.bool (decide (0 < r.length))) ∧ w = w'
 err : ∀ {w S r}, M w S r → Calls Tryz.prog 42 #[(Value.pointer (some ⟨p, 0, none⟩))] w fun e w' => e = .returned (.int .i64 0) ∧ w = w'
 pair : ∀ {w S x r}, M w S (x :: r) → Calls Tryz.prog 47 #[(Value.pointer (some ⟨p, 0, none⟩))] w fun e w' => e = .returned (.agg #[.string (str x.1), .string (str x.2)]) ∧ Below w.heap.size w w'
 next : ∀ {w S x r}, M w S (x :: r) → Calls Tryz.prog 48 #[(Value.pointer (some ⟨p, 0, none⟩))] w fun e w' => e = .returned (.tuple #[]) ∧ Fr S w w' ∧ ∃ S', M w' S' r ∧ ∀ j, S' j → S j ∨ w.heap.size ≤ j
theorem MerK.below {B p : Nat} (K : MerK B p) {w w' : World} {S : Nat → Prop} {r : List Pr} (h : K.M w S r) (hb : Below w.heap.size w w') : K.M w' S r :=
 K.keep h (fun k hk => hb.block k (K.lt h k hk)) (hb.mono (K.base h))
structure Vw {B p : Nat} (K : MerK B p) (w : World) (v : Nat) (seq : Int) (S : Nat → Prop) (r : List Pr) (st : VSt) : Prop where
 cells : w.heap[v]? = some (.cells #[(Value.pointer (some ⟨p, 0, none⟩)), .int .i64 seq, .string (str st.key), .string (str st.value), .bool st.valid, .int .i64 st.err] 104 (0, 0))
 m : K.M w S r
 out : ¬ S v
 base : B ≤ v
def fitsR (r : List Pr) : Prop := ∀ x ∈ r, x.1.length ≤ 1000000 ∧ x.2.length ≤ 1000000
theorem Vw.keep {B p : Nat} {K : MerK B p} {w w' : World} {v : Nat} {seq : Int} {S : Nat → Prop} {r : List Pr} {st : VSt} (h : Vw K w v seq S r st) (hb : Below w.heap.size w w') : Vw K w' v seq S r st :=
 ⟨(hb.block v (lt_of_block h.cells)).trans h.cells, K.below h.m hb, h.out, h.base⟩
theorem Vw.put {B p : Nat} {K : MerK B p} {w w' : World} {v : Nat} {seq : Int} {S : Nat → Prop} {r : List Pr} {st st' : VSt} (h : Vw K w v seq S r st) (hf : Fr (fun k => k = v) w w') (hc : w'.heap[v]? = some (.cells #[(Value.pointer (some ⟨p, 0, none⟩)), .int .i64 seq, .string (str st'.key), .string (str st'.value), .bool st'.valid, .int .i64 st'.err] 104 (0, 0))) : Vw K w' v seq S r st' :=
 ⟨hc, K.keep h.m (fun k hk => hf.block k (K.lt h.m k hk) (fun e => h.out (e ▸ hk))) (hf.below (K.base h.m) (fun k _ hk => by rw [hk]; exact h.base)), h.out, h.base⟩
theorem Vw.step {B p : Nat} {K : MerK B p} {w w' : World} {v : Nat} {seq : Int} {S S' : Nat → Prop} {r r' : List Pr} {st : VSt} (h : Vw K w v seq S r st) (hf : Fr S w w') (hm : K.M w' S' r') (hs : ∀ j, S' j → S j ∨ w.heap.size ≤ j) : Vw K w' v seq S' r' st :=
  ⟨(hf.block v (lt_of_block h.cells) h.out).trans h.cells, hm, fun hv => by
    rcases hs v hv with h1 | h1
    · exact h.out h1
    · have := lt_of_block h.cells
      omega, h.base⟩
end Go.Proofs.YtdbfaknpfepnfaaGreatDoor


namespace Go.Proofs.YtdbfaknpfepnfaaGreatDoor
open Go.RowKit CodecP Cur

theorem set_vc0 {w : World} {v : Nat} {t : TypeId} {a0 a1 a2 a3 a4 a5 : Value} (h : w.heap[v]? = some (.cells #[a0, a1, a2, a3, a4, a5] t (0, 0))) (x y z : Value) :
  (((w.setCell ⟨v, 2, none⟩ x).setCell ⟨v, 3, none⟩ y).setCell ⟨v, 4, none⟩ z).heap[v]? = some (.cells #[a0, a1, x, y, z, a5] t (0, 0)) ∧ Fr (fun k => k = v) w (((w.setCell ⟨v, 2, none⟩ x).setCell ⟨v, 3, none⟩ y).setCell ⟨v, 4, none⟩ z) :=
 ⟨setAt2 (o := 4) z (setAt2 (o := 3) y (setAt2 (o := 2) x h)), (((Fr.refl (fun k => k = v) w).setCell (p := ⟨v, 2, none⟩) (.inl rfl) x).setCell (p := ⟨v, 3, none⟩) (.inl rfl) y).setCell (p := ⟨v, 4, none⟩) (.inl rfl) z⟩
theorem settle_any {B p : Nat} (K : MerK B p) (v : Nat) (seq : Int) (S : Nat → Prop) (r0 : List Pr) (st : VSt) (last0 : List UInt8) (w : World) (h : Vw K w v seq S r0 st) (herr : st.err = 0) (hfit : fitsR r0) :
  Calls Tryz.prog 67 #[(Value.pointer (some ⟨v, 0, none⟩)), .string (str last0)] w fun e w' => e = .returned (.tuple #[]) ∧ Fr (fun k => k = v ∨ S k) w w' ∧ ∃ S', Vw K w' v seq S' (settleF seq last0 r0).1 (settleF seq last0 r0).2 ∧ ∀ j, S' j → S j ∨ w.heap.size ≤ j := by
 obtain ⟨hc1, hf1⟩ := set_vc0 h.cells (.string ⟨#[]⟩) (.string ⟨#[]⟩) (.bool false)
 rw [herr] at hc1
 have h2 : Vw K _ v seq S r0 ⟨[], [], false, 0⟩ := h.put hf1 hc1
 have c2 := cellOf2 (o := 2) h.cells rfl
 have f2 := free_of2 2 h.cells
 have q1 := setAt2 (o := 2) (.string ⟨#[]⟩) h.cells
 have c3 := cellOf2 (o := 3) q1 rfl
 have f3 := free_of2 3 q1
 have q2 := setAt2 (o := 3) (.string ⟨#[]⟩) q1
 have c4 := cellOf2 (o := 4) q2 rfl
 have f4 := free_of2 4 q2
 have HV := Lib.hid h2
 have HF := Lib.hid (hf1.mono (T := fun k => k = v ∨ S k) (fun k _ hk => .inl hk))
 have HFIT := Lib.hid hfit
 clear h hc1 hf1 h2 q1 q2 hfit herr
 obtain ⟨R, hR⟩ : ∃ R, settleF seq last0 r0 = R := ⟨_, rfl⟩
 rw [hR]
 have HR := Lib.hid hR
 clear hR
 go_enter Tryz.func67, Tryz.ntmps67
 go_upto_region 1 with (fail)
 clear c2 f2 c3 f3 c4 f4
 generalize ((w.setCell ⟨v, 2, none⟩ (.string ⟨#[]⟩)).setCell ⟨v, 3, none⟩ (.string ⟨#[]⟩)).setCell ⟨v, 4, none⟩ (.bool false) = wa at *
 go_loopg [1] r0.length (fun g lv wr => ∃ last r S', lv = .string (str last) ∧ settleF seq last r = R ∧ r.length = g ∧ fitsR r ∧ Vw K wr v seq S' r ⟨[], [], false, 0⟩ ∧ Fr (fun k => k = v ∨ S k) w wr ∧ (∀ j, S' j → S j ∨ w.heap.size ≤ j))
 case atStart => exact ⟨last0, r0, S, rfl, HR.out, rfl, HFIT.out, HV.out, HF.out, fun j hj => .inl hj⟩
 case round =>
  clear HV HF HFIT HR
  obtain ⟨last, r, S', rfl, hset, hlen, hfit, hv, hf, hs⟩ := hrel
  have d0 := cellOf2 (o := 0) hv.cells rfl
  have d1 := cellOf2 (o := 1) hv.cells rfl
  have d5 := cellOf2 (o := 5) hv.cells rfl
  have g5 := free_of2 5 hv.cells
  have HVAL := Lib.hid (K.valid hv.m)
  have HVW := Lib.hid hv
  have HFR := Lib.hid hf
  have HSS := Lib.hid hs
  have HFI := Lib.hid hfit
  have HSE := Lib.hid hset
  clear hv hf hs hfit hset
  match r, hlen with
  | [], hlen =>
   rw [show decide (0 < ([] : List Pr).length) = false from rfl] at HVAL
   go_wp2_with fail
   (with_reducible refine HVAL.out.mono ?_)
   rintro e w1 ⟨rfl, rfl⟩
   go_wp2_with fail
   go_end0
   refine ⟨rfl, HFR.out, S', ?_, HSS.out⟩
   rw [← HSE.out]
   exact HVW.out
  | x :: r, hlen =>
   rw [show decide (0 < (x :: r).length) = true from by simp] at HVAL
   have HPR := Lib.hid (K.pair HVW.out.m)
   go_wp2_with fail
   (with_reducible refine HVAL.out.mono ?_)
   rintro e w1 ⟨rfl, rfl⟩
   go_wp2_with fail
   (with_reducible refine HPR.out.mono ?_)
   rintro e w2 ⟨rfl, hb2⟩
   go_upto_region 3 with (fail)
   have hp2 : (w2.alloc (.cells #[.string (str x.1), .string (str x.2)] 43)).heap[w2.heap.size]? = some (.cells #[.string (str x.1), .string (str x.2)] 43 (0, 0)) := by
    show (w2.heap.push _)[w2.heap.size]? = _
    simp
   have hb3 : Below wr.heap.size wr (w2.alloc (.cells #[.string (str x.1), .string (str x.2)] 43)) := hb2.alloc hb2.size _
   obtain ⟨hfx, hfy⟩ := HFI.out x (by simp)
   have HP2 := Lib.hid hp2
   have HB3 := Lib.hid hb3
   clear hb2 hp2 hb3 d0 d1 d5 g5 HVAL HPR
   generalize w2.alloc (.cells #[.string (str x.1), .string (str x.2)] 43) = w3 at *
   generalize w2.heap.size = pb at *
   have k0 := cellOf2 (o := 0) HP2.out rfl
   have HU := Lib.hid (unpack_any (str x.1) w3 (by rw [str_size]; unfold maxLen; omega))
   go_wp2_with fail
   (with_reducible refine HU.out.mono ?_)
   rintro e w4 hU
   obtain ⟨hb4, hU2⟩ := unpackP_unp hU
   rw [bl_str] at hU2
   have hb4' := HB3.out.trans (hb4.mono HB3.out.size)
   have HV4 := Lib.hid (HVW.out.keep hb4')
   have HF4 := Lib.hid (HFR.out.trans (Fr.of_below _ hb4') (fun _ _ h => h))
   have hsz4 : w.heap.size ≤ wr.heap.size := HFR.out.size
   have hsw4 : w.heap.size ≤ w4.heap.size := HF4.out.size
   have j1 := (hb4.block pb (lt_of_block HP2.out)).trans HP2.out
   have k1 := cellOf2 (o := 1) j1 rfl
   have d0 := cellOf2 (o := 0) HV4.out.cells rfl
   have d1 := cellOf2 (o := 1) HV4.out.cells rfl
   have d5 := cellOf2 (o := 5) HV4.out.cells rfl
   have g5 := free_of2 5 HV4.out.cells
   clear hU hb4 hb4' k0 j1 HU HP2 HB3 HVW HFR
   have hbad : ∀ W : World, W = w4.setCell ⟨v, 5, none⟩ (.int .i64 9) → Vw K W v seq S' (x :: r) ⟨[], [], false, 9⟩ ∧ Fr (fun k => k = v ∨ S k) w W := fun W hW => by
    subst hW
    have hff : Fr (fun k => k = v) w4 (w4.setCell ⟨v, 5, none⟩ (.int .i64 9)) := (Fr.refl (fun k => k = v) w4).setCell (p := ⟨v, 5, none⟩) (.inl rfl) _
    exact ⟨HV4.out.put hff (setAt2 (o := 5) _ HV4.out.cells), HF4.out.trans hff (fun _ _ h => .inl h)⟩
   have HBAD := Lib.hid hbad
   have HNX := Lib.hid (K.next HV4.out.m)
   clear hbad
   have hgo : ∀ W S5, Fr S' w4 W → K.M W S5 r → (∀ j, S5 j → S' j ∨ w4.heap.size ≤ j) → Vw K W v seq S5 r ⟨[], [], false, 0⟩ ∧ Fr (fun k => k = v ∨ S k) w W ∧ ∀ j, S5 j → S j ∨ w.heap.size ≤ j := fun W S5 h1 h2 h3 => ⟨HV4.out.step h1 h2 h3, HF4.out.trans h1 (fun j hj hs => (HSS.out j hs).elim (fun h => .inr h) (fun h => absurd hj (by omega))), fun j hj => (h3 j hj).elim (HSS.out j) (fun h => .inr (by omega))⟩
   have HGO := Lib.hid hgo
   have HFI2 : Hid (fitsR r) := Lib.hid (fun y hy => HFI.out y (List.mem_cons_of_mem _ hy))
   clear hgo
   rcases hU2 with ⟨k, n, hun, rfl⟩ | ⟨hun, rfl⟩
   ·obtain ⟨V, hV⟩ : ∃ V, V = str x.2 := ⟨_, rfl⟩
    have hVs : V.size = x.2.length := by rw [hV, str_size]
    have hVl : V.toList = x.2 := by rw [hV, ByteArray.toList_eq]; exact bl_str _
    rw [← hV] at k1
    rcases hx2 : x.2 with _ | ⟨a, t⟩
    ·have hR : R = (x :: r, ⟨[], [], false, 9⟩) := by
      rw [← HSE.out]
      simp [settleF, hun, hx2, goodV]
     subst hR
     obtain ⟨e1, e2, e3⟩ := em_facts (k := V) (by rw [hVs, hx2]; rfl)
     clear hun hV hVs hVl hx2
     go_wp2_with fail
     obtain ⟨hvv, hff⟩ := HBAD.out _ rfl
     exact bodyPost_ret (v := .tuple #[]) (by simp [results, Tryz.results67, go_sem]) rfl ⟨rfl, hff, S', hvv, HSS.out⟩
    ·rw [hx2] at hVs hVl hV
     obtain ⟨e1, e2⟩ := ne_facts (k := V) (by rw [hVs]; simp)
     have hx0 : ∀ h, V[0]'h = a := fun h => by
      subst hV
      rfl
     have hs0 : 0 < V.size := by rw [hVs]; simp
     have hs0' : (0 : Int) < (V.size : Int) := by omega
     by_cases ha : a = 80
     ·have hg : goodV x.2 = true := by rw [hx2, ha]; rfl
      have hhd : x.2.head? = some 80 := by rw [hx2, ha]; rfl
      have hix : ∀ h, ((V[0]'h).toNat : Int) = 80 := fun h => by rw [hx0, ha]; rfl
      clear hx0 ha
      by_cases hkl : k = last
      ·have hR : settleF seq last r = R := by
        rw [← HSE.out]
        simp only [settleF, hun, hg, hkl, true_or, if_true, Bool.true_eq_false, if_false]
       have HRR := Lib.hid hR
       have c1 : ((str k).toList == (str last).toList) = true := by rw [hkl]; simp
       clear hR hun hg hhd hkl hV hVl hVs hx2
       go_wp2_with fail
       (with_reducible refine HNX.out.mono ?_)
       rintro e w5 ⟨rfl, hf5, S5, hm5, hs5⟩
       have HX := Lib.hid (HGO.out w5 S5 hf5 hm5 hs5)
       clear hf5 hm5 hs5
       go_wp2_with fail
       go_roundg r.length
       case measure => rw [← hlen]; simp
       case rel => exact ⟨last, r, S5, rfl, HRR.out, rfl, HFI2.out, HX.out.1, HX.out.2.1, HX.out.2.2⟩
      ·have c1 : ((str k).toList == (str last).toList) = false := by
        rw [beq_eq_false_iff_ne]
        intro e
        rw [ByteArray.toList_eq, ByteArray.toList_eq] at e
        exact hkl (by simpa [str] using e)
       by_cases hn : seq < n
       ·have hR : settleF seq last r = R := by
         rw [← HSE.out]
         simp only [settleF, hun, hg, hn, or_true, if_true, Bool.true_eq_false, if_false]
        have HRR := Lib.hid hR
        have c2 : decide (seq < n) = true := decide_eq_true hn
        clear hR hun hg hhd hkl hn hV hVl hVs hx2
        go_wp2_with fail
        (with_reducible refine HNX.out.mono ?_)
        rintro e w5 ⟨rfl, hf5, S5, hm5, hs5⟩
        have HX := Lib.hid (HGO.out w5 S5 hf5 hm5 hs5)
        clear hf5 hm5 hs5
        go_wp2_with fail
        go_roundg r.length
        case measure => rw [← hlen]; simp
        case rel => exact ⟨last, r, S5, rfl, HRR.out, rfl, HFI2.out, HX.out.1, HX.out.2.1, HX.out.2.2⟩
       ·have c2 : decide (seq < n) = false := decide_eq_false hn
        have hR : R = (x :: r, ⟨k, x.2.tail, true, 0⟩) := by
         rw [← HSE.out]
         simp only [settleF, hun, hg, hhd, hkl, hn, or_false, if_true, Bool.true_eq_false, if_false]
        subst hR
        have htl : V.extract 1 V.size = str x.2.tail := by
         rw [← str_bl (V.extract 1 V.size), ext_bl]
         congr 1
         rw [hVs, hV, bl_str, hx2]
         simp
        clear hun hg hhd hkl hn hV hVl hVs hx2
        go_wp2_with fail
        have g2 := free_of2 2 HV4.out.cells
        have d2 := cellOf2 (o := 2) HV4.out.cells rfl
        have d3 := cellOf2 (o := 3) HV4.out.cells rfl
        have d4 := cellOf2 (o := 4) HV4.out.cells rfl
        have g3 := free_of2 3 HV4.out.cells
        have g4 := free_of2 4 HV4.out.cells
        have hs1 : (1 : Int) ≤ (V.size : Int) := by omega
        go_upto_region 9 with (fail)
        clear d0 d1 d5 g5
        go_region
        clear d2 d3 d4 g2 g3 g4
        obtain ⟨hcc, hff⟩ := set_vc0 (w := w4.drew) HV4.out.cells (.string (str k)) (.string (str x.2.tail)) (.bool true)
        have hv4 : Vw K w4.drew v seq S' (x :: r) ⟨[], [], false, 0⟩ := HV4.out.keep (Below.refl _ _).drew
        have hvv : Vw K _ v seq S' (x :: r) ⟨k, x.2.tail, true, 0⟩ := hv4.put hff hcc
        have hfr := (HF4.out.drew).trans hff (fun _ _ h => .inl h)
        have HVV := Lib.hid hvv
        have HFR5 := Lib.hid hfr
        clear hcc hff hv4 hvv hfr
        go_wp2_with fail
        exact bodyPost_ret (v := .tuple #[]) (by simp [results, Tryz.results67, go_sem]) rfl ⟨rfl, HFR5.out, S', HVV.out, HSS.out⟩
     ·have hix : ∀ h, ((V[0]'h).toNat : Int) = (a.toNat : Int) := fun h => by rw [hx0]
      have han : ¬ a.toNat = 80 := fun h => ha (by apply UInt8.toNat_inj.1; rw [h]; rfl)
      obtain ⟨c, hc⟩ : ∃ c, c = a.toNat := ⟨_, rfl⟩
      rw [← hc] at hix han
      have q1 : (((c : Nat) : Int) == 80) = false := by rw [beq_eq_false_iff_ne]; omega
      have q2 : (((c : Nat) : Int) != 80) = true := by rw [bne_iff_ne]; omega
      by_cases hD : x.2 = [68]
      ·have hg : goodV x.2 = true := by rw [hD]; rfl
       have hhd : ¬ x.2.head? = some 80 := by rw [hD]; decide
       have r1 : (V.toList == [68]) = true := by rw [hVl, ← hx2, hD]; rfl
       have r2 : (V.toList != [68]) = false := by rw [hVl, ← hx2, hD]; rfl
       by_cases hkl : k = last
       ·have hR : settleF seq last r = R := by
         rw [← HSE.out]
         simp only [settleF, hun, hg, hkl, true_or, if_true, Bool.true_eq_false, if_false]
        have HRR := Lib.hid hR
        have c1 : ((str k).toList == (str last).toList) = true := by rw [hkl]; simp
        clear hR hun hg hhd hkl hV hVs hVl hx2 hx0 ha hD hc
        go_wp2_with fail
        (with_reducible refine HNX.out.mono ?_)
        rintro e w5 ⟨rfl, hf5, S5, hm5, hs5⟩
        have HX := Lib.hid (HGO.out w5 S5 hf5 hm5 hs5)
        clear hf5 hm5 hs5
        go_wp2_with fail
        go_roundg r.length
        case measure => rw [← hlen]; simp
        case rel => exact ⟨last, r, S5, rfl, HRR.out, rfl, HFI2.out, HX.out.1, HX.out.2.1, HX.out.2.2⟩
       ·have c1 : ((str k).toList == (str last).toList) = false := by
         rw [beq_eq_false_iff_ne]
         intro e
         rw [ByteArray.toList_eq, ByteArray.toList_eq] at e
         exact hkl (by simpa [str] using e)
        by_cases hn : seq < n
        ·have hR : settleF seq last r = R := by
          rw [← HSE.out]
          simp only [settleF, hun, hg, hn, or_true, if_true, Bool.true_eq_false, if_false]
         have HRR := Lib.hid hR
         have c2 : decide (seq < n) = true := decide_eq_true hn
         clear hR hun hg hhd hkl hn hV hVs hVl hx2 hx0 ha hD hc
         go_wp2_with fail
         (with_reducible refine HNX.out.mono ?_)
         rintro e w5 ⟨rfl, hf5, S5, hm5, hs5⟩
         have HX := Lib.hid (HGO.out w5 S5 hf5 hm5 hs5)
         clear hf5 hm5 hs5
         go_wp2_with fail
         go_roundg r.length
         case measure => rw [← hlen]; simp
         case rel => exact ⟨last, r, S5, rfl, HRR.out, rfl, HFI2.out, HX.out.1, HX.out.2.1, HX.out.2.2⟩
        ·have c2 : decide (seq < n) = false := decide_eq_false hn
         have hR : settleF seq k r = R := by
          rw [← HSE.out]
          simp only [settleF, hun, hg, hhd, hkl, hn, or_false, Bool.true_eq_false, if_false]
         have HRR := Lib.hid hR
         clear hR hun hg hhd hkl hn hV hVs hVl hx2 hx0 ha hD hc
         go_wp2_with fail
         (with_reducible refine HNX.out.mono ?_)
         rintro e w5 ⟨rfl, hf5, S5, hm5, hs5⟩
         have HX := Lib.hid (HGO.out w5 S5 hf5 hm5 hs5)
         clear hf5 hm5 hs5
         go_wp2_with fail
         go_roundg r.length
         case measure => rw [← hlen]; simp
         case rel => exact ⟨k, r, S5, rfl, HRR.out, rfl, HFI2.out, HX.out.1, HX.out.2.1, HX.out.2.2⟩
      ·have hR : R = (x :: r, ⟨[], [], false, 9⟩) := by
        rw [← HSE.out]
        have hg : goodV x.2 = false := by
         unfold goodV
         rw [beq_eq_false_iff_ne.2 hD, hx2]
         simpa using ha
        simp only [settleF, hun, hg, if_true]
       subst hR
       have r1 : (V.toList == [68]) = false := by rw [hVl, ← hx2, beq_eq_false_iff_ne]; exact hD
       have r2 : (V.toList != [68]) = true := by rw [hVl, ← hx2, bne_iff_ne]; exact hD
       clear hun hV hVs hVl hx2 hx0 ha hD hc
       go_wp2_with fail
       obtain ⟨hvv, hff⟩ := HBAD.out _ rfl
       exact bodyPost_ret (v := .tuple #[]) (by simp [results, Tryz.results67, go_sem]) rfl ⟨rfl, hff, S', hvv, HSS.out⟩
   ·have hR : R = (x :: r, ⟨[], [], false, 9⟩) := by
     rw [← HSE.out]
     simp only [settleF, hun]
    subst hR
    clear hun
    go_wp2_with fail
    obtain ⟨hvv, hff⟩ := HBAD.out _ rfl
    exact bodyPost_ret (v := .tuple #[]) (by simp [results, Tryz.results67, go_sem]) rfl ⟨rfl, hff, S', hvv, HSS.out⟩
end Go.Proofs.YtdbfaknpfepnfaaGreatDoor


namespace Go.Proofs.YtdbfaknpfepnfaaGreatDoor
open Go.RowKit CodecP Cur

section
variable {B p : Nat} (K : MerK B p) (v : Nat) (seq : Int) (S : Nat → Prop) (r : List Pr) (st : VSt) (w : World)
theorem vwErr_any (h : Vw K w v seq S r st) : Calls Tryz.prog 23 #[(Value.pointer (some ⟨v, 0, none⟩))] w fun e w' => e = .returned (.int .i64 st.err) ∧ w = w' := by
 obtain ⟨key, value, valid, err⟩ := st
 have d0 := cellOf2 (o := 0) h.cells rfl
 have d5 := cellOf2 (o := 5) h.cells rfl
 have HE := Lib.hid (K.err h.m)
 clear h
 by_cases he : err = 0
 ·subst he
  go_enter Tryz.func23, Tryz.ntmps23
  go_wp2_with fail
  (with_reducible refine HE.out.mono ?_)
  rintro e w1 ⟨rfl, rfl⟩
  go_wp2_with fail
  go_ret
  exact ⟨rfl, rfl⟩
 ·have q1 : (err == 0) = false := by rw [beq_eq_false_iff_ne]; exact he
  have q2 : (err != 0) = true := by rw [bne_iff_ne]; exact he
  clear HE
  go_enter Tryz.func23, Tryz.ntmps23
  go_wp2_with fail
  go_ret
  exact ⟨rfl, rfl⟩
theorem vwValid_any (h : Vw K w v seq S r st) : Calls Tryz.prog 19 #[(Value.pointer (some ⟨v, 0, none⟩))] w fun e w' => e = .returned (.bool (st.valid && st.err == 0)) ∧ w = w' := by
 have HE := Lib.hid (vwErr_any K v seq S r st w h)
 obtain ⟨key, value, valid, err⟩ := st
 have d4 := cellOf2 (o := 4) h.cells rfl
 clear h
 cases valid with
 | false =>
  clear HE
  go_enter Tryz.func19, Tryz.ntmps19
  go_wp2_with fail
  go_ret
  exact ⟨rfl, rfl⟩
 | true =>
  have hq : (true && err == 0) = (err == 0) := by simp
  have HQ := Lib.hid hq
  clear hq
  go_enter Tryz.func19, Tryz.ntmps19
  go_wp2_with fail
  (with_reducible refine HE.out.mono ?_)
  rintro e w1 ⟨rfl, rfl⟩
  go_wp2_with fail
  go_ret
  exact ⟨congrArg (fun x => Ending.returned (Value.bool x)) HQ.out.symm, rfl⟩
theorem vwKey_any (h : Vw K w v seq S r st) : Calls Tryz.prog 20 #[(Value.pointer (some ⟨v, 0, none⟩))] w fun e w' => e = .returned (.string (if (st.valid && st.err == 0) = true then str st.key else ⟨#[]⟩)) ∧ w = w' := by
 have HV := Lib.hid (vwValid_any K v seq S r st w h)
 obtain ⟨key, value, valid, err⟩ := st
 have d2 := cellOf2 (o := 2) h.cells rfl
 clear h
 dsimp only at HV ⊢
 generalize (valid && err == 0) = b at *
 cases b with
 | false =>
  go_enter Tryz.func20, Tryz.ntmps20
  go_wp2_with fail
  (with_reducible refine HV.out.mono ?_)
  rintro e w1 ⟨rfl, rfl⟩
  go_wp2_with fail
  go_ret
  exact ⟨rfl, rfl⟩
 | true =>
  go_enter Tryz.func20, Tryz.ntmps20
  go_wp2_with fail
  (with_reducible refine HV.out.mono ?_)
  rintro e w1 ⟨rfl, rfl⟩
  go_wp2_with fail
  go_ret
  exact ⟨rfl, rfl⟩
theorem vwValue_any (h : Vw K w v seq S r st) : Calls Tryz.prog 21 #[(Value.pointer (some ⟨v, 0, none⟩))] w fun e w' => e = .returned (.string (if (st.valid && st.err == 0) = true then str st.value else ⟨#[]⟩)) ∧ w = w' := by
 have HV := Lib.hid (vwValid_any K v seq S r st w h)
 obtain ⟨key, value, valid, err⟩ := st
 have d2 := cellOf2 (o := 3) h.cells rfl
 clear h
 dsimp only at HV ⊢
 generalize (valid && err == 0) = b at *
 cases b with
 | false =>
  go_enter Tryz.func21, Tryz.ntmps21
  go_wp2_with fail
  (with_reducible refine HV.out.mono ?_)
  rintro e w1 ⟨rfl, rfl⟩
  go_wp2_with fail
  go_ret
  exact ⟨rfl, rfl⟩
 | true =>
  go_enter Tryz.func21, Tryz.ntmps21
  go_wp2_with fail
  (with_reducible refine HV.out.mono ?_)
  rintro e w1 ⟨rfl, rfl⟩
  go_wp2_with fail
  go_ret
  exact ⟨rfl, rfl⟩
theorem vwSeek_any (key : ByteArray) (r1 : List Pr) (h : Vw K w v seq S r st) (he : st.err = 0) (hfit : fitsR r1)
  (hsk : Calls Tryz.prog 46 #[(Value.pointer (some ⟨p, 0, none⟩)), .string key] w fun e w' => e = .returned (.tuple #[]) ∧ Fr S w w' ∧ ∃ S', K.M w' S' r1 ∧ ∀ j, S' j → S j ∨ w.heap.size ≤ j) :
  Calls Tryz.prog 22 #[(Value.pointer (some ⟨v, 0, none⟩)), .string key] w fun e w' => e = .returned (.tuple #[]) ∧ Fr (fun k => k = v ∨ S k) w w' ∧ ∃ S', Vw K w' v seq S' (settleF seq [] r1).1 (settleF seq [] r1).2 ∧ ∀ j, S' j → S j ∨ w.heap.size ≤ j := by
 have d0 := cellOf2 (o := 0) h.cells rfl
 have HSK := Lib.hid hsk
 have H := Lib.hid h
 have HE := Lib.hid he
 have HFI := Lib.hid hfit
 have hes : str [] = (⟨#[]⟩ : ByteArray) := rfl
 clear hsk h he hfit
 go_enter Tryz.func22, Tryz.ntmps22
 go_wp2_with fail
 (with_reducible refine HSK.out.mono ?_)
 rintro e w1 ⟨rfl, hf1, S1, hm1, hs1⟩
 have HV1 := Lib.hid (H.out.step hf1 hm1 hs1)
 have HS := Lib.hid (settle_any K v seq S1 r1 st [] w1 HV1.out HE.out HFI.out)
 rw [hes] at HS
 have HF1 := Lib.hid hf1
 have HS1 := Lib.hid hs1
 clear hf1 hm1 hs1 hes d0
 go_wp2_with fail
 (with_reducible refine HS.out.mono ?_)
 rintro e w2 ⟨rfl, hf2, S2, hv2, hs2⟩
 have hsz := HF1.out.size
 have HF2 := Lib.hid ((HF1.out.mono (T := fun k => k = v ∨ S k) (fun _ _ h => .inr h)).trans hf2 (fun k hk h => h.elim .inl (fun h => (HS1.out k h).elim .inr (fun h => absurd hk (by omega)))))
 have HV2 := Lib.hid hv2
 have HS2 := Lib.hid (fun j (hj : S2 j) => (hs2 j hj).elim (HS1.out j) (fun h => .inr (Nat.le_trans hsz h)))
 clear hf2 hv2 hs2 hsz
 go_wp2_with fail
 go_end0
 exact ⟨rfl, HF2.out, S2, HV2.out, HS2.out⟩
theorem newView_any (h : K.M w S r) : Calls Tryz.prog 17 #[(Value.pointer (some ⟨p, 0, none⟩)), .int .i64 seq] w fun e w' => ∃ v, e = .returned ((Value.pointer (some ⟨v, 0, none⟩))) ∧ Vw K w' v seq S r ⟨[], [], false, 0⟩ ∧ Below w.heap.size w w' ∧ w.heap.size ≤ v := by
 have hba : Below w.heap.size w (w.alloc (.cells #[(Value.pointer (some ⟨p, 0, none⟩)), .int .i64 seq, .string ⟨#[]⟩, .string ⟨#[]⟩, .bool false, .int .i64 0] 104)) := (Below.refl _ w).alloc (Nat.le_refl _) _
 have hc : (w.alloc (.cells #[(Value.pointer (some ⟨p, 0, none⟩)), .int .i64 seq, .string ⟨#[]⟩, .string ⟨#[]⟩, .bool false, .int .i64 0] 104)).heap[w.heap.size]? = some (.cells #[(Value.pointer (some ⟨p, 0, none⟩)), .int .i64 seq, .string ⟨#[]⟩, .string ⟨#[]⟩, .bool false, .int .i64 0] 104 (0, 0)) := by
  show (w.heap.push _)[w.heap.size]? = _
  simp
 have HVW := Lib.hid (show Vw K _ w.heap.size seq S r ⟨[], [], false, 0⟩ from ⟨hc, K.below h hba, fun hs => absurd (K.lt h _ hs) (Nat.lt_irrefl _), K.base h⟩)
 have HBA := Lib.hid hba
 clear h hba hc
 go_enter Tryz.func17, Tryz.ntmps17
 go_wp2_with fail
 go_ret
 exact ⟨_, rfl, HVW.out, HBA.out, Nat.le_refl _⟩
end
end Go.Proofs.YtdbfaknpfepnfaaGreatDoor


namespace Go.Proofs.YtdbfaknpfepnfaaGreatDoor
open Go.RowKit CodecP Cur

theorem one_yes (s : Src) (k : Nat) (old : List UInt8) (h : k < s.l.length) : one s k [old] = ⟨[{ s with at_ := k }], [0], [s.l[k].1]⟩ := by
 unfold one
 rw [dif_pos h]
theorem one_no (s : Src) (k : Nat) (old : List UInt8) (h : ¬ k < s.l.length) : one s k [old] = ⟨[{ s with at_ := k }], [], [old]⟩ := by
 unfold one
 rw [dif_neg h]
def oneM (B p : Nat) (s : Src) (w : World) (S : Nat → Prop) (r : List Pr) : Prop :=
 (∃ (k : Nat) (hk : k < s.l.length), Mg B w p S ⟨[{ s with at_ := k }], [0], [s.l[k].1]⟩ ∧ r = s.l.drop k) ∨ (∃ (k : Nat) (x : List UInt8), Mg B w p S ⟨[{ s with at_ := k }], [], [x]⟩ ∧ r = [])
theorem oneM_of {B p : Nat} {s : Src} {w : World} {S : Nat → Prop} {k : Nat} {old : List UInt8} (h : Mg B w p S (one s k [old])) : oneM B p s w S (s.l.drop k) := by
 rcases Nat.lt_or_ge k s.l.length with hlt | hge
 ·rw [one_yes s k old hlt] at h
  exact .inl ⟨k, hlt, h, rfl⟩
 ·rw [one_no s k old (by omega)] at h
  exact .inr ⟨k, old, h, List.drop_of_length_le hge⟩
theorem oneM_mg {B p : Nat} {s : Src} {w : World} {S : Nat → Prop} {r : List Pr} (h : oneM B p s w S r) : ∃ m, Mg B w p S m ∧ (∃ k x, m.ss = [{ s with at_ := k }] ∧ m.ks = [x]) ∧ decide (0 < m.hp.length) = decide (0 < r.length) ∧ ∀ w', Mg B w' p S m → oneM B p s w' S r := by
 rcases h with ⟨k, hk, hm, hr⟩ | ⟨k, x, hm, hr⟩
 ·refine ⟨_, hm, ⟨_, _, rfl, rfl⟩, ?_, fun w' h => .inl ⟨k, hk, h, hr⟩⟩
  rw [hr, decide_eq_true (by simp), decide_eq_true (by rw [List.length_drop]; omega)]
 ·exact ⟨_, hm, ⟨_, _, rfl, rfl⟩, by rw [hr]; rfl, fun w' h => .inr ⟨k, x, h, hr⟩⟩
theorem oneM_cons {B p : Nat} {s : Src} {w : World} {S : Nat → Prop} {x : Pr} {r : List Pr} (h : oneM B p s w S (x :: r)) : ∃ (k : Nat) (hk : k < s.l.length), Mg B w p S ⟨[{ s with at_ := k }], [0], [s.l[k].1]⟩ ∧ x = s.l[k] ∧ r = s.l.drop (k + 1) := by
 rcases h with ⟨k, hk, hm, hr⟩ | ⟨k, x, hm, hr⟩
 ·rw [List.drop_eq_getElem_cons hk] at hr
  injection hr with h1 h2
  exact ⟨k, hk, hm, h1, h2⟩
 ·cases hr
def oneK (B p : Nat) (s : Src) (hlen : s.l.length ≤ 1000000) (hne : ∀ k (h : k + 1 < s.l.length), s.l[k + 1].1 ≠ s.l[k].1) : MerK B p where
 M := oneM B p s
 lt := fun {w S r} h => by
  obtain ⟨m, hm, -⟩ := oneM_mg h
  exact hm.lt
 own := fun {w S r} h => by
  obtain ⟨m, hm, -⟩ := oneM_mg h
  exact hm.own
 base := fun {w S r} h => by
  obtain ⟨m, hm, -⟩ := oneM_mg h
  exact hm.Bw
 keep := fun {w w' S r} h hb hB => by
  obtain ⟨m, hm, -, -, hk⟩ := oneM_mg h
  exact hk w' (hm.keep hb hB)
 valid := fun {w S r} h => by
  obtain ⟨m, hm, -, hd, -⟩ := oneM_mg h
  rw [← hd]
  exact mgValid_any B p S m w hm
 err := fun {w S r} h => by
  obtain ⟨m, hm, -⟩ := oneM_mg h
  exact mgErr_any B p S m w hm
 pair := fun {w S x r} h => by
  obtain ⟨k, hk, hm, hx, hr⟩ := oneM_cons h
  rw [hx]
  exact pair_one B p S _ _ w hm hk
 next := fun {w S x r} h => by
  obtain ⟨k, hk, hm, hx, hr⟩ := oneM_cons h
  refine (next_one B p k S s w hk hm (hne k) hlen).mono ?_
  rintro e w' ⟨he, hf, hm2⟩
  exact ⟨he, hf, S, by rw [hr]; exact oneM_of hm2, fun j hj => .inl hj⟩
theorem oneK_seek {B p : Nat} {s : Src} {w : World} {S : Nat → Prop} {r : List Pr} (h : oneM B p s w S r) (key : ByteArray) (k : Nat) (hk : k ≤ s.l.length) (h1 : ∀ i (hi : i < s.l.length), i < k → s.l[i].1 < bl key) (h2 : ∀ i (hi : i < s.l.length), k ≤ i → ¬ s.l[i].1 < bl key) :
  Calls Tryz.prog 46 #[(Value.pointer (some ⟨p, 0, none⟩)), .string key] w fun e w' => e = .returned (.tuple #[]) ∧ Fr S w w' ∧ ∃ S', oneM B p s w' S' (s.l.drop k) ∧ ∀ j, S' j → S j ∨ w.heap.size ≤ j := by
 obtain ⟨⟨ss, hp, ks⟩, hm, ⟨k0, x, e1, e2⟩, -⟩ := oneM_mg h
 dsimp only at e1 e2
 subst e1 e2
 refine (seekM_one B p k S { s with at_ := k0 } hp x key w hm hk h1 h2).mono ?_
 rintro e w' ⟨he, hf, S', hm2, hs⟩
 exact ⟨he, hf, S', oneM_of (s := s) (old := x) hm2, hs⟩
theorem Vw.other {B p : Nat} {K : MerK B p} {w w' : World} {v : Nat} {seq : Int} {S V : Nat → Prop} {r : List Pr} {st : VSt} (h : Vw K w v seq S r st) (hf : Fr V w w') (hV : ∀ k, V k → k < w.heap.size → B ≤ k ∧ ¬ S k ∧ k ≠ v) : Vw K w' v seq S r st :=
 ⟨(hf.block v (lt_of_block h.cells) (fun hv => (hV v hv (lt_of_block h.cells)).2.2 rfl)).trans h.cells, K.keep h.m (fun k hk => hf.block k (K.lt h.m k hk) (fun hv => (hV k hv (K.lt h.m k hk)).2.1 hk)) (hf.below (K.base h.m) (fun k hk hv => (hV k hv hk).1)), h.out, h.base⟩
def exL : List Pr := [(inn [97] 2, [68]), (inn [97] 1, [80, 49]), (inn [98] 1, [80, 50])]
theorem ex_1 : settleF 1 [] exL = ([(inn [97] 1, [80, 49]), (inn [98] 1, [80, 50])], ⟨[97], [49], true, 0⟩) := by
 have h1 : unp (inn [97] 2) = some ([97], 2) := unp_inn (by decide)
 have h2 : unp (inn [97] 1) = some ([97], 1) := unp_inn (by decide)
 simp [exL, settleF, h1, h2, goodV]
theorem ex_2 : settleF 2 [] exL = ([(inn [98] 1, [80, 50])], ⟨[98], [50], true, 0⟩) := by
 have h1 : unp (inn [97] 2) = some ([97], 2) := unp_inn (by decide)
 have h2 : unp (inn [97] 1) = some ([97], 1) := unp_inn (by decide)
 have h3 : unp (inn [98] 1) = some ([98], 1) := unp_inn (by decide)
 simp [exL, settleF, h1, h2, h3, goodV]
theorem ex_ne : ∀ k (h : k + 1 < exL.length), exL[k + 1].1 ≠ exL[k].1 := by
 have h1 : inn [97] 1 ≠ inn [97] 2 := by decide
 have h2 : inn [98] 1 ≠ inn [97] 1 := by decide
 intro k h
 match k, h with
 | 0, _ => exact h1
 | 1, _ => exact h2
theorem ex_fits : fitsR exL := by
 intro x hx
 simp only [exL, List.mem_cons, List.not_mem_nil, or_false] at hx
 rcases hx with rfl | rfl | rfl <;> exact ⟨by rw [inn_len]; decide, by decide⟩
end Go.Proofs.YtdbfaknpfepnfaaGreatDoor


