/-
  Texts of the claim, joined: TabPrW, RefWhW, Finds2W.
-/
import Derived.Test.YtdbfaknpfepnfaaGreatDoorMxBK8
import Derived.Deep.RegionHeld3
import Derived.Deep.RegionWith
import Derived.Test.YtdbfaknpfepnfaaGreatDoorMxBK15
import Derived.Test.YtdbfaknpfepnfaaGreatDoorMxBK21
set_option maxRecDepth 100000
set_option maxHeartbeats 40000000
namespace Go.Proofs.YtdbfaknpfepnfaaGreatDoor
open Go.RowKit CodecP

attribute [local go_sem] yl_undef
theorem lssR (a b : ByteArray) : Op.bytesLess a.toList b.toList = decide (bl a < bl b) := by
 rw [bytesLess_eq, ByteArray.toList_eq, ByteArray.toList_eq]
 rfl
theorem lt_of_len {l : List UInt8} (h : 1 ≤ l.length) : lastK [] < l := by
 cases l with
 | nil => simp at h
 | cons a l => exact List.nil_lt_cons a l
structure PnS (w0 w : World) (nv : Value) (qs : List Pr) : Prop where
 bel : Below w0.heap.size w0 w
 row : w.ownsRow w0.heap.size 40 2 nv qs.length (flatR qs)
 rise : Rise qs
section
variable {w0 w w' : World} {qs qs' : List Pr} {nv nv' : Value}
theorem PnS.below (h : PnS w0 w nv qs) (hb : Below w.heap.size w w') : PnS w0 w' nv qs := ⟨h.bel.trans (hb.mono h.bel.size), owns_of_block h.row (fun k hk => hb.block k (h.row.lt k hk).2), h.rise⟩
theorem PnS.append (h : PnS w0 w nv qs) {o : Obj} (hg : (w.alloc o).grownBy w' nv.ownBlock) (hr : w'.ownsRow w0.heap.size 40 2 nv' qs'.length (flatR qs')) (hri : Rise qs') : PnS w0 w' nv' qs' := by
 have hf : Fr (fun k => nv.ownBlock = some k) w w' := ((Fr.refl _ w).alloc o).grown hg (fun _ _ h => h)
 exact ⟨h.bel.trans (hf.below h.bel.size (fun k _ hk => (h.row.lt k hk).1)), hr, hri⟩
end
theorem refPairs_any (v : Value) (L : List Pr) (w : World) (h : PrsIn w v L) (hl200 : L.length ≤ 4000) :
  Calls Tryz.prog 35 #[v] w fun e w' => ∃ nv ps, e = .returned nv ∧ PnS w w' nv ps ∧ ps.length ≤ L.length := by
 obtain ⟨i0, hi, hz0, hz1, hz2⟩ := info_parts info_prR
 have HC := Lib.hid (fun A n cap hv i hi => h.cells (A := A) (n := n) (cap := cap) hv (i := i) hi)
 have HLE := Lib.hid h.le
 obtain ⟨A, cap, hv, hs⟩ := h.ex
 subst hv
 have hcl := hs.le
 have hcm := hs.max
 unfold maxLen at hcm
 have HN := Lib.hid (show PnS w w (.slice none 0 0) [] from ⟨Below.refl _ _, World.ownsRow_nil _ _ _ _, Rise.nil⟩)
 clear h hs
 go_enter Tryz.func35, Tryz.ntmps35
 go_wp2_with fail
 go_loopg [3, 4] L.length (fun g nv iv wr => ∃ (i : Nat) (ps : List Pr), i + g = L.length ∧ iv = .int .i64 i ∧ PnS w wr nv ps ∧ ps.length ≤ i)
 case atStart => exact ⟨0, [], by omega, rfl, HN.out, by simp⟩
 case round =>
  clear HN
  obtain ⟨i, ps, hig, rfl, hBN, hpi⟩ := hrel
  obtain ⟨ao, cp, hnv⟩ := own_form hBN.row
  subst hnv
  have HB := Lib.hid hBN
  clear hBN
  by_cases hlt : i < L.length
  ·obtain ⟨bk, off, rfl, hc⟩ := HC.out _ _ _ rfl i hlt
   have hle := HLE.out L[i] (List.getElem_mem hlt)
   have HCW := Lib.hid (fun W hW => hc W hW i hlt)
   obtain ⟨c0, c1⟩ := hc wr HB.out.bel i hlt
   have e1 := str_size L[i].1
   have e2 := str_size L[i].2
   rw [← e1, ← e2] at hle
   obtain ⟨hk, hv⟩ := hle
   have hp : L[i] = (bl (str L[i].1), bl (str L[i].2)) := by rw [bl_str, bl_str]
   have hOd : ∃ O : Bool, (O = true ↔ Okp L[i]) := ⟨decide (Okp L[i]), by simp⟩
   obtain ⟨O, hO⟩ := hOd
   rw [hp] at hO
   have HRT := Lib.hid (fun W => refRight_any (str L[i].1) (str L[i].2) W hk hv O hO)
   have gi : (i : Int) < (L.length : Int) := by omega
   have HOO := Lib.hid hO
   clear hc e1 e2 hp hO
   generalize str L[i].1 = sk at *
   generalize str L[i].2 = sv at *
   generalize L[i] = pr at *
   have hdr : Below w.heap.size w wr.drew := HB.out.bel.drew
   obtain ⟨d0, d1⟩ := HCW.out _ hdr
   cases O with
   | false =>
    go_wp2_with fail
    refine wp_region_held_drew (S := (fun w' => w'.cell? ⟨bk, off + i * 2, none⟩ = some (.string sk) ∧ w'.cell? ⟨bk, off + i * 2 + 1, none⟩ = some (.string sv))) (by kernel_rfl) (by (try dsimp only); exact ⟨d0, d1⟩) (fun hHeld => ?_)
    refine takeH (i := 0) (d := some 11) (v := ?_) rfl rfl (by kernel_rfl) (by kernel_rfl) (by kernel_rfl) (fun _ _ _ h => h) (Or.inl ⟨by rfl, ?_⟩) (by assumption) ?_
    rotate_left
    ·intro wS hSw; (try dsimp only at hSw); go_simp; (try (with_reducible rfl))
    simp only [Act.put, zA, zB, zC]
    refine takeH (i := 1) (d := some 12) (v := ?_) rfl rfl (by kernel_rfl) (by kernel_rfl) (by kernel_rfl) (fun _ _ _ h => h) (Or.inl ⟨by rfl, ?_⟩) (by assumption) ?_
    rotate_left
    ·intro wS hSw; (try dsimp only at hSw); go_simp; (try (with_reducible rfl))
    simp only [Act.put, zA, zB, zC]
    refine takeH (i := 2) (d := some 13) (v := ?_) rfl rfl (by kernel_rfl) (by kernel_rfl) (by kernel_rfl) (fun _ _ _ h => h) (Or.inl ⟨by rfl, ?_⟩) (by assumption) ?_
    rotate_left
    ·intro wS hSw; (try dsimp only at hSw); go_simp; (try (with_reducible rfl))
    simp only [Act.put, zA, zB, zC]
    refine takeH (i := 3) (d := some 14) (v := ?_) rfl rfl (by kernel_rfl) (by kernel_rfl) (by kernel_rfl) (fun _ _ _ h => h) (Or.inl ⟨by rfl, ?_⟩) (by assumption) ?_
    rotate_left
    ·intro wS hSw; (try dsimp only at hSw); go_simp; (try (with_reducible rfl))
    simp only [Act.put, zA, zB, zC]
    refine wpAnyH_ready (rs := [4]) (by kernel_rfl) (by simp) ?_
    refine AllReadyH.cons rfl (fun K hK => ?_) AllReadyH.nil
    go_simp
    refine (HRT.out _).mono ?_
    rintro e w4 ⟨rfl, hb4⟩
    obtain ⟨k0, k1⟩ := HCW.out w4 (HB.out.bel.drew.trans (hb4.mono HB.out.bel.size))
    have HB4 := Lib.hid hb4
    clear hb4
    go_wp2_with fail
    refine hK.out _ _ (by (try dsimp only); exact ⟨k0, k1⟩) (fun hHeld => ?_)
    clear hK K
    refine takeH (i := 5) (d := some 16) (v := ?_) rfl rfl (by kernel_rfl) (by kernel_rfl) (by kernel_rfl) (fun _ _ _ h => h) (Or.inl ⟨by rfl, ?_⟩) (by assumption) ?_
    rotate_left
    ·intro wS hSw; (try dsimp only at hSw); go_simp; (try (with_reducible rfl))
    simp only [Act.put, zA, zB, zC]
    refine takeH (i := 6) (d := some 17) (v := undef) rfl rfl (by kernel_rfl) (by kernel_rfl) (by kernel_rfl) (fun _ _ _ h => h) (Or.inr ⟨by rfl, rfl⟩) (by assumption) ?_
    simp only [Act.put, zA, zB, zC]
    refine takeH (i := 7) (d := some 18) (v := undef) rfl rfl (by kernel_rfl) (by kernel_rfl) (by kernel_rfl) (fun _ _ _ h => h) (Or.inr ⟨by rfl, rfl⟩) (by assumption) ?_
    simp only [Act.put, zA, zB, zC]
    refine takeH (i := 8) (d := some 19) (v := undef) rfl rfl (by kernel_rfl) (by kernel_rfl) (by kernel_rfl) (fun _ _ _ h => h) (Or.inr ⟨by rfl, rfl⟩) (by assumption) ?_
    simp only [Act.put, zA, zB, zC]
    refine takeH (i := 9) (d := some 20) (v := undef) rfl rfl (by kernel_rfl) (by kernel_rfl) (by kernel_rfl) (fun _ _ _ h => h) (Or.inr ⟨by rfl, rfl⟩) (by assumption) ?_
    simp only [Act.put, zA, zB, zC]
    refine takeH (i := 10) (d := some 21) (v := undef) rfl rfl (by kernel_rfl) (by kernel_rfl) (by kernel_rfl) (fun _ _ _ h => h) (Or.inr ⟨by rfl, rfl⟩) (by assumption) ?_
    simp only [Act.put, zA, zB, zC]
    refine takeH (i := 11) (d := some 22) (v := undef) rfl rfl (by kernel_rfl) (by kernel_rfl) (by kernel_rfl) (fun _ _ _ h => h) (Or.inr ⟨by rfl, rfl⟩) (by assumption) ?_
    simp only [Act.put, zA, zB, zC]
    refine takeH (i := 12) (d := some 23) (v := undef) rfl rfl (by kernel_rfl) (by kernel_rfl) (by kernel_rfl) (fun _ _ _ h => h) (Or.inr ⟨by rfl, rfl⟩) (by assumption) ?_
    simp only [Act.put, zA, zB, zC]
    refine takeH (i := 13) (d := some 24) (v := undef) rfl rfl (by kernel_rfl) (by kernel_rfl) (by kernel_rfl) (fun _ _ _ h => h) (Or.inr ⟨by rfl, rfl⟩) (by assumption) ?_
    simp only [Act.put, zA, zB, zC]
    refine takeH (i := 14) (d := some 25) (v := undef) rfl rfl (by kernel_rfl) (by kernel_rfl) (by kernel_rfl) (fun _ _ _ h => h) (Or.inr ⟨by rfl, rfl⟩) (by assumption) ?_
    simp only [Act.put, zA, zB, zC]
    refine takeH (i := 15) (d := some 26) (v := undef) rfl rfl (by kernel_rfl) (by kernel_rfl) (by kernel_rfl) (fun _ _ _ h => h) (Or.inr ⟨by rfl, rfl⟩) (by assumption) ?_
    simp only [Act.put, zA, zB, zC]
    refine takeH (i := 16) (d := some 27) (v := undef) rfl rfl (by kernel_rfl) (by kernel_rfl) (by kernel_rfl) (fun _ _ _ h => h) (Or.inr ⟨by rfl, rfl⟩) (by assumption) ?_
    simp only [Act.put, zA, zB, zC]
    refine takeH (i := 17) (d := some 28) (v := undef) rfl rfl (by kernel_rfl) (by kernel_rfl) (by kernel_rfl) (fun _ _ _ h => h) (Or.inr ⟨by rfl, rfl⟩) (by assumption) ?_
    simp only [Act.put, zA, zB, zC]
    refine takeH (i := 18) (d := some 29) (v := undef) rfl rfl (by kernel_rfl) (by kernel_rfl) (by kernel_rfl) (fun _ _ _ h => h) (Or.inr ⟨by rfl, rfl⟩) (by assumption) ?_
    simp only [Act.put, zA, zB, zC]
    refine takeH (i := 19) (d := some 30) (v := undef) rfl rfl (by kernel_rfl) (by kernel_rfl) (by kernel_rfl) (fun _ _ _ h => h) (Or.inr ⟨by rfl, rfl⟩) (by assumption) ?_
    simp only [Act.put, zA, zB, zC]
    refine takeH (i := 20) (d := some 31) (v := undef) rfl rfl (by kernel_rfl) (by kernel_rfl) (by kernel_rfl) (fun _ _ _ h => h) (Or.inr ⟨by rfl, rfl⟩) (by assumption) ?_
    simp only [Act.put, zA, zB, zC]
    refine takeH (i := 21) (d := some 32) (v := undef) rfl rfl (by kernel_rfl) (by kernel_rfl) (by kernel_rfl) (fun _ _ _ h => h) (Or.inr ⟨by rfl, rfl⟩) (by assumption) ?_
    simp only [Act.put, zA, zB, zC]
    refine takeH (i := 22) (d := some 33) (v := undef) rfl rfl (by kernel_rfl) (by kernel_rfl) (by kernel_rfl) (fun _ _ _ h => h) (Or.inr ⟨by rfl, rfl⟩) (by assumption) ?_
    simp only [Act.put, zA, zB, zC]
    refine takeH (i := 23) (d := some 34) (v := undef) rfl rfl (by kernel_rfl) (by kernel_rfl) (by kernel_rfl) (fun _ _ _ h => h) (Or.inr ⟨by rfl, rfl⟩) (by assumption) ?_
    simp only [Act.put, zA, zB, zC]
    refine takeH (i := 24) (d := some 35) (v := ?_) rfl rfl (by kernel_rfl) (by kernel_rfl) (by kernel_rfl) (fun _ _ _ h => h) (Or.inl ⟨by rfl, ?_⟩) (by assumption) ?_
    rotate_left
    ·intro wS hSw; (try dsimp only at hSw); go_simp; (try (with_reducible rfl))
    simp only [Act.put, zA, zB, zC]
    refine wpAnyH_done (by kernel_rfl) ?_ _
    have HN5 := Lib.hid (HB.out.below HB4.out.undrew)
    go_wp2_with fail
    go_roundg (L.length - (i + 1))
    case measure => omega
    case rel => exact ⟨i + 1, ps, by omega, by go_num, HN5.out, by omega⟩
   | true =>
    have hok := HOO.out.1 rfl
    rcases Nat.eq_zero_or_pos ps.length with h0 | h0
    ·have hlk : lastK ps < bl sk := by rw [List.length_eq_zero_iff.1 h0]; exact lt_of_len hok.1
     have g0 : ((ps.length : Int) == 0) = true := by rw [h0]; rfl
     have HP0 := Lib.hid h0
     clear h0
     go_wp2_with fail
     refine wp_region_held_drew (S := (fun w' => w'.cell? ⟨bk, off + i * 2, none⟩ = some (.string sk) ∧ w'.cell? ⟨bk, off + i * 2 + 1, none⟩ = some (.string sv))) (by kernel_rfl) (by (try dsimp only); exact ⟨d0, d1⟩) (fun hHeld => ?_)
     refine takeH (i := 0) (d := some 11) (v := ?_) rfl rfl (by kernel_rfl) (by kernel_rfl) (by kernel_rfl) (fun _ _ _ h => h) (Or.inl ⟨by rfl, ?_⟩) (by assumption) ?_
     rotate_left
     ·intro wS hSw; (try dsimp only at hSw); go_simp; (try (with_reducible rfl))
     simp only [Act.put, zA, zB, zC]
     refine takeH (i := 1) (d := some 12) (v := ?_) rfl rfl (by kernel_rfl) (by kernel_rfl) (by kernel_rfl) (fun _ _ _ h => h) (Or.inl ⟨by rfl, ?_⟩) (by assumption) ?_
     rotate_left
     ·intro wS hSw; (try dsimp only at hSw); go_simp; (try (with_reducible rfl))
     simp only [Act.put, zA, zB, zC]
     refine takeH (i := 2) (d := some 13) (v := ?_) rfl rfl (by kernel_rfl) (by kernel_rfl) (by kernel_rfl) (fun _ _ _ h => h) (Or.inl ⟨by rfl, ?_⟩) (by assumption) ?_
     rotate_left
     ·intro wS hSw; (try dsimp only at hSw); go_simp; (try (with_reducible rfl))
     simp only [Act.put, zA, zB, zC]
     refine takeH (i := 3) (d := some 14) (v := ?_) rfl rfl (by kernel_rfl) (by kernel_rfl) (by kernel_rfl) (fun _ _ _ h => h) (Or.inl ⟨by rfl, ?_⟩) (by assumption) ?_
     rotate_left
     ·intro wS hSw; (try dsimp only at hSw); go_simp; (try (with_reducible rfl))
     simp only [Act.put, zA, zB, zC]
     refine wpAnyH_ready (rs := [4]) (by kernel_rfl) (by simp) ?_
     refine AllReadyH.cons rfl (fun K hK => ?_) AllReadyH.nil
     go_simp
     refine (HRT.out _).mono ?_
     rintro e w4 ⟨rfl, hb4⟩
     obtain ⟨k0, k1⟩ := HCW.out w4 (HB.out.bel.drew.trans (hb4.mono HB.out.bel.size))
     have HB4 := Lib.hid hb4
     clear hb4
     go_wp2_with fail
     refine hK.out _ _ (by (try dsimp only); exact ⟨k0, k1⟩) (fun hHeld => ?_)
     clear hK K
     refine takeH (i := 5) (d := some 16) (v := ?_) rfl rfl (by kernel_rfl) (by kernel_rfl) (by kernel_rfl) (fun _ _ _ h => h) (Or.inl ⟨by rfl, ?_⟩) (by assumption) ?_
     rotate_left
     ·intro wS hSw; (try dsimp only at hSw); go_simp; (try (with_reducible rfl))
     simp only [Act.put, zA, zB, zC]
     refine takeH (i := 6) (d := some 17) (v := ?_) rfl rfl (by kernel_rfl) (by kernel_rfl) (by kernel_rfl) (fun _ _ _ h => h) (Or.inl ⟨by rfl, ?_⟩) (by assumption) ?_
     rotate_left
     ·intro wS hSw; (try dsimp only at hSw); go_simp; (try (with_reducible rfl))
     simp only [Act.put, zA, zB, zC]
     refine takeH (i := 7) (d := some 18) (v := ?_) rfl rfl (by kernel_rfl) (by kernel_rfl) (by kernel_rfl) (fun _ _ _ h => h) (Or.inl ⟨by rfl, ?_⟩) (by assumption) ?_
     rotate_left
     ·intro wS hSw; (try dsimp only at hSw); go_simp; (try (with_reducible rfl))
     simp only [Act.put, zA, zB, zC]
     refine takeH (i := 8) (d := some 19) (v := ?_) rfl rfl (by kernel_rfl) (by kernel_rfl) (by kernel_rfl) (fun _ _ _ h => h) (Or.inl ⟨by rfl, ?_⟩) (by assumption) ?_
     rotate_left
     ·intro wS hSw; (try dsimp only at hSw); go_simp; (try (with_reducible rfl))
     simp only [Act.put, zA, zB, zC]
     refine takeH (i := 9) (d := some 20) (v := ?_) rfl rfl (by kernel_rfl) (by kernel_rfl) (by kernel_rfl) (fun _ _ _ h => h) (Or.inl ⟨by rfl, ?_⟩) (by assumption) ?_
     rotate_left
     ·intro wS hSw; (try dsimp only at hSw); go_simp; (try (with_reducible rfl))
     simp only [Act.put, zA, zB, zC]
     refine takeH (i := 10) (d := some 21) (v := undef) rfl rfl (by kernel_rfl) (by kernel_rfl) (by kernel_rfl) (fun _ _ _ h => h) (Or.inr ⟨by rfl, rfl⟩) (by assumption) ?_
     simp only [Act.put, zA, zB, zC]
     refine takeH (i := 11) (d := some 22) (v := undef) rfl rfl (by kernel_rfl) (by kernel_rfl) (by kernel_rfl) (fun _ _ _ h => h) (Or.inr ⟨by rfl, rfl⟩) (by assumption) ?_
     simp only [Act.put, zA, zB, zC]
     refine takeH (i := 12) (d := some 23) (v := undef) rfl rfl (by kernel_rfl) (by kernel_rfl) (by kernel_rfl) (fun _ _ _ h => h) (Or.inr ⟨by rfl, rfl⟩) (by assumption) ?_
     simp only [Act.put, zA, zB, zC]
     refine takeH (i := 13) (d := some 24) (v := undef) rfl rfl (by kernel_rfl) (by kernel_rfl) (by kernel_rfl) (fun _ _ _ h => h) (Or.inr ⟨by rfl, rfl⟩) (by assumption) ?_
     simp only [Act.put, zA, zB, zC]
     refine takeH (i := 14) (d := some 25) (v := undef) rfl rfl (by kernel_rfl) (by kernel_rfl) (by kernel_rfl) (fun _ _ _ h => h) (Or.inr ⟨by rfl, rfl⟩) (by assumption) ?_
     simp only [Act.put, zA, zB, zC]
     refine takeH (i := 15) (d := some 26) (v := undef) rfl rfl (by kernel_rfl) (by kernel_rfl) (by kernel_rfl) (fun _ _ _ h => h) (Or.inr ⟨by rfl, rfl⟩) (by assumption) ?_
     simp only [Act.put, zA, zB, zC]
     refine takeH (i := 16) (d := some 27) (v := undef) rfl rfl (by kernel_rfl) (by kernel_rfl) (by kernel_rfl) (fun _ _ _ h => h) (Or.inr ⟨by rfl, rfl⟩) (by assumption) ?_
     simp only [Act.put, zA, zB, zC]
     refine takeH (i := 17) (d := some 28) (v := undef) rfl rfl (by kernel_rfl) (by kernel_rfl) (by kernel_rfl) (fun _ _ _ h => h) (Or.inr ⟨by rfl, rfl⟩) (by assumption) ?_
     simp only [Act.put, zA, zB, zC]
     refine takeH (i := 18) (d := some 29) (v := undef) rfl rfl (by kernel_rfl) (by kernel_rfl) (by kernel_rfl) (fun _ _ _ h => h) (Or.inr ⟨by rfl, rfl⟩) (by assumption) ?_
     simp only [Act.put, zA, zB, zC]
     refine takeH (i := 19) (d := some 30) (v := undef) rfl rfl (by kernel_rfl) (by kernel_rfl) (by kernel_rfl) (fun _ _ _ h => h) (Or.inr ⟨by rfl, rfl⟩) (by assumption) ?_
     simp only [Act.put, zA, zB, zC]
     refine takeH (i := 20) (d := some 31) (v := undef) rfl rfl (by kernel_rfl) (by kernel_rfl) (by kernel_rfl) (fun _ _ _ h => h) (Or.inr ⟨by rfl, rfl⟩) (by assumption) ?_
     simp only [Act.put, zA, zB, zC]
     refine takeH (i := 21) (d := some 32) (v := undef) rfl rfl (by kernel_rfl) (by kernel_rfl) (by kernel_rfl) (fun _ _ _ h => h) (Or.inr ⟨by rfl, rfl⟩) (by assumption) ?_
     simp only [Act.put, zA, zB, zC]
     refine takeH (i := 22) (d := some 33) (v := undef) rfl rfl (by kernel_rfl) (by kernel_rfl) (by kernel_rfl) (fun _ _ _ h => h) (Or.inr ⟨by rfl, rfl⟩) (by assumption) ?_
     simp only [Act.put, zA, zB, zC]
     refine takeH (i := 23) (d := some 34) (v := ?_) rfl rfl (by kernel_rfl) (by kernel_rfl) (by kernel_rfl) (fun _ _ _ h => h) (Or.inl ⟨by rfl, ?_⟩) (by assumption) ?_
     rotate_left
     ·intro wS hSw; (try dsimp only at hSw); go_simp; (try (with_reducible rfl))
     simp only [Act.put, zA, zB, zC]
     refine takeH (i := 24) (d := some 35) (v := ?_) rfl rfl (by kernel_rfl) (by kernel_rfl) (by kernel_rfl) (fun _ _ _ h => h) (Or.inl ⟨by rfl, ?_⟩) (by assumption) ?_
     rotate_left
     ·intro wS hSw; (try dsimp only at hSw); go_simp; (try (with_reducible rfl))
     simp only [Act.put, zA, zB, zC]
     refine wpAnyH_done (by kernel_rfl) ?_ _
     have hN5 := HB.out.below HB4.out.undrew
     have HN5 := Lib.hid hN5
     obtain ⟨c0, c1⟩ := HCW.out w4 hN5.bel
     have HR5 := Lib.hid HN5.out.row
     have HPR : Hid (flatR [(bl sk, bl sv)] = [.string sk, .string sv]) := Lib.hid (by simp [flatR, str_bl])
     have HSN := Lib.hid (HN5.out.rise.snoc hok hlk (by omega))
     clear hN5 hok hlk
     go_wp2_with (at_builtin; refine wpList_append_own_at _ rfl (.tmp 36) (.tmp 41) 36 rfl w.heap.size 40 i0 (.agg #[.string ⟨#[]⟩, .string ⟨#[]⟩]) 2 32 Tryz.underlying36 hi hz0 hz1 hz2 rfl (by decide) _ _ _ rfl (HR5.out.alloc _) ⟨w4.heap.size, 0, none⟩ 1 1 [.string sk, .string sv] rfl rfl (cells2_new _ _ _ _) (two_one _ _) (by unfold maxLen; omega) (by omega) (Nat.le_trans HN5.out.bel.size (by simp)) ?_; intro v7 w7 hown hgrow hx1 hx2; have hN7 := HN5.out.append (qs' := ps ++ [(bl sk, bl sv)]) hgrow (by rw [List.length_append, List.length_singleton, flatR_append, HPR.out]; exact hown) HSN.out; have HN7 := Lib.hid hN7; clear hown hgrow hx1 hx2 hN7)
     go_roundg (L.length - (i + 1))
     case measure => omega
     case rel => exact ⟨i + 1, _, by omega, by go_num, HN7.out, by simp; omega⟩
    ·have hlkg := lastK_get ps h0
     obtain ⟨g6, cp6, hv6, _, hg6, hc6, hm6, hcell6⟩ := own_pos HB.out.row h0
     injection hv6 with hv6 _ hv6'
     subst hv6 hv6'
     unfold maxLen at hm6
     have hn := hcell6 _ _ (flatR_get ps (ps.length - 1) (by omega)).1
     rw [← hlkg] at hn
     have HCN := Lib.hid (fun W (hW : Below wr.heap.size wr W) => show W.cell? ⟨g6, (ps.length - 1) * 2, none⟩ = some (.string (str (lastK ps))) from by
      rw [hW.cell (p := ⟨g6, (ps.length - 1) * 2, none⟩) hg6]; exact hn)
     have s3 : IntKind.i64.wrap ((ps.length : Int) - 1) = (ps.length : Int) - 1 := IntWalk.i64_in _ (by omega)
     have s4 : ((ps.length : Int) - 1).toNat = ps.length - 1 := by omega
     have s5 : (0 : Int) ≤ (ps.length : Int) - 1 := by omega
     have s6 : (ps.length : Int) - 1 < (ps.length : Int) := by omega
     have s7 : (1 : Int) ≤ (ps.length : Int) := by omega
     have g0 : ((ps.length : Int) == 0) = false := by rw [beq_eq_false_iff_ne]; omega
     have q0 : Op.bytesLess (str (lastK ps)).toList sk.toList = decide (lastK ps < bl sk) := by rw [lssR, bl_str]
     have d2 : wr.drew.cell? ⟨g6, (ps.length - 1) * 2, none⟩ = some (.string (str (lastK ps))) := HCN.out _ (Below.refl _ _).drew
     clear hcell6 hlkg
     by_cases hlk : lastK ps < bl sk
     ·have q1 : Op.bytesLess (str (lastK ps)).toList sk.toList = true := by rw [q0]; exact decide_eq_true hlk
      clear q0 h0
      generalize hls : str (lastK ps) = ls at *
      go_wp2_with fail
      refine wp_region_held_drew (S := (fun w' => w'.cell? ⟨bk, off + i * 2, none⟩ = some (.string sk) ∧ w'.cell? ⟨bk, off + i * 2 + 1, none⟩ = some (.string sv) ∧ w'.cell? ⟨g6, (ps.length - 1) * 2, none⟩ = some (.string ls))) (by kernel_rfl) (by (try dsimp only); exact ⟨d0, d1, d2⟩) (fun hHeld => ?_)
      refine takeH (i := 0) (d := some 11) (v := ?_) rfl rfl (by kernel_rfl) (by kernel_rfl) (by kernel_rfl) (fun _ _ _ h => h) (Or.inl ⟨by rfl, ?_⟩) (by assumption) ?_
      rotate_left
      ·intro wS hSw; (try dsimp only at hSw); go_simp; (try (with_reducible rfl))
      simp only [Act.put, zA, zB, zC]
      refine takeH (i := 1) (d := some 12) (v := ?_) rfl rfl (by kernel_rfl) (by kernel_rfl) (by kernel_rfl) (fun _ _ _ h => h) (Or.inl ⟨by rfl, ?_⟩) (by assumption) ?_
      rotate_left
      ·intro wS hSw; (try dsimp only at hSw); go_simp; (try (with_reducible rfl))
      simp only [Act.put, zA, zB, zC]
      refine takeH (i := 2) (d := some 13) (v := ?_) rfl rfl (by kernel_rfl) (by kernel_rfl) (by kernel_rfl) (fun _ _ _ h => h) (Or.inl ⟨by rfl, ?_⟩) (by assumption) ?_
      rotate_left
      ·intro wS hSw; (try dsimp only at hSw); go_simp; (try (with_reducible rfl))
      simp only [Act.put, zA, zB, zC]
      refine takeH (i := 3) (d := some 14) (v := ?_) rfl rfl (by kernel_rfl) (by kernel_rfl) (by kernel_rfl) (fun _ _ _ h => h) (Or.inl ⟨by rfl, ?_⟩) (by assumption) ?_
      rotate_left
      ·intro wS hSw; (try dsimp only at hSw); go_simp; (try (with_reducible rfl))
      simp only [Act.put, zA, zB, zC]
      refine wpAnyH_ready (rs := [4]) (by kernel_rfl) (by simp) ?_
      refine AllReadyH.cons rfl (fun K hK => ?_) AllReadyH.nil
      go_simp
      refine (HRT.out _).mono ?_
      rintro e w4 ⟨rfl, hb4⟩
      obtain ⟨k0, k1⟩ := HCW.out w4 (HB.out.bel.drew.trans (hb4.mono HB.out.bel.size))
      have k2 := HCN.out w4 hb4.undrew
      have HB4 := Lib.hid hb4
      clear hb4
      go_wp2_with fail
      refine hK.out _ _ (by (try dsimp only); exact ⟨k0, k1, k2⟩) (fun hHeld => ?_)
      clear hK K
      refine takeH (i := 5) (d := some 16) (v := ?_) rfl rfl (by kernel_rfl) (by kernel_rfl) (by kernel_rfl) (fun _ _ _ h => h) (Or.inl ⟨by rfl, ?_⟩) (by assumption) ?_
      rotate_left
      ·intro wS hSw; (try dsimp only at hSw); go_simp; (try (with_reducible rfl))
      simp only [Act.put, zA, zB, zC]
      refine takeH (i := 6) (d := some 17) (v := ?_) rfl rfl (by kernel_rfl) (by kernel_rfl) (by kernel_rfl) (fun _ _ _ h => h) (Or.inl ⟨by rfl, ?_⟩) (by assumption) ?_
      rotate_left
      ·intro wS hSw; (try dsimp only at hSw); go_simp; (try (with_reducible rfl))
      simp only [Act.put, zA, zB, zC]
      refine takeH (i := 7) (d := some 18) (v := ?_) rfl rfl (by kernel_rfl) (by kernel_rfl) (by kernel_rfl) (fun _ _ _ h => h) (Or.inl ⟨by rfl, ?_⟩) (by assumption) ?_
      rotate_left
      ·intro wS hSw; (try dsimp only at hSw); go_simp; (try (with_reducible rfl))
      simp only [Act.put, zA, zB, zC]
      refine takeH (i := 8) (d := some 19) (v := ?_) rfl rfl (by kernel_rfl) (by kernel_rfl) (by kernel_rfl) (fun _ _ _ h => h) (Or.inl ⟨by rfl, ?_⟩) (by assumption) ?_
      rotate_left
      ·intro wS hSw; (try dsimp only at hSw); go_simp; (try (with_reducible rfl))
      simp only [Act.put, zA, zB, zC]
      refine takeH (i := 9) (d := some 20) (v := ?_) rfl rfl (by kernel_rfl) (by kernel_rfl) (by kernel_rfl) (fun _ _ _ h => h) (Or.inl ⟨by rfl, ?_⟩) (by assumption) ?_
      rotate_left
      ·intro wS hSw; (try dsimp only at hSw); go_simp; (try (with_reducible rfl))
      simp only [Act.put, zA, zB, zC]
      refine takeH (i := 10) (d := some 21) (v := ?_) rfl rfl (by kernel_rfl) (by kernel_rfl) (by kernel_rfl) (fun _ _ _ h => h) (Or.inl ⟨by rfl, ?_⟩) (by assumption) ?_
      rotate_left
      ·intro wS hSw; (try dsimp only at hSw); go_simp; (try (with_reducible rfl))
      simp only [Act.put, zA, zB, zC]
      refine takeH (i := 11) (d := some 22) (v := ?_) rfl rfl (by kernel_rfl) (by kernel_rfl) (by kernel_rfl) (fun _ _ _ h => h) (Or.inl ⟨by rfl, ?_⟩) (by assumption) ?_
      rotate_left
      ·intro wS hSw; (try dsimp only at hSw); go_simp; (try (with_reducible rfl))
      simp only [Act.put, zA, zB, zC]
      refine takeH (i := 12) (d := some 23) (v := ?_) rfl rfl (by kernel_rfl) (by kernel_rfl) (by kernel_rfl) (fun _ _ _ h => h) (Or.inl ⟨by rfl, ?_⟩) (by assumption) ?_
      rotate_left
      ·intro wS hSw; (try dsimp only at hSw); go_simp; (try (with_reducible rfl))
      simp only [Act.put, zA, zB, zC]
      refine takeH (i := 13) (d := some 24) (v := ?_) rfl rfl (by kernel_rfl) (by kernel_rfl) (by kernel_rfl) (fun _ _ _ h => h) (Or.inl ⟨by rfl, ?_⟩) (by assumption) ?_
      rotate_left
      ·intro wS hSw; (try dsimp only at hSw); go_simp; (try (with_reducible rfl))
      simp only [Act.put, zA, zB, zC]
      refine takeH (i := 14) (d := some 25) (v := ?_) rfl rfl (by kernel_rfl) (by kernel_rfl) (by kernel_rfl) (fun _ _ _ h => h) (Or.inl ⟨by rfl, ?_⟩) (by assumption) ?_
      rotate_left
      ·intro wS hSw; (try dsimp only at hSw); go_simp; (try (with_reducible rfl))
      simp only [Act.put, zA, zB, zC]
      refine takeH (i := 15) (d := some 26) (v := ?_) rfl rfl (by kernel_rfl) (by kernel_rfl) (by kernel_rfl) (fun _ _ _ h => h) (Or.inl ⟨by rfl, ?_⟩) (by assumption) ?_
      rotate_left
      ·intro wS hSw; (try dsimp only at hSw); go_simp; (try (with_reducible rfl))
      simp only [Act.put, zA, zB, zC]
      refine takeH (i := 16) (d := some 27) (v := ?_) rfl rfl (by kernel_rfl) (by kernel_rfl) (by kernel_rfl) (fun _ _ _ h => h) (Or.inl ⟨by rfl, ?_⟩) (by assumption) ?_
      rotate_left
      ·intro wS hSw; (try dsimp only at hSw); go_simp; (try (with_reducible rfl))
      simp only [Act.put, zA, zB, zC]
      refine takeH (i := 17) (d := some 28) (v := ?_) rfl rfl (by kernel_rfl) (by kernel_rfl) (by kernel_rfl) (fun _ _ _ h => h) (Or.inl ⟨by rfl, ?_⟩) (by assumption) ?_
      rotate_left
      ·intro wS hSw; (try dsimp only at hSw); go_simp; (try (with_reducible rfl))
      simp only [Act.put, zA, zB, zC]
      refine takeH (i := 18) (d := some 29) (v := ?_) rfl rfl (by kernel_rfl) (by kernel_rfl) (by kernel_rfl) (fun _ _ _ h => h) (Or.inl ⟨by rfl, ?_⟩) (by assumption) ?_
      rotate_left
      ·intro wS hSw; (try dsimp only at hSw); go_simp; (try (with_reducible rfl))
      simp only [Act.put, zA, zB, zC]
      refine takeH (i := 19) (d := some 30) (v := ?_) rfl rfl (by kernel_rfl) (by kernel_rfl) (by kernel_rfl) (fun _ _ _ h => h) (Or.inl ⟨by rfl, ?_⟩) (by assumption) ?_
      rotate_left
      ·intro wS hSw; (try dsimp only at hSw); go_simp; (try (with_reducible rfl))
      simp only [Act.put, zA, zB, zC]
      refine takeH (i := 20) (d := some 31) (v := ?_) rfl rfl (by kernel_rfl) (by kernel_rfl) (by kernel_rfl) (fun _ _ _ h => h) (Or.inl ⟨by rfl, ?_⟩) (by assumption) ?_
      rotate_left
      ·intro wS hSw; (try dsimp only at hSw); go_simp; (try (with_reducible rfl))
      simp only [Act.put, zA, zB, zC]
      refine takeH (i := 21) (d := some 32) (v := ?_) rfl rfl (by kernel_rfl) (by kernel_rfl) (by kernel_rfl) (fun _ _ _ h => h) (Or.inl ⟨by rfl, ?_⟩) (by assumption) ?_
      rotate_left
      ·intro wS hSw; (try dsimp only at hSw); go_simp; (try (with_reducible rfl))
      simp only [Act.put, zA, zB, zC]
      refine takeH (i := 22) (d := some 33) (v := ?_) rfl rfl (by kernel_rfl) (by kernel_rfl) (by kernel_rfl) (fun _ _ _ h => h) (Or.inl ⟨by rfl, ?_⟩) (by assumption) ?_
      rotate_left
      ·intro wS hSw; (try dsimp only at hSw); go_simp; (try (with_reducible rfl))
      simp only [Act.put, zA, zB, zC]
      refine takeH (i := 23) (d := some 34) (v := ?_) rfl rfl (by kernel_rfl) (by kernel_rfl) (by kernel_rfl) (fun _ _ _ h => h) (Or.inl ⟨by rfl, ?_⟩) (by assumption) ?_
      rotate_left
      ·intro wS hSw; (try dsimp only at hSw); go_simp; (try (with_reducible rfl))
      simp only [Act.put, zA, zB, zC]
      refine takeH (i := 24) (d := some 35) (v := ?_) rfl rfl (by kernel_rfl) (by kernel_rfl) (by kernel_rfl) (fun _ _ _ h => h) (Or.inl ⟨by rfl, ?_⟩) (by assumption) ?_
      rotate_left
      ·intro wS hSw; (try dsimp only at hSw); go_simp; (try (with_reducible rfl))
      simp only [Act.put, zA, zB, zC]
      refine wpAnyH_done (by kernel_rfl) ?_ _
      have hN5 := HB.out.below HB4.out.undrew
      have HN5 := Lib.hid hN5
      obtain ⟨c0, c1⟩ := HCW.out w4 hN5.bel
      have HR5 := Lib.hid HN5.out.row
      have HPR : Hid (flatR [(bl sk, bl sv)] = [.string sk, .string sv]) := Lib.hid (by simp [flatR, str_bl])
      have HSN := Lib.hid (HN5.out.rise.snoc hok hlk (by omega))
      clear hN5 hok hlk
      go_wp2_with (at_builtin; refine wpList_append_own_at _ rfl (.tmp 36) (.tmp 41) 36 rfl w.heap.size 40 i0 (.agg #[.string ⟨#[]⟩, .string ⟨#[]⟩]) 2 32 Tryz.underlying36 hi hz0 hz1 hz2 rfl (by decide) _ _ _ rfl (HR5.out.alloc _) ⟨w4.heap.size, 0, none⟩ 1 1 [.string sk, .string sv] rfl rfl (cells2_new _ _ _ _) (two_one _ _) (by unfold maxLen; omega) (by omega) (Nat.le_trans HN5.out.bel.size (by simp)) ?_; intro v7 w7 hown hgrow hx1 hx2; have hN7 := HN5.out.append (qs' := ps ++ [(bl sk, bl sv)]) hgrow (by rw [List.length_append, List.length_singleton, flatR_append, HPR.out]; exact hown) HSN.out; have HN7 := Lib.hid hN7; clear hown hgrow hx1 hx2 hN7)
      go_roundg (L.length - (i + 1))
      case measure => omega
      case rel => exact ⟨i + 1, _, by omega, by go_num, HN7.out, by simp; omega⟩
     ·have q1 : Op.bytesLess (str (lastK ps)).toList sk.toList = false := by rw [q0]; exact decide_eq_false hlk
      clear q0 hok h0 hlk
      generalize str (lastK ps) = ls at *
      go_wp2_with fail
      refine wp_region_held_drew (S := (fun w' => w'.cell? ⟨bk, off + i * 2, none⟩ = some (.string sk) ∧ w'.cell? ⟨bk, off + i * 2 + 1, none⟩ = some (.string sv) ∧ w'.cell? ⟨g6, (ps.length - 1) * 2, none⟩ = some (.string ls))) (by kernel_rfl) (by (try dsimp only); exact ⟨d0, d1, d2⟩) (fun hHeld => ?_)
      refine takeH (i := 0) (d := some 11) (v := ?_) rfl rfl (by kernel_rfl) (by kernel_rfl) (by kernel_rfl) (fun _ _ _ h => h) (Or.inl ⟨by rfl, ?_⟩) (by assumption) ?_
      rotate_left
      ·intro wS hSw; (try dsimp only at hSw); go_simp; (try (with_reducible rfl))
      simp only [Act.put, zA, zB, zC]
      refine takeH (i := 1) (d := some 12) (v := ?_) rfl rfl (by kernel_rfl) (by kernel_rfl) (by kernel_rfl) (fun _ _ _ h => h) (Or.inl ⟨by rfl, ?_⟩) (by assumption) ?_
      rotate_left
      ·intro wS hSw; (try dsimp only at hSw); go_simp; (try (with_reducible rfl))
      simp only [Act.put, zA, zB, zC]
      refine takeH (i := 2) (d := some 13) (v := ?_) rfl rfl (by kernel_rfl) (by kernel_rfl) (by kernel_rfl) (fun _ _ _ h => h) (Or.inl ⟨by rfl, ?_⟩) (by assumption) ?_
      rotate_left
      ·intro wS hSw; (try dsimp only at hSw); go_simp; (try (with_reducible rfl))
      simp only [Act.put, zA, zB, zC]
      refine takeH (i := 3) (d := some 14) (v := ?_) rfl rfl (by kernel_rfl) (by kernel_rfl) (by kernel_rfl) (fun _ _ _ h => h) (Or.inl ⟨by rfl, ?_⟩) (by assumption) ?_
      rotate_left
      ·intro wS hSw; (try dsimp only at hSw); go_simp; (try (with_reducible rfl))
      simp only [Act.put, zA, zB, zC]
      refine wpAnyH_ready (rs := [4]) (by kernel_rfl) (by simp) ?_
      refine AllReadyH.cons rfl (fun K hK => ?_) AllReadyH.nil
      go_simp
      refine (HRT.out _).mono ?_
      rintro e w4 ⟨rfl, hb4⟩
      obtain ⟨k0, k1⟩ := HCW.out w4 (HB.out.bel.drew.trans (hb4.mono HB.out.bel.size))
      have k2 := HCN.out w4 hb4.undrew
      have HB4 := Lib.hid hb4
      clear hb4
      go_wp2_with fail
      refine hK.out _ _ (by (try dsimp only); exact ⟨k0, k1, k2⟩) (fun hHeld => ?_)
      clear hK K
      refine takeH (i := 5) (d := some 16) (v := ?_) rfl rfl (by kernel_rfl) (by kernel_rfl) (by kernel_rfl) (fun _ _ _ h => h) (Or.inl ⟨by rfl, ?_⟩) (by assumption) ?_
      rotate_left
      ·intro wS hSw; (try dsimp only at hSw); go_simp; (try (with_reducible rfl))
      simp only [Act.put, zA, zB, zC]
      refine takeH (i := 6) (d := some 17) (v := ?_) rfl rfl (by kernel_rfl) (by kernel_rfl) (by kernel_rfl) (fun _ _ _ h => h) (Or.inl ⟨by rfl, ?_⟩) (by assumption) ?_
      rotate_left
      ·intro wS hSw; (try dsimp only at hSw); go_simp; (try (with_reducible rfl))
      simp only [Act.put, zA, zB, zC]
      refine takeH (i := 7) (d := some 18) (v := ?_) rfl rfl (by kernel_rfl) (by kernel_rfl) (by kernel_rfl) (fun _ _ _ h => h) (Or.inl ⟨by rfl, ?_⟩) (by assumption) ?_
      rotate_left
      ·intro wS hSw; (try dsimp only at hSw); go_simp; (try (with_reducible rfl))
      simp only [Act.put, zA, zB, zC]
      refine takeH (i := 8) (d := some 19) (v := ?_) rfl rfl (by kernel_rfl) (by kernel_rfl) (by kernel_rfl) (fun _ _ _ h => h) (Or.inl ⟨by rfl, ?_⟩) (by assumption) ?_
      rotate_left
      ·intro wS hSw; (try dsimp only at hSw); go_simp; (try (with_reducible rfl))
      simp only [Act.put, zA, zB, zC]
      refine takeH (i := 9) (d := some 20) (v := ?_) rfl rfl (by kernel_rfl) (by kernel_rfl) (by kernel_rfl) (fun _ _ _ h => h) (Or.inl ⟨by rfl, ?_⟩) (by assumption) ?_
      rotate_left
      ·intro wS hSw; (try dsimp only at hSw); go_simp; (try (with_reducible rfl))
      simp only [Act.put, zA, zB, zC]
      refine takeH (i := 10) (d := some 21) (v := ?_) rfl rfl (by kernel_rfl) (by kernel_rfl) (by kernel_rfl) (fun _ _ _ h => h) (Or.inl ⟨by rfl, ?_⟩) (by assumption) ?_
      rotate_left
      ·intro wS hSw; (try dsimp only at hSw); go_simp; (try (with_reducible rfl))
      simp only [Act.put, zA, zB, zC]
      refine takeH (i := 11) (d := some 22) (v := ?_) rfl rfl (by kernel_rfl) (by kernel_rfl) (by kernel_rfl) (fun _ _ _ h => h) (Or.inl ⟨by rfl, ?_⟩) (by assumption) ?_
      rotate_left
      ·intro wS hSw; (try dsimp only at hSw); go_simp; (try (with_reducible rfl))
      simp only [Act.put, zA, zB, zC]
      refine takeH (i := 12) (d := some 23) (v := ?_) rfl rfl (by kernel_rfl) (by kernel_rfl) (by kernel_rfl) (fun _ _ _ h => h) (Or.inl ⟨by rfl, ?_⟩) (by assumption) ?_
      rotate_left
      ·intro wS hSw; (try dsimp only at hSw); go_simp; (try (with_reducible rfl))
      simp only [Act.put, zA, zB, zC]
      refine takeH (i := 13) (d := some 24) (v := ?_) rfl rfl (by kernel_rfl) (by kernel_rfl) (by kernel_rfl) (fun _ _ _ h => h) (Or.inl ⟨by rfl, ?_⟩) (by assumption) ?_
      rotate_left
      ·intro wS hSw; (try dsimp only at hSw); go_simp; (try (with_reducible rfl))
      simp only [Act.put, zA, zB, zC]
      refine takeH (i := 14) (d := some 25) (v := ?_) rfl rfl (by kernel_rfl) (by kernel_rfl) (by kernel_rfl) (fun _ _ _ h => h) (Or.inl ⟨by rfl, ?_⟩) (by assumption) ?_
      rotate_left
      ·intro wS hSw; (try dsimp only at hSw); go_simp; (try (with_reducible rfl))
      simp only [Act.put, zA, zB, zC]
      refine takeH (i := 15) (d := some 26) (v := ?_) rfl rfl (by kernel_rfl) (by kernel_rfl) (by kernel_rfl) (fun _ _ _ h => h) (Or.inl ⟨by rfl, ?_⟩) (by assumption) ?_
      rotate_left
      ·intro wS hSw; (try dsimp only at hSw); go_simp; (try (with_reducible rfl))
      simp only [Act.put, zA, zB, zC]
      refine takeH (i := 16) (d := some 27) (v := ?_) rfl rfl (by kernel_rfl) (by kernel_rfl) (by kernel_rfl) (fun _ _ _ h => h) (Or.inl ⟨by rfl, ?_⟩) (by assumption) ?_
      rotate_left
      ·intro wS hSw; (try dsimp only at hSw); go_simp; (try (with_reducible rfl))
      simp only [Act.put, zA, zB, zC]
      refine takeH (i := 17) (d := some 28) (v := ?_) rfl rfl (by kernel_rfl) (by kernel_rfl) (by kernel_rfl) (fun _ _ _ h => h) (Or.inl ⟨by rfl, ?_⟩) (by assumption) ?_
      rotate_left
      ·intro wS hSw; (try dsimp only at hSw); go_simp; (try (with_reducible rfl))
      simp only [Act.put, zA, zB, zC]
      refine takeH (i := 18) (d := some 29) (v := ?_) rfl rfl (by kernel_rfl) (by kernel_rfl) (by kernel_rfl) (fun _ _ _ h => h) (Or.inl ⟨by rfl, ?_⟩) (by assumption) ?_
      rotate_left
      ·intro wS hSw; (try dsimp only at hSw); go_simp; (try (with_reducible rfl))
      simp only [Act.put, zA, zB, zC]
      refine takeH (i := 19) (d := some 30) (v := ?_) rfl rfl (by kernel_rfl) (by kernel_rfl) (by kernel_rfl) (fun _ _ _ h => h) (Or.inl ⟨by rfl, ?_⟩) (by assumption) ?_
      rotate_left
      ·intro wS hSw; (try dsimp only at hSw); go_simp; (try (with_reducible rfl))
      simp only [Act.put, zA, zB, zC]
      refine takeH (i := 20) (d := some 31) (v := ?_) rfl rfl (by kernel_rfl) (by kernel_rfl) (by kernel_rfl) (fun _ _ _ h => h) (Or.inl ⟨by rfl, ?_⟩) (by assumption) ?_
      rotate_left
      ·intro wS hSw; (try dsimp only at hSw); go_simp; (try (with_reducible rfl))
      simp only [Act.put, zA, zB, zC]
      refine takeH (i := 21) (d := some 32) (v := ?_) rfl rfl (by kernel_rfl) (by kernel_rfl) (by kernel_rfl) (fun _ _ _ h => h) (Or.inl ⟨by rfl, ?_⟩) (by assumption) ?_
      rotate_left
      ·intro wS hSw; (try dsimp only at hSw); go_simp; (try (with_reducible rfl))
      simp only [Act.put, zA, zB, zC]
      refine takeH (i := 22) (d := some 33) (v := ?_) rfl rfl (by kernel_rfl) (by kernel_rfl) (by kernel_rfl) (fun _ _ _ h => h) (Or.inl ⟨by rfl, ?_⟩) (by assumption) ?_
      rotate_left
      ·intro wS hSw; (try dsimp only at hSw); go_simp; (try (with_reducible rfl))
      simp only [Act.put, zA, zB, zC]
      refine takeH (i := 23) (d := some 34) (v := ?_) rfl rfl (by kernel_rfl) (by kernel_rfl) (by kernel_rfl) (fun _ _ _ h => h) (Or.inl ⟨by rfl, ?_⟩) (by assumption) ?_
      rotate_left
      ·intro wS hSw; (try dsimp only at hSw); go_simp; (try (with_reducible rfl))
      simp only [Act.put, zA, zB, zC]
      refine takeH (i := 24) (d := some 35) (v := ?_) rfl rfl (by kernel_rfl) (by kernel_rfl) (by kernel_rfl) (fun _ _ _ h => h) (Or.inl ⟨by rfl, ?_⟩) (by assumption) ?_
      rotate_left
      ·intro wS hSw; (try dsimp only at hSw); go_simp; (try (with_reducible rfl))
      simp only [Act.put, zA, zB, zC]
      refine wpAnyH_done (by kernel_rfl) ?_ _
      have HN5 := Lib.hid (HB.out.below HB4.out.undrew)
      go_wp2_with fail
      go_roundg (L.length - (i + 1))
      case measure => omega
      case rel => exact ⟨i + 1, ps, by omega, by go_num, HN5.out, by omega⟩
  ·obtain rfl : i = L.length := by omega
   clear HC HLE hcl hcm
   go_wp2_with fail
   go_ret
   exact ⟨_, ps, rfl, HB.out, hpi⟩
end Go.Proofs.YtdbfaknpfepnfaaGreatDoor


namespace Go.Proofs.YtdbfaknpfepnfaaGreatDoor
open Go.RowKit CodecP CrcP FrameP

theorem refWhole_any (s : ByteArray) (a b : Int) (w : World) (hs : s.size ≤ 1099511627776) :
  Calls Tryz.prog 137 #[.string s, .int .i64 a, .int .i64 b] w fun e w' => e = .returned (.tuple #[.string (str (frmd (bl s) a b).1), .bool (frmd (bl s) a b).2]) ∧ Below w.heap.size w w' := by
 unfold frmd
 rw [bl_len]
 have HR := Lib.hid (Below.refl w.heap.size w)
 by_cases h1 : a < 0
 ·rw [if_pos (.inl h1)]
  have d1 : decide (a < 0) = true := decide_eq_true h1
  go_enter Tryz.func137, Tryz.ntmps137
  go_wp2_with fail
  go_ret2
  exact ⟨rfl, HR.out⟩
 have d1 : decide (a < 0) = false := decide_eq_false h1
 by_cases h2 : b < a
 ·rw [if_pos (.inr (.inl h2))]
  have d2 : decide (b < a) = true := decide_eq_true h2
  go_enter Tryz.func137, Tryz.ntmps137
  go_wp2_with fail
  go_ret2
  exact ⟨rfl, HR.out⟩
 have d2 : decide (b < a) = false := decide_eq_false h2
 by_cases h3 : (s.size : Int) < b
 ·rw [if_pos (.inr (.inr h3))]
  have d3 : decide ((s.size : Int) < b) = true := decide_eq_true h3
  go_enter Tryz.func137, Tryz.ntmps137
  go_wp2_with fail
  go_ret2
  exact ⟨rfl, HR.out⟩
 rw [if_neg (by omega)]
 obtain ⟨n, rfl⟩ := Int.eq_ofNat_of_zero_le (show 0 ≤ a by omega)
 obtain ⟨m, rfl⟩ := Int.eq_ofNat_of_zero_le (show 0 ≤ b by omega)
 have d3 : decide ((s.size : Int) < (m : Int)) = false := decide_eq_false h3
 obtain ⟨x, hx⟩ : ∃ x, s.extract n m = x := ⟨_, rfl⟩
 have hbx : bl x = ((bl s).drop n).take (m - n) := by rw [← hx, ext_bl]
 have hxs : x.size = m - n := by rw [← hx, ByteArray.size_extract]; omega
 have e1 : ((m : Int) - (n : Int)).toNat = m - n := by omega
 have e2 : (n : Int).toNat = n := rfl
 rw [e1, e2, ← hbx]
 have HO := Lib.hid fun W => refCrcOpen_any x W (by omega)
 have hle := opn_le (bl x)
 unfold opnV at HO
 generalize opn (bl x) = r at *
 obtain ⟨d, k, c⟩ := r
 simp only at HO hle ⊢
 have qn : n ≤ m := by omega
 have qm : m ≤ s.size := by omega
 have qi : (0 : Int) ≤ n ∧ (n : Int) ≤ m ∧ (m : Int) ≤ s.size := ⟨by omega, by omega, by omega⟩
 have qw : IntKind.i64.wrap ((m : Int) - (n : Int)) = ((m - n : Nat) : Int) := by rw [show (m : Int) - (n : Int) = ((m - n : Nat) : Int) by omega]; exact IntWalk.i64_in _ (by omega)
 have HX := Lib.hid hx
 clear hbx e1 e2 hle
 have d4 : (decide (c = 0 ∧ k = m - n)) = (if ((c : Int) == 0) = true then ((k : Int) == ((m - n : Nat) : Int)) else false) := by
  by_cases hc : c = 0
  ·subst hc
   simp only [Int.natCast_zero, beq_self_eq_true, if_true, true_and]
   rw [Bool.eq_iff_iff, decide_eq_true_eq, beq_iff_eq]; omega
  ·rw [if_neg (by simp; exact hc)]
   simp [hc]
 rw [d4]
 clear d4
 go_enter Tryz.func137, Tryz.ntmps137
 have hxx := HX.out
 go_wp2_with fail
 (with_reducible refine (HO.out _).mono ?_)
 rintro e w1 ⟨rfl, hb⟩
 have HB := Lib.hid hb
 clear hb
 cases hc : ((c : Int) == 0)
 ·go_wp2_with fail
  go_ret2
  exact ⟨rfl, HB.out⟩
 ·go_wp2_with fail
  go_ret2
  exact ⟨rfl, HB.out⟩
end Go.Proofs.YtdbfaknpfepnfaaGreatDoor


namespace Go.Proofs.YtdbfaknpfepnfaaGreatDoor
open Go.RowKit CodecP

theorem Bk.texts {w w' : World} {B p b n : Nat} {v kv : Value} {l : List Pr} {xs : List Value} (h : Bk w B p v l) (hk : w.ownsRow b 9 1 kv n xs) (hf : Fr (fun k => kv.ownBlock = some k) w w') : Bk w' B p v l := by
 refine ⟨(hf.block p (lt_of_block h.cells) (fun e => ?_)).trans h.cells, owns_of_block h.row (fun k hk2 => hf.block k (h.row.lt k hk2).2 (fun e => ?_)), h.rise, h.at_⟩
 ·obtain ⟨cs, hc⟩ := own_type hk e
  exact type_ne hc h.cells (by decide) rfl
 ·obtain ⟨cs, hc⟩ := own_type hk e
  obtain ⟨cs2, hc2⟩ := own_type h.row hk2
  exact type_ne hc hc2 (by decide) rfl
structure Fnd (w0 w : World) (B p : Nat) (v : Value) (l : List Pr) (kv : Value) (ks : List ByteArray) : Prop where
 row : w.ownsRow w0.heap.size 9 1 kv ks.length (ks.map Value.string)
 bk : Bk w B p v l
 bel : Below w0.heap.size w0 w
theorem Fnd.below {w0 w w' : World} {B p : Nat} {v : Value} {l : List Pr} {kv : Value} {ks : List ByteArray} (h : Fnd w0 w B p v l kv ks) (hb : Below w.heap.size w w') : Fnd w0 w' B p v l kv ks :=
 ⟨owns_of_block h.row (fun k hk => hb.block k (h.row.lt k hk).2), h2_of hb h.bk, h.bel.trans (hb.mono h.bel.size)⟩
theorem Fnd.append {w0 w w' : World} {B p : Nat} {v : Value} {l : List Pr} {kv kv' : Value} {ks ks' : List ByteArray} (h : Fnd w0 w B p v l kv ks) {o : Obj} (hg : (w.alloc o).grownBy w' kv.ownBlock) (hr : w'.ownsRow w0.heap.size 9 1 kv' ks'.length (ks'.map Value.string)) : Fnd w0 w' B p v l kv' ks' := by
 have hf : Fr (fun k => kv.ownBlock = some k) w w' := ((Fr.refl _ w).alloc o).grown hg (fun _ _ h => h)
 exact ⟨hr, h.bk.texts h.row hf, h.bel.trans (hf.below h.bel.size (fun k _ hk => (h.row.lt k hk).1))⟩
end Go.Proofs.YtdbfaknpfepnfaaGreatDoor


