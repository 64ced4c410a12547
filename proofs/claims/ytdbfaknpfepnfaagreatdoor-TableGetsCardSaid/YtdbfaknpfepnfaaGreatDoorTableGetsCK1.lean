/-
  Texts of the claim, joined: TabPrW, TurnBigW, TabGsW.
-/
import Derived.Test.YtdbfaknpfepnfaaGreatDoorTabCK3
import Derived.Deep.RegionHeld3
import Derived.Deep.RegionWith
import Derived.Test.YtdbfaknpfepnfaaGreatDoorTabCK2
import Derived.Test.YtdbfaknpfepnfaaGreatDoorTabCK9

/-
  The walk of the document's Pairs.
-/
namespace Go.Proofs.YtdbfaknpfepnfaaGreatDoor
open Go.RowKit CodecP

attribute [local go_sem] yl_undef
set_option maxRecDepth 100000 in
theorem lssR (a b : ByteArray) : Op.bytesLess a.toList b.toList = decide (bl a < bl b) := by
  rw [bytesLess_eq, ByteArray.toList_eq, ByteArray.toList_eq]
  rfl
set_option maxRecDepth 100000 in
theorem lt_of_len {l : List UInt8} (h : 1 ≤ l.length) : lastK [] < l := by
  cases l with
  | nil => simp at h
  | cons a l => exact List.nil_lt_cons a l
/-- Pairs of the call's own. -/
structure PnS (w0 w : World) (nv : Value) (qs : List Pr) : Prop where
  bel : Below w0.heap.size w0 w
  row : w.ownsRow w0.heap.size 40 2 nv qs.length (flatR qs)
  rise : Rise qs
section
variable {w0 w w' : World} {qs qs' : List Pr} {nv nv' : Value}
set_option maxRecDepth 100000 in
theorem PnS.below (h : PnS w0 w nv qs) (hb : Below w.heap.size w w') : PnS w0 w' nv qs := ⟨h.bel.trans (hb.mono h.bel.size), owns_of_block h.row (fun k hk => hb.block k (h.row.lt k hk).2), h.rise⟩
set_option maxRecDepth 100000 in
theorem PnS.append (h : PnS w0 w nv qs) {o : Obj} (hg : (w.alloc o).grownBy w' nv.ownBlock) (hr : w'.ownsRow w0.heap.size 40 2 nv' qs'.length (flatR qs')) (hri : Rise qs') : PnS w0 w' nv' qs' := by
  have hf : Fr (fun k => nv.ownBlock = some k) w w' := ((Fr.refl _ w).alloc o).grown hg (fun _ _ h => h)
  exact ⟨h.bel.trans (hf.below h.bel.size (fun k _ hk => (h.row.lt k hk).1)), hr, hri⟩
end
set_option maxRecDepth 100000 in
set_option maxHeartbeats 20000000 in
theorem refPairs_any (v : Value) (L : List Pr) (w : World) (h : PrsIn w v L) (hl200 : L.length ≤ 4000) :
    Calls Tryz.prog 35 #[v] w fun e w' => ∃ nv ps, e = .returned nv ∧ PnS w w' nv ps ∧ ps.length ≤ L.length := by
  obtain ⟨i0, hi, hz0, hz1, hz2⟩ := info_parts info_prR
  have HC := Lib.hid (fun A n cap hv i hi => h.cells (A := A) (n := n) (cap := cap) hv (i := i) hi)
  have HLE := Lib.hid h.le
  obtain ⟨A, cap, hv, hs⟩ := h.ex
  subst hv
  have hcl := hs.le
  have hcm := hs.max
  unfold maxLen at hcm
  have HN := Lib.hid (show PnS w w (.slice none 0 0) [] from ⟨Below.refl _ _, World.ownsRow_nil _ _ _ _, Rise.nil⟩)
  clear h hs
  go_enter Tryz.func35, Tryz.ntmps35
  go_wp2_with fail
  go_loopg [3, 4] L.length (fun g nv iv wr => ∃ (i : Nat) (ps : List Pr), i + g = L.length ∧ iv = .int .i64 i ∧ PnS w wr nv ps ∧ ps.length ≤ i)
  case atStart => exact ⟨0, [], by omega, rfl, HN.out, by simp⟩
  case round =>
    clear HN
    obtain ⟨i, ps, hig, rfl, hBN, hpi⟩ := hrel
    obtain ⟨ao, cp, hnv⟩ := own_form hBN.row
    subst hnv
    have HB := Lib.hid hBN
    clear hBN
    by_cases hlt : i < L.length
    · obtain ⟨bk, off, rfl, hc⟩ := HC.out _ _ _ rfl i hlt
      have hle := HLE.out L[i] (List.getElem_mem hlt)
      have HCW := Lib.hid (fun W hW => hc W hW i hlt)
      obtain ⟨c0, c1⟩ := hc wr HB.out.bel i hlt
      have e1 := str_size L[i].1
      have e2 := str_size L[i].2
      rw [← e1, ← e2] at hle
      obtain ⟨hk, hv⟩ := hle
      have hp : L[i] = (bl (str L[i].1), bl (str L[i].2)) := by rw [bl_str, bl_str]
      have hOd : ∃ O : Bool, (O = true ↔ Okp L[i]) := ⟨decide (Okp L[i]), by simp⟩
      obtain ⟨O, hO⟩ := hOd
      rw [hp] at hO
      have HRT := Lib.hid (fun W => refRight_any (str L[i].1) (str L[i].2) W hk hv O hO)
      have gi : (i : Int) < (L.length : Int) := by omega
      have HOO := Lib.hid hO
      clear hc e1 e2 hp hO
      generalize str L[i].1 = sk at *
      generalize str L[i].2 = sv at *
      generalize L[i] = pr at *
      have hdr : Below w.heap.size w wr.drew := HB.out.bel.drew
      obtain ⟨d0, d1⟩ := HCW.out _ hdr
      cases O with
      | false =>
        go_wp2_with fail
        refine wp_region_held_drew (S := (fun w' => w'.cell? ⟨bk, off + i * 2, none⟩ = some (.string sk) ∧ w'.cell? ⟨bk, off + i * 2 + 1, none⟩ = some (.string sv))) (by kernel_rfl) (by (try dsimp only); exact ⟨d0, d1⟩) (fun hHeld => ?_)
        refine takeH (i := 0) (d := some 11) (v := ?_) rfl rfl (by kernel_rfl) (by kernel_rfl) (by kernel_rfl) (fun _ _ _ h => h) (Or.inl ⟨by rfl, ?_⟩) (by assumption) ?_
        rotate_left
        · intro wS hSw; (try dsimp only at hSw); go_simp; (try (with_reducible rfl))
        simp only [Act.put, List.setIfInBounds_toArray, List.set_cons_zero, List.set_cons_succ]
        refine takeH (i := 1) (d := some 12) (v := ?_) rfl rfl (by kernel_rfl) (by kernel_rfl) (by kernel_rfl) (fun _ _ _ h => h) (Or.inl ⟨by rfl, ?_⟩) (by assumption) ?_
        rotate_left
        · intro wS hSw; (try dsimp only at hSw); go_simp; (try (with_reducible rfl))
        simp only [Act.put, List.setIfInBounds_toArray, List.set_cons_zero, List.set_cons_succ]
        refine takeH (i := 2) (d := some 13) (v := ?_) rfl rfl (by kernel_rfl) (by kernel_rfl) (by kernel_rfl) (fun _ _ _ h => h) (Or.inl ⟨by rfl, ?_⟩) (by assumption) ?_
        rotate_left
        · intro wS hSw; (try dsimp only at hSw); go_simp; (try (with_reducible rfl))
        simp only [Act.put, List.setIfInBounds_toArray, List.set_cons_zero, List.set_cons_succ]
        refine takeH (i := 3) (d := some 14) (v := ?_) rfl rfl (by kernel_rfl) (by kernel_rfl) (by kernel_rfl) (fun _ _ _ h => h) (Or.inl ⟨by rfl, ?_⟩) (by assumption) ?_
        rotate_left
        · intro wS hSw; (try dsimp only at hSw); go_simp; (try (with_reducible rfl))
        simp only [Act.put, List.setIfInBounds_toArray, List.set_cons_zero, List.set_cons_succ]
        refine wpAnyH_ready (rs := [4]) (by kernel_rfl) (by simp) ?_
        refine AllReadyH.cons rfl (fun K hK => ?_) AllReadyH.nil
        go_simp
        refine (HRT.out _).mono ?_
        rintro e w4 ⟨rfl, hb4⟩
        obtain ⟨k0, k1⟩ := HCW.out w4 (HB.out.bel.drew.trans (hb4.mono HB.out.bel.size))
        have HB4 := Lib.hid hb4
        clear hb4
        go_wp2_with fail
        refine hK.out _ _ (by (try dsimp only); exact ⟨k0, k1⟩) (fun hHeld => ?_)
        clear hK K
        refine takeH (i := 5) (d := some 16) (v := ?_) rfl rfl (by kernel_rfl) (by kernel_rfl) (by kernel_rfl) (fun _ _ _ h => h) (Or.inl ⟨by rfl, ?_⟩) (by assumption) ?_
        rotate_left
        · intro wS hSw; (try dsimp only at hSw); go_simp; (try (with_reducible rfl))
        simp only [Act.put, List.setIfInBounds_toArray, List.set_cons_zero, List.set_cons_succ]
        refine takeH (i := 6) (d := some 17) (v := undef) rfl rfl (by kernel_rfl) (by kernel_rfl) (by kernel_rfl) (fun _ _ _ h => h) (Or.inr ⟨by rfl, rfl⟩) (by assumption) ?_
        simp only [Act.put, List.setIfInBounds_toArray, List.set_cons_zero, List.set_cons_succ]
        refine takeH (i := 7) (d := some 18) (v := undef) rfl rfl (by kernel_rfl) (by kernel_rfl) (by kernel_rfl) (fun _ _ _ h => h) (Or.inr ⟨by rfl, rfl⟩) (by assumption) ?_
        simp only [Act.put, List.setIfInBounds_toArray, List.set_cons_zero, List.set_cons_succ]
        refine takeH (i := 8) (d := some 19) (v := undef) rfl rfl (by kernel_rfl) (by kernel_rfl) (by kernel_rfl) (fun _ _ _ h => h) (Or.inr ⟨by rfl, rfl⟩) (by assumption) ?_
        simp only [Act.put, List.setIfInBounds_toArray, List.set_cons_zero, List.set_cons_succ]
        refine takeH (i := 9) (d := some 20) (v := undef) rfl rfl (by kernel_rfl) (by kernel_rfl) (by kernel_rfl) (fun _ _ _ h => h) (Or.inr ⟨by rfl, rfl⟩) (by assumption) ?_
        simp only [Act.put, List.setIfInBounds_toArray, List.set_cons_zero, List.set_cons_succ]
        refine takeH (i := 10) (d := some 21) (v := undef) rfl rfl (by kernel_rfl) (by kernel_rfl) (by kernel_rfl) (fun _ _ _ h => h) (Or.inr ⟨by rfl, rfl⟩) (by assumption) ?_
        simp only [Act.put, List.setIfInBounds_toArray, List.set_cons_zero, List.set_cons_succ]
        refine takeH (i := 11) (d := some 22) (v := undef) rfl rfl (by kernel_rfl) (by kernel_rfl) (by kernel_rfl) (fun _ _ _ h => h) (Or.inr ⟨by rfl, rfl⟩) (by assumption) ?_
        simp only [Act.put, List.setIfInBounds_toArray, List.set_cons_zero, List.set_cons_succ]
        refine takeH (i := 12) (d := some 23) (v := undef) rfl rfl (by kernel_rfl) (by kernel_rfl) (by kernel_rfl) (fun _ _ _ h => h) (Or.inr ⟨by rfl, rfl⟩) (by assumption) ?_
        simp only [Act.put, List.setIfInBounds_toArray, List.set_cons_zero, List.set_cons_succ]
        refine takeH (i := 13) (d := some 24) (v := undef) rfl rfl (by kernel_rfl) (by kernel_rfl) (by kernel_rfl) (fun _ _ _ h => h) (Or.inr ⟨by rfl, rfl⟩) (by assumption) ?_
        simp only [Act.put, List.setIfInBounds_toArray, List.set_cons_zero, List.set_cons_succ]
        refine takeH (i := 14) (d := some 25) (v := undef) rfl rfl (by kernel_rfl) (by kernel_rfl) (by kernel_rfl) (fun _ _ _ h => h) (Or.inr ⟨by rfl, rfl⟩) (by assumption) ?_
        simp only [Act.put, List.setIfInBounds_toArray, List.set_cons_zero, List.set_cons_succ]
        refine takeH (i := 15) (d := some 26) (v := undef) rfl rfl (by kernel_rfl) (by kernel_rfl) (by kernel_rfl) (fun _ _ _ h => h) (Or.inr ⟨by rfl, rfl⟩) (by assumption) ?_
        simp only [Act.put, List.setIfInBounds_toArray, List.set_cons_zero, List.set_cons_succ]
        refine takeH (i := 16) (d := some 27) (v := undef) rfl rfl (by kernel_rfl) (by kernel_rfl) (by kernel_rfl) (fun _ _ _ h => h) (Or.inr ⟨by rfl, rfl⟩) (by assumption) ?_
        simp only [Act.put, List.setIfInBounds_toArray, List.set_cons_zero, List.set_cons_succ]
        refine takeH (i := 17) (d := some 28) (v := undef) rfl rfl (by kernel_rfl) (by kernel_rfl) (by kernel_rfl) (fun _ _ _ h => h) (Or.inr ⟨by rfl, rfl⟩) (by assumption) ?_
        simp only [Act.put, List.setIfInBounds_toArray, List.set_cons_zero, List.set_cons_succ]
        refine takeH (i := 18) (d := some 29) (v := undef) rfl rfl (by kernel_rfl) (by kernel_rfl) (by kernel_rfl) (fun _ _ _ h => h) (Or.inr ⟨by rfl, rfl⟩) (by assumption) ?_
        simp only [Act.put, List.setIfInBounds_toArray, List.set_cons_zero, List.set_cons_succ]
        refine takeH (i := 19) (d := some 30) (v := undef) rfl rfl (by kernel_rfl) (by kernel_rfl) (by kernel_rfl) (fun _ _ _ h => h) (Or.inr ⟨by rfl, rfl⟩) (by assumption) ?_
        simp only [Act.put, List.setIfInBounds_toArray, List.set_cons_zero, List.set_cons_succ]
        refine takeH (i := 20) (d := some 31) (v := undef) rfl rfl (by kernel_rfl) (by kernel_rfl) (by kernel_rfl) (fun _ _ _ h => h) (Or.inr ⟨by rfl, rfl⟩) (by assumption) ?_
        simp only [Act.put, List.setIfInBounds_toArray, List.set_cons_zero, List.set_cons_succ]
        refine takeH (i := 21) (d := some 32) (v := undef) rfl rfl (by kernel_rfl) (by kernel_rfl) (by kernel_rfl) (fun _ _ _ h => h) (Or.inr ⟨by rfl, rfl⟩) (by assumption) ?_
        simp only [Act.put, List.setIfInBounds_toArray, List.set_cons_zero, List.set_cons_succ]
        refine takeH (i := 22) (d := some 33) (v := undef) rfl rfl (by kernel_rfl) (by kernel_rfl) (by kernel_rfl) (fun _ _ _ h => h) (Or.inr ⟨by rfl, rfl⟩) (by assumption) ?_
        simp only [Act.put, List.setIfInBounds_toArray, List.set_cons_zero, List.set_cons_succ]
        refine takeH (i := 23) (d := some 34) (v := undef) rfl rfl (by kernel_rfl) (by kernel_rfl) (by kernel_rfl) (fun _ _ _ h => h) (Or.inr ⟨by rfl, rfl⟩) (by assumption) ?_
        simp only [Act.put, List.setIfInBounds_toArray, List.set_cons_zero, List.set_cons_succ]
        refine takeH (i := 24) (d := some 35) (v := ?_) rfl rfl (by kernel_rfl) (by kernel_rfl) (by kernel_rfl) (fun _ _ _ h => h) (Or.inl ⟨by rfl, ?_⟩) (by assumption) ?_
        rotate_left
        · intro wS hSw; (try dsimp only at hSw); go_simp; (try (with_reducible rfl))
        simp only [Act.put, List.setIfInBounds_toArray, List.set_cons_zero, List.set_cons_succ]
        refine wpAnyH_done (by kernel_rfl) ?_ _
        have HN5 := Lib.hid (HB.out.below HB4.out.undrew)
        go_wp2_with fail
        go_roundg (L.length - (i + 1))
        case measure => omega
        case rel => exact ⟨i + 1, ps, by omega, by go_num, HN5.out, by omega⟩
      | true =>
        have hok := HOO.out.1 rfl
        rcases Nat.eq_zero_or_pos ps.length with h0 | h0
        · have hlk : lastK ps < bl sk := by rw [List.length_eq_zero_iff.1 h0]; exact lt_of_len hok.1
          have g0 : ((ps.length : Int) == 0) = true := by rw [h0]; rfl
          have HP0 := Lib.hid h0
          clear h0
          go_wp2_with fail
          refine wp_region_held_drew (S := (fun w' => w'.cell? ⟨bk, off + i * 2, none⟩ = some (.string sk) ∧ w'.cell? ⟨bk, off + i * 2 + 1, none⟩ = some (.string sv))) (by kernel_rfl) (by (try dsimp only); exact ⟨d0, d1⟩) (fun hHeld => ?_)
          refine takeH (i := 0) (d := some 11) (v := ?_) rfl rfl (by kernel_rfl) (by kernel_rfl) (by kernel_rfl) (fun _ _ _ h => h) (Or.inl ⟨by rfl, ?_⟩) (by assumption) ?_
          rotate_left
          · intro wS hSw; (try dsimp only at hSw); go_simp; (try (with_reducible rfl))
          simp only [Act.put, List.setIfInBounds_toArray, List.set_cons_zero, List.set_cons_succ]
          refine takeH (i := 1) (d := some 12) (v := ?_) rfl rfl (by kernel_rfl) (by kernel_rfl) (by kernel_rfl) (fun _ _ _ h => h) (Or.inl ⟨by rfl, ?_⟩) (by assumption) ?_
          rotate_left
          · intro wS hSw; (try dsimp only at hSw); go_simp; (try (with_reducible rfl))
          simp only [Act.put, List.setIfInBounds_toArray, List.set_cons_zero, List.set_cons_succ]
          refine takeH (i := 2) (d := some 13) (v := ?_) rfl rfl (by kernel_rfl) (by kernel_rfl) (by kernel_rfl) (fun _ _ _ h => h) (Or.inl ⟨by rfl, ?_⟩) (by assumption) ?_
          rotate_left
          · intro wS hSw; (try dsimp only at hSw); go_simp; (try (with_reducible rfl))
          simp only [Act.put, List.setIfInBounds_toArray, List.set_cons_zero, List.set_cons_succ]
          refine takeH (i := 3) (d := some 14) (v := ?_) rfl rfl (by kernel_rfl) (by kernel_rfl) (by kernel_rfl) (fun _ _ _ h => h) (Or.inl ⟨by rfl, ?_⟩) (by assumption) ?_
          rotate_left
          · intro wS hSw; (try dsimp only at hSw); go_simp; (try (with_reducible rfl))
          simp only [Act.put, List.setIfInBounds_toArray, List.set_cons_zero, List.set_cons_succ]
          refine wpAnyH_ready (rs := [4]) (by kernel_rfl) (by simp) ?_
          refine AllReadyH.cons rfl (fun K hK => ?_) AllReadyH.nil
          go_simp
          refine (HRT.out _).mono ?_
          rintro e w4 ⟨rfl, hb4⟩
          obtain ⟨k0, k1⟩ := HCW.out w4 (HB.out.bel.drew.trans (hb4.mono HB.out.bel.size))
          have HB4 := Lib.hid hb4
          clear hb4
          go_wp2_with fail
          refine hK.out _ _ (by (try dsimp only); exact ⟨k0, k1⟩) (fun hHeld => ?_)
          clear hK K
          refine takeH (i := 5) (d := some 16) (v := ?_) rfl rfl (by kernel_rfl) (by kernel_rfl) (by kernel_rfl) (fun _ _ _ h => h) (Or.inl ⟨by rfl, ?_⟩) (by assumption) ?_
          rotate_left
          · intro wS hSw; (try dsimp only at hSw); go_simp; (try (with_reducible rfl))
          simp only [Act.put, List.setIfInBounds_toArray, List.set_cons_zero, List.set_cons_succ]
          refine takeH (i := 6) (d := some 17) (v := ?_) rfl rfl (by kernel_rfl) (by kernel_rfl) (by kernel_rfl) (fun _ _ _ h => h) (Or.inl ⟨by rfl, ?_⟩) (by assumption) ?_
          rotate_left
          · intro wS hSw; (try dsimp only at hSw); go_simp; (try (with_reducible rfl))
          simp only [Act.put, List.setIfInBounds_toArray, List.set_cons_zero, List.set_cons_succ]
          refine takeH (i := 7) (d := some 18) (v := ?_) rfl rfl (by kernel_rfl) (by kernel_rfl) (by kernel_rfl) (fun _ _ _ h => h) (Or.inl ⟨by rfl, ?_⟩) (by assumption) ?_
          rotate_left
          · intro wS hSw; (try dsimp only at hSw); go_simp; (try (with_reducible rfl))
          simp only [Act.put, List.setIfInBounds_toArray, List.set_cons_zero, List.set_cons_succ]
          refine takeH (i := 8) (d := some 19) (v := ?_) rfl rfl (by kernel_rfl) (by kernel_rfl) (by kernel_rfl) (fun _ _ _ h => h) (Or.inl ⟨by rfl, ?_⟩) (by assumption) ?_
          rotate_left
          · intro wS hSw; (try dsimp only at hSw); go_simp; (try (with_reducible rfl))
          simp only [Act.put, List.setIfInBounds_toArray, List.set_cons_zero, List.set_cons_succ]
          refine takeH (i := 9) (d := some 20) (v := ?_) rfl rfl (by kernel_rfl) (by kernel_rfl) (by kernel_rfl) (fun _ _ _ h => h) (Or.inl ⟨by rfl, ?_⟩) (by assumption) ?_
          rotate_left
          · intro wS hSw; (try dsimp only at hSw); go_simp; (try (with_reducible rfl))
          simp only [Act.put, List.setIfInBounds_toArray, List.set_cons_zero, List.set_cons_succ]
          refine takeH (i := 10) (d := some 21) (v := undef) rfl rfl (by kernel_rfl) (by kernel_rfl) (by kernel_rfl) (fun _ _ _ h => h) (Or.inr ⟨by rfl, rfl⟩) (by assumption) ?_
          simp only [Act.put, List.setIfInBounds_toArray, List.set_cons_zero, List.set_cons_succ]
          refine takeH (i := 11) (d := some 22) (v := undef) rfl rfl (by kernel_rfl) (by kernel_rfl) (by kernel_rfl) (fun _ _ _ h => h) (Or.inr ⟨by rfl, rfl⟩) (by assumption) ?_
          simp only [Act.put, List.setIfInBounds_toArray, List.set_cons_zero, List.set_cons_succ]
          refine takeH (i := 12) (d := some 23) (v := undef) rfl rfl (by kernel_rfl) (by kernel_rfl) (by kernel_rfl) (fun _ _ _ h => h) (Or.inr ⟨by rfl, rfl⟩) (by assumption) ?_
          simp only [Act.put, List.setIfInBounds_toArray, List.set_cons_zero, List.set_cons_succ]
          refine takeH (i := 13) (d := some 24) (v := undef) rfl rfl (by kernel_rfl) (by kernel_rfl) (by kernel_rfl) (fun _ _ _ h => h) (Or.inr ⟨by rfl, rfl⟩) (by assumption) ?_
          simp only [Act.put, List.setIfInBounds_toArray, List.set_cons_zero, List.set_cons_succ]
          refine takeH (i := 14) (d := some 25) (v := undef) rfl rfl (by kernel_rfl) (by kernel_rfl) (by kernel_rfl) (fun _ _ _ h => h) (Or.inr ⟨by rfl, rfl⟩) (by assumption) ?_
          simp only [Act.put, List.setIfInBounds_toArray, List.set_cons_zero, List.set_cons_succ]
          refine takeH (i := 15) (d := some 26) (v := undef) rfl rfl (by kernel_rfl) (by kernel_rfl) (by kernel_rfl) (fun _ _ _ h => h) (Or.inr ⟨by rfl, rfl⟩) (by assumption) ?_
          simp only [Act.put, List.setIfInBounds_toArray, List.set_cons_zero, List.set_cons_succ]
          refine takeH (i := 16) (d := some 27) (v := undef) rfl rfl (by kernel_rfl) (by kernel_rfl) (by kernel_rfl) (fun _ _ _ h => h) (Or.inr ⟨by rfl, rfl⟩) (by assumption) ?_
          simp only [Act.put, List.setIfInBounds_toArray, List.set_cons_zero, List.set_cons_succ]
          refine takeH (i := 17) (d := some 28) (v := undef) rfl rfl (by kernel_rfl) (by kernel_rfl) (by kernel_rfl) (fun _ _ _ h => h) (Or.inr ⟨by rfl, rfl⟩) (by assumption) ?_
          simp only [Act.put, List.setIfInBounds_toArray, List.set_cons_zero, List.set_cons_succ]
          refine takeH (i := 18) (d := some 29) (v := undef) rfl rfl (by kernel_rfl) (by kernel_rfl) (by kernel_rfl) (fun _ _ _ h => h) (Or.inr ⟨by rfl, rfl⟩) (by assumption) ?_
          simp only [Act.put, List.setIfInBounds_toArray, List.set_cons_zero, List.set_cons_succ]
          refine takeH (i := 19) (d := some 30) (v := undef) rfl rfl (by kernel_rfl) (by kernel_rfl) (by kernel_rfl) (fun _ _ _ h => h) (Or.inr ⟨by rfl, rfl⟩) (by assumption) ?_
          simp only [Act.put, List.setIfInBounds_toArray, List.set_cons_zero, List.set_cons_succ]
          refine takeH (i := 20) (d := some 31) (v := undef) rfl rfl (by kernel_rfl) (by kernel_rfl) (by kernel_rfl) (fun _ _ _ h => h) (Or.inr ⟨by rfl, rfl⟩) (by assumption) ?_
          simp only [Act.put, List.setIfInBounds_toArray, List.set_cons_zero, List.set_cons_succ]
          refine takeH (i := 21) (d := some 32) (v := undef) rfl rfl (by kernel_rfl) (by kernel_rfl) (by kernel_rfl) (fun _ _ _ h => h) (Or.inr ⟨by rfl, rfl⟩) (by assumption) ?_
          simp only [Act.put, List.setIfInBounds_toArray, List.set_cons_zero, List.set_cons_succ]
          refine takeH (i := 22) (d := some 33) (v := undef) rfl rfl (by kernel_rfl) (by kernel_rfl) (by kernel_rfl) (fun _ _ _ h => h) (Or.inr ⟨by rfl, rfl⟩) (by assumption) ?_
          simp only [Act.put, List.setIfInBounds_toArray, List.set_cons_zero, List.set_cons_succ]
          refine takeH (i := 23) (d := some 34) (v := ?_) rfl rfl (by kernel_rfl) (by kernel_rfl) (by kernel_rfl) (fun _ _ _ h => h) (Or.inl ⟨by rfl, ?_⟩) (by assumption) ?_
          rotate_left
          · intro wS hSw; (try dsimp only at hSw); go_simp; (try (with_reducible rfl))
          simp only [Act.put, List.setIfInBounds_toArray, List.set_cons_zero, List.set_cons_succ]
          refine takeH (i := 24) (d := some 35) (v := ?_) rfl rfl (by kernel_rfl) (by kernel_rfl) (by kernel_rfl) (fun _ _ _ h => h) (Or.inl ⟨by rfl, ?_⟩) (by assumption) ?_
          rotate_left
          · intro wS hSw; (try dsimp only at hSw); go_simp; (try (with_reducible rfl))
          simp only [Act.put, List.setIfInBounds_toArray, List.set_cons_zero, List.set_cons_succ]
          refine wpAnyH_done (by kernel_rfl) ?_ _
          have hN5 := HB.out.below HB4.out.undrew
          have HN5 := Lib.hid hN5
          obtain ⟨c0, c1⟩ := HCW.out w4 hN5.bel
          have HR5 := Lib.hid HN5.out.row
          have HPR : Hid (flatR [(bl sk, bl sv)] = [.string sk, .string sv]) := Lib.hid (by simp [flatR, str_bl])
          have HSN := Lib.hid (HN5.out.rise.snoc hok hlk (by omega))
          clear hN5 hok hlk
          go_wp2_with (at_builtin; refine wpList_append_own_at _ rfl (.tmp 36) (.tmp 41) 36 rfl w.heap.size 40 i0 (.agg #[.string ⟨#[]⟩, .string ⟨#[]⟩]) 2 32 Tryz.underlying36 hi hz0 hz1 hz2 rfl (by decide) _ _ _ rfl (HR5.out.alloc _) ⟨w4.heap.size, 0, none⟩ 1 1 [.string sk, .string sv] rfl rfl (cells2_new _ _ _ _) (two_one _ _) (by unfold maxLen; omega) (by omega) (Nat.le_trans HN5.out.bel.size (by simp)) ?_; intro v7 w7 hown hgrow hx1 hx2; have hN7 := HN5.out.append (qs' := ps ++ [(bl sk, bl sv)]) hgrow (by rw [List.length_append, List.length_singleton, flatR_append, HPR.out]; exact hown) HSN.out; have HN7 := Lib.hid hN7; clear hown hgrow hx1 hx2 hN7)
          go_roundg (L.length - (i + 1))
          case measure => omega
          case rel => exact ⟨i + 1, _, by omega, by go_num, HN7.out, by simp; omega⟩
        · have hlkg := lastK_get ps h0
          obtain ⟨g6, cp6, hv6, _, hg6, hc6, hm6, hcell6⟩ := own_pos HB.out.row h0
          injection hv6 with hv6 _ hv6'
          subst hv6 hv6'
          unfold maxLen at hm6
          have hn := hcell6 _ _ (flatR_get ps (ps.length - 1) (by omega)).1
          rw [← hlkg] at hn
          have HCN := Lib.hid (fun W (hW : Below wr.heap.size wr W) => show W.cell? ⟨g6, (ps.length - 1) * 2, none⟩ = some (.string (str (lastK ps))) from by
            rw [hW.cell (p := ⟨g6, (ps.length - 1) * 2, none⟩) hg6]; exact hn)
          have s3 : IntKind.i64.wrap ((ps.length : Int) - 1) = (ps.length : Int) - 1 := IntWalk.i64_in _ (by omega)
          have s4 : ((ps.length : Int) - 1).toNat = ps.length - 1 := by omega
          have s5 : (0 : Int) ≤ (ps.length : Int) - 1 := by omega
          have s6 : (ps.length : Int) - 1 < (ps.length : Int) := by omega
          have s7 : (1 : Int) ≤ (ps.length : Int) := by omega
          have g0 : ((ps.length : Int) == 0) = false := by rw [beq_eq_false_iff_ne]; omega
          have q0 : Op.bytesLess (str (lastK ps)).toList sk.toList = decide (lastK ps < bl sk) := by rw [lssR, bl_str]
          have d2 : wr.drew.cell? ⟨g6, (ps.length - 1) * 2, none⟩ = some (.string (str (lastK ps))) := HCN.out _ (Below.refl _ _).drew
          clear hcell6 hlkg
          by_cases hlk : lastK ps < bl sk
          · have q1 : Op.bytesLess (str (lastK ps)).toList sk.toList = true := by rw [q0]; exact decide_eq_true hlk
            clear q0 h0
            generalize hls : str (lastK ps) = ls at *
            go_wp2_with fail
            refine wp_region_held_drew (S := (fun w' => w'.cell? ⟨bk, off + i * 2, none⟩ = some (.string sk) ∧ w'.cell? ⟨bk, off + i * 2 + 1, none⟩ = some (.string sv) ∧ w'.cell? ⟨g6, (ps.length - 1) * 2, none⟩ = some (.string ls))) (by kernel_rfl) (by (try dsimp only); exact ⟨d0, d1, d2⟩) (fun hHeld => ?_)
            refine takeH (i := 0) (d := some 11) (v := ?_) rfl rfl (by kernel_rfl) (by kernel_rfl) (by kernel_rfl) (fun _ _ _ h => h) (Or.inl ⟨by rfl, ?_⟩) (by assumption) ?_
            rotate_left
            · intro wS hSw; (try dsimp only at hSw); go_simp; (try (with_reducible rfl))
            simp only [Act.put, List.setIfInBounds_toArray, List.set_cons_zero, List.set_cons_succ]
            refine takeH (i := 1) (d := some 12) (v := ?_) rfl rfl (by kernel_rfl) (by kernel_rfl) (by kernel_rfl) (fun _ _ _ h => h) (Or.inl ⟨by rfl, ?_⟩) (by assumption) ?_
            rotate_left
            · intro wS hSw; (try dsimp only at hSw); go_simp; (try (with_reducible rfl))
            simp only [Act.put, List.setIfInBounds_toArray, List.set_cons_zero, List.set_cons_succ]
            refine takeH (i := 2) (d := some 13) (v := ?_) rfl rfl (by kernel_rfl) (by kernel_rfl) (by kernel_rfl) (fun _ _ _ h => h) (Or.inl ⟨by rfl, ?_⟩) (by assumption) ?_
            rotate_left
            · intro wS hSw; (try dsimp only at hSw); go_simp; (try (with_reducible rfl))
            simp only [Act.put, List.setIfInBounds_toArray, List.set_cons_zero, List.set_cons_succ]
            refine takeH (i := 3) (d := some 14) (v := ?_) rfl rfl (by kernel_rfl) (by kernel_rfl) (by kernel_rfl) (fun _ _ _ h => h) (Or.inl ⟨by rfl, ?_⟩) (by assumption) ?_
            rotate_left
            · intro wS hSw; (try dsimp only at hSw); go_simp; (try (with_reducible rfl))
            simp only [Act.put, List.setIfInBounds_toArray, List.set_cons_zero, List.set_cons_succ]
            refine wpAnyH_ready (rs := [4]) (by kernel_rfl) (by simp) ?_
            refine AllReadyH.cons rfl (fun K hK => ?_) AllReadyH.nil
            go_simp
            refine (HRT.out _).mono ?_
            rintro e w4 ⟨rfl, hb4⟩
            obtain ⟨k0, k1⟩ := HCW.out w4 (HB.out.bel.drew.trans (hb4.mono HB.out.bel.size))
            have k2 := HCN.out w4 hb4.undrew
            have HB4 := Lib.hid hb4
            clear hb4
            go_wp2_with fail
            refine hK.out _ _ (by (try dsimp only); exact ⟨k0, k1, k2⟩) (fun hHeld => ?_)
            clear hK K
            refine takeH (i := 5) (d := some 16) (v := ?_) rfl rfl (by kernel_rfl) (by kernel_rfl) (by kernel_rfl) (fun _ _ _ h => h) (Or.inl ⟨by rfl, ?_⟩) (by assumption) ?_
            rotate_left
            · intro wS hSw; (try dsimp only at hSw); go_simp; (try (with_reducible rfl))
            simp only [Act.put, List.setIfInBounds_toArray, List.set_cons_zero, List.set_cons_succ]
            refine takeH (i := 6) (d := some 17) (v := ?_) rfl rfl (by kernel_rfl) (by kernel_rfl) (by kernel_rfl) (fun _ _ _ h => h) (Or.inl ⟨by rfl, ?_⟩) (by assumption) ?_
            rotate_left
            · intro wS hSw; (try dsimp only at hSw); go_simp; (try (with_reducible rfl))
            simp only [Act.put, List.setIfInBounds_toArray, List.set_cons_zero, List.set_cons_succ]
            refine takeH (i := 7) (d := some 18) (v := ?_) rfl rfl (by kernel_rfl) (by kernel_rfl) (by kernel_rfl) (fun _ _ _ h => h) (Or.inl ⟨by rfl, ?_⟩) (by assumption) ?_
            rotate_left
            · intro wS hSw; (try dsimp only at hSw); go_simp; (try (with_reducible rfl))
            simp only [Act.put, List.setIfInBounds_toArray, List.set_cons_zero, List.set_cons_succ]
            refine takeH (i := 8) (d := some 19) (v := ?_) rfl rfl (by kernel_rfl) (by kernel_rfl) (by kernel_rfl) (fun _ _ _ h => h) (Or.inl ⟨by rfl, ?_⟩) (by assumption) ?_
            rotate_left
            · intro wS hSw; (try dsimp only at hSw); go_simp; (try (with_reducible rfl))
            simp only [Act.put, List.setIfInBounds_toArray, List.set_cons_zero, List.set_cons_succ]
            refine takeH (i := 9) (d := some 20) (v := ?_) rfl rfl (by kernel_rfl) (by kernel_rfl) (by kernel_rfl) (fun _ _ _ h => h) (Or.inl ⟨by rfl, ?_⟩) (by assumption) ?_
            rotate_left
            · intro wS hSw; (try dsimp only at hSw); go_simp; (try (with_reducible rfl))
            simp only [Act.put, List.setIfInBounds_toArray, List.set_cons_zero, List.set_cons_succ]
            refine takeH (i := 10) (d := some 21) (v := ?_) rfl rfl (by kernel_rfl) (by kernel_rfl) (by kernel_rfl) (fun _ _ _ h => h) (Or.inl ⟨by rfl, ?_⟩) (by assumption) ?_
            rotate_left
            · intro wS hSw; (try dsimp only at hSw); go_simp; (try (with_reducible rfl))
            simp only [Act.put, List.setIfInBounds_toArray, List.set_cons_zero, List.set_cons_succ]
            refine takeH (i := 11) (d := some 22) (v := ?_) rfl rfl (by kernel_rfl) (by kernel_rfl) (by kernel_rfl) (fun _ _ _ h => h) (Or.inl ⟨by rfl, ?_⟩) (by assumption) ?_
            rotate_left
            · intro wS hSw; (try dsimp only at hSw); go_simp; (try (with_reducible rfl))
            simp only [Act.put, List.setIfInBounds_toArray, List.set_cons_zero, List.set_cons_succ]
            refine takeH (i := 12) (d := some 23) (v := ?_) rfl rfl (by kernel_rfl) (by kernel_rfl) (by kernel_rfl) (fun _ _ _ h => h) (Or.inl ⟨by rfl, ?_⟩) (by assumption) ?_
            rotate_left
            · intro wS hSw; (try dsimp only at hSw); go_simp; (try (with_reducible rfl))
            simp only [Act.put, List.setIfInBounds_toArray, List.set_cons_zero, List.set_cons_succ]
            refine takeH (i := 13) (d := some 24) (v := ?_) rfl rfl (by kernel_rfl) (by kernel_rfl) (by kernel_rfl) (fun _ _ _ h => h) (Or.inl ⟨by rfl, ?_⟩) (by assumption) ?_
            rotate_left
            · intro wS hSw; (try dsimp only at hSw); go_simp; (try (with_reducible rfl))
            simp only [Act.put, List.setIfInBounds_toArray, List.set_cons_zero, List.set_cons_succ]
            refine takeH (i := 14) (d := some 25) (v := ?_) rfl rfl (by kernel_rfl) (by kernel_rfl) (by kernel_rfl) (fun _ _ _ h => h) (Or.inl ⟨by rfl, ?_⟩) (by assumption) ?_
            rotate_left
            · intro wS hSw; (try dsimp only at hSw); go_simp; (try (with_reducible rfl))
            simp only [Act.put, List.setIfInBounds_toArray, List.set_cons_zero, List.set_cons_succ]
            refine takeH (i := 15) (d := some 26) (v := ?_) rfl rfl (by kernel_rfl) (by kernel_rfl) (by kernel_rfl) (fun _ _ _ h => h) (Or.inl ⟨by rfl, ?_⟩) (by assumption) ?_
            rotate_left
            · intro wS hSw; (try dsimp only at hSw); go_simp; (try (with_reducible rfl))
            simp only [Act.put, List.setIfInBounds_toArray, List.set_cons_zero, List.set_cons_succ]
            refine takeH (i := 16) (d := some 27) (v := ?_) rfl rfl (by kernel_rfl) (by kernel_rfl) (by kernel_rfl) (fun _ _ _ h => h) (Or.inl ⟨by rfl, ?_⟩) (by assumption) ?_
            rotate_left
            · intro wS hSw; (try dsimp only at hSw); go_simp; (try (with_reducible rfl))
            simp only [Act.put, List.setIfInBounds_toArray, List.set_cons_zero, List.set_cons_succ]
            refine takeH (i := 17) (d := some 28) (v := ?_) rfl rfl (by kernel_rfl) (by kernel_rfl) (by kernel_rfl) (fun _ _ _ h => h) (Or.inl ⟨by rfl, ?_⟩) (by assumption) ?_
            rotate_left
            · intro wS hSw; (try dsimp only at hSw); go_simp; (try (with_reducible rfl))
            simp only [Act.put, List.setIfInBounds_toArray, List.set_cons_zero, List.set_cons_succ]
            refine takeH (i := 18) (d := some 29) (v := ?_) rfl rfl (by kernel_rfl) (by kernel_rfl) (by kernel_rfl) (fun _ _ _ h => h) (Or.inl ⟨by rfl, ?_⟩) (by assumption) ?_
            rotate_left
            · intro wS hSw; (try dsimp only at hSw); go_simp; (try (with_reducible rfl))
            simp only [Act.put, List.setIfInBounds_toArray, List.set_cons_zero, List.set_cons_succ]
            refine takeH (i := 19) (d := some 30) (v := ?_) rfl rfl (by kernel_rfl) (by kernel_rfl) (by kernel_rfl) (fun _ _ _ h => h) (Or.inl ⟨by rfl, ?_⟩) (by assumption) ?_
            rotate_left
            · intro wS hSw; (try dsimp only at hSw); go_simp; (try (with_reducible rfl))
            simp only [Act.put, List.setIfInBounds_toArray, List.set_cons_zero, List.set_cons_succ]
            refine takeH (i := 20) (d := some 31) (v := ?_) rfl rfl (by kernel_rfl) (by kernel_rfl) (by kernel_rfl) (fun _ _ _ h => h) (Or.inl ⟨by rfl, ?_⟩) (by assumption) ?_
            rotate_left
            · intro wS hSw; (try dsimp only at hSw); go_simp; (try (with_reducible rfl))
            simp only [Act.put, List.setIfInBounds_toArray, List.set_cons_zero, List.set_cons_succ]
            refine takeH (i := 21) (d := some 32) (v := ?_) rfl rfl (by kernel_rfl) (by kernel_rfl) (by kernel_rfl) (fun _ _ _ h => h) (Or.inl ⟨by rfl, ?_⟩) (by assumption) ?_
            rotate_left
            · intro wS hSw; (try dsimp only at hSw); go_simp; (try (with_reducible rfl))
            simp only [Act.put, List.setIfInBounds_toArray, List.set_cons_zero, List.set_cons_succ]
            refine takeH (i := 22) (d := some 33) (v := ?_) rfl rfl (by kernel_rfl) (by kernel_rfl) (by kernel_rfl) (fun _ _ _ h => h) (Or.inl ⟨by rfl, ?_⟩) (by assumption) ?_
            rotate_left
            · intro wS hSw; (try dsimp only at hSw); go_simp; (try (with_reducible rfl))
            simp only [Act.put, List.setIfInBounds_toArray, List.set_cons_zero, List.set_cons_succ]
            refine takeH (i := 23) (d := some 34) (v := ?_) rfl rfl (by kernel_rfl) (by kernel_rfl) (by kernel_rfl) (fun _ _ _ h => h) (Or.inl ⟨by rfl, ?_⟩) (by assumption) ?_
            rotate_left
            · intro wS hSw; (try dsimp only at hSw); go_simp; (try (with_reducible rfl))
            simp only [Act.put, List.setIfInBounds_toArray, List.set_cons_zero, List.set_cons_succ]
            refine takeH (i := 24) (d := some 35) (v := ?_) rfl rfl (by kernel_rfl) (by kernel_rfl) (by kernel_rfl) (fun _ _ _ h => h) (Or.inl ⟨by rfl, ?_⟩) (by assumption) ?_
            rotate_left
            · intro wS hSw; (try dsimp only at hSw); go_simp; (try (with_reducible rfl))
            simp only [Act.put, List.setIfInBounds_toArray, List.set_cons_zero, List.set_cons_succ]
            refine wpAnyH_done (by kernel_rfl) ?_ _
            have hN5 := HB.out.below HB4.out.undrew
            have HN5 := Lib.hid hN5
            obtain ⟨c0, c1⟩ := HCW.out w4 hN5.bel
            have HR5 := Lib.hid HN5.out.row
            have HPR : Hid (flatR [(bl sk, bl sv)] = [.string sk, .string sv]) := Lib.hid (by simp [flatR, str_bl])
            have HSN := Lib.hid (HN5.out.rise.snoc hok hlk (by omega))
            clear hN5 hok hlk
            go_wp2_with (at_builtin; refine wpList_append_own_at _ rfl (.tmp 36) (.tmp 41) 36 rfl w.heap.size 40 i0 (.agg #[.string ⟨#[]⟩, .string ⟨#[]⟩]) 2 32 Tryz.underlying36 hi hz0 hz1 hz2 rfl (by decide) _ _ _ rfl (HR5.out.alloc _) ⟨w4.heap.size, 0, none⟩ 1 1 [.string sk, .string sv] rfl rfl (cells2_new _ _ _ _) (two_one _ _) (by unfold maxLen; omega) (by omega) (Nat.le_trans HN5.out.bel.size (by simp)) ?_; intro v7 w7 hown hgrow hx1 hx2; have hN7 := HN5.out.append (qs' := ps ++ [(bl sk, bl sv)]) hgrow (by rw [List.length_append, List.length_singleton, flatR_append, HPR.out]; exact hown) HSN.out; have HN7 := Lib.hid hN7; clear hown hgrow hx1 hx2 hN7)
            go_roundg (L.length - (i + 1))
            case measure => omega
            case rel => exact ⟨i + 1, _, by omega, by go_num, HN7.out, by simp; omega⟩
          · have q1 : Op.bytesLess (str (lastK ps)).toList sk.toList = false := by rw [q0]; exact decide_eq_false hlk
            clear q0 hok h0 hlk
            generalize str (lastK ps) = ls at *
            go_wp2_with fail
            refine wp_region_held_drew (S := (fun w' => w'.cell? ⟨bk, off + i * 2, none⟩ = some (.string sk) ∧ w'.cell? ⟨bk, off + i * 2 + 1, none⟩ = some (.string sv) ∧ w'.cell? ⟨g6, (ps.length - 1) * 2, none⟩ = some (.string ls))) (by kernel_rfl) (by (try dsimp only); exact ⟨d0, d1, d2⟩) (fun hHeld => ?_)
            refine takeH (i := 0) (d := some 11) (v := ?_) rfl rfl (by kernel_rfl) (by kernel_rfl) (by kernel_rfl) (fun _ _ _ h => h) (Or.inl ⟨by rfl, ?_⟩) (by assumption) ?_
            rotate_left
            · intro wS hSw; (try dsimp only at hSw); go_simp; (try (with_reducible rfl))
            simp only [Act.put, List.setIfInBounds_toArray, List.set_cons_zero, List.set_cons_succ]
            refine takeH (i := 1) (d := some 12) (v := ?_) rfl rfl (by kernel_rfl) (by kernel_rfl) (by kernel_rfl) (fun _ _ _ h => h) (Or.inl ⟨by rfl, ?_⟩) (by assumption) ?_
            rotate_left
            · intro wS hSw; (try dsimp only at hSw); go_simp; (try (with_reducible rfl))
            simp only [Act.put, List.setIfInBounds_toArray, List.set_cons_zero, List.set_cons_succ]
            refine takeH (i := 2) (d := some 13) (v := ?_) rfl rfl (by kernel_rfl) (by kernel_rfl) (by kernel_rfl) (fun _ _ _ h => h) (Or.inl ⟨by rfl, ?_⟩) (by assumption) ?_
            rotate_left
            · intro wS hSw; (try dsimp only at hSw); go_simp; (try (with_reducible rfl))
            simp only [Act.put, List.setIfInBounds_toArray, List.set_cons_zero, List.set_cons_succ]
            refine takeH (i := 3) (d := some 14) (v := ?_) rfl rfl (by kernel_rfl) (by kernel_rfl) (by kernel_rfl) (fun _ _ _ h => h) (Or.inl ⟨by rfl, ?_⟩) (by assumption) ?_
            rotate_left
            · intro wS hSw; (try dsimp only at hSw); go_simp; (try (with_reducible rfl))
            simp only [Act.put, List.setIfInBounds_toArray, List.set_cons_zero, List.set_cons_succ]
            refine wpAnyH_ready (rs := [4]) (by kernel_rfl) (by simp) ?_
            refine AllReadyH.cons rfl (fun K hK => ?_) AllReadyH.nil
            go_simp
            refine (HRT.out _).mono ?_
            rintro e w4 ⟨rfl, hb4⟩
            obtain ⟨k0, k1⟩ := HCW.out w4 (HB.out.bel.drew.trans (hb4.mono HB.out.bel.size))
            have k2 := HCN.out w4 hb4.undrew
            have HB4 := Lib.hid hb4
            clear hb4
            go_wp2_with fail
            refine hK.out _ _ (by (try dsimp only); exact ⟨k0, k1, k2⟩) (fun hHeld => ?_)
            clear hK K
            refine takeH (i := 5) (d := some 16) (v := ?_) rfl rfl (by kernel_rfl) (by kernel_rfl) (by kernel_rfl) (fun _ _ _ h => h) (Or.inl ⟨by rfl, ?_⟩) (by assumption) ?_
            rotate_left
            · intro wS hSw; (try dsimp only at hSw); go_simp; (try (with_reducible rfl))
            simp only [Act.put, List.setIfInBounds_toArray, List.set_cons_zero, List.set_cons_succ]
            refine takeH (i := 6) (d := some 17) (v := ?_) rfl rfl (by kernel_rfl) (by kernel_rfl) (by kernel_rfl) (fun _ _ _ h => h) (Or.inl ⟨by rfl, ?_⟩) (by assumption) ?_
            rotate_left
            · intro wS hSw; (try dsimp only at hSw); go_simp; (try (with_reducible rfl))
            simp only [Act.put, List.setIfInBounds_toArray, List.set_cons_zero, List.set_cons_succ]
            refine takeH (i := 7) (d := some 18) (v := ?_) rfl rfl (by kernel_rfl) (by kernel_rfl) (by kernel_rfl) (fun _ _ _ h => h) (Or.inl ⟨by rfl, ?_⟩) (by assumption) ?_
            rotate_left
            · intro wS hSw; (try dsimp only at hSw); go_simp; (try (with_reducible rfl))
            simp only [Act.put, List.setIfInBounds_toArray, List.set_cons_zero, List.set_cons_succ]
            refine takeH (i := 8) (d := some 19) (v := ?_) rfl rfl (by kernel_rfl) (by kernel_rfl) (by kernel_rfl) (fun _ _ _ h => h) (Or.inl ⟨by rfl, ?_⟩) (by assumption) ?_
            rotate_left
            · intro wS hSw; (try dsimp only at hSw); go_simp; (try (with_reducible rfl))
            simp only [Act.put, List.setIfInBounds_toArray, List.set_cons_zero, List.set_cons_succ]
            refine takeH (i := 9) (d := some 20) (v := ?_) rfl rfl (by kernel_rfl) (by kernel_rfl) (by kernel_rfl) (fun _ _ _ h => h) (Or.inl ⟨by rfl, ?_⟩) (by assumption) ?_
            rotate_left
            · intro wS hSw; (try dsimp only at hSw); go_simp; (try (with_reducible rfl))
            simp only [Act.put, List.setIfInBounds_toArray, List.set_cons_zero, List.set_cons_succ]
            refine takeH (i := 10) (d := some 21) (v := ?_) rfl rfl (by kernel_rfl) (by kernel_rfl) (by kernel_rfl) (fun _ _ _ h => h) (Or.inl ⟨by rfl, ?_⟩) (by assumption) ?_
            rotate_left
            · intro wS hSw; (try dsimp only at hSw); go_simp; (try (with_reducible rfl))
            simp only [Act.put, List.setIfInBounds_toArray, List.set_cons_zero, List.set_cons_succ]
            refine takeH (i := 11) (d := some 22) (v := ?_) rfl rfl (by kernel_rfl) (by kernel_rfl) (by kernel_rfl) (fun _ _ _ h => h) (Or.inl ⟨by rfl, ?_⟩) (by assumption) ?_
            rotate_left
            · intro wS hSw; (try dsimp only at hSw); go_simp; (try (with_reducible rfl))
            simp only [Act.put, List.setIfInBounds_toArray, List.set_cons_zero, List.set_cons_succ]
            refine takeH (i := 12) (d := some 23) (v := ?_) rfl rfl (by kernel_rfl) (by kernel_rfl) (by kernel_rfl) (fun _ _ _ h => h) (Or.inl ⟨by rfl, ?_⟩) (by assumption) ?_
            rotate_left
            · intro wS hSw; (try dsimp only at hSw); go_simp; (try (with_reducible rfl))
            simp only [Act.put, List.setIfInBounds_toArray, List.set_cons_zero, List.set_cons_succ]
            refine takeH (i := 13) (d := some 24) (v := ?_) rfl rfl (by kernel_rfl) (by kernel_rfl) (by kernel_rfl) (fun _ _ _ h => h) (Or.inl ⟨by rfl, ?_⟩) (by assumption) ?_
            rotate_left
            · intro wS hSw; (try dsimp only at hSw); go_simp; (try (with_reducible rfl))
            simp only [Act.put, List.setIfInBounds_toArray, List.set_cons_zero, List.set_cons_succ]
            refine takeH (i := 14) (d := some 25) (v := ?_) rfl rfl (by kernel_rfl) (by kernel_rfl) (by kernel_rfl) (fun _ _ _ h => h) (Or.inl ⟨by rfl, ?_⟩) (by assumption) ?_
            rotate_left
            · intro wS hSw; (try dsimp only at hSw); go_simp; (try (with_reducible rfl))
            simp only [Act.put, List.setIfInBounds_toArray, List.set_cons_zero, List.set_cons_succ]
            refine takeH (i := 15) (d := some 26) (v := ?_) rfl rfl (by kernel_rfl) (by kernel_rfl) (by kernel_rfl) (fun _ _ _ h => h) (Or.inl ⟨by rfl, ?_⟩) (by assumption) ?_
            rotate_left
            · intro wS hSw; (try dsimp only at hSw); go_simp; (try (with_reducible rfl))
            simp only [Act.put, List.setIfInBounds_toArray, List.set_cons_zero, List.set_cons_succ]
            refine takeH (i := 16) (d := some 27) (v := ?_) rfl rfl (by kernel_rfl) (by kernel_rfl) (by kernel_rfl) (fun _ _ _ h => h) (Or.inl ⟨by rfl, ?_⟩) (by assumption) ?_
            rotate_left
            · intro wS hSw; (try dsimp only at hSw); go_simp; (try (with_reducible rfl))
            simp only [Act.put, List.setIfInBounds_toArray, List.set_cons_zero, List.set_cons_succ]
            refine takeH (i := 17) (d := some 28) (v := ?_) rfl rfl (by kernel_rfl) (by kernel_rfl) (by kernel_rfl) (fun _ _ _ h => h) (Or.inl ⟨by rfl, ?_⟩) (by assumption) ?_
            rotate_left
            · intro wS hSw; (try dsimp only at hSw); go_simp; (try (with_reducible rfl))
            simp only [Act.put, List.setIfInBounds_toArray, List.set_cons_zero, List.set_cons_succ]
            refine takeH (i := 18) (d := some 29) (v := ?_) rfl rfl (by kernel_rfl) (by kernel_rfl) (by kernel_rfl) (fun _ _ _ h => h) (Or.inl ⟨by rfl, ?_⟩) (by assumption) ?_
            rotate_left
            · intro wS hSw; (try dsimp only at hSw); go_simp; (try (with_reducible rfl))
            simp only [Act.put, List.setIfInBounds_toArray, List.set_cons_zero, List.set_cons_succ]
            refine takeH (i := 19) (d := some 30) (v := ?_) rfl rfl (by kernel_rfl) (by kernel_rfl) (by kernel_rfl) (fun _ _ _ h => h) (Or.inl ⟨by rfl, ?_⟩) (by assumption) ?_
            rotate_left
            · intro wS hSw; (try dsimp only at hSw); go_simp; (try (with_reducible rfl))
            simp only [Act.put, List.setIfInBounds_toArray, List.set_cons_zero, List.set_cons_succ]
            refine takeH (i := 20) (d := some 31) (v := ?_) rfl rfl (by kernel_rfl) (by kernel_rfl) (by kernel_rfl) (fun _ _ _ h => h) (Or.inl ⟨by rfl, ?_⟩) (by assumption) ?_
            rotate_left
            · intro wS hSw; (try dsimp only at hSw); go_simp; (try (with_reducible rfl))
            simp only [Act.put, List.setIfInBounds_toArray, List.set_cons_zero, List.set_cons_succ]
            refine takeH (i := 21) (d := some 32) (v := ?_) rfl rfl (by kernel_rfl) (by kernel_rfl) (by kernel_rfl) (fun _ _ _ h => h) (Or.inl ⟨by rfl, ?_⟩) (by assumption) ?_
            rotate_left
            · intro wS hSw; (try dsimp only at hSw); go_simp; (try (with_reducible rfl))
            simp only [Act.put, List.setIfInBounds_toArray, List.set_cons_zero, List.set_cons_succ]
            refine takeH (i := 22) (d := some 33) (v := ?_) rfl rfl (by kernel_rfl) (by kernel_rfl) (by kernel_rfl) (fun _ _ _ h => h) (Or.inl ⟨by rfl, ?_⟩) (by assumption) ?_
            rotate_left
            · intro wS hSw; (try dsimp only at hSw); go_simp; (try (with_reducible rfl))
            simp only [Act.put, List.setIfInBounds_toArray, List.set_cons_zero, List.set_cons_succ]
            refine takeH (i := 23) (d := some 34) (v := ?_) rfl rfl (by kernel_rfl) (by kernel_rfl) (by kernel_rfl) (fun _ _ _ h => h) (Or.inl ⟨by rfl, ?_⟩) (by assumption) ?_
            rotate_left
            · intro wS hSw; (try dsimp only at hSw); go_simp; (try (with_reducible rfl))
            simp only [Act.put, List.setIfInBounds_toArray, List.set_cons_zero, List.set_cons_succ]
            refine takeH (i := 24) (d := some 35) (v := ?_) rfl rfl (by kernel_rfl) (by kernel_rfl) (by kernel_rfl) (fun _ _ _ h => h) (Or.inl ⟨by rfl, ?_⟩) (by assumption) ?_
            rotate_left
            · intro wS hSw; (try dsimp only at hSw); go_simp; (try (with_reducible rfl))
            simp only [Act.put, List.setIfInBounds_toArray, List.set_cons_zero, List.set_cons_succ]
            refine wpAnyH_done (by kernel_rfl) ?_ _
            have HN5 := Lib.hid (HB.out.below HB4.out.undrew)
            go_wp2_with fail
            go_roundg (L.length - (i + 1))
            case measure => omega
            case rel => exact ⟨i + 1, ps, by omega, by go_num, HN5.out, by omega⟩
    · obtain rfl : i = L.length := by omega
      clear HC HLE hcl hcm
      go_wp2_with fail
      go_ret
      exact ⟨_, ps, rfl, HB.out, hpi⟩
end Go.Proofs.YtdbfaknpfepnfaaGreatDoor

/-
  The walk of Turned, of longer texts.
-/
namespace Go.Proofs.YtdbfaknpfepnfaaGreatDoor
open Go.RowKit Go.Deep CrcP CodecP FrameP

set_option maxRecDepth 100000 in
set_option maxHeartbeats 1000000 in
theorem turnedBig_any (s : ByteArray) (k b : Nat) (w : World) (hs : s.size ≤ 10000000) (hk : k ≤ 8 * s.size) (hb : b < 4294967296) :
    Calls Tryz.prog 36 #[.string s, .int .i64 k, .int .u32 b] w fun e w' => e = .returned (.string (str (turned (bl s) k b))) ∧ Below w.heap.size w w' := by
  have hcv := fun W => Lib.run_convert_string_bytes (P := Tryz.prog) W 9 94 5 s Tryz.underlying9 Tryz.underlying94 Tryz.underlying5
  have hlb : (bl s).length = s.size := rfl
  have HLB := Lib.hid hlb
  clear hlb
  go_enter Tryz.func36, Tryz.ntmps36
  go_wp2
  clear hcv
  have hrow0 := BRow.new (Below.refl w.heap.size w) s
  generalize Lib.bytesWorld w 5 s = W at *
  generalize grownCap w s.size 0 5 = cap at *
  go_loopw [8] (fun i wr => ∃ c : Nat, c ≤ 32 ∧ i = .int .i64 c ∧ BRow w wr w.heap.size (turnTo (bl s) k b c)) (fun i _ => 32 - (intOf i).toNat)
  case atStart => exact ⟨0, by omega, rfl, by rw [turnTo_zero]; exact hrow0⟩
  case round =>
    clear hrow0
    obtain ⟨c, hc, rfl, hrow⟩ := hrel
    by_cases hlt : c < 32 ∧ k + c < 8 * s.size
    · obtain ⟨hl1, hl2⟩ := hlt
      have hlen : (turnTo (bl s) k b c).length = s.size := by rw [turnTo_length]; exact HLB.out
      have c1 := hrow.cell ((k + c) / 8) (by omega)
      have f1 := hrow.free ((k + c) / 8) (by omega)
      have ht := test5 b c
      by_cases hbit : b / 2 ^ c % 2 = 1
      · have hx := xor_shl ((turnTo (bl s) k b c).getD ((k + c) / 8) 0) ((k + c) % 8) (by omega)
        have hset := hrow.set ((k + c) / 8) (by omega) ((turnTo (bl s) k b c).getD ((k + c) / 8) 0 ^^^ UInt8.ofNat (2 ^ ((k + c) % 8)))
        rw [← turnTo_yes (bl s) k b c hbit] at hset
        have hbb : (b / 2 ^ c % 2 == 1) = true := by rw [hbit]; rfl
        rw [hbb] at ht
        generalize (turnTo (bl s) k b c).getD ((k + c) / 8) 0 = x at *
        generalize x ^^^ UInt8.ofNat (2 ^ ((k + c) % 8)) = y at *
        have HSET := Lib.hid hset
        clear hset hrow hlen hbit hbb
        go_wp2
        go_region
        go_wp2
        go_roundw
        case rel => exact ⟨c + 1, by omega, by go_num, HSET.out.drew⟩
        case measure => simp [intOf]; omega
      · have hbb : (b / 2 ^ c % 2 == 1) = false := by simpa using hbit
        have hno := turnTo_no (bl s) k b c (by omega)
        rw [← hno] at hrow
        rw [hbb] at ht
        have HR := Lib.hid hrow
        clear hrow hno hbit hbb hlen c1 f1
        go_wp2
        go_roundw
        case rel => exact ⟨c + 1, by omega, by go_num, HR.out⟩
        case measure => simp [intOf]; omega
    · have hall := turnTo_all (bl s) k b c hb (by rw [HLB.out]; omega)
      rw [hall] at hrow
      have hlen : (turned (bl s) k b).length = s.size := by unfold turned; rw [xorNum_length]; exact HLB.out
      have hcvt := hrow.text cap
      rw [hlen] at hcvt
      have hbel := hrow.below
      clear hall hrow hlen
      by_cases h32 : c < 32
      · have h8 : ¬ k + c < 8 * s.size := by omega
        clear hlt
        go_wp2
        go_ret
        exact ⟨rfl, hbel⟩
      · clear hlt
        go_wp2
        go_ret
        exact ⟨rfl, hbel⟩

end Go.Proofs.YtdbfaknpfepnfaaGreatDoor

/-
  The walk of the law TableGets.
-/
namespace Go.Proofs.YtdbfaknpfepnfaaGreatDoor
open Go.RowKit Go.Deep CodecP CrcP FrameP BloomP

attribute [local go_sem] yl_undef
set_option maxRecDepth 100000 in
theorem str_eqG (x y : List UInt8) : ((str x).toList == (str y).toList) = decide (x = y) := by
  by_cases h : x = y
  · subst h; simp
  · rw [decide_eq_false h, beq_eq_false_iff_ne]
    intro e
    rw [ByteArray.toList_eq, ByteArray.toList_eq] at e
    exact h (by simpa [str] using e)
set_option maxRecDepth 100000 in
theorem getN_take_succ {l : List Pr} (h : Rise l) (k : List UInt8) (j : Nat) (hj : j < l.length) : getN k (l.take (j + 1)) = if l[j].1 = k then (l[j].2, true) else getN k (l.take j) := by
  have h1 : Rise (l.take (j + 1)) := Rise.part (r := l.drop (j + 1)) (by rw [List.take_append_drop]; exact h)
  have h0 : Rise (l.take j) := Rise.part (r := l.drop j) (by rw [List.take_append_drop]; exact h)
  have e1 : l.take (j + 1) = l.take j ++ [l[j]] := by rw [List.take_add_one, List.getElem?_eq_getElem hj]; rfl
  by_cases hk : l[j].1 = k
  · rw [if_pos hk, ← hk]
    exact getN_mem h1 (by rw [e1]; exact List.mem_append.2 (.inr (List.mem_singleton.2 rfl)))
  · rw [if_neg hk]
    refine getN_ext h1 h0 (fun q hq => ?_)
    rw [e1, List.mem_append, List.mem_singleton]
    refine ⟨fun h => h.resolve_right (fun e => hk (by rw [← e]; exact hq)), .inl⟩
set_option maxRecDepth 100000 in
set_option maxHeartbeats 40000000 in
theorem tableGets_law (v : Value) (L : List Pr) (size : Int) (key : ByteArray) (at_ bits : Int) (w : World) (h : PrsIn w v L) (hkey : key.size ≤ maxLen) (hbits : (Lit.int .u32 bits).wf = true) (hni : ∀ W, Below w.heap.size w W → Nibs W) :
    Calls Tryz.prog 6 #[v, .int .i64 size, .string key, .int .i64 at_, .int .u32 bits] w fun e w' => e = .returned (.bool true) ∧ Below w.heap.size w w' := by
  have HA := Lib.hid fun W (hW : Below w.heap.size w W) => tabAwake_any W (fun W2 hW2 => hni W2 (hW.trans (hW2.mono hW.size)))
  have HNI := Lib.hid hni
  clear hni
  unfold maxLen at hkey
  by_cases hG : Grt L
  · have HG := Lib.hid (great_any v L w h true ⟨fun _ => hG, fun _ => rfl⟩)
    clear h hG hbits
    go_enter Tryz.func6, Tryz.ntmps6
    go_wp2_with fail
    (with_reducible refine HG.out.mono ?_)
    rintro e w1 ⟨rfl, hb1⟩
    have HB1 := Lib.hid hb1
    clear hb1
    go_wp2_with fail
    (with_reducible refine (HA.out _ HB1.out).mono ?_)
    rintro e w2 ⟨rfl, hb2⟩
    have HB := Lib.hid (HB1.out.trans (hb2.mono HB1.out.size))
    clear hb2
    go_wp2_with fail
    go_ret
    exact ⟨rfl, HB.out⟩
  have HG := Lib.hid (great_any v L w h false ⟨(fun h => by cases h), fun h => absurd h hG⟩)
  by_cases hlong : 300 < key.size
  · have dm : decide ((300 : Int) < (key.size : Int)) = true := decide_eq_true (by omega)
    clear h hG hbits hlong
    go_enter Tryz.func6, Tryz.ntmps6
    go_wp2_with fail
    (with_reducible refine HG.out.mono ?_)
    rintro e w1 ⟨rfl, hb1⟩
    have HB1 := Lib.hid hb1
    clear hb1
    go_wp2_with fail
    (with_reducible refine (HA.out _ HB1.out).mono ?_)
    rintro e w2 ⟨rfl, hb2⟩
    have HB := Lib.hid (HB1.out.trans (hb2.mono HB1.out.size))
    clear hb2
    go_wp2_with fail
    go_ret
    exact ⟨rfl, HB.out⟩
  have dm : decide ((300 : Int) < (key.size : Int)) = false := decide_eq_false (by omega)
  have hb0 := u32_wf hbits
  obtain ⟨b, hbn⟩ : ∃ b : Nat, bits = b := ⟨bits.toNat, by omega⟩
  subst hbn
  have hb4 : b < 4294967296 := by omega
  have HB4 := Lib.hid hb4
  have hl200 : L.length ≤ 200 := by unfold Grt at hG; omega
  have HPI := Lib.hid h
  obtain ⟨kb, hkb⟩ : ∃ kb, key = str kb := ⟨bl key, (str_bl key).symm⟩
  have hkl : kb.length ≤ 300 := by have := congrArg ByteArray.size hkb; rw [str_size] at this; omega
  subst hkb
  clear h hG hbits hb0 hlong hb4 hkey
  go_enter Tryz.func6, Tryz.ntmps6
  go_wp2_with fail
  (with_reducible refine HG.out.mono ?_)
  rintro e w1 ⟨rfl, hb1⟩
  have HB1 := Lib.hid hb1
  clear hb1
  go_wp2_with fail
  (with_reducible refine (HA.out _ HB1.out).mono ?_)
  rintro e w2 ⟨rfl, hb2⟩
  have HB2 := Lib.hid (HB1.out.trans (hb2.mono HB1.out.size))
  have HPR := Lib.hid (refPairs_any v L w2 (HPI.out.below HB2.out) (by omega))
  clear hb2 HG HA dm HPI
  go_wp2_with fail
  (with_reducible refine HPR.out.mono ?_)
  rintro e w3 ⟨nv, ps, rfl, hpn, hpl⟩
  obtain ⟨ao, cp, hnv⟩ := own_form hpn.row
  subst hnv
  have HB3 := Lib.hid (HB2.out.trans (hpn.bel.mono HB2.out.size))
  have HROW := Lib.hid (own_base hpn.row HB2.out.size)
  have HRI := Lib.hid hpn.rise
  have hp200 : ps.length ≤ 200 := by omega
  obtain ⟨sz, hsz⟩ : ∃ sz, sz = clampN size := ⟨_, rfl⟩
  have hc1 := clamp_le size
  rw [← hsz] at hc1
  have hac : AccI sz ps := ⟨hpn.rise, hp200, hc1.2.1, hc1.1⟩
  have HTI := Lib.hid hac.tab
  have HRT := Lib.hid (refTab_any _ ps size w3 (PrsIn.own hpn.row hpn.rise.ok) hpn.rise hp200)
  rw [← hsz, blocksOf_bs] at HRT
  rw [show ps.map (fun p => p.1) = keysOf ps from rfl] at HRT
  obtain ⟨bs, hbs⟩ : ∃ bs, bs = bsOf (cut sz ps).1 (cut sz ps).2 := ⟨_, rfl⟩
  rw [← hbs] at HRT HTI
  have htl : (tabS bs (keysOf ps)).length ≤ 10000000 := HTI.out.size
  have htp : 1 ≤ (tabS bs (keysOf ps)).length := by
    unfold tabS tabE; simp only [List.length_append, frame_length]; omega
  obtain ⟨T, hT⟩ : ∃ T, T = tabS bs (keysOf ps) := ⟨_, rfl⟩
  have hst : (str T).size = T.length := str_len T
  rw [← hT] at HRT htl htp
  have HT := Lib.hid hT
  obtain ⟨k, hk, ek⟩ := turn_by at_ (8 * T.length) (by omega) (by omega)
  have e8 : ((8 * T.length : Nat) : Int) = 8 * (T.length : Int) := by omega
  rw [e8] at ek
  have HTB := Lib.hid (fun W => turnedBig_any (str T) k b W (by omega) (by omega) HB4.out)
  rw [bl_str] at HTB
  obtain ⟨R, hR⟩ : ∃ R, R = turned T k b := ⟨_, rfl⟩
  have hRl : R.length ≤ 10000000 := by rw [hR]; unfold turned; rw [xorNum_length]; exact htl
  rw [← hR] at HTB
  have HOP := Lib.hid fun (bo : Option Addr) (W : World) (h1 : Nibs W) (h2 : ∀ W', Below W.heap.size W W' → Nibs W') => tOpen_turned HTI.out k b HB4.out 1 bo W h1 h2
  rw [← hT, ← hR] at HOP
  have HBL := Lib.hid fun W : World => blocks_kch ps.length W 1 (by decide) (LdT R (whs 0 bs)) (by omega)
  have HLR := Lib.hid (fun i (hi : i < (whs 0 bs).length) qs (hq : LoadR R (whs 0 bs)[i] qs) => show qs = bs[i]'(by rw [whs_len] at hi; exact hi) from by
    rw [hR, hT] at hq
    have hi2 : i < bs.length := by rw [whs_len] at hi; exact hi
    have hr2 := HTI.out.bks.rise bs[i] (List.getElem_mem hi2)
    have hs2 := HTI.out.bks.small bs[i] (List.getElem_mem hi2)
    exact loadR_turned bs (keysOf ps) k b HB4.out i hi hi2 hr2 (by omega) qs hq)
  have HEQ : Hid (R = T → ∀ i (hi : i < (whs 0 bs).length), LoadR R (whs 0 bs)[i] (bs[i]'(by rw [whs_len] at hi; exact hi))) := Lib.hid (fun e i hi => by
    have := (whole_built HTI.out.bks (keysOf ps) i hi _).2 rfl
    rw [bl_str, ← hT, ← e] at this
    exact this)
  have hne := str_eqG R T
  clear hpn hpl hsz hc1 hac hbs hT hR e8 hl200
  go_wp2_with fail
  (with_reducible refine HRT.out.mono ?_)
  rintro e w4 ⟨rfl, hb4⟩
  have HB4' := Lib.hid (HB3.out.trans (hb4.mono HB3.out.size))
  have HROW4 := Lib.hid (owns_of_block HROW.out (fun k hk => hb4.block k (HROW.out.lt k hk).2))
  clear hb4 HB3 HROW HRT
  go_wp2_with fail
  (with_reducible refine (HTB.out w4).mono ?_)
  rintro e w5 ⟨rfl, hb5⟩
  have HB5 := Lib.hid (HB4'.out.trans (hb5.mono HB4'.out.size))
  have HROW5 := Lib.hid (owns_of_block HROW4.out (fun k hk => hb5.block k (HROW4.out.lt k hk).2))
  clear hb5 HB4' HROW4 HTB ek
  go_wp2_with fail
  (with_reducible refine (HBL.out w5).mono ?_)
  rintro e w6 ⟨hb6, Q, bo, kc, rfl, hC6, hQ6⟩
  have HC6 := Lib.hid hC6
  have HQ := Lib.hid (fun k hk => Nat.le_trans HB5.out.size (hQ6 k hk))
  have HB6 := Lib.hid (HB5.out.trans (hb6.mono HB5.out.size))
  have HROW6 := Lib.hid (owns_of_block HROW5.out (fun k hk => hb6.block k (HROW5.out.lt k hk).2))
  have HOP6 := Lib.hid (HOP.out bo w6 (HNI.out _ HB6.out) (fun W hW => HNI.out W (HB6.out.trans (hW.mono HB6.out.size))))
  clear hb6 hC6 hQ6 HBL HROW5 HB5 HOP
  go_wp2_with fail
  (with_reducible refine HOP6.out.mono ?_)
  rintro e w7 ⟨hb7, ⟨rfl, hRT⟩ | ⟨pT, pi, vi, pv, rfl, hTt⟩⟩
  · have HB7 := Lib.hid (HB6.out.trans (hb7.mono HB6.out.size))
    rw [decide_eq_false hRT] at hne
    clear hb7 hRT
    generalize str R = sR at *
    generalize str T = sT at *
    go_wp2_with fail
    go_ret
    exact ⟨rfl, HB7.out⟩
  have HBK := Lib.hid (show BkS kc w w7 pT (str R) (make ((keysOf ps).map frontK)) (idx bs) (whs 0 bs) ps.length (.slice ao ps.length cp) ps from ⟨TbC.of_any HTI.out hRl kc hTt (kc.below HC6.out hb7), HB6.out.trans (hb7.mono HB6.out.size), owns_of_block HROW6.out (fun k hk => hb7.block k (HROW6.out.lt k hk).2), HQ.out⟩)
  have HRL := Lib.hid hRl
  clear hb7 hTt HB6 HC6 HQ HROW6 HOP6 hRl
  go_wp2_with fail
  go_loopg [15] 60 (fun g iv wr => ∃ i : Nat, i + g = 60 ∧ iv = .int .i64 i ∧ BkS kc w wr pT (str R) (make ((keysOf ps).map frontK)) (idx bs) (whs 0 bs) ps.length (.slice ao ps.length cp) ps)
  case atStart => exact ⟨0, by omega, rfl, HBK.out⟩
  case round =>
    clear HBK
    obtain ⟨i, hig, rfl, hbr⟩ := hrel
    have HBR := Lib.hid hbr
    clear hbr
    by_cases hend : i ≤ ps.length ∧ i < 60
    · obtain ⟨hi1, hi2⟩ := hend
      have di : decide ((i : Int) ≤ (ps.length : Int)) = true := decide_eq_true (by omega)
      have di2 : decide ((i : Int) < 60) = true := decide_eq_true (by omega)
      go_upto_if 82 with (fail)
      go_cut [16] (fun kv wx => ∃ kb : List UInt8, kv = .string (str kb) ∧ kb.length ≤ 100000 ∧ wr = wx)
      case first =>
        by_cases hlt : i < ps.length
        · obtain ⟨g6, cp6, hv6, _, hg6, hc6, hm6, hcell6⟩ := own_pos HBR.out.row (by omega)
          injection hv6 with hv6 _ hv6'
          subst hv6 hv6'
          unfold maxLen at hm6
          have k0 := hcell6 _ _ (flatR_get ps i hlt).1
          have gi : (i : Int) < (ps.length : Int) := by omega
          have dl : decide ((i : Int) < (ps.length : Int)) = true := decide_eq_true gi
          have HOK := Lib.hid (show ps[i].1.length ≤ 100000 from by have := (HRI.out.ok _ (List.getElem_mem hlt)).2.1; omega)
          clear hcell6
          generalize ps[i] = px at *
          go_wp2_with fail
          go_meet
          case rel => exact ⟨px.1, rfl, HOK.out, rfl⟩
        · have dl : decide ((i : Int) < (ps.length : Int)) = false := decide_eq_false (by omega)
          go_wp2_with fail
          go_meet
          case rel => exact ⟨kb, rfl, by omega, rfl⟩
      case rest =>
      clear hkl
      obtain ⟨kb, rfl, hkl, rfl⟩ := hcut
      have HW := Lib.hid (BkS.below HBR.out (Below.refl _ wr))
      have HR0 := Lib.hid (Below.refl wr.heap.size wr)
      have hg0 : getN kb (ps.take 0) = ([], false) := by rw [List.take_zero]; exact getN_not (fun q hq => by cases hq)
      have HG0 := Lib.hid hg0
      clear hg0
      go_wp2_with fail
      go_loopg [17, 18, 19] ps.length (fun g wv iv jv wx => ∃ j : Nat, j + g = ps.length ∧ jv = .int .i64 j ∧ wv = .string (str (getN kb (ps.take j)).1) ∧ iv = .bool (getN kb (ps.take j)).2 ∧ Below wr.heap.size wr wx)
      case atStart => exact ⟨0, by omega, rfl, by rw [HG0.out]; rfl, by rw [HG0.out], HR0.out⟩
      case round =>
        obtain ⟨j, hjg, rfl, rfl, rfl, hbx⟩ := hrel
        have HBX := Lib.hid hbx
        clear hbx
        by_cases hjl : j < ps.length
        · obtain ⟨g6, cp6, hv6, _, hg6, hc6, hm6, hcell6⟩ := own_pos HW.out.row (by omega)
          injection hv6 with hv6 _ hv6'
          subst hv6 hv6'
          unfold maxLen at hm6
          obtain ⟨x0, x1⟩ := flatR_get ps j hjl
          have k0 := (HBX.out.cell (p := ⟨g6, j * 2, none⟩) hg6).trans (hcell6 _ _ x0)
          have k1 := (HBX.out.cell (p := ⟨g6, j * 2 + 1, none⟩) hg6).trans (hcell6 _ _ x1)
          have gj : (j : Int) < (ps.length : Int) := by omega
          have hsu := getN_take_succ HRI.out kb j hjl
          have heq := str_eqG ps[j].1 kb
          clear hcell6 x0 x1
          by_cases hkk : ps[j].1 = kb
          · rw [decide_eq_true hkk] at heq
            rw [if_pos hkk] at hsu
            have HSU := Lib.hid hsu
            clear hsu hkk
            generalize ps[j] = px at *
            generalize getN kb (ps.take j) = gg at *
            generalize str px.1 = sx at *
            generalize str kb = sk at *
            go_wp2_with fail
            go_roundg (ps.length - (j + 1))
            case measure => omega
            case rel => exact ⟨j + 1, by omega, by go_num, by rw [HSU.out], by rw [HSU.out], HBX.out⟩
          · rw [decide_eq_false hkk] at heq
            rw [if_neg hkk] at hsu
            have HSU := Lib.hid hsu
            clear hsu hkk
            generalize ps[j] = px at *
            generalize getN kb (ps.take j) = gg at *
            generalize str px.1 = sx at *
            generalize str kb = sk at *
            go_wp2_with fail
            go_roundg (ps.length - (j + 1))
            case measure => omega
            case rel => exact ⟨j + 1, by omega, by go_num, by rw [HSU.out], by rw [HSU.out], HBX.out⟩
        · obtain rfl : j = ps.length := by omega
          have hBW := HW.out.below HBX.out
          obtain ⟨Br, pir, vir, pvr, hTr⟩ := hBW.tb.tt
          have hgt := tGet_b HTI.out R kc wr Br pT pir vir pvr (str kb) hTr hBW.tb.c (by rw [str_size]; omega) HRL.out HLR.out (hBW.nkf HNI.out)
          rw [bl_str] at hgt
          have HGT := Lib.hid hgt
          have HBW := Lib.hid hBW
          rw [List.take_length]
          clear hgt hTr hBW HW HBX
          have hbad : (∃ i, ∃ hi : i < (whs 0 bs).length, ∀ ps, ¬ LoadR R (whs 0 bs)[i] ps) → R ≠ T := fun ⟨i, hi, hn⟩ e => hn _ (HEQ.out e i hi)
          have HBAD := Lib.hid hbad
          clear hbad
          unfold GetB at HGT
          obtain ⟨⟨gv, gb⟩, hgg⟩ : ∃ g, getN kb ps = g := ⟨_, rfl⟩
          rw [hgg] at HGT ⊢
          clear hgg
          dsimp only at HGT ⊢
          generalize str kb = sk at *
          generalize str gv = sg at *
          go_wp2_with fail
          (with_reducible refine HGT.out.mono ?_)
          rintro e wg ⟨hkg, hcg, rfl | ⟨rfl, hno⟩⟩
          · have HBG := Lib.hid (HBW.out.kf hkg (HBW.out.tb.kf hkg hcg))
            clear hkg hcg HBW HGT hne
            generalize str R = sR at *
            generalize str T = sT at *
            cases gb
            · go_wp2_with fail
              go_roundg (60 - (i + 1))
              case measure => omega
              case rel => exact ⟨i + 1, by omega, by go_num, HBG.out⟩
            · go_wp2_with fail
              go_roundg (60 - (i + 1))
              case measure => omega
              case rel => exact ⟨i + 1, by omega, by go_num, HBG.out⟩
          · have HBG := Lib.hid (HBW.out.kf hkg (HBW.out.tb.kf hkg hcg))
            rw [decide_eq_false (HBAD.out hno)] at hne
            have hs0 : str [] = ⟨#[]⟩ := rfl
            rw [hs0]
            clear hkg hcg HBW HGT hno hs0
            generalize str R = sR at *
            generalize str T = sT at *
            go_wp2_with fail
            go_roundg (60 - (i + 1))
            case measure => omega
            case rel => exact ⟨i + 1, by omega, by go_num, HBG.out⟩
    · have HBE := Lib.hid HBR.out.bel
      clear HBR
      by_cases hi1 : i ≤ ps.length
      · have di : decide ((i : Int) ≤ (ps.length : Int)) = true := decide_eq_true (by omega)
        have di2 : decide ((i : Int) < 60) = false := decide_eq_false (by omega)
        go_wp2_with fail
        go_ret
        exact ⟨rfl, HBE.out⟩
      · have di : decide ((i : Int) ≤ (ps.length : Int)) = false := decide_eq_false (by omega)
        go_wp2_with fail
        go_ret
        exact ⟨rfl, HBE.out⟩
end Go.Proofs.YtdbfaknpfepnfaaGreatDoor
