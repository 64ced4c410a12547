/-
  Texts of the claim, joined: RisesW, FindsW.
-/
import Derived.Test.YtdbfaknpfepnfaaGreatDoorMxBK17
set_option maxRecDepth 100000
set_option maxHeartbeats 40000000
namespace Go.Proofs.YtdbfaknpfepnfaaGreatDoor
open Go.RowKit CodecP

theorem rise_iff {L : List Pr} : Rise L ↔ (∀ i (h : i < L.length), Okp L[i] ∧ (0 < i → (L[i - 1]'(by omega)).1 < L[i].1)) ∧ L.length ≤ 4096 := by
 constructor
 ·intro h
  exact ⟨fun i hi => ⟨h.ok _ (List.getElem_mem hi), fun h0 => h.key hi (by omega)⟩, h.le⟩
 ·rintro ⟨h1, h2⟩
  refine ⟨fun p hp => ?_, ?_, h2⟩
  ·obtain ⟨i, hi, rfl⟩ := List.getElem_of_mem hp
   exact (h1 i hi).1
  ·rw [List.pairwise_iff_getElem]
   intro i j hi hj hij
   induction j with
   | zero => omega
   | succ j ih =>
    have h3 := (h1 (j + 1) hj).2 (by omega)
    rcases Nat.lt_or_ge i j with h4 | h4
    ·exact List.lt_trans (ih (by omega) h4) h3
    ·obtain rfl : i = j := by omega
     exact h3
theorem rises_any (v : Value) (L : List Pr) (w : World) (h : PrsIn w v L) (hL : L.length ≤ 1000000) :
  Calls Tryz.prog 166 #[v] w fun e w' => ∃ b : Bool, e = .returned (.bool b) ∧ (b = true ↔ Rise L) ∧ Below w.heap.size w w' := by
 have HC := Lib.hid (fun A n cap hv i hi => h.cells (A := A) (n := n) (cap := cap) hv (i := i) hi)
 have HLE := Lib.hid h.le
 obtain ⟨A, cap, hv, hs⟩ := h.ex
 subst hv
 have hcl := hs.le
 have hcm := hs.max
 unfold maxLen at hcm
 have HR := Lib.hid (Below.refl w.heap.size w)
 have HRI := Lib.hid (rise_iff (L := L))
 clear h hs
 go_enter Tryz.func166, Tryz.ntmps166
 go_wp2_with fail
 go_loopg [3] L.length (fun g iv wr => ∃ i : Nat, i + g = L.length ∧ iv = .int .i64 i ∧ (∀ j (hj : j < L.length), j < i → Okp L[j] ∧ (0 < j → (L[j - 1]'(by omega)).1 < L[j].1)) ∧ Below w.heap.size w wr)
 case atStart => exact ⟨0, by omega, rfl, fun j _ h => by omega, HR.out⟩
 case round =>
  obtain ⟨i, hig, rfl, hpre, hbl⟩ := hrel
  have HP := Lib.hid hpre
  have HBL := Lib.hid hbl
  clear hpre
  by_cases hlt : i < L.length
  ·have d9 : decide ((i : Int) < (L.length : Int)) = true := by rw [decide_eq_true_eq]; omega
   obtain ⟨bk, off, rfl, hc⟩ := HC.out _ _ _ rfl i hlt
   have hle := HLE.out L[i] (List.getElem_mem hlt)
   have HCW := Lib.hid (fun W hW => hc W hW i hlt)
   obtain ⟨d0, d1⟩ := hc wr hbl i hlt
   have hil : (i : Int) < (L.length : Int) := by omega
   have wi : IntKind.i64.wrap ((i : Int) + 1) = (i : Int) + 1 := IntWalk.i64_in _ (by omega)
   have e1 := str_size L[i].1
   have e2 := str_size L[i].2
   rw [← e1, ← e2] at hle
   obtain ⟨hk, hv⟩ := hle
   obtain ⟨O, hO⟩ : ∃ O : Bool, O = decide (Okp L[i]) := ⟨_, rfl⟩
   have HO := Lib.hid hO
   have HRT := Lib.hid (fun W => refRight_any (str L[i].1) (str L[i].2) W hk hv O (by rw [hO, decide_eq_true_eq, bl_str, bl_str]))
   obtain ⟨q, hq⟩ : ∃ q, q = L[i] := ⟨_, rfl⟩
   rw [← hq] at HRT HCW d0 d1 e1 e2 hO hk hv
   have HQ := Lib.hid hq
   clear hq hO
   cases O with
   | false =>
    go_wp2_with fail
    refine wp_region_held_drew (S := (fun w' => w'.cell? ⟨bk, off + i * 2, none⟩ = some (.string (str q.1)) ∧ w'.cell? ⟨bk, off + i * 2 + 1, none⟩ = some (.string (str q.2)))) (by kernel_rfl) (by (try dsimp only); exact ⟨d0, d1⟩) (fun hHeld => ?_)
    refine takeH (i := 0) (d := some 10) (v := ?_) rfl rfl (by kernel_rfl) (by kernel_rfl) (by kernel_rfl) (fun _ _ _ h => h) (Or.inl ⟨by rfl, ?_⟩) (by assumption) ?_
    rotate_left
    ·intro wS hSw; (try dsimp only at hSw); go_simp; (try (with_reducible rfl))
    simp only [Act.put, zA, zB, zC]
    refine takeH (i := 1) (d := some 11) (v := ?_) rfl rfl (by kernel_rfl) (by kernel_rfl) (by kernel_rfl) (fun _ _ _ h => h) (Or.inl ⟨by rfl, ?_⟩) (by assumption) ?_
    rotate_left
    ·intro wS hSw; (try dsimp only at hSw); go_simp; (try (with_reducible rfl))
    simp only [Act.put, zA, zB, zC]
    refine takeH (i := 2) (d := some 12) (v := ?_) rfl rfl (by kernel_rfl) (by kernel_rfl) (by kernel_rfl) (fun _ _ _ h => h) (Or.inl ⟨by rfl, ?_⟩) (by assumption) ?_
    rotate_left
    ·intro wS hSw; (try dsimp only at hSw); go_simp; (try (with_reducible rfl))
    simp only [Act.put, zA, zB, zC]
    refine takeH (i := 3) (d := some 13) (v := ?_) rfl rfl (by kernel_rfl) (by kernel_rfl) (by kernel_rfl) (fun _ _ _ h => h) (Or.inl ⟨by rfl, ?_⟩) (by assumption) ?_
    rotate_left
    ·intro wS hSw; (try dsimp only at hSw); go_simp; (try (with_reducible rfl))
    simp only [Act.put, zA, zB, zC]
    refine wpAnyH_ready (rs := [4]) (by kernel_rfl) (by simp) ?_
    refine AllReadyH.cons rfl (fun K hK => ?_) AllReadyH.nil
    go_simp
    refine (HRT.out _).mono ?_
    rintro e w4 ⟨rfl, hb4⟩
    obtain ⟨k0, k1⟩ := HCW.out w4 (HBL.out.drew.trans (hb4.mono HBL.out.size))
    have HB4 := Lib.hid hb4
    clear hb4
    go_wp2_with fail
    refine hK.out _ _ (by (try dsimp only); exact ⟨k0, k1⟩) (fun hHeld => ?_)
    clear hK K
    refine takeH (i := 5) (d := some 15) (v := ?_) rfl rfl (by kernel_rfl) (by kernel_rfl) (by kernel_rfl) (fun _ _ _ h => h) (Or.inl ⟨by rfl, ?_⟩) (by assumption) ?_
    rotate_left
    ·intro wS hSw; (try dsimp only at hSw); go_simp; (try (with_reducible rfl))
    simp only [Act.put, zA, zB, zC]
    refine takeH (i := 6) (d := some 16) (v := ?_) rfl rfl (by kernel_rfl) (by kernel_rfl) (by kernel_rfl) (fun _ _ _ h => h) (Or.inl ⟨by rfl, ?_⟩) (by assumption) ?_
    rotate_left
    ·intro wS hSw; (try dsimp only at hSw); go_simp; (try (with_reducible rfl))
    simp only [Act.put, zA, zB, zC]
    refine takeH (i := 7) (d := some 17) (v := undef) rfl rfl (by kernel_rfl) (by kernel_rfl) (by kernel_rfl) (fun _ _ _ h => h) (Or.inr ⟨by rfl, rfl⟩) (by assumption) ?_
    simp only [Act.put, zA, zB, zC]
    refine takeH (i := 8) (d := some 18) (v := undef) rfl rfl (by kernel_rfl) (by kernel_rfl) (by kernel_rfl) (fun _ _ _ h => h) (Or.inr ⟨by rfl, rfl⟩) (by assumption) ?_
    simp only [Act.put, zA, zB, zC]
    refine takeH (i := 9) (d := some 19) (v := undef) rfl rfl (by kernel_rfl) (by kernel_rfl) (by kernel_rfl) (fun _ _ _ h => h) (Or.inr ⟨by rfl, rfl⟩) (by assumption) ?_
    simp only [Act.put, zA, zB, zC]
    refine takeH (i := 10) (d := some 20) (v := undef) rfl rfl (by kernel_rfl) (by kernel_rfl) (by kernel_rfl) (fun _ _ _ h => h) (Or.inr ⟨by rfl, rfl⟩) (by assumption) ?_
    simp only [Act.put, zA, zB, zC]
    refine takeH (i := 11) (d := some 21) (v := undef) rfl rfl (by kernel_rfl) (by kernel_rfl) (by kernel_rfl) (fun _ _ _ h => h) (Or.inr ⟨by rfl, rfl⟩) (by assumption) ?_
    simp only [Act.put, zA, zB, zC]
    refine takeH (i := 12) (d := some 22) (v := undef) rfl rfl (by kernel_rfl) (by kernel_rfl) (by kernel_rfl) (fun _ _ _ h => h) (Or.inr ⟨by rfl, rfl⟩) (by assumption) ?_
    simp only [Act.put, zA, zB, zC]
    refine takeH (i := 13) (d := some 23) (v := undef) rfl rfl (by kernel_rfl) (by kernel_rfl) (by kernel_rfl) (fun _ _ _ h => h) (Or.inr ⟨by rfl, rfl⟩) (by assumption) ?_
    simp only [Act.put, zA, zB, zC]
    refine takeH (i := 14) (d := some 24) (v := undef) rfl rfl (by kernel_rfl) (by kernel_rfl) (by kernel_rfl) (fun _ _ _ h => h) (Or.inr ⟨by rfl, rfl⟩) (by assumption) ?_
    simp only [Act.put, zA, zB, zC]
    refine takeH (i := 15) (d := some 25) (v := undef) rfl rfl (by kernel_rfl) (by kernel_rfl) (by kernel_rfl) (fun _ _ _ h => h) (Or.inr ⟨by rfl, rfl⟩) (by assumption) ?_
    simp only [Act.put, zA, zB, zC]
    refine takeH (i := 16) (d := some 26) (v := undef) rfl rfl (by kernel_rfl) (by kernel_rfl) (by kernel_rfl) (fun _ _ _ h => h) (Or.inr ⟨by rfl, rfl⟩) (by assumption) ?_
    simp only [Act.put, zA, zB, zC]
    refine takeH (i := 17) (d := some 27) (v := undef) rfl rfl (by kernel_rfl) (by kernel_rfl) (by kernel_rfl) (fun _ _ _ h => h) (Or.inr ⟨by rfl, rfl⟩) (by assumption) ?_
    simp only [Act.put, zA, zB, zC]
    refine takeH (i := 18) (d := some 28) (v := undef) rfl rfl (by kernel_rfl) (by kernel_rfl) (by kernel_rfl) (fun _ _ _ h => h) (Or.inr ⟨by rfl, rfl⟩) (by assumption) ?_
    simp only [Act.put, zA, zB, zC]
    refine takeH (i := 19) (d := some 29) (v := undef) rfl rfl (by kernel_rfl) (by kernel_rfl) (by kernel_rfl) (fun _ _ _ h => h) (Or.inr ⟨by rfl, rfl⟩) (by assumption) ?_
    simp only [Act.put, zA, zB, zC]
    refine takeH (i := 20) (d := some 30) (v := undef) rfl rfl (by kernel_rfl) (by kernel_rfl) (by kernel_rfl) (fun _ _ _ h => h) (Or.inr ⟨by rfl, rfl⟩) (by assumption) ?_
    simp only [Act.put, zA, zB, zC]
    refine takeH (i := 21) (d := some 31) (v := undef) rfl rfl (by kernel_rfl) (by kernel_rfl) (by kernel_rfl) (fun _ _ _ h => h) (Or.inr ⟨by rfl, rfl⟩) (by assumption) ?_
    simp only [Act.put, zA, zB, zC]
    refine takeH (i := 22) (d := some 32) (v := undef) rfl rfl (by kernel_rfl) (by kernel_rfl) (by kernel_rfl) (fun _ _ _ h => h) (Or.inr ⟨by rfl, rfl⟩) (by assumption) ?_
    simp only [Act.put, zA, zB, zC]
    refine takeH (i := 23) (d := some 33) (v := ?_) rfl rfl (by kernel_rfl) (by kernel_rfl) (by kernel_rfl) (fun _ _ _ h => h) (Or.inl ⟨by rfl, ?_⟩) (by assumption) ?_
    rotate_left
    ·intro wS hSw; (try dsimp only at hSw); go_simp; (try (with_reducible rfl))
    simp only [Act.put, zA, zB, zC]
    refine wpAnyH_done (by kernel_rfl) ?_ _
    go_wp2_with fail
    go_ret
    refine ⟨false, rfl, ⟨(fun h => by cases h), fun h => ?_⟩, HBL.out.trans (HB4.out.undrew.mono HBL.out.size)⟩
    have h1 := (HRI.out.1 h).1 i hlt
    have h2 := HO.out
    rw [decide_eq_true h1.1] at h2
    cases h2
   | true =>
    rcases Nat.eq_zero_or_pos i with h0 | h0
    ·subst h0
     go_wp2_with fail
     have d0' : wr.cell? ⟨bk, off, none⟩ = some (.string (str q.1)) := by simpa using d0
     have d1' : wr.cell? ⟨bk, off + 1, none⟩ = some (.string (str q.2)) := by simpa using d1
     have hcw' : ∀ W, Below w.heap.size w W → W.cell? ⟨bk, off, none⟩ = some (.string (str q.1)) ∧ W.cell? ⟨bk, off + 1, none⟩ = some (.string (str q.2)) := fun W hW => by
      obtain ⟨k0, k1⟩ := HCW.out W hW
      exact ⟨by simpa using k0, by simpa using k1⟩
     have HCW' := Lib.hid hcw'
     clear d0 d1 hcw'
     refine wp_region_held_drew (S := (fun w' => w'.cell? ⟨bk, off, none⟩ = some (.string (str q.1)) ∧ w'.cell? ⟨bk, off + 1, none⟩ = some (.string (str q.2)))) (by kernel_rfl) (by (try dsimp only); exact ⟨d0', d1'⟩) (fun hHeld => ?_)
     refine takeH (i := 0) (d := some 10) (v := ?_) rfl rfl (by kernel_rfl) (by kernel_rfl) (by kernel_rfl) (fun _ _ _ h => h) (Or.inl ⟨by rfl, ?_⟩) (by assumption) ?_
     rotate_left
     ·intro wS hSw; (try dsimp only at hSw); go_simp; (try (with_reducible rfl))
     simp only [Act.put, zA, zB, zC]
     refine takeH (i := 1) (d := some 11) (v := ?_) rfl rfl (by kernel_rfl) (by kernel_rfl) (by kernel_rfl) (fun _ _ _ h => h) (Or.inl ⟨by rfl, ?_⟩) (by assumption) ?_
     rotate_left
     ·intro wS hSw; (try dsimp only at hSw); go_simp; (try (with_reducible rfl))
     simp only [Act.put, zA, zB, zC]
     refine takeH (i := 2) (d := some 12) (v := ?_) rfl rfl (by kernel_rfl) (by kernel_rfl) (by kernel_rfl) (fun _ _ _ h => h) (Or.inl ⟨by rfl, ?_⟩) (by assumption) ?_
     rotate_left
     ·intro wS hSw; (try dsimp only at hSw); go_simp; (try (with_reducible rfl))
     simp only [Act.put, zA, zB, zC]
     refine takeH (i := 3) (d := some 13) (v := ?_) rfl rfl (by kernel_rfl) (by kernel_rfl) (by kernel_rfl) (fun _ _ _ h => h) (Or.inl ⟨by rfl, ?_⟩) (by assumption) ?_
     rotate_left
     ·intro wS hSw; (try dsimp only at hSw); go_simp; (try (with_reducible rfl))
     simp only [Act.put, zA, zB, zC]
     refine wpAnyH_ready (rs := [4]) (by kernel_rfl) (by simp) ?_
     refine AllReadyH.cons rfl (fun K hK => ?_) AllReadyH.nil
     go_simp
     refine (HRT.out _).mono ?_
     rintro e w4 ⟨rfl, hb4⟩
     obtain ⟨k0, k1⟩ := HCW'.out w4 (HBL.out.drew.trans (hb4.mono HBL.out.size))
     have HB4 := Lib.hid hb4
     clear hb4
     go_wp2_with fail
     refine hK.out _ _ (by (try dsimp only); exact ⟨k0, k1⟩) (fun hHeld => ?_)
     clear hK K
     refine takeH (i := 5) (d := some 15) (v := ?_) rfl rfl (by kernel_rfl) (by kernel_rfl) (by kernel_rfl) (fun _ _ _ h => h) (Or.inl ⟨by rfl, ?_⟩) (by assumption) ?_
     rotate_left
     ·intro wS hSw; (try dsimp only at hSw); go_simp; (try (with_reducible rfl))
     simp only [Act.put, zA, zB, zC]
     refine takeH (i := 6) (d := some 16) (v := ?_) rfl rfl (by kernel_rfl) (by kernel_rfl) (by kernel_rfl) (fun _ _ _ h => h) (Or.inl ⟨by rfl, ?_⟩) (by assumption) ?_
     rotate_left
     ·intro wS hSw; (try dsimp only at hSw); go_simp; (try (with_reducible rfl))
     simp only [Act.put, zA, zB, zC]
     refine takeH (i := 7) (d := some 17) (v := ?_) rfl rfl (by kernel_rfl) (by kernel_rfl) (by kernel_rfl) (fun _ _ _ h => h) (Or.inl ⟨by rfl, ?_⟩) (by assumption) ?_
     rotate_left
     ·intro wS hSw; (try dsimp only at hSw); go_simp; (try (with_reducible rfl))
     simp only [Act.put, zA, zB, zC]
     refine takeH (i := 8) (d := some 18) (v := ?_) rfl rfl (by kernel_rfl) (by kernel_rfl) (by kernel_rfl) (fun _ _ _ h => h) (Or.inl ⟨by rfl, ?_⟩) (by assumption) ?_
     rotate_left
     ·intro wS hSw; (try dsimp only at hSw); go_simp; (try (with_reducible rfl))
     simp only [Act.put, zA, zB, zC]
     refine takeH (i := 9) (d := some 19) (v := ?_) rfl rfl (by kernel_rfl) (by kernel_rfl) (by kernel_rfl) (fun _ _ _ h => h) (Or.inl ⟨by rfl, ?_⟩) (by assumption) ?_
     rotate_left
     ·intro wS hSw; (try dsimp only at hSw); go_simp; (try (with_reducible rfl))
     simp only [Act.put, zA, zB, zC]
     refine takeH (i := 10) (d := some 20) (v := undef) rfl rfl (by kernel_rfl) (by kernel_rfl) (by kernel_rfl) (fun _ _ _ h => h) (Or.inr ⟨by rfl, rfl⟩) (by assumption) ?_
     simp only [Act.put, zA, zB, zC]
     refine takeH (i := 11) (d := some 21) (v := undef) rfl rfl (by kernel_rfl) (by kernel_rfl) (by kernel_rfl) (fun _ _ _ h => h) (Or.inr ⟨by rfl, rfl⟩) (by assumption) ?_
     simp only [Act.put, zA, zB, zC]
     refine takeH (i := 12) (d := some 22) (v := undef) rfl rfl (by kernel_rfl) (by kernel_rfl) (by kernel_rfl) (fun _ _ _ h => h) (Or.inr ⟨by rfl, rfl⟩) (by assumption) ?_
     simp only [Act.put, zA, zB, zC]
     refine takeH (i := 13) (d := some 23) (v := undef) rfl rfl (by kernel_rfl) (by kernel_rfl) (by kernel_rfl) (fun _ _ _ h => h) (Or.inr ⟨by rfl, rfl⟩) (by assumption) ?_
     simp only [Act.put, zA, zB, zC]
     refine takeH (i := 14) (d := some 24) (v := undef) rfl rfl (by kernel_rfl) (by kernel_rfl) (by kernel_rfl) (fun _ _ _ h => h) (Or.inr ⟨by rfl, rfl⟩) (by assumption) ?_
     simp only [Act.put, zA, zB, zC]
     refine takeH (i := 15) (d := some 25) (v := undef) rfl rfl (by kernel_rfl) (by kernel_rfl) (by kernel_rfl) (fun _ _ _ h => h) (Or.inr ⟨by rfl, rfl⟩) (by assumption) ?_
     simp only [Act.put, zA, zB, zC]
     refine takeH (i := 16) (d := some 26) (v := undef) rfl rfl (by kernel_rfl) (by kernel_rfl) (by kernel_rfl) (fun _ _ _ h => h) (Or.inr ⟨by rfl, rfl⟩) (by assumption) ?_
     simp only [Act.put, zA, zB, zC]
     refine takeH (i := 17) (d := some 27) (v := undef) rfl rfl (by kernel_rfl) (by kernel_rfl) (by kernel_rfl) (fun _ _ _ h => h) (Or.inr ⟨by rfl, rfl⟩) (by assumption) ?_
     simp only [Act.put, zA, zB, zC]
     refine takeH (i := 18) (d := some 28) (v := undef) rfl rfl (by kernel_rfl) (by kernel_rfl) (by kernel_rfl) (fun _ _ _ h => h) (Or.inr ⟨by rfl, rfl⟩) (by assumption) ?_
     simp only [Act.put, zA, zB, zC]
     refine takeH (i := 19) (d := some 29) (v := undef) rfl rfl (by kernel_rfl) (by kernel_rfl) (by kernel_rfl) (fun _ _ _ h => h) (Or.inr ⟨by rfl, rfl⟩) (by assumption) ?_
     simp only [Act.put, zA, zB, zC]
     refine takeH (i := 20) (d := some 30) (v := undef) rfl rfl (by kernel_rfl) (by kernel_rfl) (by kernel_rfl) (fun _ _ _ h => h) (Or.inr ⟨by rfl, rfl⟩) (by assumption) ?_
     simp only [Act.put, zA, zB, zC]
     refine takeH (i := 21) (d := some 31) (v := undef) rfl rfl (by kernel_rfl) (by kernel_rfl) (by kernel_rfl) (fun _ _ _ h => h) (Or.inr ⟨by rfl, rfl⟩) (by assumption) ?_
     simp only [Act.put, zA, zB, zC]
     refine takeH (i := 22) (d := some 32) (v := ?_) rfl rfl (by kernel_rfl) (by kernel_rfl) (by kernel_rfl) (fun _ _ _ h => h) (Or.inl ⟨by rfl, ?_⟩) (by assumption) ?_
     rotate_left
     ·intro wS hSw; (try dsimp only at hSw); go_simp; (try (with_reducible rfl))
     simp only [Act.put, zA, zB, zC]
     refine takeH (i := 23) (d := some 33) (v := ?_) rfl rfl (by kernel_rfl) (by kernel_rfl) (by kernel_rfl) (fun _ _ _ h => h) (Or.inl ⟨by rfl, ?_⟩) (by assumption) ?_
     rotate_left
     ·intro wS hSw; (try dsimp only at hSw); go_simp; (try (with_reducible rfl))
     simp only [Act.put, zA, zB, zC]
     refine wpAnyH_done (by kernel_rfl) ?_ _
     go_wp2_with fail
     go_roundg (L.length - 1)
     case measure => omega
     case rel =>
      refine ⟨1, by omega, by go_num, fun j hj h1 => ?_, HBL.out.trans (HB4.out.undrew.mono HBL.out.size)⟩
      obtain rfl : j = 0 := by omega
      exact ⟨of_decide_eq_true HO.out.symm, fun h => by omega⟩
    ·have hi1 : i - 1 < L.length := by omega
     have hcp : ∀ W, Below w.heap.size w W → W.cell? ⟨bk, off + (i - 1) * 2, none⟩ = some (.string (str L[i - 1].1)) := fun W hW => by
      obtain ⟨b2, o2, h2, hc2⟩ := HC.out _ _ _ rfl i hlt
      injection h2 with h2
      injection h2 with h3 h4
      subst h3 h4
      exact (hc2 W hW (i - 1) hi1).1
     have HCP := Lib.hid hcp
     have d2 := hcp wr hbl
     have g0 : decide ((0 : Int) < (i : Int)) = true := by rw [decide_eq_true_eq]; omega
     have g0' : 0 < i := h0
     have s3 : IntKind.i64.wrap ((i : Int) - 1) = (i : Int) - 1 := IntWalk.i64_in _ (by omega)
     have s4 : ((i : Int) - 1).toNat = i - 1 := by omega
     have s5 : (0 : Int) ≤ (i : Int) - 1 := by omega
     have s6 : (i : Int) - 1 < (L.length : Int) := by omega
     have s7 : (1 : Int) ≤ (i : Int) := by omega
     obtain ⟨pk, hpk⟩ : ∃ pk, pk = L[i - 1] := ⟨_, rfl⟩
     rw [← hpk] at HCP d2
     have HPK := Lib.hid hpk
     clear hpk hcp hbl
     by_cases hup : pk.1 < q.1
     ·obtain ⟨q1, q2⟩ := leq_no (a := str q.1) (b := str pk.1) (by rw [bl_str, bl_str]; exact hup)
      have HUP := Lib.hid hup
      clear hup
      go_wp2_with fail
      refine wp_region_held_drew (S := (fun w' => w'.cell? ⟨bk, off + i * 2, none⟩ = some (.string (str q.1)) ∧ w'.cell? ⟨bk, off + i * 2 + 1, none⟩ = some (.string (str q.2)) ∧ w'.cell? ⟨bk, off + (i - 1) * 2, none⟩ = some (.string (str pk.1)))) (by kernel_rfl) (by (try dsimp only); exact ⟨d0, d1, d2⟩) (fun hHeld => ?_)
      refine takeH (i := 0) (d := some 10) (v := ?_) rfl rfl (by kernel_rfl) (by kernel_rfl) (by kernel_rfl) (fun _ _ _ h => h) (Or.inl ⟨by rfl, ?_⟩) (by assumption) ?_
      rotate_left
      ·intro wS hSw; (try dsimp only at hSw); go_simp; (try (with_reducible rfl))
      simp only [Act.put, zA, zB, zC]
      refine takeH (i := 1) (d := some 11) (v := ?_) rfl rfl (by kernel_rfl) (by kernel_rfl) (by kernel_rfl) (fun _ _ _ h => h) (Or.inl ⟨by rfl, ?_⟩) (by assumption) ?_
      rotate_left
      ·intro wS hSw; (try dsimp only at hSw); go_simp; (try (with_reducible rfl))
      simp only [Act.put, zA, zB, zC]
      refine takeH (i := 2) (d := some 12) (v := ?_) rfl rfl (by kernel_rfl) (by kernel_rfl) (by kernel_rfl) (fun _ _ _ h => h) (Or.inl ⟨by rfl, ?_⟩) (by assumption) ?_
      rotate_left
      ·intro wS hSw; (try dsimp only at hSw); go_simp; (try (with_reducible rfl))
      simp only [Act.put, zA, zB, zC]
      refine takeH (i := 3) (d := some 13) (v := ?_) rfl rfl (by kernel_rfl) (by kernel_rfl) (by kernel_rfl) (fun _ _ _ h => h) (Or.inl ⟨by rfl, ?_⟩) (by assumption) ?_
      rotate_left
      ·intro wS hSw; (try dsimp only at hSw); go_simp; (try (with_reducible rfl))
      simp only [Act.put, zA, zB, zC]
      refine wpAnyH_ready (rs := [4]) (by kernel_rfl) (by simp) ?_
      refine AllReadyH.cons rfl (fun K hK => ?_) AllReadyH.nil
      go_simp
      refine (HRT.out _).mono ?_
      rintro e w4 ⟨rfl, hb4⟩
      obtain ⟨k0, k1⟩ := HCW.out w4 (HBL.out.drew.trans (hb4.mono HBL.out.size))
      have k2 := HCP.out w4 (HBL.out.drew.trans (hb4.mono HBL.out.size))
      have HB4 := Lib.hid hb4
      clear hb4
      go_wp2_with fail
      refine hK.out _ _ (by (try dsimp only); exact ⟨k0, k1, k2⟩) (fun hHeld => ?_)
      clear hK K
      refine takeH (i := 5) (d := some 15) (v := ?_) rfl rfl (by kernel_rfl) (by kernel_rfl) (by kernel_rfl) (fun _ _ _ h => h) (Or.inl ⟨by rfl, ?_⟩) (by assumption) ?_
      rotate_left
      ·intro wS hSw; (try dsimp only at hSw); go_simp; (try (with_reducible rfl))
      simp only [Act.put, zA, zB, zC]
      refine takeH (i := 6) (d := some 16) (v := ?_) rfl rfl (by kernel_rfl) (by kernel_rfl) (by kernel_rfl) (fun _ _ _ h => h) (Or.inl ⟨by rfl, ?_⟩) (by assumption) ?_
      rotate_left
      ·intro wS hSw; (try dsimp only at hSw); go_simp; (try (with_reducible rfl))
      simp only [Act.put, zA, zB, zC]
      refine takeH (i := 7) (d := some 17) (v := ?_) rfl rfl (by kernel_rfl) (by kernel_rfl) (by kernel_rfl) (fun _ _ _ h => h) (Or.inl ⟨by rfl, ?_⟩) (by assumption) ?_
      rotate_left
      ·intro wS hSw; (try dsimp only at hSw); go_simp; (try (with_reducible rfl))
      simp only [Act.put, zA, zB, zC]
      refine takeH (i := 8) (d := some 18) (v := ?_) rfl rfl (by kernel_rfl) (by kernel_rfl) (by kernel_rfl) (fun _ _ _ h => h) (Or.inl ⟨by rfl, ?_⟩) (by assumption) ?_
      rotate_left
      ·intro wS hSw; (try dsimp only at hSw); go_simp; (try (with_reducible rfl))
      simp only [Act.put, zA, zB, zC]
      refine takeH (i := 9) (d := some 19) (v := ?_) rfl rfl (by kernel_rfl) (by kernel_rfl) (by kernel_rfl) (fun _ _ _ h => h) (Or.inl ⟨by rfl, ?_⟩) (by assumption) ?_
      rotate_left
      ·intro wS hSw; (try dsimp only at hSw); go_simp; (try (with_reducible rfl))
      simp only [Act.put, zA, zB, zC]
      refine takeH (i := 10) (d := some 20) (v := ?_) rfl rfl (by kernel_rfl) (by kernel_rfl) (by kernel_rfl) (fun _ _ _ h => h) (Or.inl ⟨by rfl, ?_⟩) (by assumption) ?_
      rotate_left
      ·intro wS hSw; (try dsimp only at hSw); go_simp; (try (with_reducible rfl))
      simp only [Act.put, zA, zB, zC]
      refine takeH (i := 11) (d := some 21) (v := ?_) rfl rfl (by kernel_rfl) (by kernel_rfl) (by kernel_rfl) (fun _ _ _ h => h) (Or.inl ⟨by rfl, ?_⟩) (by assumption) ?_
      rotate_left
      ·intro wS hSw; (try dsimp only at hSw); go_simp; (try (with_reducible rfl))
      simp only [Act.put, zA, zB, zC]
      refine takeH (i := 12) (d := some 22) (v := ?_) rfl rfl (by kernel_rfl) (by kernel_rfl) (by kernel_rfl) (fun _ _ _ h => h) (Or.inl ⟨by rfl, ?_⟩) (by assumption) ?_
      rotate_left
      ·intro wS hSw; (try dsimp only at hSw); go_simp; (try (with_reducible rfl))
      simp only [Act.put, zA, zB, zC]
      refine takeH (i := 13) (d := some 23) (v := ?_) rfl rfl (by kernel_rfl) (by kernel_rfl) (by kernel_rfl) (fun _ _ _ h => h) (Or.inl ⟨by rfl, ?_⟩) (by assumption) ?_
      rotate_left
      ·intro wS hSw; (try dsimp only at hSw); go_simp; (try (with_reducible rfl))
      simp only [Act.put, zA, zB, zC]
      refine takeH (i := 14) (d := some 24) (v := ?_) rfl rfl (by kernel_rfl) (by kernel_rfl) (by kernel_rfl) (fun _ _ _ h => h) (Or.inl ⟨by rfl, ?_⟩) (by assumption) ?_
      rotate_left
      ·intro wS hSw; (try dsimp only at hSw); go_simp; (try (with_reducible rfl))
      simp only [Act.put, zA, zB, zC]
      refine takeH (i := 15) (d := some 25) (v := ?_) rfl rfl (by kernel_rfl) (by kernel_rfl) (by kernel_rfl) (fun _ _ _ h => h) (Or.inl ⟨by rfl, ?_⟩) (by assumption) ?_
      rotate_left
      ·intro wS hSw; (try dsimp only at hSw); go_simp; (try (with_reducible rfl))
      simp only [Act.put, zA, zB, zC]
      refine takeH (i := 16) (d := some 26) (v := ?_) rfl rfl (by kernel_rfl) (by kernel_rfl) (by kernel_rfl) (fun _ _ _ h => h) (Or.inl ⟨by rfl, ?_⟩) (by assumption) ?_
      rotate_left
      ·intro wS hSw; (try dsimp only at hSw); go_simp; (try (with_reducible rfl))
      simp only [Act.put, zA, zB, zC]
      refine takeH (i := 17) (d := some 27) (v := ?_) rfl rfl (by kernel_rfl) (by kernel_rfl) (by kernel_rfl) (fun _ _ _ h => h) (Or.inl ⟨by rfl, ?_⟩) (by assumption) ?_
      rotate_left
      ·intro wS hSw; (try dsimp only at hSw); go_simp; (try (with_reducible rfl))
      simp only [Act.put, zA, zB, zC]
      refine takeH (i := 18) (d := some 28) (v := ?_) rfl rfl (by kernel_rfl) (by kernel_rfl) (by kernel_rfl) (fun _ _ _ h => h) (Or.inl ⟨by rfl, ?_⟩) (by assumption) ?_
      rotate_left
      ·intro wS hSw; (try dsimp only at hSw); go_simp; (try (with_reducible rfl))
      simp only [Act.put, zA, zB, zC]
      refine takeH (i := 19) (d := some 29) (v := ?_) rfl rfl (by kernel_rfl) (by kernel_rfl) (by kernel_rfl) (fun _ _ _ h => h) (Or.inl ⟨by rfl, ?_⟩) (by assumption) ?_
      rotate_left
      ·intro wS hSw; (try dsimp only at hSw); go_simp; (try (with_reducible rfl))
      simp only [Act.put, zA, zB, zC]
      refine takeH (i := 20) (d := some 30) (v := ?_) rfl rfl (by kernel_rfl) (by kernel_rfl) (by kernel_rfl) (fun _ _ _ h => h) (Or.inl ⟨by rfl, ?_⟩) (by assumption) ?_
      rotate_left
      ·intro wS hSw; (try dsimp only at hSw); go_simp; (try (with_reducible rfl))
      simp only [Act.put, zA, zB, zC]
      refine takeH (i := 21) (d := some 31) (v := ?_) rfl rfl (by kernel_rfl) (by kernel_rfl) (by kernel_rfl) (fun _ _ _ h => h) (Or.inl ⟨by rfl, ?_⟩) (by assumption) ?_
      rotate_left
      ·intro wS hSw; (try dsimp only at hSw); go_simp; (try (with_reducible rfl))
      simp only [Act.put, zA, zB, zC]
      refine takeH (i := 22) (d := some 32) (v := ?_) rfl rfl (by kernel_rfl) (by kernel_rfl) (by kernel_rfl) (fun _ _ _ h => h) (Or.inl ⟨by rfl, ?_⟩) (by assumption) ?_
      rotate_left
      ·intro wS hSw; (try dsimp only at hSw); go_simp; (try (with_reducible rfl))
      simp only [Act.put, zA, zB, zC]
      refine takeH (i := 23) (d := some 33) (v := ?_) rfl rfl (by kernel_rfl) (by kernel_rfl) (by kernel_rfl) (fun _ _ _ h => h) (Or.inl ⟨by rfl, ?_⟩) (by assumption) ?_
      rotate_left
      ·intro wS hSw; (try dsimp only at hSw); go_simp; (try (with_reducible rfl))
      simp only [Act.put, zA, zB, zC]
      refine wpAnyH_done (by kernel_rfl) ?_ _
      go_wp2_with fail
      go_roundg (L.length - (i + 1))
      case measure => omega
      case rel =>
       refine ⟨i + 1, by omega, by go_num, fun j hj h1 => ?_, HBL.out.trans (HB4.out.undrew.mono HBL.out.size)⟩
       rcases Nat.lt_or_ge j i with h2 | h2
       ·exact HP.out j hj h2
       ·obtain rfl : j = i := by omega
        exact ⟨of_decide_eq_true HO.out.symm, fun _ => by have := HUP.out; rw [HPK.out, HQ.out] at this; exact this⟩
     ·have q1 := leq_yes (a := str q.1) (b := str pk.1) (by rw [bl_str, bl_str]; exact hup)
      have HUP := Lib.hid hup
      clear hup
      go_wp2_with fail
      refine wp_region_held_drew (S := (fun w' => w'.cell? ⟨bk, off + i * 2, none⟩ = some (.string (str q.1)) ∧ w'.cell? ⟨bk, off + i * 2 + 1, none⟩ = some (.string (str q.2)) ∧ w'.cell? ⟨bk, off + (i - 1) * 2, none⟩ = some (.string (str pk.1)))) (by kernel_rfl) (by (try dsimp only); exact ⟨d0, d1, d2⟩) (fun hHeld => ?_)
      refine takeH (i := 0) (d := some 10) (v := ?_) rfl rfl (by kernel_rfl) (by kernel_rfl) (by kernel_rfl) (fun _ _ _ h => h) (Or.inl ⟨by rfl, ?_⟩) (by assumption) ?_
      rotate_left
      ·intro wS hSw; (try dsimp only at hSw); go_simp; (try (with_reducible rfl))
      simp only [Act.put, zA, zB, zC]
      refine takeH (i := 1) (d := some 11) (v := ?_) rfl rfl (by kernel_rfl) (by kernel_rfl) (by kernel_rfl) (fun _ _ _ h => h) (Or.inl ⟨by rfl, ?_⟩) (by assumption) ?_
      rotate_left
      ·intro wS hSw; (try dsimp only at hSw); go_simp; (try (with_reducible rfl))
      simp only [Act.put, zA, zB, zC]
      refine takeH (i := 2) (d := some 12) (v := ?_) rfl rfl (by kernel_rfl) (by kernel_rfl) (by kernel_rfl) (fun _ _ _ h => h) (Or.inl ⟨by rfl, ?_⟩) (by assumption) ?_
      rotate_left
      ·intro wS hSw; (try dsimp only at hSw); go_simp; (try (with_reducible rfl))
      simp only [Act.put, zA, zB, zC]
      refine takeH (i := 3) (d := some 13) (v := ?_) rfl rfl (by kernel_rfl) (by kernel_rfl) (by kernel_rfl) (fun _ _ _ h => h) (Or.inl ⟨by rfl, ?_⟩) (by assumption) ?_
      rotate_left
      ·intro wS hSw; (try dsimp only at hSw); go_simp; (try (with_reducible rfl))
      simp only [Act.put, zA, zB, zC]
      refine wpAnyH_ready (rs := [4]) (by kernel_rfl) (by simp) ?_
      refine AllReadyH.cons rfl (fun K hK => ?_) AllReadyH.nil
      go_simp
      refine (HRT.out _).mono ?_
      rintro e w4 ⟨rfl, hb4⟩
      obtain ⟨k0, k1⟩ := HCW.out w4 (HBL.out.drew.trans (hb4.mono HBL.out.size))
      have k2 := HCP.out w4 (HBL.out.drew.trans (hb4.mono HBL.out.size))
      have HB4 := Lib.hid hb4
      clear hb4
      go_wp2_with fail
      refine hK.out _ _ (by (try dsimp only); exact ⟨k0, k1, k2⟩) (fun hHeld => ?_)
      clear hK K
      refine takeH (i := 5) (d := some 15) (v := ?_) rfl rfl (by kernel_rfl) (by kernel_rfl) (by kernel_rfl) (fun _ _ _ h => h) (Or.inl ⟨by rfl, ?_⟩) (by assumption) ?_
      rotate_left
      ·intro wS hSw; (try dsimp only at hSw); go_simp; (try (with_reducible rfl))
      simp only [Act.put, zA, zB, zC]
      refine takeH (i := 6) (d := some 16) (v := ?_) rfl rfl (by kernel_rfl) (by kernel_rfl) (by kernel_rfl) (fun _ _ _ h => h) (Or.inl ⟨by rfl, ?_⟩) (by assumption) ?_
      rotate_left
      ·intro wS hSw; (try dsimp only at hSw); go_simp; (try (with_reducible rfl))
      simp only [Act.put, zA, zB, zC]
      refine takeH (i := 7) (d := some 17) (v := ?_) rfl rfl (by kernel_rfl) (by kernel_rfl) (by kernel_rfl) (fun _ _ _ h => h) (Or.inl ⟨by rfl, ?_⟩) (by assumption) ?_
      rotate_left
      ·intro wS hSw; (try dsimp only at hSw); go_simp; (try (with_reducible rfl))
      simp only [Act.put, zA, zB, zC]
      refine takeH (i := 8) (d := some 18) (v := ?_) rfl rfl (by kernel_rfl) (by kernel_rfl) (by kernel_rfl) (fun _ _ _ h => h) (Or.inl ⟨by rfl, ?_⟩) (by assumption) ?_
      rotate_left
      ·intro wS hSw; (try dsimp only at hSw); go_simp; (try (with_reducible rfl))
      simp only [Act.put, zA, zB, zC]
      refine takeH (i := 9) (d := some 19) (v := ?_) rfl rfl (by kernel_rfl) (by kernel_rfl) (by kernel_rfl) (fun _ _ _ h => h) (Or.inl ⟨by rfl, ?_⟩) (by assumption) ?_
      rotate_left
      ·intro wS hSw; (try dsimp only at hSw); go_simp; (try (with_reducible rfl))
      simp only [Act.put, zA, zB, zC]
      refine takeH (i := 10) (d := some 20) (v := ?_) rfl rfl (by kernel_rfl) (by kernel_rfl) (by kernel_rfl) (fun _ _ _ h => h) (Or.inl ⟨by rfl, ?_⟩) (by assumption) ?_
      rotate_left
      ·intro wS hSw; (try dsimp only at hSw); go_simp; (try (with_reducible rfl))
      simp only [Act.put, zA, zB, zC]
      refine takeH (i := 11) (d := some 21) (v := ?_) rfl rfl (by kernel_rfl) (by kernel_rfl) (by kernel_rfl) (fun _ _ _ h => h) (Or.inl ⟨by rfl, ?_⟩) (by assumption) ?_
      rotate_left
      ·intro wS hSw; (try dsimp only at hSw); go_simp; (try (with_reducible rfl))
      simp only [Act.put, zA, zB, zC]
      refine takeH (i := 12) (d := some 22) (v := ?_) rfl rfl (by kernel_rfl) (by kernel_rfl) (by kernel_rfl) (fun _ _ _ h => h) (Or.inl ⟨by rfl, ?_⟩) (by assumption) ?_
      rotate_left
      ·intro wS hSw; (try dsimp only at hSw); go_simp; (try (with_reducible rfl))
      simp only [Act.put, zA, zB, zC]
      refine takeH (i := 13) (d := some 23) (v := ?_) rfl rfl (by kernel_rfl) (by kernel_rfl) (by kernel_rfl) (fun _ _ _ h => h) (Or.inl ⟨by rfl, ?_⟩) (by assumption) ?_
      rotate_left
      ·intro wS hSw; (try dsimp only at hSw); go_simp; (try (with_reducible rfl))
      simp only [Act.put, zA, zB, zC]
      refine takeH (i := 14) (d := some 24) (v := ?_) rfl rfl (by kernel_rfl) (by kernel_rfl) (by kernel_rfl) (fun _ _ _ h => h) (Or.inl ⟨by rfl, ?_⟩) (by assumption) ?_
      rotate_left
      ·intro wS hSw; (try dsimp only at hSw); go_simp; (try (with_reducible rfl))
      simp only [Act.put, zA, zB, zC]
      refine takeH (i := 15) (d := some 25) (v := ?_) rfl rfl (by kernel_rfl) (by kernel_rfl) (by kernel_rfl) (fun _ _ _ h => h) (Or.inl ⟨by rfl, ?_⟩) (by assumption) ?_
      rotate_left
      ·intro wS hSw; (try dsimp only at hSw); go_simp; (try (with_reducible rfl))
      simp only [Act.put, zA, zB, zC]
      refine takeH (i := 16) (d := some 26) (v := ?_) rfl rfl (by kernel_rfl) (by kernel_rfl) (by kernel_rfl) (fun _ _ _ h => h) (Or.inl ⟨by rfl, ?_⟩) (by assumption) ?_
      rotate_left
      ·intro wS hSw; (try dsimp only at hSw); go_simp; (try (with_reducible rfl))
      simp only [Act.put, zA, zB, zC]
      refine takeH (i := 17) (d := some 27) (v := ?_) rfl rfl (by kernel_rfl) (by kernel_rfl) (by kernel_rfl) (fun _ _ _ h => h) (Or.inl ⟨by rfl, ?_⟩) (by assumption) ?_
      rotate_left
      ·intro wS hSw; (try dsimp only at hSw); go_simp; (try (with_reducible rfl))
      simp only [Act.put, zA, zB, zC]
      refine takeH (i := 18) (d := some 28) (v := ?_) rfl rfl (by kernel_rfl) (by kernel_rfl) (by kernel_rfl) (fun _ _ _ h => h) (Or.inl ⟨by rfl, ?_⟩) (by assumption) ?_
      rotate_left
      ·intro wS hSw; (try dsimp only at hSw); go_simp; (try (with_reducible rfl))
      simp only [Act.put, zA, zB, zC]
      refine takeH (i := 19) (d := some 29) (v := ?_) rfl rfl (by kernel_rfl) (by kernel_rfl) (by kernel_rfl) (fun _ _ _ h => h) (Or.inl ⟨by rfl, ?_⟩) (by assumption) ?_
      rotate_left
      ·intro wS hSw; (try dsimp only at hSw); go_simp; (try (with_reducible rfl))
      simp only [Act.put, zA, zB, zC]
      refine takeH (i := 20) (d := some 30) (v := ?_) rfl rfl (by kernel_rfl) (by kernel_rfl) (by kernel_rfl) (fun _ _ _ h => h) (Or.inl ⟨by rfl, ?_⟩) (by assumption) ?_
      rotate_left
      ·intro wS hSw; (try dsimp only at hSw); go_simp; (try (with_reducible rfl))
      simp only [Act.put, zA, zB, zC]
      refine takeH (i := 21) (d := some 31) (v := ?_) rfl rfl (by kernel_rfl) (by kernel_rfl) (by kernel_rfl) (fun _ _ _ h => h) (Or.inl ⟨by rfl, ?_⟩) (by assumption) ?_
      rotate_left
      ·intro wS hSw; (try dsimp only at hSw); go_simp; (try (with_reducible rfl))
      simp only [Act.put, zA, zB, zC]
      refine takeH (i := 22) (d := some 32) (v := ?_) rfl rfl (by kernel_rfl) (by kernel_rfl) (by kernel_rfl) (fun _ _ _ h => h) (Or.inl ⟨by rfl, ?_⟩) (by assumption) ?_
      rotate_left
      ·intro wS hSw; (try dsimp only at hSw); go_simp; (try (with_reducible rfl))
      simp only [Act.put, zA, zB, zC]
      refine takeH (i := 23) (d := some 33) (v := ?_) rfl rfl (by kernel_rfl) (by kernel_rfl) (by kernel_rfl) (fun _ _ _ h => h) (Or.inl ⟨by rfl, ?_⟩) (by assumption) ?_
      rotate_left
      ·intro wS hSw; (try dsimp only at hSw); go_simp; (try (with_reducible rfl))
      simp only [Act.put, zA, zB, zC]
      refine wpAnyH_done (by kernel_rfl) ?_ _
      go_wp2_with fail
      go_ret
      refine ⟨false, rfl, ⟨(fun h => by cases h), fun h => ?_⟩, HBL.out.trans (HB4.out.undrew.mono HBL.out.size)⟩
      have h1 := ((HRI.out.1 h).1 i hlt).2 g0'
      have h2 := HUP.out
      rw [HPK.out, HQ.out] at h2
      exact absurd h1 h2
  ·have d9 : decide ((i : Int) < (L.length : Int)) = false := by rw [decide_eq_false_iff_not]; omega
   by_cases h4 : L.length ≤ 4096
   ·have d8 : decide ((L.length : Int) ≤ 4096) = true := by rw [decide_eq_true_eq]; omega
    go_wp2_with fail
    go_ret
    exact ⟨true, rfl, ⟨fun _ => HRI.out.2 ⟨fun j hj => HP.out j hj (by omega), h4⟩, fun _ => rfl⟩, HBL.out⟩
   ·have d8 : decide ((L.length : Int) ≤ 4096) = false := by rw [decide_eq_false_iff_not]; omega
    have H4 := Lib.hid h4
    go_wp2_with fail
    go_ret
    exact ⟨false, rfl, ⟨(fun h => by cases h), fun h => absurd (HRI.out.1 h).2 H4.out⟩, HBL.out⟩
end Go.Proofs.YtdbfaknpfepnfaaGreatDoor


namespace Go.Proofs.YtdbfaknpfepnfaaGreatDoor
open Go.RowKit CodecP

theorem findN_is {k : List UInt8} {L : List Pr} {i : Nat} (hi : i ≤ L.length) (h1 : ∀ j (hj : j < L.length), j < i → L[j].1 < k) (h2 : ∀ h : i < L.length, ¬ L[i].1 < k) : findN k L = i := by
 rcases Nat.lt_trichotomy (findN k L) i with h | h | h
 ·exact absurd (h1 _ (by omega) h) (findN_at k L (by omega))
 ·exact h
 ·exact absurd (findN_lt k L i h) (h2 (by have := findN_le k L; omega))
theorem find_any (v : Value) (L : List Pr) (key : ByteArray) (w : World) (h : PrsIn w v L) (hL : L.length ≤ 1000000) :
  Calls Tryz.prog 16 #[v, .string key] w fun e w' => e = .returned (.int .i64 (findN (bl key) L)) ∧ Below w.heap.size w w' := by
 have HC := Lib.hid (fun A n cap hv i hi => h.cells (A := A) (n := n) (cap := cap) hv (i := i) hi)
 obtain ⟨A, cap, hv, hs⟩ := h.ex
 subst hv
 have hcl := hs.le
 have hcm := hs.max
 unfold maxLen at hcm
 have HR := Lib.hid (Below.refl w.heap.size w)
 clear h hs
 obtain ⟨F, hF⟩ : ∃ F, F = findN (bl key) L := ⟨_, rfl⟩
 have HF := Lib.hid hF
 clear hF
 go_enter Tryz.func16, Tryz.ntmps16
 go_wp2_with fail
 go_loopg [5] L.length (fun g iv wr => ∃ i : Nat, i + g = L.length ∧ iv = .int .i64 i ∧ (∀ j (hj : j < L.length), j < i → L[j].1 < bl key) ∧ Below w.heap.size w wr)
 case atStart => exact ⟨0, by omega, rfl, fun j _ h => by omega, HR.out⟩
 case round =>
  obtain ⟨i, hig, rfl, hpre, hbl⟩ := hrel
  have HP := Lib.hid hpre
  have HBL := Lib.hid hbl
  clear hpre
  by_cases hlt : i < L.length
  ·have d9 : decide ((i : Int) < (L.length : Int)) = true := by rw [decide_eq_true_eq]; omega
   obtain ⟨bk, off, rfl, hc⟩ := HC.out _ _ _ rfl i hlt
   obtain ⟨d0, d1⟩ := hc wr hbl i hlt
   have hil : (i : Int) < (L.length : Int) := by omega
   have wi : IntKind.i64.wrap ((i : Int) + 1) = (i : Int) + 1 := IntWalk.i64_in _ (by omega)
   obtain ⟨q, hq⟩ : ∃ q, q = L[i] := ⟨_, rfl⟩
   rw [← hq] at d0 d1
   have HQ := Lib.hid hq
   clear hq hc hbl d1
   by_cases hl : q.1 < bl key
   ·have g1 : Op.bytesLess (str q.1).toList key.toList = true := by
     rw [bytesLess_eq, ByteArray.toList_eq, ByteArray.toList_eq]
     exact decide_eq_true (show bl (str q.1) < bl key by rw [bl_str]; exact hl)
    have HLT := Lib.hid hl
    clear hl
    go_wp2_with fail
    go_roundg (L.length - (i + 1))
    case measure => omega
    case rel =>
     refine ⟨i + 1, by omega, by go_num, fun j hj h1 => ?_, HBL.out⟩
     rcases Nat.lt_or_ge j i with h2 | h2
     ·exact HP.out j hj h2
     ·obtain rfl : j = i := by omega
      have := HLT.out
      rw [HQ.out] at this
      exact this
   ·have g1 : Op.bytesLess (str q.1).toList key.toList = false := by
     rw [bytesLess_eq, ByteArray.toList_eq, ByteArray.toList_eq]
     exact decide_eq_false (show ¬ bl (str q.1) < bl key by rw [bl_str]; exact hl)
    have HLT := Lib.hid hl
    clear hl
    go_wp2_with fail
    go_ret
    refine ⟨?_, HBL.out⟩
    rw [findN_is (by omega) HP.out (fun h => by have := HLT.out; rw [HQ.out] at this; exact this)]
    rfl
  ·have d9 : decide ((i : Int) < (L.length : Int)) = false := by rw [decide_eq_false_iff_not]; omega
   have HLT := Lib.hid hlt
   have hi : i = L.length := by omega
   have HI := Lib.hid hi
   clear hi
   go_wp2_with fail
   go_ret
   refine ⟨?_, HBL.out⟩
   rw [findN_is (by omega) HP.out (fun h => absurd h HLT.out)]
   rfl
end Go.Proofs.YtdbfaknpfepnfaaGreatDoor


