/-
  The walk of the law CodecLists.
-/
import Derived.Test.YtbdocgnhoomhcaaLists3W
namespace Go.Proofs.Ytbdocgnhoomhcaa
open Go.RowKit CodecP

theorem Own.other {w0 w w' : World} {B B2 : Nat} {g g2 : Option Nat} {l m : List UInt8} (h : Own w0 w B g l) (hb : WrBy w w' B2 0 #[undef] 26 g2 m) (h2 : w0.heap.size ≤ B2) (h3 : ∀ k, g2 = some k → w0.heap.size ≤ k)
    (h4 : B ≠ B2) (h5 : g ≠ some B2) (h6 : g2 ≠ some B) (h7 : ∀ k, g = some k → g2 ≠ some k) : Own w0 w' B g l := by
  refine ⟨h.wr.keep hb.fr (fun k hk hs => ?_), h.below.trans (hb.fr.below h.below.size (fun k _ hk => ?_)), h.base, h.row⟩
  · rcases hk with rfl | hk
    · rcases hs with hs | hs
      · exact h4 hs
      · exact h6 hs
    · rcases hs with rfl | hs
      · exact h5 hk
      · exact h7 k hk hs
  · rcases hk with rfl | hk
    · exact h2
    · exact h3 k hk
theorem Own.step' {w0 w w' : World} {B : Nat} {g : Option Nat} {l m : List UInt8} (h : Own w0 w B g l) (hb : WrBy w w' B 0 #[undef] 26 g m) : ∃ g', Own w0 w' B g' m ∧ (g' = g ∨ ∃ k, g' = some k ∧ w.heap.size ≤ k) := by
  obtain ⟨⟨g', hg', hw⟩, hf⟩ := hb
  have hbel : Below w0.heap.size w w' := hf.below h.below.size (fun k _ hk => by
    rcases hk with rfl | hk
    · exact h.base
    · exact h.row k hk)
  refine ⟨g', ⟨hw, h.below.trans hbel, h.base, fun k hk => ?_⟩, hg'⟩
  rcases hg' with rfl | ⟨j, rfl, hj⟩
  · exact h.row k hk
  · injection hk with hk; have := h.below.size; omega
theorem Sl.lt {w : World} {v : Value} {xs : List Value} (h : Sl w v xs) (hx : xs ≠ []) : ∀ k, v.ownBlock = some k → k < w.heap.size := by
  obtain ⟨ao, cap, rfl, h1, h2, h3⟩ := h
  obtain ⟨b, off, rfl, hb, _⟩ := h3 hx
  intro k hk
  have : b = k := by simpa [Value.ownBlock] using hk
  omega
theorem Sl.empty {w w' : World} {v : Value} (h : Sl w v []) : Sl w' v [] := by
  obtain ⟨ao, cap, rfl, h1, h2, _⟩ := h
  exact ⟨ao, cap, rfl, h1, h2, fun h => absurd rfl h⟩
set_option maxRecDepth 100000 in
set_option maxHeartbeats 4000000 in
theorem codecLists_main (v1 v2 : Value) (ks : List ByteArray) (ms : List Int) (most : Int) (w : World) (h1 : Sl w v1 (ks.map Value.string)) (h2 : Sl w v2 (ms.map (Value.int .i64))) (hs : ∀ k ∈ ks, k.size ≤ maxLen) (hr : ∀ n ∈ ms, -9223372036854775808 ≤ n ∧ n < 9223372036854775808)
    (hg : greatB ks = false) (hm : ms.length ≤ 100) :
    Calls Try.prog 7 #[v1, v2, .int .i64 most] w fun e w' => e = .returned (.bool true) ∧ Below w.heap.size w w' := by
  obtain ⟨hkl, hks⟩ := greatB_no hg
  have hl1 := tx_len ks hks
  have hl2 := gz_len ms
  have hsl1 := h1.len
  have hsl2 := h2.len
  rw [List.length_map] at hsl1 hsl2
  unfold maxLen at hsl1 hsl2
  have G := great_any v1 ks w h1 hs
  rw [hg] at G
  have O1 : Own w (w.alloc (.cells #[.slice none 0 0] 26)) w.heap.size none [] := Own.new (Below.refl _ _)
  have O2 : Own w ((w.alloc (.cells #[.slice none 0 0] 26)).alloc (.cells #[.slice none 0 0] 26)) (w.heap.size + 1) none [] := by
    have := Own.new (w0 := w) O1.below
    rwa [show (w.alloc (.cells #[.slice none 0 0] 26)).heap.size = w.heap.size + 1 by simp] at this
  have O1' : Own w ((w.alloc (.cells #[.slice none 0 0] 26)).alloc (.cells #[.slice none 0 0] 26)) w.heap.size none [] := O1.keep ((Below.refl _ _).alloc (Nat.le_refl _) _)
  have P1 := fun W (hW : Own w W w.heap.size none []) => putTexts_any w.heap.size 0 #[undef] 26 none [] v1 ks W hW.wr (h1.below hW.below) (fun hne k hk hs => by have := h1.lt (by simpa using hne) k hk; rcases hs with hs | hs; omega; cases hs) (by rw [List.length_nil]; omega)
  have P2 := fun W (hW : Own w W (w.heap.size + 1) none []) => putInts_any (w.heap.size + 1) 0 #[undef] 26 none [] v2 ms W hW.wr (h2.below hW.below) (fun hne k hk hs => by have := h2.lt (by simpa using hne) k hk; rcases hs with hs | hs; omega; cases hs) hr (by rw [List.length_nil]; omega)
  have R1 := fun W (hW : Below w.heap.size w W) => refTexts_any v1 ks W (h1.below hW) (by omega)
  have R2 := fun W (hW : Below w.heap.size w W) => refInts_any v2 ms W (h2.below hW) hr (by omega)
  have e1 := getR_tx ks most (by omega) (fun k hk => by have := hks k hk; omega)
  have e2 := getR_gz ms most (by omega) hr
  have z1 : (str (enc (ks.map tx))).size ≤ 1000000 := by rw [str_size]; omega
  have z2 : (str (enc (ms.map gz))).size ≤ 1000000 := by rw [str_size]; omega
  clear hl1 hl2 hg O1
  have HG := Lib.hid G
  have HO2 := Lib.hid O2
  have HO1' := Lib.hid O1'
  have HP1 := Lib.hid P1
  have HP2 := Lib.hid P2
  have HR1 := Lib.hid R1
  have HR2 := Lib.hid R2
  have He1 := Lib.hid e1
  have He2 := Lib.hid e2
  have Hhr := Lib.hid hr
  have Hhs := Lib.hid hs
  have Hhks := Lib.hid hks
  have Hh1 := Lib.hid h1
  have Hh2 := Lib.hid h2
  clear G O2 O1' P1 P2 R1 R2 e1 e2 hr hs hks h1 h2
  generalize hE1 : enc (ks.map tx) = E1 at *
  generalize hE2 : enc (ms.map gz) = E2 at *
  have HE1 := Lib.hid hE1
  have HE2 := Lib.hid hE2
  clear hE1 hE2
  obtain ⟨a1, c1, q1, -⟩ := Hh1.out
  obtain ⟨a2, c2, q2, -⟩ := Hh2.out
  rw [List.length_map] at q1 q2
  subst q1 q2
  go_enter Try.func7, Try.ntmps7
  go_wp2_with fail
  (with_reducible refine (HG.out).mono ?_)
  rintro e w1 ⟨rfl, rfl⟩
  go_wp2_with fail
  (with_reducible refine (HP1.out _ HO1'.out).mono ?_)
  rintro e w1 ⟨rfl, hby⟩
  obtain ⟨g1, S1, hg1⟩ := HO1'.out.step' hby
  have S2 := HO2.out.other hby (Nat.le_refl _) (fun k h => by cases h) (by omega) (by simp) (by simp) (by simp)
  rw [List.nil_append] at S1
  have HS1 := Lib.hid S1
  have HS2 := Lib.hid S2
  have HG1 := Lib.hid (show g1 ≠ some (w.heap.size + 1) by
    rcases hg1 with rfl | ⟨k, rfl, hk⟩
    · simp
    · simp at hk ⊢; omega)
  clear hby S1 S2 hg1
  go_wp2_with fail
  (with_reducible refine (HP2.out _ HS2.out).mono ?_)
  rintro e w2 ⟨rfl, hby⟩
  obtain ⟨g2, S2, -⟩ := HS2.out.step' hby
  have S1 := HS1.out.other hby (by omega) (fun k h => by cases h) (by omega) HG1.out (by simp) (by simp)
  rw [List.nil_append] at S2
  have HT1 := Lib.hid S1
  have HT2 := Lib.hid S2
  clear hby S1 S2
  have B1 : Hid (Calls Try.prog 13 #[.pointer (some ⟨w.heap.size, 0, none⟩)] w2 fun e w' => e = .returned (.string (str E1)) ∧ w2 = w') := Lib.hid (bytes_any w.heap.size 0 _ _ _ _ _ HT1.out.wr)
  go_wp2_with fail
  (with_reducible refine (B1.out).mono ?_)
  rintro e w3 ⟨rfl, rfl⟩
  go_wp2_with fail
  (with_reducible refine (HR1.out _ HT1.out.below).mono ?_)
  rintro e w3 ⟨rfl, hb3⟩
  have HB3 := Lib.hid (HT1.out.below.trans (hb3.mono HT1.out.below.size))
  have HU1 := Lib.hid (HT1.out.keep hb3)
  have HU2 := Lib.hid (HT2.out.keep hb3)
  clear hb3
  have B2 : Hid (Calls Try.prog 13 #[.pointer (some ⟨w.heap.size + 1, 0, none⟩)] w3 fun e w' => e = .returned (.string (str E2)) ∧ w3 = w') := Lib.hid (bytes_any (w.heap.size + 1) 0 _ _ _ _ _ HU2.out.wr)
  go_wp2_with fail
  (with_reducible refine (B2.out).mono ?_)
  rintro e w4 ⟨rfl, rfl⟩
  go_wp2_with fail
  (with_reducible refine (HR2.out _ HB3.out).mono ?_)
  rintro e w4 ⟨rfl, hb4⟩
  have HB4 := Lib.hid (HB3.out.trans (hb4.mono HB3.out.size))
  have HV1 := Lib.hid (HU1.out.keep hb4)
  have HV2 := Lib.hid (HU2.out.keep hb4)
  clear hb4
  have B1 : Hid (Calls Try.prog 13 #[.pointer (some ⟨w.heap.size, 0, none⟩)] w4 fun e w' => e = .returned (.string (str E1)) ∧ w4 = w') := Lib.hid (bytes_any w.heap.size 0 _ _ _ _ _ HV1.out.wr)
  go_wp2_with fail
  (with_reducible refine (B1.out).mono ?_)
  rintro e w5 ⟨rfl, rfl⟩
  go_wp2_with fail
  (with_reducible refine (read_any (str E1) _ (size_le _ (by omega))).mono ?_)
  rintro e w5 ⟨rfl, h5, hb5⟩
  have R0 := ROwn.new HB4.out h5 hb5 (Nat.le_refl _)
  have HW2 := Lib.hid (HV2.out.keep hb5)
  have hp0 : w.heap.size ≤ w4.heap.size := HB4.out.size
  generalize w4.heap.size = p at *
  have HR0 := Lib.hid R0
  clear R0 h5 hb5
  have B2 : Hid (Calls Try.prog 13 #[.pointer (some ⟨w.heap.size + 1, 0, none⟩)] w5 fun e w' => e = .returned (.string (str E2)) ∧ w5 = w') := Lib.hid (bytes_any (w.heap.size + 1) 0 _ _ _ _ _ HW2.out.wr)
  go_wp2_with fail
  (with_reducible refine (B2.out).mono ?_)
  rintro e w6 ⟨rfl, rfl⟩
  go_wp2_with fail
  (with_reducible refine (read_any (str E2) _ (size_le _ (by omega))).mono ?_)
  rintro e w6 ⟨rfl, h6, hb6⟩
  have Q0 := ROwn.new HR0.out.below h6 hb6 (Nat.le_refl _)
  have hpq : p < w5.heap.size := HR0.out.lt
  have R1 := HR0.out.keep hb6
  generalize w5.heap.size = q at *
  have HQ0 := Lib.hid Q0
  have HR1 := Lib.hid R1
  rw [bl_str] at HQ0 HR1
  clear Q0 R1 h6 hb6 B1 B2
  go_wp2_with fail
  refine (getTexts_any p (str E1) false most _ HR1.out.some z1).mono ?_
  rintro e w7 hget
  rw [He1.out] at hget
  have hge : ∃ v, e = .returned v := by
    obtain ⟨_, h2⟩ := hget
    split at h2
    · exact ⟨_, h2.1⟩
    · obtain ⟨_, v, h3, _⟩ := h2; exact ⟨v, h3⟩
  obtain ⟨va, rfl⟩ := hge
  have hto : RdTo w6 w7 p (if most < (ks.length : Int) then none else some []) := by
    obtain ⟨hf, h2⟩ := hget
    by_cases hc : most < (ks.length : Int)
    · rw [if_pos hc] at h2 ⊢
      obtain ⟨_, s2, h3⟩ := h2
      exact ⟨s2, true, h3, rfl, hf⟩
    · rw [if_neg hc] at h2 ⊢
      exact ⟨str [], false, h2.1, rfl, hf⟩
  have ha : (most < (ks.length : Int) → va = .slice none 0 0) ∧ (¬ most < (ks.length : Int) → Sl w7 va (ks.map Value.string) ∧ ∀ k, va.ownBlock = some k → w6.heap.size ≤ k) := by
    obtain ⟨hf, h2⟩ := hget
    refine ⟨fun hc => ?_, fun hc => ?_⟩
    · rw [if_pos hc] at h2
      have := h2.1
      injection this
    · rw [if_neg hc] at h2
      obtain ⟨_, v, h3, h4⟩ := h2
      injection h3 with h3
      subst h3
      rw [List.map_map] at h4
      have h5 : ((fun d => Value.string (str d)) ∘ bl) = Value.string := by funext k; simp [str_bl]
      rw [h5] at h4
      exact ⟨Sl.own h4, fun k hk => (h4.lt k hk).1⟩
  have HRa := Lib.hid (HR1.out.step hto)
  have HQa := Lib.hid (HQ0.out.other HR1.out.base hto (by omega))
  have HA := Lib.hid ha
  have hq6 := HQ0.out.lt
  have hp6 := HR1.out.lt
  clear hget hto ha
  go_wp2_with fail
  refine (getInts_any q (str E2) false most _ HQa.out.some z2).mono ?_
  rintro e w8 hget
  rw [He2.out] at hget
  have hge : ∃ v, e = .returned v := by
    obtain ⟨_, h2⟩ := hget
    split at h2
    · exact ⟨_, h2.1⟩
    · obtain ⟨_, v, h3, _⟩ := h2; exact ⟨v, h3⟩
  obtain ⟨vb, rfl⟩ := hge
  have hto : RdTo w7 w8 q (if most < (ms.length : Int) then none else some []) := by
    obtain ⟨hf, h2⟩ := hget
    by_cases hc : most < (ms.length : Int)
    · rw [if_pos hc] at h2 ⊢
      obtain ⟨_, s2, h3⟩ := h2
      exact ⟨s2, true, h3, rfl, hf⟩
    · rw [if_neg hc] at h2 ⊢
      exact ⟨str [], false, h2.1, rfl, hf⟩
  have hb : (most < (ms.length : Int) → vb = .slice none 0 0) ∧ (¬ most < (ms.length : Int) → Sl w8 vb (ms.map (Value.int .i64))) := by
    obtain ⟨hf, h2⟩ := hget
    refine ⟨fun hc => ?_, fun hc => ?_⟩
    · rw [if_pos hc] at h2
      have := h2.1
      injection this
    · rw [if_neg hc] at h2
      obtain ⟨_, v, h3, h4⟩ := h2
      injection h3 with h3
      subst h3
      exact Sl.own h4
  have ha8 : ¬ most < (ks.length : Int) → Sl w8 va (ks.map Value.string) := fun hc => by
    obtain ⟨_, _, _, _, hf⟩ := hto
    exact ((HA.out.2 (by omega)).1).keep hf (fun k hk hs => by have := (HA.out.2 (by omega)).2 k hk; unfold RdS at hs; omega)
  have HRb := Lib.hid (HRa.out.other HQa.out.base hto (by omega))
  have HQb := Lib.hid (HQa.out.step hto)
  have HB := Lib.hid hb
  have HA8 := Lib.hid ha8
  have HT := Lib.hid (show decide (ks = ks) = true by simp)
  have HM := Lib.hid (show decide (ms = ms) = true by simp)
  clear hget hto hb ha8
  have HW := Lib.hid (Below.refl w8.heap.size w8)
  by_cases hc1 : most < (ks.length : Int)
  · have t1 : decide ((ks.length : Int) ≤ most) = false := by rw [decide_eq_false_iff_not]; omega
    have t2 : decide (most < (ks.length : Int)) = true := by rw [decide_eq_true_eq]; omega
    have hva := HA.out.1 hc1
    have HRc := HRb.out
    rw [if_pos hc1] at HRc
    obtain ⟨sx, hx⟩ := HRc.none
    have HX := Lib.hid hx
    subst hva
    clear HRc hx
    go_wp2_with fail
    (with_reducible refine (good_any p sx true _ HX.out).mono ?_)
    rintro e w9 ⟨rfl, rfl⟩
    by_cases hc2 : most < (ms.length : Int)
    · have u1 : decide ((ms.length : Int) ≤ most) = false := by rw [decide_eq_false_iff_not]; omega
      have u2 : decide (most < (ms.length : Int)) = true := by rw [decide_eq_true_eq]; omega
      have hvb := HB.out.1 hc2
      have HQc := HQb.out.keep HW.out
      rw [if_pos hc2] at HQc
      have HBEL := Lib.hid HQc.below
      obtain ⟨sy, hy⟩ := HQc.none
      have HY := Lib.hid hy
      subst hvb
      clear HQc hy
      go_wp2_with fail
      (with_reducible refine (good_any q sy true _ HY.out).mono ?_)
      rintro e w11 ⟨rfl, rfl⟩
      go_wp2_with fail
      (with_reducible refine (codecAwake_any _).mono ?_)
      rintro e w12 ⟨rfl, hb12⟩
      go_wp2
      go_ret
      exact ⟨rfl, HBEL.out.trans (hb12.mono HBEL.out.size)⟩
    · have u1 : decide ((ms.length : Int) ≤ most) = true := by rw [decide_eq_true_eq]; omega
      have u2 : decide (most < (ms.length : Int)) = false := by rw [decide_eq_false_iff_not]; omega
      have HQc := HQb.out.keep HW.out
      rw [if_neg hc2] at HQc
      have HY := Lib.hid HQc
      have HSB := Lib.hid (sameInts_any vb _ ms ms _ ((HB.out.2 (by omega)).below HW.out) (Hh2.out.below HQc.below))
      clear HQc
      go_wp2_with fail
      (with_reducible refine (HSB.out).mono ?_)
      rintro e w11 ⟨rfl, hb11⟩
      rw [HM.out]
      have HYY := Lib.hid (HY.out.keep hb11)
      clear hb11
      go_wp2_with fail
      (with_reducible refine (end_any q (str []) false _ HYY.out.some).mono ?_)
      rintro e w12 ⟨rfl, rfl⟩
      have HBEL := Lib.hid HYY.out.below
      go_wp2_with fail
      (with_reducible refine (codecAwake_any _).mono ?_)
      rintro e w13 ⟨rfl, hb12⟩
      go_wp2
      go_ret
      exact ⟨rfl, HBEL.out.trans (hb12.mono HBEL.out.size)⟩
  · have t1 : decide ((ks.length : Int) ≤ most) = true := by rw [decide_eq_true_eq]; omega
    have t2 : decide (most < (ks.length : Int)) = false := by rw [decide_eq_false_iff_not]; omega
    have HRc := HRb.out
    rw [if_neg hc1] at HRc
    have HX := Lib.hid HRc
    have HSA := Lib.hid (same_any va _ ks ks w8 (HA8.out hc1) (Hh1.out.below HRc.below))
    clear HRc
    go_wp2_with fail
    (with_reducible refine (HSA.out).mono ?_)
    rintro e w9 ⟨rfl, hb9⟩
    rw [HT.out]
    have HW := Lib.hid hb9
    have HXX := Lib.hid (HX.out.keep hb9)
    clear hb9
    go_wp2_with fail
    (with_reducible refine (end_any p (str []) false _ HXX.out.some).mono ?_)
    rintro e w10 ⟨rfl, rfl⟩
    by_cases hc2 : most < (ms.length : Int)
    · have u1 : decide ((ms.length : Int) ≤ most) = false := by rw [decide_eq_false_iff_not]; omega
      have u2 : decide (most < (ms.length : Int)) = true := by rw [decide_eq_true_eq]; omega
      have hvb := HB.out.1 hc2
      have HQc := HQb.out.keep HW.out
      rw [if_pos hc2] at HQc
      have HBEL := Lib.hid HQc.below
      obtain ⟨sy, hy⟩ := HQc.none
      have HY := Lib.hid hy
      subst hvb
      clear HQc hy
      go_wp2_with fail
      (with_reducible refine (good_any q sy true _ HY.out).mono ?_)
      rintro e w11 ⟨rfl, rfl⟩
      go_wp2_with fail
      (with_reducible refine (codecAwake_any _).mono ?_)
      rintro e w12 ⟨rfl, hb12⟩
      go_wp2
      go_ret
      exact ⟨rfl, HBEL.out.trans (hb12.mono HBEL.out.size)⟩
    · have u1 : decide ((ms.length : Int) ≤ most) = true := by rw [decide_eq_true_eq]; omega
      have u2 : decide (most < (ms.length : Int)) = false := by rw [decide_eq_false_iff_not]; omega
      have HQc := HQb.out.keep HW.out
      rw [if_neg hc2] at HQc
      have HY := Lib.hid HQc
      have HSB := Lib.hid (sameInts_any vb _ ms ms _ ((HB.out.2 (by omega)).below HW.out) (Hh2.out.below HQc.below))
      clear HQc
      go_wp2_with fail
      (with_reducible refine (HSB.out).mono ?_)
      rintro e w11 ⟨rfl, hb11⟩
      rw [HM.out]
      have HYY := Lib.hid (HY.out.keep hb11)
      clear hb11
      go_wp2_with fail
      (with_reducible refine (end_any q (str []) false _ HYY.out.some).mono ?_)
      rintro e w12 ⟨rfl, rfl⟩
      have HBEL := Lib.hid HYY.out.below
      go_wp2_with fail
      (with_reducible refine (codecAwake_any _).mono ?_)
      rintro e w13 ⟨rfl, hb12⟩
      go_wp2
      go_ret
      exact ⟨rfl, HBEL.out.trans (hb12.mono HBEL.out.size)⟩
theorem codecLists_law (v1 v2 : Value) (ks : List ByteArray) (ms : List Int) (most : Int) (w : World) (h1 : Sl w v1 (ks.map Value.string)) (hs : ∀ k ∈ ks, k.size ≤ maxLen) (h2 : Sl w v2 (ms.map (Value.int .i64))) (hr : ∀ n ∈ ms, -9223372036854775808 ≤ n ∧ n < 9223372036854775808) :
    Calls Try.prog 7 #[v1, v2, .int .i64 most] w fun e w' => e = .returned (.bool true) ∧ Below w.heap.size w w' := by
  have G := great_any v1 ks w h1 hs
  have hsl2 := h2.len
  rw [List.length_map] at hsl2
  unfold maxLen at hsl2
  cases hg : greatB ks
  · by_cases hm : 100 < ms.length
    · rw [hg] at G
      obtain ⟨a2, c2, rfl, -⟩ := h2
      rw [List.length_map]
      have HG := Lib.hid G
      have Hhs := Lib.hid hs
      have Hhr := Lib.hid hr
      have Hhg := Lib.hid hg
      have Hh1 := Lib.hid h1
      clear G hs hr hg h1
      go_enter Try.func7, Try.ntmps7
      go_wp2_with fail
      (with_reducible refine (HG.out).mono ?_)
      rintro e w1 ⟨rfl, rfl⟩
      go_wp2_with fail
      (with_reducible refine (codecAwake_any _).mono ?_)
      rintro e w1 ⟨rfl, hb⟩
      go_wp2
      go_ret
      exact ⟨rfl, hb⟩
    · exact codecLists_main v1 v2 ks ms most w h1 h2 hs hr hg (by omega)
  · rw [hg] at G
    have HG := Lib.hid G
    have Hhs := Lib.hid hs
    have Hhr := Lib.hid hr
    have Hhg := Lib.hid hg
    have Hh1 := Lib.hid h1
    have Hh2 := Lib.hid h2
    clear G hs hr hg h1 h2
    go_enter Try.func7, Try.ntmps7
    go_wp2_with fail
    (with_reducible refine (HG.out).mono ?_)
    rintro e w1 ⟨rfl, rfl⟩
    go_wp2_with fail
    (with_reducible refine (codecAwake_any _).mono ?_)
    rintro e w1 ⟨rfl, hb⟩
    go_wp2
    go_ret
    exact ⟨rfl, hb⟩
end Go.Proofs.Ytbdocgnhoomhcaa
