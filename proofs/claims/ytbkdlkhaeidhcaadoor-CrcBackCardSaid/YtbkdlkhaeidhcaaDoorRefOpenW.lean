/-
  The walk of the document's Open.
-/
import Derived.Test.YtbkdlkhaeidhcaaDoorAll2W
import Derived.Deep.RegionLaw
namespace Go.Proofs.YtbkdlkhaeidhcaaDoor
open Go.RowKit Go.Deep CrcP CodecP FrameP

theorem _root_.Go.RowKit.Below.undrew {B : Nat} {w w1 : World} (h : Below B w.drew w1) : Below B w w1 := ⟨h.os, h.tape, h.output, h.size, h.block⟩
set_option maxHeartbeats 2000000 in
theorem refOpen_any (s : ByteArray) (w : World) (hs : s.size ≤ 1099511627776) :
    Calls Tryd.prog 34 #[.string s] w fun e w' => e = .returned (opnV (opn (bl s))) ∧ Below w.heap.size w w' := by
  have hbel0 := Below.refl w.heap.size w
  by_cases h8 : s.size < 8
  · have ho : opn (bl s) = ([], 0, 1) := by unfold opn; rw [if_pos (by exact h8)]
    rw [ho]
    clear ho
    go_enter Tryd.func34, Tryd.ntmps34
    go_wp2
    go_ret3
    exact ⟨rfl, hbel0⟩
  · have RV := fun W => refValue_any (s.extract 0 4) W (by simp; omega)
    have RL := fun W => refLaid_any (s.extract 0 4) W (small _ (by simp; omega))
    rw [bl_take] at RV RL
    have hvl : value ((bl s).take 4) < 4294967296 := value_lt4 _ (by rw [List.length_take]; omega)
    have hc1 := ne_str (str (laid ((bl s).take 4))) (s.extract 4 8)
    rw [bl_str, ext_bl] at hc1
    have hO1 : laid ((bl s).take 4) ≠ ((bl s).drop 4).take (8 - 4) → opn (bl s) = ([], 0, 2) := fun h => by
      unfold opn; rw [if_neg (show ¬ (bl s).length < 8 from h8), if_pos (.inl h)]
    have hO2 : 131072 < value ((bl s).take 4) → opn (bl s) = ([], 0, 2) := fun h => by
      unfold opn; rw [if_neg (show ¬ (bl s).length < 8 from h8), if_pos (.inr h)]
    have hO3 : laid ((bl s).take 4) = ((bl s).drop 4).take (8 - 4) → ¬ 131072 < value ((bl s).take 4) → s.size < 12 + value ((bl s).take 4) → opn (bl s) = ([], 0, 1) := fun h1 h2 h3 => by
      unfold opn; rw [if_neg (show ¬ (bl s).length < 8 from h8), if_neg (by rintro (h | h); exact h h1; exact h2 h), if_pos (show (bl s).length < _ from h3)]
    have hO4 : laid ((bl s).take 4) = ((bl s).drop 4).take (8 - 4) → ¬ 131072 < value ((bl s).take 4) → ¬ s.size < 12 + value ((bl s).take 4) → (opn (bl s) = if laid (((bl s).drop 8).take (value ((bl s).take 4))) ≠ ((bl s).drop (8 + value ((bl s).take 4))).take 4 then ([], 0, 2) else (((bl s).drop 8).take (value ((bl s).take 4)), 12 + value ((bl s).take 4), 0)) := fun h1 h2 h3 => by
      unfold opn; rw [if_neg (show ¬ (bl s).length < 8 from h8), if_neg (by rintro (h | h); exact h h1; exact h2 h), if_neg (show ¬ (bl s).length < _ from h3)]
    have hO5 := frame_cut (bl s) (value ((bl s).take 4))
    generalize hn : value ((bl s).take 4) = n at *
    have HNn := Lib.hid hn
    generalize laid ((bl s).take 4) = La at *
    generalize ((bl s).drop 4).take (8 - 4) = Qa at *
    generalize opn (bl s) = O at *
    have HRL := Lib.hid RL
    have HC1 := Lib.hid hc1
    have H1 := Lib.hid hO1
    have H2 := Lib.hid hO2
    have H3 := Lib.hid hO3
    have H4 := Lib.hid hO4
    have H5 := Lib.hid hO5
    clear RL hc1 hO1 hO2 hO3 hO4 hO5 hn
    go_enter Tryd.func34, Tryd.ntmps34
    go_wp2_with fail
    refine (RV _).mono ?_
    rintro e w1 ⟨rfl, rfl⟩
    clear RV
    by_cases hq : La = Qa
    · have q1 : ((str La).toList == (s.extract 4 8).toList) = true := by rw [HC1.out]; simp [hq]
      have q2 : ((str La).toList != (s.extract 4 8).toList) = false := by rw [bne, q1]; rfl
      clear HC1 H1
      by_cases hn2 : 131072 < n
      · have HO := Lib.hid (H2.out hn2)
        clear H2 H3 H4 H5 hq
        go_wp2_with fail
        go_region_with (go_at_call 28; refine (HRL.out _).mono ?_; rintro e w1 ⟨rfl, hb1⟩)
        go_wp2
        go_ret3
        exact ⟨by rw [HO.out]; rfl, hb1.undrew⟩
      · by_cases hn3 : s.size < 12 + n
        · have HO := Lib.hid (H3.out hq hn2 hn3)
          clear H2 H3 H4 H5 hq
          go_wp2_with fail
          go_region_with (go_at_call 28; refine (HRL.out _).mono ?_; rintro e w1 ⟨rfl, hb1⟩)
          go_wp2
          go_ret3
          exact ⟨by rw [HO.out]; rfl, hb1.undrew⟩
        · have ho := H4.out hq hn2 hn3
          have h5 := H5.out (show 12 + n ≤ s.size by omega) trivial hq
          have e8 : bl (s.extract 8 (8 + n)) = ((bl s).drop 8).take n := by rw [ext_bl]; congr 1; omega
          have RF := fun W => refFrame_any (s.extract 8 (8 + n)) W (by simp; omega)
          rw [e8] at RF
          have hc2 := ne_str (str (frame (((bl s).drop 8).take n))) (s.extract 0 (12 + n))
          rw [bl_str, bl_take, h5] at hc2
          have hsd : s.extract 8 (8 + n) = str (((bl s).drop 8).take n) := by rw [← e8, str_bl]
          have HSD := Lib.hid hsd
          have hle : 12 + n ≤ s.size := by omega
          have HRF := Lib.hid RF
          have HC2 := Lib.hid hc2
          have HO := Lib.hid ho
          clear H2 H3 H4 H5 hsd h5 e8 RF hc2 ho hq
          generalize frame (((bl s).drop 8).take n) = Fb at *
          by_cases hlast : laid (((bl s).drop 8).take n) = ((bl s).drop (8 + n)).take 4
          · have r1 : ((str Fb).toList == (s.extract 0 (12 + n)).toList) = true := by rw [HC2.out]; simp [hlast]
            have r2 : ((str Fb).toList != (s.extract 0 (12 + n)).toList) = false := by rw [bne, r1]; rfl
            have ho := HO.out
            rw [if_neg (by simp [hlast])] at ho
            have HO' := Lib.hid ho
            clear HO HC2 hlast ho
            have gA : IntKind.i64.wrap (8 + (n : Int)) = ((8 + n : Nat) : Int) := by rw [show (8 : Int) + (n : Int) = ((8 + n : Nat) : Int) by omega]; exact IntWalk.i64_in _ (by omega)
            have gB : IntKind.i64.wrap (12 + (n : Int)) = ((12 + n : Nat) : Int) := by rw [show (12 : Int) + (n : Int) = ((12 + n : Nat) : Int) by omega]; exact IntWalk.i64_in _ (by omega)
            have gC : ((8 + n : Nat) : Int) ≤ (s.size : Int) := by omega
            have gD : ((12 + n : Nat) : Int) ≤ (s.size : Int) := by omega
            have gE : (8 : Int) ≤ ((8 + n : Nat) : Int) := by omega
            have gF : (0 : Int) ≤ ((8 + n : Nat) : Int) := by omega
            have gG : (0 : Int) ≤ ((12 + n : Nat) : Int) := by omega
            go_wp2_with fail
            go_region_with (go_at_call 28; refine (HRL.out _).mono ?_; rintro e w1 ⟨rfl, hb1⟩)
            go_wp2_with fail
            go_region_with (go_at_call 31; refine (HRF.out _).mono ?_; rintro e w2 ⟨rfl, hb2⟩)
            all_goals
              go_wp2
              all_goals
                go_ret3
                refine ⟨?_, hb1.undrew.trans (Below.mono hb2.undrew hb1.undrew.size)⟩
                rw [HO'.out, HSD.out]; rfl
          · have r1 : ((str Fb).toList == (s.extract 0 (12 + n)).toList) = false := by rw [HC2.out]; simp [hlast]
            have r2 : ((str Fb).toList != (s.extract 0 (12 + n)).toList) = true := by rw [bne, r1]; rfl
            have ho := HO.out
            rw [if_pos hlast] at ho
            have HO' := Lib.hid ho
            clear HO HC2 hlast ho
            have gA : IntKind.i64.wrap (8 + (n : Int)) = ((8 + n : Nat) : Int) := by rw [show (8 : Int) + (n : Int) = ((8 + n : Nat) : Int) by omega]; exact IntWalk.i64_in _ (by omega)
            have gB : IntKind.i64.wrap (12 + (n : Int)) = ((12 + n : Nat) : Int) := by rw [show (12 : Int) + (n : Int) = ((12 + n : Nat) : Int) by omega]; exact IntWalk.i64_in _ (by omega)
            have gC : ((8 + n : Nat) : Int) ≤ (s.size : Int) := by omega
            have gD : ((12 + n : Nat) : Int) ≤ (s.size : Int) := by omega
            have gE : (8 : Int) ≤ ((8 + n : Nat) : Int) := by omega
            have gF : (0 : Int) ≤ ((8 + n : Nat) : Int) := by omega
            have gG : (0 : Int) ≤ ((12 + n : Nat) : Int) := by omega
            go_wp2_with fail
            go_region_with (go_at_call 28; refine (HRL.out _).mono ?_; rintro e w1 ⟨rfl, hb1⟩)
            go_wp2_with fail
            go_region_with (go_at_call 31; refine (HRF.out _).mono ?_; rintro e w2 ⟨rfl, hb2⟩)
            all_goals
              go_wp2
              all_goals
                go_ret3
                refine ⟨?_, hb1.undrew.trans (Below.mono hb2.undrew hb1.undrew.size)⟩
                rw [HO'.out]; rfl
    · have q1 : ((str La).toList == (s.extract 4 8).toList) = false := by rw [HC1.out]; simp [hq]
      have q2 : ((str La).toList != (s.extract 4 8).toList) = true := by rw [bne, q1]; rfl
      have HO := Lib.hid (H1.out hq)
      clear HC1 H1 H2 H3 H4 H5 hq
      have g4 : (4 : Int) ≤ (s.size : Int) := by omega
      have g8 : (8 : Int) ≤ (s.size : Int) := by omega
      go_wp2_with fail
      first | go_region_with (go_at_call 28; refine (HRL.out _).mono ?_; rintro e w1 ⟨rfl, hb1⟩) | fail
      go_wp2
      go_ret3
      exact ⟨by rw [HO.out]; rfl, hb1.undrew⟩
end Go.Proofs.YtbkdlkhaeidhcaaDoor
