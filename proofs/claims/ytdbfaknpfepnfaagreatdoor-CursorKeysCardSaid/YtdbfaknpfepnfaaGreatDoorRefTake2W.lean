
/-
  The walk of the document's Take.
-/
import Derived.Test.YtdbfaknpfepnfaaGreatDoorRefTakeW
import Derived.Deep.RegionWith
namespace Go.Proofs.YtdbfaknpfepnfaaGreatDoor
open Go.RowKit CodecP

theorem getD_bl (s : ByteArray) (i : Nat) (h : i < s.size) : (bl s).getD i 0 = s[i] := by
  have : i < (bl s).length := h
  rw [List.getD_eq_getElem?_getD, List.getElem?_eq_getElem this]
  rfl
theorem ne_str (a b : ByteArray) : (a.toList == b.toList) = decide (bl a = bl b) := by
  rw [ByteArray.toList_eq, ByteArray.toList_eq, Bool.eq_iff_iff]; simp [bl]
theorem lowv_drop (l : List UInt8) (k i : Nat) (hi : i < k) (hk : k ≤ l.length) : lowv ((l.take k).drop i) = (l.getD i 0).toNat % 128 + 128 * lowv ((l.take k).drop (i + 1)) := by
  have h : i < (l.take k).length := by rw [List.length_take]; omega
  rw [List.drop_eq_getElem_cons h, lowv]
  congr 3
  rw [List.getElem_take, List.getD_eq_getElem?_getD, List.getElem?_eq_getElem (by omega)]; rfl
set_option maxHeartbeats 1000000 in
theorem refTake_any (s : ByteArray) (w : World) (hs : s.size ≤ maxLen) :
    Calls Tryz.prog 139 #[.string s] w fun e w' => e = .returned (.tuple #[.int .u64 ((takeR (bl s)).1 : Nat), .int .i64 ((takeR (bl s)).2 : Nat)]) ∧ Below w.heap.size w w' := by
  unfold maxLen at hs
  have hbel0 := Below.refl w.heap.size w
  go_enter Tryz.func139, Tryz.ntmps139
  go_wp2
  go_loopw [4] (fun c wr => ∃ k : Nat, k ≤ 9 ∧ k ≤ s.size ∧ c = .int .i64 ((k : Int) + 1) ∧ (∀ j, j < k → 128 ≤ ((bl s).getD j 0).toNat) ∧ wr = w) (fun c _ => 10 - (intOf c).toNat)
  case atStart => exact ⟨0, by omega, by omega, rfl, fun j hj => by omega, rfl⟩
  case round =>
    obtain ⟨k, hk9, hks, rfl, hj, rfl⟩ := hrel
    have HJ := Lib.hid hj
    have g1 : (k : Int) + 1 ≤ 10 := by omega
    clear hj
    by_cases hlt : k < s.size
    · have g2 : (k : Int) + 1 ≤ (s.size : Int) := by omega
      have hgd := getD_bl s k hlt
      obtain ⟨x, hx⟩ : ∃ x, x = (s[k]).toNat := ⟨_, rfl⟩
      have hx' : ((s[k]).toNat : Int) = (x : Int) := by rw [hx]
      have HX := Lib.hid hx
      have HGD := Lib.hid hgd
      have hxl : x < 256 := by rw [hx]; exact (s[k]).toNat_lt
      clear hx hgd
      by_cases hc : 128 ≤ x ∧ k < 9
      · have q1 : decide ((128 : Int) ≤ (x : Int)) = true := by rw [decide_eq_true_eq]; omega
        have q2 : decide ((k : Int) + 1 < 10) = true := by rw [decide_eq_true_eq]; omega
        have hst : ∀ j, j < k + 1 → 128 ≤ ((bl s).getD j 0).toNat := fun j hj => by
          rcases Nat.lt_or_eq_of_le (Nat.le_of_lt_succ hj) with h | h
          · exact HJ.out j h
          · rw [h, HGD.out, ← HX.out]; exact hc.1
        have HST := Lib.hid hst
        have hk8 := hc.2
        clear hst hc
        go_wp2
        go_roundw
        case rel => exact ⟨k + 1, by omega, by omega, by push_cast; rfl, HST.out, by first | trivial | rfl⟩
        case measure => simp [intOf]; omega
      · have hta := takeR_at (bl s) k (by omega) hlt HJ.out (by rw [HGD.out, ← HX.out]; omega)
        have HTA := Lib.hid hta
        clear hta
        have hcase : (decide ((128 : Int) ≤ (x : Int)) = true ∧ decide ((k : Int) + 1 < 10) = false) ∨ (decide ((128 : Int) ≤ (x : Int)) = false ∧ True) := by
          by_cases hx128 : 128 ≤ x
          · exact .inl ⟨by rw [decide_eq_true_eq]; omega, by rw [decide_eq_false_iff_not]; omega⟩
          · exact .inr ⟨by rw [decide_eq_false_iff_not]; omega, trivial⟩
        clear hc
        have hdr0 : lowv (((bl s).take (k + 1)).drop (k + 1)) % 18446744073709551616 = 0 := by
          rw [List.drop_of_length_le (by rw [List.length_take]; omega)]; rfl
        have HDR0 := Lib.hid hdr0
        clear hdr0
        rcases hcase with ⟨q1, q2⟩ | ⟨q1, _⟩
        all_goals
          go_wp2
          go_loopw [5, 6] (fun n i wr2 => ∃ m : Nat, m ≤ k + 1 ∧ i = .int .i64 ((m : Int) - 1) ∧ n = .int .u64 ((lowv (((bl s).take (k + 1)).drop m) % 18446744073709551616 : Nat) : Int) ∧ wr2 = wr) (fun _ i _ => (intOf i + 1).toNat)
          case atStart => exact ⟨k + 1, by omega, by go_num, by rw [HDR0.out]; rfl, rfl⟩
          case round =>
            obtain ⟨m, hm, rfl, rfl, rfl⟩ := hrel
            by_cases hm0 : m = 0
            · subst hm0
              rw [List.drop_zero]
              have hN : lowv ((bl s).take (k + 1)) % 18446744073709551616 < 18446744073709551616 := Nat.mod_lt _ (by omega)
              have HG := Lib.hid (fun W => refGroups_any (lowv ((bl s).take (k + 1)) % 18446744073709551616) W hN)
              have hcmp := ne_str (str (grp (lowv ((bl s).take (k + 1)) % 18446744073709551616))) (s.extract 0 (k + 1))
              rw [bl_str, bl_take] at hcmp
              have HNN := Lib.hid hN
              clear hN
              generalize lowv ((bl s).take (k + 1)) % 18446744073709551616 = N at *
              have g3 : ((k + 1 : Nat) : Int) ≤ (s.size : Int) := by omega
              by_cases hg : grp N = (bl s).take (k + 1)
              · have hta := HTA.out
                rw [if_pos hg] at hta
                have HT := Lib.hid hta
                have r1 : ((str (grp N)).toList == (s.extract 0 (k + 1)).toList) = true := by rw [hcmp]; simp [hg]
                have r2 : ((str (grp N)).toList != (s.extract 0 (k + 1)).toList) = false := by rw [bne, r1]; rfl
                clear hg hcmp HTA hta
                generalize str (grp N) = GS at *
                go_wp2_with fail
                go_region_with (go_at_call 72; refine (HG.out _).mono ?_; rintro e w1 ⟨rfl, hb1⟩)
                all_goals
                  go_wp2
                  go_ret2
                  exact ⟨by rw [HT.out]; rfl, belB hb1⟩
              · have hta := HTA.out
                rw [if_neg hg] at hta
                have HT := Lib.hid hta
                have r1 : ((str (grp N)).toList == (s.extract 0 (k + 1)).toList) = false := by rw [hcmp]; simp [hg]
                have r2 : ((str (grp N)).toList != (s.extract 0 (k + 1)).toList) = true := by rw [bne, r1]; rfl
                clear hg hcmp HTA hta
                generalize str (grp N) = GS at *
                go_wp2_with fail
                go_region_with (go_at_call 72; refine (HG.out _).mono ?_; rintro e w1 ⟨rfl, hb1⟩)
                all_goals
                  go_wp2
                  go_ret2
                  exact ⟨by rw [HT.out]; rfl, belB hb1⟩
            · obtain ⟨i, rfl⟩ : ∃ i, m = i + 1 := ⟨m - 1, by omega⟩
              have hil : i < s.size := by omega
              have hld := lowv_drop (bl s) (k + 1) i (by omega) hlt
              rw [getD_bl s i hil] at hld
              obtain ⟨y, hy⟩ : ∃ y, y = (s[i]).toNat := ⟨_, rfl⟩
              have hy' : ((s[i]).toNat : Int) = (y : Int) := by rw [hy]
              have hyl : y < 256 := by rw [hy]; exact (s[i]).toNat_lt
              rw [← hy] at hld
              generalize lowv (((bl s).take (k + 1)).drop (i + 1)) = V at *
              have hnew : IntKind.u64.wrap (IntKind.u64.wrap (128 * ((V % 18446744073709551616 : Nat) : Int)) + ((y % 128 : Nat) : Int)) = ((lowv (((bl s).take (k + 1)).drop i) % 18446744073709551616 : Nat) : Int) := by
                rw [hld, IntKind.wrap_u64, IntKind.wrap_u64]; omega
              have HLD := Lib.hid hld
              have HNEW := Lib.hid hnew
              clear hld hnew hy
              have g4 : (0 : Int) ≤ (i : Int) := by omega
              have g5 : (i : Int) < (s.size : Int) := by omega
              go_wp2
              go_roundw
              case rel =>
                refine ⟨i, by omega, by go_num, ?_, by first | trivial | rfl⟩
                rw [← HNEW.out, show ((V % 18446744073709551616 : Nat) : Int) = (V : Int) % 18446744073709551616 by omega, show ((y % 128 : Nat) : Int) = (y : Int) % 128 by omega]
              case measure => simp [intOf]
    · obtain rfl : k = s.size := by omega
      have hto := takeR_out (bl s) HJ.out
      have HTO := Lib.hid hto
      have g2 : ¬ (s.size : Int) + 1 ≤ (s.size : Int) := by omega
      clear hto
      go_wp2
      go_ret2
      exact ⟨by rw [HTO.out]; rfl, hbel0⟩
end Go.Proofs.YtdbfaknpfepnfaaGreatDoor
