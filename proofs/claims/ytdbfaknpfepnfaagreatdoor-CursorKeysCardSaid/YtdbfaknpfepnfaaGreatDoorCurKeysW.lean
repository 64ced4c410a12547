
/-
  The walk of the law's right, and the law of inner keys.
-/
import Derived.Test.YtdbfaknpfepnfaaGreatDoorCurOrdP
import Derived.Test.YtdbfaknpfepnfaaGreatDoorCurAwakeW
namespace Go.Proofs.YtdbfaknpfepnfaaGreatDoor
open Go.RowKit CodecP Cur

theorem value8_any (s : ByteArray) (w : World) (hs : s.size ≤ 8) :
    Calls Tryz.prog 15 #[.string s] w fun e w' => e = .returned (.int .u64 (value (bl s) : Nat)) ∧ w = w' := by
  go_enter Tryz.func15, Tryz.ntmps15
  go_wp2
  go_loop [3, 4] (fun x c => ∃ k : Nat, k ≤ s.size ∧ c = .int .i64 k ∧ x = .int .u64 (value ((bl s).take k) : Nat)) (fun _ c => s.size - (intOf c).toNat)
  case atStart => exact ⟨0, by omega, rfl, rfl⟩
  case round =>
    obtain ⟨k, hk, rfl, rfl⟩ := hrel
    by_cases hlt : k < s.size
    · have hv := value_take (bl s) k hlt
      have hl := value_take_lt (bl s) k (by omega)
      rw [getD_bl s k hlt] at hv
      have hc := (s[k]).toNat_lt
      generalize value ((bl s).take k) = x at *
      have HV := Lib.hid hv
      clear hv
      go_wp2
      go_round
      case rel => exact ⟨k + 1, by omega, by go_num, by rw [HV.out]; go_num⟩
      case measure => simp [intOf]; omega
    · go_wp2
      go_ret
      exact ⟨ret_u64 (by rw [List.take_of_length_le (by show s.size ≤ k; omega)]), rfl⟩
/-- May a key and a number be? -/
theorem lawRight_any (k : ByteArray) (n : Int) (w : World) (hk : k.size ≤ maxLen) :
    Calls Tryz.prog 12 #[.string k, .int .i64 n] w fun e w' => e = .returned (.bool (decide (OkK (bl k) n))) ∧ w = w' := by
  unfold maxLen at hk
  have hbs := bl_size k
  by_cases hq : 1 ≤ k.size ∧ k.size ≤ 64 ∧ 0 ≤ n ∧ n ≤ 4611686018427387904
  · obtain ⟨h1, h2, h3, h4⟩ := hq
    have d1 : decide ((k.size : Int) < 1) = false := by rw [decide_eq_false_iff_not]; omega
    have d2 : decide ((64 : Int) < (k.size : Int)) = false := by rw [decide_eq_false_iff_not]; omega
    have d3 : decide (n < 0) = false := by rw [decide_eq_false_iff_not]; omega
    have d4 : decide (4611686018427387904 < n) = false := by rw [decide_eq_false_iff_not]; omega
    have hok : OkK (bl k) n ↔ (0 : UInt8) ∉ bl k := ⟨fun h => h.2.2.1, fun h => ⟨by omega, by omega, h, h3, h4⟩⟩
    have HOK := Lib.hid hok
    clear hok h3 h4
    go_enter Tryz.func12, Tryz.ntmps12
    go_wp2_with fail
    go_loopg [5] k.size (fun g iv wr => ∃ i : Nat, i + g = k.size ∧ iv = .int .i64 i ∧ (∀ j (hj : j < k.size), j < i → k[j] ≠ 0) ∧ wr = w)
    case atStart => exact ⟨0, by omega, rfl, fun j _ h => by omega, rfl⟩
    case round =>
      obtain ⟨i, hig, rfl, hpre, rfl⟩ := hrel
      have HP := Lib.hid hpre
      clear hpre
      by_cases hlt : i < k.size
      · have d9 : decide ((i : Int) < (k.size : Int)) = true := by rw [decide_eq_true_eq]; omega
        have hil : (i : Int) < (k.size : Int) := by omega
        have wi : IntKind.i64.wrap ((i : Int) + 1) = (i : Int) + 1 := IntWalk.i64_in _ (by omega)
        obtain ⟨c, hc⟩ : ∃ c, c = k[i] := ⟨_, rfl⟩
        by_cases hz : c = 0
        · have hcx : ∀ h, ((k[i]'h).toNat : Int) = 0 := fun h => by rw [← hc, hz]; rfl
          have HZ := Lib.hid (hc.symm.trans hz)
          clear hc hz
          go_wp2_with fail
          go_ret
          refine ⟨?_, rfl⟩
          rw [decide_eq_false (fun h => HOK.out.1 h (by rw [← HZ.out]; exact List.getElem_mem (l := bl k) (n := i) (by omega)))]
          rfl
        · have hcn : ¬ c.toNat = 0 := fun h => hz (by apply UInt8.toNat_inj.1; rw [h]; rfl)
          have hcx : ∀ h, ((k[i]'h).toNat : Int) = (c.toNat : Int) := fun h => by rw [hc]
          have HZ := Lib.hid (show k[i] ≠ 0 from fun h => hz (hc.trans h))
          clear hc hz
          generalize c.toNat = x at *
          have q1 : (((x : Nat) : Int) == 0) = false := by rw [beq_eq_false_iff_ne]; omega
          go_wp2_with fail
          go_roundg (k.size - (i + 1))
          case measure => omega
          case rel =>
            refine ⟨i + 1, by omega, by go_num, fun j hj h => ?_, rfl⟩
            rcases Nat.lt_or_ge j i with h2 | h2
            · exact HP.out j hj h2
            · obtain rfl : j = i := by omega
              exact HZ.out
      · have d9 : decide ((i : Int) < (k.size : Int)) = false := by rw [decide_eq_false_iff_not]; omega
        go_wp2_with fail
        go_ret
        refine ⟨?_, rfl⟩
        rw [decide_eq_true (HOK.out.2 (fun hm => by
          obtain ⟨j, hj, he⟩ := List.getElem_of_mem hm
          exact HP.out j (by omega) (by omega) he))]
        rfl
  · have hno : ¬ OkK (bl k) n := fun h => hq ⟨by have := h.1; omega, by have := h.2.1; omega, h.2.2.2.1, h.2.2.2.2⟩
    rw [decide_eq_false hno]
    clear hno
    by_cases h1 : k.size < 1
    · have d1 : decide ((k.size : Int) < 1) = true := by rw [decide_eq_true_eq]; omega
      clear hq h1
      go_enter Tryz.func12, Tryz.ntmps12
      go_wp2_with fail
      go_ret
      exact ⟨rfl, rfl⟩
    · have d1 : decide ((k.size : Int) < 1) = false := by rw [decide_eq_false_iff_not]; omega
      by_cases h2 : 64 < k.size
      · have d2 : decide ((64 : Int) < (k.size : Int)) = true := by rw [decide_eq_true_eq]; omega
        clear hq h1
        go_enter Tryz.func12, Tryz.ntmps12
        go_wp2_with fail
        go_ret
        exact ⟨rfl, rfl⟩
      · have d2 : decide ((64 : Int) < (k.size : Int)) = false := by rw [decide_eq_false_iff_not]; omega
        by_cases h3 : n < 0
        · have d3 : decide (n < 0) = true := by rw [decide_eq_true_eq]; omega
          clear hq h1 h3
          go_enter Tryz.func12, Tryz.ntmps12
          go_wp2_with fail
          go_ret
          exact ⟨rfl, rfl⟩
        · have d3 : decide (n < 0) = false := by rw [decide_eq_false_iff_not]; omega
          have d4 : decide (4611686018427387904 < n) = true := by
            rw [decide_eq_true_eq]
            rcases Classical.em (4611686018427387904 < n) with h | h
            · exact h
            · exact absurd ⟨by omega, by omega, by omega, by omega⟩ hq
          clear hq h1 h3
          go_enter Tryz.func12, Tryz.ntmps12
          go_wp2_with fail
          go_ret
          exact ⟨rfl, rfl⟩
end Go.Proofs.YtdbfaknpfepnfaaGreatDoor
