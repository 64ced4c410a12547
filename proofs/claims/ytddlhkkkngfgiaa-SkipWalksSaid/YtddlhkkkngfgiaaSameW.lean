/-
  The walk of Same.
-/
import Derived.Test.YtddlhkkkngfgiaaSl
import Derived.Test.YtddlhkkkngfgiaaSkip5W
namespace Go.Proofs.Ytddlhkkkngfgiaa
open Go.RowKit

set_option maxHeartbeats 400000 in
theorem same_any (v1 v2 : Value) (ks ls : List ByteArray) (w : World) (h1 : Sl w v1 (ks.map (Value.string))) (h2 : Sl w v2 (ls.map (Value.string))) :
    Calls Try.prog 11 #[v1, v2] w fun e w' => e = .returned (.bool (decide (ks = ls))) ∧ Below w.heap.size w w' := by
  have hm1 := h1.len
  have hm2 := h2.len
  rw [List.length_map] at hm1 hm2
  unfold maxLen at hm1 hm2
  have hbel0 := Below.refl w.heap.size w
  by_cases hlen : ks.length = ls.length
  · rcases h1.cases with ⟨h0, ao, cap, rfl⟩ | ⟨b1, o1, cap1, rfl, hpos, hcap, hmax, hb1, hc1⟩
    · have h0 := List.map_eq_nil_iff.1 h0
      subst h0
      have : ls = [] := List.length_eq_zero_iff.1 hlen.symm
      subst this
      rcases h2.cases with ⟨-, ao2, cap2, rfl⟩ | ⟨b2, o2, cap2, rfl, hpos2, _⟩
      · clear h1 h2 hlen
        go_enter Try.func11, Try.ntmps11
        go_wp2
        go_loopw [5] (fun i wr => i = .int .i64 0 ∧ wr = w) (fun _ _ => 0)
        case atStart => exact ⟨rfl, rfl⟩
        case round =>
          obtain ⟨rfl, rfl⟩ := hrel
          go_wp2
          go_ret
          exact ⟨rfl, hbel0⟩
      · simp at hpos2
    rw [List.length_map] at hpos
    rcases h2.cases with ⟨h0, -⟩ | ⟨b2, o2, cap2, rfl, hpos2, hcap2, hmax2, hb2, hc2⟩
    · have := List.map_eq_nil_iff.1 h0; subst this; rw [List.length_nil] at hlen; omega
    have HS1 := Lib.hid (show SlAt w b1 o1 (ks.map (Value.string)) from ⟨hb1, hc1⟩)
    have HS2 := Lib.hid (show SlAt w b2 o2 (ls.map (Value.string)) from ⟨hb2, hc2⟩)
    have HL := Lib.hid hlen
    have hle : (ks.length == ls.length) = true := by rw [beq_iff_eq]; exact hlen
    have hli : ((ks.length : Int) == (ls.length : Int)) = true := by rw [beq_iff_eq]; omega
    have hln : ((ks.length : Int) != (ls.length : Int)) = false := by rw [bne, hli]; rfl
    rw [List.length_map, List.length_map]
    rw [List.length_map] at hcap hcap2
    clear h1 h2 hle hb1 hc1 hb2 hc2
    go_enter Try.func11, Try.ntmps11
    go_wp2
    clear hli hln hlen
    go_loopw [5] (fun i wr => ∃ k : Nat, k ≤ ks.length ∧ i = .int .i64 (k : Int) ∧ (ks.take k = ls.take k) ∧ Below w.heap.size w wr) (fun i _ => ks.length - (intOf i).toNat)
    case atStart => exact ⟨0, by omega, rfl, by simp, hbel0⟩
    case round =>
      clear hbel0
      obtain ⟨k, hk, rfl, heq, hbel⟩ := hrel
      have HEQ := Lib.hid heq
      clear heq
      by_cases hlt : k < ks.length
      · have hlt2 : k < ls.length := by rw [← HL.out]; exact hlt
        have c1' := (HS1.out.below hbel).2 k (.string ks[k]) (by simp [hlt])
        have c2' := (HS2.out.below hbel).2 k (.string ls[k]) (by simp [hlt2])
        have g1 : (k : Int) < (ks.length : Int) := by omega
        have g2 : (k : Int) < (ls.length : Int) := by omega
        by_cases he : ks[k] = ls[k]
        · have hst : ks.take (k + 1) = ls.take (k + 1) := by
            rw [List.take_add_one, List.take_add_one, HEQ.out, List.getElem?_eq_getElem hlt, List.getElem?_eq_getElem hlt2, he]
          have HST := Lib.hid hst
          rw [he] at c1'
          clear hst he
          generalize ls[k] = y at *
          have q1 : (y.toList == y.toList) = true := by simp
          have q2 : (y.toList != y.toList) = false := by simp
          go_wp2_with fail
          go_quiet (fail)
          go_wp2
          go_roundw
          case rel => exact ⟨k + 1, by omega, by go_num, HST.out, hbel.drewN _⟩
          case measure => simp [intOf]; omega
        · have hd : decide (ks = ls) = false := by
            rw [decide_eq_false_iff_not]
            intro h
            subst h
            exact he rfl
          have HD := Lib.hid hd
          clear hd
          generalize ls[k] = y at *
          generalize ks[k] = x at *
          have q1 : (x.toList == y.toList) = false := by rw [beq_eq_false_iff_ne]; intro h; exact he (key_ext h)
          have q2 : (x.toList != y.toList) = true := by rw [bne, q1]; rfl
          clear he
          go_wp2_with fail
          go_quiet (fail)
          go_wp2
          go_ret
          exact ⟨by rw [HD.out]; rfl, hbel.drewN _⟩
      · obtain rfl : k = ks.length := by omega
        have hd : decide (ks = ls) = true := by
          rw [decide_eq_true_eq]
          have := HEQ.out
          rwa [List.take_of_length_le (Nat.le_refl _), List.take_of_length_le (by rw [HL.out]; exact Nat.le_refl _)] at this
        have HD := Lib.hid hd
        clear hd
        go_wp2
        go_ret
        exact ⟨by rw [HD.out]; rfl, hbel⟩
  · have hd : decide (ks = ls) = false := by
      rw [decide_eq_false_iff_not]
      intro h
      subst h
      exact hlen rfl
    have HD := Lib.hid hd
    obtain ⟨a1, c1, rfl, -⟩ := h1
    obtain ⟨a2, c2, rfl, -⟩ := h2
    rw [List.length_map, List.length_map]
    have hli : ((ks.length : Int) == (ls.length : Int)) = false := by rw [beq_eq_false_iff_ne]; omega
    have hln : ((ks.length : Int) != (ls.length : Int)) = true := by rw [bne, hli]; rfl
    clear hd hlen
    go_enter Try.func11, Try.ntmps11
    go_wp2
    go_ret
    exact ⟨by rw [HD.out]; rfl, hbel0⟩
end Go.Proofs.Ytddlhkkkngfgiaa
