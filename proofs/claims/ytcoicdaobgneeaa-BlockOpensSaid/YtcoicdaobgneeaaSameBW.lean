
/-
  The walk of the block law's same.
-/
import Derived.Test.YtcoicdaobgneeaaAllBW
namespace Go.Proofs.Ytcoicdaobgneeaa
open Go.RowKit CodecP

set_option maxRecDepth 100000 in
set_option maxHeartbeats 2000000 in
theorem sameB_yes (va vb : Value) (Ba Bb : Nat) (L : List Pr) (w : World) (ha : w.ownsRow Ba 48 2 va L.length (flatR L)) (hb : w.ownsRow Bb 35 2 vb L.length (flatR L)) (hL : L.length ≤ 1000000) :
    Calls Try.prog 19 #[va, vb] w fun e w' => e = .returned (.bool true) ∧ Below w.heap.size w w' := by
  have HR := Lib.hid (Below.refl w.heap.size w)
  rcases Nat.eq_zero_or_pos L.length with h0 | h0
  · obtain ⟨a1, a2, hva⟩ := own_form ha
    obtain ⟨b1, b2, hvb⟩ := own_form hb
    subst hva hvb
    rw [h0]
    clear ha hb
    go_enter Try.func19, Try.ntmps19
    go_wp2_with fail
    go_loopw [5] (fun i wr => i = .int .i64 0 ∧ wr = w) (fun i _ => 0)
    case atStart => exact ⟨rfl, rfl⟩
    case round =>
      obtain ⟨rfl, rfl⟩ := hrel
      go_wp2_with fail
      go_ret
      exact ⟨rfl, HR.out⟩
  · obtain ⟨ga, ca, hva, _, hga, hca, hma, hcella⟩ := own_pos ha h0
    obtain ⟨gb, cb, hvb, _, hgb, hcb, hmb, hcellb⟩ := own_pos hb h0
    subst hva hvb
    unfold maxLen at hma hmb
    have HA := Lib.hid hcella
    have HB := Lib.hid hcellb
    clear ha hb hcella hcellb
    go_enter Try.func19, Try.ntmps19
    go_wp2_with fail
    go_loopg [5] L.length (fun g iv wr => ∃ i : Nat, i + g = L.length ∧ iv = .int .i64 i ∧ Below w.heap.size w wr)
    case atStart => exact ⟨0, by omega, rfl, HR.out⟩
    case round =>
      obtain ⟨i, hig, rfl, hbl⟩ := hrel
      by_cases hlt : i < L.length
      · have d0 : decide ((i : Int) < (L.length : Int)) = true := by rw [decide_eq_true_eq]; omega
        obtain ⟨x1, x2⟩ := flatR_get L i hlt
        have a0 : wr.cell? ⟨ga, i * 2, none⟩ = some (.string (str L[i].1)) := by rw [hbl.cell (p := ⟨ga, i * 2, none⟩) hga]; exact HA.out _ _ x1
        have a1 : wr.cell? ⟨ga, i * 2 + 1, none⟩ = some (.string (str L[i].2)) := by rw [hbl.cell (p := ⟨ga, i * 2 + 1, none⟩) hga]; exact HA.out _ _ x2
        have b0 : wr.cell? ⟨gb, i * 2, none⟩ = some (.string (str L[i].1)) := by rw [hbl.cell (p := ⟨gb, i * 2, none⟩) hgb]; exact HB.out _ _ x1
        have b1 : wr.cell? ⟨gb, i * 2 + 1, none⟩ = some (.string (str L[i].2)) := by rw [hbl.cell (p := ⟨gb, i * 2 + 1, none⟩) hgb]; exact HB.out _ _ x2
        have hi2 : (i : Int) < (L.length : Int) := by omega
        have wi : IntKind.i64.wrap ((i : Int) + 1) = (i : Int) + 1 := IntWalk.i64_in _ (by omega)
        clear x1 x2
        generalize str L[i].1 = sk at *
        generalize str L[i].2 = sv at *
        have e1 : (sk.toList != sk.toList) = false := by simp
        have e2 : (sv.toList != sv.toList) = false := by simp
        have HBL := Lib.hid hbl
        clear hbl
        go_wp2_with fail
        go_quiet (fail)
        go_wp2_with fail
        go_roundg (L.length - (i + 1))
        case measure => omega
        case rel => exact ⟨i + 1, by omega, by go_num, HBL.out.drewN _⟩
      · have d0 : decide ((i : Int) < (L.length : Int)) = false := by rw [decide_eq_false_iff_not]; omega
        go_wp2_with fail
        go_ret
        exact ⟨rfl, hbl⟩
end Go.Proofs.Ytcoicdaobgneeaa
