/-
  The law SkipNumbers, for every argument; its arguments, opened.
-/
import Derived.Test.YtddlhkkkngfgiaaNumbersW
import Derived.Test.YtddlhkkkngfgiaaOpenSl
namespace Go.Proofs.Ytddlhkkkngfgiaa
open Go.ChangeShapes Go.WideShapes Go.ChangeAt Go.RowKit Go.ChangeMaps

set_option maxRecDepth 100000 in
theorem skipNumbers_law (v1 v2 : Value) (P D : List Int) (w : World) (hv1 : Sl w v1 (P.map (Value.int .i64))) (hv2 : Sl w v2 (D.map (Value.int .i64))) :
    Calls Try.prog 4 #[v1, v2] w fun e w' => e = .returned (.bool true) ∧ Below w.heap.size w w' := by
  by_cases h1 : 150 < P.length
  · have hm := hv1.len
    have hm2 := hv2.len
    obtain ⟨ao, cap, rfl, -⟩ := hv1
    obtain ⟨ao2, cap2, rfl, -⟩ := hv2
    rw [List.length_map] at hm hm2
    rw [List.length_map, List.length_map]
    unfold maxLen at hm hm2
    have hd1 : decide ((150 : Int) < (P.length : Int)) = true := by rw [decide_eq_true_eq]; omega
    go_enter Try.func4, Try.ntmps4
    go_wp2_with fail
    (with_reducible refine (awake_any _).mono ?_)
    rintro e w1 ⟨rfl, hb⟩
    go_wp2
    go_ret
    exact ⟨rfl, hb⟩
  · by_cases h2 : 150 < D.length
    · have hm := hv1.len
      have hm2 := hv2.len
      obtain ⟨ao, cap, rfl, -⟩ := hv1
      obtain ⟨ao2, cap2, rfl, -⟩ := hv2
      rw [List.length_map] at hm hm2
      rw [List.length_map, List.length_map]
      unfold maxLen at hm hm2
      have hd1 : decide ((150 : Int) < (P.length : Int)) = false := by rw [decide_eq_false_iff_not]; omega
      have hd2 : decide ((150 : Int) < (D.length : Int)) = true := by rw [decide_eq_true_eq]; omega
      go_enter Try.func4, Try.ntmps4
      go_wp2_with fail
      (with_reducible refine (awake_any _).mono ?_)
      rintro e w1 ⟨rfl, hb⟩
      go_wp2
      go_ret
      exact ⟨rfl, hb⟩
    · exact skipNumbers_main v1 v2 P D w hv1 hv2 (by omega) (by omega)
theorem sl64_of {H : Type} {enc : TypeId × Value → H} {W : World} {r : Reach} {b0 : Nat} {v : Value} {d : DataW H} {ps : List MemPlace}
    (hval : Value.okWide Try.prog W r b0 32 v) (h : DataW.Trod enc Try.prog W 0 (fun _ => true) true 32 v d ps) : ∃ ks : List Int, Sl W v (ks.map (Value.int .i64)) ∧ ∀ n ∈ ks, (Lit.int .i64 n).wf = true :=
  slints Try.underlying32 Try.underlying2 (by kernel_rfl) hval h
end Go.Proofs.Ytddlhkkkngfgiaa
