
/-
  The walk of the law's Find.
-/
import Derived.Test.YtcoicdaobgneeaaRisesW
namespace Go.Proofs.Ytcoicdaobgneeaa
open Go.RowKit CodecP

theorem findN_is {k : List UInt8} {L : List Pr} {i : Nat} (hi : i ≤ L.length) (h1 : ∀ j (hj : j < L.length), j < i → L[j].1 < k) (h2 : ∀ h : i < L.length, ¬ L[i].1 < k) : findN k L = i := by
  rcases Nat.lt_trichotomy (findN k L) i with h | h | h
  · exact absurd (h1 _ (by omega) h) (findN_at k L (by omega))
  · exact h
  · exact absurd (findN_lt k L i h) (h2 (by have := findN_le k L; omega))
set_option maxRecDepth 100000 in
set_option maxHeartbeats 4000000 in
theorem find_any (v : Value) (L : List Pr) (key : ByteArray) (w : World) (h : PrsIn w v L) (hL : L.length ≤ 1000000) :
    Calls Try.prog 27 #[v, .string key] w fun e w' => e = .returned (.int .i64 (findN (bl key) L)) ∧ Below w.heap.size w w' := by
  have HC := Lib.hid (fun A n cap hv i hi => h.cells (A := A) (n := n) (cap := cap) hv (i := i) hi)
  obtain ⟨A, cap, hv, hs⟩ := h.ex
  subst hv
  have hcl := hs.le
  have hcm := hs.max
  unfold maxLen at hcm
  have HR := Lib.hid (Below.refl w.heap.size w)
  clear h hs
  obtain ⟨F, hF⟩ : ∃ F, F = findN (bl key) L := ⟨_, rfl⟩
  have HF := Lib.hid hF
  clear hF
  go_enter Try.func27, Try.ntmps27
  go_wp2_with fail
  go_loopg [5] L.length (fun g iv wr => ∃ i : Nat, i + g = L.length ∧ iv = .int .i64 i ∧ (∀ j (hj : j < L.length), j < i → L[j].1 < bl key) ∧ Below w.heap.size w wr)
  case atStart => exact ⟨0, by omega, rfl, fun j _ h => by omega, HR.out⟩
  case round =>
    obtain ⟨i, hig, rfl, hpre, hbl⟩ := hrel
    have HP := Lib.hid hpre
    have HBL := Lib.hid hbl
    clear hpre
    by_cases hlt : i < L.length
    · have d9 : decide ((i : Int) < (L.length : Int)) = true := by rw [decide_eq_true_eq]; omega
      obtain ⟨bk, off, rfl, hc⟩ := HC.out _ _ _ rfl i hlt
      obtain ⟨d0, d1⟩ := hc wr hbl i hlt
      have hil : (i : Int) < (L.length : Int) := by omega
      have wi : IntKind.i64.wrap ((i : Int) + 1) = (i : Int) + 1 := IntWalk.i64_in _ (by omega)
      obtain ⟨q, hq⟩ : ∃ q, q = L[i] := ⟨_, rfl⟩
      rw [← hq] at d0 d1
      have HQ := Lib.hid hq
      clear hq hc hbl d1
      by_cases hl : q.1 < bl key
      · have g1 : Op.bytesLess (str q.1).toList key.toList = true := by
          rw [bytesLess_eq, ByteArray.toList_eq, ByteArray.toList_eq]
          exact decide_eq_true (show bl (str q.1) < bl key by rw [bl_str]; exact hl)
        have HLT := Lib.hid hl
        clear hl
        go_wp2_with fail
        go_roundg (L.length - (i + 1))
        case measure => omega
        case rel =>
          refine ⟨i + 1, by omega, by go_num, fun j hj h1 => ?_, HBL.out⟩
          rcases Nat.lt_or_ge j i with h2 | h2
          · exact HP.out j hj h2
          · obtain rfl : j = i := by omega
            have := HLT.out
            rw [HQ.out] at this
            exact this
      · have g1 : Op.bytesLess (str q.1).toList key.toList = false := by
          rw [bytesLess_eq, ByteArray.toList_eq, ByteArray.toList_eq]
          exact decide_eq_false (show ¬ bl (str q.1) < bl key by rw [bl_str]; exact hl)
        have HLT := Lib.hid hl
        clear hl
        go_wp2_with fail
        go_ret
        refine ⟨?_, HBL.out⟩
        rw [findN_is (by omega) HP.out (fun h => by have := HLT.out; rw [HQ.out] at this; exact this)]
        rfl
    · have d9 : decide ((i : Int) < (L.length : Int)) = false := by rw [decide_eq_false_iff_not]; omega
      have HLT := Lib.hid hlt
      have hi : i = L.length := by omega
      have HI := Lib.hid hi
      clear hi
      go_wp2_with fail
      go_ret
      refine ⟨?_, HBL.out⟩
      rw [findN_is (by omega) HP.out (fun h => absurd h HLT.out)]
      rfl
end Go.Proofs.Ytcoicdaobgneeaa
