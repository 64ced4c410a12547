
/-
  The walks of a merge's Next, Seek, First and of New, where there is one source, or none.
-/
import Derived.Test.YtdbfaknpfepnfaaGreatDoorCurStepW
namespace Go.Proofs.YtdbfaknpfepnfaaGreatDoor
open Go.RowKit CodecP Cur

set_option maxRecDepth 100000 in
set_option maxHeartbeats 4000000 in
theorem next_one (B p k : Nat) (S : Nat → Prop) (s : Src) (w : World) (hk : k < s.l.length) (h : Mg B w p S ⟨[{ s with at_ := k }], [0], [s.l[k].1]⟩) (hne : ∀ h1 : k + 1 < s.l.length, s.l[k + 1].1 ≠ s.l[k].1) (hlen : s.l.length ≤ 1000000) :
    Calls Tryz.prog 48 #[(Value.pointer (some ⟨p, 0, none⟩))] w fun e w' => e = .returned (.tuple #[]) ∧ Fr S w w' ∧ Mg B w' p S (one s (k + 1) [s.l[k].1]) := by
  obtain ⟨lb, lc, hb, hc, kb, kc, g1, g2, g3, g4, g5, g6, hlb, HH⟩ := head_cells h
  have HV := Lib.hid (fun W (hW : Below w.heap.size w W) => mgValid_any B p S _ W (h.below hW))
  have HHD := Lib.hid HH
  have HST := Lib.hid (fun W (hW : Below w.heap.size w W) => step_one B p k S s _ W (h.below hW) (by omega))
  have HNE := Lib.hid hne
  have HMG := Lib.hid (fun W (hW : Below w.heap.size w W) => h.below hW)
  have hone : ∀ h : k + 1 < s.l.length, one s (k + 1) [s.l[k].1] = ⟨[{ s with at_ := k + 1 }], [0], [s.l[k + 1].1]⟩ := fun h => by unfold one; rw [dif_pos h]
  have hone2 : ¬ k + 1 < s.l.length → one s (k + 1) [s.l[k].1] = ⟨[{ s with at_ := k + 1 }], [], [s.l[k].1]⟩ := fun h => by unfold one; rw [dif_neg h]
  have HON := Lib.hid hone
  have HON2 := Lib.hid hone2
  clear h HH hne hone hone2
  obtain ⟨a0, a1, a2, a3, a4, a5, -, -⟩ := HHD.out w (Below.refl _ _)
  have HV0 := Lib.hid (HV.out w (Below.refl _ _))
  rw [show decide (0 < ([0] : List Nat).length) = true from rfl] at HV0
  go_enter Tryz.func48, Tryz.ntmps48
  go_wp2_with fail
  (with_reducible refine HV0.out.mono ?_)
  rintro e w1 ⟨rfl, rfl⟩
  go_wp2_with fail
  go_quiet (fail)
  go_wp2_with fail
  have hb1 : Below w.heap.size w (w.drewN nq) := (Below.refl _ w).drewN nq
  have HB1 := Lib.hid hb1
  have e1 : ((str s.l[k].1).toList == (str s.l[k].1).toList) = true := by simp
  clear hb1 a0 a1 a2 a3 a4 a5
  generalize w.drewN nq = w1 at *
  go_loopg [] 1 (fun g wr => (g = 1 ∧ w1 = wr) ∨ (g = 0 ∧ Fr S w wr ∧ Mg B wr p S (one s (k + 1) [s.l[k].1])))
  case atStart => exact .inl ⟨rfl, rfl⟩
  case round =>
    rcases hrel with ⟨rfl, rfl⟩ | ⟨rfl, hfr, hm⟩
    · obtain ⟨a0, a1, a2, a3, a4, a5, -, -⟩ := HHD.out w1 HB1.out
      have HVQ := Lib.hid (fun n => HV.out (w1.drewN n) (HB1.out.drewN n))
      rw [show decide (0 < ([0] : List Nat).length) = true from rfl] at HVQ
      go_wp2_with fail
      go_quiet ((go_at_call 41; exact Calls.quiet_of_same ((HVQ.out _).mono (fun e w' h => ⟨h.1, h.2.symm⟩))))
      have HS1 := Lib.hid (HST.out (w1.drewN nq) (HB1.out.drewN nq))
      have HF1 := Lib.hid (Fr.of_below S (HB1.out.drewN nq))
      clear a0 a1 a2 a3 a4 a5
      go_wp2_with fail
      (with_reducible refine HS1.out.mono ?_)
      rintro e w3 ⟨rfl, hf3, hm3⟩
      have HF3 := Lib.hid (HF1.out.trans hf3 (fun _ _ h => h))
      have HM3 := Lib.hid hm3
      clear hf3 hm3
      go_wp2_with fail
      go_roundg 0
      case measure => omega
      case rel => exact .inr ⟨rfl, HF3.out, HM3.out⟩
    · have HFR := Lib.hid hfr
      have HM := Lib.hid hm
      by_cases hk1 : k + 1 < s.l.length
      · have hm2 := hm
        rw [HON.out hk1] at hm2
        obtain ⟨lb, lc, hb, hc, kb, kc, g1, g2, g3, g4, g5, g6, hlb, HH⟩ := head_cells hm2
        obtain ⟨a0, a1, a2, a3, a4, a5, -, -⟩ := HH wr (Below.refl _ _)
        have HVQ := Lib.hid (fun n => mgValid_any B p S _ (wr.drewN n) (hm2.below ((Below.refl _ _).drewN n)))
        rw [show decide (0 < ([0] : List Nat).length) = true from rfl] at HVQ
        have hne := HNE.out hk1
        have e2 : ((str s.l[k + 1].1).toList == (str s.l[k].1).toList) = false := by
          rw [beq_eq_false_iff_ne]
          intro e
          rw [ByteArray.toList_eq, ByteArray.toList_eq] at e
          exact hne (by simpa [str] using e)
        clear hfr hm hm2 HH hne e1
        generalize str s.l[k + 1].1 = y at *
        go_wp2_with fail
        go_quiet ((go_at_call 41; exact Calls.quiet_of_same ((HVQ.out _).mono (fun e w' h => ⟨h.1, h.2.symm⟩))))
        go_wp2_with fail
        go_end0
        exact ⟨rfl, HFR.out.drewN _, HM.out.below ((Below.refl _ _).drewN _)⟩
      · have hm2 := hm
        rw [HON2.out hk1] at hm2
        have HVQ := Lib.hid (fun n => mgValid_any B p S _ (wr.drewN n) (hm2.below ((Below.refl _ _).drewN n)))
        rw [show decide (0 < ([] : List Nat).length) = false from rfl] at HVQ
        clear hfr hm hm2 e1 hk1
        go_wp2_with fail
        go_quiet ((go_at_call 41; exact Calls.quiet_of_same ((HVQ.out _).mono (fun e w' h => ⟨h.1, h.2.symm⟩))))
        go_wp2_with fail
        go_end0
        exact ⟨rfl, HFR.out.drewN _, HM.out.below ((Below.refl _ _).drewN _)⟩
end Go.Proofs.YtdbfaknpfepnfaaGreatDoor
