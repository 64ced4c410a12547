
/-
  The law of no merge and no view.
-/
import Derived.Test.YtdbfaknpfepnfaaDoorCurAwakeW
namespace Go.Proofs.YtdbfaknpfepnfaaDoor
open Go.RowKit CodecP Cur

set_option maxRecDepth 100000 in
set_option maxHeartbeats 4000000 in
theorem cursorNone_law (key : ByteArray) (seq : Int) (w : World) : Calls Tryd.prog 4 #[.string key, .int .i64 seq] w fun e w' => e = .returned (.bool true) ∧ Below w.heap.size w w' := by
  have HAW := Lib.hid awake14_any
  by_cases hk : 300 < key.size
  · have d1 : decide ((300 : Int) < (key.size : Int)) = true := by rw [decide_eq_true_eq]; omega
    clear hk
    go_enter Tryd.func4, Tryd.ntmps4
    go_wp2_with fail
    (with_reducible refine (HAW.out _).mono ?_)
    rintro e w1 ⟨rfl, hb1⟩
    have HB1 := Lib.hid hb1
    clear hb1
    go_wp2_with fail
    go_ret
    exact ⟨rfl, HB1.out⟩
  · have d1 : decide ((300 : Int) < (key.size : Int)) = false := by rw [decide_eq_false_iff_not]; omega
    have H1 := Lib.hid mgNilFirst
    have H2 := Lib.hid (mgNilSeek key)
    have H3 := Lib.hid mgNilNext
    have H4 := Lib.hid (newView_nil seq)
    have H5 := Lib.hid (vwNilSeek key)
    have H6 := Lib.hid vwNilNext
    have H7 := Lib.hid new_nil
    have K1 := Lib.hid mgNilValid
    have K2 := Lib.hid mgNilPair
    have K3 := Lib.hid mgNilErr
    have K4 := Lib.hid vwNilValid
    have K5 := Lib.hid vwNilKey
    have K6 := Lib.hid vwNilValue
    have K7 := Lib.hid vwNilErr
    clear hk
    go_enter Tryd.func4, Tryd.ntmps4
    go_wp2_with fail
    (with_reducible refine (H1.out _).mono ?_)
    rintro e w1 ⟨rfl, rfl⟩
    go_wp2_with fail
    (with_reducible refine (H2.out _).mono ?_)
    rintro e w2 ⟨rfl, hb2⟩
    have HB2 := Lib.hid hb2
    clear hb2
    go_wp2_with fail
    (with_reducible refine (H3.out _).mono ?_)
    rintro e w3 ⟨rfl, rfl⟩
    go_wp2_with fail
    (with_reducible refine (H4.out _).mono ?_)
    rintro e w3 ⟨rfl, rfl⟩
    go_wp2_with fail
    (with_reducible refine (H5.out _).mono ?_)
    rintro e w3 ⟨rfl, rfl⟩
    go_wp2_with fail
    (with_reducible refine (H6.out _).mono ?_)
    rintro e w3 ⟨rfl, rfl⟩
    go_wp2_with fail
    (with_reducible refine (H7.out _).mono ?_)
    rintro e w3 ⟨p, S, rfl, hm3, hb3⟩
    have HF := Lib.hid (first_none _ p S w3 hm3)
    have HB3 := Lib.hid (HB2.out.trans (hb3.mono HB2.out.size))
    have HO := Lib.hid hm3.own
    clear hm3 hb3
    go_wp2_with fail
    (with_reducible refine HF.out.mono ?_)
    rintro e w4 ⟨rfl, hf4, hm4⟩
    have HB4 := Lib.hid (HB3.out.trans (hf4.below HB3.out.size (fun k _ hk => Nat.le_trans HB2.out.size (HO.out k hk))))
    have HM4 := Lib.hid hm4
    clear hf4 hm4
    go_wp2_with fail
    (with_reducible refine (K1.out _).mono ?_)
    rintro e w5 ⟨rfl, rfl⟩
    go_wp2_with fail
    (with_reducible refine (K2.out _).mono ?_)
    rintro e w5 ⟨rfl, hb5⟩
    have HB5 := Lib.hid (HB4.out.trans (hb5.mono HB4.out.size))
    have hm5 := HM4.out.below hb5
    have J1 := Lib.hid (mgValid_any _ p S _ w5 hm5)
    have J2 := Lib.hid (mgErr_any _ p S _ w5 hm5)
    rw [show decide (0 < ([] : List Nat).length) = false from rfl] at J1
    clear hb5 hm5
    go_wp2_with fail
    (with_reducible refine (K3.out _).mono ?_)
    rintro e w6 ⟨rfl, rfl⟩
    go_wp2_with fail
    (with_reducible refine (K4.out _).mono ?_)
    rintro e w6 ⟨rfl, rfl⟩
    go_wp2_with fail
    (with_reducible refine (K5.out _).mono ?_)
    rintro e w6 ⟨rfl, rfl⟩
    go_wp2_with fail
    (with_reducible refine (K6.out _).mono ?_)
    rintro e w6 ⟨rfl, rfl⟩
    go_wp2_with fail
    (with_reducible refine (K7.out _).mono ?_)
    rintro e w6 ⟨rfl, rfl⟩
    go_wp2_with fail
    (with_reducible refine J1.out.mono ?_)
    rintro e w6 ⟨rfl, rfl⟩
    go_wp2_with fail
    (with_reducible refine J2.out.mono ?_)
    rintro e w6 ⟨rfl, rfl⟩
    go_wp2_with fail
    (with_reducible refine (HAW.out _).mono ?_)
    rintro e w7 ⟨rfl, hb7⟩
    have HB7 := Lib.hid (HB5.out.trans (hb7.mono HB5.out.size))
    clear hb7
    go_wp2_with fail
    go_ret
    exact ⟨rfl, HB7.out⟩
end Go.Proofs.YtdbfaknpfepnfaaDoor
