
/-
  The walks of a builder, and of a block, that there isn't; the law BlockNone.
-/
import Derived.Test.YtcoicdaobgneeaaBAwake
namespace Go.Proofs.Ytcoicdaobgneeaa
open Go.RowKit CodecP

theorem bdAdd_nil (k v : ByteArray) (w : World) : Calls Try.prog 12 #[.pointer none, .string k, .string v] w fun e w' => e = .returned (.int .i64 1) ∧ w = w' := by
  go_enter Try.func12, Try.ntmps12
  go_wp2_with fail
  go_ret
  exact ⟨rfl, rfl⟩
theorem bdLen_nil (w : World) : Calls Try.prog 13 #[.pointer none] w fun e w' => e = .returned (.int .i64 0) ∧ w = w' := by
  go_enter Try.func13, Try.ntmps13
  go_wp2_with fail
  go_ret
  exact ⟨rfl, rfl⟩
theorem bdSize_nil (w : World) : Calls Try.prog 17 #[.pointer none] w fun e w' => e = .returned (.int .i64 0) ∧ w = w' := by
  go_enter Try.func17, Try.ntmps17
  go_wp2_with fail
  go_ret
  exact ⟨rfl, rfl⟩
theorem bdLast_nil (w : World) : Calls Try.prog 14 #[.pointer none] w fun e w' => e = .returned (.string ⟨#[]⟩) ∧ w = w' := by
  go_enter Try.func14, Try.ntmps14
  go_wp2_with fail
  go_ret
  exact ⟨rfl, rfl⟩
theorem bdBytes_nil (w : World) : Calls Try.prog 16 #[.pointer none] w fun e w' => e = .returned (.string ⟨#[]⟩) ∧ w = w' := by
  go_enter Try.func16, Try.ntmps16
  go_wp2_with fail
  go_ret
  exact ⟨rfl, rfl⟩
theorem blLen_nil (w : World) : Calls Try.prog 22 #[.pointer none] w fun e w' => e = .returned (.int .i64 0) ∧ w = w' := by
  go_enter Try.func22, Try.ntmps22
  go_wp2_with fail
  go_ret
  exact ⟨rfl, rfl⟩
theorem blSeek_nil (k : ByteArray) (w : World) : Calls Try.prog 25 #[.pointer none, .string k] w fun e w' => e = .returned (.int .i64 0) ∧ Below w.heap.size w w' := by
  have HL := Lib.hid blLen_nil
  have HB := Lib.hid (((Below.refl w.heap.size w).alloc (Nat.le_refl _) (.cells #[.pointer none] 40)).alloc (by simp) (.cells #[.string k] 9))
  go_enter Try.func25, Try.ntmps25
  go_wp2_with fail
  (with_reducible refine (HL.out _).mono ?_)
  rintro e w1 ⟨rfl, rfl⟩
  go_wp2_with fail
  go_ret
  exact ⟨rfl, HB.out⟩
theorem blAll_nil (w : World) : Calls Try.prog 20 #[.pointer none] w fun e w' => e = .returned (.slice none 0 0) ∧ Below w.heap.size w w' := by
  have HL := Lib.hid blLen_nil
  have HB := Lib.hid ((Below.refl w.heap.size w).alloc (Nat.le_refl _) (.cells #[.slice none 0 0] 44))
  go_enter Try.func20, Try.ntmps20
  go_wp2_with fail
  (with_reducible refine (HL.out _).mono ?_)
  rintro e w1 ⟨rfl, rfl⟩
  go_wp2_with fail
  go_ret
  exact ⟨rfl, HB.out⟩
theorem blAt_nil (i : Int) (w : World) : Calls Try.prog 23 #[.pointer none, .int .i64 i] w fun e w' => e = .returned (.tuple #[.agg #[.string ⟨#[]⟩, .string ⟨#[]⟩], .bool false]) ∧ Below w.heap.size w w' := by
  have HL := Lib.hid blLen_nil
  by_cases hi : i < 0
  · have d1 : decide (i < 0) = true := by simpa using hi
    go_enter Try.func23, Try.ntmps23
    go_wp2_with fail
    go_quiet (fail)
    go_wp2_with fail
    exact bodyPost_ret (v := .tuple #[.agg #[.string ⟨#[]⟩, .string ⟨#[]⟩], .bool false]) (by simp [results, Try.results23, go_sem]) rfl ⟨rfl, (((((Below.refl w.heap.size w).alloc (Nat.le_refl _) _).alloc (by simp) _).drewN _).setCell (by simp) _).setCell (by simp) _⟩
  · have d1 : decide (i < 0) = false := by simpa using hi
    have d2 : decide (0 ≤ i) = true := by simpa using hi
    go_enter Try.func23, Try.ntmps23
    go_wp2_with fail
    go_quiet ((go_at_call 22; exact Calls.quiet_of_same ((HL.out _).mono (fun e w' h => ⟨h.1, h.2.symm⟩))))
    go_wp2_with fail
    exact bodyPost_ret (v := .tuple #[.agg #[.string ⟨#[]⟩, .string ⟨#[]⟩], .bool false]) (by simp [results, Try.results23, go_sem]) rfl ⟨rfl, (((((Below.refl w.heap.size w).alloc (Nat.le_refl _) _).alloc (by simp) _).drewN _).setCell (by simp) _).setCell (by simp) _⟩
theorem blGet_nil (k : ByteArray) (w : World) : Calls Try.prog 24 #[.pointer none, .string k] w fun e w' => e = .returned (.tuple #[.string ⟨#[]⟩, .bool false]) ∧ Below w.heap.size w w' := by
  have HS := Lib.hid blSeek_nil
  have HA := Lib.hid blAt_nil
  go_enter Try.func24, Try.ntmps24
  go_wp2_with fail
  (with_reducible refine (HS.out _ _).mono ?_)
  rintro e w1 ⟨rfl, hb1⟩
  have HB1 := Lib.hid hb1
  clear hb1
  go_wp2_with fail
  (with_reducible refine (HA.out _ _).mono ?_)
  rintro e w2 ⟨rfl, hb2⟩
  have HB2 := Lib.hid (HB1.out.trans (hb2.mono HB1.out.size))
  clear hb2
  go_wp2_with fail
  go_ret2
  exact ⟨rfl, HB2.out.alloc HB2.out.size _⟩
set_option maxHeartbeats 1000000 in
theorem blockNone_law (key value : ByteArray) (i : Int) (w : World) (h1 : key.size ≤ maxLen) (h2 : value.size ≤ maxLen) :
    Calls Try.prog 6 #[.string key, .string value, .int .i64 i] w fun e w' => e = .returned (.bool true) ∧ Below w.heap.size w w' := by
  have HAW := Lib.hid awake_any
  unfold maxLen at h1 h2
  by_cases hg : 300 < key.size ∨ 300 < value.size
  · by_cases hk : 300 < key.size
    · have d1 : decide ((300 : Int) < (key.size : Int)) = true := by rw [decide_eq_true_eq]; omega
      clear hg
      go_enter Try.func6, Try.ntmps6
      go_wp2_with fail
      (with_reducible refine (HAW.out _).mono ?_)
      rintro e w1 ⟨rfl, hb1⟩
      go_wp2_with fail
      go_ret
      exact ⟨rfl, hb1⟩
    · have d1 : decide ((300 : Int) < (key.size : Int)) = false := by rw [decide_eq_false_iff_not]; omega
      have d2 : decide ((300 : Int) < (value.size : Int)) = true := by rw [decide_eq_true_eq]; omega
      clear hg
      go_enter Try.func6, Try.ntmps6
      go_wp2_with fail
      (with_reducible refine (HAW.out _).mono ?_)
      rintro e w1 ⟨rfl, hb1⟩
      go_wp2_with fail
      go_ret
      exact ⟨rfl, hb1⟩
  · have d1 : decide ((300 : Int) < (key.size : Int)) = false := by rw [decide_eq_false_iff_not]; omega
    have d2 : decide ((300 : Int) < (value.size : Int)) = false := by rw [decide_eq_false_iff_not]; omega
    have HA := Lib.hid (blAt_nil i w)
    have HGE := Lib.hid blGet_nil
    have HAD := Lib.hid bdAdd_nil
    have HLN := Lib.hid bdLen_nil
    have HSZ := Lib.hid bdSize_nil
    have HLA := Lib.hid bdLast_nil
    have HBY := Lib.hid bdBytes_nil
    have HBL := Lib.hid blLen_nil
    have HSK := Lib.hid blSeek_nil
    have HAL := Lib.hid blAll_nil
    clear hg
    go_enter Try.func6, Try.ntmps6
    go_wp2_with fail
    (with_reducible refine HA.out.mono ?_)
    rintro e w1 ⟨rfl, hb1⟩
    have HB1 := Lib.hid hb1
    clear hb1
    go_wp2_with fail
    have hbp : Below w.heap.size w (w1.alloc (.cells #[.string ⟨#[]⟩, .string ⟨#[]⟩] 48)) := HB1.out.alloc HB1.out.size _
    have HBP := Lib.hid hbp
    have hcell : ∀ W, Below (w1.alloc (.cells #[.string ⟨#[]⟩, .string ⟨#[]⟩] 48)).heap.size (w1.alloc (.cells #[.string ⟨#[]⟩, .string ⟨#[]⟩] 48)) W → W.cell? ⟨w1.heap.size, 0, none⟩ = some (.string ⟨#[]⟩) ∧ W.cell? ⟨w1.heap.size, 1, none⟩ = some (.string ⟨#[]⟩) := fun W hW => by
      rw [hW.cell (p := ⟨w1.heap.size, 0, none⟩) (by simp), hW.cell (p := ⟨w1.heap.size, 1, none⟩) (by simp)]
      exact ⟨by simp, by simp⟩
    have HCE := Lib.hid hcell
    clear hbp hcell
    generalize w1.alloc (.cells #[.string ⟨#[]⟩, .string ⟨#[]⟩] 48) = w2 at *
    generalize w1.heap.size = pb at *
    (with_reducible refine (HGE.out _ _).mono ?_)
    rintro e w3 ⟨rfl, hb3⟩
    have HB3 := Lib.hid hb3
    obtain ⟨p0, p1⟩ := HCE.out w3 hb3
    clear hb3
    go_wp2_with fail
    (with_reducible refine (HAD.out _ _ _).mono ?_)
    rintro e w4 ⟨rfl, rfl⟩
    go_wp2_with fail
    (with_reducible refine (HLN.out _).mono ?_)
    rintro e w4 ⟨rfl, rfl⟩
    go_wp2_with fail
    (with_reducible refine (HSZ.out _).mono ?_)
    rintro e w4 ⟨rfl, rfl⟩
    go_wp2_with fail
    (with_reducible refine (HLA.out _).mono ?_)
    rintro e w4 ⟨rfl, rfl⟩
    go_wp2_with fail
    (with_reducible refine (HBY.out _).mono ?_)
    rintro e w4 ⟨rfl, rfl⟩
    go_wp2_with fail
    (with_reducible refine (HBL.out _).mono ?_)
    rintro e w4 ⟨rfl, rfl⟩
    go_wp2_with fail
    (with_reducible refine (HSK.out _ _).mono ?_)
    rintro e w4 ⟨rfl, hb4⟩
    have HB4 := Lib.hid (HB3.out.trans (hb4.mono HB3.out.size))
    clear hb4 p0 p1
    go_wp2_with fail
    (with_reducible refine (HAL.out _).mono ?_)
    rintro e w5 ⟨rfl, hb5⟩
    have HB5 := Lib.hid (HB4.out.trans (hb5.mono HB4.out.size))
    clear hb5
    go_wp2_with fail
    (with_reducible refine (HAW.out _).mono ?_)
    rintro e w6 ⟨rfl, hb6⟩
    have HB6 := Lib.hid (HBP.out.trans ((HB5.out.trans (hb6.mono HB5.out.size)).mono HBP.out.size))
    clear hb6
    go_wp2_with fail
    go_ret
    exact ⟨rfl, HB6.out⟩
end Go.Proofs.Ytcoicdaobgneeaa
