/-
  The walks of the laws BloomPlaces, BloomMakes and BloomHas.
-/
import Derived.Test.YtbkdlkhaeidhcaaDoorBloomAwake
namespace Go.Proofs.YtbkdlkhaeidhcaaDoor
open Go.RowKit Go.Deep CrcP BloomP

theorem bloomPlaces_long (n m : Int) (key : ByteArray) (w : World) (hn : Nibs w) (h : 300 < key.size) (hs : key.size ≤ maxLen) :
    Calls Tryd.prog 3 #[.int .i64 n, .string key, .int .i64 m] w fun e w' => e = .returned (.bool true) ∧ Below w.heap.size w w' := by
  unfold maxLen at hs
  have HN := Lib.hid hn
  clear hn
  go_enter Tryd.func3, Tryd.ntmps3
  go_wp2_with fail
  refine (awake_any _ HN.out).mono ?_
  rintro e w1 ⟨rfl, hb⟩
  go_wp2
  go_ret
  exact ⟨rfl, hb⟩
theorem bloomPlaces_none (n m : Int) (key : ByteArray) (w : World) (hn : Nibs w) (h : ¬ 300 < key.size) (hm : m < 1 ∨ m > 1073741824) :
    Calls Tryd.prog 3 #[.int .i64 n, .string key, .int .i64 m] w fun e w' => e = .returned (.bool true) ∧ Below w.heap.size w w' := by
  have HN := Lib.hid hn
  have HM := Lib.hid hm
  clear hn hm
  go_enter Tryd.func3, Tryd.ntmps3
  go_wp2_with fail
  refine (places_none0 _ _ _ HM.out).mono ?_
  rintro e w1 ⟨rfl, rfl⟩
  go_wp2_with fail
  refine (refPlaces_none0 _ _ _ HM.out).mono ?_
  rintro e w1 ⟨rfl, rfl⟩
  go_wp2
  go_loop [9] (fun i => i = .int .i64 0) (fun _ => 0)
  case atStart => rfl
  case round =>
    obtain rfl := hrel
    go_wp2_with fail
    refine (bits_any _ _).mono ?_
    rintro e w1 ⟨rfl, rfl⟩
    go_wp2_with fail
    refine (refBits_any _ _).mono ?_
    rintro e w1 ⟨rfl, rfl⟩
    go_wp2_with fail
    refine (awake_any _ HN.out).mono ?_
    rintro e w1 ⟨rfl, hb⟩
    go_wp2
    go_ret
    exact ⟨rfl, hb⟩
theorem bloomPlaces_some (n : Int) (m : Nat) (key : ByteArray) (w : World) (hn : Nibs w) (h : ¬ 300 < key.size) (h1 : 1 ≤ m) (h2 : m ≤ 1073741824) :
    Calls Tryd.prog 3 #[.int .i64 n, .string key, .int .i64 m] w fun e w' => e = .returned (.bool true) ∧ Below w.heap.size w w' := by
  have hsz : key.size ≤ maxLen := by unfold maxLen; omega
  have HS := Lib.hid hsz
  have HN := Lib.hid hn
  clear hn hsz
  go_enter Tryd.func3, Tryd.ntmps3
  go_wp2_with fail
  refine (places_some _ _ _ HS.out HN.out h1 h2).mono ?_
  rintro e w1 ⟨v1, rfl, hv1, hb1⟩
  obtain ⟨g1, c1, _, hg1, rfl, hc1⟩ := placesAt hv1 h1 h2
  have HC1 := Lib.hid hc1
  clear hv1 hc1
  go_wp2_with fail
  refine (refPlaces_some _ _ _ HS.out h1 h2).mono ?_
  rintro e w2 ⟨v2, rfl, hv2, hb2⟩
  obtain ⟨g2, c2, _, hg2, rfl, hc2⟩ := placesAt hv2 h1 h2
  have HC2 := Lib.hid hc2
  have hc1' : ∀ i, i < 6 → w2.cell? ⟨g1, i, none⟩ = some (.int .i64 (plc key.data.toList m i : Nat)) := fun i hi => (hb2.cell (p := ⟨g1, i, none⟩) hg1).trans (HC1.out i hi)
  have HC3 := Lib.hid hc1'
  have hbel := hb1.trans (hb2.mono hb1.size)
  clear hv2 hc2 hc1' hb1 hb2
  go_wp2
  go_loopw [9] (fun i wr => ∃ k : Nat, k ≤ 6 ∧ i = .int .i64 k ∧ ∃ nd, wr = w2.drewN nd) (fun i _ => 6 - (intOf i).toNat)
  case atStart => exact ⟨0, by omega, rfl, 0, rfl⟩
  case round =>
    obtain ⟨k, hk, rfl, nd, rfl⟩ := hrel
    by_cases hlt : k < 6
    · have d1 := HC2.out k hlt
      have d2 := HC3.out k hlt
      generalize plc key.data.toList m k = p at *
      go_wp2
      go_quiet (fail)
      go_wp2
      go_roundw
      case rel => exact ⟨k + 1, by omega, by go_num, _, rfl⟩
      case measure => simp [intOf]; omega
    · have hbel2 := below_drewN hbel nd
      generalize w2.drewN nd = w3 at *
      go_wp2_with fail
      refine (bits_any _ _).mono ?_
      rintro e w1 ⟨rfl, rfl⟩
      go_wp2_with fail
      refine (refBits_any _ _).mono ?_
      rintro e w1 ⟨rfl, rfl⟩
      go_wp2_with fail
      refine (awake_any _ (HN.out.below hbel2)).mono ?_
      rintro e w1 ⟨rfl, hb⟩
      go_wp2
      go_ret
      exact ⟨rfl, hbel2.trans (hb.mono hbel2.size)⟩
theorem bloomPlaces_law (n m : Int) (key : ByteArray) (w : World) (hn : Nibs w) (hs : key.size ≤ maxLen) :
    Calls Tryd.prog 3 #[.int .i64 n, .string key, .int .i64 m] w fun e w' => e = .returned (.bool true) ∧ Below w.heap.size w w' := by
  by_cases h : 300 < key.size
  · exact bloomPlaces_long n m key w hn h hs
  · by_cases hm : m < 1 ∨ m > 1073741824
    · exact bloomPlaces_none n m key w hn h hm
    · obtain ⟨k, rfl⟩ := Int.eq_ofNat_of_zero_le (show 0 ≤ m by omega)
      exact bloomPlaces_some n k key w hn h (by omega) (by omega)

theorem bloomHas_law (f key : ByteArray) (w : World) (hn : Nibs w) (hs1 : f.size ≤ maxLen) (hs : key.size ≤ maxLen) :
    Calls Tryd.prog 5 #[.string f, .string key] w fun e w' => e = .returned (.bool true) ∧ Below w.heap.size w w' := by
  have HS := Lib.hid hs
  have HN := Lib.hid hn
  unfold maxLen at hs hs1
  clear hn
  by_cases h1 : 3000 < f.size
  · go_enter Tryd.func5, Tryd.ntmps5
    go_wp2_with fail
    refine (awake_any _ HN.out).mono ?_
    rintro e w1 ⟨rfl, hb⟩
    go_wp2
    go_ret
    exact ⟨rfl, hb⟩
  · by_cases h2 : 300 < key.size
    · go_enter Tryd.func5, Tryd.ntmps5
      go_wp2_with fail
      refine (awake_any _ HN.out).mono ?_
      rintro e w1 ⟨rfl, hb⟩
      go_wp2
      go_ret
      exact ⟨rfl, hb⟩
    · go_enter Tryd.func5, Tryd.ntmps5
      go_wp2_with fail
      refine (has_any _ _ _ HS.out HN.out (by omega)).mono ?_
      rintro e w1 ⟨rfl, hb1⟩
      go_wp2_with fail
      refine (refHas_any _ _ _ HS.out (by omega)).mono ?_
      rintro e w2 ⟨rfl, hb2⟩
      have hbel := hb1.trans (hb2.mono hb1.size)
      clear hb1 hb2
      generalize has f.data.toList key.data.toList = b
      cases b
      all_goals
        go_wp2_with fail
        refine (awake_any _ (HN.out.below hbel)).mono ?_
        rintro e w3 ⟨rfl, hb⟩
        go_wp2
        go_ret
        exact ⟨rfl, hbel.trans (hb.mono hbel.size)⟩

theorem bloomMakes_law (v : Value) (ks : List ByteArray) (w : World) (hk : Strs w v ks) (hn : Nibs w) :
    Calls Tryd.prog 4 #[v] w fun e w' => e = .returned (.bool true) ∧ Below w.heap.size w w' := by
  have HN := Lib.hid hn
  have HK := Lib.hid hk
  obtain ⟨ao, cap, rfl, hl, hk⟩ := hk
  unfold maxLen at hl
  clear hn hk
  cases hg : greatB ks
  · have HG := Lib.hid hg
    clear hg
    go_enter Tryd.func4, Tryd.ntmps4
    go_wp2_with fail
    refine (great_any _ ks _ HK.out).mono ?_
    rintro e w1 ⟨rfl, rfl⟩
    rw [HG.out]
    go_wp2_with fail
    refine (make_any _ ks _ HK.out HN.out).mono ?_
    rintro e w1 ⟨rfl, hb1⟩
    have hk2 : Strs w1 (.slice ao ks.length cap) ks := by
      obtain ⟨ao', cap', he, hl', hh⟩ := HK.out
      refine ⟨ao', cap', he, hl', fun hne => ?_⟩
      obtain ⟨b, off, e, hs⟩ := hh hne
      exact ⟨b, off, e, hs.below hb1 hs.lt⟩
    have HK2 := Lib.hid hk2
    clear hk2
    go_wp2_with fail
    refine (refMake_any _ ks _ HK2.out).mono ?_
    rintro e w2 ⟨rfl, hb2⟩
    have hbel := hb1.trans (hb2.mono hb1.size)
    clear hb1 hb2
    generalize str (make (bls ks)) = F
    go_wp2_with fail
    refine (awake_any _ (HN.out.below hbel)).mono ?_
    rintro e w3 ⟨rfl, hb⟩
    go_wp2
    go_ret
    exact ⟨rfl, hbel.trans (hb.mono hbel.size)⟩
  · have HG := Lib.hid hg
    clear hg
    go_enter Tryd.func4, Tryd.ntmps4
    go_wp2_with fail
    refine (great_any _ ks _ HK.out).mono ?_
    rintro e w1 ⟨rfl, rfl⟩
    rw [HG.out]
    go_wp2_with fail
    refine (awake_any _ HN.out).mono ?_
    rintro e w3 ⟨rfl, hb⟩
    go_wp2
    go_ret
    exact ⟨rfl, hb⟩
end Go.Proofs.YtbkdlkhaeidhcaaDoor
