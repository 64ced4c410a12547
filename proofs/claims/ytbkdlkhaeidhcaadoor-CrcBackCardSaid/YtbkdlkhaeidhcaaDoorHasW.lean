/-
  The walks of bloom.Has and of the document's own.
-/
import Derived.Test.YtbkdlkhaeidhcaaDoorPlacesW
namespace Go.Proofs.YtbkdlkhaeidhcaaDoor
open Go.RowKit Go.Deep CrcP BloomP

theorem lt_of_cell {w : World} {a : Addr} {v : Value} (h : w.cell? a = some v) : a.block < w.heap.size := by
  unfold World.cell? at h
  rcases Nat.lt_or_ge a.block w.heap.size with h1 | h1
  · exact h1
  · rw [Array.getElem?_eq_none h1] at h; simp at h
theorem Nibs.lt {w : World} (h : Nibs w) : 0 < w.heap.size := lt_of_cell (h 0 (by decide))
theorem Nibs.below {w w' : World} (h : Nibs w) (hb : Below w.heap.size w w') : Nibs w' := fun i hi => (hb.cell (p := ⟨_, _, none⟩) h.lt).trans (h i hi)
theorem Nibs.of_below {w0 w w' : World} (h : Nibs w) (hb : Below w0.heap.size w w') (h0 : Nibs w0) : Nibs w' := fun i hi => (hb.cell (p := ⟨_, _, none⟩) h0.lt).trans (h i hi)

theorem placesAt {w : World} {B : Nat} {v : Value} {key : List UInt8} {m : Nat} (h : Ints w B v (placesI key m)) (h1 : 1 ≤ m) (h2 : m ≤ 1073741824) :
    ∃ g cap, B ≤ g ∧ g < w.heap.size ∧ v = .slice (some ⟨g, 0, none⟩) 6 cap ∧ ∀ i, i < 6 → w.cell? ⟨g, i, none⟩ = some (.int .i64 (plc key m i : Nat)) := by
  have e := placesI_some key m (by omega)
  rw [Int.toNat_natCast] at e
  rcases h with ⟨h, _⟩ | ⟨g, cap, hg, hlt, hv, hcap, hc⟩
  · rw [e] at h; exact absurd h (by simp)
  · have hl : (placesI key m).length = 6 := by rw [e]; rfl
    refine ⟨g, cap, hg, hlt, by rw [hv, hl], fun i hi => ?_⟩
    rw [hc i (by omega), e]
    simp [hi]

theorem ret_bool {a b : Bool} (h : a = b) : Ending.returned (.bool a) = .returned (.bool b) := by rw [h]
theorem below_drewN {B : Nat} {a w : World} (h : Below B a w) (n : Nat) : Below B a (w.drewN n) := ⟨h.os, h.tape, h.output, h.size, h.block⟩
theorem bitAt_get (f : ByteArray) (p : Nat) (h : p / 8 < f.size) : bitAt f.data.toList p = ((f[p / 8]'h).toNat / 2 ^ (p % 8) % 2 == 1) := by
  unfold bitAt
  have : f.data.toList.getD (p / 8) 0 = f[p / 8]'h := by
    rw [List.getD_eq_getElem?_getD, List.getElem?_eq_getElem (by simpa using h)]; rfl
  rw [this]
theorem test3 (f : ByteArray) (p : Nat) (h : p / 8 < f.size) : (bits .and .u8 (((f[p / 8]'h).toNat : Int) / 2 ^ (p % 8)) 1 == 0) = !bitAt f.data.toList p := by
  rw [bitAt_get f p h]
  have hc := (f[p / 8]'h).toNat_lt
  generalize (f[p / 8]'h).toNat = c at *
  have e : ((c : Int) / 2 ^ (p % 8)) = ((c / 2 ^ (p % 8) : Nat) : Int) := by simp
  have hl : c / 2 ^ (p % 8) < 256 := Nat.lt_of_le_of_lt (Nat.div_le_self _ _) hc
  rw [e, show (1 : Int) = ((1 : Nat) : Int) from rfl, u8_and_nat _ _ hl (by decide), nat_mask1, Bool.eq_iff_iff]
  simp only [beq_iff_eq, Bool.not_eq_true', beq_eq_false_iff_ne, ne_eq]
  omega
theorem test4 (f : ByteArray) (p : Nat) (h : p / 8 < f.size) : ((((f[p / 8]'h).toNat : Int) / 2 ^ (p % 8)).tmod 2 == 0) = !bitAt f.data.toList p := by
  rw [bitAt_get f p h]
  generalize (f[p / 8]'h).toNat = c at *
  have e : ((c : Int) / 2 ^ (p % 8)) = ((c / 2 ^ (p % 8) : Nat) : Int) := by simp
  rw [e]
  generalize c / 2 ^ (p % 8) = n
  rw [Int.tmod_eq_emod_of_nonneg (by omega), Bool.eq_iff_iff]
  simp only [beq_iff_eq, Bool.not_eq_true', beq_eq_false_iff_ne, ne_eq]
  omega

set_option maxHeartbeats 400000 in
theorem has_some_any (f s : ByteArray) (w : World) (hs : s.size ≤ maxLen) (hn : Nibs w) (h1 : 1 ≤ f.size) (h2 : f.size ≤ 134217728) :
    Calls Tryd.prog 22 #[.string f, .string s] w fun e w' => e = .returned (.bool (has f.data.toList s.data.toList)) ∧ Below w.heap.size w w' := by
  have hF := has_false f.data.toList s.data.toList h1 h2
  have hT := has_true f.data.toList s.data.toList h1 h2
  have hl8 : f.data.toList.length = f.size := rfl
  rw [hl8] at hF hT
  have HF := Lib.hid hF
  have HT := Lib.hid hT
  have HN := Lib.hid hn
  have HM := Lib.hid hs
  clear hF hT hn hs hl8
  go_enter Tryd.func22, Tryd.ntmps22
  go_wp2_with fail
  rw [show (8 * (f.size : Int)) = ((8 * f.size : Nat) : Int) by omega]
  refine (places_some s (8 * f.size) _ HM.out HN.out (by omega) (by omega)).mono ?_
  rintro e w1 ⟨v, rfl, hv, hbel⟩
  obtain ⟨g, cap, _, _, rfl, hc⟩ := placesAt hv (by omega) (by omega)
  clear hv
  have HC := Lib.hid hc
  clear hc
  go_wp2
  go_loop [7, 18] (fun _ i => ∃ k : Nat, k ≤ 6 ∧ i = .int .i64 k ∧ ∀ j, j < k → bitAt f.data.toList (plc s.data.toList (8 * f.size) j) = true) (fun _ i => 6 - (intOf i).toNat)
  case atStart => exact ⟨0, by omega, rfl, by omega⟩
  case round =>
    obtain ⟨k, hk, rfl, hall⟩ := hrel
    have HA := Lib.hid hall
    clear hall
    by_cases hlt : k < 6
    · have c0 := HC.out k hlt
      have hp := plc_lt s.data.toList (8 * f.size) k (by omega)
      have HFk := Lib.hid (HF.out k hlt)
      generalize hq : plc s.data.toList (8 * f.size) k = p at *
      have HQ := Lib.hid hq
      clear hq
      have hp8 : p / 8 < f.size := by omega
      have tb := test3 f p hp8
      cases hb : bitAt f.data.toList p
      · rw [hb] at tb
        have hfin := HFk.out hb
        have HFin := Lib.hid hfin
        clear hb hfin HFk
        go_wp2
        go_ret
        exact ⟨ret_bool HFin.out.symm, hbel⟩
      · rw [hb] at tb
        have HB := Lib.hid hb
        clear hb HFk
        go_wp2
        go_round
        case rel => exact ⟨k + 1, by omega, by go_num, fun j hj => by
          by_cases h : j = k
          · rw [h, HQ.out, HB.out]
          · exact HA.out j (by omega)⟩
        case measure => simp [intOf]; omega
    · obtain rfl : k = 6 := by omega
      have hfin := HT.out HA.out
      have HFin := Lib.hid hfin
      clear hfin
      go_wp2
      go_ret
      exact ⟨ret_bool HFin.out.symm, hbel⟩
set_option maxHeartbeats 400000 in
theorem refHas_some_any (f s : ByteArray) (w : World) (hs : s.size ≤ maxLen) (h1 : 1 ≤ f.size) (h2 : f.size ≤ 134217728) :
    Calls Tryd.prog 23 #[.string f, .string s] w fun e w' => e = .returned (.bool (has f.data.toList s.data.toList)) ∧ Below w.heap.size w w' := by
  have hF := has_false f.data.toList s.data.toList h1 h2
  have hT := has_true f.data.toList s.data.toList h1 h2
  have hl8 : f.data.toList.length = f.size := rfl
  rw [hl8] at hF hT
  have HF := Lib.hid hF
  have HT := Lib.hid hT
  have HM := Lib.hid hs
  clear hF hT hs hl8
  go_enter Tryd.func23, Tryd.ntmps23
  go_wp2_with fail
  rw [show (8 * (f.size : Int)) = ((8 * f.size : Nat) : Int) by omega]
  refine (refPlaces_some s (8 * f.size) _ HM.out (by omega) (by omega)).mono ?_
  rintro e w1 ⟨v, rfl, hv, hbel⟩
  obtain ⟨g, cap, _, _, rfl, hc⟩ := placesAt hv (by omega) (by omega)
  clear hv
  have HC := Lib.hid hc
  clear hc
  go_wp2
  go_loopw [6] (fun i wr => ∃ k : Nat, k ≤ 6 ∧ i = .int .i64 k ∧ (∃ n, wr = w1.drewN n) ∧ ∀ j, j < k → bitAt f.data.toList (plc s.data.toList (8 * f.size) j) = true) (fun i _ => 6 - (intOf i).toNat)
  case atStart => exact ⟨0, by omega, rfl, ⟨0, rfl⟩, by omega⟩
  case round =>
    obtain ⟨k, hk, rfl, ⟨nd, rfl⟩, hall⟩ := hrel
    have HA := Lib.hid hall
    clear hall
    by_cases hlt : k < 6
    · have c0 := HC.out k hlt
      have hp := plc_lt s.data.toList (8 * f.size) k (by omega)
      have HFk := Lib.hid (HF.out k hlt)
      generalize hq : plc s.data.toList (8 * f.size) k = p at *
      have HQ := Lib.hid hq
      clear hq
      have hp8 : p / 8 < f.size := by omega
      have tb := test4 f p hp8
      have w8 : IntKind.i64.wrap ((p : Int) / 8) = ((p / 8 : Nat) : Int) := by rw [show (p : Int) / 8 = ((p / 8 : Nat) : Int) by omega]; exact IntWalk.i64_in _ (by omega)
      have b8 : (p : Int) / 8 < (f.size : Int) := by omega
      have n8 : (0 : Int) ≤ (p : Int) / 8 := by omega
      have t8 : ((p : Int) / 8).toNat = p / 8 := by omega
      have m8 : (0 : Int) ≤ (p : Int) % 8 := by omega
      have r8 : ((p : Int) % 8).toNat = p % 8 := by omega
      cases hb : bitAt f.data.toList p
      · rw [hb] at tb
        have hfin := HFk.out hb
        have HFin := Lib.hid hfin
        clear hb hfin HFk
        go_wp2
        go_quiet (fail)
        go_wp2
        go_ret
        exact ⟨ret_bool HFin.out.symm, below_drewN (below_drewN hbel _) _⟩
      · rw [hb] at tb
        have HB := Lib.hid hb
        clear hb HFk
        go_wp2
        go_quiet (fail)
        go_wp2
        go_roundw
        case rel => exact ⟨k + 1, by omega, by go_num, ⟨_, rfl⟩, fun j hj => by
          by_cases h : j = k
          · rw [h, HQ.out, HB.out]
          · exact HA.out j (by omega)⟩
        case measure => simp [intOf]; omega
    · obtain rfl : k = 6 := by omega
      have hfin := HT.out HA.out
      have HFin := Lib.hid hfin
      clear hfin
      go_wp2
      go_ret
      exact ⟨ret_bool HFin.out.symm, below_drewN hbel _⟩
theorem has_any (f s : ByteArray) (w : World) (hs : s.size ≤ maxLen) (hn : Nibs w) (h2 : f.size ≤ 134217728) :
    Calls Tryd.prog 22 #[.string f, .string s] w fun e w' => e = .returned (.bool (has f.data.toList s.data.toList)) ∧ Below w.heap.size w w' := by
  by_cases h1 : 1 ≤ f.size
  · exact has_some_any f s w hs hn h1 h2
  · have hz : f.size = 0 := by omega
    have hF := has_none f.data.toList s.data.toList hz
    have HF := Lib.hid hF
    have HM := Lib.hid hs
    have HN := Lib.hid hn
    clear hF hs hn h1
    go_enter Tryd.func22, Tryd.ntmps22
    go_wp2_with fail
    refine (places_none0 s _ _ (by omega)).mono ?_
    rintro e w1 ⟨rfl, rfl⟩
    go_wp2
    go_loop [7, 18] (fun _ i => i = .int .i64 0) (fun _ _ => 0)
    case atStart => rfl
    case round =>
      obtain rfl := hrel
      go_wp2
      go_ret
      exact ⟨ret_bool HF.out.symm, Below.refl _ _⟩
theorem refHas_any (f s : ByteArray) (w : World) (hs : s.size ≤ maxLen) (h2 : f.size ≤ 134217728) :
    Calls Tryd.prog 23 #[.string f, .string s] w fun e w' => e = .returned (.bool (has f.data.toList s.data.toList)) ∧ Below w.heap.size w w' := by
  by_cases h1 : 1 ≤ f.size
  · exact refHas_some_any f s w hs h1 h2
  · have hz : f.size = 0 := by omega
    have hF := has_none f.data.toList s.data.toList hz
    have HF := Lib.hid hF
    clear hF hs h1
    go_enter Tryd.func23, Tryd.ntmps23
    go_wp2_with fail
    refine (refPlaces_none0 s _ _ (by omega)).mono ?_
    rintro e w1 ⟨rfl, rfl⟩
    go_wp2
    go_loop [6] (fun i => i = .int .i64 0) (fun _ => 0)
    case atStart => rfl
    case round =>
      obtain rfl := hrel
      go_wp2
      go_ret
      exact ⟨ret_bool HF.out.symm, Below.refl _ _⟩
end Go.Proofs.YtbkdlkhaeidhcaaDoor
