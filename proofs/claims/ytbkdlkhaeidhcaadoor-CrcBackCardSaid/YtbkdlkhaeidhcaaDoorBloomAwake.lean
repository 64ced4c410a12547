/-
  The walks of awake and great of the laws of bloom.
-/
import Derived.Test.YtbkdlkhaeidhcaaDoorRefMakeW
namespace Go.Proofs.YtbkdlkhaeidhcaaDoor
open Go.RowKit Go.Deep CrcP BloomP

theorem awake_any (w : World) (hn : Nibs w) :
    Calls Tryd.prog 14 #[] w fun e w' => e = .returned (.bool true) ∧ Below w.heap.size w w' := by
  have h6 : ((bitsOf 6 : Nat) : Int) = 64 := rfl
  have h7 : ((bitsOf 7 : Nat) : Int) = 72 := rfl
  have h0 : str (make []) = { data := #[0, 0, 0, 0, 0, 0, 0, 0] } := rfl
  have hk := has_make [[107]] [107] (by simp)
  have HK := Lib.hid hk
  have HN := Lib.hid hn
  clear hk hn
  go_enter Tryd.func14, Tryd.ntmps14
  go_wp2_with fail
  refine (bits_any _ _).mono ?_
  rintro e w1 ⟨rfl, rfl⟩
  rw [h6]
  go_wp2_with fail
  refine (bits_any _ _).mono ?_
  rintro e w1 ⟨rfl, rfl⟩
  rw [h7]
  go_wp2_with fail
  refine (make_none _ _ _).mono ?_
  rintro e w1 ⟨rfl, hb1⟩
  rw [h0]
  clear h6 h7 h0
  go_wp2_with fail
  refine (make_some _ 0 _ [⟨#[107]⟩] _ ⟨fun i hi => ?_, by simp, fun i hi => ?_⟩ ?_ (by simp [maxLen])).mono ?_
  · obtain rfl : i = 0 := by simpa using hi
    simp
  · obtain rfl : i = 0 := by simpa using hi
    show 1 ≤ maxLen
    unfold maxLen; omega
  · exact HN.out.below (hb1.alloc hb1.size _)
  rintro e w2 ⟨rfl, hb2⟩
  have hbel : Below w.heap.size w w2 := (hb1.alloc hb1.size _).trans (hb2.mono (by simp; have := hb1.size; omega))
  clear hb1 hb2
  have hsz : (str (make [[107]])).size ≤ 134217728 := by
    obtain ⟨n, hb, h1, h2⟩ := bitsOf_eq 1
    have : (str (make [[107]])).size = n := by
      show (make [[107]]).toArray.size = n
      rw [List.size_toArray]
      unfold make
      rw [pack_length]
      show bitsOf 1 / 8 = n
      have : bitsOf (1 : Nat) = bitsOf 1 := rfl
      omega
    omega
  have hc : bl (str (make [[107]])) = make [[107]] := bl_str _
  have hr : str (make (bls [⟨#[107]⟩])) = str (make [[107]]) := rfl
  rw [hr]
  have hfin : has (bl (str (make [[107]]))) (bl ⟨#[107]⟩) = true := by rw [hc]; exact HK.out
  have HF := Lib.hid hfin
  have HZ := Lib.hid hsz
  clear hr hc hfin hsz HK
  generalize str (make [[107]]) = F at *
  go_wp2_with fail
  refine (has_any F ⟨#[107]⟩ _ (by show 1 ≤ maxLen; unfold maxLen; omega) (HN.out.below hbel) HZ.out).mono ?_
  rintro e w3 ⟨rfl, hb3⟩
  have hr : has F.data.toList [107] = true := HF.out
  have hbel2 := hbel.trans (hb3.mono hbel.size)
  clear hbel hb3
  go_wp2
  go_ret
  exact ⟨rfl, hbel2⟩

/-- Is there more than is asked of? -/
def greatB (ks : List ByteArray) : Bool := decide (300 < ks.length) || ks.any fun k => decide (300 < k.size)
theorem greatB_long (ks : List ByteArray) (h : 300 < ks.length) : greatB ks = true := by unfold greatB; simp [h]
theorem greatB_one (ks : List ByteArray) (k : Nat) (hk : k < ks.length) (h : 300 < (ks.getD k ByteArray.empty).size) : greatB ks = true := by
  unfold greatB
  have : (ks.any fun k => decide (300 < k.size)) = true := by
    rw [List.any_eq_true]
    refine ⟨ks.getD k ByteArray.empty, ?_, by simpa using h⟩
    rw [List.getD_eq_getElem?_getD, List.getElem?_eq_getElem hk]; simp
  rw [this]; simp
theorem greatB_no (ks : List ByteArray) (h : ¬ 300 < ks.length) (h2 : ∀ k, k < ks.length → ¬ 300 < (ks.getD k ByteArray.empty).size) : greatB ks = false := by
  unfold greatB
  have : (ks.any fun k => decide (300 < k.size)) = false := by
    rw [List.any_eq_false]
    intro x hx
    obtain ⟨i, hi, rfl⟩ := List.getElem_of_mem hx
    have := h2 i hi
    rw [List.getD_eq_getElem?_getD, List.getElem?_eq_getElem hi] at this
    simpa using this
  rw [this]; simpa using h
theorem great_any (v : Value) (ks : List ByteArray) (w : World) (hk : Strs w v ks) :
    Calls Tryd.prog 19 #[v] w fun e w' => e = .returned (.bool (greatB ks)) ∧ w = w' := by
  obtain ⟨ao, cap, rfl, hl, hk⟩ := hk
  unfold maxLen at hl
  by_cases hlong : 300 < ks.length
  · have hg := greatB_long ks hlong
    have HG := Lib.hid hg
    clear hk hg
    go_enter Tryd.func19, Tryd.ntmps19
    go_wp2
    go_ret
    exact ⟨ret_bool HG.out.symm, rfl⟩
  · have HN := Lib.hid (greatB_no ks hlong)
    have HO := Lib.hid (greatB_one ks)
    have HK := Lib.hid hk
    clear hk
    go_enter Tryd.func19, Tryd.ntmps19
    go_wp2
    go_loop [3] (fun i => ∃ k : Nat, k ≤ ks.length ∧ i = .int .i64 k ∧ ∀ j, j < k → ¬ 300 < (ks.getD j ByteArray.empty).size) (fun i => ks.length - (intOf i).toNat)
    case atStart => exact ⟨0, by omega, rfl, by omega⟩
    case round =>
      obtain ⟨k, hkl, rfl, hall⟩ := hrel
      have HA := Lib.hid hall
      clear hall
      by_cases hlt : k < ks.length
      · obtain ⟨b, off, rfl, hks⟩ := HK.out (by intro e; subst e; simp at hlt)
        have c0 := hks.cell k hlt
        have hsz := hks.size k hlt
        have HOk := Lib.hid (HO.out k hlt)
        have HQ := Lib.hid (rfl : ks.getD k ByteArray.empty = ks.getD k ByteArray.empty)
        clear hks
        generalize hq : ks.getD k ByteArray.empty = key at *
        have HE := Lib.hid hq
        clear hq HQ
        unfold maxLen at hsz
        by_cases hz : 300 < key.size
        · have hfin := Lib.hid (HOk.out hz)
          clear HOk
          go_wp2
          go_ret
          exact ⟨ret_bool hfin.out.symm, rfl⟩
        · clear HOk
          go_wp2
          go_round
          case rel => exact ⟨k + 1, by omega, by go_num, fun j hj => by
            by_cases e : j = k
            · rw [e, HE.out]; exact hz
            · exact HA.out j (by omega)⟩
          case measure => simp [intOf]; omega
      · have hfin := Lib.hid (HN.out (fun j hj => HA.out j (by omega)))
        go_wp2
        go_ret
        exact ⟨ret_bool hfin.out.symm, rfl⟩
end Go.Proofs.YtbkdlkhaeidhcaaDoor
