/-
  The walks of the document's Value, Open, All and Same.
-/
import Derived.Test.YtbkdlkhaeidhcaaDoorAllW
import Derived.BigQuiet
import Derived.Deep.RegionWith
namespace Go.Proofs.YtbkdlkhaeidhcaaDoor
open Go.RowKit Go.Deep CrcP CodecP FrameP

theorem refValue_any (s : ByteArray) (w : World) (hs : s.size ≤ 8) :
    Calls Tryd.prog 47 #[.string s] w fun e w' => e = .returned (.int .u64 (value (bl s) : Nat)) ∧ w = w' := by
  go_enter Tryd.func47, Tryd.ntmps47
  go_wp2
  go_loop [3, 4] (fun x c => ∃ k : Nat, k ≤ s.size ∧ c = .int .i64 k ∧ x = .int .u64 (value ((bl s).take k) : Nat)) (fun _ c => s.size - (intOf c).toNat)
  case atStart => exact ⟨0, by omega, rfl, rfl⟩
  case round =>
    obtain ⟨k, hk, rfl, rfl⟩ := hrel
    by_cases hlt : k < s.size
    · have hv := value_take (bl s) k hlt
      have hl := value_take_lt (bl s) k (by omega)
      rw [getD_bl s k hlt] at hv
      have hc := (s[k]).toNat_lt
      generalize value ((bl s).take k) = x at *
      have HV := Lib.hid hv
      clear hv
      go_wp2
      go_round
      case rel => exact ⟨k + 1, by omega, by go_num, by rw [HV.out]; go_num⟩
      case measure => simp [intOf]; omega
    · go_wp2
      go_ret
      exact ⟨ret_u64 (by rw [List.take_of_length_le (by show s.size ≤ k; omega)]), rfl⟩

theorem _root_.Go.RowKit.Below.drewN {B : Nat} {a w : World} (h : Below B a w) (n : Nat) : Below B a (w.drewN n) := ⟨h.os, h.tape, h.output, h.size, h.block⟩
theorem same_any (v1 v2 : Value) (ks ls : List ByteArray) (w : World) (h1 : Strs w v1 ks) (h2 : Strs w v2 ls) :
    Calls Tryd.prog 37 #[v1, v2] w fun e w' => e = .returned (.bool (decide (ks = ls))) ∧ Below w.heap.size w w' := by
  obtain ⟨a1, c1, rfl, hl1, hk1⟩ := h1
  obtain ⟨a2, c2, rfl, hl2, hk2⟩ := h2
  unfold maxLen at hl1 hl2
  have hbel0 := Below.refl w.heap.size w
  by_cases hlen : ks.length = ls.length
  · by_cases h0 : ks = []
    · subst h0
      have : ls = [] := List.length_eq_zero_iff.1 hlen.symm
      subst this
      clear hk1 hk2 hlen
      go_enter Tryd.func37, Tryd.ntmps37
      go_wp2
      go_loopw [5] (fun i wr => i = .int .i64 0 ∧ wr = w) (fun _ _ => 0)
      case atStart => exact ⟨rfl, rfl⟩
      case round =>
        obtain ⟨rfl, rfl⟩ := hrel
        go_wp2
        go_ret
        exact ⟨rfl, hbel0⟩
    · have h02 : ls ≠ [] := by intro h; subst h; exact h0 (List.length_eq_zero_iff.1 hlen)
      obtain ⟨b1, o1, rfl, hs1⟩ := hk1 h0
      obtain ⟨b2, o2, rfl, hs2⟩ := hk2 h02
      have HS1 := Lib.hid hs1
      have HS2 := Lib.hid hs2
      have lt1 := hs1.lt
      have lt2 := hs2.lt
      have HL := Lib.hid hlen
      have hle : (ks.length == ls.length) = true := by rw [beq_iff_eq]; exact hlen
      have hli : ((ks.length : Int) == (ls.length : Int)) = true := by rw [beq_iff_eq]; omega
      have hln : ((ks.length : Int) != (ls.length : Int)) = false := by rw [bne, hli]; rfl
      clear hs1 hs2 hk1 hk2 h0 h02 hle
      go_enter Tryd.func37, Tryd.ntmps37
      go_wp2
      clear hli hln hlen
      go_loopw [5] (fun i wr => ∃ k : Nat, k ≤ ks.length ∧ i = .int .i64 (k : Int) ∧ (∀ j, j < k → ks.getD j ByteArray.empty = ls.getD j ByteArray.empty) ∧ Below w.heap.size w wr) (fun i _ => ks.length - (intOf i).toNat)
      case atStart => exact ⟨0, by omega, rfl, fun j hj => by omega, hbel0⟩
      case round =>
        clear hbel0
        obtain ⟨k, hk, rfl, heq, hbel⟩ := hrel
        have HEQ := Lib.hid heq
        clear heq
        by_cases hlt : k < ks.length
        · have hlt2 : k < ls.length := by rw [← HL.out]; exact hlt
          have c1' := (HS1.out.below hbel lt1).cell k hlt
          have c2' := (HS2.out.below hbel lt2).cell k hlt2
          by_cases he : ks.getD k ByteArray.empty = ls.getD k ByteArray.empty
          · have hst : ∀ j, j < k + 1 → ks.getD j ByteArray.empty = ls.getD j ByteArray.empty := fun j hj => by
              rcases Nat.lt_or_eq_of_le (Nat.le_of_lt_succ hj) with h | h
              · exact HEQ.out j h
              · rw [h]; exact he
            have HST := Lib.hid hst
            rw [he] at c1'
            clear hst he
            generalize ls.getD k ByteArray.empty = y at *
            have q1 : (y.toList == y.toList) = true := by simp
            have q2 : (y.toList != y.toList) = false := by simp
            have g1 : (k : Int) < (ks.length : Int) := by omega
            have g2 : (k : Int) < (ls.length : Int) := by omega
            go_wp2_with fail
            go_quiet (fail)
            go_wp2
            go_roundw
            case rel => exact ⟨k + 1, by omega, by go_num, HST.out, hbel.drewN _⟩
            case measure => simp [intOf]; omega
          · have q1 : ((ks.getD k ByteArray.empty).toList == (ls.getD k ByteArray.empty).toList) = false := by
              rw [ne_str]; simp only [decide_eq_false_iff_not]; intro h; exact he (by rw [← str_bl (ks.getD k _), h, str_bl])
            have q2 : ((ks.getD k ByteArray.empty).toList != (ls.getD k ByteArray.empty).toList) = true := by rw [bne, q1]; rfl
            have hd : decide (ks = ls) = false := by
              rw [decide_eq_false_iff_not]; intro h; rw [h] at he; exact he rfl
            have HD := Lib.hid hd
            clear he hd
            generalize ls.getD k ByteArray.empty = y at *
            generalize ks.getD k ByteArray.empty = x at *
            have g1 : (k : Int) < (ks.length : Int) := by omega
            have g2 : (k : Int) < (ls.length : Int) := by omega
            go_wp2_with fail
            go_quiet (fail)
            go_wp2
            go_ret
            exact ⟨by rw [HD.out]; rfl, hbel.drewN _⟩
        · have hd : decide (ks = ls) = true := by
            rw [decide_eq_true_eq]
            apply List.ext_getElem HL.out
            intro j h1 h2
            have := HEQ.out j (by omega)
            rw [List.getD_eq_getElem?_getD, List.getD_eq_getElem?_getD, List.getElem?_eq_getElem h1, List.getElem?_eq_getElem h2] at this
            simpa using this
          have HD := Lib.hid hd
          clear hd
          go_wp2
          go_ret
          exact ⟨by rw [HD.out]; rfl, hbel⟩
  · have hd : decide (ks = ls) = false := by
      rw [decide_eq_false_iff_not]; intro h; rw [h] at hlen; exact hlen rfl
    have HD := Lib.hid hd
    have hli : ((ks.length : Int) == (ls.length : Int)) = false := by rw [beq_eq_false_iff_ne]; omega
    have hln : ((ks.length : Int) != (ls.length : Int)) = true := by rw [bne, hli]; rfl
    clear hlen hd hk1 hk2
    go_enter Tryd.func37, Tryd.ntmps37
    go_wp2
    go_ret
    exact ⟨by rw [HD.out]; rfl, hbel0⟩

theorem frame_cut (s : List UInt8) (n : Nat) (h1 : 12 + n ≤ s.length) (hv : value (s.take 4) = n) (hl : laid (s.take 4) = (s.drop 4).take 4) :
    decide (frame ((s.drop 8).take n) = s.take (12 + n)) = decide (laid ((s.drop 8).take n) = (s.drop (8 + n)).take 4) := by
  have h4 : (s.take 4).length = 4 := by rw [List.length_take]; omega
  have hdl : ((s.drop 8).take n).length = n := by rw [List.length_take, List.length_drop]; omega
  have e1 : be4 ((s.drop 8).take n).length = s.take 4 := by
    rw [hdl, ← hv]
    have := fixed_value (s.take 4)
    rw [h4] at this
    exact this
  have e2 : s.take (12 + n) = s.take 4 ++ (s.drop 4).take 4 ++ (s.drop 8).take n ++ (s.drop (8 + n)).take 4 := by
    rw [show 12 + n = 4 + (4 + (n + 4)) by omega, List.take_add, List.take_add, List.take_add, List.drop_drop, List.drop_drop]
    simp [List.append_assoc]
  unfold frame
  rw [e1, e2, hl]
  rw [decide_eq_decide]
  constructor
  · intro h; exact List.append_cancel_left h
  · intro h; rw [h]

end Go.Proofs.YtbkdlkhaeidhcaaDoor
