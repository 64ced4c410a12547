/-
  The walk of the law CrcPieces.
-/
import Derived.Test.YtbkdlkhaeidhcaaDoorCrcTurn2W
namespace Go.Proofs.YtbkdlkhaeidhcaaDoor
open Go.RowKit Go.Deep CrcP CodecP FrameP

def MixTo (a b c : List UInt8) (n i : Nat) (m : List UInt8) : Prop := m.length = n ∧ ∀ j, j < n → m.getD j 0 = if j < i then a.getD j 0 ^^^ b.getD j 0 ^^^ c.getD j 0 else a.getD j 0
theorem getD_take (l : List UInt8) (n j : Nat) (h : j < n) : (l.take n).getD j 0 = l.getD j 0 := by
  simp [List.getD_eq_getElem?_getD, h]
theorem MixTo.start (a b c : List UInt8) (n : Nat) (h : n ≤ a.length) : MixTo a b c n 0 (a.take n) :=
  ⟨by rw [List.length_take]; omega, fun j hj => by rw [if_neg (by omega), getD_take _ _ _ hj]⟩
theorem MixTo.step {a b c m : List UInt8} {n i : Nat} (h : MixTo a b c n i m) (hi : i < n) : MixTo a b c n (i + 1) (m.set i (a.getD i 0 ^^^ b.getD i 0 ^^^ c.getD i 0)) := by
  refine ⟨by rw [List.length_set, h.1], fun j hj => ?_⟩
  by_cases e : j = i
  · subst e
    rw [if_pos (by omega)]
    simp [List.getD_eq_getElem?_getD, h.1, hi]
  · have : (m.set i (a.getD i 0 ^^^ b.getD i 0 ^^^ c.getD i 0)).getD j 0 = m.getD j 0 := by
      simp [List.getD_eq_getElem?_getD, List.getElem?_set_ne (Ne.symm e)]
    rw [this, h.2 j hj]
    by_cases a1 : j < i
    · rw [if_pos a1, if_pos (by omega)]
    · rw [if_neg a1, if_neg (by omega)]
theorem MixTo.eq {a b c m : List UInt8} {n : Nat} (h : MixTo a b c n n m) (ha : n ≤ a.length) (hb : n ≤ b.length) (hc : n ≤ c.length) : m = xorL (xorL (a.take n) (b.take n)) (c.take n) := by
  have la : (a.take n).length = n := by rw [List.length_take]; omega
  have lb : (b.take n).length = n := by rw [List.length_take]; omega
  have lc : (c.take n).length = n := by rw [List.length_take]; omega
  have l1 : (xorL (a.take n) (b.take n)).length = n := by rw [xorL_length _ _ (by rw [la, lb]), la]
  have l2 : (xorL (xorL (a.take n) (b.take n)) (c.take n)).length = n := by rw [xorL_length _ _ (by rw [l1, lc]), l1]
  apply List.ext_getElem?
  intro j
  by_cases hj : j < n
  · have h1 := h.2 j hj
    rw [if_pos hj] at h1
    have e1 : m[j]? = some (m.getD j 0) := by rw [List.getD_eq_getElem?_getD, List.getElem?_eq_getElem (by rw [h.1]; exact hj)]; simp
    have e2 : (xorL (xorL (a.take n) (b.take n)) (c.take n))[j]? = some ((xorL (xorL (a.take n) (b.take n)) (c.take n)).getD j 0) := by rw [List.getD_eq_getElem?_getD, List.getElem?_eq_getElem (by rw [l2]; exact hj)]; simp
    rw [e1, e2, h1, xorL_get _ _ j (by rw [l1]; exact hj) (by rw [lc]; exact hj), xorL_get _ _ j (by rw [la]; exact hj) (by rw [lb]; exact hj), getD_take _ _ _ hj, getD_take _ _ _ hj, getD_take _ _ _ hj]
  · rw [List.getElem?_eq_none (by rw [h.1]; omega), List.getElem?_eq_none (by rw [l2]; omega)]
theorem not3 (a b c : BitVec 32) : ~~~a ^^^ ~~~b ^^^ ~~~c = ~~~(a ^^^ b ^^^ c) := by
  apply BitVec.eq_of_getLsbD_eq
  intro i hi
  simp only [BitVec.getLsbD_xor, BitVec.getLsbD_not, hi, decide_true, Bool.true_and]
  cases a.getLsbD i <;> cases b.getLsbD i <;> cases c.getLsbD i <;> rfl
theorem sum_three (a b c : List UInt8) (h1 : a.length = b.length) (h2 : a.length = c.length) : CrcP.sum (xorL (xorL a b) c) = CrcP.sum a ^^^ CrcP.sum b ^^^ CrcP.sum c := by
  unfold CrcP.sum CrcP.more
  rw [not3]
  congr 1
  generalize ~~~(0#32 : BitVec 32) = o
  have e : o = o ^^^ o ^^^ o := by rw [BitVec.xor_self, BitVec.zero_xor]
  rw [← reg_xor _ _ _ _ h1, ← reg_xor _ _ _ _ (by rw [xorL_length _ _ h1]; exact h2)]
  rw [← e]
theorem getD_bl (s : ByteArray) (i : Nat) (h : i < s.size) : (bl s).getD i 0 = s[i] := by
  have : i < (bl s).length := h
  rw [List.getD_eq_getElem?_getD, List.getElem?_eq_getElem this]
  rfl
theorem xor8 (a b : UInt8) : bits .xor .u8 (a.toNat : Int) (b.toNat : Int) = ((a ^^^ b).toNat : Int) := by
  rw [u8_xor_nat _ _ a.toNat_lt b.toNat_lt, UInt8.toNat_xor]

theorem crcPieces_short (a b c : ByteArray) (w : World) (h : 2000 < a.size ∨ 2000 < b.size ∨ 2000 < c.size) (ha : a.size ≤ maxLen) (hb : b.size ≤ maxLen) (hc : c.size ≤ maxLen) (hn : Nibs w) :
    Calls Tryd.prog 11 #[.string a, .string b, .string c] w fun e w' => e = .returned (.bool true) ∧ Below w.heap.size w w' := by
  have HN := Lib.hid hn
  unfold maxLen at ha hb hc
  clear hn
  by_cases h1 : 2000 < a.size
  · clear h
    go_enter Tryd.func11, Tryd.ntmps11
    go_wp2_with fail
    refine (crcAwake_any _ HN.out).mono ?_
    rintro e w1 ⟨rfl, hb⟩
    go_wp2
    go_ret
    exact ⟨rfl, hb⟩
  · by_cases h2 : 2000 < b.size
    · clear h
      go_enter Tryd.func11, Tryd.ntmps11
      go_wp2_with fail
      refine (crcAwake_any _ HN.out).mono ?_
      rintro e w1 ⟨rfl, hb⟩
      go_wp2
      go_ret
      exact ⟨rfl, hb⟩
    · have h3 : 2000 < c.size := by omega
      clear h
      go_enter Tryd.func11, Tryd.ntmps11
      go_wp2_with fail
      refine (crcAwake_any _ HN.out).mono ?_
      rintro e w1 ⟨rfl, hb⟩
      go_wp2
      go_ret
      exact ⟨rfl, hb⟩
end Go.Proofs.YtbkdlkhaeidhcaaDoor
