/-
  The walk of crc.More and of the document's own sum.
-/
import Derived.Test.YtbkdlkhaeidhcaaDoorRows
import Derived.Test.YtbkdlkhaeidhcaaDoorCrcP
import Derived.WalkKit
import Derived.WalkSpells
import Derived.WalkLawsBesides
import Derived.Laws.BitsAllLaws
import Derived.Outline
import Derived.Lib.Hide
namespace Go.Proofs.YtbkdlkhaeidhcaaDoor
open Go.RowKit CrcP

/-- The table of four bits lies where it was laid. -/
def Nibs (w : World) : Prop := ∀ i, i < 16 → w.cell? ⟨0, i, none⟩ = some (.int .u32 ((nibs.getD i 0 : Nat) : Int))

/-- A number of 32 bits, as the walk holds it. -/
def u (v : BitVec 32) : Int := (v.toNat : Int)
def bv (c : UInt8) : BitVec 32 := BitVec.ofNat 32 c.toNat
theorem u_not (v : BitVec 32) : bits .xor .u32 IntKind.u32.max (u v) = u (~~~v) := by
  have := v.isLt
  unfold u
  rw [show IntKind.u32.max = ((4294967295 : Nat) : Int) from rfl, u32_xor_nat _ _ (by decide) this]
  congr 1
theorem u_xor (v t : BitVec 32) : bits .xor .u32 (u v) (u t) = u (v ^^^ t) := by
  have := v.isLt
  have := t.isLt
  unfold u
  rw [u32_xor_nat _ _ (by omega) (by omega), BitVec.toNat_xor]
theorem u_bv (c : UInt8) : (c.toNat : Int) % 4294967296 = u (bv c) := by
  have := c.toNat_lt
  unfold u bv
  rw [BitVec.toNat_ofNat]; omega
theorem u_and15 (v : BitVec 32) : bits .and .u32 (u v) 15 = ((v.toNat % 16 : Nat) : Int) := by
  have := v.isLt
  unfold u
  rw [show (15 : Int) = ((15 : Nat) : Int) from rfl, u32_and_nat _ _ (by omega) (by decide), nat_mask4]
theorem u_nib (v : BitVec 32) : bits .xor .u32 (u v / 16) ((nibs.getD (v.toNat % 16) 0 : Nat) : Int) = u (nib v) := by
  have := v.isLt
  have h1 := nibs_lt ⟨v.toNat % 16, Nat.mod_lt _ (by omega)⟩
  unfold u
  rw [nib_toNat, show (v.toNat : Int) / 16 = ((v.toNat / 16 : Nat) : Int) by omega, u32_xor_nat _ _ (by omega) h1]
  rfl
theorem take_snoc (s : ByteArray) (k : Nat) (h : k < s.size) : s.data.toList.take (k + 1) = s.data.toList.take k ++ [s[k]] := by
  rw [List.take_succ_eq_append_getElem (by simpa using h)]; rfl
theorem ret_u {a b : BitVec 32} (h : a = b) : Ending.returned (.int .u32 (u a)) = .returned (.int .u32 (u b)) := by rw [h]

set_option maxHeartbeats 400000 in
theorem more_any (sum : BitVec 32) (s : ByteArray) (w : World) (hs : s.size ≤ maxLen) (hn : Nibs w) :
    Calls Tryd.prog 26 #[.int .u32 (u sum), .string s] w fun e w' => e = .returned (.int .u32 (u (more sum s.data.toList))) ∧ w = w' := by
  unfold maxLen at hs
  have e0 := u_not sum
  go_enter Tryd.func26, Tryd.ntmps26
  go_wp2
  clear e0
  go_loop [5, 11] (fun r i => ∃ k : Nat, k ≤ s.size ∧ i = .int .i64 k ∧ r = .int .u32 (u (reg (~~~sum) (s.data.toList.take k)))) (fun _ i => s.size - (intOf i).toNat)
  case atStart => exact ⟨0, Nat.zero_le _, rfl, rfl⟩
  case round =>
    obtain ⟨k, hk, rfl, rfl⟩ := hrel
    by_cases hlt : k < s.size
    · have HT := Lib.hid (take_snoc s k hlt)
      generalize hv : reg (~~~sum) (s.data.toList.take k) = v
      have hR := Lib.hid hv
      clear hv
      have e1 := u_bv s[k]
      have e2 := u_xor v (bv s[k])
      generalize hv1 : v ^^^ bv s[k] = v1 at *
      have e3 := u_and15 v1
      have l1 : v1.toNat % 16 < 16 := Nat.mod_lt _ (by omega)
      have c1 := hn _ l1
      have e4 := u_nib v1
      generalize v1.toNat % 16 = i1 at *
      generalize hv2 : nib v1 = v2 at *
      have e5 := u_and15 v2
      have l2 : v2.toNat % 16 < 16 := Nat.mod_lt _ (by omega)
      have c2 := hn _ l2
      have e6 := u_nib v2
      generalize v2.toNat % 16 = i2 at *
      generalize hv3 : nib v2 = v3 at *
      generalize nibs.getD i1 0 = n1 at *
      generalize nibs.getD i2 0 = n2 at *
      have H1 := Lib.hid hv1
      have H2 := Lib.hid hv2
      have H3 := Lib.hid hv3
      clear hv1 hv2 hv3 hn
      go_wp2
      go_round
      case rel => exact ⟨k + 1, by omega, by go_num, by rw [HT.out, reg_snoc, hR.out, ← byt_nib]; unfold bv at H1; rw [H1.out, H2.out, H3.out]⟩
      case measure => simp [intOf]; omega
    · have e7 := u_not (reg (~~~sum) (s.data.toList.take k))
      go_wp2
      go_ret
      exact ⟨ret_u (by rw [List.take_of_length_le (by simp; omega)]; rfl), rfl⟩
end Go.Proofs.YtbkdlkhaeidhcaaDoor
