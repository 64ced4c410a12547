/-
  The walk of awake of the laws of crc.
-/
import Derived.Test.YtbkdlkhaeidhcaaDoorCrcOpenW
namespace Go.Proofs.YtbkdlkhaeidhcaaDoor
open Go.RowKit Go.Deep CrcP CodecP FrameP

theorem check_sum : (CrcP.sum [49, 50, 51, 52, 53, 54, 55, 56, 57]).toNat = 3808858755 := by decide +kernel
theorem check_u : u (CrcP.sum [49, 50, 51, 52, 53, 54, 55, 56, 57]) = 3808858755 := by unfold u; rw [check_sum]; rfl
theorem crcAwake_any (w : World) (hn : Nibs w) :
    Calls Tryd.prog 29 #[] w fun e w' => e = .returned (.bool true) ∧ Below w.heap.size w w' := by
  have HN := Lib.hid hn
  clear hn
  have hO : opnV (opn (bl (str (frame [97, 98])))) = .tuple #[.string { data := #[97, 98] }, .int .i64 14, .int .i64 0] := by
    rw [bl_str]
    have := opn_frame [97, 98] [] (by decide)
    rw [List.append_nil] at this
    rw [this]; rfl
  have hsz : (str (frame [97, 98])).size ≤ 1099511627776 := by rw [str_size, frame_length]; decide
  have hF : ∀ W : World, Nibs W → Calls Tryd.prog 30 #[.string { data := #[97, 98] }] W fun e w' => e = .returned (.tuple #[.string (str (frame [97, 98])), .bool true]) ∧ Below W.heap.size W w' :=
    fun W hW => frame_any { data := #[97, 98] } W (by decide) hW
  have hS : ∀ W : World, Nibs W → Calls Tryd.prog 24 #[.string { data := #[49, 50, 51, 52, 53, 54, 55, 56, 57] }] W fun e w' => e = .returned (.int .u32 3808858755) ∧ W = w' := by
    intro W hW
    refine (sum_any { data := #[49, 50, 51, 52, 53, 54, 55, 56, 57] } W (by unfold maxLen; decide) hW).mono ?_
    rintro e w' ⟨rfl, rfl⟩
    exact ⟨ret_u32 check_u, rfl⟩
  have hOp := fun (W : World) (hW : Nibs W) => open_any (str (frame [97, 98])) W hsz hW
  rw [hO] at hOp
  have HF := Lib.hid hF
  have HS := Lib.hid hS
  have HO := Lib.hid hOp
  clear hF hS hOp hO hsz
  go_enter Tryd.func29, Tryd.ntmps29
  go_wp2_with fail
  refine (HF.out _ HN.out).mono ?_
  rintro e w1 ⟨rfl, hb1⟩
  go_wp2_with fail
  refine (HO.out _ (HN.out.below hb1)).mono ?_
  rintro e w2 ⟨rfl, hb2⟩
  have hbel := hb1.trans (hb2.mono hb1.size)
  clear hb1 hb2
  go_wp2_with fail
  refine (HS.out _ (HN.out.below hbel)).mono ?_
  rintro e w3 ⟨rfl, rfl⟩
  go_wp2
  go_ret
  exact ⟨rfl, hbel⟩
end Go.Proofs.YtbkdlkhaeidhcaaDoor
