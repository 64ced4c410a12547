/-
  The walk of the law CrcPieces: the main road.
-/
import Derived.Test.YtbkdlkhaeidhcaaDoorCrcPieceW
import Derived.StillTailTactics
namespace Go.Proofs.YtbkdlkhaeidhcaaDoor
open Go.RowKit Go.Deep CrcP CodecP FrameP

theorem bl_take (a : ByteArray) (n : Nat) : bl (a.extract 0 n) = (bl a).take n := by rw [ext_bl]; simp
set_option maxHeartbeats 1000000 in
theorem crcPieces_main (a b c : ByteArray) (w : World) (ha : a.size ≤ 2000) (hb : b.size ≤ 2000) (hc : c.size ≤ 2000) (hn : Nibs w) :
    Calls Tryd.prog 11 #[.string a, .string b, .string c] w fun e w' => e = .returned (.bool true) ∧ Below w.heap.size w w' := by
  have HN := Lib.hid hn
  clear hn
  obtain ⟨m, hm⟩ : ∃ m : Nat, m = if b.size < a.size then b.size else a.size := ⟨_, rfl⟩
  obtain ⟨n, hn⟩ : ∃ n : Nat, n = if c.size < m then c.size else m := ⟨_, rfl⟩
  have e1 : (if b.size < a.size then (b.size : Int) else (a.size : Int)) = (m : Int) := by rw [hm]; split <;> rfl
  have e2 : (if c.size < m then (c.size : Int) else (m : Int)) = (n : Int) := by rw [hn]; split <;> rfl
  have ma : m ≤ a.size := by split at hm <;> omega
  have mb : m ≤ b.size := by split at hm <;> omega
  have na : n ≤ a.size := by split at hn <;> omega
  have nb : n ≤ b.size := by split at hn <;> omega
  have nc : n ≤ c.size := by split at hn <;> omega
  clear hm hn ma mb
  have hcv := fun W => Lib.run_convert_string_bytes (P := Tryd.prog) W 9 45 5 (a.extract 0 n) Tryd.underlying9 Tryd.underlying45 Tryd.underlying5
  have hsz : (a.extract 0 n).size = n := by simp; omega
  rw [hsz] at hcv
  have hA := bl_take a n
  clear hsz
  go_enter Tryd.func11, Tryd.ntmps11
  go_wp2
  clear hcv e1 e2
  have hrow0 := BRow.new (Below.refl w.heap.size w) (a.extract 0 n)
  rw [hA] at hrow0
  clear hA
  generalize Lib.bytesWorld w 5 (a.extract 0 n) = W at *
  generalize grownCap w n 0 5 = cap at *

  go_loopw [9] (fun i wr => ∃ (k : Nat) (m : List UInt8), k ≤ n ∧ i = .int .i64 (k : Int) ∧ MixTo (bl a) (bl b) (bl c) n k m ∧ BRow w wr w.heap.size m) (fun i _ => n - (intOf i).toNat)
  case atStart => exact ⟨0, _, by omega, rfl, MixTo.start _ _ _ n na, hrow0⟩
  case round =>
    clear hrow0
    obtain ⟨k, x, hk, rfl, ht, hrow⟩ := hrel
    by_cases hlt : k < n
    · have ka : k < a.size := by omega
      have kb : k < b.size := by omega
      have kc : k < c.size := by omega
      have c1 := hrow.cell k (by rw [ht.1]; exact hlt)
      have f1 := hrow.free k (by rw [ht.1]; exact hlt)
      have g1 := xor8 a[k] b[k]
      have g2 := xor8 (a[k] ^^^ b[k]) c[k]
      have hset := hrow.set k (by rw [ht.1]; exact hlt) (a[k] ^^^ b[k] ^^^ c[k])
      have hst := ht.step hlt
      rw [getD_bl a k (by omega), getD_bl b k (by omega), getD_bl c k (by omega)] at hst
      generalize hab : a[k] ^^^ b[k] = ab at *
      generalize ab ^^^ c[k] = y at *
      clear hab
      have HSET := Lib.hid hset
      have HST := Lib.hid hst
      clear hset hst ht hrow
      go_wp2
      go_region
      go_wp2
      go_roundw
      case rel => exact ⟨k + 1, _, by omega, by go_num, HST.out, HSET.out.drew⟩
      case measure => simp [intOf]; omega
    · obtain rfl : k = n := by omega
      have hcvt := hrow.drew.text cap
      rw [ht.1] at hcvt
      have hbel := hrow.drew.below
      have hx := ht.eq na nb nc
      have hsx : (str x).size ≤ maxLen := small _ (by rw [str_size, ht.1]; omega)
      have R1 := fun W hW => sum_any (str x) W hsx hW
      have hs3 : u (CrcP.sum (str x).data.toList) = bits .xor .u32 (bits .xor .u32 (u (CrcP.sum (a.extract 0 k).data.toList)) (u (CrcP.sum (b.extract 0 k).data.toList))) (u (CrcP.sum (c.extract 0 k).data.toList)) := by
        rw [show (str x).data.toList = x from bl_str x, hx, sum_three _ _ _ (by simp only [List.length_take]; show min k a.size = min k b.size; omega) (by simp only [List.length_take]; show min k a.size = min k c.size; omega), ← bl_take, ← bl_take, ← bl_take, u_xor, u_xor]
        rfl
      rw [hs3] at R1
      clear hs3
      have RA := fun W hW => sum_any a W (small _ (by omega)) hW
      have RB := fun W hW => more_any (CrcP.sum (bl a)) b W (small _ (by omega)) hW
      have hab : (a ++ b).size = a.size + b.size := by simp
      have RC := fun W hW => sum_any (a ++ b) W (small _ (by omega)) hW
      have eab : CrcP.sum (a ++ b).data.toList = more (CrcP.sum (bl a)) b.data.toList := by
        show CrcP.sum (bl (a ++ b)) = _
        rw [bl_append]
        exact more_append _ _ _
      rw [eab] at RC
      have h3a : (a.extract 0 k).size ≤ maxLen := small _ (by simp; omega)
      have h3b : (b.extract 0 k).size ≤ maxLen := small _ (by simp; omega)
      have h3c : (c.extract 0 k).size ≤ maxLen := small _ (by simp; omega)
      have RX := fun W hW => sum_any (a.extract 0 k) W h3a hW
      have RY := fun W hW => sum_any (b.extract 0 k) W h3b hW
      have RZ := fun W hW => sum_any (c.extract 0 k) W h3c hW
      have HR1 := Lib.hid R1
      have HRA := Lib.hid RA
      have HRB := Lib.hid RB
      have HRC := Lib.hid RC
      have HRX := Lib.hid RX
      have HRY := Lib.hid RY
      have HRZ := Lib.hid RZ
      clear R1 RA RB RC RX RY RZ eab hab hx hrow hsx h3a h3b h3c ht
      have hN := Lib.hid (HN.out.below hbel)
      go_wp2_with fail
      refine wp_region_still_tail 30 (by kernel_rfl) (by kernel_rfl) ?_
      simp only [List.take_succ_cons, List.take_zero, List.drop_succ_cons, List.drop_zero]
      change wpStill _ _ wr.drew (fun a' => wpList _ _ _ _ a' wr.drew) _ _
      generalize wr.drew = wd at *
      have q1 : (u (more (CrcP.sum (bl a)) b.data.toList) == u (more (CrcP.sum (bl a)) b.data.toList)) = true := by simp
      have hcat : ¬ 9223372036854775807 < a.size + b.size := by omega
      repeat still_step
      still_call ((HRA.out _ hN.out).mono (fun e w' h => ⟨h.1, h.2.symm⟩))
      repeat still_step
      still_call ((HRB.out _ hN.out).mono (fun e w' h => ⟨h.1, h.2.symm⟩))
      repeat still_step
      still_call ((HRC.out _ hN.out).mono (fun e w' h => ⟨h.1, h.2.symm⟩))
      generalize u (more (CrcP.sum (bl a)) b.data.toList) = z at *
      repeat still_step
      still_call ((HR1.out _ hN.out).mono (fun e w' h => ⟨h.1, h.2.symm⟩))
      repeat still_step
      still_call ((HRX.out _ hN.out).mono (fun e w' h => ⟨h.1, h.2.symm⟩))
      repeat still_step
      still_call ((HRY.out _ hN.out).mono (fun e w' h => ⟨h.1, h.2.symm⟩))
      repeat still_step
      still_call ((HRZ.out _ hN.out).mono (fun e w' h => ⟨h.1, h.2.symm⟩))
      repeat still_step
      have q2 : ∀ z : Int, (z == z) = true := by intro z; simp
      generalize bits .xor .u32 (bits .xor .u32 (u (CrcP.sum (a.extract 0 k).data.toList)) (u (CrcP.sum (b.extract 0 k).data.toList))) (u (CrcP.sum (c.extract 0 k).data.toList)) = z2 at *
      repeat still_step
      refine wpStill_nil ?_
      go_wp2_with fail
      refine (crcAwake_any _ hN.out).mono ?_
      rintro e w1 ⟨rfl, hb⟩
      go_wp2
      go_ret
      exact ⟨rfl, hbel.trans (hb.mono hbel.size)⟩
theorem crcPieces_law (a b c : ByteArray) (w : World) (ha : a.size ≤ maxLen) (hb : b.size ≤ maxLen) (hc : c.size ≤ maxLen) (hn : Nibs w) :
    Calls Tryd.prog 11 #[.string a, .string b, .string c] w fun e w' => e = .returned (.bool true) ∧ Below w.heap.size w w' := by
  by_cases h : 2000 < a.size ∨ 2000 < b.size ∨ 2000 < c.size
  · exact crcPieces_short a b c w h ha hb hc hn
  · exact crcPieces_main a b c w (by omega) (by omega) (by omega) hn
end Go.Proofs.YtbkdlkhaeidhcaaDoor
