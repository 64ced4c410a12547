/-
  The walks of math/bits.ReverseBytes32, crc.Laid, and of the document's own sum as bytes.
-/
import Derived.Test.YtbkdlkhaeidhcaaDoorPlacesW
import Derived.Test.YtbkdlkhaeidhcaaDoorMakeW
import Derived.Test.YtbkdlkhaeidhcaaDoorFrameP
import Derived.Test.YtbkdlkhaeidhcaaDoorWriter2W
import Derived.Test.YtbkdlkhaeidhcaaDoorReaderW
namespace Go.Proofs.YtbkdlkhaeidhcaaDoor
open Go.RowKit Go.Deep CrcP CodecP FrameP

theorem byte_or (b a : Nat) (hb : b < 256) : b ||| 256 * a = b + 256 * a := by
  rw [Nat.or_comm, nat_join 8 (256 * a) b (by omega) (by omega), Nat.add_comm]
theorem rev_ops (x : Nat) (hx : x < 4294967296) : bits .or .u32 (bits .and .u32 ((x : Int) / 256) 16711935) (bits .and .u32 (x : Int) 16711935 * 256 % 4294967296) = ((x / 256 % 256 + 256 * (x % 256) + 65536 * (x / 16777216 + 256 * (x / 65536 % 256)) : Nat) : Int) := by
  have e1 : (x : Int) / 256 = ((x / 256 : Nat) : Int) := by omega
  rw [e1, show (16711935 : Int) = ((16711935 : Nat) : Int) from rfl, u32_and_nat _ _ (by omega) (by decide), u32_and_nat _ _ hx (by decide), mask_bytes, mask_bytes]
  have e2 : ((x % 256 + 65536 * (x / 65536 % 256) : Nat) : Int) * 256 % 4294967296 = ((65536 * (256 * (x / 65536 % 256)) + 256 * (x % 256) : Nat) : Int) := by omega
  have e3 : x / 256 % 256 + 65536 * (x / 256 / 65536 % 256) = 65536 * (x / 16777216) + x / 256 % 256 := by omega
  rw [e2, e3, u32_or_nat _ _ (by omega) (by omega)]
  congr 1
  rw [or_parts _ _ _ _ (by omega) (by omega), byte_or _ _ (by omega), byte_or _ _ (by omega)]
  omega
theorem rev_ops2 (y : Nat) (hy : y < 4294967296) : bits .or .u32 ((y : Int) / 65536) ((y : Int) * 65536 % 4294967296) = ((y / 65536 + 65536 * (y % 65536) : Nat) : Int) := by
  have e1 : (y : Int) / 65536 = ((y / 65536 : Nat) : Int) := by omega
  have e2 : (y : Int) * 65536 % 4294967296 = ((65536 * (y % 65536) : Nat) : Int) := by omega
  rw [e1, e2, u32_or_nat _ _ (by omega) (by omega), Nat.or_comm, nat_join 16 _ _ (by omega) (by omega), Nat.add_comm]
theorem ret_u32 {a b : Int} (h : a = b) : Ending.returned (.int .u32 a) = .returned (.int .u32 b) := by rw [h]
theorem rev_any (v : BitVec 32) (w : World) :
    Calls Tryd.prog 39 #[.int .u32 (u v)] w fun e w' => e = .returned (.int .u32 (rev v.toNat : Nat)) ∧ w = w' := by
  have hv := v.isLt
  have eu : u v = ((v.toNat : Nat) : Int) := rfl
  rw [eu]
  generalize v.toNat = x at *
  clear eu
  have h1 := rev_ops x hv
  have h2 := rev_ops2 (x / 256 % 256 + 256 * (x % 256) + 65536 * (x / 16777216 + 256 * (x / 65536 % 256))) (by omega)
  have h3 : (x / 256 % 256 + 256 * (x % 256) + 65536 * (x / 16777216 + 256 * (x / 65536 % 256))) / 65536 + 65536 * ((x / 256 % 256 + 256 * (x % 256) + 65536 * (x / 16777216 + 256 * (x / 65536 % 256))) % 65536) = rev x := by unfold rev; omega
  rw [h3] at h2
  clear h3
  generalize x / 256 % 256 + 256 * (x % 256) + 65536 * (x / 16777216 + 256 * (x / 65536 % 256)) = y at *
  go_enter Tryd.func39, Tryd.ntmps39
  go_wp2
  go_ret
  exact ⟨rfl, rfl⟩

/-- The sum of bytes as four bytes. -/
theorem laid_any (s : ByteArray) (w : World) (hs : s.size ≤ maxLen) (hn : Nibs w) :
    Calls Tryd.prog 27 #[.string s] w fun e w' => e = .returned (.string (str (laid (bl s)))) ∧ Below w.heap.size w w' := by
  have HN := Lib.hid (hn.below ((Below.refl _ w).alloc (Nat.le_refl _) (.cells #[.slice none 0 0] 57)))
  have HS := Lib.hid hs
  have HW := Lib.hid (Wr.new w)
  clear hn hs
  go_enter Tryd.func27, Tryd.ntmps27
  go_wp2_with fail
  refine (sum_any s _ HS.out HN.out).mono ?_
  rintro e w1 ⟨rfl, rfl⟩
  go_wp2_with fail
  refine (rev_any _ _).mono ?_
  rintro e w1 ⟨rfl, rfl⟩
  have hlt : rev (CrcP.sum s.data.toList).toNat < 4294967296 := by
    rw [rev_value]; exact value_lt4 _ (by rw [le4_length]; omega)
  have hfx := fixed_rev (CrcP.sum s.data.toList)
  generalize rev (CrcP.sum s.data.toList).toNat = r at *
  have HFX := Lib.hid hfx
  clear hfx
  go_wp2_with fail
  refine (fixed4_any w.heap.size 0 #[undef] 57 none [] r _ HW.out hlt (by simp)).mono ?_
  rintro e w1 ⟨rfl, hby⟩
  obtain ⟨⟨g', hg', hw⟩, hf⟩ := hby
  have hbel : Below w.heap.size w w1 := ((Below.refl _ w).alloc (Nat.le_refl _) _).trans (hf.below (by simp) (fun k _ hk => by rcases hk with rfl | hk; exact Nat.le_refl _; cases hk))
  rw [List.nil_append, HFX.out] at hw
  have HW2 := Lib.hid hw
  clear hw hf hg' HFX
  go_wp2_with fail
  refine (bytes_any w.heap.size 0 #[undef] 57 g' _ _ HW2.out).mono ?_
  rintro e w2 ⟨rfl, rfl⟩
  go_wp2
  go_ret
  exact ⟨rfl, hbel⟩

theorem bytes4 (x : Nat) : strOfNums [((x : Int) % 256), ((x : Int) / 256 % 256), ((x : Int) / 65536 % 256), ((x : Int) / 16777216)] = ⟨#[UInt8.ofNat (x % 256), UInt8.ofNat (x / 256 % 256), UInt8.ofNat (x / 65536 % 256), UInt8.ofNat (x / 16777216)]⟩ := by
  have m1 : ((x : Int) % 256).toNat = x % 256 := by omega
  have m2 : ((x : Int) / 256 % 256).toNat = x / 256 % 256 := by omega
  have m3 : ((x : Int) / 65536 % 256).toNat = x / 65536 % 256 := by omega
  have m4 : ((x : Int) / 16777216).toNat = x / 16777216 := by omega
  unfold strOfNums
  simp only [List.map_cons, List.map_nil, m1, m2, m3, m4]
theorem four_cells (w : World) (a b c d : Int) (t : TypeId) : ∀ i, i < 4 → (w.alloc (.cells #[.int .u8 a, .int .u8 b, .int .u8 c, .int .u8 d] t)).cell? ⟨w.heap.size, 0 + i, none⟩ = some (.int .u8 ([a, b, c, d].getD i 0)) := by
  intro i hi
  have : i = 0 ∨ i = 1 ∨ i = 2 ∨ i = 3 := by omega
  rcases this with rfl | rfl | rfl | rfl <;> simp
theorem refLaid_any (s : ByteArray) (w : World) (hs : s.size ≤ maxLen) :
    Calls Tryd.prog 28 #[.string s] w fun e w' => e = .returned (.string (str (laid (bl s)))) ∧ Below w.heap.size w w' := by
  have HS := Lib.hid hs
  clear hs
  go_enter Tryd.func28, Tryd.ntmps28
  go_wp2_with fail
  refine (refMore_at _ 0#32 rfl s _ HS.out).mono ?_
  rintro e w1 ⟨rfl, hb⟩
  have hx : (more 0#32 s.data.toList).toNat < 4294967296 := BitVec.isLt _
  have hu : u (more 0#32 s.data.toList) = (((more 0#32 s.data.toList).toNat : Nat) : Int) := rfl
  have hfin : str (laid (bl s)) = ⟨#[UInt8.ofNat ((more 0#32 s.data.toList).toNat % 256), UInt8.ofNat ((more 0#32 s.data.toList).toNat / 256 % 256), UInt8.ofNat ((more 0#32 s.data.toList).toNat / 65536 % 256), UInt8.ofNat ((more 0#32 s.data.toList).toNat / 16777216)]⟩ := rfl
  rw [hu]
  have HF := Lib.hid hfin
  clear hu hfin
  generalize (more 0#32 s.data.toList).toNat = x at *
  have b4 := bytes4 x
  have hcv := run_convert_bytes_arg (P := Tryd.prog) (w := w1.alloc (.cells #[.int .u8 ((x : Int) % 256), .int .u8 ((x : Int) / 256 % 256), .int .u8 ((x : Int) / 65536 % 256), .int .u8 ((x : Int) / 16777216)] 5)) 45 5 Tryd.underlying45 Tryd.underlying5 w1.heap.size 0 4 4 [((x : Int) % 256), ((x : Int) / 256 % 256), ((x : Int) / 65536 % 256), ((x : Int) / 16777216)] rfl
    (four_cells _ _ _ _ _ _) 9 Tryd.underlying9
  rw [b4, ← HF.out] at hcv
  clear b4 HF
  go_wp2
  go_ret
  exact ⟨rfl, hb.alloc hb.size _⟩
end Go.Proofs.YtbkdlkhaeidhcaaDoor
