
/-
  The walks of the document's Groups, Take, Number.
-/
import Derived.Test.YtdbfaknpfepnfaaDoorCodecBack2W
import Derived.Laws.BytesArg
import Derived.Deep.RegionWith
namespace Go.Proofs.YtdbfaknpfepnfaaDoor
open Go.RowKit CodecP

theorem one_str (x : Nat) : strOfNums [(x : Int)] = str [UInt8.ofNat x] := by
  unfold strOfNums str
  simp only [List.map_cons, List.map_nil, Int.toNat_natCast]
theorem conv_one (W : World) (x : Nat) : (convert 66 9 (.slice (some ⟨W.heap.size, 0, none⟩) 1 1)).run Tryd.prog (W.alloc (.cells #[.int .u8 (x : Int)] 5)) = .ok (.string (str [UInt8.ofNat x])) (W.alloc (.cells #[.int .u8 (x : Int)] 5)) := by
  have hcv := run_convert_bytes_arg (P := Tryd.prog) (w := W.alloc (.cells #[.int .u8 (x : Int)] 5)) 66 5 Tryd.underlying66 Tryd.underlying5 W.heap.size 0 1 1 [(x : Int)] rfl
    (fun i hi => by obtain rfl : i = 0 := by omega
                    simp) 9 Tryd.underlying9
  rw [one_str] at hcv
  exact hcv
theorem conv_mid {W w1 : World} {x : Nat} (hb : Below (W.alloc (.cells #[.int .u8 (x : Int)] 5)).heap.size (W.alloc (.cells #[.int .u8 (x : Int)] 5)) w1) : (convert 66 9 (.slice (some ⟨W.heap.size, 0, none⟩) 1 1)).run Tryd.prog w1 = .ok (.string (str [UInt8.ofNat x])) w1 := by
  have hcv := run_convert_bytes_arg (P := Tryd.prog) (w := w1) 66 5 Tryd.underlying66 Tryd.underlying5 W.heap.size 0 1 1 [(x : Int)] rfl
    (fun i hi => by
      obtain rfl : i = 0 := by omega
      rw [Nat.zero_add, hb.cell (p := ⟨W.heap.size, 0, none⟩) (by show W.heap.size < (W.heap.push _).size; simp)]
      simp) 9 Tryd.underlying9
  rw [one_str] at hcv
  exact hcv
theorem conv_oneD (W : World) (x : Nat) : (convert 66 9 (.slice (some ⟨W.heap.size, 0, none⟩) 1 1)).run Tryd.prog (W.alloc (.cells #[.int .u8 (x : Int)] 5)).drew = .ok (.string (str [UInt8.ofNat x])) (W.alloc (.cells #[.int .u8 (x : Int)] 5)).drew := conv_one W.drew x
theorem conv_midD {W w1 : World} {x : Nat} (hb : Below (W.alloc (.cells #[.int .u8 (x : Int)] 5)).drew.heap.size (W.alloc (.cells #[.int .u8 (x : Int)] 5)).drew w1) : (convert 66 9 (.slice (some ⟨W.heap.size, 0, none⟩) 1 1)).run Tryd.prog w1 = .ok (.string (str [UInt8.ofNat x])) w1 := conv_mid (W := W.drew) hb
theorem belA {W w1 : World} {o : Obj} (hb : Below (W.alloc o).drew.heap.size (W.alloc o).drew w1) : Below W.heap.size W w1 :=
  have h0 : Below W.heap.size W (W.alloc o).drew := ((Below.refl W.heap.size W).alloc (Nat.le_refl _) o).drew
  h0.trans (hb.mono h0.size)
theorem belB {W w1 : World} (hb : Below W.drew.heap.size W.drew w1) : Below W.heap.size W w1 := ⟨hb.os, hb.tape, hb.output, hb.size, hb.block⟩
theorem belC {W w1 : World} {o : Obj} (hb : Below W.drew.heap.size W.drew w1) : Below W.heap.size W (w1.alloc o) := (belB hb).alloc (belB hb).size o
end Go.Proofs.YtdbfaknpfepnfaaDoor
