
/-
  The walk of the document's Take.
-/
import Derived.Test.YtdbfaknpfepnfaaDoorRefTakeW
import Derived.Deep.RegionWith
namespace Go.Proofs.YtdbfaknpfepnfaaDoor
open Go.RowKit CodecP

theorem getD_bl (s : ByteArray) (i : Nat) (h : i < s.size) : (bl s).getD i 0 = s[i] := by
  have : i < (bl s).length := h
  rw [List.getD_eq_getElem?_getD, List.getElem?_eq_getElem this]
  rfl
theorem ne_str (a b : ByteArray) : (a.toList == b.toList) = decide (bl a = bl b) := by
  rw [ByteArray.toList_eq, ByteArray.toList_eq, Bool.eq_iff_iff]; simp [bl]
theorem lowv_drop (l : List UInt8) (k i : Nat) (hi : i < k) (hk : k ≤ l.length) : lowv ((l.take k).drop i) = (l.getD i 0).toNat % 128 + 128 * lowv ((l.take k).drop (i + 1)) := by
  have h : i < (l.take k).length := by rw [List.length_take]; omega
  rw [List.drop_eq_getElem_cons h, lowv]
  congr 3
  rw [List.getElem_take, List.getD_eq_getElem?_getD, List.getElem?_eq_getElem (by omega)]; rfl
end Go.Proofs.YtdbfaknpfepnfaaDoor
