
/-
  The walks of the document's Right and Bytes.
-/
import Derived.Test.YtcoicdaobgneeaaRefBW
namespace Go.Proofs.Ytcoicdaobgneeaa
open Go.RowKit CodecP

theorem refRight_any (k v : ByteArray) (w : World) (hk : k.size ≤ maxLen) (hv : v.size ≤ maxLen) (b : Bool) (hb : b = true ↔ Okp (bl k, bl v)) :
    Calls Try.prog 11 #[.agg #[.string k, .string v]] w fun e w' => e = .returned (.bool b) ∧ Below w.heap.size w w' := by
  unfold Okp at hb
  simp only [bl_size] at hb
  unfold maxLen at hk hv
  have HBR := Lib.hid ((Below.refl w.heap.size w).alloc (Nat.le_refl _) (.cells #[.string k, .string v] 35))
  by_cases h1 : 1 ≤ k.size
  · have d1 : decide ((1 : Int) ≤ (k.size : Int)) = true := by rw [decide_eq_true_eq]; omega
    by_cases h2 : k.size ≤ 80
    · have d2 : decide ((k.size : Int) ≤ 80) = true := by rw [decide_eq_true_eq]; omega
      have d3 : decide ((v.size : Int) ≤ 16000) = b := by
        cases b with
        | true => have := hb.1 rfl; rw [decide_eq_true_eq]; omega
        | false => rw [decide_eq_false_iff_not]; intro h; have := hb.2 ⟨h1, h2, by omega⟩; cases this
      clear hb
      go_enter Try.func11, Try.ntmps11
      go_wp2_with fail
      go_ret
      exact ⟨rfl, HBR.out⟩
    · have d2 : decide ((k.size : Int) ≤ 80) = false := by rw [decide_eq_false_iff_not]; omega
      have hb1 : b = false := by cases b with
        | true => exact absurd (hb.1 rfl).2.1 h2
        | false => rfl
      subst hb1
      clear hb
      go_enter Try.func11, Try.ntmps11
      go_wp2_with fail
      go_ret
      exact ⟨rfl, HBR.out⟩
  · have d1 : decide ((1 : Int) ≤ (k.size : Int)) = false := by rw [decide_eq_false_iff_not]; omega
    have hb1 : b = false := by cases b with
      | true => exact absurd (hb.1 rfl).1 h1
      | false => rfl
    subst hb1
    clear hb
    go_enter Try.func11, Try.ntmps11
    go_wp2_with fail
    go_ret
    exact ⟨rfl, HBR.out⟩
theorem conv_row {W : World} {B : Nat} {v : Value} {l : List UInt8} (ho : W.ownsRow B 5 1 v l.length (u8s l)) : (convert 26 9 v).run Try.prog W = .ok (.string (str l)) W := by
  rcases ho.2 with ⟨rfl, h0⟩ | ⟨gg, cap, cur, rfl, hgg, hh, hcap, hmax, hcs, htk⟩
  · have : l = [] := List.length_eq_zero_iff.1 h0
    subst this
    exact run_convert_bytes_nil (P := Try.prog) (w := W) 26 5 Try.underlying26 Try.underlying5 0 0 9 Try.underlying9
  · refine run_convert_bytes_back W 26 9 5 ⟨gg, 0, none⟩ cap l Try.underlying26 Try.underlying5 Try.underlying9 (fun j hj => ?_)
    rw [Go.WideShapes.add_plain, Nat.zero_add]
    rw [ho.cellAt j (by omega)]
    unfold u8s
    rw [List.getElem?_map, List.getElem?_eq_getElem hj]; rfl
theorem strCells_u8s (s : ByteArray) : Lib.strCells s = u8s (bl s) := rfl
theorem cmn_comm : ∀ a b : List UInt8, cmn a b = cmn b a
  | [], [] => rfl
  | [], _ :: _ => rfl
  | _ :: _, [] => rfl
  | a :: a1, b :: b1 => by
    unfold cmn
    by_cases h : a = b
    · rw [if_pos h, if_pos h.symm, cmn_comm a1 b1]
    · rw [if_neg h, if_neg (fun e => h e.symm)]
end Go.Proofs.Ytcoicdaobgneeaa
