/-
  The walk of the law CodecSizes.
-/
import Derived.Test.YtbdocgnhoomhcaaRefNumW
namespace Go.Proofs.Ytbdocgnhoomhcaa
open Go.RowKit CodecP

theorem codecSizes_law (s : ByteArray) (w : World) (hs : s.size ≤ maxLen) :
    Calls Try.prog 4 #[.string s] w fun e w' => e = .returned (.bool true) ∧ Below w.heap.size w w' := by
  by_cases h1 : 20000 < s.size
  · unfold maxLen at hs
    go_enter Try.func4, Try.ntmps4
    go_wp2_with fail
    refine (codecAwake_any _).mono ?_
    rintro e w1 ⟨rfl, hb⟩
    go_wp2
    go_ret
    exact ⟨rfl, hb⟩
  · have HS := Lib.hid hs
    have RT := Lib.hid (refTake_any s w hs)
    clear hs
    go_enter Try.func4, Try.ntmps4
    go_wp2_with fail
    refine RT.out.mono ?_
    rintro e w1 ⟨rfl, hb1⟩
    go_wp2_with fail
    refine (read_any s _ HS.out).mono ?_
    rintro e w2 ⟨rfl, h2, hb2⟩
    have hR0 := ROwn.new hb1 h2 hb2 (Nat.le_refl _)
    generalize w1.heap.size = p at *
    go_wp2_with fail
    refine (read_any s _ HS.out).mono ?_
    rintro e w3 ⟨rfl, h3, hb3⟩
    have hQ0 := ROwn.new hR0.below h3 hb3 (Nat.le_refl _)
    have hR1 := hR0.keep hb3
    have hpq : w2.heap.size ≠ p := by have := hR0.lt; omega
    have hqp := hpq.symm
    generalize w2.heap.size = q at *
    have HR := Lib.hid hR1
    have HQ := Lib.hid hQ0
    clear hb1 h2 hb2 hR0 h3 hb3 hQ0 hR1
    go_wp2_with fail
    refine (rdSize_any p _ _ _ HR.out.some).mono ?_
    rintro e w4 ⟨rfl, k⟩
    have HR2 := Lib.hid (HR.out.step k)
    have HQ2 := Lib.hid (HQ.out.other HR.out.base k hpq)
    clear k
    go_wp2_with fail
    refine (rdSigned_any q _ _ _ HQ2.out.some).mono ?_
    rintro e w5 ⟨rfl, k⟩
    have HQ3 := Lib.hid (HQ2.out.step k)
    have HR3 := Lib.hid (HR2.out.other HQ2.out.base k hqp)
    clear k HQ2 HR2 HR HQ RT HS
    rw [str_bl] at HQ3 HR3 ⊢
    rcases take_tk s with ⟨n, r, e1, e2, hn, hr⟩ | ⟨e1, e2⟩
    · rw [e1, e2]
      rw [e2] at HQ3
      have H3 := HQ3.out.some
      have q0 : (((s.size - r.length : Nat) : Int) == 0) = false := by rw [beq_eq_false_iff_ne]; omega
      have q2 : ∀ z : Int, (z == z) = true := by intro z; simp
      have q2' : ∀ z : Int, (z != z) = false := by intro z; simp
      have HH3 := Lib.hid H3
      have hsub : (s.size : Int) - ((s.size - r.length : Nat) : Int) = ((str r).size : Int) := by rw [str_size]; omega
      have hss : (str r).size ≤ 20000 := by rw [str_size]; omega
      by_cases hb : 9223372036854775808 ≤ n
      · have es : sizeO s false = (0, none) := by unfold sizeO; rw [e2, if_pos hb]
        rw [es] at HR3 ⊢
        obtain ⟨sx, hx⟩ := HR3.out.none
        have HX := Lib.hid hx
        have hbel := HR3.out.below
        have q3 : decide ((9223372036854775808 : Int) ≤ (n : Int)) = true := by rw [decide_eq_true_eq]; omega
        clear e1 e2 es hx H3 hb hr
        generalize s.size - r.length = K at *
        go_wp2_with fail
        refine (refNumber_any n _ hn).mono ?_
        rintro e w6 ⟨rfl, rfl⟩
        go_wp2_with fail
        refine (good_any q (str r) false _ HH3.out).mono ?_
        rintro e w6 ⟨rfl, rfl⟩
        go_wp2_with fail
        refine (left_any q (str r) false _ HH3.out).mono ?_
        rintro e w6 ⟨rfl, rfl⟩
        rw [if_neg (by decide)]
        go_wp2_with fail
        refine (good_any p sx true _ HX.out).mono ?_
        rintro e w6 ⟨rfl, rfl⟩
        go_wp2_with fail
        refine (left_any p sx true _ HX.out).mono ?_
        rintro e w6 ⟨rfl, rfl⟩
        rw [if_pos rfl]
        go_wp2_with fail
        refine (codecAwake_any _).mono ?_
        rintro e w7 ⟨rfl, hb7⟩
        go_wp2
        go_ret
        exact ⟨rfl, hbel.trans (hb7.mono hbel.size)⟩
      · have es : sizeO s false = (n, some r) := by unfold sizeO; rw [e2, if_neg hb]
        rw [es] at HR3 ⊢
        have HX := Lib.hid HR3.out.some
        have hbel := HR3.out.below
        have q3 : decide ((9223372036854775808 : Int) ≤ (n : Int)) = false := by rw [decide_eq_false_iff_not]; omega
        have q5 : IntKind.u64.wrap (n : Int) = (n : Int) := by rw [IntKind.wrap_u64]; omega
        clear e1 e2 es H3 hb hr
        generalize s.size - r.length = K at *
        go_wp2_with fail
        refine (refNumber_any n _ hn).mono ?_
        rintro e w6 ⟨rfl, rfl⟩
        go_wp2_with fail
        refine (good_any q (str r) false _ HH3.out).mono ?_
        rintro e w6 ⟨rfl, rfl⟩
        go_wp2_with fail
        refine (left_any q (str r) false _ HH3.out).mono ?_
        rintro e w6 ⟨rfl, rfl⟩
        rw [if_neg (by decide)]
        go_wp2_with fail
        refine (good_any p (str r) false _ HX.out).mono ?_
        rintro e w6 ⟨rfl, rfl⟩
        go_wp2_with fail
        refine (left_any p (str r) false _ HX.out).mono ?_
        rintro e w6 ⟨rfl, rfl⟩
        rw [if_neg (by decide)]
        go_wp2_with fail
        refine (codecAwake_any _).mono ?_
        rintro e w7 ⟨rfl, hb7⟩
        go_wp2
        go_ret
        exact ⟨rfl, hbel.trans (hb7.mono hbel.size)⟩
    · rw [e1, e2]
      rw [e2] at HQ3
      have es : sizeO s false = (0, none) := by unfold sizeO; rw [e2]; rfl
      rw [es] at HR3 ⊢
      obtain ⟨sx, hx⟩ := HR3.out.none
      obtain ⟨sy, hy⟩ := HQ3.out.none
      have HX := Lib.hid hx
      have HY := Lib.hid hy
      have hbel := HR3.out.below
      have hu : unzig 0 = 0 := by decide
      clear e1 e2 es hx hy
      go_wp2_with fail
      refine (good_any p sx true _ HX.out).mono ?_
      rintro e w6 ⟨rfl, rfl⟩
      go_wp2_with fail
      refine (good_any q sy true _ HY.out).mono ?_
      rintro e w6 ⟨rfl, rfl⟩
      go_wp2_with fail
      refine (codecAwake_any _).mono ?_
      rintro e w7 ⟨rfl, hb7⟩
      go_wp2
      go_ret
      exact ⟨rfl, hbel.trans (hb7.mono hbel.size)⟩
end Go.Proofs.Ytbdocgnhoomhcaa
