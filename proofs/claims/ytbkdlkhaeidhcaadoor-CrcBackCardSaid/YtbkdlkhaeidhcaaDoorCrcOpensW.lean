/-
  The walk of the law CrcOpens.
-/
import Derived.Test.YtbkdlkhaeidhcaaDoorRefAllW
namespace Go.Proofs.YtbkdlkhaeidhcaaDoor
open Go.RowKit Go.Deep CrcP CodecP FrameP

theorem crcOpens_law (s : ByteArray) (w : World) (hs : s.size ≤ maxLen) (hn : Nibs w) :
    Calls Tryd.prog 12 #[.string s] w fun e w' => e = .returned (.bool true) ∧ Below w.heap.size w w' := by
  have HN := Lib.hid hn
  unfold maxLen at hs
  clear hn
  by_cases h2 : 2000 < s.size
  · go_enter Tryd.func12, Tryd.ntmps12
    go_wp2_with fail
    refine (crcAwake_any _ HN.out).mono ?_
    rintro e w1 ⟨rfl, hb⟩
    go_wp2
    go_ret
    exact ⟨rfl, hb⟩
  · have RO := fun W hW => open_any s W (by omega) hW
    have RR := fun W => refOpen_any s W (by omega)
    have RA := fun W hW => all_any s W (by omega) hW
    have RB := fun W => refAll_any s W (by omega)
    have hle := allF_le (bl s)
    have hls : (bl s).length = s.size := rfl
    rw [hls] at hle
    have HLE := Lib.hid hle
    clear hle hls
    generalize opn (bl s) = O at *
    generalize allF (bl s) = A at *
    obtain ⟨d, n, why⟩ := O
    obtain ⟨L, m, end_⟩ := A
    simp only [opnV] at RO RR
    simp only at RA RB
    have HRO := Lib.hid RO
    have HRR := Lib.hid RR
    have HRA := Lib.hid RA
    have HRB := Lib.hid RB
    clear RO RR RA RB
    go_enter Tryd.func12, Tryd.ntmps12
    go_wp2_with fail
    refine (HRO.out _ HN.out).mono ?_
    rintro e w1 ⟨rfl, hb1⟩
    go_wp2_with fail
    refine (HRR.out _).mono ?_
    rintro e w2 ⟨rfl, hb2⟩
    have hbel2 := hb1.trans (hb2.mono hb1.size)
    clear hb1 hb2
    go_wp2_with fail
    refine (HRA.out _ (HN.out.below hbel2)).mono ?_
    rintro e w3 ⟨v1, rfl, hb3, ho1⟩
    have hbel3 := hbel2.trans (hb3.mono hbel2.size)
    have hsz2 := hbel2.size
    clear hb3 hbel2
    go_wp2_with fail
    refine (HRB.out _).mono ?_
    rintro e w4 ⟨v2, rfl, hb4, ho2⟩
    have hbel4 := hbel3.trans (hb4.mono hbel3.size)
    have ho1' := owns_of_block ho1 (fun j hj => hb4.block j (ho1.lt j hj).2)
    have hS1 := strs_all ho1' (fun d hd => by have := HLE.out.1 d hd; omega) (by have := HLE.out.2; omega)
    have hS2 := strs_all ho2 (fun d hd => by have := HLE.out.1 d hd; omega) (by have := HLE.out.2; omega)
    have HS1 := Lib.hid hS1
    have HS2 := Lib.hid hS2
    clear hb4 hbel3 ho1 ho2 ho1' hS1 hS2
    have q1 : ((str d).toList == (str d).toList) = true := by simp
    have q2 : ((n : Int) == (n : Int)) = true := by simp
    have q3 : ((why : Int) == (why : Int)) = true := by simp
    have q4 : ((m : Int) == (m : Int)) = true := by simp
    have q5 : ((end_ : Int) == (end_ : Int)) = true := by simp
    go_wp2_with fail
    refine (same_any _ _ _ _ _ HS1.out HS2.out).mono ?_
    rintro e w5 ⟨rfl, hb5⟩
    have hbel5 := hbel4.trans (hb5.mono hbel4.size)
    clear hbel4 hb5
    rw [decide_eq_true rfl]
    go_wp2_with fail
    refine (crcAwake_any _ (HN.out.below hbel5)).mono ?_
    rintro e w6 ⟨rfl, hb6⟩
    go_wp2
    go_ret
    exact ⟨rfl, hbel5.trans (hb6.mono hbel5.size)⟩
end Go.Proofs.YtbkdlkhaeidhcaaDoor
