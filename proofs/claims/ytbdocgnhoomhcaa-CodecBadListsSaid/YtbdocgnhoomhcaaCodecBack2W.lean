/-
  The walk of the law CodecBack.
-/
import Derived.Test.YtbdocgnhoomhcaaCodecBackW
namespace Go.Proofs.Ytbdocgnhoomhcaa
open Go.RowKit CodecP

theorem bl_append (a b : ByteArray) : bl (a ++ b) = bl a ++ bl b := by
  unfold bl; simp
theorem str_append (a b : List UInt8) : str a ++ str b = str (a ++ b) := by
  rw [← str_bl (str a ++ str b), bl_append, bl_str, bl_str]

set_option maxHeartbeats 400000 in
theorem str_size (l : List UInt8) : (str l).size = l.length := by simp [str, ByteArray.size]
theorem bl_take (a : ByteArray) (n : Nat) : bl (a.extract 0 n) = (bl a).take n := by rw [ext_bl]; simp
theorem turn_by (by_ : Int) (n : Nat) (h : 0 < n) (h2 : n ≤ 4611686018427387904) : ∃ t : Nat, t < n ∧ wrap64 ((IntKind.u64.wrap by_).tmod (n : Int)) = (t : Int) := by
  rw [IntKind.wrap_u64]
  have h0 : 0 ≤ by_ % 18446744073709551616 := Int.emod_nonneg _ (by decide)
  rw [Int.tmod_eq_emod_of_nonneg h0]
  have h1 := Int.emod_nonneg (by_ % 18446744073709551616) (show (n : Int) ≠ 0 by omega)
  have h3 := Int.emod_lt_of_pos (by_ % 18446744073709551616) (show (0 : Int) < n by omega)
  refine ⟨(by_ % 18446744073709551616 % (n : Int)).toNat, by omega, ?_⟩
  rw [IntWalk.wrap64_in _ ⟨by omega, by omega⟩]
  omega
theorem grp_pos (n : Nat) : 1 ≤ (grp n).length := by unfold grp groups; split <;> simp
theorem codecBack_main (n : Int) (s more : ByteArray) (at_ : Int) (w : World) (h1 : -9223372036854775808 ≤ n) (h2 : n < 9223372036854775808) (hs : s.size ≤ 3000) (hm : more.size ≤ 3000) :
    Calls Try.prog 3 #[.int .i64 n, .string s, .string more, .int .i64 at_] w fun e w' => e = .returned (.bool true) ∧ Below w.heap.size w w' := by
  have O0 := Own.new (Below.refl w.heap.size w)
  have HO := Lib.hid O0
  clear O0
  have hzl := zig_lt n h1 h2
  have hgl := grp_length (zig n)
  have hgp := grp_pos (zig n)
  have htl : (text (bl s)).length ≤ 10 + s.size := by unfold text; rw [List.length_append]; have := grp_length (bl s).length; have : (bl s).length = s.size := rfl; omega
  obtain ⟨L, hL⟩ : ∃ L, L = grp (zig n) ++ text (bl s) := ⟨_, rfl⟩
  have hLl : L.length = (grp (zig n)).length + (text (bl s)).length := by rw [hL, List.length_append]
  have hLs : (str L).size = L.length := str_size L
  obtain ⟨t, ht, et⟩ := turn_by at_ L.length (by omega) (by omega)
  obtain ⟨o, ho1, ho2⟩ := back_cut (zig n) (bl s) t (by omega) hs (by rw [← hL]; exact ht)
  rw [← hL] at ho1
  have k1 : tkI 0 0 (str (bl (str L ++ more))) false = (zig n, some (text (bl s) ++ bl more)) := by
    rw [← str_bl more, str_append, bl_str, bl_str, hL, List.append_assoc]
    exact tkI_str _ _ _ (tk_grp _ _ (by omega))
  have k2 := text_take (bl s) (bl more) hs
  have k3 : rawOut (str (bl more)) false (more.size : Int) = (more, ByteArray.empty, false) := by
    rw [str_bl]; unfold rawOut
    rw [if_neg (by simp), Int.toNat_natCast]
    congr 1
    · rw [← str_bl (more.extract 0 more.size), bl_take, List.take_of_length_le (show (bl more).length ≤ more.size from Nat.le_refl _), str_bl]
    · congr 1
      rw [← str_bl (more.extract more.size more.size), ext_bl]; simp; rfl
  have hx : (str L ++ more).size ≤ maxLen := size_le _ (by simp; omega)
  have hy : ((str L).extract 0 t).size ≤ maxLen := size_le _ (by simp; omega)
  have hbx : bl ((str L).extract 0 t) = L.take t := by rw [bl_take, bl_str]
  have hcat : ¬ 9223372036854775807 < (str L).size + more.size := by omega
  have HL := Lib.hid hL
  have HK1 := Lib.hid k1
  have HK2 := Lib.hid k2
  have HK3 := Lib.hid k3
  have HX := Lib.hid hx
  have HY := Lib.hid hy
  have HBX := Lib.hid hbx
  have HO1 := Lib.hid ho1
  have HO2 := Lib.hid ho2
  have HH1 := Lib.hid h1
  have HH2 := Lib.hid h2
  rw [← hLs] at et
  have hz : (((str L).size : Int) == 0) = false := by rw [beq_eq_false_iff_ne]; omega
  have ht' : t < (str L).size := by omega
  have hLb : (str L).size ≤ 3020 := by omega
  have HGL := Lib.hid hgl
  clear hL k1 k2 k3 hx hy hbx ho1 ho2 h1 h2 hzl hgl hgp htl hLl ht hLs
  generalize hSL : str L = SL at *
  have HSL := Lib.hid hSL
  clear hSL
  go_enter Try.func3, Try.ntmps3
  go_wp2_with fail
  refine (signed_any w.heap.size 0 _ _ _ _ n _ HO.out.wr HH1.out HH2.out (by simp)).mono ?_
  rintro e w1 ⟨rfl, hby⟩
  obtain ⟨g1, O1⟩ := HO.out.step hby
  rw [List.nil_append] at O1
  have HW1 := Lib.hid O1
  clear O1 hby
  go_wp2_with fail
  refine (text_any w.heap.size 0 _ _ _ _ _ _ HW1.out.wr (by have := HGL.out; omega)).mono ?_
  rintro e w2 ⟨rfl, hby⟩
  rw [show grp (zig n) ++ text s.data.toList = L from HL.out.symm] at hby
  obtain ⟨g2, O2⟩ := HW1.out.step hby
  have HW2 := Lib.hid O2
  clear O2 hby
  go_wp2_with fail
  refine (bytes_any w.heap.size 0 _ _ _ _ _ HW2.out.wr).mono ?_
  rintro e w3 ⟨rfl, rfl⟩
  rw [show (ByteArray.mk L.toArray) = SL from HSL.out]
  go_wp2_with fail
  refine (read_any _ _ HX.out).mono ?_
  rintro e w4 ⟨rfl, h4, hb4⟩
  have R0 := ROwn.new HW2.out.below h4 hb4 (Nat.le_refl _)
  have HR0 := Lib.hid R0
  clear h4 hb4 R0
  generalize w2.heap.size = q at *
  go_wp2_with fail
  refine (rdSigned_any q _ _ _ HR0.out.some).mono ?_
  rintro e w5 ⟨rfl, k⟩
  rw [HK1.out] at k
  rw [HK1.out]
  simp only [unzig_zig] at k ⊢
  have HR1 := Lib.hid (HR0.out.step k)
  clear k
  have q1 : (n == n) = true := by simp
  have q1' : (n != n) = false := by simp
  go_wp2_with fail
  refine (rdText_any q _ _ 3000 _ HR1.out.some).mono ?_
  rintro e w6 ⟨rfl, k⟩
  rw [HK2.out] at k
  rw [HK2.out, str_bl]
  have HR2 := Lib.hid (HR1.out.step k)
  clear k
  have q2 : (s.toList == s.toList) = true := by simp
  have q2' : (s.toList != s.toList) = false := by simp
  have q3 : (more.toList == more.toList) = true := by simp
  have q3' : (more.toList != more.toList) = false := by simp
  have RR := fun W hW => rdRaw_any q (str (bl more)) false (more.size : Int) W hW
  rw [HK3.out] at RR
  simp only at RR
  have HRR := Lib.hid RR
  clear RR
  go_wp2_with fail
  refine (HRR.out _ HR2.out.some).mono ?_
  rintro e w7 ⟨rfl, h7, hf7⟩
  have HR3 := Lib.hid (HR2.out.step ⟨_, _, h7, rfl, hf7⟩)
  have H7 := Lib.hid h7
  clear h7 hf7
  go_wp2_with fail
  refine (end_any q _ _ _ H7.out).mono ?_
  rintro e w8 ⟨rfl, rfl⟩
  rw [show (!false && ByteArray.empty.size == 0) = true from rfl]
  go_wp2_with fail
  refine (read_any _ _ HY.out).mono ?_
  rintro e w9 ⟨rfl, h9, hb9⟩
  have R9 := ROwn.new HR3.out.below h9 hb9 (Nat.le_refl _)
  rw [HBX.out] at R9
  have HR9 := Lib.hid R9
  clear h9 hb9 R9
  generalize w7.heap.size = q2 at *
  go_wp2_with fail
  refine (rdSigned_any q2 _ _ _ HR9.out.some).mono ?_
  rintro e w10 ⟨rfl, k⟩
  rw [HO1.out] at k
  have HR10 := Lib.hid (HR9.out.step k)
  clear k
  have fin : ∀ w11, RdTo w10 w11 q2 none → ROwn w w11 q2 none := fun w11 k => HR10.out.step k
  have HFIN := Lib.hid fin
  clear fin
  have TX : ∃ sx bx, Rd w10 q2 sx bx ∧ (textO sx bx 3000).2 = none := by
    rcases HO2.out with h | ⟨l, h, hl⟩
    · have := HR10.out
      rw [h] at this
      obtain ⟨sx, hsx⟩ := this.none
      exact ⟨sx, true, hsx, by unfold textO sizeO tkI; simp [rawS]⟩
    · have := HR10.out
      rw [h] at this
      exact ⟨_, _, this.some, hl⟩
  obtain ⟨sx, bx, hsx, htx⟩ := TX
  have HSX := Lib.hid hsx
  have HTX := Lib.hid htx
  clear hsx htx
  go_wp2_with fail
  refine (rdText_any q2 sx bx 3000 _ HSX.out).mono ?_
  rintro e w11 ⟨rfl, k⟩
  rw [HTX.out] at k
  have HR11 := Lib.hid (HFIN.out _ k)
  clear k
  obtain ⟨sy, hsy⟩ := HR11.out.none
  have HSY := Lib.hid hsy
  clear hsy
  go_wp2_with fail
  refine (good_any q2 sy true _ HSY.out).mono ?_
  rintro e w12 ⟨rfl, rfl⟩
  go_wp2_with fail
  refine (codecAwake_any _).mono ?_
  rintro e w13 ⟨rfl, hb13⟩
  go_wp2
  go_ret
  exact ⟨rfl, HR11.out.below.trans (hb13.mono HR11.out.below.size)⟩
theorem codecBack_law (n : Int) (s more : ByteArray) (at_ : Int) (w : World) (hw : (Lit.int .i64 n).wf = true) (hs : s.size ≤ maxLen) (hm : more.size ≤ maxLen) :
    Calls Try.prog 3 #[.int .i64 n, .string s, .string more, .int .i64 at_] w fun e w' => e = .returned (.bool true) ∧ Below w.heap.size w w' := by
  unfold maxLen at hs hm
  by_cases h1 : 3000 < s.size
  · clear hw
    go_enter Try.func3, Try.ntmps3
    go_wp2_with fail
    refine (codecAwake_any _).mono ?_
    rintro e w1 ⟨rfl, hb⟩
    go_wp2
    go_ret
    exact ⟨rfl, hb⟩
  · by_cases h2 : 3000 < more.size
    · clear hw
      go_enter Try.func3, Try.ntmps3
      go_wp2_with fail
      refine (codecAwake_any _).mono ?_
      rintro e w1 ⟨rfl, hb⟩
      go_wp2
      go_ret
      exact ⟨rfl, hb⟩
    · have hr : -9223372036854775808 ≤ n ∧ n < 9223372036854775808 := by
        have : -9223372036854775808 ≤ n ∧ n ≤ 9223372036854775807 := by simpa [Lit.wf, IntKind.min, IntKind.max, IntKind.signed, IntKind.bits] using hw
        omega
      exact codecBack_main n s more at_ w hr.1 hr.2 (by omega) (by omega)
end Go.Proofs.Ytbdocgnhoomhcaa
