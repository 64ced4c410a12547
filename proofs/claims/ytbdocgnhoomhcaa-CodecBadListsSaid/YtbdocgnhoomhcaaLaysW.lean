/-
  The walk of the law CodecLays.
-/
import Derived.Test.YtbdocgnhoomhcaaNilW
namespace Go.Proofs.Ytbdocgnhoomhcaa
open Go.RowKit CodecP

set_option maxHeartbeats 4000000 in
theorem codecLays_main (n m : Int) (a b : Nat) (s : ByteArray) (w : World) (n1 : -9223372036854775808 ≤ n) (n2 : n < 9223372036854775808) (m1 : -9223372036854775808 ≤ m) (m2 : m < 9223372036854775808) (ha : a < 4294967296) (hb : b < 18446744073709551616) (hs : s.size ≤ 20000) :
    Calls Try.prog 5 #[.int .i64 n, .int .i64 m, .int .u32 a, .int .u64 b, .string s] w fun e w' => e = .returned (.bool true) ∧ Below w.heap.size w w' := by
  have O0 := Own.new (Below.refl w.heap.size w)
  have HO := Lib.hid O0
  have l1 := grp_length n.toNat
  have l2 := grp_length (zig m)
  have l3 := fixed_length 4 a
  have l4 := fixed_length 8 b
  have l5 : (text s.data.toList).length ≤ 10 + s.size := by
    have h1 := grp_length (bl s).length
    have h2 : (bl s).length = s.size := rfl
    have h3 : (text (bl s)).length = (grp (bl s).length).length + (bl s).length := by unfold text; rw [List.length_append]
    show (text (bl s)).length ≤ _
    omega
  have LL := Lib.hid (And.intro l1 (And.intro l2 (And.intro l3 (And.intro l4 l5))))
  have C1 := fun W hW => size_any w.heap.size 0 #[undef] 26 none [] n W hW n1 n2 (by simp)
  have HC1 := Lib.hid C1
  have N1 := Lib.hid n1
  have N2 := Lib.hid n2
  have M1 := Lib.hid m1
  have M2 := Lib.hid m2
  have HA := Lib.hid ha
  have HB := Lib.hid hb
  clear O0 l1 l2 l3 l4 l5 C1 n1 n2 m1 m2 ha hb
  go_enter Try.func5, Try.ntmps5
  go_wp2_with fail
  refine (HC1.out _ HO.out.wr).mono ?_
  rintro e w1 ⟨rfl, hby⟩
  obtain ⟨g1, O1⟩ := HO.out.step hby
  rw [List.nil_append] at O1
  have HO1 := Lib.hid O1
  clear O1 hby
  go_wp2_with fail
  refine (signed_any w.heap.size 0 _ _ _ _ m _ HO1.out.wr M1.out M2.out (by have := LL.out; omega)).mono ?_
  rintro e w2 ⟨rfl, hby⟩
  obtain ⟨g2, O2⟩ := HO1.out.step hby
  have HO2 := Lib.hid O2
  clear O2 hby
  go_wp2_with fail
  refine (fixed4_any w.heap.size 0 _ _ _ _ a _ HO2.out.wr HA.out (by have := LL.out; rw [List.length_append]; omega)).mono ?_
  rintro e w3 ⟨rfl, hby⟩
  obtain ⟨g3, O3⟩ := HO2.out.step hby
  have HO3 := Lib.hid O3
  clear O3 hby
  go_wp2_with fail
  refine (fixed8_any w.heap.size 0 _ _ _ _ b _ HO3.out.wr (by have := LL.out; simp only [List.length_append]; omega)).mono ?_
  rintro e w4 ⟨rfl, hby⟩
  obtain ⟨g4, O4⟩ := HO3.out.step hby
  have HO4 := Lib.hid O4
  clear O4 hby
  go_wp2_with fail
  refine (text_any w.heap.size 0 _ _ _ _ s _ HO4.out.wr (by have := LL.out; simp only [List.length_append]; omega)).mono ?_
  rintro e w5 ⟨rfl, hby⟩
  obtain ⟨g5, O5⟩ := HO4.out.step hby
  have HO5 := Lib.hid O5
  clear O5 hby
  go_wp2_with fail
  refine (raw_any w.heap.size 0 _ _ _ _ s _ HO5.out.wr (by have := LL.out; simp only [List.length_append]; omega)).mono ?_
  rintro e w6 ⟨rfl, hby⟩
  obtain ⟨g6, O6⟩ := HO5.out.step hby
  have HO6 := Lib.hid O6
  clear O6 hby
  have hcase : (n < 0 ∧ True) ∨ (¬ n < 0 ∧ IntKind.u64.wrap n = n) := by
    have := N2.out
    by_cases h : n < 0
    · exact .inl ⟨h, trivial⟩
    · exact .inr ⟨h, by rw [IntKind.wrap_u64]; omega⟩
  have RG0 : n < 0 → ∀ W, Calls Try.prog 28 #[.int .u64 0] W fun e w' => e = .returned (.string (str (grp n.toNat))) ∧ Below W.heap.size W w' := by
    intro h W
    rw [show n.toNat = 0 by omega]
    exact refGroups_any 0 W (by omega)
  have HR0 := Lib.hid RG0
  have RGp : ¬ n < 0 → ∀ W, Calls Try.prog 28 #[.int .u64 n] W fun e w' => e = .returned (.string (str (grp n.toNat))) ∧ Below W.heap.size W w' := by
    intro h W
    have := refGroups_any n.toNat W (by have := N2.out; omega)
    rwa [Int.toNat_of_nonneg (by omega)] at this
  have HRp := Lib.hid RGp
  clear RGp
  clear RG0
  have RG2 := Lib.hid (fun W => refSigned_any m W M1.out M2.out)
  have hwa : IntKind.u64.wrap (a : Int) = (a : Int) := by have := HA.out; rw [IntKind.wrap_u64]; omega
  have RG3 : Hid (∀ W, Calls Try.prog 30 #[.int .u64 a, .int .i64 4] W fun e w' => e = .returned (.string (str (fixed 4 a))) ∧ Below W.heap.size W w') := Lib.hid (fun W => refFixed_any a 4 W (by omega) (by have := HA.out; omega))
  have RG4 : Hid (∀ W, Calls Try.prog 30 #[.int .u64 b, .int .i64 8] W fun e w' => e = .returned (.string (str (fixed 8 b))) ∧ Below W.heap.size W w') := Lib.hid (fun W => refFixed_any b 8 W (by omega) HB.out)
  have RG5 := Lib.hid (fun W => refText_any s W (by omega))
  have z1 := str_size (grp n.toNat)
  have z2 := str_size (grp (zig m))
  have z3 := str_size (fixed 4 a)
  have z4 := str_size (fixed 8 b)
  have z5 := str_size (text (bl s))
  have z6 := LL.out
  rw [show s.data.toList = bl s from rfl] at z6
  have hj : str (grp n.toNat) ++ str (grp (zig m)) ++ str (fixed 4 a) ++ str (fixed 8 b) ++ str (text (bl s)) ++ s = str (grp n.toNat ++ grp (zig m) ++ fixed 4 a ++ fixed 8 b ++ text (bl s) ++ bl s) := by
    conv => lhs; rw [← str_bl s]
    simp only [str_append, bl_str]
  have HJ : Hid (ByteArray.mk (grp n.toNat ++ grp (zig m) ++ fixed 4 a ++ fixed 8 b ++ text s.data.toList ++ s.data.toList).toArray = str (grp n.toNat) ++ str (grp (zig m)) ++ str (fixed 4 a) ++ str (fixed 8 b) ++ str (text (bl s)) ++ s) := Lib.hid hj.symm
  have y1 : (str (grp n.toNat)).size ≤ 100 := by omega
  have y2 : (str (grp (zig m))).size ≤ 100 := by omega
  have y3 : (str (fixed 4 a)).size ≤ 100 := by omega
  have y4 : (str (fixed 8 b)).size ≤ 100 := by omega
  have y5 : (str (text (bl s))).size ≤ 21000 := by omega
  clear hj z1 z2 z3 z4 z5 z6
  generalize str (grp n.toNat) = G1 at *
  generalize str (grp (zig m)) = G2 at *
  generalize str (fixed 4 a) = G3 at *
  generalize str (fixed 8 b) = G4 at *
  generalize str (text (bl s)) = G5 at *
  have x1 : ¬ 9223372036854775807 < G1.size + G2.size := by omega
  have x2 : ¬ 9223372036854775807 < G1.size + G2.size + G3.size := by omega
  have x3 : ¬ 9223372036854775807 < G1.size + G2.size + G3.size + G4.size := by omega
  have x4 : ¬ 9223372036854775807 < G1.size + G2.size + G3.size + G4.size + G5.size := by omega
  have x5 : ¬ 9223372036854775807 < G1.size + G2.size + G3.size + G4.size + G5.size + s.size := by omega
  clear y1 y2 y3 y4 y5
  have RN1 := Lib.hid (fun W => sizeNil_any n W N2.out)
  have RN2 := Lib.hid (fun W => textNil_any s W (by omega))
  have RN3 := Lib.hid (fun W => fixed4Nil_any a W HA.out)
  have RN4 := Lib.hid (fun W => signedNil_any m W M1.out M2.out)
  have hs0 : ¬ 1099511627776 < s.size := by omega
  rcases hcase with ⟨hneg, -⟩ | ⟨hneg, hw⟩
  all_goals
    go_wp2_with fail
    first
    | (with_reducible refine (HR0.out hneg _).mono ?_)
    | (with_reducible refine (HRp.out hneg _).mono ?_)
    rintro e w7 ⟨rfl, hb7⟩
    have HO7 := Lib.hid (HO6.out.keep hb7)
    clear hb7
    go_wp2_with fail
    (with_reducible refine (RG2.out _).mono ?_)
    rintro e w8 ⟨rfl, hb8⟩
    have HO8 := Lib.hid (HO7.out.keep hb8)
    clear hb8
    go_wp2_with fail
    (with_reducible refine (RG3.out _).mono ?_)
    rintro e w9 ⟨rfl, hb9⟩
    have HO9 := Lib.hid (HO8.out.keep hb9)
    clear hb9
    go_wp2_with fail
    (with_reducible refine (RG4.out _).mono ?_)
    rintro e w10 ⟨rfl, hb10⟩
    have HO10 := Lib.hid (HO9.out.keep hb10)
    clear hb10
    go_wp2_with fail
    (with_reducible refine (RG5.out _).mono ?_)
    rintro e w11 ⟨rfl, hb11⟩
    have HO11 := Lib.hid (HO10.out.keep hb11)
    clear hb11
    go_wp2_with fail
    refine (bytes_any w.heap.size 0 _ _ _ _ _ HO11.out.wr).mono ?_
    rintro e w12 ⟨rfl, rfl⟩
    rw [HJ.out]
    go_wp2_with fail
    (with_reducible refine (RN1.out _).mono ?_)
    rintro e w12 ⟨rfl, hb12⟩
    have BB := HO11.out.below
    have HB12 := Lib.hid (BB.trans (hb12.mono BB.size))
    clear BB hb12
    go_wp2_with fail
    (with_reducible refine (RN2.out _).mono ?_)
    rintro e w13 ⟨rfl, hb13⟩
    have HB13 := Lib.hid (HB12.out.trans (hb13.mono HB12.out.size))
    clear hb13
    go_wp2_with fail
    (with_reducible refine (RN3.out _).mono ?_)
    rintro e w14 ⟨rfl, hb14⟩
    have HB14 := Lib.hid (HB13.out.trans (hb14.mono HB13.out.size))
    clear hb14
    go_wp2_with fail
    (with_reducible refine (RN4.out _).mono ?_)
    rintro e w15 ⟨rfl, hb15⟩
    have HB15 := Lib.hid (HB14.out.trans (hb15.mono HB14.out.size))
    clear hb15
    go_wp2_with fail
    (with_reducible refine (bytesNil_any _).mono ?_)
    rintro e w16 ⟨rfl, rfl⟩
    go_wp2_with fail
    (with_reducible refine (codecAwake_any _).mono ?_)
    rintro e w17 ⟨rfl, hb17⟩
    go_wp2
    go_ret
    exact ⟨rfl, HB15.out.trans (hb17.mono HB15.out.size)⟩
theorem codecLays_law (n m a b : Int) (s : ByteArray) (w : World) (h0 : (Lit.int .i64 n).wf = true) (h1 : (Lit.int .i64 m).wf = true) (h2 : (Lit.int .u32 a).wf = true) (h3 : (Lit.int .u64 b).wf = true) (hs : s.size ≤ maxLen) :
    Calls Try.prog 5 #[.int .i64 n, .int .i64 m, .int .u32 a, .int .u64 b, .string s] w fun e w' => e = .returned (.bool true) ∧ Below w.heap.size w w' := by
  unfold maxLen at hs
  simp [Lit.wf, IntKind.min, IntKind.max, IntKind.signed, IntKind.bits] at h0 h1 h2 h3
  by_cases hl : 20000 < s.size
  · clear h0 h1 h2 h3
    go_enter Try.func5, Try.ntmps5
    go_wp2_with fail
    (with_reducible refine (codecAwake_any _).mono ?_)
    rintro e w1 ⟨rfl, hb⟩
    go_wp2
    go_ret
    exact ⟨rfl, hb⟩
  · obtain ⟨a, rfl⟩ := Int.eq_ofNat_of_zero_le (show 0 ≤ a by omega)
    obtain ⟨b, rfl⟩ := Int.eq_ofNat_of_zero_le (show 0 ≤ b by omega)
    exact codecLays_main n m a b s w (by omega) (by omega) (by omega) (by omega) (by omega) (by omega) (by omega)
end Go.Proofs.Ytbdocgnhoomhcaa
