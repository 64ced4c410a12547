
/-
  The walks of a reader's groups, Size, Signed, Fixed8, Text, Left, End.
-/
import Derived.Test.YtdbfaknpfepnfaaGreatDoorWriter4W
import Derived.Test.YtdbfaknpfepnfaaGreatDoorReaderW
namespace Go.Proofs.YtdbfaknpfepnfaaGreatDoor
open Go.RowKit CodecP

def bl (s : ByteArray) : List UInt8 := s.data.toList
def str (l : List UInt8) : ByteArray := ⟨l.toArray⟩
theorem str_bl (s : ByteArray) : str (bl s) = s := by cases s; simp [str, bl]
theorem bl_str (l : List UInt8) : bl (str l) = l := by simp [str, bl]
/-- What a reader has to come; none: it is bad. -/
def st (s : ByteArray) (bad : Bool) : Option (List UInt8) := if bad then none else some (bl s)
/-- What groups takes from the i-th byte on, behind a number. -/
def tkI (i n : Nat) (s : ByteArray) (bad : Bool) : Nat × Option (List UInt8) :=
  if bad then (0, none) else match tk i (bl s) with
    | none => (0, none)
    | some (m, r) => (n + 2 ^ (7 * i) * m, some r)
def RdTo (w w' : World) (p : Nat) (o : Option (List UInt8)) : Prop := ∃ s bad, Rd w' p s bad ∧ st s bad = o ∧ Fr (RdS p) w w'

theorem ext_bl (s : ByteArray) (a b : Nat) : bl (s.extract a b) = ((bl s).drop a).take (b - a) := by
  unfold bl
  rw [ByteArray.data_extract, Array.toList_extract]
theorem or_part (n x i : Nat) (hi : i ≤ 9) (hn : n < 2 ^ (7 * i)) (hx : i = 9 → x ≤ 1) : bits .or .u64 (n : Int) (IntKind.u64.wrap ((x : Int) % 128 * 2 ^ (7 * i))) = ((n + 2 ^ (7 * i) * (x % 128) : Nat) : Int) ∧ n + 2 ^ (7 * i) * (x % 128) < 18446744073709551616 ∧ n + 2 ^ (7 * i) * (x % 128) < 2 ^ (7 * (i + 1)) := by
  have hp : 2 ^ (7 * i) ≤ 2 ^ 63 := Nat.pow_le_pow_right (by omega) (by omega)
  have hq : (2 : Nat) ^ 63 = 9223372036854775808 := by decide
  have h7 : 2 ^ (7 * (i + 1)) = 128 * 2 ^ (7 * i) := by rw [show 7 * (i + 1) = 7 + 7 * i by omega, Nat.pow_add]
  have h8 : i ≤ 8 → 2 ^ (7 * i) ≤ 2 ^ 56 := fun h => Nat.pow_le_pow_right (by omega) (by omega)
  have hr : (2 : Nat) ^ 56 = 72057594037927936 := by decide
  have ei : (x : Int) % 128 * 2 ^ (7 * i) = ((2 ^ (7 * i) * (x % 128) : Nat) : Int) := by first | (push_cast; done) | (push_cast; rw [Int.mul_comm])
  have hle : 2 ^ (7 * i) * (x % 128) ≤ 2 ^ (7 * i) * 127 := Nat.mul_le_mul_left _ (by omega)
  have hle9 : i = 9 → 2 ^ (7 * i) * (x % 128) ≤ 2 ^ (7 * i) * 1 := fun h => Nat.mul_le_mul_left _ (by have := hx h; omega)
  have hor := Nat.two_pow_add_eq_or_of_lt hn (x % 128)
  rw [ei]
  generalize hP : 2 ^ (7 * i) = P at *
  generalize hM : P * (x % 128) = M at *
  have hMl : n + M < 18446744073709551616 := by
    by_cases h9 : i = 9
    · have := hle9 h9; omega
    · have := h8 (by omega); omega
  refine ⟨?_, hMl, by rw [h7]; omega⟩
  rw [IntKind.wrap_u64, show (M : Int) % 18446744073709551616 = (M : Int) by omega, u64_or_nat _ _ (by omega) (by omega), Nat.or_comm, ← hor, Nat.add_comm]
theorem tkI_more (i n : Nat) (s s2 : ByteArray) (c : UInt8) (r : List UInt8) (hc : bl s = c :: r) (h2 : bl s2 = r) (hbad : ¬ ((i = 9 ∧ 1 < c.toNat) ∨ (0 < i ∧ c.toNat = 0))) (h : ¬ c.toNat < 128) : tkI i n s false = tkI (i + 1) (n + 2 ^ (7 * i) * (c.toNat % 128)) s2 false := by
  unfold tkI
  rw [if_neg (by simp), if_neg (by simp), hc, h2]
  simp only [tk]
  rw [if_neg hbad, if_neg h]
  cases hk : tk (i + 1) r with
  | none => rfl
  | some y =>
    obtain ⟨m, q⟩ := y
    simp only [Option.map_some]
    congr 1
    rw [Nat.mul_add, show 7 * (i + 1) = 7 * i + 7 by omega, Nat.pow_add, Nat.add_assoc, Nat.mul_assoc]
theorem tkI_end (i n : Nat) (s s2 : ByteArray) (c : UInt8) (r : List UInt8) (hc : bl s = c :: r) (h2 : bl s2 = r) (hbad : ¬ ((i = 9 ∧ 1 < c.toNat) ∨ (0 < i ∧ c.toNat = 0))) (h : c.toNat < 128) : tkI i n s false = (n + 2 ^ (7 * i) * (c.toNat % 128), some (bl s2)) := by
  unfold tkI
  rw [if_neg (by simp), hc, h2]
  simp only [tk]
  rw [if_neg hbad, if_pos h, Nat.mod_eq_of_lt h]
theorem rdGroups_any (p : Nat) (s : ByteArray) (bad : Bool) (w : World) (h : Rd w p s bad) :
    Calls Tryz.prog 159 #[.pointer (some ⟨p, 0, none⟩)] w fun e w' => e = .returned (.int .u64 ((tkI 0 0 s bad).1 : Nat)) ∧ RdTo w w' p (tkI 0 0 s bad).2 := by
  have H0 := Lib.hid h
  clear h
  go_enter Tryz.func159, Tryz.ntmps159
  go_wp2
  go_loopw [3, 4] (fun x c wr => ∃ (n i : Nat) (s' : ByteArray) (b' : Bool), x = .int .u64 (n : Int) ∧ c = .int .i64 (i : Int) ∧ i ≤ 9 ∧ n < 2 ^ (7 * i) ∧ Rd wr p s' b' ∧ Fr (RdS p) w wr ∧ tkI 0 0 s bad = tkI i n s' b') (fun _ c _ => 9 - (intOf c).toNat)
  case atStart => exact ⟨0, 0, s, bad, rfl, rfl, by omega, by simp, H0.out, Fr.refl _ _, rfl⟩
  case round =>
    obtain ⟨n, i, s', b', rfl, rfl, hi, hn, hr, hf, he⟩ := hrel
    have HF := Lib.hid hf
    have HE := Lib.hid he
    have HR := Lib.hid (rdRaw_any p s' b' 1 wr hr)
    have HN := Lib.hid hn
    clear hf he hr hn
    by_cases hb : b' = true ∨ s'.size = 0
    · have hr : rawOut s' b' 1 = (ByteArray.empty, s', true) := by unfold rawOut; rw [if_pos (by rcases hb with h | h; exact .inl h; exact .inr (.inr (by omega)))]
      have ht : tkI i n s' b' = (0, none) := by
        unfold tkI
        rcases hb with h | h
        · rw [if_pos h]
        · split
          · rfl
          · have : bl s' = [] := List.length_eq_zero_iff.1 h
            rw [this]; rfl
      rw [hr] at HR
      rw [ht] at HE
      clear hr ht hb
      go_wp2_with fail
      refine HR.out.mono ?_
      rintro e w1 ⟨rfl, h1, hf1⟩
      go_wp2
      go_ret
      exact ⟨by rw [HE.out]; rfl, s', true, h1, by rw [HE.out]; rfl, HF.out.trans hf1 (fun _ _ h => h)⟩
    · obtain ⟨c, r, hc⟩ : ∃ c r, bl s' = c :: r := by
        cases hbs : bl s' with
        | nil => exact absurd (.inr (congrArg List.length hbs)) hb
        | cons c r => exact ⟨c, r, rfl⟩
      have hb1 : b' = false := by cases b' with | false => rfl | true => exact absurd (.inl rfl) hb
      have hs1 : 1 ≤ s'.size := by have : s'.size ≠ 0 := fun h => hb (.inr h); omega
      have hr : rawOut s' b' 1 = (s'.extract 0 1, s'.extract 1 s'.size, false) := by unfold rawOut; rw [if_neg (by rw [hb1]; simp; omega)]; rfl
      rw [hr] at HR
      subst hb1
      have ht0 : (s'.extract 0 1).size = 1 := by simp; omega
      have hbt : bl (s'.extract 0 1) = [c] := by rw [ext_bl, hc]; rfl
      have htc : ∀ h, (s'.extract 0 1)[0]'h = c := by
        intro h
        have h2 : (bl (s'.extract 0 1))[0]? = some c := by rw [hbt]; rfl
        have h3 : (bl (s'.extract 0 1))[0]? = some ((s'.extract 0 1)[0]'h) := List.getElem?_eq_getElem (show 0 < (bl (s'.extract 0 1)).length from h)
        rw [h3] at h2; injection h2
      have hbr : bl (s'.extract 1 s'.size) = r := by
        rw [ext_bl, hc, List.take_of_length_le]
        · rfl
        · have := congrArg List.length hc
          rw [show (bl s').length = s'.size from rfl] at this
          simp at this ⊢; omega
      generalize s'.extract 0 1 = t at *
      generalize s'.extract 1 s'.size = s2 at *
      have HT := Lib.hid ht0
      have HI := Lib.hid hi
      have q0 : t.toList.isEmpty = false := by
        rw [ByteArray.toList_eq, show t.data.toList = [c] from hbt]; rfl
      have ht1 : 0 < t.size := by omega
      simp only at HR
      clear hb hr ht0 hi hs1 hbt
      have hcl := c.toNat_lt
      obtain ⟨x, hx⟩ : ∃ x, x = c.toNat := ⟨_, rfl⟩
      rw [← hx] at hcl
      have htc' : ∀ h, ((t[0]'h).toNat : Int) = (x : Int) := fun h => by rw [htc h, hx]
      have hwc : IntKind.u64.wrap (x : Int) = (x : Int) := by rw [IntKind.wrap_u64]; omega
      clear htc
      by_cases hbad : (i = 9 ∧ 1 < x) ∨ (0 < i ∧ x = 0)
      · have htk : tkI i n s' false = (0, none) := by
          unfold tkI
          rw [if_neg (by simp), hc]
          simp only [tk]
          rw [if_pos (by rw [← hx]; exact hbad)]
        rw [htk] at HE
        clear htk hc hx
        rcases hbad with ⟨rfl, h1x⟩ | ⟨hi0, rfl⟩
        · have q1 : decide ((1 : Int) < (x : Int)) = true := by rw [decide_eq_true_eq]; omega
          go_wp2_with fail
          refine HR.out.mono ?_
          rintro e w1 ⟨rfl, h1, hf1⟩
          have HFA := Lib.hid (fail_any p s2 false w1 h1)
          have HF1 := Lib.hid hf1
          clear h1 hf1
          go_wp2_with fail
          refine HFA.out.mono ?_
          rintro e w2 ⟨rfl, h2, hf2⟩
          go_wp2
          go_ret
          exact ⟨by rw [HE.out]; rfl, s2, true, h2, by rw [HE.out]; rfl, (HF.out.trans HF1.out (fun _ _ h => h)).trans hf2 (fun _ _ h => h)⟩
        · by_cases h9 : i = 9
          · subst h9
            go_wp2_with fail
            refine HR.out.mono ?_
            rintro e w1 ⟨rfl, h1, hf1⟩
            have HFA := Lib.hid (fail_any p s2 false w1 h1)
            have HF1 := Lib.hid hf1
            clear h1 hf1
            go_wp2_with fail
            refine HFA.out.mono ?_
            rintro e w2 ⟨rfl, h2, hf2⟩
            go_wp2
            go_ret
            exact ⟨by rw [HE.out]; rfl, s2, true, h2, by rw [HE.out]; rfl, (HF.out.trans HF1.out (fun _ _ h => h)).trans hf2 (fun _ _ h => h)⟩
          · have q1 : ((i : Int) == 9) = false := by rw [beq_eq_false_iff_ne]; omega
            have q3 : decide ((0 : Int) < (i : Int)) = true := by rw [decide_eq_true_eq]; omega
            go_wp2_with fail
            refine HR.out.mono ?_
            rintro e w1 ⟨rfl, h1, hf1⟩
            have HFA := Lib.hid (fail_any p s2 false w1 h1)
            have HF1 := Lib.hid hf1
            clear h1 hf1
            go_wp2_with fail
            refine HFA.out.mono ?_
            rintro e w2 ⟨rfl, h2, hf2⟩
            go_wp2
            go_ret
            exact ⟨by rw [HE.out]; rfl, s2, true, h2, by rw [HE.out]; rfl, (HF.out.trans HF1.out (fun _ _ h => h)).trans hf2 (fun _ _ h => h)⟩
      · have HXC := Lib.hid hx
        clear hx
        have hand : bits .and .u64 (x : Int) 127 = ((x % 128 : Nat) : Int) := by
          rw [show (127 : Int) = ((127 : Nat) : Int) from rfl, u64_and_nat _ _ (by omega) (by omega)]
          congr 1
          exact Nat.and_two_pow_sub_one_eq_mod x 7
        have hi : i ≤ 9 := HI.out
        have hop := or_part n x i hi HN.out (fun h => by omega)
        obtain ⟨ho1, ho2, ho3⟩ := hop
        have HO2 := Lib.hid ho2
        have HO3 := Lib.hid ho3
        clear ho2 ho3
        by_cases h128 : x < 128
        · have hE := HE.out
          rw [tkI_end i n s' s2 c r hc hbr (by rw [← HXC.out]; exact hbad) (by rw [← HXC.out]; exact h128), ← HXC.out] at hE
          have HE2 := Lib.hid hE
          have q5 : decide ((x : Int) < 128) = true := by rw [decide_eq_true_eq]; omega
          clear hc hbr HE hE h128
          generalize n + 2 ^ (7 * i) * (x % 128) = N at *
          by_cases hi0 : i = 0
          · subst hi0
            have ho0 : bits .or .u64 (n : Int) ((x : Int) % 128) = (N : Int) := by
              rw [← ho1, IntKind.wrap_u64, Nat.mul_zero, Int.pow_zero, Int.mul_one, show (x : Int) % 128 % 18446744073709551616 = (x : Int) % 128 by omega]
            clear hbad ho1
            go_wp2_with fail
            refine HR.out.mono ?_
            rintro e w1 ⟨rfl, h1, hf1⟩
            have HF1 := Lib.hid hf1
            have H1 := Lib.hid h1
            clear h1 hf1
            go_wp2
            go_ret
            exact ⟨by rw [HE2.out]; rfl, s2, false, H1.out, by rw [HE2.out]; rfl, HF.out.trans HF1.out (fun _ _ h => h)⟩
          · by_cases hi9 : i = 9
            · subst hi9
              have hx1 : x = 1 := by omega
              subst hx1
              have hw9 : IntKind.u64.wrap 9223372036854775808 = 9223372036854775808 := by rw [IntKind.wrap_u64]; rfl
              have hand1 : bits .and .u64 1 127 = 1 := hand
              have ho9 : bits .or .u64 (n : Int) 9223372036854775808 = (N : Int) := by
                rw [← ho1]; congr 1
              have ho9' : bits .or .u64 (n : Int) (IntKind.u64.wrap (bits .and .u64 1 127 * 9223372036854775808)) = (N : Int) := by
                rw [hand1, Int.one_mul, hw9]; exact ho9
              clear hbad hand ho1
              go_wp2_with fail
              refine HR.out.mono ?_
              rintro e w1 ⟨rfl, h1, hf1⟩
              have HF1 := Lib.hid hf1
              have H1 := Lib.hid h1
              clear h1 hf1
              go_wp2
              go_ret
              exact ⟨by rw [HE2.out]; rfl, s2, false, H1.out, by rw [HE2.out]; rfl, HF.out.trans HF1.out (fun _ _ h => h)⟩
            · have q3 : 0 < i := by omega
              have q1 : ((i : Int) == 9) = false := by rw [beq_eq_false_iff_ne]; omega
              have q4 : ((x : Int) == 0) = false := by rw [beq_eq_false_iff_ne]; omega
              have hi1 : (0 : Int) ≤ 7 * (i : Int) := by omega
              have hi2 : 7 * (i : Int) ≤ 63 := by omega
              clear hbad
              go_wp2_with fail
              refine HR.out.mono ?_
              rintro e w1 ⟨rfl, h1, hf1⟩
              have HF1 := Lib.hid hf1
              have H1 := Lib.hid h1
              clear h1 hf1
              go_wp2
              go_ret
              exact ⟨by rw [HE2.out]; rfl, s2, false, H1.out, by rw [HE2.out]; rfl, HF.out.trans HF1.out (fun _ _ h => h)⟩
        · have hx9 : i < 9 := by
            rcases Nat.lt_or_ge i 9 with h | h
            · exact h
            · exact absurd (.inl ⟨by omega, by omega⟩) hbad
          have hE := HE.out
          rw [tkI_more i n s' s2 c r hc hbr (by rw [← HXC.out]; exact hbad) (by rw [← HXC.out]; exact h128), ← HXC.out] at hE
          have HE2 := Lib.hid hE
          have q1 : ((i : Int) == 9) = false := by rw [beq_eq_false_iff_ne]; omega
          have q4 : ((x : Int) == 0) = false := by rw [beq_eq_false_iff_ne]; omega
          have q5 : decide ((x : Int) < 128) = false := by rw [decide_eq_false_iff_not]; omega
          clear hbad h128 hc hbr HE hE
          generalize n + 2 ^ (7 * i) * (x % 128) = N at *
          by_cases hi0 : i = 0
          · subst hi0
            have ho0 : bits .or .u64 (n : Int) ((x : Int) % 128) = (N : Int) := by
              rw [← ho1, IntKind.wrap_u64, Nat.mul_zero, Int.pow_zero, Int.mul_one, show (x : Int) % 128 % 18446744073709551616 = (x : Int) % 128 by omega]
            clear ho1 q1
            go_wp2_with fail
            refine HR.out.mono ?_
            rintro e w1 ⟨rfl, h1, hf1⟩
            have HF1 := Lib.hid hf1
            have H1 := Lib.hid h1
            clear h1 hf1
            go_wp2
            go_roundw
            case rel => exact ⟨N, 1, s2, false, rfl, rfl, by omega, HO3.out, H1.out, HF.out.trans HF1.out (fun _ _ h => h), HE2.out⟩
            case measure => simp [intOf]
          · have q3 : 0 < i := by omega
            have hi1 : (0 : Int) ≤ 7 * (i : Int) := by omega
            have hi2 : 7 * (i : Int) ≤ 63 := by omega
            go_wp2_with fail
            refine HR.out.mono ?_
            rintro e w1 ⟨rfl, h1, hf1⟩
            have HF1 := Lib.hid hf1
            have H1 := Lib.hid h1
            clear h1 hf1
            go_wp2
            go_roundw
            case rel => exact ⟨N, i + 1, s2, false, by go_num, by go_num, by omega, HO3.out, H1.out, HF.out.trans HF1.out (fun _ _ h => h), HE2.out⟩
            case measure => simp [intOf]; omega
end Go.Proofs.YtdbfaknpfepnfaaGreatDoor
