/-
  Texts of the claim, joined: CurPackW, TabFrW, TabBP, TabBW, TabAddW, TabNewW, BRdW, BStepP.
-/
import Derived.Test.YtdbfaknpfepnfaaGreatDoorTabCK3
import Derived.Lib.IndexLaws
import Derived.Test.YtdbfaknpfepnfaaGreatDoorTabCK1
import Derived.Test.YtdbfaknpfepnfaaGreatDoorTabCK2
import Derived.Deep.CutBlock
import Derived.Deep.DeepCutAuto

/-
  The walk of cursor's Pack and Unpack.
-/
namespace Go.Proofs.YtdbfaknpfepnfaaGreatDoor
open Go.RowKit CodecP Cur

set_option maxRecDepth 100000 in
theorem idxByteS_any (a : ByteArray) (c : Int) (w : World) :
    Calls Tryz.prog 170 #[.string a, .int .u8 c] w fun e w' => e = .returned (.int .i64 (Lib.indexByte (bl a) c.toNat.toUInt8)) ∧ w = w' := by
  go_enter Tryz.func170, Tryz.ntmps170
  go_wp2
  rw [run_callFunc_extern Tryz.func175 (by kernel_rfl) (by kernel_rfl) (by kernel_rfl) (e := Extern.BytealgIndexByte.indexByte) (by kernel_rfl), Lib.run_indexByteString]
  simp only [Result.andThen]
  rw [Oper.upon_value]
  go_wp2
  go_ret
  exact ⟨rfl, rfl⟩
set_option maxRecDepth 100000 in
theorem indexByte_mem (l : List UInt8) (c : UInt8) : (0 ≤ Lib.indexByte l c ↔ c ∈ l) := by
  induction l with
  | nil => simp [Lib.indexByte]
  | cons b l ih =>
    have hge := Lib.indexByte_ge l c
    unfold Lib.indexByte
    by_cases hb : b = c
    · simp [hb]
    · have h1 : (b == c) = false := by simpa using hb
      rw [h1]
      simp only [Bool.false_eq_true, if_false]
      by_cases h2 : Lib.indexByte l c = -1
      · rw [h2]
        have : ¬ c ∈ l := fun h => by have := ih.2 h; omega
        simp [this]
        exact fun h => hb h.symm
      · have h3 : (Lib.indexByte l c == -1) = false := by simpa using h2
        rw [h3]
        simp only [Bool.false_eq_true, if_false]
        have : c ∈ l := ih.1 (by omega)
        simp [this]
        omega
set_option maxRecDepth 100000 in
theorem slIndex0_any (a : ByteArray) (w : World) :
    Calls Tryz.prog 150 #[.string a, .string ⟨#[0]⟩] w fun e w' => e = .returned (.int .i64 (Lib.indexByte (bl a) 0)) ∧ w = w' := by
  have HI := Lib.hid (idxByteS_any a 0 w)
  by_cases h0 : bl a = [0]
  · have e0 : (([0] : List UInt8) == a.toList) = true := by rw [ByteArray.toList_eq, beq_iff_eq]; exact h0.symm
    have H0 := Lib.hid h0
    clear h0
    go_enter Tryz.func150, Tryz.ntmps150
    go_wp2_with fail
    go_ret
    exact ⟨by rw [H0.out]; rfl, rfl⟩
  · have e0 : (([0] : List UInt8) == a.toList) = false := by
      rw [ByteArray.toList_eq, beq_eq_false_iff_ne]
      exact fun h => h0 h.symm
    clear h0
    go_enter Tryz.func150, Tryz.ntmps150
    go_wp2_with fail
    rw [show ((((⟨#[0]⟩ : ByteArray)[0]).toNat : Nat) : Int) = 0 from rfl]
    (with_reducible refine HI.out.mono ?_)
    rintro e w1 ⟨rfl, rfl⟩
    go_wp2_with fail
    go_ret
    exact ⟨rfl, rfl⟩
set_option maxRecDepth 100000 in
theorem contains0_any (a : ByteArray) (w : World) :
    Calls Tryz.prog 59 #[.string a, .string ⟨#[0]⟩] w fun e w' => e = .returned (.bool (decide ((0 : UInt8) ∈ bl a))) ∧ w = w' := by
  have HI := Lib.hid (slIndex0_any a)
  have hix : ∀ W, Calls Tryz.prog 105 #[.string a, .string ⟨#[0]⟩] W fun e w' => e = .returned (.int .i64 (Lib.indexByte (bl a) 0)) ∧ W = w' := by
    intro W
    go_enter Tryz.func105, Tryz.ntmps105
    go_wp2_with fail
    (with_reducible refine (HI.out _).mono ?_)
    rintro e w1 ⟨rfl, rfl⟩
    go_wp2_with fail
    go_ret
    exact ⟨rfl, rfl⟩
  have HX := Lib.hid hix
  have hm := indexByte_mem (bl a) 0
  have hd : decide (0 ≤ Lib.indexByte (bl a) 0) = decide ((0 : UInt8) ∈ bl a) := by congr 1; exact propext hm
  have HD := Lib.hid hd
  clear hix hm hd
  generalize Lib.indexByte (bl a) 0 = x at *
  go_enter Tryz.func59, Tryz.ntmps59
  go_wp2_with fail
  (with_reducible refine (HX.out _).mono ?_)
  rintro e w1 ⟨rfl, rfl⟩
  go_wp2_with fail
  go_ret
  exact ⟨by rw [← HD.out]; rfl, rfl⟩
/-- An inner key, where a key and a number may be. -/
def OkK (k : List UInt8) (n : Int) : Prop := 1 ≤ k.length ∧ k.length ≤ 64 ∧ (0 : UInt8) ∉ k ∧ 0 ≤ n ∧ n ≤ 4611686018427387904
instance (k : List UInt8) (n : Int) : Decidable (OkK k n) := by unfold OkK; infer_instance
def inn (k : List UInt8) (n : Int) : List UInt8 := k ++ [0] ++ fixed 8 (4611686018427387904 - n).toNat
set_option maxRecDepth 100000 in
theorem pack_any (k : ByteArray) (n : Int) (w : World) :
    Calls Tryz.prog 11 #[.string k, .int .i64 n] w fun e w' => Below w.heap.size w w' ∧
      ((OkK (bl k) n ∧ e = .returned (.tuple #[.string (str (inn (bl k) n)), .bool true])) ∨ (¬ OkK (bl k) n ∧ e = .returned (.tuple #[.string ⟨#[]⟩, .bool false]))) := by
  have HC := Lib.hid (contains0_any k)
  have HR := Lib.hid (Below.refl w.heap.size w)
  by_cases hok : OkK (bl k) n
  · have HOK := Lib.hid hok
    obtain ⟨h1, h2, h3, h4, h5⟩ := hok
    rw [bl_size] at h1 h2
    obtain ⟨g1, g2⟩ := ne_facts h1
    have d1 : decide ((64 : Int) < (k.size : Int)) = false := by rw [decide_eq_false_iff_not]; omega
    have d2 : decide ((0 : UInt8) ∈ bl k) = false := by rw [decide_eq_false_iff_not]; exact h3
    have d3 : decide (n < 0) = false := by rw [decide_eq_false_iff_not]; omega
    have d4 : decide (4611686018427387904 < n) = false := by rw [decide_eq_false_iff_not]; omega
    have w4 : IntKind.i64.wrap (4611686018427387904 - n) = 4611686018427387904 - n := IntWalk.i64_in _ (by omega)
    have w5 : IntKind.u64.wrap (4611686018427387904 - n) = 4611686018427387904 - n := by rw [IntKind.wrap_u64]; omega
    rw [d2] at HC
    clear h3 d2
    have O0 := Own.new (Below.refl w.heap.size w)
    have H0 := Lib.hid O0
    clear O0
    go_enter Tryz.func11, Tryz.ntmps11
    go_wp2_with fail
    (with_reducible refine (HC.out _).mono ?_)
    rintro e w1 ⟨rfl, rfl⟩
    go_upto_region 4 with (fail)
    generalize w.alloc (.cells #[.slice none 0 0] 96) = w2 at *
    generalize w.heap.size = p at H0 ⊢
    have R1 := Lib.hid (raw_any p 0 #[undef] 96 none [] k w2 H0.out.wr (by simp; omega))
    go_wp2_with fail
    (with_reducible refine R1.out.mono ?_)
    rintro e w3 ⟨rfl, hb3⟩
    obtain ⟨g3, O3⟩ := H0.out.step hb3
    have H3 := Lib.hid O3
    have R2 := Lib.hid (raw_any p 0 #[undef] 96 g3 _ ⟨#[0]⟩ w3 O3.wr (by rw [show (⟨#[0]⟩ : ByteArray).size = 1 from rfl]; simp; omega))
    clear hb3 O3
    go_wp2_with fail
    (with_reducible refine R2.out.mono ?_)
    rintro e w4 ⟨rfl, hb4⟩
    obtain ⟨g4, O4⟩ := H3.out.step hb4
    have H4 := Lib.hid O4
    have R3 := Lib.hid (fixed8_any p 0 #[undef] 96 g4 _ (4611686018427387904 - n).toNat w4 O4.wr (by simp; omega))
    rw [show (((4611686018427387904 - n).toNat : Nat) : Int) = 4611686018427387904 - n by omega] at R3
    clear hb4 O4
    go_wp2_with fail
    (with_reducible refine R3.out.mono ?_)
    rintro e w5 ⟨rfl, hb5⟩
    obtain ⟨g5, O5⟩ := H4.out.step hb5
    have H5 := Lib.hid O5
    have R4 := Lib.hid (bytes_any p 0 #[undef] 96 g5 _ w5 O5.wr)
    clear hb5 O5
    go_wp2_with fail
    (with_reducible refine R4.out.mono ?_)
    rintro e w6 ⟨rfl, rfl⟩
    go_wp2_with fail
    refine bodyPost_ret (v := .tuple #[.string (str (inn (bl k) n)), .bool true]) ?_ rfl ⟨H5.out.below, .inl ⟨HOK.out, rfl⟩⟩
    simp [results, Tryz.results11, go_sem]
    simp [inn, str, bl]
  · have HOK := Lib.hid hok
    rcases Nat.eq_zero_or_pos k.size with h0 | h0
    · obtain ⟨g1, g2, g3⟩ := em_facts h0
      clear hok
      go_enter Tryz.func11, Tryz.ntmps11
      go_wp2_with fail
      exact bodyPost_ret (v := .tuple #[.string ⟨#[]⟩, .bool false]) (by simp [results, Tryz.results11, go_sem]) rfl ⟨HR.out, .inr ⟨HOK.out, rfl⟩⟩
    · obtain ⟨g1, g2⟩ := ne_facts h0
      by_cases h2 : 64 < k.size
      · have d1 : decide ((64 : Int) < (k.size : Int)) = true := by rw [decide_eq_true_eq]; omega
        clear hok
        go_enter Tryz.func11, Tryz.ntmps11
        go_wp2_with fail
        exact bodyPost_ret (v := .tuple #[.string ⟨#[]⟩, .bool false]) (by simp [results, Tryz.results11, go_sem]) rfl ⟨HR.out, .inr ⟨HOK.out, rfl⟩⟩
      · have d1 : decide ((64 : Int) < (k.size : Int)) = false := by rw [decide_eq_false_iff_not]; omega
        by_cases h3 : (0 : UInt8) ∈ bl k
        · rw [decide_eq_true h3] at HC
          clear hok h3
          go_enter Tryz.func11, Tryz.ntmps11
          go_wp2_with fail
          (with_reducible refine (HC.out _).mono ?_)
          rintro e w1 ⟨rfl, rfl⟩
          go_wp2_with fail
          exact bodyPost_ret (v := .tuple #[.string ⟨#[]⟩, .bool false]) (by simp [results, Tryz.results11, go_sem]) rfl ⟨HR.out, .inr ⟨HOK.out, rfl⟩⟩
        · rw [decide_eq_false h3] at HC
          have hbs := bl_size k
          unfold OkK at hok
          by_cases h4 : n < 0
          · have d3 : decide (n < 0) = true := by rw [decide_eq_true_eq]; exact h4
            clear hok h3 h4 hbs
            go_enter Tryz.func11, Tryz.ntmps11
            go_wp2_with fail
            (with_reducible refine (HC.out _).mono ?_)
            rintro e w1 ⟨rfl, rfl⟩
            go_wp2_with fail
            exact bodyPost_ret (v := .tuple #[.string ⟨#[]⟩, .bool false]) (by simp [results, Tryz.results11, go_sem]) rfl ⟨HR.out, .inr ⟨HOK.out, rfl⟩⟩
          · have d3 : decide (n < 0) = false := by rw [decide_eq_false_iff_not]; exact h4
            have h5 : 4611686018427387904 < n := by
              rcases Classical.em (4611686018427387904 < n) with h | h
              · exact h
              · exact absurd ⟨by omega, by omega, h3, by omega, by omega⟩ hok
            have d4 : decide (4611686018427387904 < n) = true := by rw [decide_eq_true_eq]; exact h5
            clear hok h3 h4 h5 hbs
            go_enter Tryz.func11, Tryz.ntmps11
            go_wp2_with fail
            (with_reducible refine (HC.out _).mono ?_)
            rintro e w1 ⟨rfl, rfl⟩
            go_wp2_with fail
            exact bodyPost_ret (v := .tuple #[.string ⟨#[]⟩, .bool false]) (by simp [results, Tryz.results11, go_sem]) rfl ⟨HR.out, .inr ⟨HOK.out, rfl⟩⟩
set_option maxRecDepth 100000 in
theorem inn_len (k : List UInt8) (n : Int) : (inn k n).length = k.length + 9 := by
  unfold inn
  rw [List.length_append, List.length_append, fixed_length]
  rfl
set_option maxRecDepth 100000 in
theorem inn_parts {k : List UInt8} {n : Int} (h : OkK k n) : (inn k n).take ((inn k n).length - 9) = k ∧ value ((inn k n).drop ((inn k n).length - 8)) = (4611686018427387904 - n).toNat := by
  obtain ⟨-, -, -, h4, h5⟩ := h
  have hl := inn_len k n
  rw [hl]
  constructor
  · unfold inn
    rw [show k.length + 9 - 9 = k.length by omega, List.append_assoc, List.take_left' rfl]
  · unfold inn
    rw [show k.length + 9 - 8 = (k ++ [0]).length by rw [List.length_append]; simp, List.drop_left' rfl, value_fixed]
    omega
set_option maxRecDepth 100000 in
theorem inner_any (k : ByteArray) (n : Int) (w : World) (hk : k.size ≤ 1000000) (h0 : 0 ≤ n) (h1 : n ≤ 4611686018427387904) :
    Calls Tryz.prog 13 #[.string k, .int .i64 n] w fun e w' => e = .returned (.string (str (inn (bl k) n))) ∧ Below w.heap.size w w' := by
  have hf := refFixed_any (4611686018427387904 - n).toNat 8 w (by omega) (by omega)
  rw [show (((4611686018427387904 - n).toNat : Nat) : Int) = 4611686018427387904 - n by omega, show ((8 : Nat) : Int) = 8 from rfl] at hf
  have HF := Lib.hid hf
  clear hf
  have w4 : IntKind.i64.wrap (4611686018427387904 - n) = 4611686018427387904 - n := IntWalk.i64_in _ (by omega)
  have w5 : IntKind.u64.wrap (4611686018427387904 - n) = 4611686018427387904 - n := by rw [IntKind.wrap_u64]; omega
  have z1 : (⟨#[0]⟩ : ByteArray).size = 1 := rfl
  go_enter Tryz.func13, Tryz.ntmps13
  go_wp2_with fail
  (with_reducible refine HF.out.mono ?_)
  rintro e w1 ⟨rfl, hb⟩
  have z2 : (str (fixed 8 (4611686018427387904 - n).toNat)).size = 8 := by rw [str_size, fixed_length]
  have HB := Lib.hid hb
  clear hb
  go_wp2_with fail
  go_ret
  have he : k ++ ⟨#[0]⟩ ++ str (fixed 8 (4611686018427387904 - n).toNat) = str (inn (bl k) n) := by
    rw [← str_bl (k ++ ⟨#[0]⟩ ++ str _)]
    congr 1
  exact ⟨congrArg (fun x => Ending.returned (Value.string x)) he, HB.out⟩
/-- What Unpack answers. -/
def UnpackP (s : ByteArray) (w : World) (e : Ending) (w' : World) : Prop :=
  Below w.heap.size w w' ∧ ((∃ (k : List UInt8) (n : Int), OkK k n ∧ bl s = inn k n ∧ e = .returned (.tuple #[.string (str k), .int .i64 n, .bool true])) ∨
    ((∀ (k : List UInt8) (n : Int), OkK k n → bl s ≠ inn k n) ∧ e = .returned (.tuple #[.string ⟨#[]⟩, .int .i64 0, .bool false])))
set_option maxRecDepth 100000 in
theorem unpack_any (s : ByteArray) (w : World) (hs : s.size ≤ maxLen) :
    Calls Tryz.prog 14 #[.string s] w (UnpackP s w) := by
  unfold maxLen at hs
  have hbs := bl_size s
  have hpt : ∀ (k : List UInt8) (n : Int), OkK k n → bl s = inn k n → 9 < s.size ∧ (bl s).take (s.size - 9) = k ∧ value ((bl s).drop (s.size - 8)) = (4611686018427387904 - n).toNat := fun k n h e => by
    have h1 := inn_parts h
    have h2 := inn_len k n
    have h3 := h.1
    rw [← e, hbs] at h1 h2
    exact ⟨by omega, h1.1, h1.2⟩
  have HPT := Lib.hid hpt
  have HR := Lib.hid (Below.refl w.heap.size w)
  clear hpt
  by_cases h9 : s.size ≤ 9
  · have d1 : decide ((s.size : Int) ≤ 9) = true := by rw [decide_eq_true_eq]; omega
    have H9 := Lib.hid h9
    clear h9 hbs
    go_enter Tryz.func14, Tryz.ntmps14
    go_wp2_with fail
    exact bodyPost_ret (v := .tuple #[.string ⟨#[]⟩, .int .i64 0, .bool false]) (by simp [results, Tryz.results14, go_sem]) rfl ⟨HR.out, .inr ⟨fun k n h e => by have := (HPT.out k n h e).1; have := H9.out; omega, rfl⟩⟩
  · have d1 : decide ((s.size : Int) ≤ 9) = false := by rw [decide_eq_false_iff_not]; omega
    have hex : bl (s.extract (s.size - 8) s.size) = (bl s).drop (s.size - 8) := by
      rw [ext_bl, List.take_of_length_le (by rw [List.length_drop, hbs]; omega)]
    have hke : s.extract 0 (s.size - 9) = str ((bl s).take (s.size - 9)) := by
      rw [← str_bl (s.extract 0 _), ext_bl, List.drop_zero, Nat.sub_zero]
    have hl8 : ((bl s).drop (s.size - 8)).length = 8 := by rw [List.length_drop, hbs]; omega
    have HRD := Lib.hid (read_any (s.extract (s.size - 8) s.size) w (by rw [ByteArray.size_extract]; unfold maxLen; omega))
    obtain ⟨m, hm⟩ : ∃ m, m = value ((bl s).drop (s.size - 8)) := ⟨_, rfl⟩
    have hml : m < 18446744073709551616 := by
      have h1 := value_lt ((bl s).drop (s.size - 8))
      rw [hl8] at h1
      omega
    have hro : value (rawOut (s.extract (s.size - 8) s.size) false 8).1.data.toList = m := by
      rw [(rawOut_st _ _ _).1]
      show value (bl (str _)) = m
      rw [bl_str, hm]
      unfold st rawS
      simp only [Bool.false_eq_true, if_false]
      rw [hex, if_neg (by rw [hl8]; omega)]
      simp only []
      rw [List.take_of_length_le (by rw [hl8]; omega)]
    have HRO := Lib.hid hro
    have HM := Lib.hid hm
    have HKE := Lib.hid hke
    have s1 : IntKind.i64.wrap ((s.size : Int) - 9) = (s.size : Int) - 9 := IntWalk.i64_in _ (by omega)
    have s2 : IntKind.i64.wrap ((s.size : Int) - 9 + 1) = (s.size : Int) - 9 + 1 := IntWalk.i64_in _ (by omega)
    have s3 : ((s.size : Int) - 9).toNat = s.size - 9 := by omega
    have s4 : ((s.size : Int) - 9 + 1).toNat = s.size - 8 := by omega
    have s5 : (0 : Int) ≤ (s.size : Int) - 9 := by omega
    have s6 : (0 : Int) ≤ (s.size : Int) - 9 + 1 := by omega
    have s7 : (s.size : Int) - 9 ≤ (s.size : Int) := by omega
    have s8 : (s.size : Int) - 9 + 1 ≤ (s.size : Int) := by omega
    clear hro hm hke hex hl8 hbs
    go_enter Tryz.func14, Tryz.ntmps14
    go_wp2_with fail
    (with_reducible refine HRD.out.mono ?_)
    rintro e w1 ⟨rfl, hr1, hb1⟩
    have HF := Lib.hid (rdFixed8_any _ _ _ w1 hr1)
    rw [HRO.out] at HF
    have HB1 := Lib.hid hb1
    clear hr1 hb1
    go_wp2_with fail
    (with_reducible refine HF.out.mono ?_)
    rintro e w2 ⟨rfl, -, hf2⟩
    have HB2 : Hid (Below w.heap.size w w2) := Lib.hid (HB1.out.trans (hf2.below HB1.out.size (fun k _ hk => by unfold RdS at hk; omega)))
    clear hf2
    by_cases hbig : 4611686018427387904 < m
    · have d2 : decide ((4611686018427387904 : Int) < (m : Int)) = true := by rw [decide_eq_true_eq]; omega
      have HBG := Lib.hid hbig
      clear hbig
      go_wp2_with fail
      exact bodyPost_ret (v := .tuple #[.string ⟨#[]⟩, .int .i64 0, .bool false]) (by simp [results, Tryz.results14, go_sem]) rfl ⟨HB2.out, .inr ⟨fun k n h e => by
        have h1 := (HPT.out k n h e).2.2
        rw [← HM.out] at h1
        have h2 := HBG.out
        have h3 := h.2.2.2.1
        omega, rfl⟩⟩
    · have d2 : decide ((4611686018427387904 : Int) < (m : Int)) = false := by rw [decide_eq_false_iff_not]; omega
      have w3 : IntKind.i64.wrap (m : Int) = (m : Int) := IntWalk.i64_in _ (by omega)
      have w4 : IntKind.i64.wrap (4611686018427387904 - (m : Int)) = 4611686018427387904 - (m : Int) := IntWalk.i64_in _ (by omega)
      have HPK := Lib.hid (pack_any (str ((bl s).take (s.size - 9))) (4611686018427387904 - (m : Int)) w2)
      rw [bl_str] at HPK
      have hmn : ∀ (k : List UInt8) (n : Int), OkK k n → bl s = inn k n → k = (bl s).take (s.size - 9) ∧ n = 4611686018427387904 - (m : Int) := fun k n h e => by
        obtain ⟨-, h1, h2⟩ := HPT.out k n h e
        rw [← HM.out] at h2
        have h3 := h.2.2.2.1
        have h4 := h.2.2.2.2
        exact ⟨h1.symm, by omega⟩
      have HMN := Lib.hid hmn
      clear hmn
      go_wp2_with fail
      rw [HKE.out]
      (with_reducible refine HPK.out.mono ?_)
      rintro e w5 ⟨hb5, ⟨hok, rfl⟩ | ⟨hok, rfl⟩⟩
      · have HB5 := Lib.hid (HB2.out.trans (hb5.mono HB2.out.size))
        have HOK := Lib.hid hok
        clear hb5 hok
        by_cases he : bl s = inn ((bl s).take (s.size - 9)) (4611686018427387904 - (m : Int))
        · have e1 : ((str (inn ((bl s).take (s.size - 9)) (4611686018427387904 - (m : Int)))).toList == s.toList) = true := by rw [← he, str_bl]; simp
          have HE := Lib.hid he
          clear he
          go_wp2_with fail
          exact bodyPost_ret (v := .tuple #[.string (str ((bl s).take (s.size - 9))), .int .i64 (4611686018427387904 - (m : Int)), .bool true]) (by simp [results, Tryz.results14, go_sem]) rfl ⟨HB5.out, .inl ⟨_, _, HOK.out, HE.out, rfl⟩⟩
        · have e1 : ((str (inn ((bl s).take (s.size - 9)) (4611686018427387904 - (m : Int)))).toList == s.toList) = false := by
            rw [beq_eq_false_iff_ne]
            intro e
            rw [ByteArray.toList_eq, ByteArray.toList_eq] at e
            exact he e.symm
          have HE := Lib.hid he
          clear he
          go_wp2_with fail
          exact bodyPost_ret (v := .tuple #[.string ⟨#[]⟩, .int .i64 0, .bool false]) (by simp [results, Tryz.results14, go_sem]) rfl ⟨HB5.out, .inr ⟨fun k n h e => by
            obtain ⟨h1, h2⟩ := HMN.out k n h e
            rw [h1, h2] at e
            exact HE.out e, rfl⟩⟩
      · have HB5 := Lib.hid (HB2.out.trans (hb5.mono HB2.out.size))
        have HOK := Lib.hid hok
        clear hb5 hok
        go_wp2_with fail
        exact bodyPost_ret (v := .tuple #[.string ⟨#[]⟩, .int .i64 0, .bool false]) (by simp [results, Tryz.results14, go_sem]) rfl ⟨HB5.out, .inr ⟨fun k n h e => by
          obtain ⟨h1, h2⟩ := HMN.out k n h e
          rw [h1, h2] at h
          exact HOK.out h, rfl⟩⟩
end Go.Proofs.YtdbfaknpfepnfaaGreatDoor

/-
  The walks of a key's front, of keys' fronts, of a frame's place.
-/
namespace Go.Proofs.YtdbfaknpfepnfaaGreatDoor
open Go.RowKit CodecP

set_option maxRecDepth 100000 in
theorem frontK_take : ∀ (k : List UInt8) (o : Nat), o ≤ k.length → (∀ j, j < o → k[j]? ≠ some 0) → (k[o]? = some 0 ∨ o = k.length) → frontK k = k.take o
  | [], o, h, _, _ => by simp [frontK]
  | c :: k, o, h, hne, he => by
    unfold frontK
    rw [List.takeWhile_cons]
    cases o with
    | zero =>
      have hc : c = 0 := by
        rcases he with he | he
        · simpa using he
        · simp at he
      subst hc
      simp
    | succ o =>
      have hc : c ≠ 0 := by simpa using hne 0 (by omega)
      have ih := frontK_take k o (by simpa using h) (fun j hj => by simpa using hne (j + 1) (by omega)) (by simpa using he)
      unfold frontK at ih
      rw [if_pos (by simpa using hc), ih, List.take_succ_cons]
set_option maxRecDepth 100000 in
theorem front_idx (k : List UInt8) : (Lib.indexByte k 0 = -1 ∧ frontK k = k) ∨ ∃ o : Nat, Lib.indexByte k 0 = o ∧ o < k.length ∧ frontK k = k.take o := by
  have h := Lib.indexByte_ge k 0
  by_cases h1 : Lib.indexByte k 0 = -1
  · refine .inl ⟨h1, ?_⟩
    have := frontK_take k k.length (Nat.le_refl _) (fun j _ => Lib.indexByte_none h1 j) (.inr rfl)
    rw [this, List.take_length]
  · obtain ⟨o, ho⟩ : ∃ o : Nat, Lib.indexByte k 0 = o := ⟨(Lib.indexByte k 0).toNat, by omega⟩
    obtain ⟨h2, h3⟩ := Lib.indexByte_some ho
    have hlt : o < k.length := by
      rcases Nat.lt_or_ge o k.length with h | h
      · exact h
      · rw [List.getElem?_eq_none h] at h2; cases h2
    exact .inr ⟨o, ho, hlt, frontK_take k o (by omega) h3 (.inl h2)⟩
set_option maxRecDepth 100000 in
theorem front_le (k : List UInt8) : (frontK k).length ≤ k.length := (List.takeWhile_sublist _).length_le
set_option maxRecDepth 100000 in
theorem cut0s_any (a : ByteArray) (w : World) (ha : a.size ≤ 1099511627776) :
    Calls Tryz.prog 169 #[.string a, .string ⟨#[0]⟩] w fun e w' => ∃ x b, e = .returned (.tuple #[.string (str (frontK (bl a))), .string x, .bool b]) ∧ Below w.heap.size w w' := by
  have HI := Lib.hid (slIndex0_any a w)
  have HR := Lib.hid (Below.refl w.heap.size w)
  rcases front_idx (bl a) with ⟨h1, h2⟩ | ⟨o, h1, h2, h3⟩
  · rw [h1] at HI
    rw [h2, str_bl]
    clear h1 h2
    go_enter Tryz.func169, Tryz.ntmps169
    go_wp2_with fail
    (with_reducible refine HI.out.mono ?_)
    rintro e w1 ⟨rfl, rfl⟩
    go_wp2_with fail
    refine bodyPost_ret (v := .tuple #[.string a, .string ⟨#[]⟩, .bool false]) (by simp [results, Tryz.results169, go_sem]) rfl ⟨_, _, rfl, HR.out⟩
  · rw [h1] at HI
    have hs : a.extract 0 o = str (frontK (bl a)) := by
      rw [h3, ← str_bl (a.extract 0 o), ext_bl]
      simp
    have HS := Lib.hid hs
    rw [bl_size] at h2
    have d0 : decide ((0 : Int) ≤ (o : Int)) = true := by rw [decide_eq_true_eq]; omega
    have wo : IntKind.i64.wrap ((o : Int) + 1) = (o : Int) + 1 := IntWalk.i64_in _ (by omega)
    have ho2 : ((o : Int) + 1).toNat = o + 1 := by omega
    have ho3 : (o : Int) + 1 ≤ (a.size : Int) := by omega
    have ho4 : (0 : Int) ≤ (o : Int) + 1 := by omega
    clear h1 h3 hs
    go_enter Tryz.func169, Tryz.ntmps169
    go_wp2_with fail
    (with_reducible refine HI.out.mono ?_)
    rintro e w1 ⟨rfl, rfl⟩
    go_wp2_with fail
    go_quiet (fail)
    go_wp2_with fail
    refine bodyPost_ret (v := .tuple #[.string (a.extract 0 o), .string (a.extract (o + 1) a.size), .bool true]) (by simp [results, Tryz.results169, go_sem]) rfl ⟨_, _, by rw [HS.out], HR.out.drewN _⟩
set_option maxRecDepth 100000 in
theorem cut0_any (a : ByteArray) (w : World) (ha : a.size ≤ 1099511627776) :
    Calls Tryz.prog 149 #[.string a, .string ⟨#[0]⟩] w fun e w' => ∃ x b, e = .returned (.tuple #[.string (str (frontK (bl a))), .string x, .bool b]) ∧ Below w.heap.size w w' := by
  have HC := Lib.hid (cut0s_any a w ha)
  clear ha
  go_enter Tryz.func149, Tryz.ntmps149
  go_wp2_with fail
  (with_reducible refine HC.out.mono ?_)
  rintro e w1 ⟨x, b, rfl, hb⟩
  have HB := Lib.hid hb
  clear hb HC
  go_wp2_with fail
  refine bodyPost_ret (v := .tuple #[.string (str (frontK (bl a))), .string x, .bool b]) (by simp [results, Tryz.results149, go_sem]) rfl ⟨_, _, rfl, HB.out⟩
set_option maxRecDepth 100000 in
theorem front_any (a : ByteArray) (w : World) (ha : a.size ≤ 1099511627776) :
    Calls Tryz.prog 104 #[.string a] w fun e w' => e = .returned (.string (str (frontK (bl a)))) ∧ Below w.heap.size w w' := by
  have HC := Lib.hid (cut0_any a w ha)
  clear ha
  go_enter Tryz.func104, Tryz.ntmps104
  go_wp2_with fail
  (with_reducible refine HC.out.mono ?_)
  rintro e w1 ⟨x, b, rfl, hb⟩
  have HB := Lib.hid hb
  clear hb HC
  go_wp2_with fail
  go_ret
  exact ⟨rfl, HB.out⟩
set_option maxRecDepth 100000 in
theorem refFront_any (a : ByteArray) (w : World) (ha : a.size ≤ 1099511627776) :
    Calls Tryz.prog 73 #[.string a] w fun e w' => e = .returned (.string (str (frontK (bl a)))) ∧ w = w' := by
  go_enter Tryz.func73, Tryz.ntmps73
  go_wp2_with fail
  go_loopg [3] a.size (fun g iv wr => ∃ i : Nat, i + g = a.size ∧ iv = .int .i64 i ∧ (∀ j (hj : j < a.size), j < i → a[j] ≠ 0) ∧ wr = w)
  case atStart => exact ⟨0, by omega, rfl, fun j _ h => by omega, rfl⟩
  case round =>
    obtain ⟨i, hig, rfl, hpre, rfl⟩ := hrel
    have hpre2 : ∀ j, j < i → (bl a)[j]? ≠ some 0 := fun j hj h => by
      have hj2 : j < a.size := by
        rcases Nat.lt_or_ge j a.size with h1 | h1
        · exact h1
        · rw [List.getElem?_eq_none (by rw [bl_size]; exact h1)] at h; cases h
      rw [List.getElem?_eq_getElem (by rw [bl_size]; exact hj2)] at h
      injection h with h
      exact hpre j hj2 hj h
    have HP := Lib.hid hpre
    have HP2 := Lib.hid hpre2
    clear hpre hpre2
    by_cases hlt : i < a.size
    · have d9 : decide ((i : Int) < (a.size : Int)) = true := by rw [decide_eq_true_eq]; omega
      have hil : (i : Int) < (a.size : Int) := by omega
      have hil2 : (i : Int) ≤ (a.size : Int) := by omega
      have wi : IntKind.i64.wrap ((i : Int) + 1) = (i : Int) + 1 := IntWalk.i64_in _ (by omega)
      obtain ⟨c, hc⟩ : ∃ c, c = a[i] := ⟨_, rfl⟩
      by_cases hz : c = 0
      · have hcx : ∀ h, ((a[i]'h).toNat : Int) = 0 := fun h => by rw [← hc, hz]; rfl
        have hs : a.extract 0 i = str (frontK (bl a)) := by
          rw [frontK_take (bl a) i (by rw [bl_size]; omega) HP2.out (.inl (by rw [List.getElem?_eq_getElem (by rw [bl_size]; exact hlt)]; exact congrArg some (hc.symm.trans hz))), ← str_bl (a.extract 0 i), ext_bl]
          simp
        have HS := Lib.hid hs
        clear hc hz hs
        go_wp2_with fail
        go_ret
        exact ⟨congrArg (fun x => Ending.returned (.string x)) HS.out, rfl⟩
      · have hcn : ¬ c.toNat = 0 := fun h => hz (by apply UInt8.toNat_inj.1; rw [h]; rfl)
        have hcx : ∀ h, ((a[i]'h).toNat : Int) = (c.toNat : Int) := fun h => by rw [hc]
        have HZ := Lib.hid (show a[i] ≠ 0 from fun h => hz (hc.trans h))
        clear hc hz
        generalize c.toNat = x at *
        have q1 : (((x : Nat) : Int) == 0) = false := by rw [beq_eq_false_iff_ne]; omega
        go_wp2_with fail
        go_roundg (a.size - (i + 1))
        case measure => omega
        case rel =>
          refine ⟨i + 1, by omega, by go_num, fun j hj h => ?_, rfl⟩
          rcases Nat.lt_or_ge j i with h2 | h2
          · exact HP.out j hj h2
          · obtain rfl : j = i := by omega
            exact HZ.out
    · have d9 : decide ((i : Int) < (a.size : Int)) = false := by rw [decide_eq_false_iff_not]; omega
      have hs : a = str (frontK (bl a)) := by
        rw [frontK_take (bl a) a.size (by rw [bl_size]; exact Nat.le_refl _) (fun j hj => HP2.out j (by omega)) (.inr (by rw [bl_size])), ← bl_size, List.take_length, str_bl]
      have HS := Lib.hid hs
      clear hs
      go_wp2_with fail
      go_ret
      exact ⟨congrArg (fun x => Ending.returned (.string x)) HS.out, rfl⟩
set_option maxRecDepth 100000 in
set_option maxHeartbeats 1000000 in
theorem place_any (a n : Nat) (w : World) (ha : a < 1099511627776) (hn : n < 1099511627776) :
    Calls Tryz.prog 113 #[.int .i64 a, .int .i64 n] w fun e w' => e = .returned (.string (str (grp a ++ grp n))) ∧ Below w.heap.size w w' := by
  have HO := Lib.hid (Own.new (Below.refl w.heap.size w))
  go_enter Tryz.func113, Tryz.ntmps113
  go_upto_region 2 with (fail)
  have H1 := Lib.hid (size_any w.heap.size 0 _ _ _ _ (a : Int) _ HO.out.wr (by omega) (by omega) (by simp))
  generalize w.alloc (.cells #[.slice none 0 0] 96) = w1 at *
  go_wp2_with fail
  (with_reducible refine H1.out.mono ?_)
  rintro e w2 ⟨rfl, hby⟩
  obtain ⟨g2, ho2⟩ := HO.out.step hby
  rw [List.nil_append, Int.toNat_natCast] at ho2
  have hla := grp_len a
  have HO2 := Lib.hid ho2
  have H2 := Lib.hid (size_any w.heap.size 0 _ _ _ _ (n : Int) _ ho2.wr (by omega) (by omega) (by omega))
  clear hby ho2 H1 HO hla
  go_wp2_with fail
  (with_reducible refine H2.out.mono ?_)
  rintro e w3 ⟨rfl, hby⟩
  obtain ⟨g3, ho3⟩ := HO2.out.step hby
  rw [Int.toNat_natCast] at ho3
  have HO3 := Lib.hid ho3
  have H3 := Lib.hid (bytes_any w.heap.size 0 _ _ _ _ _ ho3.wr)
  clear hby ho3 H2 HO2
  go_wp2_with fail
  (with_reducible refine H3.out.mono ?_)
  rintro e w4 ⟨rfl, rfl⟩
  go_wp2_with fail
  go_ret
  exact ⟨rfl, HO3.out.below⟩
/-- Keys as cells. -/
def keyV (ks : List (List UInt8)) : List Value := ks.map fun k => Value.string (str k)
set_option maxRecDepth 100000 in
theorem keyV_length (ks : List (List UInt8)) : (keyV ks).length = ks.length := by simp [keyV]
set_option maxRecDepth 100000 in
theorem keyV_append (a b : List (List UInt8)) : keyV (a ++ b) = keyV a ++ keyV b := by simp [keyV]
set_option maxRecDepth 100000 in
theorem keyV_one (ks : List (List UInt8)) : ∀ u ∈ keyV ks, u.oneCell' = true := by
  intro u hu
  obtain ⟨k, -, rfl⟩ := List.mem_map.1 hu
  rfl
set_option maxRecDepth 100000 in
theorem info_strK : (Tryz.prog.info? 9).map (fun i => (i.zero, i.size, i.bytes)) = some (some (.string ⟨#[]⟩), 1, 16) := by kernel_rfl
set_option maxRecDepth 100000 in
theorem mk_keys (W : World) (n : Nat) (hn : n ≤ 100000) : (Instr.makeSlice 106 (.int .i64 n) (.int .i64 n)).run Tryz.prog W = .ok (.slice (some ⟨W.heap.size, 0, none⟩) n n) (W.alloc (.cells (madeCells #[.string ⟨#[]⟩] n) 9)) := by
  obtain ⟨i0, hi, hz0, hz1, hz2⟩ := info_parts info_strK
  have h := run_makeSlice (w := W) (P := Tryz.prog) 106 9 i0 _ Tryz.underlying106 hi hz0 .i64 .i64 n n (by omega) (Int.le_refl _) (by rw [hz1]; simp; omega) (by rw [hz2]; omega) (by omega)
  simp only [Int.toNat_natCast, hz1, Nat.mul_one] at h
  exact h
set_option maxRecDepth 100000 in
theorem made_keys (n : Nat) : madeCells #[Value.string ⟨#[]⟩] n = (keyV (List.replicate n [])).toArray := by
  apply Array.ext'
  rw [toList_madeCells_one]
  unfold keyV
  rw [List.map_replicate]
  rfl
set_option maxRecDepth 100000 in
theorem fill_set (A : List (List UInt8)) (m : Nat) (y : List UInt8) : ((keyV (A ++ List.replicate (m + 1) [])).toArray).setIfInBounds A.length (.string (str y)) = (keyV ((A ++ [y]) ++ List.replicate m [])).toArray := by
  rw [List.setIfInBounds_toArray]
  congr 1
  unfold keyV
  rw [List.map_append, List.map_append, List.map_append, List.replicate_succ, List.map_cons]
  rw [List.set_append_right _ _ (by simp)]
  simp
set_option maxRecDepth 100000 in
theorem fill_get (A : List (List UInt8)) (m : Nat) : ((keyV (A ++ List.replicate (m + 1) [])).toArray)[A.length]? = some (.string (str [])) := by
  rw [List.getElem?_toArray]
  unfold keyV
  rw [List.map_append, List.getElem?_append_right (by simp)]
  simp
set_option maxRecDepth 100000 in
set_option maxHeartbeats 2000000 in
theorem fronts_any (kv : Value) (ks : List (List UInt8)) (w : World) (hkv : w.ownsRow 0 9 1 kv ks.length (keyV ks)) (hk : ∀ k ∈ ks, k.length ≤ 1000000) (hn : ks.length ≤ 100000) :
    Calls Tryz.prog 82 #[kv] w fun e w' => ∃ g, e = .returned (.slice (some ⟨g, 0, none⟩) ks.length ks.length) ∧ w.heap.size ≤ g ∧ w'.heap[g]? = some (.cells (keyV (ks.map frontK)).toArray 9 (0, 0)) ∧ Below w.heap.size w w' := by
  obtain ⟨ao, cp, hv⟩ := own_form hkv
  subst hv
  have hmk := fun W : World => mk_keys W ks.length hn
  have HMC := Lib.hid (made_keys ks.length)
  have hcl : ∀ W i, Below w.heap.size w W → ∀ h : i < ks.length, ∃ b, ao = some ⟨b, 0, none⟩ ∧ ks.length ≤ cp ∧ cp ≤ maxLen ∧ W.cell? ⟨b, i, none⟩ = some (.string (str ks[i])) := fun W i hW hi => by
    obtain ⟨b, cap, hv, _, hb, hc, hm, hcell⟩ := own_pos hkv (by omega)
    injection hv with hv _ hv2
    subst hv2
    refine ⟨b, hv, hc, hm, ?_⟩
    rw [hW.cell (p := ⟨b, i, none⟩) hb]
    exact hcell i _ (by simp [keyV, hi])
  have HCL := Lib.hid hcl
  have HK := Lib.hid hk
  have HR := Lib.hid (Below.refl w.heap.size w)
  obtain ⟨mc, hmc⟩ : ∃ mc, mc = madeCells #[Value.string ⟨#[]⟩] ks.length := ⟨_, rfl⟩
  rw [← hmc] at hmk HMC
  clear hcl hk hkv hmc
  go_enter Tryz.func82, Tryz.ntmps82
  go_upto_region 2 with (fail)
  have hg0 : (w.alloc (.cells mc 9)).heap[w.heap.size]? = some (.cells (keyV (((ks.take 0).map frontK) ++ List.replicate ks.length [])).toArray 9 (0, 0)) := by
    rw [HMC.out]
    show (w.heap.push _)[w.heap.size]? = _
    simp
  have HG0 := Lib.hid hg0
  have HB0 := Lib.hid (HR.out.alloc (Nat.le_refl _) (.cells mc 9))
  clear hg0
  generalize w.alloc (.cells mc 9) = w1 at *
  go_wp2_with fail
  go_loopg [11] ks.length (fun g iv wr => ∃ i : Nat, i + g = ks.length ∧ iv = .int .i64 i ∧ wr.heap[w.heap.size]? = some (.cells (keyV (((ks.take i).map frontK) ++ List.replicate g [])).toArray 9 (0, 0)) ∧ Below w.heap.size w wr)
  case atStart => exact ⟨0, by omega, rfl, HG0.out, HB0.out⟩
  case round =>
    clear HG0 HB0
    obtain ⟨i, hig, rfl, hrow, hbel⟩ := hrel
    have HROW := Lib.hid hrow
    have HBEL := Lib.hid hbel
    clear hrow hbel
    by_cases hlt : i < ks.length
    · have d9 : decide ((i : Int) < (ks.length : Int)) = true := by rw [decide_eq_true_eq]; omega
      have hil : (i : Int) < (ks.length : Int) := by omega
      have wi : IntKind.i64.wrap ((i : Int) + 1) = (i : Int) + 1 := IntWalk.i64_in _ (by omega)
      obtain ⟨b, hao, hcp, hcm, hc⟩ := HCL.out wr i HBEL.out hlt
      subst hao
      unfold maxLen at hcm
      have hkl := HK.out ks[i] (List.getElem_mem hlt)
      have HF := Lib.hid (front_any (str ks[i]) wr (by rw [str_size]; omega))
      rw [bl_str] at HF
      clear hkl
      go_wp2_with fail
      (with_reducible refine HF.out.mono ?_)
      rintro e w2 ⟨rfl, hb2⟩
      have hsz := HBEL.out.size
      have hlt2 := lt_of_block HROW.out
      have hrow2 := (hb2.block w.heap.size hlt2).trans HROW.out
      have HROW2 := Lib.hid hrow2
      have HBEL2 := Lib.hid (HBEL.out.trans (hb2.mono hsz))
      obtain ⟨m, hm⟩ : ∃ m, gk = m + 1 := ⟨gk - 1, by omega⟩
      subst hm
      have hA : ((ks.take i).map frontK).length = i := by simp; omega
      have hcw := cellOf2 (o := i) (v := .string (str [])) hrow2 (by
        have h1 := fill_get ((ks.take i).map frontK) m
        rw [hA] at h1
        exact h1)
      have hfw := free_of2 i hrow2
      have hset := setAt2 (o := i) (.string (str (frontK ks[i]))) hrow2
      have h2 := fill_set ((ks.take i).map frontK) m (frontK ks[i])
      rw [hA] at h2
      rw [h2, show (ks.take i).map frontK ++ [frontK ks[i]] = (ks.take (i + 1)).map frontK by rw [← List.take_append_getElem hlt, List.map_append]; rfl] at hset
      have HSET := Lib.hid hset
      have HFIN := Lib.hid (HBEL2.out.trans ((Below.refl _ w2).setCell (p := ⟨w.heap.size, i, none⟩) (by exact Nat.le_refl _) (.string (str (frontK ks[i])))))
      clear hrow2 hb2 hc HF hset h2 hA
      go_wp2_with fail
      go_roundg m
      case measure => omega
      case rel => exact ⟨i + 1, by omega, by go_num, HSET.out, HFIN.out⟩
    · have d9 : decide ((i : Int) < (ks.length : Int)) = false := by rw [decide_eq_false_iff_not]; omega
      have hgk : gk = 0 := by omega
      subst hgk
      have hrow := HROW.out
      rw [List.take_of_length_le (by omega), List.replicate_zero, List.append_nil] at hrow
      have HR2 := Lib.hid hrow
      clear hrow
      go_wp2_with fail
      go_ret
      exact ⟨_, rfl, Nat.le_refl _, HR2.out, HBEL.out⟩
end Go.Proofs.YtdbfaknpfepnfaaGreatDoor

/-
  A table's builder, as it lies.
-/
namespace Go.Proofs.YtdbfaknpfepnfaaGreatDoor
open Go.RowKit CodecP CrcP FrameP

/-- The parts of a table's builder: the block under way, the index, the rows. -/
structure TbS where
  pn : Nat
  Sn : Nat → Prop
  pi : Nat
  Si : Nat → Prop
  av : Value
  bv : Value
  kv : Value
/-- A table's builder at p: the blocks that are closed, the pairs under way, the keys. -/
structure Tb (w : World) (p : Nat) (sz : Nat) (cl : List (List Pr)) (cur : List Pr) (ks : List (List UInt8)) (nb : Nat) (fz : Bool) (x : TbS) : Prop where
  cells : w.heap[p]? = some (.cells #[.int .i64 sz, x.av, x.bv, (Value.pointer (some ⟨x.pn, 0, none⟩)), (Value.pointer (some ⟨x.pi, 0, none⟩)), x.kv, .int .i64 nb] 117 (0, 0))
  av : x.av = .pointer none ∨ x.av = .pointer (some ⟨p, 1, none⟩)
  row : RowR w x.bv (outB cl)
  own : fz = false → OwnE w x.bv (outB cl)
  now : Bd w x.pn x.Sn cur
  ix : Bd w x.pi x.Si (idx cl)
  keys : w.ownsRow 0 9 1 x.kv ks.length (keyV ks)
  apn : ∀ k, x.Sn k → ¬ x.Si k ∧ k ≠ p ∧ x.bv.ownBlock ≠ some k ∧ x.kv.ownBlock ≠ some k
  api : ∀ k, x.Si k → k ≠ p ∧ x.bv.ownBlock ≠ some k ∧ x.kv.ownBlock ≠ some k
  apb : x.bv.ownBlock ≠ some p ∧ x.kv.ownBlock ≠ some p ∧ ∀ k, x.bv.ownBlock = some k → x.kv.ownBlock ≠ some k
/-- Its blocks. -/
def TbS.S (x : TbS) (p : Nat) (k : Nat) : Prop := k = p ∨ x.bv.ownBlock = some k ∨ x.Sn k ∨ x.Si k ∨ x.kv.ownBlock = some k
section
variable {w w' : World} {p sz nb : Nat} {cl cl' : List (List Pr)} {cur cur' : List Pr} {ks : List (List UInt8)} {fz : Bool} {x : TbS}
set_option maxRecDepth 100000 in
theorem Tb.lt (h : Tb w p sz cl cur ks nb fz x) : ∀ k, x.S p k → k < w.heap.size := by
  intro k hk
  rcases hk with rfl | hk | hk | hk | hk
  · exact lt_of_block h.cells
  · exact h.row.lt k hk
  · exact h.now.lt k hk
  · exact h.ix.lt k hk
  · exact (h.keys.lt k hk).2
set_option maxRecDepth 100000 in
theorem Tb.keep (h : Tb w p sz cl cur ks nb fz x) (hb : ∀ k, x.S p k → w'.heap[k]? = w.heap[k]?) : Tb w' p sz cl cur ks nb fz x :=
  ⟨(hb p (.inl rfl)).trans h.cells, h.av, h.row.keep (fun k hk => hb k (.inr (.inl hk))), fun hf => ⟨owns_of_block (h.own hf).1 (fun k hk => hb k (.inr (.inl hk))), (h.own hf).2⟩, h.now.keep (fun k hk => hb k (.inr (.inr (.inl hk)))), h.ix.keep (fun k hk => hb k (.inr (.inr (.inr (.inl hk))))), owns_of_block h.keys (fun k hk => hb k (.inr (.inr (.inr (.inr hk))))), h.apn, h.api, h.apb⟩
set_option maxRecDepth 100000 in
theorem Tb.below (h : Tb w p sz cl cur ks nb fz x) (hb : Below w.heap.size w w') : Tb w' p sz cl cur ks nb fz x := h.keep (fun k hk => hb.block k (h.lt k hk))
/-- What an operation on a builder leaves. -/
def TbP (w w' : World) (p sz : Nat) (cl : List (List Pr)) (cur : List Pr) (ks : List (List UInt8)) (nb : Nat) (fz : Bool) (x : TbS) : Prop :=
  ∃ x', Tb w' p sz cl cur ks nb fz x' ∧ Fr (x.S p) w w' ∧ ∀ k, x'.S p k → x.S p k ∨ w.heap.size ≤ k
set_option maxRecDepth 100000 in
theorem TbP.refl (h : Tb w p sz cl cur ks nb fz x) : TbP w w p sz cl cur ks nb fz x := ⟨x, h, Fr.refl _ _, fun _ h => .inl h⟩
set_option maxRecDepth 100000 in
theorem TbP.trans {a b c : World} {cl2 : List (List Pr)} {cur2 : List Pr} {ks2 : List (List UInt8)} {nb2 : Nat} {fz2 : Bool} {x y : TbS} (h : Fr (x.S p) a b) (hs : ∀ k, y.S p k → x.S p k ∨ a.heap.size ≤ k) (k : TbP b c p sz cl2 cur2 ks2 nb2 fz2 y) : TbP a c p sz cl2 cur2 ks2 nb2 fz2 x := by
  obtain ⟨z, h1, h2, h3⟩ := k
  refine ⟨z, h1, h.trans h2 (fun n hn hy => (hs n hy).elim id (fun h => by omega)), fun k hk => ?_⟩
  rcases h3 k hk with h4 | h4
  · exact hs k h4
  · exact .inr (Nat.le_trans h.size h4)
set_option maxRecDepth 100000 in
/-- The block under way has taken a pair. -/
theorem Tb.addNow {Sn' : Nat → Prop} (h : Tb w p sz cl cur ks nb fz x) (hf : Fr x.Sn w w') (hb : Bd w' x.pn Sn' cur') (hs : ∀ k, Sn' k → x.Sn k ∨ w.heap.size ≤ k) : Tb w' p sz cl cur' ks nb fz { x with Sn := Sn' } ∧ Fr (x.S p) w w' ∧ ∀ k, ({ x with Sn := Sn' } : TbS).S p k → x.S p k ∨ w.heap.size ≤ k := by
  have hlt := h.lt
  have hk : ∀ k, x.S p k → ¬ x.Sn k → w'.heap[k]? = w.heap[k]? := fun k hk hn => hf.block k (hlt k hk) hn
  have hnp : ¬ x.Sn p := fun hn => (h.apn p hn).2.1 rfl
  have hnb : ∀ k, x.bv.ownBlock = some k → ¬ x.Sn k := fun k hk hn => (h.apn k hn).2.2.1 hk
  have hni : ∀ k, x.Si k → ¬ x.Sn k := fun k hk hn => (h.apn k hn).1 hk
  have hnk : ∀ k, x.kv.ownBlock = some k → ¬ x.Sn k := fun k hk hn => (h.apn k hn).2.2.2 hk
  refine ⟨⟨(hk p (.inl rfl) hnp).trans h.cells, h.av, h.row.keep (fun k hb => hk k (.inr (.inl hb)) (hnb k hb)), fun hf => ⟨owns_of_block (h.own hf).1 (fun k hb => hk k (.inr (.inl hb)) (hnb k hb)), (h.own hf).2⟩, hb, h.ix.keep (fun k hi => hk k (.inr (.inr (.inr (.inl hi)))) (hni k hi)), owns_of_block h.keys (fun k hb => hk k (.inr (.inr (.inr (.inr hb)))) (hnk k hb)), fun k hn => ?_, h.api, h.apb⟩, hf.mono (fun k _ hn => .inr (.inr (.inl hn))), fun k hk => ?_⟩
  · rcases hs k hn with h1 | h1
    · exact h.apn k h1
    · refine ⟨fun hi => ?_, fun e => ?_, fun e => ?_, fun e => ?_⟩
      · have := hlt k (.inr (.inr (.inr (.inl hi)))); omega
      · have := hlt p (.inl rfl); omega
      · have := hlt k (.inr (.inl e)); omega
      · have := hlt k (.inr (.inr (.inr (.inr e)))); omega
  · rcases hk with hk | hk | hk | hk | hk
    · exact .inl (.inl hk)
    · exact .inl (.inr (.inl hk))
    · exact (hs k hk).imp (fun h => .inr (.inr (.inl h))) id
    · exact .inl (.inr (.inr (.inr (.inl hk))))
    · exact .inl (.inr (.inr (.inr (.inr hk))))
set_option maxRecDepth 100000 in
/-- The keys have become one more. -/
theorem Tb.addKey {kv' : Value} {ks' : List (List UInt8)} (h : Tb w p sz cl cur ks nb fz x) (hf : Fr (fun k => k = p ∨ x.kv.ownBlock = some k) w w') (hc : w'.heap[p]? = some (.cells #[.int .i64 sz, x.av, x.bv, (Value.pointer (some ⟨x.pn, 0, none⟩)), (Value.pointer (some ⟨x.pi, 0, none⟩)), kv', .int .i64 nb] 117 (0, 0)))
    (ho : w'.ownsRow 0 9 1 kv' ks'.length (keyV ks')) (hs : kv'.ownBlock = x.kv.ownBlock ∨ ∃ k, kv'.ownBlock = some k ∧ w.heap.size ≤ k) : Tb w' p sz cl cur ks' nb fz { x with kv := kv' } ∧ Fr (x.S p) w w' ∧ ∀ k, ({ x with kv := kv' } : TbS).S p k → x.S p k ∨ w.heap.size ≤ k := by
  have hlt := h.lt
  have hk : ∀ k, x.S p k → k ≠ p → x.kv.ownBlock ≠ some k → w'.heap[k]? = w.heap[k]? := fun k hk hn hn2 => hf.block k (hlt k hk) (fun e => e.elim hn hn2)
  have hnew : ∀ k, kv'.ownBlock = some k → x.kv.ownBlock = some k ∨ w.heap.size ≤ k := fun k hk => by
    rcases hs with e | ⟨j, e, hj⟩
    · exact .inl (e ▸ hk)
    · rw [e] at hk; injection hk with hk; subst hk; exact .inr hj
  have hb' : ∀ k, x.bv.ownBlock = some k → w'.heap[k]? = w.heap[k]? := fun k hb => hk k (.inr (.inl hb)) (fun e => h.apb.1 (e ▸ hb)) (h.apb.2.2 k hb)
  refine ⟨⟨hc, h.av, h.row.keep hb', fun hf => ⟨owns_of_block (h.own hf).1 hb', (h.own hf).2⟩, h.now.keep (fun k hn => hk k (.inr (.inr (.inl hn))) (h.apn k hn).2.1 (h.apn k hn).2.2.2), h.ix.keep (fun k hi => hk k (.inr (.inr (.inr (.inl hi)))) (h.api k hi).1 (h.api k hi).2.2), ho, fun k hn => ⟨(h.apn k hn).1, (h.apn k hn).2.1, (h.apn k hn).2.2.1, fun e => ?_⟩, fun k hi => ⟨(h.api k hi).1, (h.api k hi).2.1, fun e => ?_⟩, h.apb.1, fun e => ?_, fun k hb e => ?_⟩, hf.mono (fun k _ hk => hk.elim .inl (fun h => .inr (.inr (.inr (.inr h))))), fun k hk => ?_⟩
  · rcases hnew k e with h1 | h1
    · exact (h.apn k hn).2.2.2 h1
    · have := hlt k (.inr (.inr (.inl hn))); omega
  · rcases hnew k e with h1 | h1
    · exact (h.api k hi).2.2 h1
    · have := hlt k (.inr (.inr (.inr (.inl hi)))); omega
  · rcases hnew p e with h1 | h1
    · exact h.apb.2.1 h1
    · have := hlt p (.inl rfl); omega
  · rcases hnew k e with h1 | h1
    · exact h.apb.2.2 k hb h1
    · have := hlt k (.inr (.inl hb)); omega
  · rcases hk with hk | hk | hk | hk | hk
    · exact .inl (.inl hk)
    · exact .inl (.inr (.inl hk))
    · exact .inl (.inr (.inr (.inl hk)))
    · exact .inl (.inr (.inr (.inr (.inl hk))))
    · exact (hnew k hk).imp (fun h => .inr (.inr (.inr (.inr h)))) id
set_option maxRecDepth 100000 in
/-- The block under way was laid into what is there. -/
theorem Tb.closed {Si' : Nat → Prop} {av' bv' : Value} (h : Tb w p sz cl cur ks nb fz x) (hf : Fr (fun k => k = p ∨ x.bv.ownBlock = some k ∨ x.Si k) w w') (hc : w'.heap[p]? = some (.cells #[.int .i64 sz, av', bv', (Value.pointer (some ⟨x.pn, 0, none⟩)), (Value.pointer (some ⟨x.pi, 0, none⟩)), x.kv, .int .i64 nb] 117 (0, 0)))
    (hav : av' = .pointer none ∨ av' = .pointer (some ⟨p, 1, none⟩)) (ho : OwnE w' bv' (outB cl')) (hi : Bd w' x.pi Si' (idx cl')) (hs1 : bv'.ownBlock = x.bv.ownBlock ∨ ∃ k, bv'.ownBlock = some k ∧ w.heap.size ≤ k) (hs2 : ∀ k, Si' k → x.Si k ∨ w.heap.size ≤ k) (hap : ∀ k, Si' k → bv'.ownBlock ≠ some k) :
    Tb w' p sz cl' cur ks nb false { x with av := av', bv := bv', Si := Si' } ∧ Fr (x.S p) w w' ∧ ∀ k, ({ x with av := av', bv := bv', Si := Si' } : TbS).S p k → x.S p k ∨ w.heap.size ≤ k := by
  have hlt := h.lt
  have hk : ∀ k, x.S p k → k ≠ p → x.bv.ownBlock ≠ some k → ¬ x.Si k → w'.heap[k]? = w.heap[k]? := fun k hk h1 h2 h3 => hf.block k (hlt k hk) (fun e => e.elim h1 (fun e => e.elim h2 h3))
  have hnew : ∀ k, bv'.ownBlock = some k → x.bv.ownBlock = some k ∨ w.heap.size ≤ k := fun k hk => by
    rcases hs1 with e | ⟨j, e, hj⟩
    · exact .inl (e ▸ hk)
    · rw [e] at hk; injection hk with hk; subst hk; exact .inr hj
  refine ⟨⟨hc, hav, ho.row, fun _ => ho, h.now.keep (fun k hn => hk k (.inr (.inr (.inl hn))) (h.apn k hn).2.1 (h.apn k hn).2.2.1 (h.apn k hn).1), hi, owns_of_block h.keys (fun k hb => hk k (.inr (.inr (.inr (.inr hb)))) (fun e => h.apb.2.1 (e ▸ hb)) (fun e => h.apb.2.2 k e hb) (fun e => (h.api k e).2.2 hb)), fun k hn => ⟨fun e => ?_, (h.apn k hn).2.1, fun e => ?_, (h.apn k hn).2.2.2⟩, fun k hi => ⟨fun e => ?_, hap k hi, fun e => ?_⟩, fun e => ?_, h.apb.2.1, fun k hb e => ?_⟩, hf.mono (fun k _ hk => hk.elim .inl (fun h => h.elim (fun h => .inr (.inl h)) (fun h => .inr (.inr (.inr (.inl h)))))), fun k hk => ?_⟩
  · rcases hs2 k e with h1 | h1
    · exact (h.apn k hn).1 h1
    · have := hlt k (.inr (.inr (.inl hn))); omega
  · rcases hnew k e with h1 | h1
    · exact (h.apn k hn).2.2.1 h1
    · have := hlt k (.inr (.inr (.inl hn))); omega
  · rcases hs2 k hi with h1 | h1
    · exact (h.api k h1).1 e
    · have := hlt p (.inl rfl); omega
  · rcases hs2 k hi with h1 | h1
    · exact (h.api k h1).2.2 e
    · have := hlt k (.inr (.inr (.inr (.inr e)))); omega
  · rcases hnew p e with h1 | h1
    · exact h.apb.1 h1
    · have := hlt p (.inl rfl); omega
  · rcases hnew k hb with h1 | h1
    · exact h.apb.2.2 k h1 e
    · have := hlt k (.inr (.inr (.inr (.inr e)))); omega
  · rcases hk with hk | hk | hk | hk | hk
    · exact .inl (.inl hk)
    · exact (hnew k hk).imp (fun h => .inr (.inl h)) id
    · exact .inl (.inr (.inr (.inl hk)))
    · exact (hs2 k hk).imp (fun h => .inr (.inr (.inr (.inl h)))) id
    · exact .inl (.inr (.inr (.inr (.inr hk))))
set_option maxRecDepth 100000 in
/-- A new block is under way. -/
theorem Tb.fresh {pm : Nat} {Sn' : Nat → Prop} {nb' : Nat} (h : Tb w p sz cl cur ks nb fz x) (hf : Fr (fun k => k = p) w w') (hc : w'.heap[p]? = some (.cells #[.int .i64 sz, x.av, x.bv, (Value.pointer (some ⟨pm, 0, none⟩)), (Value.pointer (some ⟨x.pi, 0, none⟩)), x.kv, .int .i64 nb'] 117 (0, 0)))
    (hb : Bd w' pm Sn' cur') (hs : ∀ k, Sn' k → w.heap.size ≤ k) : Tb w' p sz cl cur' ks nb' fz { x with pn := pm, Sn := Sn' } ∧ Fr (x.S p) w w' ∧ ∀ k, ({ x with pn := pm, Sn := Sn' } : TbS).S p k → x.S p k ∨ w.heap.size ≤ k := by
  have hlt := h.lt
  have hk : ∀ k, x.S p k → k ≠ p → w'.heap[k]? = w.heap[k]? := fun k hk h1 => hf.block k (hlt k hk) h1
  have hb' : ∀ k, x.bv.ownBlock = some k → w'.heap[k]? = w.heap[k]? := fun k hb => hk k (.inr (.inl hb)) (fun e => h.apb.1 (e ▸ hb))
  refine ⟨⟨hc, h.av, h.row.keep hb', fun hf => ⟨owns_of_block (h.own hf).1 hb', (h.own hf).2⟩, hb, h.ix.keep (fun k hi => hk k (.inr (.inr (.inr (.inl hi)))) (h.api k hi).1), owns_of_block h.keys (fun k hb => hk k (.inr (.inr (.inr (.inr hb)))) (fun e => h.apb.2.1 (e ▸ hb))), fun k hn => ?_, h.api, h.apb⟩, hf.mono (fun k _ hk => .inl hk), fun k hk => ?_⟩
  · have h1 := hs k hn
    refine ⟨fun hi => ?_, fun e => ?_, fun e => ?_, fun e => ?_⟩
    · have := hlt k (.inr (.inr (.inr (.inl hi)))); omega
    · have := hlt p (.inl rfl); omega
    · have := hlt k (.inr (.inl e)); omega
    · have := hlt k (.inr (.inr (.inr (.inr e)))); omega
  · rcases hk with hk | hk | hk | hk | hk
    · exact .inl (.inl hk)
    · exact .inl (.inr (.inl hk))
    · exact .inr (hs k hk)
    · exact .inl (.inr (.inr (.inr (.inl hk))))
    · exact .inl (.inr (.inr (.inr (.inr hk))))
end
end Go.Proofs.YtdbfaknpfepnfaaGreatDoor

/-
  The walks of a table's builder.
-/
namespace Go.Proofs.YtdbfaknpfepnfaaGreatDoor
open Go.RowKit CodecP CrcP FrameP

set_option maxRecDepth 100000 in
theorem close_none (p pn : Nat) (Sn : Nat → Prop) (x y : Value) (w : World) (hnow : w.cell? ⟨p, 3, none⟩ = some ((Value.pointer (some ⟨pn, 0, none⟩)))) (hb : Bd w pn Sn []) :
    Calls Tryz.prog 70 #[(Value.pointer (some ⟨p, 0, none⟩)), x, y] w fun e w' => e = .returned (.tuple #[]) ∧ w = w' := by
  have hl := len_b pn Sn [] w hb
  rw [show (([] : List Pr).length : Int) = 0 from rfl] at hl
  have HL := Lib.hid hl
  clear hb hl
  go_enter Tryz.func70, Tryz.ntmps70
  go_wp2_with fail
  (with_reducible refine HL.out.mono ?_)
  rintro e w1 ⟨rfl, rfl⟩
  go_wp2_with fail
  exact bodyPost_ret (v := .tuple #[]) (by simp [results, Tryz.results70, go_sem]) rfl ⟨rfl, rfl⟩
/-- What the laying of a block leaves. -/
def CloseP (q o : Nat) (cs : Array Value) (t : TypeId) (v : Value) (l : List UInt8) (cur : List Pr) (pj : Nat) (Sj : Nat → Prop) (ip : List Pr) (w w' : World) : Prop :=
  ∃ v' Sj', w'.heap[q]? = some (.cells ((cs.setIfInBounds o (.pointer (some ⟨q, o, none⟩))).setIfInBounds (o + 1) v') t (0, 0)) ∧ OwnE w' v' (l ++ frm cur) ∧ Bd w' pj Sj' (ip ++ [(lastK cur, grp l.length ++ grp (frm cur).length)]) ∧
    (v'.ownBlock = v.ownBlock ∨ ∃ k, v'.ownBlock = some k ∧ w.heap.size ≤ k) ∧ (∀ k, Sj' k → Sj k ∨ w.heap.size ≤ k) ∧ (∀ k, Sj' k → v'.ownBlock ≠ some k) ∧ Fr (fun k => k = q ∨ v.ownBlock = some k ∨ Sj k) w w'
set_option maxRecDepth 100000 in
set_option maxHeartbeats 2000000 in
theorem close_any (p pn q o pj : Nat) (cs : Array Value) (t : TypeId) (a v : Value) (l : List UInt8) (Sn Sj : Nat → Prop) (cur ip : List Pr) (w : World)
    (hnow : w.cell? ⟨p, 3, none⟩ = some ((Value.pointer (some ⟨pn, 0, none⟩)))) (hbn : Bd w pn Sn cur) (hne : cur ≠ []) (hsm : (blk cur).length ≤ 32500)
    (hq : w.heap[q]? = some (.cells cs t (0, 0))) (ha : cs[o]? = some a) (hv : cs[o + 1]? = some v) (hav : a = .pointer none ∨ a = .pointer (some ⟨q, o, none⟩)) (hown : OwnE w v l) (hvq : v.ownBlock ≠ some q)
    (hlies : liesAt Tryz.prog Tryz.prog.depth t (cs.size / Tryz.prog.cellsOf t) o 115 1 = true) (hl : l.length ≤ 100000000)
    (hbj : Bd w pj Sj ip) (hip : ip.length < 4096) (hlast : lastK ip < lastK cur) (hjq : ∀ k, Sj k → k ≠ q ∧ v.ownBlock ≠ some k) (hnib : Nibs w) :
    Calls Tryz.prog 70 #[(Value.pointer (some ⟨p, 0, none⟩)), .pointer (some ⟨q, o, none⟩), (Value.pointer (some ⟨pj, 0, none⟩))] w fun e w' => e = .returned (.tuple #[]) ∧ CloseP q o cs t v l cur pj Sj ip w w' := by
  have hlen0 : (0 : Nat) < cur.length := List.length_pos_iff.2 hne
  have d0 : ((cur.length : Int) == 0) = false := by rw [beq_eq_false_iff_ne]; omega
  obtain ⟨lp, hlp, hlk, -⟩ := lastK_mem hne
  have hokp := hbn.rise.ok lp hlp
  rw [show lp = (lp.1, lp.2) from rfl] at hokp
  have hfl := frm_len cur
  have hkl : (lastK cur).length ≤ 80 := by rw [hlk]; exact hokp.2.1
  have hk1 : 1 ≤ (lastK cur).length := by rw [hlk]; exact hokp.1
  have hg1 := grp_len l.length
  have hg2 := grp_len (frm cur).length
  have hbw : ∀ W, Below w.heap.size w W → Calls Tryz.prog 78 #[(Value.pointer (some ⟨pn, 0, none⟩))] W fun e w' => e = .returned (.string (str (blk cur))) ∧ Below W.heap.size W w' := fun W hW => bytes_b pn Sn cur W (hbn.below hW)
  have hfw : ∀ W, Below w.heap.size w W → Calls Tryz.prog 80 #[.string (str (blk cur))] W fun e w' => e = .returned (.tuple #[.string (str (frm cur)), .bool true]) ∧ Below W.heap.size W w' := fun W hW => by
    have := frame_any (str (blk cur)) W (by rw [str_size]; omega) (hnib.below hW)
    rw [bl_str] at this
    exact this
  have hlw : ∀ W, Below w.heap.size w W → Calls Tryz.prog 112 #[(Value.pointer (some ⟨pn, 0, none⟩))] W fun e w' => e = .returned (.string (str (lastK cur))) ∧ W = w' := fun W hW => last_b pn Sn cur W (hbn.below hW)
  obtain ⟨ao, cp, hvf⟩ := own_form hown.1
  subst hvf
  have hsl : ∀ W, Below w.heap.size w W → Calls Tryz.prog 79 #[.pointer (some ⟨q, o, none⟩)] W fun e w' => e = .returned (.int .i64 l.length) ∧ W = w' := fun W hW => sbLen_any (cellOf2 ((hW.block q (lt_of_block hq)).trans hq) hv)
  have haw : ∀ W, Below w.heap.size w W → Calls Tryz.prog 68 #[(Value.pointer (some ⟨pj, 0, none⟩)), .string (str (lastK cur)), .string (str (grp l.length ++ grp (frm cur).length))] W (AddP pj Sj (ip ++ [(lastK cur, grp l.length ++ grp (frm cur).length)]) W) := fun W hW => by
    have := add_ok pj Sj ip (str (lastK cur)) (str (grp l.length ++ grp (frm cur).length)) W (hbj.below hW) (by rw [bl_str, bl_str]; exact ⟨hk1, hkl, by simp only [List.length_append]; omega⟩) (by rw [bl_str]; exact hlast) hip
    rw [bl_str, bl_str] at this
    exact this
  have hww : ∀ W W' Sj', Below w.heap.size w W → Fr Sj W W' → Bd W' pj Sj' (ip ++ [(lastK cur, grp l.length ++ grp (frm cur).length)]) → (∀ k, Sj' k → Sj k ∨ W.heap.size ≤ k) →
      Calls Tryz.prog 75 #[.pointer (some ⟨q, o, none⟩), .string (str (frm cur))] W' fun e w' => e = .returned (.tuple #[.int .i64 (frm cur).length, .nilIface]) ∧ CloseP q o cs t (.slice ao l.length cp) l cur pj Sj ip w w' := fun W W' Sj' hW hF hB hS => by
    have hsz := hW.size
    have hq' : W'.heap[q]? = some (.cells cs t (0, 0)) := (hF.block q (by have := lt_of_block hq; omega) (fun hs => (hjq q hs).1 rfl)).trans ((hW.block q (lt_of_block hq)).trans hq)
    have ho' : OwnE W' (.slice ao l.length cp) l := ⟨owns_of_block hown.1 (fun k hk => by
      have hkl := (hown.1.lt k hk).2
      exact (hF.block k (by omega) (fun hs => (hjq k hs).2 hk)).trans (hW.block k hkl)), hown.2⟩
    have hsw := sbWrite_any (o := o) (t := t) (str (frm cur)) hq' ha hv hav ho' hvq hlies (by rw [str_size]; omega)
    rw [bl_str, str_size] at hsw
    refine hsw.mono ?_
    rintro e w' ⟨he, v', hp, how, hat, hfr⟩
    have hlt' := hB.lt
    refine ⟨he, v', Sj', hp, how, hB.keep (fun k hk => hfr.block k (hlt' k hk) (fun e => ?_)), ?_, fun k hk => ?_, fun k hk e => ?_, ?_⟩
    · rcases e with e | e
      · subst e
        rcases hS k hk with h1 | h1
        · exact (hjq k h1).1 rfl
        · have := lt_of_block hq; omega
      · rcases hS k hk with h1 | h1
        · exact (hjq k h1).2 e
        · have := (hown.1.lt k e).2; omega
    · rcases hat with h1 | ⟨k, h1, h2⟩
      · exact .inl h1
      · exact .inr ⟨k, h1, by have := hF.size; omega⟩
    · exact (hS k hk).imp id (fun h => by omega)
    · rcases hat with h1 | ⟨j, h1, h2⟩
      · rw [h1] at e
        rcases hS k hk with h3 | h3
        · exact (hjq k h3).2 e
        · have := (hown.1.lt k e).2; omega
      · rw [h1] at e
        injection e with e
        have := hlt' k hk
        omega
    · have h1 : Fr (fun k => k = q ∨ (Value.slice ao l.length cp).ownBlock = some k ∨ Sj k) w W' := (Fr.of_below (fun k => k = q ∨ (Value.slice ao l.length cp).ownBlock = some k ∨ Sj k) hW).trans hF (fun _ _ h => .inr (.inr h))
      exact h1.trans hfr (fun k _ hk => hk.elim .inl (fun h => .inr (.inl h)))
  have HBW := Lib.hid hbw
  have HFW := Lib.hid hfw
  have HLW := Lib.hid hlw
  have HSL := Lib.hid hsl
  have HAW := Lib.hid haw
  have HWW := Lib.hid hww
  have HPL := Lib.hid (fun W => place_any l.length (frm cur).length W (by omega) (by omega))
  have HLN := Lib.hid (len_b pn Sn cur w hbn)
  have hcp : ∀ W, Below w.heap.size w W → W.cell? ⟨p, 3, none⟩ = some ((Value.pointer (some ⟨pn, 0, none⟩))) := fun W hW => (hW.cell (p := ⟨p, 3, none⟩) (sb_lt hnow)).trans hnow
  have HCP := Lib.hid hcp
  have es : (str (frm cur)).size = (frm cur).length := str_size _
  clear hbn hne hsm hq ha hv hav hown hvq hlies hl hbj hip hlast hjq hnib hbw hfw hlw hsl haw hww hlen0 hlp hlk hokp hkl hk1 hg1 hg2 hcp hfl
  generalize (frm cur).length = fl at *
  go_enter Tryz.func70, Tryz.ntmps70
  go_wp2_with fail
  (with_reducible refine (HLN.out).mono ?_)
  rintro e w1 ⟨rfl, rfl⟩
  go_wp2_with fail
  (with_reducible refine (HBW.out _ (Below.refl _ _)).mono ?_)
  rintro e w1 ⟨rfl, hb1⟩
  have HB1 := Lib.hid hb1
  clear hb1
  go_wp2_with fail
  (with_reducible refine (HFW.out _ HB1.out).mono ?_)
  rintro e w2 ⟨rfl, hb2⟩
  have HB2 := Lib.hid (HB1.out.trans (hb2.mono HB1.out.size))
  have c3 := HCP.out _ HB2.out
  clear hb2 hnow
  go_wp2_with fail
  (with_reducible refine (HLW.out _ HB2.out).mono ?_)
  rintro e w3 ⟨rfl, rfl⟩
  go_wp2_with fail
  (with_reducible refine (HSL.out _ HB2.out).mono ?_)
  rintro e w3 ⟨rfl, rfl⟩
  go_wp2_with fail
  (with_reducible refine (HPL.out _).mono ?_)
  rintro e w3 ⟨rfl, hb3⟩
  have HB3 := Lib.hid (HB2.out.trans (hb3.mono HB2.out.size))
  clear hb3 c3
  go_wp2_with fail
  (with_reducible refine (HAW.out _ HB3.out).mono ?_)
  rintro e w4 ⟨rfl, Sj', hbd, hfr, hss⟩
  have HW4 := Lib.hid (HWW.out _ _ Sj' HB3.out hfr hbd hss)
  clear hbd hfr hss
  go_wp2_with fail
  (with_reducible refine HW4.out.mono ?_)
  rintro e w5 ⟨rfl, hcl⟩
  have HCL := Lib.hid hcl
  clear hcl
  go_wp2_with fail
  go_end0
  exact ⟨rfl, HCL.out⟩
end Go.Proofs.YtdbfaknpfepnfaaGreatDoor

/-
  The walk of a table's builder's Add.
-/
namespace Go.Proofs.YtdbfaknpfepnfaaGreatDoor
open Go.RowKit CodecP CrcP FrameP

def keysOf (l : List Pr) : List (List UInt8) := l.map fun p => p.1
set_option maxRecDepth 100000 in
theorem keysOf_len (l : List Pr) : (keysOf l).length = l.length := by simp [keysOf]
set_option maxRecDepth 100000 in
theorem keysOf_snoc (l : List Pr) (p : Pr) : keysOf (l ++ [p]) = keysOf l ++ [p.1] := by simp [keysOf]
set_option maxRecDepth 100000 in
theorem keysOf_last (l : List Pr) (h : 0 < l.length) : (keysOf l)[l.length - 1]? = some (lastK l) := by
  rcases List.eq_nil_or_concat l with rfl | ⟨r, z, e⟩
  · exact absurd h (Nat.lt_irrefl _)
  · rw [List.concat_eq_append] at e
    subst e
    rw [lastK_snoc]
    simp [keysOf]
/-- A builder that has taken the pairs acc. -/
def TbA (w w' : World) (p sz : Nat) (acc : List Pr) (x : TbS) : Prop := TbP w w' p sz (cut sz acc).1 (cut sz acc).2 (keysOf acc) (cut sz acc).1.length false x
def AddT (w : World) (p sz : Nat) (acc : List Pr) (x : TbS) (q : Pr) (e : Ending) (w' : World) : Prop :=
  (Okp q ∧ lastK acc < q.1 ∧ e = .returned (.int .i64 0) ∧ TbA w w' p sz (acc ++ [q]) x) ∨ (¬ (Okp q ∧ lastK acc < q.1) ∧ e = .returned (.int .i64 1) ∧ Below w.heap.size w w')
/-- Plain facts of what was taken. -/
structure AccI (sz : Nat) (acc : List Pr) : Prop where
  rise : Rise acc
  le : acc.length ≤ 200
  s1 : 64 ≤ sz
  s2 : sz ≤ 16384
set_option maxRecDepth 100000 in
theorem AccI.snoc {sz : Nat} {acc : List Pr} {q : Pr} (h : AccI sz acc) (h1 : Okp q) (h2 : lastK acc < q.1) (h3 : acc.length < 200) : AccI sz (acc ++ [q]) := ⟨h.rise.snoc h1 h2 (by omega), by simp; omega, h.s1, h.s2⟩
set_option maxRecDepth 100000 in
theorem AccI.cutI {sz : Nat} {acc : List Pr} (h : AccI sz acc) : CutI sz acc := Go.Proofs.YtdbfaknpfepnfaaGreatDoor.cutI sz h.s1 h.s2 acc h.rise.ok
set_option maxRecDepth 100000 in
theorem AccI.facts {sz : Nat} {acc : List Pr} (h : AccI sz acc) : Rise (idx (cut sz acc).1) ∧ (cut sz acc).1.length ≤ 200 ∧ (cut sz acc).2.length ≤ 200 ∧ (outB (cut sz acc).1).length ≤ 6600000 ∧ (cut sz acc).1 = (cut sz acc).1 ∧ (∀ b ∈ (cut sz acc).1, Rise b) ∧ Rise (cut sz acc).2 := by
  have hc := h.cutI
  obtain ⟨h1, h2⟩ := cut_len hc
  have hp := rise_parts h.rise hc.flat
  have hi : Rise (cut sz acc).1.flatten := rise_sub h.rise (by conv => rhs; rw [← hc.flat]
                                                               exact List.sublist_append_left _ _)
  have ho := outB_len hc.small
  have := h.le
  exact ⟨rise_idx hi hc.ne, by omega, by omega, by omega, rfl, hp.1, hp.2⟩
set_option maxRecDepth 100000 in
theorem nil_lt {k : List UInt8} (h : 1 ≤ k.length) : ([] : List UInt8) < k := by
  cases k with
  | nil => simp at h
  | cons a l => exact List.nil_lt_cons a l
set_option maxRecDepth 100000 in
/-- A key above the last one stands above those of the blocks. -/
theorem AccI.above {sz : Nat} {acc : List Pr} (h : AccI sz acc) {k : List UInt8} (hk : 1 ≤ k.length) (hl : lastK acc < k) : lastK (cut sz acc).2 < k ∧ lastK (idx (cut sz acc).1) < k := by
  have hc := h.cutI
  have hall : ∀ p ∈ acc, p.1 < k := fun p hp => by
    rcases List.eq_nil_or_concat acc with rfl | ⟨r, z, e⟩
    · cases hp
    · rw [List.concat_eq_append] at e
      rw [e, lastK_snoc] at hl
      rw [e] at hp
      rcases List.mem_append.1 hp with hp | hp
      · have hu := h.rise.up
        rw [e] at hu
        exact List.lt_trans ((List.pairwise_append.1 hu).2.2 p hp z (by simp)) hl
      · rw [List.mem_singleton.1 hp]; exact hl
  constructor
  · by_cases h0 : (cut sz acc).2 = []
    · rw [h0]; exact nil_lt hk
    · obtain ⟨q, hq, e, -⟩ := lastK_mem h0
      rw [e]
      exact hall q (by rw [← hc.flat]; exact List.mem_append.2 (.inr hq))
  · by_cases h0 : idx (cut sz acc).1 = []
    · rw [h0]; exact nil_lt hk
    · obtain ⟨q, hq, e, -⟩ := lastK_mem h0
      rw [e]
      have : q.1 ∈ (cut sz acc).1.map lastK := by rw [← idx_key]; exact List.mem_map.2 ⟨q, hq, rfl⟩
      obtain ⟨b, hb, e2⟩ := List.mem_map.1 this
      obtain ⟨y, hy, e3, -⟩ := lastK_mem (hc.ne b hb)
      rw [← e2, e3]
      exact hall y (by rw [← hc.flat]; exact List.mem_append.2 (.inl (List.mem_flatten.2 ⟨b, hb, hy⟩)))
set_option maxRecDepth 100000 in
set_option maxHeartbeats 4000000 in
theorem tAdd_any (p sz : Nat) (acc : List Pr) (x : TbS) (k v : ByteArray) (w : World) (h : Tb w p sz (cut sz acc).1 (cut sz acc).2 (keysOf acc) (cut sz acc).1.length false x) (hA : AccI sz acc) (hl : acc.length < 200) (hk : k.size ≤ maxLen) (hv : v.size ≤ maxLen) (hnib : ∀ W, Fr (x.S p) w W → Nibs W) :
    Calls Tryz.prog 29 #[(Value.pointer (some ⟨p, 0, none⟩)), .string k, .string v] w (AddT w p sz acc x (bl k, bl v)) := by
  obtain ⟨hri, hcl, hcur, hout, -, hrb, hrc⟩ := hA.facts
  have hlt := lt_of_block h.cells
  obtain ⟨kao, kcp, hkv⟩ := own_form h.keys
  rw [keysOf_len] at hkv
  have hkr := h.keys
  rw [keysOf_len] at hkr
  have ec := h.cells
  rw [hkv] at ec hkr
  have HT := Lib.hid h
  have HEC := Lib.hid ec
  have HA := Lib.hid hA
  have HN := Lib.hid hnib
  have HK := Lib.hid hk
  have HV := Lib.hid hv
  have c5 : w.cell? ⟨p, 5, none⟩ = some (.slice kao acc.length kcp) := cellOf2 (o := 5) ec rfl
  have c6 : w.cell? ⟨p, 6, none⟩ = some (.int .i64 (cut sz acc).1.length) := cellOf2 (o := 6) ec rfl
  have c3 : w.cell? ⟨p, 3, none⟩ = some ((Value.pointer (some ⟨x.pn, 0, none⟩))) := cellOf2 (o := 3) ec rfl
  obtain ⟨G, hG⟩ : ∃ G : Bool, G = true ↔ (0 < acc.length ∧ ¬ lastK acc < bl k) := ⟨decide (0 < acc.length ∧ ¬ lastK acc < bl k), decide_eq_true_iff⟩
  have HG := Lib.hid hG
  have hnbd : decide ((4096 : Int) ≤ ((cut sz acc).1.length : Int)) = false := by rw [decide_eq_false_iff_not]; omega
  obtain ⟨nb, hnb⟩ : ∃ nb, nb = (cut sz acc).1.length := ⟨_, rfl⟩
  rw [← hnb] at c6 hnbd hcl
  have HNB := Lib.hid hnb
  have HKR := Lib.hid hkr
  have HKV := Lib.hid hkv
  clear h ec hA hnib hk hv hG hnb hkr hri hrb hrc hcur hout hkv
  go_enter Tryz.func29, Tryz.ntmps29
  go_upto_region 1 with (fail)
  go_cut [33] (fun c wx => c = .bool G ∧ wx = w.drew)
  case first =>
    rcases Nat.eq_zero_or_pos acc.length with h0 | h0
    · have hGf : G = false := by
        cases G with
        | false => rfl
        | true => have := (HG.out.1 rfl).1; omega
      subst hGf
      rw [h0] at c5
      refine wp_region_held_drew (S := (fun W => W.cell? ⟨p, 5, none⟩ = some (.slice kao 0 kcp))) (by kernel_rfl) (by (try dsimp only); exact c5) (fun hHeld => ?_)
      refine takeH (i := 0) (d := some 8) (v := ?_) rfl rfl (by kernel_rfl) (by kernel_rfl) (by kernel_rfl) (fun _ _ _ h => h) (Or.inl ⟨by rfl, ?_⟩) (by assumption) ?_
      rotate_left
      · intro wS hSw; (try dsimp only at hSw); go_simp; (try (with_reducible rfl))
      simp only [Act.put, List.setIfInBounds_toArray, List.set_cons_zero, List.set_cons_succ]
      refine takeH (i := 1) (d := some 9) (v := ?_) rfl rfl (by kernel_rfl) (by kernel_rfl) (by kernel_rfl) (fun _ _ _ h => h) (Or.inl ⟨by rfl, ?_⟩) (by assumption) ?_
      rotate_left
      · intro wS hSw; (try dsimp only at hSw); go_simp; (try (with_reducible rfl))
      simp only [Act.put, List.setIfInBounds_toArray, List.set_cons_zero, List.set_cons_succ]
      refine takeH (i := 2) (d := some 10) (v := ?_) rfl rfl (by kernel_rfl) (by kernel_rfl) (by kernel_rfl) (fun _ _ _ h => h) (Or.inl ⟨by rfl, ?_⟩) (by assumption) ?_
      rotate_left
      · intro wS hSw; (try dsimp only at hSw); go_simp; (try (with_reducible rfl))
      simp only [Act.put, List.setIfInBounds_toArray, List.set_cons_zero, List.set_cons_succ]
      refine takeH (i := 3) (d := some 11) (v := ?_) rfl rfl (by kernel_rfl) (by kernel_rfl) (by kernel_rfl) (fun _ _ _ h => h) (Or.inl ⟨by rfl, ?_⟩) (by assumption) ?_
      rotate_left
      · intro wS hSw; (try dsimp only at hSw); go_simp; (try (with_reducible rfl))
      simp only [Act.put, List.setIfInBounds_toArray, List.set_cons_zero, List.set_cons_succ]
      refine takeH (i := 4) (d := some 12) (v := ?_) rfl rfl (by kernel_rfl) (by kernel_rfl) (by kernel_rfl) (fun _ _ _ h => h) (Or.inl ⟨by rfl, ?_⟩) (by assumption) ?_
      rotate_left
      · intro wS hSw; (try dsimp only at hSw); go_simp; (try (with_reducible rfl))
      simp only [Act.put, List.setIfInBounds_toArray, List.set_cons_zero, List.set_cons_succ]
      refine takeH (i := 5) (d := some 13) (v := ?_) rfl rfl (by kernel_rfl) (by kernel_rfl) (by kernel_rfl) (fun _ _ _ h => h) (Or.inl ⟨by rfl, ?_⟩) (by assumption) ?_
      rotate_left
      · intro wS hSw; (try dsimp only at hSw); go_simp; (try (with_reducible rfl))
      simp only [Act.put, List.setIfInBounds_toArray, List.set_cons_zero, List.set_cons_succ]
      refine takeH (i := 6) (d := some 14) (v := ?_) rfl rfl (by kernel_rfl) (by kernel_rfl) (by kernel_rfl) (fun _ _ _ h => h) (Or.inl ⟨by rfl, ?_⟩) (by assumption) ?_
      rotate_left
      · intro wS hSw; (try dsimp only at hSw); go_simp; (try (with_reducible rfl))
      simp only [Act.put, List.setIfInBounds_toArray, List.set_cons_zero, List.set_cons_succ]
      refine takeH (i := 7) (d := some 15) (v := ?_) rfl rfl (by kernel_rfl) (by kernel_rfl) (by kernel_rfl) (fun _ _ _ h => h) (Or.inl ⟨by rfl, ?_⟩) (by assumption) ?_
      rotate_left
      · intro wS hSw; (try dsimp only at hSw); go_simp; (try (with_reducible rfl))
      simp only [Act.put, List.setIfInBounds_toArray, List.set_cons_zero, List.set_cons_succ]
      refine takeH (i := 8) (d := some 16) (v := ?_) rfl rfl (by kernel_rfl) (by kernel_rfl) (by kernel_rfl) (fun _ _ _ h => h) (Or.inl ⟨by rfl, ?_⟩) (by assumption) ?_
      rotate_left
      · intro wS hSw; (try dsimp only at hSw); go_simp; (try (with_reducible rfl))
      simp only [Act.put, List.setIfInBounds_toArray, List.set_cons_zero, List.set_cons_succ]
      refine takeH (i := 9) (d := some 17) (v := ?_) rfl rfl (by kernel_rfl) (by kernel_rfl) (by kernel_rfl) (fun _ _ _ h => h) (Or.inl ⟨by rfl, ?_⟩) (by assumption) ?_
      rotate_left
      · intro wS hSw; (try dsimp only at hSw); go_simp; (try (with_reducible rfl))
      simp only [Act.put, List.setIfInBounds_toArray, List.set_cons_zero, List.set_cons_succ]
      refine takeH (i := 10) (d := some 18) (v := undef) rfl rfl (by kernel_rfl) (by kernel_rfl) (by kernel_rfl) (fun _ _ _ h => h) (Or.inr ⟨by rfl, rfl⟩) (by assumption) ?_
      simp only [Act.put, List.setIfInBounds_toArray, List.set_cons_zero, List.set_cons_succ]
      refine takeH (i := 11) (d := some 19) (v := undef) rfl rfl (by kernel_rfl) (by kernel_rfl) (by kernel_rfl) (fun _ _ _ h => h) (Or.inr ⟨by rfl, rfl⟩) (by assumption) ?_
      simp only [Act.put, List.setIfInBounds_toArray, List.set_cons_zero, List.set_cons_succ]
      refine takeH (i := 12) (d := some 20) (v := undef) rfl rfl (by kernel_rfl) (by kernel_rfl) (by kernel_rfl) (fun _ _ _ h => h) (Or.inr ⟨by rfl, rfl⟩) (by assumption) ?_
      simp only [Act.put, List.setIfInBounds_toArray, List.set_cons_zero, List.set_cons_succ]
      refine takeH (i := 13) (d := some 21) (v := undef) rfl rfl (by kernel_rfl) (by kernel_rfl) (by kernel_rfl) (fun _ _ _ h => h) (Or.inr ⟨by rfl, rfl⟩) (by assumption) ?_
      simp only [Act.put, List.setIfInBounds_toArray, List.set_cons_zero, List.set_cons_succ]
      refine takeH (i := 14) (d := some 22) (v := undef) rfl rfl (by kernel_rfl) (by kernel_rfl) (by kernel_rfl) (fun _ _ _ h => h) (Or.inr ⟨by rfl, rfl⟩) (by assumption) ?_
      simp only [Act.put, List.setIfInBounds_toArray, List.set_cons_zero, List.set_cons_succ]
      refine takeH (i := 15) (d := some 23) (v := undef) rfl rfl (by kernel_rfl) (by kernel_rfl) (by kernel_rfl) (fun _ _ _ h => h) (Or.inr ⟨by rfl, rfl⟩) (by assumption) ?_
      simp only [Act.put, List.setIfInBounds_toArray, List.set_cons_zero, List.set_cons_succ]
      refine takeH (i := 16) (d := some 24) (v := undef) rfl rfl (by kernel_rfl) (by kernel_rfl) (by kernel_rfl) (fun _ _ _ h => h) (Or.inr ⟨by rfl, rfl⟩) (by assumption) ?_
      simp only [Act.put, List.setIfInBounds_toArray, List.set_cons_zero, List.set_cons_succ]
      refine takeH (i := 17) (d := some 25) (v := undef) rfl rfl (by kernel_rfl) (by kernel_rfl) (by kernel_rfl) (fun _ _ _ h => h) (Or.inr ⟨by rfl, rfl⟩) (by assumption) ?_
      simp only [Act.put, List.setIfInBounds_toArray, List.set_cons_zero, List.set_cons_succ]
      refine takeH (i := 18) (d := some 26) (v := undef) rfl rfl (by kernel_rfl) (by kernel_rfl) (by kernel_rfl) (fun _ _ _ h => h) (Or.inr ⟨by rfl, rfl⟩) (by assumption) ?_
      simp only [Act.put, List.setIfInBounds_toArray, List.set_cons_zero, List.set_cons_succ]
      refine takeH (i := 19) (d := some 27) (v := undef) rfl rfl (by kernel_rfl) (by kernel_rfl) (by kernel_rfl) (fun _ _ _ h => h) (Or.inr ⟨by rfl, rfl⟩) (by assumption) ?_
      simp only [Act.put, List.setIfInBounds_toArray, List.set_cons_zero, List.set_cons_succ]
      refine takeH (i := 20) (d := some 28) (v := undef) rfl rfl (by kernel_rfl) (by kernel_rfl) (by kernel_rfl) (fun _ _ _ h => h) (Or.inr ⟨by rfl, rfl⟩) (by assumption) ?_
      simp only [Act.put, List.setIfInBounds_toArray, List.set_cons_zero, List.set_cons_succ]
      refine takeH (i := 21) (d := some 29) (v := undef) rfl rfl (by kernel_rfl) (by kernel_rfl) (by kernel_rfl) (fun _ _ _ h => h) (Or.inr ⟨by rfl, rfl⟩) (by assumption) ?_
      simp only [Act.put, List.setIfInBounds_toArray, List.set_cons_zero, List.set_cons_succ]
      refine takeH (i := 22) (d := some 30) (v := undef) rfl rfl (by kernel_rfl) (by kernel_rfl) (by kernel_rfl) (fun _ _ _ h => h) (Or.inr ⟨by rfl, rfl⟩) (by assumption) ?_
      simp only [Act.put, List.setIfInBounds_toArray, List.set_cons_zero, List.set_cons_succ]
      refine takeH (i := 23) (d := some 31) (v := undef) rfl rfl (by kernel_rfl) (by kernel_rfl) (by kernel_rfl) (fun _ _ _ h => h) (Or.inr ⟨by rfl, rfl⟩) (by assumption) ?_
      simp only [Act.put, List.setIfInBounds_toArray, List.set_cons_zero, List.set_cons_succ]
      refine takeH (i := 24) (d := some 32) (v := ?_) rfl rfl (by kernel_rfl) (by kernel_rfl) (by kernel_rfl) (fun _ _ _ h => h) (Or.inl ⟨by rfl, ?_⟩) (by assumption) ?_
      rotate_left
      · intro wS hSw; (try dsimp only at hSw); go_simp; (try (with_reducible rfl))
      simp only [Act.put, List.setIfInBounds_toArray, List.set_cons_zero, List.set_cons_succ]
      refine takeH (i := 25) (d := some 33) (v := ?_) rfl rfl (by kernel_rfl) (by kernel_rfl) (by kernel_rfl) (fun _ _ _ h => h) (Or.inl ⟨by rfl, ?_⟩) (by assumption) ?_
      rotate_left
      · intro wS hSw; (try dsimp only at hSw); go_simp; (try (with_reducible rfl))
      simp only [Act.put, List.setIfInBounds_toArray, List.set_cons_zero, List.set_cons_succ]
      refine wpAnyH_done (by kernel_rfl) ?_ _
      go_wp2_with fail
      go_meet
      exact ⟨rfl, rfl⟩
    · have hlast := keysOf_last acc h0
      obtain ⟨b6, cp6, hv6, _, hb6, hc6, hm6, hcell6⟩ := own_pos HKR.out h0
      injection hv6 with hv6 _ hv62
      subst hv6 hv62
      unfold maxLen at hm6
      have d2 := hcell6 (acc.length - 1) (.string (str (lastK acc))) (by
        unfold keyV
        rw [List.getElem?_map, hlast]
        rfl)
      have s1 : IntKind.i64.wrap ((acc.length : Int) - 1) = (acc.length : Int) - 1 := IntWalk.i64_in _ (by omega)
      have s2 : ((acc.length : Int) - 1).toNat = acc.length - 1 := by omega
      have s5 : (0 : Int) ≤ (acc.length : Int) - 1 := by omega
      have s6 : (acc.length : Int) - 1 < (acc.length : Int) := by omega
      have g0 : decide ((0 : Int) < (acc.length : Int)) = true := by rw [decide_eq_true_eq]; omega
      have s7 : (1 : Int) ≤ (acc.length : Int) := by omega
      have g0' : 0 < acc.length := h0
      clear h0
      cases G with
      | true =>
        have q1 := leq_yes (a := k) (b := str (lastK acc)) (by rw [bl_str]; exact (HG.out.1 rfl).2)
        clear hcell6 hlast
        generalize str (lastK acc) = ls at *
        refine wp_region_held_drew (S := (fun W => W.cell? ⟨p, 5, none⟩ = some (.slice (some ⟨b6, 0, none⟩) acc.length kcp) ∧ W.cell? ⟨b6, acc.length - 1, none⟩ = some (.string ls))) (by kernel_rfl) (by (try dsimp only); exact ⟨c5, d2⟩) (fun hHeld => ?_)
        refine takeH (i := 0) (d := some 8) (v := ?_) rfl rfl (by kernel_rfl) (by kernel_rfl) (by kernel_rfl) (fun _ _ _ h => h) (Or.inl ⟨by rfl, ?_⟩) (by assumption) ?_
        rotate_left
        · intro wS hSw; (try dsimp only at hSw); go_simp; (try (with_reducible rfl))
        simp only [Act.put, List.setIfInBounds_toArray, List.set_cons_zero, List.set_cons_succ]
        refine takeH (i := 1) (d := some 9) (v := ?_) rfl rfl (by kernel_rfl) (by kernel_rfl) (by kernel_rfl) (fun _ _ _ h => h) (Or.inl ⟨by rfl, ?_⟩) (by assumption) ?_
        rotate_left
        · intro wS hSw; (try dsimp only at hSw); go_simp; (try (with_reducible rfl))
        simp only [Act.put, List.setIfInBounds_toArray, List.set_cons_zero, List.set_cons_succ]
        refine takeH (i := 2) (d := some 10) (v := ?_) rfl rfl (by kernel_rfl) (by kernel_rfl) (by kernel_rfl) (fun _ _ _ h => h) (Or.inl ⟨by rfl, ?_⟩) (by assumption) ?_
        rotate_left
        · intro wS hSw; (try dsimp only at hSw); go_simp; (try (with_reducible rfl))
        simp only [Act.put, List.setIfInBounds_toArray, List.set_cons_zero, List.set_cons_succ]
        refine takeH (i := 3) (d := some 11) (v := ?_) rfl rfl (by kernel_rfl) (by kernel_rfl) (by kernel_rfl) (fun _ _ _ h => h) (Or.inl ⟨by rfl, ?_⟩) (by assumption) ?_
        rotate_left
        · intro wS hSw; (try dsimp only at hSw); go_simp; (try (with_reducible rfl))
        simp only [Act.put, List.setIfInBounds_toArray, List.set_cons_zero, List.set_cons_succ]
        refine takeH (i := 4) (d := some 12) (v := ?_) rfl rfl (by kernel_rfl) (by kernel_rfl) (by kernel_rfl) (fun _ _ _ h => h) (Or.inl ⟨by rfl, ?_⟩) (by assumption) ?_
        rotate_left
        · intro wS hSw; (try dsimp only at hSw); go_simp; (try (with_reducible rfl))
        simp only [Act.put, List.setIfInBounds_toArray, List.set_cons_zero, List.set_cons_succ]
        refine takeH (i := 5) (d := some 13) (v := ?_) rfl rfl (by kernel_rfl) (by kernel_rfl) (by kernel_rfl) (fun _ _ _ h => h) (Or.inl ⟨by rfl, ?_⟩) (by assumption) ?_
        rotate_left
        · intro wS hSw; (try dsimp only at hSw); go_simp; (try (with_reducible rfl))
        simp only [Act.put, List.setIfInBounds_toArray, List.set_cons_zero, List.set_cons_succ]
        refine takeH (i := 6) (d := some 14) (v := ?_) rfl rfl (by kernel_rfl) (by kernel_rfl) (by kernel_rfl) (fun _ _ _ h => h) (Or.inl ⟨by rfl, ?_⟩) (by assumption) ?_
        rotate_left
        · intro wS hSw; (try dsimp only at hSw); go_simp; (try (with_reducible rfl))
        simp only [Act.put, List.setIfInBounds_toArray, List.set_cons_zero, List.set_cons_succ]
        refine takeH (i := 7) (d := some 15) (v := ?_) rfl rfl (by kernel_rfl) (by kernel_rfl) (by kernel_rfl) (fun _ _ _ h => h) (Or.inl ⟨by rfl, ?_⟩) (by assumption) ?_
        rotate_left
        · intro wS hSw; (try dsimp only at hSw); go_simp; (try (with_reducible rfl))
        simp only [Act.put, List.setIfInBounds_toArray, List.set_cons_zero, List.set_cons_succ]
        refine takeH (i := 8) (d := some 16) (v := ?_) rfl rfl (by kernel_rfl) (by kernel_rfl) (by kernel_rfl) (fun _ _ _ h => h) (Or.inl ⟨by rfl, ?_⟩) (by assumption) ?_
        rotate_left
        · intro wS hSw; (try dsimp only at hSw); go_simp; (try (with_reducible rfl))
        simp only [Act.put, List.setIfInBounds_toArray, List.set_cons_zero, List.set_cons_succ]
        refine takeH (i := 9) (d := some 17) (v := ?_) rfl rfl (by kernel_rfl) (by kernel_rfl) (by kernel_rfl) (fun _ _ _ h => h) (Or.inl ⟨by rfl, ?_⟩) (by assumption) ?_
        rotate_left
        · intro wS hSw; (try dsimp only at hSw); go_simp; (try (with_reducible rfl))
        simp only [Act.put, List.setIfInBounds_toArray, List.set_cons_zero, List.set_cons_succ]
        refine takeH (i := 10) (d := some 18) (v := ?_) rfl rfl (by kernel_rfl) (by kernel_rfl) (by kernel_rfl) (fun _ _ _ h => h) (Or.inl ⟨by rfl, ?_⟩) (by assumption) ?_
        rotate_left
        · intro wS hSw; (try dsimp only at hSw); go_simp; (try (with_reducible rfl))
        simp only [Act.put, List.setIfInBounds_toArray, List.set_cons_zero, List.set_cons_succ]
        refine takeH (i := 11) (d := some 19) (v := ?_) rfl rfl (by kernel_rfl) (by kernel_rfl) (by kernel_rfl) (fun _ _ _ h => h) (Or.inl ⟨by rfl, ?_⟩) (by assumption) ?_
        rotate_left
        · intro wS hSw; (try dsimp only at hSw); go_simp; (try (with_reducible rfl))
        simp only [Act.put, List.setIfInBounds_toArray, List.set_cons_zero, List.set_cons_succ]
        refine takeH (i := 12) (d := some 20) (v := ?_) rfl rfl (by kernel_rfl) (by kernel_rfl) (by kernel_rfl) (fun _ _ _ h => h) (Or.inl ⟨by rfl, ?_⟩) (by assumption) ?_
        rotate_left
        · intro wS hSw; (try dsimp only at hSw); go_simp; (try (with_reducible rfl))
        simp only [Act.put, List.setIfInBounds_toArray, List.set_cons_zero, List.set_cons_succ]
        refine takeH (i := 13) (d := some 21) (v := ?_) rfl rfl (by kernel_rfl) (by kernel_rfl) (by kernel_rfl) (fun _ _ _ h => h) (Or.inl ⟨by rfl, ?_⟩) (by assumption) ?_
        rotate_left
        · intro wS hSw; (try dsimp only at hSw); go_simp; (try (with_reducible rfl))
        simp only [Act.put, List.setIfInBounds_toArray, List.set_cons_zero, List.set_cons_succ]
        refine takeH (i := 14) (d := some 22) (v := ?_) rfl rfl (by kernel_rfl) (by kernel_rfl) (by kernel_rfl) (fun _ _ _ h => h) (Or.inl ⟨by rfl, ?_⟩) (by assumption) ?_
        rotate_left
        · intro wS hSw; (try dsimp only at hSw); go_simp; (try (with_reducible rfl))
        simp only [Act.put, List.setIfInBounds_toArray, List.set_cons_zero, List.set_cons_succ]
        refine takeH (i := 15) (d := some 23) (v := ?_) rfl rfl (by kernel_rfl) (by kernel_rfl) (by kernel_rfl) (fun _ _ _ h => h) (Or.inl ⟨by rfl, ?_⟩) (by assumption) ?_
        rotate_left
        · intro wS hSw; (try dsimp only at hSw); go_simp; (try (with_reducible rfl))
        simp only [Act.put, List.setIfInBounds_toArray, List.set_cons_zero, List.set_cons_succ]
        refine takeH (i := 16) (d := some 24) (v := ?_) rfl rfl (by kernel_rfl) (by kernel_rfl) (by kernel_rfl) (fun _ _ _ h => h) (Or.inl ⟨by rfl, ?_⟩) (by assumption) ?_
        rotate_left
        · intro wS hSw; (try dsimp only at hSw); go_simp; (try (with_reducible rfl))
        simp only [Act.put, List.setIfInBounds_toArray, List.set_cons_zero, List.set_cons_succ]
        refine takeH (i := 17) (d := some 25) (v := ?_) rfl rfl (by kernel_rfl) (by kernel_rfl) (by kernel_rfl) (fun _ _ _ h => h) (Or.inl ⟨by rfl, ?_⟩) (by assumption) ?_
        rotate_left
        · intro wS hSw; (try dsimp only at hSw); go_simp; (try (with_reducible rfl))
        simp only [Act.put, List.setIfInBounds_toArray, List.set_cons_zero, List.set_cons_succ]
        refine takeH (i := 18) (d := some 26) (v := ?_) rfl rfl (by kernel_rfl) (by kernel_rfl) (by kernel_rfl) (fun _ _ _ h => h) (Or.inl ⟨by rfl, ?_⟩) (by assumption) ?_
        rotate_left
        · intro wS hSw; (try dsimp only at hSw); go_simp; (try (with_reducible rfl))
        simp only [Act.put, List.setIfInBounds_toArray, List.set_cons_zero, List.set_cons_succ]
        refine takeH (i := 19) (d := some 27) (v := ?_) rfl rfl (by kernel_rfl) (by kernel_rfl) (by kernel_rfl) (fun _ _ _ h => h) (Or.inl ⟨by rfl, ?_⟩) (by assumption) ?_
        rotate_left
        · intro wS hSw; (try dsimp only at hSw); go_simp; (try (with_reducible rfl))
        simp only [Act.put, List.setIfInBounds_toArray, List.set_cons_zero, List.set_cons_succ]
        refine takeH (i := 20) (d := some 28) (v := ?_) rfl rfl (by kernel_rfl) (by kernel_rfl) (by kernel_rfl) (fun _ _ _ h => h) (Or.inl ⟨by rfl, ?_⟩) (by assumption) ?_
        rotate_left
        · intro wS hSw; (try dsimp only at hSw); go_simp; (try (with_reducible rfl))
        simp only [Act.put, List.setIfInBounds_toArray, List.set_cons_zero, List.set_cons_succ]
        refine takeH (i := 21) (d := some 29) (v := ?_) rfl rfl (by kernel_rfl) (by kernel_rfl) (by kernel_rfl) (fun _ _ _ h => h) (Or.inl ⟨by rfl, ?_⟩) (by assumption) ?_
        rotate_left
        · intro wS hSw; (try dsimp only at hSw); go_simp; (try (with_reducible rfl))
        simp only [Act.put, List.setIfInBounds_toArray, List.set_cons_zero, List.set_cons_succ]
        refine takeH (i := 22) (d := some 30) (v := ?_) rfl rfl (by kernel_rfl) (by kernel_rfl) (by kernel_rfl) (fun _ _ _ h => h) (Or.inl ⟨by rfl, ?_⟩) (by assumption) ?_
        rotate_left
        · intro wS hSw; (try dsimp only at hSw); go_simp; (try (with_reducible rfl))
        simp only [Act.put, List.setIfInBounds_toArray, List.set_cons_zero, List.set_cons_succ]
        refine takeH (i := 23) (d := some 31) (v := ?_) rfl rfl (by kernel_rfl) (by kernel_rfl) (by kernel_rfl) (fun _ _ _ h => h) (Or.inl ⟨by rfl, ?_⟩) (by assumption) ?_
        rotate_left
        · intro wS hSw; (try dsimp only at hSw); go_simp; (try (with_reducible rfl))
        simp only [Act.put, List.setIfInBounds_toArray, List.set_cons_zero, List.set_cons_succ]
        refine takeH (i := 24) (d := some 32) (v := ?_) rfl rfl (by kernel_rfl) (by kernel_rfl) (by kernel_rfl) (fun _ _ _ h => h) (Or.inl ⟨by rfl, ?_⟩) (by assumption) ?_
        rotate_left
        · intro wS hSw; (try dsimp only at hSw); go_simp; (try (with_reducible rfl))
        simp only [Act.put, List.setIfInBounds_toArray, List.set_cons_zero, List.set_cons_succ]
        refine takeH (i := 25) (d := some 33) (v := ?_) rfl rfl (by kernel_rfl) (by kernel_rfl) (by kernel_rfl) (fun _ _ _ h => h) (Or.inl ⟨by rfl, ?_⟩) (by assumption) ?_
        rotate_left
        · intro wS hSw; (try dsimp only at hSw); go_simp; (try (with_reducible rfl))
        simp only [Act.put, List.setIfInBounds_toArray, List.set_cons_zero, List.set_cons_succ]
        refine wpAnyH_done (by kernel_rfl) ?_ _
        go_wp2_with fail
        go_meet
        exact ⟨rfl, rfl⟩
      | false =>
        obtain ⟨q1, q2⟩ := leq_no (a := k) (b := str (lastK acc)) (by
          rw [bl_str]
          rcases Classical.em (lastK acc < bl k) with h1 | h1
          · exact h1
          · exact absurd (HG.out.2 ⟨g0', h1⟩) (by simp))
        clear hcell6 hlast
        generalize str (lastK acc) = ls at *
        refine wp_region_held_drew (S := (fun W => W.cell? ⟨p, 5, none⟩ = some (.slice (some ⟨b6, 0, none⟩) acc.length kcp) ∧ W.cell? ⟨b6, acc.length - 1, none⟩ = some (.string ls))) (by kernel_rfl) (by (try dsimp only); exact ⟨c5, d2⟩) (fun hHeld => ?_)
        refine takeH (i := 0) (d := some 8) (v := ?_) rfl rfl (by kernel_rfl) (by kernel_rfl) (by kernel_rfl) (fun _ _ _ h => h) (Or.inl ⟨by rfl, ?_⟩) (by assumption) ?_
        rotate_left
        · intro wS hSw; (try dsimp only at hSw); go_simp; (try (with_reducible rfl))
        simp only [Act.put, List.setIfInBounds_toArray, List.set_cons_zero, List.set_cons_succ]
        refine takeH (i := 1) (d := some 9) (v := ?_) rfl rfl (by kernel_rfl) (by kernel_rfl) (by kernel_rfl) (fun _ _ _ h => h) (Or.inl ⟨by rfl, ?_⟩) (by assumption) ?_
        rotate_left
        · intro wS hSw; (try dsimp only at hSw); go_simp; (try (with_reducible rfl))
        simp only [Act.put, List.setIfInBounds_toArray, List.set_cons_zero, List.set_cons_succ]
        refine takeH (i := 2) (d := some 10) (v := ?_) rfl rfl (by kernel_rfl) (by kernel_rfl) (by kernel_rfl) (fun _ _ _ h => h) (Or.inl ⟨by rfl, ?_⟩) (by assumption) ?_
        rotate_left
        · intro wS hSw; (try dsimp only at hSw); go_simp; (try (with_reducible rfl))
        simp only [Act.put, List.setIfInBounds_toArray, List.set_cons_zero, List.set_cons_succ]
        refine takeH (i := 3) (d := some 11) (v := ?_) rfl rfl (by kernel_rfl) (by kernel_rfl) (by kernel_rfl) (fun _ _ _ h => h) (Or.inl ⟨by rfl, ?_⟩) (by assumption) ?_
        rotate_left
        · intro wS hSw; (try dsimp only at hSw); go_simp; (try (with_reducible rfl))
        simp only [Act.put, List.setIfInBounds_toArray, List.set_cons_zero, List.set_cons_succ]
        refine takeH (i := 4) (d := some 12) (v := ?_) rfl rfl (by kernel_rfl) (by kernel_rfl) (by kernel_rfl) (fun _ _ _ h => h) (Or.inl ⟨by rfl, ?_⟩) (by assumption) ?_
        rotate_left
        · intro wS hSw; (try dsimp only at hSw); go_simp; (try (with_reducible rfl))
        simp only [Act.put, List.setIfInBounds_toArray, List.set_cons_zero, List.set_cons_succ]
        refine takeH (i := 5) (d := some 13) (v := ?_) rfl rfl (by kernel_rfl) (by kernel_rfl) (by kernel_rfl) (fun _ _ _ h => h) (Or.inl ⟨by rfl, ?_⟩) (by assumption) ?_
        rotate_left
        · intro wS hSw; (try dsimp only at hSw); go_simp; (try (with_reducible rfl))
        simp only [Act.put, List.setIfInBounds_toArray, List.set_cons_zero, List.set_cons_succ]
        refine takeH (i := 6) (d := some 14) (v := ?_) rfl rfl (by kernel_rfl) (by kernel_rfl) (by kernel_rfl) (fun _ _ _ h => h) (Or.inl ⟨by rfl, ?_⟩) (by assumption) ?_
        rotate_left
        · intro wS hSw; (try dsimp only at hSw); go_simp; (try (with_reducible rfl))
        simp only [Act.put, List.setIfInBounds_toArray, List.set_cons_zero, List.set_cons_succ]
        refine takeH (i := 7) (d := some 15) (v := ?_) rfl rfl (by kernel_rfl) (by kernel_rfl) (by kernel_rfl) (fun _ _ _ h => h) (Or.inl ⟨by rfl, ?_⟩) (by assumption) ?_
        rotate_left
        · intro wS hSw; (try dsimp only at hSw); go_simp; (try (with_reducible rfl))
        simp only [Act.put, List.setIfInBounds_toArray, List.set_cons_zero, List.set_cons_succ]
        refine takeH (i := 8) (d := some 16) (v := ?_) rfl rfl (by kernel_rfl) (by kernel_rfl) (by kernel_rfl) (fun _ _ _ h => h) (Or.inl ⟨by rfl, ?_⟩) (by assumption) ?_
        rotate_left
        · intro wS hSw; (try dsimp only at hSw); go_simp; (try (with_reducible rfl))
        simp only [Act.put, List.setIfInBounds_toArray, List.set_cons_zero, List.set_cons_succ]
        refine takeH (i := 9) (d := some 17) (v := ?_) rfl rfl (by kernel_rfl) (by kernel_rfl) (by kernel_rfl) (fun _ _ _ h => h) (Or.inl ⟨by rfl, ?_⟩) (by assumption) ?_
        rotate_left
        · intro wS hSw; (try dsimp only at hSw); go_simp; (try (with_reducible rfl))
        simp only [Act.put, List.setIfInBounds_toArray, List.set_cons_zero, List.set_cons_succ]
        refine takeH (i := 10) (d := some 18) (v := ?_) rfl rfl (by kernel_rfl) (by kernel_rfl) (by kernel_rfl) (fun _ _ _ h => h) (Or.inl ⟨by rfl, ?_⟩) (by assumption) ?_
        rotate_left
        · intro wS hSw; (try dsimp only at hSw); go_simp; (try (with_reducible rfl))
        simp only [Act.put, List.setIfInBounds_toArray, List.set_cons_zero, List.set_cons_succ]
        refine takeH (i := 11) (d := some 19) (v := ?_) rfl rfl (by kernel_rfl) (by kernel_rfl) (by kernel_rfl) (fun _ _ _ h => h) (Or.inl ⟨by rfl, ?_⟩) (by assumption) ?_
        rotate_left
        · intro wS hSw; (try dsimp only at hSw); go_simp; (try (with_reducible rfl))
        simp only [Act.put, List.setIfInBounds_toArray, List.set_cons_zero, List.set_cons_succ]
        refine takeH (i := 12) (d := some 20) (v := ?_) rfl rfl (by kernel_rfl) (by kernel_rfl) (by kernel_rfl) (fun _ _ _ h => h) (Or.inl ⟨by rfl, ?_⟩) (by assumption) ?_
        rotate_left
        · intro wS hSw; (try dsimp only at hSw); go_simp; (try (with_reducible rfl))
        simp only [Act.put, List.setIfInBounds_toArray, List.set_cons_zero, List.set_cons_succ]
        refine takeH (i := 13) (d := some 21) (v := ?_) rfl rfl (by kernel_rfl) (by kernel_rfl) (by kernel_rfl) (fun _ _ _ h => h) (Or.inl ⟨by rfl, ?_⟩) (by assumption) ?_
        rotate_left
        · intro wS hSw; (try dsimp only at hSw); go_simp; (try (with_reducible rfl))
        simp only [Act.put, List.setIfInBounds_toArray, List.set_cons_zero, List.set_cons_succ]
        refine takeH (i := 14) (d := some 22) (v := ?_) rfl rfl (by kernel_rfl) (by kernel_rfl) (by kernel_rfl) (fun _ _ _ h => h) (Or.inl ⟨by rfl, ?_⟩) (by assumption) ?_
        rotate_left
        · intro wS hSw; (try dsimp only at hSw); go_simp; (try (with_reducible rfl))
        simp only [Act.put, List.setIfInBounds_toArray, List.set_cons_zero, List.set_cons_succ]
        refine takeH (i := 15) (d := some 23) (v := ?_) rfl rfl (by kernel_rfl) (by kernel_rfl) (by kernel_rfl) (fun _ _ _ h => h) (Or.inl ⟨by rfl, ?_⟩) (by assumption) ?_
        rotate_left
        · intro wS hSw; (try dsimp only at hSw); go_simp; (try (with_reducible rfl))
        simp only [Act.put, List.setIfInBounds_toArray, List.set_cons_zero, List.set_cons_succ]
        refine takeH (i := 16) (d := some 24) (v := ?_) rfl rfl (by kernel_rfl) (by kernel_rfl) (by kernel_rfl) (fun _ _ _ h => h) (Or.inl ⟨by rfl, ?_⟩) (by assumption) ?_
        rotate_left
        · intro wS hSw; (try dsimp only at hSw); go_simp; (try (with_reducible rfl))
        simp only [Act.put, List.setIfInBounds_toArray, List.set_cons_zero, List.set_cons_succ]
        refine takeH (i := 17) (d := some 25) (v := ?_) rfl rfl (by kernel_rfl) (by kernel_rfl) (by kernel_rfl) (fun _ _ _ h => h) (Or.inl ⟨by rfl, ?_⟩) (by assumption) ?_
        rotate_left
        · intro wS hSw; (try dsimp only at hSw); go_simp; (try (with_reducible rfl))
        simp only [Act.put, List.setIfInBounds_toArray, List.set_cons_zero, List.set_cons_succ]
        refine takeH (i := 18) (d := some 26) (v := ?_) rfl rfl (by kernel_rfl) (by kernel_rfl) (by kernel_rfl) (fun _ _ _ h => h) (Or.inl ⟨by rfl, ?_⟩) (by assumption) ?_
        rotate_left
        · intro wS hSw; (try dsimp only at hSw); go_simp; (try (with_reducible rfl))
        simp only [Act.put, List.setIfInBounds_toArray, List.set_cons_zero, List.set_cons_succ]
        refine takeH (i := 19) (d := some 27) (v := ?_) rfl rfl (by kernel_rfl) (by kernel_rfl) (by kernel_rfl) (fun _ _ _ h => h) (Or.inl ⟨by rfl, ?_⟩) (by assumption) ?_
        rotate_left
        · intro wS hSw; (try dsimp only at hSw); go_simp; (try (with_reducible rfl))
        simp only [Act.put, List.setIfInBounds_toArray, List.set_cons_zero, List.set_cons_succ]
        refine takeH (i := 20) (d := some 28) (v := ?_) rfl rfl (by kernel_rfl) (by kernel_rfl) (by kernel_rfl) (fun _ _ _ h => h) (Or.inl ⟨by rfl, ?_⟩) (by assumption) ?_
        rotate_left
        · intro wS hSw; (try dsimp only at hSw); go_simp; (try (with_reducible rfl))
        simp only [Act.put, List.setIfInBounds_toArray, List.set_cons_zero, List.set_cons_succ]
        refine takeH (i := 21) (d := some 29) (v := ?_) rfl rfl (by kernel_rfl) (by kernel_rfl) (by kernel_rfl) (fun _ _ _ h => h) (Or.inl ⟨by rfl, ?_⟩) (by assumption) ?_
        rotate_left
        · intro wS hSw; (try dsimp only at hSw); go_simp; (try (with_reducible rfl))
        simp only [Act.put, List.setIfInBounds_toArray, List.set_cons_zero, List.set_cons_succ]
        refine takeH (i := 22) (d := some 30) (v := ?_) rfl rfl (by kernel_rfl) (by kernel_rfl) (by kernel_rfl) (fun _ _ _ h => h) (Or.inl ⟨by rfl, ?_⟩) (by assumption) ?_
        rotate_left
        · intro wS hSw; (try dsimp only at hSw); go_simp; (try (with_reducible rfl))
        simp only [Act.put, List.setIfInBounds_toArray, List.set_cons_zero, List.set_cons_succ]
        refine takeH (i := 23) (d := some 31) (v := ?_) rfl rfl (by kernel_rfl) (by kernel_rfl) (by kernel_rfl) (fun _ _ _ h => h) (Or.inl ⟨by rfl, ?_⟩) (by assumption) ?_
        rotate_left
        · intro wS hSw; (try dsimp only at hSw); go_simp; (try (with_reducible rfl))
        simp only [Act.put, List.setIfInBounds_toArray, List.set_cons_zero, List.set_cons_succ]
        refine takeH (i := 24) (d := some 32) (v := ?_) rfl rfl (by kernel_rfl) (by kernel_rfl) (by kernel_rfl) (fun _ _ _ h => h) (Or.inl ⟨by rfl, ?_⟩) (by assumption) ?_
        rotate_left
        · intro wS hSw; (try dsimp only at hSw); go_simp; (try (with_reducible rfl))
        simp only [Act.put, List.setIfInBounds_toArray, List.set_cons_zero, List.set_cons_succ]
        refine takeH (i := 25) (d := some 33) (v := ?_) rfl rfl (by kernel_rfl) (by kernel_rfl) (by kernel_rfl) (fun _ _ _ h => h) (Or.inl ⟨by rfl, ?_⟩) (by assumption) ?_
        rotate_left
        · intro wS hSw; (try dsimp only at hSw); go_simp; (try (with_reducible rfl))
        simp only [Act.put, List.setIfInBounds_toArray, List.set_cons_zero, List.set_cons_succ]
        refine wpAnyH_done (by kernel_rfl) ?_ _
        go_wp2_with fail
        go_meet
        exact ⟨rfl, rfl⟩
  case rest =>
    obtain ⟨rfl, rfl⟩ := hcut
    cases G with
    | true =>
      have hno := (HG.out.1 rfl).2
      have HF := Lib.hid (show AddT w p sz acc x (bl k, bl v) (.returned (.int .i64 1)) w.drew from .inr ⟨fun h => hno h.2, rfl, (Below.refl _ w).drew⟩)
      clear hno
      go_wp2_with fail
      go_ret
      exact HF.out
    | false =>
      have hT2 : Tb w.drew p sz (cut sz acc).1 (cut sz acc).2 (keysOf acc) (cut sz acc).1.length false x := HT.out.below (Below.refl _ w).drew
      by_cases hok : Okp (bl k, bl v) ∧ lastK acc < bl k
      · obtain ⟨hri, hcl2, hcur, hout, -, hrb, hrc⟩ := HA.out.facts
        obtain ⟨hab1, hab2⟩ := HA.out.above hok.1.1 hok.2
        have hci := HA.out.cutI
        have HAD := Lib.hid (add_ok x.pn x.Sn _ k v w.drew hT2.now hok.1 hab1 (by omega))
        unfold AddP at HAD
        have HOK := Lib.hid hok
        have HAB := Lib.hid hab2
        have HRI := Lib.hid hri
        have HCI := Lib.hid hci
        have HT2 := Lib.hid hT2
        have HSM := Lib.hid (show (blk ((cut sz acc).2 ++ [(bl k, bl v)])).length ≤ 32500 from by
          have h1 := blk_snoc (cut sz acc).2 (bl k, bl v) hok.1
          have h2 := hci.cur
          omega)
        have hl200 : acc.length < 200 := hl
        have hout2 : (outB (cut sz acc).1).length ≤ 100000000 := by omega
        have hix : (idx (cut sz acc).1).length < 4096 := by rw [idx_len]; omega
        have HIX := Lib.hid hix
        have HOUT := Lib.hid hout2
        clear hri hcl2 hcur hout hrb hrc hab1 hab2 hci hok hT2 hout2 hix HEC c5 HKR
        obtain ⟨cl, hcl⟩ : ∃ cl, cl = (cut sz acc).1 := ⟨_, rfl⟩
        obtain ⟨cur, hcur⟩ : ∃ cur, cur = (cut sz acc).2 ++ [(bl k, bl v)] := ⟨_, rfl⟩
        rw [← hcur] at HAD HSM
        rw [← hcl] at HAB HRI HIX HOUT HNB
        have HCL := Lib.hid hcl
        have HCUR := Lib.hid hcur
        clear hcl hcur
        go_wp2_with fail
        (with_reducible refine HAD.out.mono ?_)
        rintro e w1 ⟨rfl, Sn1, hb1, hf1, hs1⟩
        obtain ⟨t1, f1, s1⟩ := HT2.out.addNow hf1 hb1 hs1
        rw [← HCL.out] at t1
        have hk1 := t1.keys
        have hc1 := t1.cells
        rw [keysOf_len] at hk1
        dsimp only at hk1 hc1
        rw [HKV.out] at hk1 hc1
        have hlt1 := lt_of_block hc1
        have c5 : w1.cell? ⟨p, 5, none⟩ = some (.slice kao acc.length kcp) := cellOf2 (o := 5) hc1 rfl
        have HC1 := Lib.hid hc1
        have HK1 := Lib.hid hk1
        have HT1 := Lib.hid t1
        have HF1 := Lib.hid f1
        have HS1 := Lib.hid s1
        clear hb1 hf1 hs1 t1 f1 s1 hc1 hk1 HAD c3 c6
        obtain ⟨i0, hi, hz0, hz1, hz2⟩ := info_parts info_strK
        go_upto_region 9 with (at_builtin; refine wpList_append_own_at _ rfl _ _ 106 rfl 0 9 i0 (.string ⟨#[]⟩) 1 16 Tryz.underlying106 hi hz0 hz1 hz2 rfl (by decide) _ _ _ rfl (HK1.out.alloc _) ⟨w1.heap.size, 0, none⟩ 1 1 [.string k] rfl rfl (cell_one_new _ _ _) (fun u hu => by rw [List.mem_singleton.1 hu]; rfl) (by unfold maxLen; omega) (by omega) (Nat.zero_le _) ?_; intro v7 w7 hown hgrow hx1 hx2; obtain ⟨ao7, cp7, hv7⟩ := own_form hown; subst hv7; have hp7 := (hgrow.block p (by simp; omega) (by intro e; exact HT1.out.apb.2.1 (by rw [HKV.out]; exact e.symm))).trans ((Lib.alloc_old w1 _ p hlt1).trans HC1.out); have c7 : w7.cell? ⟨p, 5, none⟩ = some (.slice kao acc.length kcp) := cellOf2 (o := 5) hp7 rfl; have f7 := free_of2 5 hp7; have HP7 := Lib.hid hp7; have HO7 := Lib.hid hown; have HG7 := Lib.hid (show World.grownBy _ w7 (Value.slice kao acc.length kcp).ownBlock from hgrow); have HX7 := Lib.hid (show (Value.slice ao7 (acc.length + 1) cp7).ownBlock = (Value.slice kao acc.length kcp).ownBlock ∨ (Value.slice ao7 (acc.length + 1) cp7).ownBlock = some (w1.alloc (.cells #[.string k] 9)).heap.size from hx2); clear hp7 hown hgrow hx1 hx2)
        have hfr8 : Fr (fun j => j = p ∨ x.kv.ownBlock = some j) w1 (w7.setCell ⟨p, 5, none⟩ (.slice ao7 (acc.length + 1) cp7)) := by
          rw [HKV.out]
          exact ((((Fr.refl _ w1).alloc _).grown HG7.out (fun k _ hk => .inr hk)).setCell (p := ⟨p, 5, none⟩) (.inl (.inl rfl)) _)
        have hat8 : (Value.slice ao7 (acc.length + 1) cp7).ownBlock = x.kv.ownBlock ∨ ∃ j, (Value.slice ao7 (acc.length + 1) cp7).ownBlock = some j ∧ w1.heap.size ≤ j := by
          rw [HKV.out]
          rcases HX7.out with h1 | h1
          · exact .inl h1
          · exact .inr ⟨_, h1, by simp⟩
        have hne8 : (Value.slice ao7 (acc.length + 1) cp7).ownBlock ≠ some p := by
          rcases hat8 with h1 | ⟨j, h1, h2⟩
          · rw [h1]; exact HT1.out.apb.2.1
          · rw [h1]; intro e; injection e with e; omega
        have hown8 : (w7.setCell ⟨p, 5, none⟩ (.slice ao7 (acc.length + 1) cp7)).ownsRow 0 9 1 (.slice ao7 (acc.length + 1) cp7) (keysOf (acc ++ [(bl k, bl v)])).length (keyV (keysOf (acc ++ [(bl k, bl v)]))) := by
          have h1 := ownsRow_setCell_other (a := ⟨p, 5, none⟩) HO7.out hne8 (.slice ao7 (acc.length + 1) cp7)
          rw [keysOf_len, keysOf_snoc, keyV_append, List.length_append, List.length_singleton]
          have e2 : keyV [bl k] = [Value.string k] := by simp [keyV, str_bl]
          rw [e2]
          exact h1
        obtain ⟨t2, f2, s2⟩ := HT1.out.addKey hfr8 (setAt2 (o := 5) _ HP7.out) hown8 hat8
        have hf12 : Fr (x.S p) w (w7.setCell ⟨p, 5, none⟩ (.slice ao7 (acc.length + 1) cp7)) := ((Fr.refl (x.S p) w).drew.trans HF1.out (fun _ _ h => h)).trans f2 (fun n hn hs => (HS1.out n hs).elim id (fun h => by have := HF1.out.size; have h3 : w.drew.heap.size = w.heap.size := rfl; omega))
        obtain ⟨y, hy⟩ : ∃ y : TbS, y = { { x with Sn := Sn1 } with kv := .slice ao7 (acc.length + 1) cp7 } := ⟨_, rfl⟩
        have HT3 : Hid (Tb (w7.setCell ⟨p, 5, none⟩ (.slice ao7 (acc.length + 1) cp7)) p sz cl cur (keysOf (acc ++ [(bl k, bl v)])) cl.length false y) := by
          rw [hy]
          exact Lib.hid t2
        have HSY : Hid (∀ j, y.S p j → x.S p j ∨ w.heap.size ≤ j) := Lib.hid (fun j hj => by
          rw [hy] at hj
          have hsz1 : w.heap.size ≤ w1.heap.size := HF1.out.size
          rcases s2 j hj with h1 | h1
          · exact HS1.out j h1
          · exact .inr (Nat.le_trans hsz1 h1))
        have HF3 := Lib.hid hf12
        have HNB2 := HNB.out
        clear hfr8 hat8 hne8 hown8 t2 f2 s2 hf12 hy HT1 HF1 HS1 HK1 HC1 HP7 HO7 HG7 HX7 c5 c7 f7 hi hz0 hz1 hz2 HT HT2
        generalize w7.setCell ⟨p, 5, none⟩ (.slice ao7 (acc.length + 1) cp7) = w8 at *
        have c3 : w8.cell? ⟨p, 3, none⟩ = some ((Value.pointer (some ⟨y.pn, 0, none⟩))) := cellOf2 (o := 3) HT3.out.cells rfl
        have c0 : w8.cell? ⟨p, 0, none⟩ = some (.int .i64 sz) := cellOf2 (o := 0) HT3.out.cells rfl
        have hlt8 := lt_of_block HT3.out.cells
        obtain ⟨D, hD⟩ : ∃ D : Bool, D = decide (sz ≤ (blk cur).length) := ⟨_, rfl⟩
        have HD := Lib.hid hD
        have dd : decide ((sz : Int) ≤ ((blk cur).length : Int)) = D := by rw [hD]; congr 1; exact propext Int.ofNat_le
        clear hD
        go_cut [68] (fun c wx => c = .bool D ∧ Below w8.heap.size w8 wx)
        case first =>
          have HSZ := Lib.hid (size_b y.pn y.Sn cur w8.drew (HT3.out.now.below (Below.refl _ _).drew))
          obtain ⟨bn, hbn⟩ : ∃ bn, bn = (blk cur).length := ⟨_, rfl⟩
          rw [← hbn] at HSZ dd
          have HDN := Lib.hid (show decide (sz ≤ bn) = D by rw [hbn]; exact HD.out.symm)
          clear hbn
          refine wp_region_held_drew (S := (fun W => W.cell? ⟨p, 3, none⟩ = some ((Value.pointer (some ⟨y.pn, 0, none⟩))) ∧ W.cell? ⟨p, 0, none⟩ = some (.int .i64 sz))) (by kernel_rfl) (by (try dsimp only); exact ⟨c3, c0⟩) (fun hHeld => ?_)
          refine takeH (i := 0) (d := some 59) (v := ?_) rfl rfl (by kernel_rfl) (by kernel_rfl) (by kernel_rfl) (fun _ _ _ h => h) (Or.inl ⟨by rfl, ?_⟩) (by assumption) ?_
          rotate_left
          · intro wS hSw; (try dsimp only at hSw); go_simp; (try (with_reducible rfl))
          simp only [Act.put, List.setIfInBounds_toArray, List.set_cons_zero, List.set_cons_succ]
          refine takeH (i := 1) (d := some 60) (v := ?_) rfl rfl (by kernel_rfl) (by kernel_rfl) (by kernel_rfl) (fun _ _ _ h => h) (Or.inl ⟨by rfl, ?_⟩) (by assumption) ?_
          rotate_left
          · intro wS hSw; (try dsimp only at hSw); go_simp; (try (with_reducible rfl))
          simp only [Act.put, List.setIfInBounds_toArray, List.set_cons_zero, List.set_cons_succ]
          refine takeH (i := 2) (d := some 61) (v := ?_) rfl rfl (by kernel_rfl) (by kernel_rfl) (by kernel_rfl) (fun _ _ _ h => h) (Or.inl ⟨by rfl, ?_⟩) (by assumption) ?_
          rotate_left
          · intro wS hSw; (try dsimp only at hSw); go_simp; (try (with_reducible rfl))
          simp only [Act.put, List.setIfInBounds_toArray, List.set_cons_zero, List.set_cons_succ]
          refine takeH (i := 3) (d := some 62) (v := ?_) rfl rfl (by kernel_rfl) (by kernel_rfl) (by kernel_rfl) (fun _ _ _ h => h) (Or.inl ⟨by rfl, ?_⟩) (by assumption) ?_
          rotate_left
          · intro wS hSw; (try dsimp only at hSw); go_simp; (try (with_reducible rfl))
          simp only [Act.put, List.setIfInBounds_toArray, List.set_cons_zero, List.set_cons_succ]
          refine takeH (i := 5) (d := some 64) (v := ?_) rfl rfl (by kernel_rfl) (by kernel_rfl) (by kernel_rfl) (fun _ _ _ h => h) (Or.inl ⟨by rfl, ?_⟩) (by assumption) ?_
          rotate_left
          · intro wS hSw; (try dsimp only at hSw); go_simp; (try (with_reducible rfl))
          simp only [Act.put, List.setIfInBounds_toArray, List.set_cons_zero, List.set_cons_succ]
          refine takeH (i := 6) (d := some 65) (v := ?_) rfl rfl (by kernel_rfl) (by kernel_rfl) (by kernel_rfl) (fun _ _ _ h => h) (Or.inl ⟨by rfl, ?_⟩) (by assumption) ?_
          rotate_left
          · intro wS hSw; (try dsimp only at hSw); go_simp; (try (with_reducible rfl))
          simp only [Act.put, List.setIfInBounds_toArray, List.set_cons_zero, List.set_cons_succ]
          refine takeH (i := 7) (d := some 66) (v := ?_) rfl rfl (by kernel_rfl) (by kernel_rfl) (by kernel_rfl) (fun _ _ _ h => h) (Or.inl ⟨by rfl, ?_⟩) (by assumption) ?_
          rotate_left
          · intro wS hSw; (try dsimp only at hSw); go_simp; (try (with_reducible rfl))
          simp only [Act.put, List.setIfInBounds_toArray, List.set_cons_zero, List.set_cons_succ]
          refine takeH (i := 8) (d := some 67) (v := ?_) rfl rfl (by kernel_rfl) (by kernel_rfl) (by kernel_rfl) (fun _ _ _ h => h) (Or.inl ⟨by rfl, ?_⟩) (by assumption) ?_
          rotate_left
          · intro wS hSw; (try dsimp only at hSw); go_simp; (try (with_reducible rfl))
          simp only [Act.put, List.setIfInBounds_toArray, List.set_cons_zero, List.set_cons_succ]
          refine wpAnyH_ready (rs := [4]) (by kernel_rfl) (by simp) ?_
          refine AllReadyH.cons rfl (fun K hK => ?_) AllReadyH.nil
          go_simp
          refine HSZ.out.mono ?_
          rintro e w9 ⟨rfl, hb9⟩
          have k3 := (hb9.cell (p := ⟨p, 3, none⟩) hlt8).trans c3
          have k0 := (hb9.cell (p := ⟨p, 0, none⟩) hlt8).trans c0
          have HB9 := Lib.hid hb9
          clear hb9
          go_wp2_with fail
          refine hK.out _ _ (by (try dsimp only); exact ⟨k3, k0⟩) (fun hHeld => ?_)
          clear hK K
          refine takeH (i := 9) (d := some 68) (v := ?_) rfl rfl (by kernel_rfl) (by kernel_rfl) (by kernel_rfl) (fun _ _ _ h => h) (Or.inl ⟨by rfl, ?_⟩) (by assumption) ?_
          rotate_left
          · intro wS hSw; (try dsimp only at hSw); go_simp; (try (with_reducible rfl))
          simp only [Act.put, List.setIfInBounds_toArray, List.set_cons_zero, List.set_cons_succ]
          refine wpAnyH_done (by kernel_rfl) ?_ _
          go_wp2_with fail
          go_meet
          exact ⟨congrArg Value.bool HDN.out, HB9.out.undrew⟩
        case rest =>
          obtain ⟨rfl, hb9⟩ := hcut
          have t9 := HT3.out.below hb9
          have HT9 := Lib.hid t9
          have hf9 := HF3.out.trans (Fr.of_below (x.S p) hb9) (fun _ _ h => h)
          have HF9 := Lib.hid hf9
          have hsz9 := hb9.size
          cases D with
          | false =>
            have hno : ¬ sz ≤ (blk ((cut sz acc).2 ++ [(bl k, bl v)])).length := by
              rw [← HCUR.out]
              exact of_decide_eq_false HD.out.symm
            have HFIN := Lib.hid (show AddT w p sz acc x (bl k, bl v) (.returned (.int .i64 0)) wc from .inl ⟨HOK.out.1, HOK.out.2, rfl, y, by rw [cut_no hno, ← HCL.out, ← HCUR.out]; exact t9, hf9, HSY.out⟩)
            clear t9 hf9 hno hb9 c3 c0 dd
            go_wp2_with fail
            go_ret
            exact HFIN.out
          | true =>
            have hyes : sz ≤ (blk ((cut sz acc).2 ++ [(bl k, bl v)])).length := by
              rw [← HCUR.out]
              exact of_decide_eq_true HD.out.symm
            have HYES := Lib.hid hyes
            have hcne : cur ≠ [] := by rw [HCUR.out]; simp
            have hlc : lastK (idx cl) < lastK cur := by rw [HCUR.out, lastK_snoc]; exact HAB.out
            have td := t9.below (Below.refl _ _).drew
            have c3 : wc.drew.cell? ⟨p, 3, none⟩ = some ((Value.pointer (some ⟨y.pn, 0, none⟩))) := cellOf2 (o := 3) td.cells rfl
            have c4 : wc.drew.cell? ⟨p, 4, none⟩ = some ((Value.pointer (some ⟨y.pi, 0, none⟩))) := cellOf2 (o := 4) td.cells rfl
            have HCLOSE := Lib.hid (close_any p y.pn p 1 y.pi _ 117 y.av y.bv (outB cl) y.Sn y.Si cur (idx cl) wc.drew c3 td.now hcne HSM.out td.cells rfl rfl td.av (td.own rfl) td.apb.1 (by show liesAt Tryz.prog Tryz.prog.depth 117 (7 / Tryz.prog.cellsOf 117) 1 115 1 = true; kernel_rfl) HOUT.out td.ix HIX.out hlc (fun k hk => ⟨(td.api k hk).1, (td.api k hk).2.1⟩) (HN.out _ hf9.drew))
            have HTD := Lib.hid td
            clear t9 hf9 hyes hb9 hcne hlc td c0 dd
            go_wp2_with fail
            refine wp_region_held_drew (S := (fun W => W.cell? ⟨p, 4, none⟩ = some ((Value.pointer (some ⟨y.pi, 0, none⟩))))) (by kernel_rfl) (by (try dsimp only); exact c4) (fun hHeld => ?_)
            refine takeH (i := 0) (d := some 69) (v := ?_) rfl rfl (by kernel_rfl) (by kernel_rfl) (by kernel_rfl) (fun _ _ _ h => h) (Or.inl ⟨by rfl, ?_⟩) (by assumption) ?_
            rotate_left
            · intro wS hSw; (try dsimp only at hSw); go_simp; (try (with_reducible rfl))
            simp only [Act.put, List.setIfInBounds_toArray, List.set_cons_zero, List.set_cons_succ]
            refine takeH (i := 1) (d := some 70) (v := ?_) rfl rfl (by kernel_rfl) (by kernel_rfl) (by kernel_rfl) (fun _ _ _ h => h) (Or.inl ⟨by rfl, ?_⟩) (by assumption) ?_
            rotate_left
            · intro wS hSw; (try dsimp only at hSw); go_simp; (try (with_reducible rfl))
            simp only [Act.put, List.setIfInBounds_toArray, List.set_cons_zero, List.set_cons_succ]
            refine takeH (i := 2) (d := some 71) (v := ?_) rfl rfl (by kernel_rfl) (by kernel_rfl) (by kernel_rfl) (fun _ _ _ h => h) (Or.inl ⟨by rfl, ?_⟩) (by assumption) ?_
            rotate_left
            · intro wS hSw; (try dsimp only at hSw); go_simp; (try (with_reducible rfl))
            simp only [Act.put, List.setIfInBounds_toArray, List.set_cons_zero, List.set_cons_succ]
            refine takeH (i := 3) (d := some 72) (v := ?_) rfl rfl (by kernel_rfl) (by kernel_rfl) (by kernel_rfl) (fun _ _ _ h => h) (Or.inl ⟨by rfl, ?_⟩) (by assumption) ?_
            rotate_left
            · intro wS hSw; (try dsimp only at hSw); go_simp; (try (with_reducible rfl))
            simp only [Act.put, List.setIfInBounds_toArray, List.set_cons_zero, List.set_cons_succ]
            refine takeH (i := 4) (d := some 73) (v := ?_) rfl rfl (by kernel_rfl) (by kernel_rfl) (by kernel_rfl) (fun _ _ _ h => h) (Or.inl ⟨by rfl, ?_⟩) (by assumption) ?_
            rotate_left
            · intro wS hSw; (try dsimp only at hSw); go_simp; (try (with_reducible rfl))
            simp only [Act.put, List.setIfInBounds_toArray, List.set_cons_zero, List.set_cons_succ]
            refine takeH (i := 5) (d := some 74) (v := ?_) rfl rfl (by kernel_rfl) (by kernel_rfl) (by kernel_rfl) (fun _ _ _ h => h) (Or.inl ⟨by rfl, ?_⟩) (by assumption) ?_
            rotate_left
            · intro wS hSw; (try dsimp only at hSw); go_simp; (try (with_reducible rfl))
            simp only [Act.put, List.setIfInBounds_toArray, List.set_cons_zero, List.set_cons_succ]
            refine takeH (i := 6) (d := some 75) (v := ?_) rfl rfl (by kernel_rfl) (by kernel_rfl) (by kernel_rfl) (fun _ _ _ h => h) (Or.inl ⟨by rfl, ?_⟩) (by assumption) ?_
            rotate_left
            · intro wS hSw; (try dsimp only at hSw); go_simp; (try (with_reducible rfl))
            simp only [Act.put, List.setIfInBounds_toArray, List.set_cons_zero, List.set_cons_succ]
            refine takeH (i := 7) (d := some 76) (v := ?_) rfl rfl (by kernel_rfl) (by kernel_rfl) (by kernel_rfl) (fun _ _ _ h => h) (Or.inl ⟨by rfl, ?_⟩) (by assumption) ?_
            rotate_left
            · intro wS hSw; (try dsimp only at hSw); go_simp; (try (with_reducible rfl))
            simp only [Act.put, List.setIfInBounds_toArray, List.set_cons_zero, List.set_cons_succ]
            refine wpAnyH_ready (rs := [8]) (by kernel_rfl) (by simp) ?_
            refine AllReadyH.cons rfl (fun K hK => ?_) AllReadyH.nil
            go_simp
            refine HCLOSE.out.mono ?_
            rintro e w9 ⟨rfl, v9, S9, hp9, ho9, hb9, ha9, hs9, hx9, hf9⟩
            have k4 : w9.cell? ⟨p, 4, none⟩ = some ((Value.pointer (some ⟨y.pi, 0, none⟩))) := cellOf2 (o := 4) hp9 rfl
            obtain ⟨t4, f4, s4⟩ := HTD.out.closed (cl' := cl ++ [cur]) hf9 hp9 (.inr rfl) (by rw [outB_snoc]; exact ho9) (by rw [idx_snoc]; exact hb9) ha9 hs9 hx9
            have HT4 := Lib.hid t4
            have HF4 := Lib.hid f4
            have HS4 := Lib.hid s4
            clear hp9 ho9 hb9 ha9 hs9 hx9 hf9 t4 f4 s4
            go_wp2_with fail
            refine hK.out _ _ (by (try dsimp only); exact k4) (fun hHeld => ?_)
            clear hK K
            refine wpAnyH_done (by kernel_rfl) ?_ _
            clear hHeld c3 c4 k4
            have hp9 := HT4.out.cells
            dsimp only at hp9
            have hlt9 := lt_of_block hp9
            have c93 : w9.cell? ⟨p, 3, none⟩ = some ((Value.pointer (some ⟨y.pn, 0, none⟩))) := cellOf2 (o := 3) hp9 rfl
            have c96 : w9.cell? ⟨p, 6, none⟩ = some (.int .i64 cl.length) := cellOf2 (o := 6) hp9 rfl
            have f93 := free_of2 3 hp9
            have f96 := free_of2 6 hp9
            have hpc := setAt2 (o := 6) (.int .i64 ((cl.length : Int) + 1)) (setAt2 (o := 3) ((Value.pointer (some ⟨w9.heap.size, 0, none⟩))) hp9)
            have hsb : ((w9.setCell ⟨p, 3, none⟩ ((Value.pointer (some ⟨w9.heap.size, 0, none⟩)))).setCell ⟨p, 6, none⟩ (.int .i64 ((cl.length : Int) + 1))).heap.size = w9.heap.size := by simp
            have hB := Bd.new (Below.refl ((w9.setCell ⟨p, 3, none⟩ ((Value.pointer (some ⟨w9.heap.size, 0, none⟩)))).setCell ⟨p, 6, none⟩ (.int .i64 ((cl.length : Int) + 1))).heap.size ((w9.setCell ⟨p, 3, none⟩ ((Value.pointer (some ⟨w9.heap.size, 0, none⟩)))).setCell ⟨p, 6, none⟩ (.int .i64 ((cl.length : Int) + 1))))
            rw [hsb] at hB
            have hpd := (Lib.alloc_old ((w9.setCell ⟨p, 3, none⟩ ((Value.pointer (some ⟨w9.heap.size, 0, none⟩)))).setCell ⟨p, 6, none⟩ (.int .i64 ((cl.length : Int) + 1))) (.cells #[.slice none 0 0, .string ⟨#[]⟩, .int .i64 0, .slice none 0 0] 112) p (by rw [hsb]; exact hlt9)).trans hpc
            have hfd : Fr (fun k => k = p) w9 (((w9.setCell ⟨p, 3, none⟩ ((Value.pointer (some ⟨w9.heap.size, 0, none⟩)))).setCell ⟨p, 6, none⟩ (.int .i64 ((cl.length : Int) + 1))).alloc (.cells #[.slice none 0 0, .string ⟨#[]⟩, .int .i64 0, .slice none 0 0] 112)) :=
              ((((Fr.refl (fun k => k = p) w9).setCell (p := ⟨p, 3, none⟩) (.inl rfl) _).setCell (p := ⟨p, 6, none⟩) (.inl rfl) _)).alloc _
            obtain ⟨t5, f5, s5⟩ := HT4.out.fresh (nb' := cl.length + 1) hfd hpd hB (fun k hk => by rw [hk]; exact Nat.le_refl _)
            have hf49 : Fr (x.S p) w w9 := HF9.out.drew.trans HF4.out (fun n hn hs => (HSY.out n hs).elim id (fun h => by omega))
            have hsz49 : wc.heap.size ≤ w9.heap.size := HF4.out.size
            have hszc := HF9.out.size
            have hf59 := hf49.trans f5 (fun n hn hs => (HS4.out n hs).elim (fun h => (HSY.out n h).elim id (fun h => by omega)) (fun h => by have h2 : wc.heap.size ≤ n := h; omega))
            have HFIN := Lib.hid (show AddT w p sz acc x (bl k, bl v) (.returned (.int .i64 0)) _ from .inl ⟨HOK.out.1, HOK.out.2, rfl, _, by rw [cut_yes HYES.out, ← HCL.out, ← HCUR.out, List.length_append, List.length_singleton]; exact t5, hf59, fun k hk => by
              rcases s5 k hk with h1 | h1
              · rcases HS4.out k h1 with h2 | h2
                · exact HSY.out k h2
                · exact .inr (Nat.le_trans hszc h2)
              · exact .inr (by omega)⟩)
            have wn : IntKind.i64.wrap ((cl.length : Int) + 1) = (cl.length : Int) + 1 := by rw [IntWalk.i64_in _ (by omega)]
            clear hp9 hpc hsb hB hpd hfd t5 f5 s5 hf49 hsz49 hszc hf59 HCLOSE HTD
            go_wp2_with fail
            go_ret
            exact HFIN.out
      · have hbad : ¬ (Okp (bl k, bl v) ∧ lastK (cut sz acc).2 < bl k) := fun h => hok ⟨h.1, by
          rcases Classical.em (lastK acc < bl k) with h1 | h1
          · exact h1
          · rcases Nat.eq_zero_or_pos acc.length with h0 | h0
            · rw [List.length_eq_zero_iff.1 h0]; exact nil_lt h.1.1
            · exact absurd (HG.out.2 ⟨h0, h1⟩) (by simp)⟩
        have HAD := Lib.hid (add_bad x.pn x.Sn _ k v w.drew hT2.now HK.out HV.out hbad)
        have HF := Lib.hid (show AddT w p sz acc x (bl k, bl v) (.returned (.int .i64 1)) w.drew from .inr ⟨hok, rfl, (Below.refl _ w).drew⟩)
        clear hbad hok hT2
        go_wp2_with fail
        (with_reducible refine HAD.out.mono ?_)
        rintro e w1 ⟨rfl, rfl⟩
        go_wp2_with fail
        go_ret
        exact HF.out
end Go.Proofs.YtdbfaknpfepnfaaGreatDoor

/-
  The walks of a new table's builder, and of its Size.
-/
namespace Go.Proofs.YtdbfaknpfepnfaaGreatDoor
open Go.RowKit CodecP CrcP FrameP

set_option maxRecDepth 100000 in
/-- A builder that is new. -/
theorem Tb.make (W : World) (sz : Nat) : ∃ x : TbS, Tb (((W.alloc (.cells #[.slice none 0 0, .string ⟨#[]⟩, .int .i64 0, .slice none 0 0] 112)).alloc (.cells #[.slice none 0 0, .string ⟨#[]⟩, .int .i64 0, .slice none 0 0] 112)).alloc (.cells #[.int .i64 sz, .pointer none, .slice none 0 0, (Value.pointer (some ⟨W.heap.size, 0, none⟩)), .pointer (some ⟨W.heap.size + 1, 0, none⟩), .slice none 0 0, .int .i64 0] 117)) (W.heap.size + 2) sz [] [] [] 0 false x ∧ ∀ k, x.S (W.heap.size + 2) k → W.heap.size ≤ k := by
  have h1 := Bd.new (Below.refl W.heap.size W)
  have hs1 : (W.alloc (.cells #[.slice none 0 0, .string ⟨#[]⟩, .int .i64 0, .slice none 0 0] 112)).heap.size = W.heap.size + 1 := by simp
  generalize W.alloc (.cells #[.slice none 0 0, .string ⟨#[]⟩, .int .i64 0, .slice none 0 0] 112) = w1 at *
  have h2 := Bd.new (Below.refl w1.heap.size w1)
  have h3 := h1.below (w' := w1.alloc (.cells #[.slice none 0 0, .string ⟨#[]⟩, .int .i64 0, .slice none 0 0] 112)) ((Below.refl _ w1).alloc (Nat.le_refl _) _)
  have hs2 : (w1.alloc (.cells #[.slice none 0 0, .string ⟨#[]⟩, .int .i64 0, .slice none 0 0] 112)).heap.size = W.heap.size + 2 := by rw [show (w1.alloc _).heap.size = w1.heap.size + 1 by simp, hs1]
  generalize w1.alloc (.cells #[.slice none 0 0, .string ⟨#[]⟩, .int .i64 0, .slice none 0 0] 112) = w2 at *
  have hb : ∀ o, Below w2.heap.size w2 (w2.alloc o) := fun o => (Below.refl _ w2).alloc (Nat.le_refl _) o
  rw [hs1] at h2
  refine ⟨⟨W.heap.size, fun k => k = W.heap.size, W.heap.size + 1, fun k => k = W.heap.size + 1, .pointer none, .slice none 0 0, .slice none 0 0⟩, ⟨?_, .inl rfl, .inl ⟨rfl, rfl⟩, fun _ => ⟨World.ownsRow_nil _ _ _ _, fun _ => rfl⟩, h3.below (hb _), h2.below (hb _), World.ownsRow_nil _ _ _ _, fun k hk => ?_, fun k hk => ?_, ⟨by simp [Value.ownBlock], by simp [Value.ownBlock], fun k hk => by simp [Value.ownBlock] at hk⟩⟩, fun k hk => ?_⟩
  · rw [← hs2]
    show (w2.heap.push _)[w2.heap.size]? = _
    simp
  · have e : k = W.heap.size := hk
    refine ⟨fun e2 => ?_, by omega, by simp [Value.ownBlock], by simp [Value.ownBlock]⟩
    have e3 : k = W.heap.size + 1 := e2
    omega
  · have e : k = W.heap.size + 1 := hk
    exact ⟨by omega, by simp [Value.ownBlock], by simp [Value.ownBlock]⟩
  · rcases hk with hk | hk | hk | hk | hk
    · omega
    · simp [Value.ownBlock] at hk
    · have e : k = W.heap.size := hk
      omega
    · have e : k = W.heap.size + 1 := hk
      omega
    · simp [Value.ownBlock] at hk
set_option maxRecDepth 100000 in
theorem tNew_any (size : Int) (w : World) :
    Calls Tryz.prog 27 #[.int .i64 size] w fun e w' => ∃ p x, e = .returned ((Value.pointer (some ⟨p, 0, none⟩))) ∧ Tb w' p (clampN size) [] [] [] 0 false x ∧ (∀ k, x.S p k → w.heap.size ≤ k) ∧ Below w.heap.size w w' := by
  obtain ⟨x, hx, hS⟩ := Tb.make w (clampN size)
  have hb : Below w.heap.size w (((w.alloc (.cells #[.slice none 0 0, .string ⟨#[]⟩, .int .i64 0, .slice none 0 0] 112)).alloc (.cells #[.slice none 0 0, .string ⟨#[]⟩, .int .i64 0, .slice none 0 0] 112)).alloc (.cells #[.int .i64 (clampN size), .pointer none, .slice none 0 0, (Value.pointer (some ⟨w.heap.size, 0, none⟩)), .pointer (some ⟨w.heap.size + 1, 0, none⟩), .slice none 0 0, .int .i64 0] 117)) :=
    (((Below.refl _ w).alloc (Nat.le_refl _) _).alloc (by simp) _).alloc (by simp; omega) _
  rw [(clamp_le size).2.2] at hx hb
  have HX := Lib.hid hx
  have HB := Lib.hid hb
  have HS := Lib.hid hS
  clear hx hb hS
  go_enter Tryz.func27, Tryz.ntmps27
  go_wp2_with fail
  go_ret
  exact ⟨w.heap.size + 2, x, rfl, HX.out, HS.out, HB.out⟩
/-- How many bytes all blocks' frames have. -/
def sizeB (cl : List (List Pr)) (cur : List Pr) : Nat := (outB cl).length + (if cur = [] then 0 else (blk cur).length + 12)
set_option maxRecDepth 100000 in
theorem tSize_any (p sz : Nat) (cl : List (List Pr)) (cur : List Pr) (ks : List (List UInt8)) (nb : Nat) (fz : Bool) (x : TbS) (w : World) (h : Tb w p sz cl cur ks nb fz x) (ho : (outB cl).length ≤ 100000000) (hc : (blk cur).length ≤ 100000000) :
    Calls Tryz.prog 34 #[(Value.pointer (some ⟨p, 0, none⟩))] w fun e w' => e = .returned (.int .i64 (sizeB cl cur)) ∧ Below w.heap.size w w' := by
  obtain ⟨ao, cp, hbv⟩ := h.row.form
  have c2 : w.cell? ⟨p, 2, none⟩ = some (.slice ao (outB cl).length cp) := by rw [← hbv]; exact cellOf2 (o := 2) h.cells rfl
  have c3 : w.cell? ⟨p, 3, none⟩ = some ((Value.pointer (some ⟨x.pn, 0, none⟩))) := cellOf2 (o := 3) h.cells rfl
  have HL := Lib.hid (sbLen_any (p := p) (o := 1) c2)
  have HN := Lib.hid (len_b x.pn x.Sn cur w h.now)
  have HS := Lib.hid (size_b x.pn x.Sn cur w h.now)
  have HR := Lib.hid (Below.refl w.heap.size w)
  unfold sizeB
  by_cases h0 : cur = []
  · rw [if_pos h0, Nat.add_zero]
    have hl0 : cur.length = 0 := by rw [h0]; rfl
    rw [hl0] at HN
    clear h hbv c2 h0 hl0 hc HS
    generalize (outB cl).length = n at *
    go_enter Tryz.func34, Tryz.ntmps34
    go_wp2_with fail
    (with_reducible refine (HL.out).mono ?_)
    rintro e w1 ⟨rfl, rfl⟩
    go_wp2_with fail
    (with_reducible refine (HN.out).mono ?_)
    rintro e w1 ⟨rfl, rfl⟩
    go_wp2_with fail
    go_ret
    exact ⟨rfl, HR.out⟩
  · rw [if_neg h0]
    have hl0 : 0 < cur.length := List.length_pos_iff.2 h0
    have d0 : decide ((0 : Int) < (cur.length : Int)) = true := by rw [decide_eq_true_eq]; omega
    have d1 : decide (0 < cur.length) = true := by rw [decide_eq_true_eq]; omega
    clear h hbv c2 h0
    generalize (outB cl).length = n at *
    generalize (blk cur).length = m at *
    generalize cur.length = cn at *
    have w1 : IntKind.i64.wrap ((m : Int) + 12) = (m : Int) + 12 := IntWalk.i64_in _ (by omega)
    have w2 : IntKind.i64.wrap ((n : Int) + ((m : Int) + 12)) = (n : Int) + ((m : Int) + 12) := IntWalk.i64_in _ (by omega)
    go_enter Tryz.func34, Tryz.ntmps34
    go_wp2_with fail
    (with_reducible refine (HL.out).mono ?_)
    rintro e w1 ⟨rfl, rfl⟩
    go_wp2_with fail
    (with_reducible refine (HN.out).mono ?_)
    rintro e w1 ⟨rfl, rfl⟩
    go_wp2_with fail
    (with_reducible refine (HS.out).mono ?_)
    rintro e w1 ⟨rfl, hb1⟩
    have HB1 := Lib.hid hb1
    clear hb1
    go_wp2_with fail
    go_ret
    refine ⟨congrArg (fun z => Ending.returned (.int .i64 z)) ?_, HB1.out⟩
    omega
end Go.Proofs.YtdbfaknpfepnfaaGreatDoor

/-
  A reader by what it has to come; the walk of block's step.
-/
namespace Go.Proofs.YtdbfaknpfepnfaaGreatDoor
open Go.RowKit CodecP

/-- A reader at p: what it has to come; none: it is bad. -/
def RO (w : World) (p : Nat) (o : Option (List UInt8)) : Prop := ∃ s bad, Rd w p s bad ∧ st s bad = o
set_option maxRecDepth 100000 in
theorem RO.keep {w w' : World} {S : Nat → Prop} {p : Nat} {o : Option (List UInt8)} (h : RO w p o) (hf : Fr S w w') (hS : ¬ S p) : RO w' p o := by
  obtain ⟨s, bad, h1, h2⟩ := h
  exact ⟨s, bad, h1.keep hf hS, h2⟩
set_option maxRecDepth 100000 in
theorem RO.lt {w : World} {p : Nat} {o : Option (List UInt8)} (h : RO w p o) : p < w.heap.size := by
  obtain ⟨s, bad, h1, h2⟩ := h
  exact lt_of_block h1.1
/-- What Size takes. -/
def sz : Option (List UInt8) → Nat × Option (List UInt8)
  | none => (0, none)
  | some l => match tk 0 l with
    | none => (0, none)
    | some (n, r) => if 9223372036854775808 ≤ n then (0, none) else (n, some r)
set_option maxRecDepth 100000 in
theorem sizeO_sz (s : ByteArray) (bad : Bool) : sizeO s bad = sz (st s bad) := by
  unfold sizeO tkI st sz
  cases bad with
  | true => simp
  | false =>
    simp only [Bool.false_eq_true, if_false]
    cases tk 0 (bl s) with
    | none => simp
    | some x => obtain ⟨n, r⟩ := x; simp
set_option maxRecDepth 100000 in
theorem sz_lt (o : Option (List UInt8)) : (sz o).1 < 9223372036854775808 := by
  unfold sz
  cases o with
  | none => decide
  | some l =>
    simp only []
    cases tk 0 l with
    | none => decide
    | some x =>
      obtain ⟨n, r⟩ := x
      simp only []
      split
      · decide
      · simp only []; omega
set_option maxRecDepth 100000 in
theorem size_o (p : Nat) (o : Option (List UInt8)) (w : World) (h : RO w p o) :
    Calls Tryz.prog 128 #[(Value.pointer (some ⟨p, 0, none⟩))] w fun e w' => e = .returned (.int .i64 ((sz o).1 : Nat)) ∧ RO w' p (sz o).2 ∧ Fr (RdS p) w w' := by
  obtain ⟨s, bad, h1, rfl⟩ := h
  refine (rdSize_any p s bad w h1).mono ?_
  rintro e w' ⟨rfl, s', b', h2, h3, h4⟩
  rw [sizeO_sz] at h3 ⊢
  exact ⟨rfl, ⟨s', b', h2, h3⟩, h4⟩
set_option maxRecDepth 100000 in
theorem raw_o (p : Nat) (o : Option (List UInt8)) (n : Int) (w : World) (h : RO w p o) :
    Calls Tryz.prog 151 #[(Value.pointer (some ⟨p, 0, none⟩)), .int .i64 n] w fun e w' => e = .returned (.string (str (rawS n o).1)) ∧ RO w' p (rawS n o).2 ∧ Fr (RdS p) w w' := by
  obtain ⟨s, bad, h1, rfl⟩ := h
  refine (rdRaw_any p s bad n w h1).mono ?_
  rintro e w' ⟨rfl, h2, h3⟩
  obtain ⟨e1, e2⟩ := rawOut_st s bad n
  exact ⟨by rw [e1], ⟨_, _, h2, e2⟩, h3⟩
set_option maxRecDepth 100000 in
theorem good_o (p : Nat) (o : Option (List UInt8)) (w : World) (h : RO w p o) :
    Calls Tryz.prog 127 #[(Value.pointer (some ⟨p, 0, none⟩))] w fun e w' => e = .returned (.bool o.isSome) ∧ w = w' := by
  obtain ⟨s, bad, h1, rfl⟩ := h
  refine (good_any p s bad w h1).mono ?_
  rintro e w' ⟨rfl, rfl⟩
  cases bad <;> exact ⟨rfl, rfl⟩
set_option maxRecDepth 100000 in
theorem left_o (p : Nat) (o : Option (List UInt8)) (w : World) (h : RO w p o) :
    Calls Tryz.prog 125 #[(Value.pointer (some ⟨p, 0, none⟩))] w fun e w' => e = .returned (.int .i64 ((o.getD []).length : Nat)) ∧ w = w' := by
  obtain ⟨s, bad, h1, rfl⟩ := h
  refine (left_any p s bad w h1).mono ?_
  rintro e w' ⟨rfl, rfl⟩
  cases bad
  · exact ⟨by simp [st, bl_size], rfl⟩
  · exact ⟨rfl, rfl⟩
set_option maxRecDepth 100000 in
theorem end_o (p : Nat) (o : Option (List UInt8)) (w : World) (h : RO w p o) :
    Calls Tryz.prog 122 #[(Value.pointer (some ⟨p, 0, none⟩))] w fun e w' => e = .returned (.bool (decide (o = some []))) ∧ w = w' := by
  obtain ⟨s, bad, h1, rfl⟩ := h
  refine (end_any p s bad w h1).mono ?_
  rintro e w' ⟨rfl, rfl⟩
  refine ⟨?_, rfl⟩
  have e : (s.size == 0) = decide (bl s = []) := by rw [Bool.eq_iff_iff, beq_iff_eq, decide_eq_true_eq, ← bl_size, List.length_eq_zero_iff]
  cases bad
  · rw [e]; simp [st]
  · simp [st]
set_option maxRecDepth 100000 in
theorem read_o (s : ByteArray) (w : World) (hs : s.size ≤ maxLen) :
    Calls Tryz.prog 64 #[.string s] w fun e w' => e = .returned ((Value.pointer (some ⟨w.heap.size, 0, none⟩))) ∧ RO w' w.heap.size (some (bl s)) ∧ Below w.heap.size w w' := by
  refine (read_any s w hs).mono ?_
  rintro e w' ⟨rfl, h1, h2⟩
  exact ⟨rfl, ⟨s, false, h1, rfl⟩, h2⟩
/-- What step takes behind a key: the pair, how much of the key it had in common, what is to come. -/
def stepF (last : List UInt8) (o : Option (List UInt8)) : Option (Pr × Nat × List UInt8) :=
  let a := sz o
  let b := sz a.2
  let c := sz b.2
  match (if last.length < a.1 ∨ 80 < b.1 ∨ 16000 < c.1 then none else c.2) with
  | none => none
  | some l => if l.length < b.1 + c.1 then none else some ((last.take a.1 ++ l.take b.1, (l.drop b.1).take c.1), a.1, l.drop (b.1 + c.1))
def prO (x : Option (Pr × Nat × List UInt8)) : Pr := match x with
  | none => ([], [])
  | some y => y.1
def smO (x : Option (Pr × Nat × List UInt8)) : Nat := match x with
  | none => 0
  | some y => y.2.1
def rsO (x : Option (Pr × Nat × List UInt8)) : Option (List UInt8) := x.map (fun y => y.2.2)
set_option maxRecDepth 100000 in
/-- What two Raws take one behind the other. -/
theorem raws (o : Option (List UInt8)) (b c : Nat) : (o = none ∧ (rawS c (rawS b o).2).2 = none) ∨ ∃ l, o = some l ∧
    ((l.length < b + c ∧ (rawS c (rawS b o).2).2 = none) ∨ (b + c ≤ l.length ∧ (rawS b o).1 = l.take b ∧ (rawS c (rawS b o).2).1 = (l.drop b).take c ∧ (rawS c (rawS b o).2).2 = some (l.drop (b + c)))) := by
  cases o with
  | none => exact .inl ⟨rfl, rfl⟩
  | some l =>
    refine .inr ⟨l, rfl, ?_⟩
    by_cases h1 : l.length < b
    · left
      have e : rawS (b : Int) (some l) = ([], none) := by unfold rawS; simp only []; rw [if_pos (by omega)]
      rw [e]; exact ⟨by omega, by simp [rawS]⟩
    · have e : rawS (b : Int) (some l) = (l.take b, some (l.drop b)) := by unfold rawS; simp only []; rw [if_neg (by omega)]; simp
      rw [e]
      simp only []
      by_cases h2 : l.length < b + c
      · left
        have e2 : rawS (c : Int) (some (l.drop b)) = ([], none) := by unfold rawS; simp only []; rw [if_pos (by rw [List.length_drop]; omega)]
        rw [e2]; exact ⟨h2, rfl⟩
      · right
        have e2 : rawS (c : Int) (some (l.drop b)) = ((l.drop b).take c, some ((l.drop b).drop c)) := by unfold rawS; simp only []; rw [if_neg (by rw [List.length_drop]; omega)]; simp
        rw [e2, List.drop_drop]
        refine ⟨by omega, ?_, ?_, ?_⟩ <;> first | trivial | rfl
set_option maxRecDepth 100000 in
/-- A pair's cells, written. -/
theorem two_cells {w : World} {b : Nat} {x y : Value} {t : TypeId} (h : w.heap[b]? = some (.cells #[x, y] t (0, 0))) (u v : Value) :
    (w.setCell ⟨b, 0, none⟩ u).cell? ⟨b, 0, none⟩ = some u ∧ ((w.setCell ⟨b, 0, none⟩ u).setCell ⟨b, 1, none⟩ v).cell? ⟨b, 1, none⟩ = some v ∧ ((w.setCell ⟨b, 0, none⟩ u).setCell ⟨b, 1, none⟩ v).cell? ⟨b, 0, none⟩ = some u :=
  ⟨cellOf2 (setAt2 (o := 0) u h) rfl, cellOf2 (setAt2 (o := 1) v (setAt2 (o := 0) u h)) rfl, cellOf2 (setAt2 (o := 1) v (setAt2 (o := 0) u h)) rfl⟩
set_option maxRecDepth 100000 in
set_option maxHeartbeats 2000000 in
theorem step_any (p : Nat) (last : ByteArray) (o : Option (List UInt8)) (w : World) (h : RO w p o) (hl : last.size ≤ 1000000) :
    Calls Tryz.prog 126 #[(Value.pointer (some ⟨p, 0, none⟩)), .string last] w fun e w' => e = .returned (.tuple #[.agg #[.string (str (prO (stepF (bl last) o)).1), .string (str (prO (stepF (bl last) o)).2)], .int .i64 (smO (stepF (bl last) o))]) ∧ RO w' p (rsO (stepF (bl last) o)) ∧ Fr (RdS p) w w' := by
  have hp := h.lt
  have HSZ := Lib.hid size_o
  have HRW := Lib.hid raw_o
  have HGD := Lib.hid good_o
  have h1 : RO (w.alloc (.cells #[.string ⟨#[]⟩, .string ⟨#[]⟩] 43)) p o := h.keep ((Fr.refl (fun _ => False) w).alloc _) (fun h => h)
  have H1 := Lib.hid h1
  have HF1 := Lib.hid ((Fr.refl (RdS p) w).alloc (.cells #[.string ⟨#[]⟩, .string ⟨#[]⟩] 43))
  have hc0 : ∀ W, Fr (RdS p) (w.alloc (.cells #[.string ⟨#[]⟩, .string ⟨#[]⟩] 43)) W → W.heap[w.heap.size]? = some (.cells #[.string ⟨#[]⟩, .string ⟨#[]⟩] 43 (0, 0)) := fun W hW => by
    rw [hW.block w.heap.size (by simp) (fun e => by unfold RdS at e; omega)]
    show (w.heap.push _)[w.heap.size]? = _
    simp
  have HC0 := Lib.hid hc0
  obtain ⟨a, ha⟩ : ∃ a, a = sz o := ⟨_, rfl⟩
  obtain ⟨b, hb⟩ : ∃ b, b = sz a.2 := ⟨_, rfl⟩
  obtain ⟨c, hc⟩ : ∃ c, c = sz b.2 := ⟨_, rfl⟩
  have la := sz_lt o
  have lb := sz_lt a.2
  have lc := sz_lt b.2
  rw [← ha] at la
  rw [← hb] at lb
  rw [← hc] at lc
  have HX : Hid (stepF (bl last) o = match (if (bl last).length < a.1 ∨ 80 < b.1 ∨ 16000 < c.1 then none else c.2) with
    | none => none
    | some l => if l.length < b.1 + c.1 then none else some (((bl last).take a.1 ++ l.take b.1, (l.drop b.1).take c.1), a.1, l.drop (b.1 + c.1))) := Lib.hid (by rw [hc, hb, ha]; rfl)
  obtain ⟨a1, a2⟩ := a
  obtain ⟨b1, b2⟩ := b
  obtain ⟨c1, c2⟩ := c
  simp only [bl_size] at *
  have HA := Lib.hid ha
  have HB := Lib.hid hb
  have HC := Lib.hid hc
  generalize hX : stepF (bl last) o = X at *
  clear h h1 hc0 ha hb hc hX
  go_enter Tryz.func126, Tryz.ntmps126
  go_wp2_with fail
  generalize w.alloc (.cells #[.string ⟨#[]⟩, .string ⟨#[]⟩] 43) = w1 at *
  go_wp2_with fail
  (with_reducible refine (HSZ.out _ _ _ H1.out).mono ?_)
  rintro e w2 ⟨rfl, h2, hf2⟩
  rw [← HA.out] at h2 ⊢
  have H2 := Lib.hid h2
  have HF2 := Lib.hid hf2
  clear h2 hf2
  go_wp2_with fail
  (with_reducible refine (HSZ.out _ _ _ H2.out).mono ?_)
  rintro e w3 ⟨rfl, h3, hf3⟩
  rw [← HB.out] at h3 ⊢
  have H3 := Lib.hid h3
  have HF3 := Lib.hid (HF2.out.trans hf3 (fun _ _ h => h))
  clear h3 hf3
  go_wp2_with fail
  (with_reducible refine (HSZ.out _ _ _ H3.out).mono ?_)
  rintro e w4 ⟨rfl, h4, hf4⟩
  rw [← HC.out] at h4 ⊢
  have H4 := Lib.hid h4
  have HF4 := Lib.hid (HF3.out.trans hf4 (fun _ _ h => h))
  clear h4 hf4
  (try simp only [] at H4 HX)
  have hc4 := HC0.out w4 HF4.out
  have nn : ∀ n, rawS n none = ([], none) := fun n => rfl
  have neg : ∀ o', rawS (-1) o' = ([], none) := fun o' => by cases o' <;> simp [rawS]
  by_cases hbad : last.size < a1 ∨ 80 < b1 ∨ 16000 < c1
  · have hX : X = none := by rw [HX.out, if_pos hbad]
    subst hX
    have hcase : (decide (last.size < a1) = true ∧ True) ∨ (decide (last.size < a1) = false ∧ decide ((80 : Int) < (b1 : Int)) = true) ∨ (decide (last.size < a1) = false ∧ decide ((80 : Int) < (b1 : Int)) = false ∧ decide ((16000 : Int) < (c1 : Int)) = true) := by
      simp only [decide_eq_true_eq, decide_eq_false_iff_not]
      by_cases q1 : last.size < a1
      · exact .inl ⟨q1, trivial⟩
      · by_cases q2 : 80 < b1
        · exact .inr (.inl ⟨q1, by omega⟩)
        · exact .inr (.inr ⟨q1, by omega, by omega⟩)
    clear hbad
    have tl : ∀ W, RO W p none → Fr (RdS p) w1 W → W.heap[w.heap.size]? = some (.cells #[.string ⟨#[]⟩, .string ⟨#[]⟩] 43 (0, 0)) := fun W _ hW => HC0.out W hW
    rcases hcase with ⟨d1, -⟩ | ⟨d1, d2⟩ | ⟨d1, d2, d3⟩
    all_goals
      go_wp2_with fail
      (with_reducible refine (HRW.out _ _ _ _ H4.out).mono ?_)
      rintro e w5 ⟨rfl, h5, hf5⟩
      rw [neg] at h5 ⊢
      have H5 := Lib.hid h5
      have HF5 := Lib.hid (HF4.out.trans hf5 (fun _ _ h => h))
      clear h5 hf5
      go_wp2_with fail
      (with_reducible refine (HRW.out _ _ _ _ H5.out).mono ?_)
      rintro e w6 ⟨rfl, h6, hf6⟩
      rw [nn] at h6 ⊢
      have H6 := Lib.hid h6
      have HF6 := Lib.hid (HF5.out.trans hf6 (fun _ _ h => h))
      clear h6 hf6
      go_wp2_with fail
      (with_reducible refine (HRW.out _ _ _ _ H6.out).mono ?_)
      rintro e w7 ⟨rfl, h7, hf7⟩
      rw [nn] at h7 ⊢
      have H7 := Lib.hid h7
      have HF7 := Lib.hid (HF6.out.trans hf7 (fun _ _ h => h))
      clear h7 hf7
      go_wp2_with fail
      (with_reducible refine (HGD.out _ _ _ H7.out).mono ?_)
      rintro e w8 ⟨rfl, rfl⟩
      have hc7 := HC0.out _ HF7.out
      have k0 := cellOf2 (o := 0) hc7 rfl
      have k1 := cellOf2 (o := 1) hc7 rfl
      have g0 := free_of2 0 hc7
      have g1 := free_of2 1 hc7
      go_wp2_with fail
      obtain ⟨x0, x1, x2⟩ := two_cells hc7 (.string ⟨#[]⟩) (.string ⟨#[]⟩)
      have hB := ((Fr.refl (fun k => k = w.heap.size) w7).setCell (p := ⟨w.heap.size, 0, none⟩) (.inl rfl) (.string ⟨#[]⟩)).setCell (p := ⟨w.heap.size, 1, none⟩) (.inl rfl) (.string ⟨#[]⟩)
      refine bodyPost_ret (v := .tuple #[.agg #[.string ⟨#[]⟩, .string ⟨#[]⟩], .int .i64 0]) (by simp [results, Tryz.results126, go_sem, x1, x2]) rfl ⟨rfl, H7.out.keep hB (fun e => by omega), ?_⟩
      exact ((HF1.out.trans HF7.out (fun _ _ h => h)).setCell (.inr (Nat.le_refl _)) _).setCell (.inr (Nat.le_refl _)) _
  · have hX := HX.out
    rw [if_neg hbad] at hX
    have d1 : decide (last.size < a1) = false := decide_eq_false (fun h => hbad (.inl h))
    have d2 : decide ((80 : Int) < (b1 : Int)) = false := decide_eq_false (fun h => hbad (.inr (.inl (by omega))))
    have d3 : decide ((16000 : Int) < (c1 : Int)) = false := decide_eq_false (fun h => hbad (.inr (.inr (by omega))))
    have la1 : a1 ≤ last.size := by omega
    have lb1 : b1 ≤ 80 := by omega
    have hcase : ((rawS c1 (rawS b1 c2).2).2 = none ∧ X = none) ∨ ∃ l : List UInt8, (rawS b1 c2).1 = l.take b1 ∧ (rawS c1 (rawS b1 c2).2).1 = (l.drop b1).take c1 ∧ (rawS c1 (rawS b1 c2).2).2 = some (l.drop (b1 + c1)) ∧ X = some (((bl last).take a1 ++ l.take b1, (l.drop b1).take c1), a1, l.drop (b1 + c1)) := by
      rcases raws c2 b1 c1 with ⟨e, q⟩ | ⟨l, e, ⟨q0, q⟩ | ⟨q0, q1, q2, q3⟩⟩
      · exact .inl ⟨q, by rw [hX, e]⟩
      · exact .inl ⟨q, by rw [hX, e]; simp only []; rw [if_pos q0]⟩
      · exact .inr ⟨l, q1, q2, q3, by rw [hX, e]; simp only []; rw [if_neg (by omega)]⟩
    clear hX hbad HX
    rcases hcase with ⟨q, rfl⟩ | ⟨l, q1, q2, q3, rfl⟩
    all_goals
      go_wp2_with fail
      (with_reducible refine (HRW.out _ _ _ _ H4.out).mono ?_)
      rintro e w6 ⟨rfl, h6, hf6⟩
      have H6 := Lib.hid h6
      have HF6 := Lib.hid (HF4.out.trans hf6 (fun _ _ h => h))
      clear h6 hf6
      go_wp2_with fail
      (with_reducible refine (HRW.out _ _ _ _ H6.out).mono ?_)
      rintro e w7 ⟨rfl, h7, hf7⟩
      have H7 := Lib.hid h7
      have HF7 := Lib.hid (HF6.out.trans hf7 (fun _ _ h => h))
      clear h7 hf7
      have hc7 := HC0.out _ HF7.out
      have k0 := cellOf2 (o := 0) hc7 rfl
      have k1 := cellOf2 (o := 1) hc7 rfl
      have g0 := free_of2 0 hc7
      have g1 := free_of2 1 hc7
    · rw [q] at H7
      go_wp2_with fail
      (with_reducible refine (HGD.out _ _ _ H7.out).mono ?_)
      rintro e w8 ⟨rfl, rfl⟩
      go_wp2_with fail
      obtain ⟨x0, x1, x2⟩ := two_cells hc7 (.string ⟨#[]⟩) (.string ⟨#[]⟩)
      have hB := ((Fr.refl (fun k => k = w.heap.size) w7).setCell (p := ⟨w.heap.size, 0, none⟩) (.inl rfl) (.string ⟨#[]⟩)).setCell (p := ⟨w.heap.size, 1, none⟩) (.inl rfl) (.string ⟨#[]⟩)
      refine bodyPost_ret (v := .tuple #[.agg #[.string ⟨#[]⟩, .string ⟨#[]⟩], .int .i64 0]) (by simp [results, Tryz.results126, go_sem, x1, x2]) rfl ⟨rfl, H7.out.keep hB (fun e => by omega), ?_⟩
      exact ((HF1.out.trans HF7.out (fun _ _ h => h)).setCell (.inr (Nat.le_refl _)) _).setCell (.inr (Nat.le_refl _)) _
    · rw [q3] at H7
      rw [q2]
      have es : last.extract 0 a1 ++ str (l.take b1) = str ((bl last).take a1 ++ l.take b1) := by
        rw [← str_append, ← str_bl (last.extract 0 a1), ext_bl, List.drop_zero, Nat.sub_zero]
      have hov : ¬ 9223372036854775807 < a1 + (str (l.take b1)).size := by
        have : (str (l.take b1)).size ≤ b1 := by rw [show (str (l.take b1)).size = (l.take b1).length by simp [str, ByteArray.size]]; exact List.length_take_le _ _
        omega
      go_wp2_with fail
      (with_reducible refine (HGD.out _ _ _ H7.out).mono ?_)
      rintro e w8 ⟨rfl, rfl⟩
      go_wp2_with fail
      obtain ⟨x0, x1, x2⟩ := two_cells hc7 (.string (str ((bl last).take a1 ++ l.take b1))) (.string (str ((l.drop b1).take c1)))
      have hB := ((Fr.refl (fun k => k = w.heap.size) w7).setCell (p := ⟨w.heap.size, 0, none⟩) (.inl rfl) (.string (str ((bl last).take a1 ++ l.take b1)))).setCell (p := ⟨w.heap.size, 1, none⟩) (.inl rfl) (.string (str ((l.drop b1).take c1)))
      refine bodyPost_ret (v := .tuple #[.agg #[.string (str ((bl last).take a1 ++ l.take b1)), .string (str ((l.drop b1).take c1))], .int .i64 a1]) (by simp [results, Tryz.results126, go_sem, x1, x2]) rfl ⟨rfl, H7.out.keep hB (fun e => by omega), ?_⟩
      exact ((HF1.out.trans HF7.out (fun _ _ h => h)).setCell (.inr (Nat.le_refl _)) _).setCell (.inr (Nat.le_refl _)) _
end Go.Proofs.YtdbfaknpfepnfaaGreatDoor

/-
  Plain: what a step takes is what a pair lays.
-/
namespace Go.Proofs.YtdbfaknpfepnfaaGreatDoor
open CodecP

set_option maxRecDepth 100000 in
theorem sz_grp (n : Nat) (r : List UInt8) (h : n < 9223372036854775808) : sz (some (grp n ++ r)) = (n, some r) := by
  unfold sz
  simp only []
  rw [tk_grp n r (by omega)]
  simp only []
  rw [if_neg (by omega)]
set_option maxRecDepth 100000 in
theorem sz_some {o : Option (List UInt8)} {n : Nat} {r : List UInt8} (h : sz o = (n, some r)) : o = some (grp n ++ r) ∧ n < 9223372036854775808 := by
  unfold sz at h
  cases o with
  | none => simp at h
  | some l =>
    simp only [] at h
    cases ht : tk 0 l with
    | none => rw [ht] at h; simp at h
    | some x =>
      obtain ⟨m, q⟩ := x
      rw [ht] at h
      simp only [] at h
      split at h
      · simp at h
      · simp only [Prod.mk.injEq, Option.some.injEq] at h
        obtain ⟨rfl, rfl⟩ := h
        exact ⟨by rw [(grp_tk m l q ht).1], by omega⟩
set_option maxRecDepth 100000 in
/-- A pair that was laid is taken. -/
theorem stepF_ent (last : List UInt8) (same : Nat) (p : Pr) (rest : List UInt8) (h1 : same ≤ last.length) (h3 : p.1.take same = last.take same) (hl : last.length ≤ 1000000) (hk : p.1.length - same ≤ 80) (hv : p.2.length ≤ 16000) :
    stepF last (some (ent same p ++ rest)) = some (p, same, rest) := by
  unfold stepF ent
  simp only [List.append_assoc]
  rw [sz_grp _ _ (by omega)]
  simp only []
  rw [sz_grp _ _ (by omega)]
  simp only []
  rw [sz_grp _ _ (by omega)]
  simp only []
  rw [if_neg (by omega)]
  simp only []
  have e1 : (p.1.drop same).length = p.1.length - same := List.length_drop
  rw [if_neg (by simp only [List.length_append, List.length_drop]; omega)]
  rw [← e1, List.take_left' rfl, List.drop_left' rfl, List.take_left' rfl, ← h3, List.take_append_drop]
  rw [← List.append_assoc, List.drop_left' (by rw [List.length_append])]
set_option maxRecDepth 100000 in
/-- What was taken was laid. -/
theorem ent_stepF {last : List UInt8} {o : Option (List UInt8)} {p : Pr} {same : Nat} {rest : List UInt8} (h : stepF last o = some (p, same, rest)) :
    o = some (ent same p ++ rest) ∧ same ≤ last.length ∧ same ≤ p.1.length ∧ p.1.take same = last.take same ∧ p.1.length - same ≤ 80 ∧ p.2.length ≤ 16000 := by
  unfold stepF at h
  simp only [] at h
  obtain ⟨a1, a2, ha⟩ : ∃ x y, sz o = (x, y) := ⟨_, _, rfl⟩
  obtain ⟨b1, b2, hb⟩ : ∃ x y, sz a2 = (x, y) := ⟨_, _, rfl⟩
  obtain ⟨c1, c2, hc⟩ : ∃ x y, sz b2 = (x, y) := ⟨_, _, rfl⟩
  simp only [ha, hb, hc] at h
  by_cases hbad : last.length < a1 ∨ 80 < b1 ∨ 16000 < c1
  · rw [if_pos hbad] at h; simp at h
  · rw [if_neg hbad] at h
    cases c2 with
    | none => simp at h
    | some l =>
      simp only [] at h
      obtain ⟨rfl, l3⟩ := sz_some hc
      obtain ⟨rfl, l2⟩ := sz_some hb
      obtain ⟨rfl, l1⟩ := sz_some ha
      split at h
      · simp at h
      · rename_i hl
        simp only [Option.some.injEq, Prod.mk.injEq] at h
        obtain ⟨rfl, rfl, rfl⟩ := h
        have e1 : (last.take a1).length = a1 := by rw [List.length_take]; omega
        have e2 : (l.take b1).length = b1 := by rw [List.length_take]; omega
        have e3 : ((l.drop b1).take c1).length = c1 := by rw [List.length_take, List.length_drop]; omega
        refine ⟨?_, by omega, ?_, ?_, ?_, ?_⟩
        · unfold ent
          simp only [List.length_append, e1, e2, e3, Nat.add_sub_cancel_left, List.append_assoc]
          rw [List.drop_left' e1, ← List.drop_drop, List.take_append_drop, List.take_append_drop]
        · simp only [List.length_append, e1]; omega
        · simp only []
          rw [List.take_left' e1]
        · simp only [List.length_append, e1, e2]; omega
        · simp only [e3]; omega
end Go.Proofs.YtdbfaknpfepnfaaGreatDoor
