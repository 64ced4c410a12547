
/-
  The walk of cursor's Pack and Unpack.
-/
import Derived.Test.YtdbfaknpfepnfaaGreatDoorCelW
namespace Go.Proofs.YtdbfaknpfepnfaaGreatDoor
open Go.RowKit CodecP Cur

set_option maxRecDepth 100000 in
theorem idxByteS_any (a : ByteArray) (c : Int) (w : World) :
    Calls Tryz.prog 170 #[.string a, .int .u8 c] w fun e w' => e = .returned (.int .i64 (Lib.indexByte (bl a) c.toNat.toUInt8)) ∧ w = w' := by
  go_enter Tryz.func170, Tryz.ntmps170
  go_wp2
  rw [run_callFunc_extern Tryz.func175 (by kernel_rfl) (by kernel_rfl) (by kernel_rfl) (e := Extern.BytealgIndexByte.indexByte) (by kernel_rfl), Lib.run_indexByteString]
  simp only [Result.andThen]
  rw [Oper.upon_value]
  go_wp2
  go_ret
  exact ⟨rfl, rfl⟩
theorem indexByte_mem (l : List UInt8) (c : UInt8) : (0 ≤ Lib.indexByte l c ↔ c ∈ l) := by
  induction l with
  | nil => simp [Lib.indexByte]
  | cons b l ih =>
    have hge := Lib.indexByte_ge l c
    unfold Lib.indexByte
    by_cases hb : b = c
    · simp [hb]
    · have h1 : (b == c) = false := by simpa using hb
      rw [h1]
      simp only [Bool.false_eq_true, if_false]
      by_cases h2 : Lib.indexByte l c = -1
      · rw [h2]
        have : ¬ c ∈ l := fun h => by have := ih.2 h; omega
        simp [this]
        exact fun h => hb h.symm
      · have h3 : (Lib.indexByte l c == -1) = false := by simpa using h2
        rw [h3]
        simp only [Bool.false_eq_true, if_false]
        have : c ∈ l := ih.1 (by omega)
        simp [this]
        omega
set_option maxRecDepth 100000 in
theorem slIndex0_any (a : ByteArray) (w : World) :
    Calls Tryz.prog 150 #[.string a, .string ⟨#[0]⟩] w fun e w' => e = .returned (.int .i64 (Lib.indexByte (bl a) 0)) ∧ w = w' := by
  have HI := Lib.hid (idxByteS_any a 0 w)
  by_cases h0 : bl a = [0]
  · have e0 : (([0] : List UInt8) == a.toList) = true := by rw [ByteArray.toList_eq, beq_iff_eq]; exact h0.symm
    have H0 := Lib.hid h0
    clear h0
    go_enter Tryz.func150, Tryz.ntmps150
    go_wp2_with fail
    go_ret
    exact ⟨by rw [H0.out]; rfl, rfl⟩
  · have e0 : (([0] : List UInt8) == a.toList) = false := by
      rw [ByteArray.toList_eq, beq_eq_false_iff_ne]
      exact fun h => h0 h.symm
    clear h0
    go_enter Tryz.func150, Tryz.ntmps150
    go_wp2_with fail
    rw [show ((((⟨#[0]⟩ : ByteArray)[0]).toNat : Nat) : Int) = 0 from rfl]
    (with_reducible refine HI.out.mono ?_)
    rintro e w1 ⟨rfl, rfl⟩
    go_wp2_with fail
    go_ret
    exact ⟨rfl, rfl⟩
theorem contains0_any (a : ByteArray) (w : World) :
    Calls Tryz.prog 59 #[.string a, .string ⟨#[0]⟩] w fun e w' => e = .returned (.bool (decide ((0 : UInt8) ∈ bl a))) ∧ w = w' := by
  have HI := Lib.hid (slIndex0_any a)
  have hix : ∀ W, Calls Tryz.prog 105 #[.string a, .string ⟨#[0]⟩] W fun e w' => e = .returned (.int .i64 (Lib.indexByte (bl a) 0)) ∧ W = w' := by
    intro W
    go_enter Tryz.func105, Tryz.ntmps105
    go_wp2_with fail
    (with_reducible refine (HI.out _).mono ?_)
    rintro e w1 ⟨rfl, rfl⟩
    go_wp2_with fail
    go_ret
    exact ⟨rfl, rfl⟩
  have HX := Lib.hid hix
  have hm := indexByte_mem (bl a) 0
  have hd : decide (0 ≤ Lib.indexByte (bl a) 0) = decide ((0 : UInt8) ∈ bl a) := by congr 1; exact propext hm
  have HD := Lib.hid hd
  clear hix hm hd
  generalize Lib.indexByte (bl a) 0 = x at *
  go_enter Tryz.func59, Tryz.ntmps59
  go_wp2_with fail
  (with_reducible refine (HX.out _).mono ?_)
  rintro e w1 ⟨rfl, rfl⟩
  go_wp2_with fail
  go_ret
  exact ⟨by rw [← HD.out]; rfl, rfl⟩
/-- An inner key, where a key and a number may be. -/
def OkK (k : List UInt8) (n : Int) : Prop := 1 ≤ k.length ∧ k.length ≤ 64 ∧ (0 : UInt8) ∉ k ∧ 0 ≤ n ∧ n ≤ 4611686018427387904
instance (k : List UInt8) (n : Int) : Decidable (OkK k n) := by unfold OkK; infer_instance
def inn (k : List UInt8) (n : Int) : List UInt8 := k ++ [0] ++ fixed 8 (4611686018427387904 - n).toNat
set_option maxRecDepth 100000 in
theorem pack_any (k : ByteArray) (n : Int) (w : World) :
    Calls Tryz.prog 11 #[.string k, .int .i64 n] w fun e w' => Below w.heap.size w w' ∧
      ((OkK (bl k) n ∧ e = .returned (.tuple #[.string (str (inn (bl k) n)), .bool true])) ∨ (¬ OkK (bl k) n ∧ e = .returned (.tuple #[.string ⟨#[]⟩, .bool false]))) := by
  have HC := Lib.hid (contains0_any k)
  have HR := Lib.hid (Below.refl w.heap.size w)
  by_cases hok : OkK (bl k) n
  · have HOK := Lib.hid hok
    obtain ⟨h1, h2, h3, h4, h5⟩ := hok
    rw [bl_size] at h1 h2
    obtain ⟨g1, g2⟩ := ne_facts h1
    have d1 : decide ((64 : Int) < (k.size : Int)) = false := by rw [decide_eq_false_iff_not]; omega
    have d2 : decide ((0 : UInt8) ∈ bl k) = false := by rw [decide_eq_false_iff_not]; exact h3
    have d3 : decide (n < 0) = false := by rw [decide_eq_false_iff_not]; omega
    have d4 : decide (4611686018427387904 < n) = false := by rw [decide_eq_false_iff_not]; omega
    have w4 : IntKind.i64.wrap (4611686018427387904 - n) = 4611686018427387904 - n := IntWalk.i64_in _ (by omega)
    have w5 : IntKind.u64.wrap (4611686018427387904 - n) = 4611686018427387904 - n := by rw [IntKind.wrap_u64]; omega
    rw [d2] at HC
    clear h3 d2
    have O0 := Own.new (Below.refl w.heap.size w)
    have H0 := Lib.hid O0
    clear O0
    go_enter Tryz.func11, Tryz.ntmps11
    go_wp2_with fail
    (with_reducible refine (HC.out _).mono ?_)
    rintro e w1 ⟨rfl, rfl⟩
    go_upto_region 4 with (fail)
    generalize w.alloc (.cells #[.slice none 0 0] 96) = w2 at *
    generalize w.heap.size = p at H0 ⊢
    have R1 := Lib.hid (raw_any p 0 #[undef] 96 none [] k w2 H0.out.wr (by simp; omega))
    go_wp2_with fail
    (with_reducible refine R1.out.mono ?_)
    rintro e w3 ⟨rfl, hb3⟩
    obtain ⟨g3, O3⟩ := H0.out.step hb3
    have H3 := Lib.hid O3
    have R2 := Lib.hid (raw_any p 0 #[undef] 96 g3 _ ⟨#[0]⟩ w3 O3.wr (by rw [show (⟨#[0]⟩ : ByteArray).size = 1 from rfl]; simp; omega))
    clear hb3 O3
    go_wp2_with fail
    (with_reducible refine R2.out.mono ?_)
    rintro e w4 ⟨rfl, hb4⟩
    obtain ⟨g4, O4⟩ := H3.out.step hb4
    have H4 := Lib.hid O4
    have R3 := Lib.hid (fixed8_any p 0 #[undef] 96 g4 _ (4611686018427387904 - n).toNat w4 O4.wr (by simp; omega))
    rw [show (((4611686018427387904 - n).toNat : Nat) : Int) = 4611686018427387904 - n by omega] at R3
    clear hb4 O4
    go_wp2_with fail
    (with_reducible refine R3.out.mono ?_)
    rintro e w5 ⟨rfl, hb5⟩
    obtain ⟨g5, O5⟩ := H4.out.step hb5
    have H5 := Lib.hid O5
    have R4 := Lib.hid (bytes_any p 0 #[undef] 96 g5 _ w5 O5.wr)
    clear hb5 O5
    go_wp2_with fail
    (with_reducible refine R4.out.mono ?_)
    rintro e w6 ⟨rfl, rfl⟩
    go_wp2_with fail
    refine bodyPost_ret (v := .tuple #[.string (str (inn (bl k) n)), .bool true]) ?_ rfl ⟨H5.out.below, .inl ⟨HOK.out, rfl⟩⟩
    simp [results, Tryz.results11, go_sem]
    simp [inn, str, bl]
  · have HOK := Lib.hid hok
    rcases Nat.eq_zero_or_pos k.size with h0 | h0
    · obtain ⟨g1, g2, g3⟩ := em_facts h0
      clear hok
      go_enter Tryz.func11, Tryz.ntmps11
      go_wp2_with fail
      exact bodyPost_ret (v := .tuple #[.string ⟨#[]⟩, .bool false]) (by simp [results, Tryz.results11, go_sem]) rfl ⟨HR.out, .inr ⟨HOK.out, rfl⟩⟩
    · obtain ⟨g1, g2⟩ := ne_facts h0
      by_cases h2 : 64 < k.size
      · have d1 : decide ((64 : Int) < (k.size : Int)) = true := by rw [decide_eq_true_eq]; omega
        clear hok
        go_enter Tryz.func11, Tryz.ntmps11
        go_wp2_with fail
        exact bodyPost_ret (v := .tuple #[.string ⟨#[]⟩, .bool false]) (by simp [results, Tryz.results11, go_sem]) rfl ⟨HR.out, .inr ⟨HOK.out, rfl⟩⟩
      · have d1 : decide ((64 : Int) < (k.size : Int)) = false := by rw [decide_eq_false_iff_not]; omega
        by_cases h3 : (0 : UInt8) ∈ bl k
        · rw [decide_eq_true h3] at HC
          clear hok h3
          go_enter Tryz.func11, Tryz.ntmps11
          go_wp2_with fail
          (with_reducible refine (HC.out _).mono ?_)
          rintro e w1 ⟨rfl, rfl⟩
          go_wp2_with fail
          exact bodyPost_ret (v := .tuple #[.string ⟨#[]⟩, .bool false]) (by simp [results, Tryz.results11, go_sem]) rfl ⟨HR.out, .inr ⟨HOK.out, rfl⟩⟩
        · rw [decide_eq_false h3] at HC
          have hbs := bl_size k
          unfold OkK at hok
          by_cases h4 : n < 0
          · have d3 : decide (n < 0) = true := by rw [decide_eq_true_eq]; exact h4
            clear hok h3 h4 hbs
            go_enter Tryz.func11, Tryz.ntmps11
            go_wp2_with fail
            (with_reducible refine (HC.out _).mono ?_)
            rintro e w1 ⟨rfl, rfl⟩
            go_wp2_with fail
            exact bodyPost_ret (v := .tuple #[.string ⟨#[]⟩, .bool false]) (by simp [results, Tryz.results11, go_sem]) rfl ⟨HR.out, .inr ⟨HOK.out, rfl⟩⟩
          · have d3 : decide (n < 0) = false := by rw [decide_eq_false_iff_not]; exact h4
            have h5 : 4611686018427387904 < n := by
              rcases Classical.em (4611686018427387904 < n) with h | h
              · exact h
              · exact absurd ⟨by omega, by omega, h3, by omega, by omega⟩ hok
            have d4 : decide (4611686018427387904 < n) = true := by rw [decide_eq_true_eq]; exact h5
            clear hok h3 h4 h5 hbs
            go_enter Tryz.func11, Tryz.ntmps11
            go_wp2_with fail
            (with_reducible refine (HC.out _).mono ?_)
            rintro e w1 ⟨rfl, rfl⟩
            go_wp2_with fail
            exact bodyPost_ret (v := .tuple #[.string ⟨#[]⟩, .bool false]) (by simp [results, Tryz.results11, go_sem]) rfl ⟨HR.out, .inr ⟨HOK.out, rfl⟩⟩
theorem inn_len (k : List UInt8) (n : Int) : (inn k n).length = k.length + 9 := by
  unfold inn
  rw [List.length_append, List.length_append, fixed_length]
  rfl
theorem inn_parts {k : List UInt8} {n : Int} (h : OkK k n) : (inn k n).take ((inn k n).length - 9) = k ∧ value ((inn k n).drop ((inn k n).length - 8)) = (4611686018427387904 - n).toNat := by
  obtain ⟨-, -, -, h4, h5⟩ := h
  have hl := inn_len k n
  rw [hl]
  constructor
  · unfold inn
    rw [show k.length + 9 - 9 = k.length by omega, List.append_assoc, List.take_left' rfl]
  · unfold inn
    rw [show k.length + 9 - 8 = (k ++ [0]).length by rw [List.length_append]; simp, List.drop_left' rfl, value_fixed]
    omega
theorem inner_any (k : ByteArray) (n : Int) (w : World) (hk : k.size ≤ 1000000) (h0 : 0 ≤ n) (h1 : n ≤ 4611686018427387904) :
    Calls Tryz.prog 13 #[.string k, .int .i64 n] w fun e w' => e = .returned (.string (str (inn (bl k) n))) ∧ Below w.heap.size w w' := by
  have hf := refFixed_any (4611686018427387904 - n).toNat 8 w (by omega) (by omega)
  rw [show (((4611686018427387904 - n).toNat : Nat) : Int) = 4611686018427387904 - n by omega, show ((8 : Nat) : Int) = 8 from rfl] at hf
  have HF := Lib.hid hf
  clear hf
  have w4 : IntKind.i64.wrap (4611686018427387904 - n) = 4611686018427387904 - n := IntWalk.i64_in _ (by omega)
  have w5 : IntKind.u64.wrap (4611686018427387904 - n) = 4611686018427387904 - n := by rw [IntKind.wrap_u64]; omega
  have z1 : (⟨#[0]⟩ : ByteArray).size = 1 := rfl
  go_enter Tryz.func13, Tryz.ntmps13
  go_wp2_with fail
  (with_reducible refine HF.out.mono ?_)
  rintro e w1 ⟨rfl, hb⟩
  have z2 : (str (fixed 8 (4611686018427387904 - n).toNat)).size = 8 := by rw [str_size, fixed_length]
  have HB := Lib.hid hb
  clear hb
  go_wp2_with fail
  go_ret
  have he : k ++ ⟨#[0]⟩ ++ str (fixed 8 (4611686018427387904 - n).toNat) = str (inn (bl k) n) := by
    rw [← str_bl (k ++ ⟨#[0]⟩ ++ str _)]
    congr 1
  exact ⟨congrArg (fun x => Ending.returned (Value.string x)) he, HB.out⟩
/-- What Unpack answers. -/
def UnpackP (s : ByteArray) (w : World) (e : Ending) (w' : World) : Prop :=
  Below w.heap.size w w' ∧ ((∃ (k : List UInt8) (n : Int), OkK k n ∧ bl s = inn k n ∧ e = .returned (.tuple #[.string (str k), .int .i64 n, .bool true])) ∨
    ((∀ (k : List UInt8) (n : Int), OkK k n → bl s ≠ inn k n) ∧ e = .returned (.tuple #[.string ⟨#[]⟩, .int .i64 0, .bool false])))
set_option maxRecDepth 100000 in
theorem unpack_any (s : ByteArray) (w : World) (hs : s.size ≤ maxLen) :
    Calls Tryz.prog 14 #[.string s] w (UnpackP s w) := by
  unfold maxLen at hs
  have hbs := bl_size s
  have hpt : ∀ (k : List UInt8) (n : Int), OkK k n → bl s = inn k n → 9 < s.size ∧ (bl s).take (s.size - 9) = k ∧ value ((bl s).drop (s.size - 8)) = (4611686018427387904 - n).toNat := fun k n h e => by
    have h1 := inn_parts h
    have h2 := inn_len k n
    have h3 := h.1
    rw [← e, hbs] at h1 h2
    exact ⟨by omega, h1.1, h1.2⟩
  have HPT := Lib.hid hpt
  have HR := Lib.hid (Below.refl w.heap.size w)
  clear hpt
  by_cases h9 : s.size ≤ 9
  · have d1 : decide ((s.size : Int) ≤ 9) = true := by rw [decide_eq_true_eq]; omega
    have H9 := Lib.hid h9
    clear h9 hbs
    go_enter Tryz.func14, Tryz.ntmps14
    go_wp2_with fail
    exact bodyPost_ret (v := .tuple #[.string ⟨#[]⟩, .int .i64 0, .bool false]) (by simp [results, Tryz.results14, go_sem]) rfl ⟨HR.out, .inr ⟨fun k n h e => by have := (HPT.out k n h e).1; have := H9.out; omega, rfl⟩⟩
  · have d1 : decide ((s.size : Int) ≤ 9) = false := by rw [decide_eq_false_iff_not]; omega
    have hex : bl (s.extract (s.size - 8) s.size) = (bl s).drop (s.size - 8) := by
      rw [ext_bl, List.take_of_length_le (by rw [List.length_drop, hbs]; omega)]
    have hke : s.extract 0 (s.size - 9) = str ((bl s).take (s.size - 9)) := by
      rw [← str_bl (s.extract 0 _), ext_bl, List.drop_zero, Nat.sub_zero]
    have hl8 : ((bl s).drop (s.size - 8)).length = 8 := by rw [List.length_drop, hbs]; omega
    have HRD := Lib.hid (read_any (s.extract (s.size - 8) s.size) w (by rw [ByteArray.size_extract]; unfold maxLen; omega))
    obtain ⟨m, hm⟩ : ∃ m, m = value ((bl s).drop (s.size - 8)) := ⟨_, rfl⟩
    have hml : m < 18446744073709551616 := by
      have h1 := value_lt ((bl s).drop (s.size - 8))
      rw [hl8] at h1
      omega
    have hro : value (rawOut (s.extract (s.size - 8) s.size) false 8).1.data.toList = m := by
      rw [(rawOut_st _ _ _).1]
      show value (bl (str _)) = m
      rw [bl_str, hm]
      unfold st rawS
      simp only [Bool.false_eq_true, if_false]
      rw [hex, if_neg (by rw [hl8]; omega)]
      simp only []
      rw [List.take_of_length_le (by rw [hl8]; omega)]
    have HRO := Lib.hid hro
    have HM := Lib.hid hm
    have HKE := Lib.hid hke
    have s1 : IntKind.i64.wrap ((s.size : Int) - 9) = (s.size : Int) - 9 := IntWalk.i64_in _ (by omega)
    have s2 : IntKind.i64.wrap ((s.size : Int) - 9 + 1) = (s.size : Int) - 9 + 1 := IntWalk.i64_in _ (by omega)
    have s3 : ((s.size : Int) - 9).toNat = s.size - 9 := by omega
    have s4 : ((s.size : Int) - 9 + 1).toNat = s.size - 8 := by omega
    have s5 : (0 : Int) ≤ (s.size : Int) - 9 := by omega
    have s6 : (0 : Int) ≤ (s.size : Int) - 9 + 1 := by omega
    have s7 : (s.size : Int) - 9 ≤ (s.size : Int) := by omega
    have s8 : (s.size : Int) - 9 + 1 ≤ (s.size : Int) := by omega
    clear hro hm hke hex hl8 hbs
    go_enter Tryz.func14, Tryz.ntmps14
    go_wp2_with fail
    (with_reducible refine HRD.out.mono ?_)
    rintro e w1 ⟨rfl, hr1, hb1⟩
    have HF := Lib.hid (rdFixed8_any _ _ _ w1 hr1)
    rw [HRO.out] at HF
    have HB1 := Lib.hid hb1
    clear hr1 hb1
    go_wp2_with fail
    (with_reducible refine HF.out.mono ?_)
    rintro e w2 ⟨rfl, -, hf2⟩
    have HB2 : Hid (Below w.heap.size w w2) := Lib.hid (HB1.out.trans (hf2.below HB1.out.size (fun k _ hk => by unfold RdS at hk; omega)))
    clear hf2
    by_cases hbig : 4611686018427387904 < m
    · have d2 : decide ((4611686018427387904 : Int) < (m : Int)) = true := by rw [decide_eq_true_eq]; omega
      have HBG := Lib.hid hbig
      clear hbig
      go_wp2_with fail
      exact bodyPost_ret (v := .tuple #[.string ⟨#[]⟩, .int .i64 0, .bool false]) (by simp [results, Tryz.results14, go_sem]) rfl ⟨HB2.out, .inr ⟨fun k n h e => by
        have h1 := (HPT.out k n h e).2.2
        rw [← HM.out] at h1
        have h2 := HBG.out
        have h3 := h.2.2.2.1
        omega, rfl⟩⟩
    · have d2 : decide ((4611686018427387904 : Int) < (m : Int)) = false := by rw [decide_eq_false_iff_not]; omega
      have w3 : IntKind.i64.wrap (m : Int) = (m : Int) := IntWalk.i64_in _ (by omega)
      have w4 : IntKind.i64.wrap (4611686018427387904 - (m : Int)) = 4611686018427387904 - (m : Int) := IntWalk.i64_in _ (by omega)
      have HPK := Lib.hid (pack_any (str ((bl s).take (s.size - 9))) (4611686018427387904 - (m : Int)) w2)
      rw [bl_str] at HPK
      have hmn : ∀ (k : List UInt8) (n : Int), OkK k n → bl s = inn k n → k = (bl s).take (s.size - 9) ∧ n = 4611686018427387904 - (m : Int) := fun k n h e => by
        obtain ⟨-, h1, h2⟩ := HPT.out k n h e
        rw [← HM.out] at h2
        have h3 := h.2.2.2.1
        have h4 := h.2.2.2.2
        exact ⟨h1.symm, by omega⟩
      have HMN := Lib.hid hmn
      clear hmn
      go_wp2_with fail
      rw [HKE.out]
      (with_reducible refine HPK.out.mono ?_)
      rintro e w5 ⟨hb5, ⟨hok, rfl⟩ | ⟨hok, rfl⟩⟩
      · have HB5 := Lib.hid (HB2.out.trans (hb5.mono HB2.out.size))
        have HOK := Lib.hid hok
        clear hb5 hok
        by_cases he : bl s = inn ((bl s).take (s.size - 9)) (4611686018427387904 - (m : Int))
        · have e1 : ((str (inn ((bl s).take (s.size - 9)) (4611686018427387904 - (m : Int)))).toList == s.toList) = true := by rw [← he, str_bl]; simp
          have HE := Lib.hid he
          clear he
          go_wp2_with fail
          exact bodyPost_ret (v := .tuple #[.string (str ((bl s).take (s.size - 9))), .int .i64 (4611686018427387904 - (m : Int)), .bool true]) (by simp [results, Tryz.results14, go_sem]) rfl ⟨HB5.out, .inl ⟨_, _, HOK.out, HE.out, rfl⟩⟩
        · have e1 : ((str (inn ((bl s).take (s.size - 9)) (4611686018427387904 - (m : Int)))).toList == s.toList) = false := by
            rw [beq_eq_false_iff_ne]
            intro e
            rw [ByteArray.toList_eq, ByteArray.toList_eq] at e
            exact he e.symm
          have HE := Lib.hid he
          clear he
          go_wp2_with fail
          exact bodyPost_ret (v := .tuple #[.string ⟨#[]⟩, .int .i64 0, .bool false]) (by simp [results, Tryz.results14, go_sem]) rfl ⟨HB5.out, .inr ⟨fun k n h e => by
            obtain ⟨h1, h2⟩ := HMN.out k n h e
            rw [h1, h2] at e
            exact HE.out e, rfl⟩⟩
      · have HB5 := Lib.hid (HB2.out.trans (hb5.mono HB2.out.size))
        have HOK := Lib.hid hok
        clear hb5 hok
        go_wp2_with fail
        exact bodyPost_ret (v := .tuple #[.string ⟨#[]⟩, .int .i64 0, .bool false]) (by simp [results, Tryz.results14, go_sem]) rfl ⟨HB5.out, .inr ⟨fun k n h e => by
          obtain ⟨h1, h2⟩ := HMN.out k n h e
          rw [h1, h2] at h
          exact HOK.out h, rfl⟩⟩
end Go.Proofs.YtdbfaknpfepnfaaGreatDoor
