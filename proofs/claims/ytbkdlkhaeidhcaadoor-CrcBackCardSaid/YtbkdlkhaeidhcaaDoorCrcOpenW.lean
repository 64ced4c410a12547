/-
  The walk of crc.Open.
-/
import Derived.Test.YtbkdlkhaeidhcaaDoorCrcFrameW
namespace Go.Proofs.YtbkdlkhaeidhcaaDoor
open Go.RowKit Go.Deep CrcP CodecP FrameP

/-- What is opened, as the program answers it. -/
def opnV (r : List UInt8 × Nat × Nat) : Value := .tuple #[.string (str r.1), .int .i64 (r.2.1 : Int), .int .i64 (r.2.2 : Int)]
theorem ext_bl (s : ByteArray) (a b : Nat) : bl (s.extract a b) = ((bl s).drop a).take (b - a) := by
  unfold bl
  rw [ByteArray.data_extract, Array.toList_extract]
theorem raw_none (s : ByteArray) (n : Int) (h : n < 0 ∨ (s.size : Int) < n) : rawOut s false n = (ByteArray.empty, s, true) := by
  unfold rawOut; rw [if_pos (.inr h)]
theorem raw_bad (s : ByteArray) (n : Int) : rawOut s true n = (ByteArray.empty, s, true) := by
  unfold rawOut; rw [if_pos (.inl rfl)]
theorem raw_some (s : ByteArray) (n : Nat) (h : n ≤ s.size) : rawOut s false n = (s.extract 0 n, s.extract n s.size, false) := by
  unfold rawOut; rw [if_neg (by simp; omega)]; simp
theorem ne_str (a b : ByteArray) : (a.toList == b.toList) = decide (bl a = bl b) := by
  rw [ByteArray.toList_eq, ByteArray.toList_eq, Bool.eq_iff_iff]; simp [bl]

theorem open_short8 (s : ByteArray) (w : World) (h : s.size < 8) :
    Calls Tryd.prog 33 #[.string s] w fun e w' => e = .returned (opnV ([], 0, 1)) ∧ Below w.heap.size w w' := by
  go_enter Tryd.func33, Tryd.ntmps33
  go_wp2_with fail
  refine (read_any s _ (small _ (by omega))).mono ?_
  rintro e w1 ⟨rfl, h1, hb1⟩
  go_wp2_with fail
  refine (rdFixed4_any w.heap.size s false _ h1).mono ?_
  rintro e w2 ⟨rfl, h2, hf2⟩
  go_wp2_with fail
  refine (rdRaw_any w.heap.size _ _ 4 _ h2).mono ?_
  rintro e w3 ⟨rfl, h3, hf3⟩
  have hbad : (rawOut (rawOut s false 4).2.1 (rawOut s false 4).2.2 4).2.2 = true := by
    by_cases h4 : 4 ≤ s.size
    · rw [show (4 : Int) = ((4 : Nat) : Int) from rfl, raw_some s 4 h4]
      simp only
      rw [raw_none _ _ (.inr (by rw [ByteArray.size_extract]; omega))]
    · rw [show (4 : Int) = ((4 : Nat) : Int) from rfl, raw_none s _ (.inr (by omega))]
      simp only
      rw [raw_bad]
  rw [hbad] at h3
  have hbel : Below w.heap.size w w3 := (hb1.trans (hf2.below (Nat.le_of_lt (lt_of_block h1.1)) (fun k _ hk => by unfold RdS at hk; omega))).trans (hf3.below (Nat.le_of_lt (lt_of_block h2.1)) (fun k _ hk => by unfold RdS at hk; omega))
  generalize rawOut (rawOut s false 4).2.1 (rawOut s false 4).2.2 4 = r2 at *
  generalize rawOut s false 4 = r1 at *
  clear hbad h2 hf2 hf3 h1 hb1
  go_wp2_with fail
  refine (good_any w.heap.size _ _ _ h3).mono ?_
  rintro e w4 ⟨rfl, rfl⟩
  go_wp2
  go_ret3
  exact ⟨rfl, hbel⟩
theorem if_cong {α : Type} {p q : Prop} [Decidable p] [Decidable q] {a b c d : α} (h : p ↔ q) (h1 : a = c) (h2 : b = d) : (if p then a else b) = if q then c else d := by
  subst h1 h2
  by_cases hp : p
  · rw [if_pos hp, if_pos (h.1 hp)]
  · rw [if_neg hp, if_neg (fun hq => hp (h.2 hq))]
theorem bl_len (s : ByteArray) : (bl s).length = s.size := rfl
set_option maxHeartbeats 1000000 in
theorem open_long (s : ByteArray) (w : World) (h : 8 ≤ s.size) (hs : s.size ≤ 1099511627776) (hn : Nibs w) :
    Calls Tryd.prog 33 #[.string s] w fun e w' => e = .returned (opnV (opn (bl s))) ∧ Below w.heap.size w w' := by
  have HN := Lib.hid hn
  clear hn
  obtain ⟨h4, eh4⟩ : ∃ x, x = s.extract 0 4 := ⟨_, rfl⟩
  obtain ⟨t4, et4⟩ : ∃ x, x = s.extract 4 s.size := ⟨_, rfl⟩
  obtain ⟨c4, ec4⟩ : ∃ x, x = t4.extract 0 4 := ⟨_, rfl⟩
  obtain ⟨s8, es8⟩ : ∃ x, x = t4.extract 4 t4.size := ⟨_, rfl⟩
  have hh4 : h4.size = 4 := by rw [eh4, ByteArray.size_extract]; omega
  have ht4 : t4.size = s.size - 4 := by rw [et4, ByteArray.size_extract]; omega
  have hs8 : s8.size = s.size - 8 := by rw [es8, ByteArray.size_extract]; omega
  have bh4 : bl h4 = (bl s).take 4 := by rw [eh4, ext_bl]; simp
  have bt4 : bl t4 = (bl s).drop 4 := by rw [et4, ext_bl, List.take_of_length_le]; simp [bl_len]
  have bc4 : bl c4 = ((bl s).drop 4).take 4 := by rw [ec4, ext_bl, bt4]; simp
  have bs8 : bl s8 = (bl s).drop 8 := by rw [es8, ext_bl, List.take_of_length_le (by simp [bl_len]), bt4, List.drop_drop]
  have hv : value (bl h4) < 4294967296 := value_lt4 _ (by rw [bl_len]; omega)
  have e1 : rawOut s false 4 = (h4, t4, false) := by rw [show (4 : Int) = ((4 : Nat) : Int) from rfl, raw_some s 4 (by omega), eh4, et4]
  have e2 : rawOut t4 false 4 = (c4, s8, false) := by rw [show (4 : Int) = ((4 : Nat) : Int) from rfl, raw_some t4 4 (by omega), ec4, es8]
  have R1 := fun W => rdFixed4_any w.heap.size s false W
  have R2 := fun W => rdRaw_any w.heap.size t4 false 4 W
  rw [e1] at R1
  rw [e2] at R2
  simp only at R1 R2
  have HR1 := Lib.hid R1
  have HR2 := Lib.hid R2
  have hval : value h4.data.toList = value (bl h4) := rfl
  have HV := Lib.hid hval
  have hL : opn (bl s) = if laid (bl h4) ≠ bl c4 ∨ 131072 < value (bl h4) then ([], 0, 2)
      else if s8.size < value (bl h4) + 4 then ([], 0, 1)
      else if laid ((bl s8).take (value (bl h4))) ≠ ((bl s8).drop (value (bl h4))).take 4 then ([], 0, 2)
      else ((bl s8).take (value (bl h4)), 12 + value (bl h4), 0) := by
    unfold opn
    rw [bl_len, if_neg (by omega), bh4, bc4, bs8, List.drop_drop, hs8]
    exact if_cong Iff.rfl rfl (if_cong (by omega) rfl rfl)
  have HL := Lib.hid hL
  have HP := Lib.hid bh4
  clear hL e1 e2 R1 R2 bt4 bc4 bs8 bh4 et4 ec4 es8 hval
  have HE4 := Lib.hid eh4.symm
  clear eh4
  have hsl : s.extract 0 4 = h4 := HE4.out
  go_enter Tryd.func33, Tryd.ntmps33
  go_wp2_with fail
  refine (read_any s _ (small _ (by omega))).mono ?_
  rintro e w1 ⟨rfl, h1, hb1⟩
  go_wp2_with fail
  refine (HR1.out _ h1).mono ?_
  rintro e w2 ⟨rfl, h2, hf2⟩
  rw [HV.out]
  go_wp2_with fail
  refine (HR2.out _ h2).mono ?_
  rintro e w3 ⟨rfl, h3, hf3⟩
  have hbel : Below w.heap.size w w3 := (hb1.trans (hf2.below (Nat.le_of_lt (lt_of_block h1.1)) (fun k _ hk => by unfold RdS at hk; omega))).trans (hf3.below (Nat.le_of_lt (lt_of_block h2.1)) (fun k _ hk => by unfold RdS at hk; omega))
  clear h1 h2 hf2 hf3 hb1
  go_wp2_with fail
  refine (good_any w.heap.size _ _ _ h3).mono ?_
  rintro e w4 ⟨rfl, rfl⟩
  go_wp2_with fail
  refine (laid_any h4 _ (small _ (by omega)) (HN.out.below hbel)).mono ?_
  rintro e w4 ⟨rfl, hb4⟩
  have h4' := h3.keep (Fr.of_below (fun _ => False) hb4) (fun h => h)
  have hbel4 := hbel.trans (hb4.mono hbel.size)
  clear h3 hbel hb4
  have hcmp := ne_str (str (laid (bl h4))) c4
  rw [bl_str] at hcmp
  generalize hLn : str (laid (bl h4)) = L4 at *
  clear hLn
  by_cases hA : laid (bl h4) = bl c4
  · have hcmp' : (L4.toList == c4.toList) = true := by rw [hcmp]; simp [hA]
    clear hcmp
    by_cases hB : 131072 < value (bl h4)
    · have hfin : opnV (opn (bl s)) = opnV ([], 0, 2) := by rw [HL.out, if_pos (.inr hB)]
      have HF := Lib.hid hfin
      clear hfin
      generalize value (bl h4) = n at *
      go_wp2
      go_ret3
      exact ⟨by rw [HF.out]; rfl, hbel4⟩
    · have hL2 := HL.out
      rw [if_neg (by rintro (h | h); exact h hA; exact hB h)] at hL2
      have HL2 := Lib.hid hL2
      have HA := Lib.hid hA
      clear hL2 HL hA
      generalize value (bl h4) = n at *
      by_cases hC : s8.size < n
      · have hfin : opnV (opn (bl s)) = opnV ([], 0, 1) := by rw [HL2.out, if_pos (by omega)]
        have HF := Lib.hid hfin
        clear hfin HL2
        have R3 := rdRaw_any w.heap.size s8 false n w4 h4'
        rw [raw_none s8 _ (.inr (by omega))] at R3
        simp only at R3
        have HR3 := Lib.hid R3
        clear R3
        go_wp2_with fail
        refine HR3.out.mono ?_
        rintro e w5 ⟨rfl, h5, hf5⟩
        have R4 := rdRaw_any w.heap.size s8 true 4 w5 h5
        rw [raw_bad] at R4
        simp only at R4
        have HR4 := Lib.hid R4
        clear R4
        go_wp2_with fail
        refine HR4.out.mono ?_
        rintro e w6 ⟨rfl, h6, hf6⟩
        have hbel6 : Below w.heap.size w w6 := (hbel4.trans (hf5.below (Nat.le_of_lt (lt_of_block h4'.1)) (fun k _ hk => by unfold RdS at hk; omega))).trans (hf6.below (Nat.le_of_lt (lt_of_block h5.1)) (fun k _ hk => by unfold RdS at hk; omega))
        clear h4' h5 hf5 hf6 hbel4
        go_wp2_with fail
        refine (good_any w.heap.size _ _ _ h6).mono ?_
        rintro e w7 ⟨rfl, rfl⟩
        go_wp2
        go_ret3
        exact ⟨by rw [HF.out]; rfl, hbel6⟩
      · obtain ⟨d8, ed8⟩ : ∃ x, x = s8.extract 0 n := ⟨_, rfl⟩
        obtain ⟨s12, es12⟩ : ∃ x, x = s8.extract n s8.size := ⟨_, rfl⟩
        have bd8 : bl d8 = (bl s8).take n := by rw [ed8, ext_bl]; simp
        have bs12 : bl s12 = (bl s8).drop n := by rw [es12, ext_bl, List.take_of_length_le]; simp [bl_len]
        have hs12 : s12.size = s8.size - n := by rw [es12, ByteArray.size_extract]; omega
        have hd8 : d8.size = n := by rw [ed8, ByteArray.size_extract]; omega
        have R3 := rdRaw_any w.heap.size s8 false n w4 h4'
        rw [raw_some s8 n (by omega), ← ed8, ← es12] at R3
        simp only at R3
        have HR3 := Lib.hid R3
        have HD8 := Lib.hid bd8
        clear R3 ed8 es12 bd8
        go_wp2_with fail
        refine HR3.out.mono ?_
        rintro e w5 ⟨rfl, h5, hf5⟩
        have hbel5 : Below w.heap.size w w5 := hbel4.trans (hf5.below (Nat.le_of_lt (lt_of_block h4'.1)) (fun k _ hk => by unfold RdS at hk; omega))
        clear h4' hf5 hbel4
        by_cases hD : s12.size < 4
        · have hfin : opnV (opn (bl s)) = opnV ([], 0, 1) := by rw [HL2.out, if_pos (by omega)]
          have HF := Lib.hid hfin
          clear hfin HL2
          have R4 := rdRaw_any w.heap.size s12 false 4 w5 h5
          rw [raw_none s12 _ (.inr (by omega))] at R4
          simp only at R4
          have HR4 := Lib.hid R4
          clear R4
          go_wp2_with fail
          refine HR4.out.mono ?_
          rintro e w6 ⟨rfl, h6, hf6⟩
          have hbel6 : Below w.heap.size w w6 := hbel5.trans (hf6.below (Nat.le_of_lt (lt_of_block h5.1)) (fun k _ hk => by unfold RdS at hk; omega))
          clear h5 hf6 hbel5
          go_wp2_with fail
          refine (good_any w.heap.size _ _ _ h6).mono ?_
          rintro e w7 ⟨rfl, rfl⟩
          go_wp2
          go_ret3
          exact ⟨by rw [HF.out]; rfl, hbel6⟩
        · obtain ⟨l4, el4⟩ : ∃ x, x = s12.extract 0 4 := ⟨_, rfl⟩
          have bl4 : bl l4 = ((bl s8).drop n).take 4 := by rw [el4, ext_bl, bs12]; simp
          have R4 := rdRaw_any w.heap.size s12 false 4 w5 h5
          rw [show (4 : Int) = ((4 : Nat) : Int) from rfl, raw_some s12 4 (by omega), ← el4] at R4
          simp only at R4
          rw [show ((4 : Nat) : Int) = (4 : Int) from rfl] at R4
          have HR4 := Lib.hid R4
          have hL3 := HL2.out
          rw [if_neg (by omega), ← HD8.out, ← bl4] at hL3
          have HL3 := Lib.hid hL3
          clear R4 el4 bl4 hL3 HL2 bs12
          go_wp2_with fail
          refine HR4.out.mono ?_
          rintro e w6 ⟨rfl, h6, hf6⟩
          have hbel6 : Below w.heap.size w w6 := hbel5.trans (hf6.below (Nat.le_of_lt (lt_of_block h5.1)) (fun k _ hk => by unfold RdS at hk; omega))
          clear h5 hf6 hbel5
          go_wp2_with fail
          refine (good_any w.heap.size _ _ _ h6).mono ?_
          rintro e w7 ⟨rfl, rfl⟩
          go_wp2_with fail
          refine (laid_any d8 _ (small _ (by omega)) (HN.out.below hbel6)).mono ?_
          rintro e w8 ⟨rfl, hb8⟩
          have hbel8 := hbel6.trans (hb8.mono hbel6.size)
          clear h6 hbel6 hb8
          have hcmp2 := ne_str (str (laid (bl d8))) l4
          rw [bl_str] at hcmp2
          generalize hLn2 : str (laid (bl d8)) = L8 at *
          clear hLn2
          by_cases hE : laid (bl d8) = bl l4
          · have hcmp3 : (L8.toList == l4.toList) = true := by rw [hcmp2]; simp [hE]
            have hfin : opnV (opn (bl s)) = opnV (bl d8, 12 + n, 0) := by rw [HL3.out, if_neg (by simpa using hE)]
            have HF := Lib.hid hfin
            clear hfin hcmp2 hE HL3
            go_wp2
            go_ret3
            refine ⟨?_, hbel8⟩
            rw [HF.out]
            unfold opnV
            rw [str_bl]
            have : (8 : Int) + (n : Int) + 4 = ((12 + n : Nat) : Int) := by omega
            simp only [← this]
            rfl
          · have hcmp3 : (L8.toList == l4.toList) = false := by rw [hcmp2]; simp [hE]
            have hfin : opnV (opn (bl s)) = opnV ([], 0, 2) := by rw [HL3.out, if_pos hE]
            have HF := Lib.hid hfin
            clear hfin hcmp2 hE HL3
            go_wp2
            go_ret3
            exact ⟨by rw [HF.out]; rfl, hbel8⟩
  · have hfin : opnV (opn (bl s)) = opnV ([], 0, 2) := by rw [HL.out, if_pos (.inl hA)]
    have hcmp' : (L4.toList == c4.toList) = false := by rw [hcmp]; simp [hA]
    have HF := Lib.hid hfin
    clear hfin hcmp hA
    go_wp2
    go_ret3
    exact ⟨by rw [HF.out]; rfl, hbel4⟩
theorem open_any (s : ByteArray) (w : World) (hs : s.size ≤ 1099511627776) (hn : Nibs w) :
    Calls Tryd.prog 33 #[.string s] w fun e w' => e = .returned (opnV (opn (bl s))) ∧ Below w.heap.size w w' := by
  by_cases h : 8 ≤ s.size
  · exact open_long s w h hs hn
  · have : opn (bl s) = ([], 0, 1) := by unfold opn; rw [bl_len, if_pos (by omega)]
    rw [this]
    exact open_short8 s w (by omega)
end Go.Proofs.YtbkdlkhaeidhcaaDoor
