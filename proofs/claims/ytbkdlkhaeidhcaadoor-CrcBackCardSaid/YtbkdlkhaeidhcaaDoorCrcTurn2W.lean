/-
  The walk of the document's Turned, and of the law CrcTurned.
-/
import Derived.Test.YtbkdlkhaeidhcaaDoorCrcTurnW
namespace Go.Proofs.YtbkdlkhaeidhcaaDoor
open Go.RowKit Go.Deep CrcP CodecP FrameP

set_option maxHeartbeats 2000000 in
theorem crcTurned_main (s : ByteArray) (a : Int) (b : Nat) (w : World) (h1 : 1 ≤ s.size) (h2 : s.size ≤ 2000) (hb0 : 0 < b) (hb : b < 4294967296) (hn : Nibs w) :
    Calls Tryd.prog 9 #[.string s, .int .i64 a, .int .u32 b] w fun e w' => e = .returned (.bool true) ∧ Below w.heap.size w w' := by
  have HN := Lib.hid hn
  clear hn
  have hz : ((s.size : Int) == 0) = false := by rw [beq_eq_false_iff_ne]; omega
  have hbz : ((b : Int) == 0) = false := by rw [beq_eq_false_iff_ne]; omega
  obtain ⟨k, hk, ek⟩ := turn_by a (8 * s.size) (by omega) (by omega)
  have hfs : (str (frame (bl s))).size = 12 + s.size := by rw [str_size, frame_length]; rfl
  obtain ⟨k2, hk2, ek2⟩ := turn_by a (8 * (str (frame (bl s))).size) (by omega) (by omega)
  have e8 : ((8 * s.size : Nat) : Int) = 8 * (s.size : Int) := by omega
  have e82 : ((8 * (str (frame (bl s))).size : Nat) : Int) = 8 * ((str (frame (bl s))).size : Int) := by omega
  rw [e8] at ek
  rw [e82] at ek2
  clear e8 e82
  have hfz : (((str (frame (bl s))).size : Int) == 0) = false := by rw [beq_eq_false_iff_ne]; omega
  -- the parts
  have RT := fun W => turned_any s k b W (by omega) (by omega) hb
  have RF := fun W hW => frame_any s W (by omega) hW
  have RG := fun W => turned_any (str (frame (bl s))) k2 b W (by omega) (by omega) hb
  have RO := fun W hW => open_any (str (turned (bl (str (frame (bl s)))) k2 b)) W (by rw [str_size]; unfold turned; rw [xorNum_length, bl_str, frame_length]; have : (bl s).length = s.size := rfl; omega) hW
  have RS := fun W hW => sum_any s W (small _ (by omega)) hW
  have RST := fun W hW => sum_any (str (turned (bl s) k b)) W (small _ (by rw [str_size]; unfold turned; rw [xorNum_length]; have : (bl s).length = s.size := rfl; omega)) hW
  have hcT := ne_str (str (turned (bl s) k b)) s
  have hcG : ((str (turned (bl (str (frame (bl s)))) k2 b)).toList == (str (frame (bl s))).toList) = decide (turned (frame (bl s)) k2 b = frame (bl s)) := by
    rw [ne_str, bl_str (turned _ _ _), bl_str]
  rw [bl_str] at hcT
  have hne : turned (bl s) k b ≠ bl s → (u (CrcP.sum (str (turned (bl s) k b)).data.toList) == u (CrcP.sum s.data.toList)) = false := by
    intro hd
    have e1 : (str (turned (bl s) k b)).data.toList = turned (bl s) k b := bl_str _
    rw [e1]
    refine sum_ne (bl s) _ (fun r hr => hd ?_)
    exact reg_burst (bl s) r k b hb hr
  have hopn : turned (frame (bl s)) k2 b ≠ frame (bl s) → (opn (bl (str (turned (bl (str (frame (bl s)))) k2 b)))).2.2 ≠ 0 := by
    intro hd
    rw [bl_str, bl_str]
    exact opn_burst (bl s) k2 b (by show s.size ≤ _; omega) hb hd
  have hopn2 : turned (frame (bl s)) k2 b = frame (bl s) → opn (bl (str (turned (bl (str (frame (bl s)))) k2 b))) = (bl s, 12 + (bl s).length, 0) := by
    intro hd
    rw [bl_str, bl_str, hd]
    have := opn_frame (bl s) [] (by show s.size ≤ _; omega)
    rwa [List.append_nil] at this
  generalize hoe : opn (bl (str (turned (bl (str (frame (bl s)))) k2 b))) = r at *
  clear hoe
  obtain ⟨d, n, why⟩ := r
  generalize str (turned (bl (str (frame (bl s)))) k2 b) = G at *
  generalize str (turned (bl s) k b) = T at *
  generalize turned (bl s) k b = tb at *
  generalize turned (frame (bl s)) k2 b = gb2 at *
  generalize frame (bl s) = fb at *
  generalize hFe : str fb = F at *
  clear hFe
  have hfs1 : F.size ≤ 2012 := by omega
  have hfs2 : 1 ≤ F.size := by omega
  clear hfs
  simp only [opnV] at RO
  have HRT := Lib.hid RT
  have HRF := Lib.hid RF
  have HRG := Lib.hid RG
  have HRO := Lib.hid RO
  have HRS := Lib.hid RS
  have HRST := Lib.hid RST
  have HNE := Lib.hid hne
  have HO1 := Lib.hid hopn
  have HO2 := Lib.hid hopn2
  have HCG := Lib.hid hcG
  clear RT RF RG RO RS RST hne hopn hopn2 hcG
  have hbw : ∀ {w1 : World}, Below w.heap.size w w1 → Nibs w1 := fun h => HN.out.below h
  clear hbw
  have hbel0 := Below.refl w.heap.size w
  go_enter Tryd.func9, Tryd.ntmps9
  go_wp2_with fail
  refine (HRT.out _).mono ?_
  rintro e w1 ⟨rfl, hb1⟩
  have hcase : ((T.toList == s.toList) = true ∧ True) ∨ ((T.toList == s.toList) = false ∧ (u (CrcP.sum T.data.toList) == u (CrcP.sum s.data.toList)) = false) := by
    by_cases hT : tb = bl s
    · left; exact ⟨by rw [hcT]; simp [hT], trivial⟩
    · right; exact ⟨by rw [hcT]; simp [hT], HNE.out hT⟩
  clear hcT HNE hbel0
  have hcase2 : ((G.toList == F.toList) = true ∧ str d = s ∧ why = 0) ∨ ((G.toList == F.toList) = false ∧ why ≠ 0) := by
    by_cases hG : gb2 = fb
    · left
      have := HO2.out hG
      simp only [Prod.mk.injEq] at this
      exact ⟨by rw [HCG.out]; simp [hG], by rw [this.1, str_bl], this.2.2⟩
    · right; exact ⟨by rw [HCG.out]; simp [hG], HO1.out hG⟩
  have HC2 := Lib.hid hcase2
  clear hcase2 HO1 HO2 HCG
  have fin : ∀ (w9 : World), Below w.heap.size w w9 → Nibs w9 := fun w9 h => HN.out.below h
  have HN2 := Lib.hid fin
  clear fin
  rcases hcase with ⟨hT, _⟩ | ⟨hT, hS⟩
  · have hTn : (T.toList != s.toList) = false := by simp [bne, hT]
    go_wp2_with fail
    refine (HRF.out _ (HN2.out _ hb1)).mono ?_
    rintro e w2 ⟨rfl, hb2⟩
    have hbel := hb1.trans (hb2.mono hb1.size)
    clear hb1 hb2 hT hTn
    go_wp2_with fail
    refine (HRG.out _).mono ?_
    rintro e w3 ⟨rfl, hb3⟩
    have hbel3 := hbel.trans (hb3.mono hbel.size)
    clear hbel hb3
    go_wp2_with fail
    refine (HRO.out _ (HN2.out _ hbel3)).mono ?_
    rintro e w4 ⟨rfl, hb4⟩
    have hbel4 := hbel3.trans (hb4.mono hbel3.size)
    clear hbel3 hb4
    rcases HC2.out with ⟨hG, hd, hw⟩ | ⟨hG, hw⟩
    · subst hw
      have hGn : (G.toList != F.toList) = false := by simp [bne, hG]
      rw [hd]
      have hss : (s.toList == s.toList) = true := by simp
      clear HC2 hd
      go_wp2_with fail
      refine (crcAwake_any _ (HN2.out _ hbel4)).mono ?_
      rintro e w5 ⟨rfl, hb5⟩
      have hbel5 := hbel4.trans (hb5.mono hbel4.size)
      clear hbel4 hb5
      go_wp2
      go_ret
      exact ⟨rfl, hbel5⟩
    · have hGn : (G.toList != F.toList) = true := by simp [bne, hG]
      have hw1 : ((why : Int) == 0) = false := by rw [beq_eq_false_iff_ne]; omega
      have hw2 : ((why : Int) != 0) = true := by simp [bne, hw1]
      clear HC2 hw
      go_wp2_with fail
      refine (crcAwake_any _ (HN2.out _ hbel4)).mono ?_
      rintro e w5 ⟨rfl, hb5⟩
      have hbel5 := hbel4.trans (hb5.mono hbel4.size)
      clear hbel4 hb5
      go_wp2
      go_ret
      exact ⟨rfl, hbel5⟩
  · have hTn : (T.toList != s.toList) = true := by simp [bne, hT]
    go_wp2_with fail
    refine (HRST.out _ (HN2.out _ hb1)).mono ?_
    rintro e w2 ⟨rfl, rfl⟩
    go_wp2_with fail
    refine (HRS.out _ (HN2.out _ hb1)).mono ?_
    rintro e w2 ⟨rfl, rfl⟩
    go_wp2_with fail
    refine (HRF.out _ (HN2.out _ hb1)).mono ?_
    rintro e w2 ⟨rfl, hb2⟩
    have hbel := hb1.trans (hb2.mono hb1.size)
    clear hb1 hb2 hT hTn hS
    go_wp2_with fail
    refine (HRG.out _).mono ?_
    rintro e w3 ⟨rfl, hb3⟩
    have hbel3 := hbel.trans (hb3.mono hbel.size)
    clear hbel hb3
    go_wp2_with fail
    refine (HRO.out _ (HN2.out _ hbel3)).mono ?_
    rintro e w4 ⟨rfl, hb4⟩
    have hbel4 := hbel3.trans (hb4.mono hbel3.size)
    clear hbel3 hb4
    rcases HC2.out with ⟨hG, hd, hw⟩ | ⟨hG, hw⟩
    · subst hw
      have hGn : (G.toList != F.toList) = false := by simp [bne, hG]
      rw [hd]
      have hss : (s.toList == s.toList) = true := by simp
      clear HC2 hd
      go_wp2_with fail
      refine (crcAwake_any _ (HN2.out _ hbel4)).mono ?_
      rintro e w5 ⟨rfl, hb5⟩
      have hbel5 := hbel4.trans (hb5.mono hbel4.size)
      clear hbel4 hb5
      go_wp2
      go_ret
      exact ⟨rfl, hbel5⟩
    · have hGn : (G.toList != F.toList) = true := by simp [bne, hG]
      have hw1 : ((why : Int) == 0) = false := by rw [beq_eq_false_iff_ne]; omega
      have hw2 : ((why : Int) != 0) = true := by simp [bne, hw1]
      clear HC2 hw
      go_wp2_with fail
      refine (crcAwake_any _ (HN2.out _ hbel4)).mono ?_
      rintro e w5 ⟨rfl, hb5⟩
      have hbel5 := hbel4.trans (hb5.mono hbel4.size)
      clear hbel4 hb5
      go_wp2
      go_ret
      exact ⟨rfl, hbel5⟩
theorem crcTurned_law (s : ByteArray) (a b : Int) (w : World) (hw : (Lit.int .u32 b).wf = true) (hs : s.size ≤ maxLen) (hn : Nibs w) :
    Calls Tryd.prog 9 #[.string s, .int .i64 a, .int .u32 b] w fun e w' => e = .returned (.bool true) ∧ Below w.heap.size w w' := by
  have h1 := (u32_wf hw).1
  have h2 := (u32_wf hw).2
  by_cases h : s.size = 0 ∨ 2000 < s.size ∨ b = 0
  · exact crcTurned_short s a b w h hs hn
  · obtain ⟨v, rfl⟩ : ∃ v : Nat, b = (v : Int) := ⟨b.toNat, by omega⟩
    exact crcTurned_main s a v w (by omega) (by omega) (by omega) (by omega) hn
end Go.Proofs.YtbkdlkhaeidhcaaDoor
