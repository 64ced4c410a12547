/-
  The walk of the law CrcBack.
-/
import Derived.Test.YtbkdlkhaeidhcaaDoorCrcBackW
import Derived.StillTailTactics
namespace Go.Proofs.YtbkdlkhaeidhcaaDoor
open Go.RowKit Go.Deep CrcP CodecP FrameP

def upTo (ks : List ByteArray) (k : Nat) : List UInt8 := cat ((ks.take k).map bl)
theorem upTo_zero (ks : List ByteArray) : upTo ks 0 = [] := rfl
theorem upTo_succ (ks : List ByteArray) (k : Nat) (h : k < ks.length) : upTo ks (k + 1) = upTo ks k ++ frame (bl (ks.getD k ByteArray.empty)) := by
  unfold upTo
  rw [List.take_add_one, List.getElem?_eq_getElem h, List.map_append, cat_append]
  have : ks.getD k ByteArray.empty = ks[k] := by rw [List.getD_eq_getElem?_getD, List.getElem?_eq_getElem h]; rfl
  rw [this]
  simp [cat]
theorem upTo_all (ks : List ByteArray) : upTo ks ks.length = cat (ks.map bl) := by unfold upTo; rw [List.take_of_length_le (Nat.le_refl _)]

theorem Strs.keep {w w' : World} {v : Value} {ks : List ByteArray} (h : Strs w v ks) (hb : Below w.heap.size w w') : Strs w' v ks := by
  obtain ⟨ao, cap, rfl, hl, hk⟩ := h
  refine ⟨ao, cap, rfl, hl, fun hne => ?_⟩
  obtain ⟨b, off, rfl, hs⟩ := hk hne
  exact ⟨b, off, rfl, hs.below hb hs.lt⟩

set_option maxHeartbeats 1000000 in
theorem crcBack_some (b off cap : Nat) (ks : List ByteArray) (at_ : Int) (w : World) (hk : StrsAt w b off ks) (hcap : ks.length ≤ cap) (hn : Nibs w) (h1 : 0 < ks.length) (h2 : ks.length ≤ 20) :
    Calls Tryd.prog 13 #[.slice (some ⟨b, off, none⟩) ks.length cap, .int .i64 at_] w fun e w' => e = .returned (.bool true) ∧ Below w.heap.size w w' := by
  have HN := Lib.hid hn
  have HK := Lib.hid hk
  have hlt := hk.lt
  have hz : ((ks.length : Int) == 0) = false := by rw [beq_eq_false_iff_ne]; omega
  clear hn hk
  have hbel0 := Below.refl w.heap.size w
  go_enter Tryd.func13, Tryd.ntmps13
  go_wp2
  clear hz
  go_loopw [5, 6] (fun s i wr => ∃ k : Nat, k ≤ ks.length ∧ i = .int .i64 (k : Int) ∧ s = .string (str (upTo ks k)) ∧ (∀ j, j < k → (ks.getD j ByteArray.empty).size ≤ 300) ∧ (upTo ks k).length ≤ 312 * k ∧ (0 < k → 0 < (upTo ks k).length) ∧ Below w.heap.size w wr) (fun _ i _ => ks.length - (intOf i).toNat)
  case atStart => exact ⟨0, by omega, rfl, rfl, fun j hj => by omega, by simp [upTo_zero], by omega, hbel0⟩
  case round =>
    clear hbel0
    obtain ⟨k, hk, rfl, rfl, hsz, hup, hup1, hbel⟩ := hrel
    have HSZ := Lib.hid hsz
    clear hsz
    by_cases hkl : k < ks.length
    · have c1 := (HK.out.below hbel hlt).cell k hkl
      have hcs := HK.out.size k hkl
      unfold maxLen at hcs
      by_cases h300 : 300 < (ks.getD k ByteArray.empty).size
      · generalize ks.getD k ByteArray.empty = x at *
        go_wp2_with fail
        refine (crcAwake_any _ (HN.out.below hbel)).mono ?_
        rintro e w1 ⟨rfl, hb1⟩
        go_wp2
        go_ret
        exact ⟨rfl, hbel.trans (hb1.mono hbel.size)⟩
      · have hs := upTo_succ ks k hkl
        have hsl := congrArg List.length hs
        rw [List.length_append, frame_length, show (bl (ks.getD k ByteArray.empty)).length = (ks.getD k ByteArray.empty).size from rfl] at hsl
        have hall : ∀ j, j < k + 1 → (ks.getD j ByteArray.empty).size ≤ 300 := fun j hj => by
          rcases Nat.lt_or_eq_of_le (Nat.le_of_lt_succ hj) with h | h
          · exact HSZ.out j h
          · rw [h]; omega
        have RF := fun W hW => frame_any (ks.getD k ByteArray.empty) W (by omega) hW
        have hfs : (str (frame (bl (ks.getD k ByteArray.empty)))).size = 12 + (ks.getD k ByteArray.empty).size := by rw [str_size, frame_length]; rfl
        have hus : (str (upTo ks k)).size = (upTo ks k).length := str_size _
        have happ : str (upTo ks k) ++ str (frame (bl (ks.getD k ByteArray.empty))) = str (upTo ks (k + 1)) := by rw [str_append, ← hs]
        generalize ks.getD k ByteArray.empty = x at *
        generalize str (frame (bl x)) = F at *
        have h1 : (upTo ks (k + 1)).length ≤ 312 * (k + 1) := by omega
        have h2 : 0 < (upTo ks (k + 1)).length := by omega
        have hcat : ¬ 9223372036854775807 < (str (upTo ks k)).size + F.size := by omega
        generalize hU : str (upTo ks (k + 1)) = U at *
        have HU := Lib.hid hU
        have HALL := Lib.hid hall
        have HRF := Lib.hid RF
        have HAPP := Lib.hid happ
        generalize str (upTo ks k) = S at *
        clear hU hall RF hs happ hsl hus hfs
        go_wp2_with fail
        refine (HRF.out _ (HN.out.below hbel)).mono ?_
        rintro e w1 ⟨rfl, hb1⟩
        have hbel1 := hbel.trans (hb1.mono hbel.size)
        clear hbel hb1
        go_wp2
        rw [HAPP.out]
        go_roundw
        case rel => exact ⟨k + 1, by omega, by go_num, by rw [HU.out], HALL.out, h1, fun _ => h2, hbel1⟩
        case measure => simp [intOf]; omega
    · obtain rfl : k = ks.length := by omega
      have hpos := hup1 h1
      have hup2 : (upTo ks ks.length).length ≤ 6240 := by omega
      have hbs : ∀ d ∈ ks.map bl, d.length ≤ 131072 := fun d hd => by
        obtain ⟨x, hx, rfl⟩ := List.mem_map.1 hd
        obtain ⟨i, hi, rfl⟩ := List.getElem_of_mem hx
        have := HSZ.out i hi
        rw [List.getD_eq_getElem?_getD, List.getElem?_eq_getElem hi] at this
        show (ks[i]).size ≤ _
        simp at this
        omega
      have hA := allF_cat _ hbs
      have hcut := allF_cut _ hbs
      rw [← upTo_all] at hA hcut
      clear hup hup1 HSZ
      obtain ⟨A, hAe⟩ : ∃ A, A = upTo ks ks.length := ⟨_, rfl⟩
      rw [← hAe] at hA hcut hpos hup2
      rw [← hAe]
      clear hAe
      have hss : (str A).size = A.length := str_size A
      obtain ⟨t, ht, et⟩ := turn_by at_ A.length hpos (by omega)
      obtain ⟨j, n, c, hj, hcc, hn, hc⟩ := hcut t (by omega)
      rw [List.length_map] at hj
      have RA := fun W hW => all_any (str A) W (by omega) hW
      rw [bl_str, hA] at RA
      have RC := fun W hW => all_any ((str A).extract 0 t) W (by simp; omega) hW
      rw [bl_take, bl_str, hcc] at RC
      simp only at RA RC
      have hjl : ((ks.map bl).take j).length = j := by rw [List.length_take, List.length_map]; omega
      rw [hjl] at RC
      rw [List.length_map] at RA
      have hm1 : (ks.map bl).map (fun d => Value.string (str d)) = ks.map Value.string := by rw [List.map_map]; apply List.map_congr_left; intro x _; simp [str_bl]
      have hm2 : ((ks.map bl).take j).map (fun d => Value.string (str d)) = (ks.take j).map Value.string := by rw [List.map_take, hm1, List.map_take]
      rw [hm1] at RA
      rw [hm2] at RC
      have HRA := Lib.hid RA
      have HRC := Lib.hid RC
      have hsp : (((str A).size : Int) == 0) = false := by rw [beq_eq_false_iff_ne]; omega
      rw [← hss] at et ht
      have hNN : (A.length : Int) = ((str A).size : Int) := by rw [hss]
      have hup3 : (str A).size ≤ 6240 := by omega
      have hup4 : 1 ≤ (str A).size := by omega
      rw [hss.symm] at HRA
      clear hA hcut hcc hm1 hm2 RA RC hbs hpos hup2 hNN hss hjl
      generalize str A = S at *
      go_wp2_with fail
      refine (HRA.out _ (HN.out.below hbel)).mono ?_
      rintro e w1 ⟨v1, rfl, hb1, ho1⟩
      have hbel1 := hbel.trans (hb1.mono hbel.size)
      clear hb1 hbel
      go_wp2_with fail
      refine (HRC.out _ (HN.out.below hbel1)).mono ?_
      rintro e w2 ⟨v2, rfl, hb2, ho2⟩
      have hbel2 := hbel1.trans (hb2.mono hbel1.size)
      have ho1' := owns_of_block ho1 (fun q hq => hb2.block q (ho1.lt q hq).2)
      have hks : ∀ x ∈ ks, x.size ≤ maxLen := fun x hx => by
        obtain ⟨i, hi, rfl⟩ := List.getElem_of_mem hx
        have := HK.out.size i hi
        rw [List.getD_eq_getElem?_getD, List.getElem?_eq_getElem hi] at this
        exact this
      have hS1 : Strs w2 v1 ks := strs_own ho1' hks (by unfold maxLen; omega)
      have hS2 : Strs w2 v2 (ks.take j) := strs_own ho2 (fun x hx => hks x (List.mem_of_mem_take hx)) (by rw [List.length_take]; unfold maxLen; omega)
      have hS3 : Strs w2 (.slice (some ⟨b, off, none⟩) ks.length cap) ks := ⟨_, cap, rfl, by unfold maxLen; omega, fun _ => ⟨b, off, rfl, HK.out.below hbel2 hlt⟩⟩
      have hK2 := HK.out.below hbel2 hlt
      have hS4 : Strs w2 (.slice (some ⟨b, off, none⟩) j cap) (ks.take j) := ⟨some ⟨b, off, none⟩, cap, by rw [List.length_take, Nat.min_eq_left hj], by rw [List.length_take]; unfold maxLen; omega, fun _ => ⟨b, off, rfl, fun i hi => by
        rw [List.length_take] at hi
        rw [hK2.cell i (by omega), List.getD_eq_getElem?_getD, List.getD_eq_getElem?_getD, List.getElem?_take, if_pos (by omega)], hK2.lt, fun i hi => by
        rw [List.length_take] at hi
        have := hK2.size i (by omega)
        rw [List.getD_eq_getElem?_getD] at this ⊢
        rwa [List.getElem?_take, if_pos (by omega)]⟩⟩
      obtain ⟨a2, c2, hv2⟩ := own_form ho2
      have HS1 := Lib.hid hS1
      have HS2 := Lib.hid hS2
      have HS3 := Lib.hid hS3
      have HS4 := Lib.hid hS4
      subst hv2
      have q1 : ((S.size : Int) == (S.size : Int)) = true := by simp
      have q2 : ((c : Int) == 2) = false := by rw [beq_eq_false_iff_ne]; omega
      have q3 : ((c : Int) != 2) = true := by rw [bne, q2]; rfl
      obtain ⟨X, q4, q5⟩ : ∃ X : Bool, ((n : Int) == (t : Int)) = X ∧ ((c : Int) == 0) = X := by
        rcases hc with ⟨h1, h2⟩ | ⟨h1, h2⟩
        · exact ⟨true, by rw [beq_iff_eq]; omega, by rw [beq_iff_eq]; omega⟩
        · exact ⟨false, by rw [beq_eq_false_iff_ne]; omega, by rw [beq_eq_false_iff_ne]; omega⟩
      have q6 : (X == X) = true := by simp
      have hN2 := Lib.hid (HN.out.below hbel2)
      clear hS1 hS2 hS3 hS4 ho1 ho1' ho2 hks hK2 hb2 hbel1 HRA HRC hc
      go_wp2_with fail
      refine (same_any _ _ _ _ _ HS1.out HS3.out).mono ?_
      rintro e w3 ⟨rfl, hb3⟩
      rw [decide_eq_true rfl]
      have hbel3 := hbel2.trans (hb3.mono hbel2.size)
      have HS2' := Lib.hid (HS2.out.keep hb3)
      have HS4' := Lib.hid (HS4.out.keep hb3)
      clear hb3 HS1 HS3
      go_wp2_with fail
      refine (same_any _ _ _ _ _ HS2'.out HS4'.out).mono ?_
      rintro e w4 ⟨rfl, hb4⟩
      rw [decide_eq_true rfl]
      have hbel4 := hbel3.trans (hb4.mono hbel3.size)
      clear hb4 hbel3 hbel2
      go_wp2_with fail
      refine (crcAwake_any _ (HN.out.below hbel4)).mono ?_
      rintro e w5 ⟨rfl, hb5⟩
      go_wp2
      go_ret
      exact ⟨rfl, hbel4.trans (hb5.mono hbel4.size)⟩

theorem crcBack_law (v : Value) (ks : List ByteArray) (at_ : Int) (w : World) (hk : Strs w v ks) (hcap : ∀ ao n cap, v = .slice ao n cap → n ≤ cap) (hn : Nibs w) :
    Calls Tryd.prog 13 #[v, .int .i64 at_] w fun e w' => e = .returned (.bool true) ∧ Below w.heap.size w w' := by
  have HN := Lib.hid hn
  obtain ⟨ao, cap, rfl, hl, hk⟩ := hk
  have hc := hcap _ _ _ rfl
  by_cases h : ks.length = 0 ∨ 20 < ks.length
  · clear hk hcap hn
    unfold maxLen at hl
    rcases h with h | h
    · have hz : ((ks.length : Int) == 0) = true := by rw [beq_iff_eq]; omega
      clear h
      go_enter Tryd.func13, Tryd.ntmps13
      go_wp2_with fail
      refine (crcAwake_any _ HN.out).mono ?_
      rintro e w1 ⟨rfl, hb⟩
      go_wp2
      go_ret
      exact ⟨rfl, hb⟩
    · have hz : ((ks.length : Int) == 0) = false := by rw [beq_eq_false_iff_ne]; omega
      go_enter Tryd.func13, Tryd.ntmps13
      go_wp2_with fail
      refine (crcAwake_any _ HN.out).mono ?_
      rintro e w1 ⟨rfl, hb⟩
      go_wp2
      go_ret
      exact ⟨rfl, hb⟩
  · have hne : ks ≠ [] := by intro e; subst e; simp at h
    obtain ⟨b, off, rfl, hs⟩ := hk hne
    exact crcBack_some b off cap ks at_ w hs hc hn (by omega) (by omega)
end Go.Proofs.YtbkdlkhaeidhcaaDoor
