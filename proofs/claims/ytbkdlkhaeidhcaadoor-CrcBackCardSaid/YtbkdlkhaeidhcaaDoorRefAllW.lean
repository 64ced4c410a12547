/-
  The walk of the document's All; the law CrcOpens.
-/
import Derived.Test.YtbkdlkhaeidhcaaDoorRefOpenW
namespace Go.Proofs.YtbkdlkhaeidhcaaDoor
open Go.RowKit Go.Deep CrcP CodecP FrameP

theorem refAll_any (s : ByteArray) (w : World) (hs : s.size ≤ 1000000) :
    Calls Tryd.prog 36 #[.string s] w fun e w' => ∃ v, e = .returned (.tuple #[v, .int .i64 ((allF (bl s)).2.1 : Int), .int .i64 ((allF (bl s)).2.2 : Int)]) ∧ Below w.heap.size w w' ∧ w'.ownsRow w.heap.size 9 1 v (allF (bl s)).1.length ((allF (bl s)).1.map fun d => Value.string (str d)) := by
  obtain ⟨i0, hi, hz0, hz1, hz2⟩ := info_parts info_string
  have HA := Lib.hid (AllTo.start (bl s))
  have hlb : (bl s).length = s.size := rfl
  have HLB := Lib.hid hlb
  clear hlb
  have hbel0 := Below.refl w.heap.size w
  go_enter Tryd.func36, Tryd.ntmps36
  go_wp2
  go_loopw [5, 6] (fun v i wr => ∃ (L : List (List UInt8)) (k : Nat), i = .int .i64 (k : Int) ∧ AllTo (bl s) L k ∧ wr.ownsRow w.heap.size 9 1 v L.length (L.map fun d => Value.string (str d)) ∧ Below w.heap.size w wr) (fun _ i _ => s.size - (intOf i).toNat)
  case atStart => exact ⟨[], 0, rfl, HA.out, World.ownsRow_nil _ _ _ _, hbel0⟩
  case round =>
    clear hbel0
    obtain ⟨L, k, rfl, hall, hown, hbel⟩ := hrel
    have hkl : k ≤ s.size := by have := hall.1; rw [HLB.out] at this; exact this
    have hLk := hall.2.1
    have HALL := Lib.hid hall
    clear hall
    have hm := Lib.hid (hown.lt)
    have hfm := hown.1
    obtain ⟨ao, cp, rfl⟩ := own_form hown
    clear hfm
    by_cases hlt : k < s.size
    · have hex : (s.extract k s.size).size = s.size - k := by simp
      have RO := fun W => refOpen_any (s.extract k s.size) W (by omega)
      have hbx : bl (s.extract k s.size) = (bl s).drop k := by rw [ext_bl, List.take_of_length_le]; simp; rw [HLB.out]; omega
      rw [hbx] at RO
      have hstep := fun h => HALL.out.step (by rw [HLB.out]; exact hlt) h
      have hbad := fun h => HALL.out.bad (by rw [HLB.out]; exact hlt) h
      have hpos := opn_pos ((bl s).drop k)
      have hdl : ((bl s).drop k).length = s.size - k := by rw [List.length_drop, HLB.out]
      rw [hdl] at hpos
      generalize opn ((bl s).drop k) = r at *
      obtain ⟨d, n, why⟩ := r
      simp only [opnV] at RO
      have HRO := Lib.hid RO
      have HST := Lib.hid hstep
      have HBAD := Lib.hid hbad
      have HOWN := Lib.hid hown
      clear RO hstep hbad hown hbx hex hdl
      go_wp2_with fail
      refine (HRO.out _).mono ?_
      rintro e w1 ⟨rfl, hb1⟩
      have hown1 := owns_of_block HOWN.out (fun j hj => hb1.block j (hm.out j hj).2)
      have hbel1 := hbel.trans (hb1.mono hbel.size)
      have hm1 : ∀ j, (Value.slice ao L.length cp).ownBlock = some j → w.heap.size ≤ j ∧ j < w1.heap.size := fun j hj => hown1.lt j hj
      have hsz1 := hbel1.size
      have HM1 := Lib.hid hm1
      clear hm1 hm hb1 HRO HOWN hbel
      by_cases hw : why = 0
      · subst hw
        have hp := hpos rfl
        have hp1 := hp.1
        have hp2 := hp.2.1
        have hp3 := hp.2.2.1
        have HS := Lib.hid (HST.out rfl)
        have HOWN1 := Lib.hid hown1
        have hdm : (str d).size ≤ maxLen := small _ (by rw [str_size]; omega)
        clear hp hpos HST HBAD hown1
        go_wp2_with (at_builtin; refine wpList_append_own _ rfl _ _ 27 rfl w.heap.size 9 i0 (.string ByteArray.empty) 1 16 Tryd.underlying27 hi hz0 hz1 hz2 rfl (by decide) _ _ _ rfl (HOWN1.out.alloc _) ⟨w1.heap.size, 0, none⟩ 1 1 [.string (str d)] rfl rfl ?c1 ?c2 ?c3 ?c4 ?c5 ?_)
        case c1 =>
          intro j x hj
          match j, hj with
          | 0, hj => simp at hj; subst hj; simp [Addr.add]
        case c2 => intro x hx; simp at hx; subst hx; rfl
        case c3 => unfold maxLen; omega
        case c4 => omega
        case c5 => simp; omega
        · intro v' w3 hown' hgrow _
          have hbel' : Below w.heap.size w w3 := (hbel1.alloc hsz1 _).grown hgrow (by simp; omega) (fun j hj => (HM1.out j hj).1)
          have hown2 : w3.ownsRow w.heap.size 9 1 v' (L ++ [d]).length ((L ++ [d]).map fun d => Value.string (str d)) := by
            rw [List.length_append, List.map_append]; exact hown'
          have HO2 := Lib.hid hown2
          have HB2 := Lib.hid hbel'
          clear hown' hgrow hown2 hbel' HM1 HOWN1
          go_wp2
          go_roundw
          case rel => first | exact ⟨L ++ [d], k + n, by go_num, HS.out, HO2.out, HB2.out⟩ | ((repeat apply Exists.intro); exact ⟨⟨L ++ [d], k + n, by go_num, HS.out, HO2.out, HB2.out⟩, rfl⟩)
          case measure => simp [intOf]; omega
      · have hw1 : ((why : Int) == 0) = false := by rw [beq_eq_false_iff_ne]; omega
        have hw2 : ((why : Int) != 0) = true := by simp [bne, hw1]
        have hb := HBAD.out hw
        have HB := Lib.hid hb
        have HOWN1 := Lib.hid hown1
        clear hb HST HBAD hw hown1 hpos
        go_wp2
        go_ret3
        refine ⟨.slice ao L.length cp, ?_, hbel1, ?_⟩
        · rw [HB.out]; rfl
        · rw [HB.out]; exact HOWN1.out
    · obtain rfl : k = s.size := by omega
      have hd := HALL.out.done (by rw [HLB.out]; omega)
      have HD := Lib.hid hd
      have HOWN1 := Lib.hid hown
      clear hd hown
      go_wp2
      go_ret3
      refine ⟨.slice ao L.length cp, ?_, hbel, ?_⟩
      · rw [HD.out]; rfl
      · rw [HD.out]; exact HOWN1.out

theorem strs_all {w : World} {B : Nat} {v : Value} {L : List (List UInt8)} (h : w.ownsRow B 9 1 v L.length (L.map fun d => Value.string (str d))) (hs : ∀ d ∈ L, d.length ≤ 1099511627776) (hn : L.length ≤ 1099511627776) : Strs w v (L.map str) := by
  refine strs_own (B := B) (n := L.length) (ks := L.map str) ?_ ?_ (by rw [List.length_map]; exact small _ hn)
  · rw [List.map_map]; exact h
  · intro k hk
    obtain ⟨d, hd, rfl⟩ := List.mem_map.1 hk
    exact small _ (by rw [str_size]; exact hs d hd)
theorem allF_le (s : List UInt8) : (∀ d ∈ (allF s).1, d.length ≤ 131072) ∧ (allF s).1.length ≤ s.length := by
  generalize hn : s.length = n
  induction n using Nat.strongRecOn generalizing s with
  | _ n ih =>
    by_cases hs : s = []
    · subst hs; rw [allF_nil]; exact ⟨by simp, by simp⟩
    · by_cases hw : (opn s).2.2 = 0
      · have hp := opn_pos s hw
        have := ih (s.drop (opn s).2.1).length (by rw [List.length_drop]; have := List.length_pos_iff.2 hs; omega) _ rfl
        rw [allF_step s hs hw]
        refine ⟨fun d hd => ?_, ?_⟩
        · rcases List.mem_cons.1 hd with h | h
          · rw [h]; exact hp.1
          · exact this.1 d h
        · have h2 := this.2
          rw [List.length_drop] at h2
          simp only [List.length_cons]
          have := List.length_pos_iff.2 hs
          omega
      · rw [allF_bad s hs hw]; exact ⟨by simp, by simp⟩
end Go.Proofs.YtbkdlkhaeidhcaaDoor
