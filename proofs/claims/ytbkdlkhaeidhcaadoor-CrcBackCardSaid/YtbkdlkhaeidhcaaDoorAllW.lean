/-
  What is framed, one behind the other: the plain law; the walks of crc.All and of the document's Open and All.
-/
import Derived.Test.YtbkdlkhaeidhcaaDoorCrcPiece2W
import Derived.Test.YtbkdlkhaeidhcaaDoorBloomKeepsW
namespace Go.Proofs.YtbkdlkhaeidhcaaDoor
open Go.RowKit Go.Deep CrcP CodecP FrameP

def allR : Nat → List UInt8 → List (List UInt8) × Nat × Nat
  | 0, _ => ([], 0, 0)
  | f + 1, s => if s = [] then ([], 0, 0) else if (opn s).2.2 ≠ 0 then ([], 0, (opn s).2.2) else
    ((opn s).1 :: (allR f (s.drop (opn s).2.1)).1, (opn s).2.1 + (allR f (s.drop (opn s).2.1)).2.1, (allR f (s.drop (opn s).2.1)).2.2)
def allF (s : List UInt8) := allR s.length s
theorem opn_pos (s : List UInt8) (h : (opn s).2.2 = 0) : (opn s).1.length ≤ 131072 ∧ (opn s).2.1 = 12 + (opn s).1.length ∧ (opn s).2.1 ≤ s.length ∧ s.take (opn s).2.1 = frame (opn s).1 := by
  have := frame_opn s (opn s).1 (opn s).2.1 (by rw [← h])
  exact this
theorem allR_more (f : Nat) : ∀ (g : Nat) (s : List UInt8), s.length ≤ f → f ≤ g → allR g s = allR f s := by
  induction f with
  | zero =>
    intro g s h _
    have : s = [] := List.length_eq_zero_iff.1 (by omega)
    subst this
    cases g <;> simp [allR]
  | succ f ih =>
    intro g s h hg
    obtain ⟨g, rfl⟩ : ∃ k, g = k + 1 := ⟨g - 1, by omega⟩
    by_cases hs : s = []
    · simp [allR, hs]
    · by_cases hw : (opn s).2.2 ≠ 0
      · simp [allR, hs, hw]
      · have hp := opn_pos s (by omega)
        have := ih g (s.drop (opn s).2.1) (by simp; omega) (by omega)
        simp [allR, hs, hw, this]
theorem allF_step (s : List UInt8) (hs : s ≠ []) (hw : (opn s).2.2 = 0) : allF s = ((opn s).1 :: (allF (s.drop (opn s).2.1)).1, (opn s).2.1 + (allF (s.drop (opn s).2.1)).2.1, (allF (s.drop (opn s).2.1)).2.2) := by
  have hp := opn_pos s hw
  have hl : 0 < s.length := List.length_pos_iff.2 hs
  obtain ⟨k, hk⟩ : ∃ k, s.length = k + 1 := ⟨s.length - 1, by omega⟩
  unfold allF
  rw [hk]
  have := allR_more (s.drop (opn s).2.1).length k (s.drop (opn s).2.1) (Nat.le_refl _) (by simp; omega)
  simp only [allR, hs, hw, if_false, ne_eq, not_true_eq_false, this]
theorem allF_bad (s : List UInt8) (hs : s ≠ []) (hw : (opn s).2.2 ≠ 0) : allF s = ([], 0, (opn s).2.2) := by
  have hl : 0 < s.length := List.length_pos_iff.2 hs
  obtain ⟨k, hk⟩ : ∃ k, s.length = k + 1 := ⟨s.length - 1, by omega⟩
  unfold allF
  rw [hk]
  simp [allR, hs, hw]
theorem allF_nil : allF [] = ([], 0, 0) := rfl
/-- So far. -/
def AllTo (s : List UInt8) (L : List (List UInt8)) (k : Nat) : Prop := k ≤ s.length ∧ L.length ≤ k ∧ (∀ x ∈ L, x.length ≤ 131072) ∧ allF s = (L ++ (allF (s.drop k)).1, k + (allF (s.drop k)).2.1, (allF (s.drop k)).2.2)
theorem AllTo.start (s : List UInt8) : AllTo s [] 0 := ⟨by omega, by simp, by simp, by simp⟩
theorem AllTo.step {s : List UInt8} {L : List (List UInt8)} {k : Nat} (h : AllTo s L k) (hk : k < s.length) (hw : (opn (s.drop k)).2.2 = 0) : AllTo s (L ++ [(opn (s.drop k)).1]) (k + (opn (s.drop k)).2.1) := by
  obtain ⟨h1, h2, h3, h4⟩ := h
  have hp := opn_pos _ hw
  have hne : s.drop k ≠ [] := by intro h; have := List.drop_eq_nil_iff.1 h; omega
  have hs := allF_step _ hne hw
  rw [List.length_drop] at hp
  refine ⟨by omega, by simp; omega, ?_, ?_⟩
  · intro x hx
    rcases List.mem_append.1 hx with h | h
    · exact h3 x h
    · rw [List.mem_singleton.1 h]; exact hp.1
  · rw [h4, hs, List.drop_drop]
    simp [Nat.add_assoc]
theorem AllTo.bad {s : List UInt8} {L : List (List UInt8)} {k : Nat} (h : AllTo s L k) (hk : k < s.length) (hw : (opn (s.drop k)).2.2 ≠ 0) : allF s = (L, k, (opn (s.drop k)).2.2) := by
  have hne : s.drop k ≠ [] := by intro h; have := List.drop_eq_nil_iff.1 h; omega
  rw [h.2.2.2, allF_bad _ hne hw]; simp
theorem AllTo.done {s : List UInt8} {L : List (List UInt8)} {k : Nat} (h : AllTo s L k) (hk : s.length ≤ k) : allF s = (L, k, 0) := by
  have : s.drop k = [] := List.drop_eq_nil_iff.2 hk
  rw [h.2.2.2, this, allF_nil]; simp

theorem all_any (s : ByteArray) (w : World) (hs : s.size ≤ 1000000) (hn : Nibs w) :
    Calls Tryd.prog 35 #[.string s] w fun e w' => ∃ v, e = .returned (.tuple #[v, .int .i64 ((allF (bl s)).2.1 : Int), .int .i64 ((allF (bl s)).2.2 : Int)]) ∧ Below w.heap.size w w' ∧ w'.ownsRow w.heap.size 9 1 v (allF (bl s)).1.length ((allF (bl s)).1.map fun d => Value.string (str d)) := by
  obtain ⟨i0, hi, hz0, hz1, hz2⟩ := info_parts info_string
  have HN := Lib.hid hn
  clear hn
  have HA := Lib.hid (AllTo.start (bl s))
  have hlb : (bl s).length = s.size := rfl
  have HLB := Lib.hid hlb
  clear hlb
  have hbel0 := Below.refl w.heap.size w
  go_enter Tryd.func35, Tryd.ntmps35
  go_wp2
  go_loopw [5, 6] (fun v i wr => ∃ (L : List (List UInt8)) (k : Nat), i = .int .i64 (k : Int) ∧ AllTo (bl s) L k ∧ wr.ownsRow w.heap.size 9 1 v L.length (L.map fun d => Value.string (str d)) ∧ Below w.heap.size w wr) (fun _ i _ => s.size - (intOf i).toNat)
  case atStart => exact ⟨[], 0, rfl, HA.out, World.ownsRow_nil _ _ _ _, hbel0⟩
  case round =>
    clear hbel0
    obtain ⟨L, k, rfl, hall, hown, hbel⟩ := hrel
    have hkl : k ≤ s.size := by have := hall.1; rw [HLB.out] at this; exact this
    have hLk := hall.2.1
    have HALL := Lib.hid hall
    clear hall
    have hm := Lib.hid (hown.lt)
    have hfm := hown.1
    obtain ⟨ao, cp, rfl⟩ := own_form hown
    clear hfm
    by_cases hlt : k < s.size
    · have hex : (s.extract k s.size).size = s.size - k := by simp
      have RO := fun W hW => open_any (s.extract k s.size) W (by omega) hW
      have hbx : bl (s.extract k s.size) = (bl s).drop k := by rw [ext_bl, List.take_of_length_le]; simp; rw [HLB.out]; omega
      rw [hbx] at RO
      have hstep := fun h => HALL.out.step (by rw [HLB.out]; exact hlt) h
      have hbad := fun h => HALL.out.bad (by rw [HLB.out]; exact hlt) h
      have hpos := opn_pos ((bl s).drop k)
      have hdl : ((bl s).drop k).length = s.size - k := by rw [List.length_drop, HLB.out]
      rw [hdl] at hpos
      generalize opn ((bl s).drop k) = r at *
      obtain ⟨d, n, why⟩ := r
      simp only [opnV] at RO
      have HRO := Lib.hid RO
      have HST := Lib.hid hstep
      have HBAD := Lib.hid hbad
      have HOWN := Lib.hid hown
      clear RO hstep hbad hown hbx hex hdl
      go_wp2_with fail
      refine (HRO.out _ (HN.out.below hbel)).mono ?_
      rintro e w1 ⟨rfl, hb1⟩
      have hown1 := owns_of_block HOWN.out (fun j hj => hb1.block j (hm.out j hj).2)
      have hbel1 := hbel.trans (hb1.mono hbel.size)
      have hm1 : ∀ j, (Value.slice ao L.length cp).ownBlock = some j → w.heap.size ≤ j ∧ j < w1.heap.size := fun j hj => hown1.lt j hj
      have hsz1 := hbel1.size
      have HM1 := Lib.hid hm1
      clear hm1 hm hb1 HRO HOWN hbel
      by_cases hw : why = 0
      · subst hw
        have hp := hpos rfl
        have hp1 := hp.1
        have hp2 := hp.2.1
        have hp3 := hp.2.2.1
        have HS := Lib.hid (HST.out rfl)
        have HOWN1 := Lib.hid hown1
        have hdm : (str d).size ≤ maxLen := small _ (by rw [str_size]; omega)
        clear hp hpos HST HBAD hown1
        go_wp2_with (at_builtin; refine wpList_append_own _ rfl _ _ 27 rfl w.heap.size 9 i0 (.string ByteArray.empty) 1 16 Tryd.underlying27 hi hz0 hz1 hz2 rfl (by decide) _ _ _ rfl (HOWN1.out.alloc _) ⟨w1.heap.size, 0, none⟩ 1 1 [.string (str d)] rfl rfl ?c1 ?c2 ?c3 ?c4 ?c5 ?_)
        case c1 =>
          intro j x hj
          match j, hj with
          | 0, hj => simp at hj; subst hj; simp [Addr.add]
        case c2 => intro x hx; simp at hx; subst hx; rfl
        case c3 => unfold maxLen; omega
        case c4 => omega
        case c5 => simp; omega
        · intro v' w3 hown' hgrow _
          have hbel' : Below w.heap.size w w3 := (hbel1.alloc hsz1 _).grown hgrow (by simp; omega) (fun j hj => (HM1.out j hj).1)
          have hown2 : w3.ownsRow w.heap.size 9 1 v' (L ++ [d]).length ((L ++ [d]).map fun d => Value.string (str d)) := by
            rw [List.length_append, List.map_append]; exact hown'
          have HO2 := Lib.hid hown2
          have HB2 := Lib.hid hbel'
          clear hown' hgrow hown2 hbel' HM1 HOWN1
          go_wp2
          go_roundw
          case rel => first | exact ⟨L ++ [d], k + n, by go_num, HS.out, HO2.out, HB2.out⟩ | ((repeat apply Exists.intro); exact ⟨⟨L ++ [d], k + n, by go_num, HS.out, HO2.out, HB2.out⟩, rfl⟩)
          case measure => simp [intOf]; omega
      · have hw1 : ((why : Int) == 0) = false := by rw [beq_eq_false_iff_ne]; omega
        have hw2 : ((why : Int) != 0) = true := by simp [bne, hw1]
        have hb := HBAD.out hw
        have HB := Lib.hid hb
        have HOWN1 := Lib.hid hown1
        clear hb HST HBAD hw hown1 hpos
        go_wp2
        go_ret3
        refine ⟨.slice ao L.length cp, ?_, hbel1, ?_⟩
        · rw [HB.out]; rfl
        · rw [HB.out]; exact HOWN1.out
    · obtain rfl : k = s.size := by omega
      have hd := HALL.out.done (by rw [HLB.out]; omega)
      have HD := Lib.hid hd
      have HOWN1 := Lib.hid hown
      clear hd hown
      go_wp2
      go_ret3
      refine ⟨.slice ao L.length cp, ?_, hbel, ?_⟩
      · rw [HD.out]; rfl
      · rw [HD.out]; exact HOWN1.out
end Go.Proofs.YtbkdlkhaeidhcaaDoor
