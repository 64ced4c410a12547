
/-
  The walk of block's tail.
-/
import Derived.Test.YtcoicdaobgneeaaBStepP
import Derived.Test.YtcoicdaobgneeaaBuildW
namespace Go.Proofs.Ytcoicdaobgneeaa
open Go.RowKit CodecP

theorem fixed4_o (p : Nat) (o : Option (List UInt8)) (w : World) (h : RO w p o) :
    Calls Try.prog 54 #[(Value.pointer (some ⟨p, 0, none⟩))] w fun e w' => e = .returned (.int .u32 (value (rawS 4 o).1 : Nat)) ∧ RO w' p (rawS 4 o).2 ∧ Fr (RdS p) w w' := by
  obtain ⟨s, bad, h1, rfl⟩ := h
  refine (rdFixed4_any p s bad w h1).mono ?_
  rintro e w' ⟨rfl, h2, h3⟩
  obtain ⟨e1, e2⟩ := rawOut_st s bad 4
  exact ⟨by rw [e1]; simp [str], ⟨_, _, h2, e2⟩, h3⟩
/-- How many restarts a block says. -/
def tailN (l : List UInt8) : Nat := value (l.drop (l.length - 4))
/-- Where they begin. -/
def tailE (l : List UInt8) : Nat := l.length - 4 - 4 * tailN l
/-- The k-th restart. -/
def tailR (l : List UInt8) (k : Nat) : Nat := value ((l.drop (tailE l + 4 * k)).take 4)
def tailOk (l : List UInt8) : Prop := 4 ≤ l.length ∧ tailN l ≤ 4096 ∧ 4 * tailN l ≤ l.length - 4
instance (l : List UInt8) : Decidable (tailOk l) := by unfold tailOk; infer_instance
theorem tailN_lt (l : List UInt8) : tailN l < 4294967296 := value_lt4 _ (by rw [List.length_drop]; omega)
theorem tailR_lt (l : List UInt8) (k : Nat) : tailR l k < 4294967296 := value_lt4 _ (List.length_take_le _ _)
theorem rawS4 (l : List UInt8) (h : 4 ≤ l.length) : rawS 4 (some l) = (l.take 4, some (l.drop 4)) := by
  unfold rawS
  simp only []
  rw [if_neg (by omega)]
  rfl
/-- The restarts, as a call's own slice of numbers. -/
structure TB (w wx : World) (s : ByteArray) (k : Nat) (v : Value) (p : Nat) : Prop where
  own : wx.ownsRow w.heap.size 3 1 v k ((List.range k).map fun j : Nat => Value.int .i64 (tailR (bl s) j))
  rd : RO wx p (some ((bl s).drop (tailE (bl s) + 4 * k)))
  ne : v.ownBlock ≠ some p
  be : Below w.heap.size w wx
set_option maxRecDepth 100000 in
set_option maxHeartbeats 2000000 in
theorem tail_any (s : ByteArray) (w : World) (hs : s.size ≤ 1000000000) :
    Calls Try.prog 36 #[.string s] w fun e w' => Below w.heap.size w w' ∧
      ((¬ tailOk (bl s) ∧ e = .returned (.tuple #[.slice none 0 0, .int .i64 0, .bool false])) ∨
       (tailOk (bl s) ∧ ∃ v, e = .returned (.tuple #[v, .int .i64 (tailE (bl s)), .bool true]) ∧ w'.ownsRow w.heap.size 3 1 v (tailN (bl s)) ((List.range (tailN (bl s))).map fun j : Nat => Value.int .i64 (tailR (bl s) j)))) := by
  have HRD := Lib.hid read_o
  have HF4 := Lib.hid fixed4_o
  have hN := tailN_lt (bl s)
  have eb := bl_size s
  by_cases h4 : s.size < 4
  · have d1 : decide ((s.size : Int) < 4) = true := by rw [decide_eq_true_eq]; omega
    have hno : ¬ tailOk (bl s) := by unfold tailOk; omega
    have HNO := Lib.hid hno
    clear hno
    go_enter Try.func36, Try.ntmps36
    go_wp2_with fail
    exact bodyPost_ret (v := .tuple #[.slice none 0 0, .int .i64 0, .bool false]) (by simp [results, Try.results36, go_sem]) rfl ⟨Below.refl _ _, .inl ⟨HNO.out, rfl⟩⟩
  · have d1 : decide ((s.size : Int) < 4) = false := by rw [decide_eq_false_iff_not]; omega
    have ex : s.extract (s.size - 4) s.size = str ((bl s).drop (s.size - 4)) := by
      rw [← str_bl (s.extract _ _), ext_bl, List.take_of_length_le (by rw [List.length_drop, eb]; exact Nat.le_refl _)]
    have HEX := Lib.hid ex
    clear ex
    go_enter Try.func36, Try.ntmps36
    go_wp2_with fail
    rw [HEX.out]
    (with_reducible refine (HRD.out _ _ ?_).mono ?_)
    · rw [← HEX.out, ByteArray.size_extract]; unfold maxLen; omega
    rintro e w1 ⟨rfl, h1, hf1⟩
    rw [bl_str] at h1
    have H1 := Lib.hid h1
    have HF1 := Lib.hid hf1
    clear h1 hf1
    go_wp2_with fail
    (with_reducible refine (HF4.out _ _ _ H1.out).mono ?_)
    rintro e w2 ⟨rfl, -, hf2⟩
    have hr : value (rawS 4 (some ((bl s).drop (s.size - 4)))).1 = tailN (bl s) := by
      rw [rawS4 _ (by rw [List.length_drop]; omega)]
      simp only []
      rw [List.take_of_length_le (by rw [List.length_drop]; omega)]
      unfold tailN
      rw [eb]
    rw [hr]
    have HB2 : Hid (Below w.heap.size w w2) := Lib.hid (HF1.out.trans (hf2.below HF1.out.size (fun k _ hk => by unfold RdS at hk; omega)))
    clear hf2 hr
    by_cases hok : tailOk (bl s)
    · have HOK := Lib.hid hok
      obtain ⟨-, hk1, hk2⟩ := hok
      have hE : ((s.size : Int) - 4 - 4 * (tailN (bl s) : Int)) = (tailE (bl s) : Int) := by unfold tailE; omega
      have hE2 : s.size - 4 - 4 * tailN (bl s) = tailE (bl s) := by unfold tailE; omega
      have d2 : decide ((4096 : Int) < (tailN (bl s) : Int)) = false := by rw [decide_eq_false_iff_not]; omega
      have d3 : decide ((s.size : Int) - 4 - 4 * (tailN (bl s) : Int) < 0) = false := by rw [decide_eq_false_iff_not]; omega
      have ex : s.extract (s.size - 4 - 4 * tailN (bl s)) s.size = str ((bl s).drop (tailE (bl s))) := by
        rw [← str_bl (s.extract _ _), ext_bl, List.take_of_length_le (by rw [List.length_drop, eb]; exact Nat.le_refl _), hE2]
      have HE := Lib.hid hE
      have HEX2 := Lib.hid ex
      have hNE : tailE (bl s) + 4 * tailN (bl s) + 4 = s.size := by omega
      clear hE hE2 ex
      go_wp2_with fail
      rw [HEX2.out]
      (with_reducible refine (HRD.out _ _ ?_).mono ?_)
      · rw [← HEX2.out, ByteArray.size_extract]; unfold maxLen; omega
      rintro e w3 ⟨rfl, h3, hf3⟩
      rw [bl_str] at h3
      have hp : w.heap.size ≤ w2.heap.size := HB2.out.size
      have HB3 : Hid (Below w.heap.size w w3) := Lib.hid (HB2.out.trans (hf3.mono hp))
      have HP := Lib.hid hp
      have H3 := Lib.hid h3
      clear h3 hf3 hp
      generalize w2.heap.size = p at *
      obtain ⟨i0, hi, hz0, hz1, hz2⟩ := info_parts info_int8
      go_wp2_with fail
      go_loopg [8, 37] (tailN (bl s)) (fun g lv iv wr => ∃ k : Nat, k + g = tailN (bl s) ∧ iv = .int .i64 k ∧ TB w wr s k lv p)
      case atStart => exact ⟨0, by omega, rfl, World.ownsRow_nil _ _ _ _, by simpa using H3.out, by simp [Value.ownBlock], HB3.out⟩
      case round =>
        obtain ⟨k, hkg, rfl, hT⟩ := hrel
        obtain ⟨ao, cp, hv⟩ := own_form hT.own
        subst hv
        have HT := Lib.hid hT
        clear hT
        by_cases hlt : k < tailN (bl s)
        · have gk : decide ((k : Int) < (tailN (bl s) : Int)) = true := by rw [decide_eq_true_eq]; omega
          have hlen : 4 ≤ ((bl s).drop (tailE (bl s) + 4 * k)).length := by rw [List.length_drop]; omega
          have hv := tailR_lt (bl s) k
          go_wp2_with fail
          (with_reducible refine (HF4.out _ _ _ HT.out.rd).mono ?_)
          rintro e w4 ⟨rfl, h4, hf4⟩
          have hr : value (rawS 4 (some ((bl s).drop (tailE (bl s) + 4 * k)))).1 = tailR (bl s) k := by
            rw [rawS4 _ hlen]; rfl
          rw [hr]
          rw [rawS4 _ hlen] at h4
          simp only [] at h4
          rw [List.drop_drop] at h4
          have ho4 := owns_of_block HT.out.own (fun j hj => hf4.block j (HT.out.own.lt j hj).2 (fun e => HT.out.ne (by unfold RdS at e; rw [hj, e])))
          have hb4 : Below w.heap.size w w4 := HT.out.be.trans (hf4.below HT.out.be.size (fun j _ hj => by have := HP.out; unfold RdS at hj; omega))
          have HO4 := Lib.hid ho4
          have HB4 := Lib.hid hb4
          have H4 := Lib.hid h4
          clear h4 hf4 hr hlen ho4 hb4
          generalize hx : tailR (bl s) k = x at *
          have HX := Lib.hid hx
          clear hx
          go_wp2_with (at_builtin; refine wpList_append_own_at _ rfl _ _ 29 rfl w.heap.size 3 i0 (.int .i64 0) 1 8 Try.underlying29 hi hz0 hz1 hz2 rfl (by decide) _ _ _ rfl (HO4.out.alloc _) ⟨w4.heap.size, 0, none⟩ 1 1 [.int .i64 x] rfl rfl (fun j y hj => by match j, hj with | 0, hj => (simp at hj; subst hj; simp [Addr.add])) (fun y hy => by simp at hy; subst hy; rfl) (by unfold maxLen; omega) (by omega) (by have := HB4.out.size; simp; omega) ?_; intro v' w5 hown' hgrow hatt1 hatt2)
          have hsz4 := HB4.out.size
          have hfr : Fr (fun j => (Value.slice ao k cp).ownBlock = some j) w4 w5 := ((Fr.refl _ w4).alloc _).grown hgrow (fun _ _ h => h)
          have hT5 : TB w w5 s (k + 1) v' p := by
            refine ⟨?_, ?_, ?_, ?_⟩
            · rw [List.range_succ, List.map_append, List.map_singleton, HX.out]; exact hown'
            · have := H4.out.keep hfr HT.out.ne
              rw [show tailE (bl s) + 4 * (k + 1) = tailE (bl s) + 4 * k + 4 by omega]
              exact this
            · rcases hatt2 with e | e
              · rw [e]; exact HT.out.ne
              · rw [e]
                have := H4.out.lt
                intro e2
                simp at e2
                omega
            · exact (HB4.out.alloc hsz4 _).grown hgrow (by simp; omega) (fun j hj => (HO4.out.lt j hj).1)
          have HT5 := Lib.hid hT5
          clear hown' hgrow hatt1 hatt2 hfr hT5
          go_roundg (tailN (bl s) - (k + 1))
          case measure => omega
          case rel => exact ⟨k + 1, by omega, by go_num, HT5.out⟩
        · obtain rfl : k = tailN (bl s) := by omega
          go_wp2_with fail
          exact bodyPost_ret (v := .tuple #[.slice ao (tailN (bl s)) cp, .int .i64 ((s.size : Int) - 4 - 4 * (tailN (bl s) : Int)), .bool true]) (by simp [results, Try.results36, go_sem]) rfl ⟨HT.out.be, .inr ⟨HOK.out, _, by rw [HE.out], HT.out.own⟩⟩
    · have hno : 4096 < tailN (bl s) ∨ ((s.size : Int) - 4 - 4 * (tailN (bl s) : Int) < 0) := by
        unfold tailOk at hok; omega
      have HNO := Lib.hid hok
      clear hok
      by_cases q : 4096 < tailN (bl s)
      · have d2 : decide ((4096 : Int) < (tailN (bl s) : Int)) = true := by rw [decide_eq_true_eq]; omega
        go_wp2_with fail
        exact bodyPost_ret (v := .tuple #[.slice none 0 0, .int .i64 0, .bool false]) (by simp [results, Try.results36, go_sem]) rfl ⟨HB2.out, .inl ⟨HNO.out, rfl⟩⟩
      · have d2 : decide ((4096 : Int) < (tailN (bl s) : Int)) = false := by rw [decide_eq_false_iff_not]; omega
        have d3 : decide ((s.size : Int) - 4 - 4 * (tailN (bl s) : Int) < 0) = true := by rw [decide_eq_true_eq]; omega
        clear hno
        go_wp2_with fail
        exact bodyPost_ret (v := .tuple #[.slice none 0 0, .int .i64 0, .bool false]) (by simp [results, Try.results36, go_sem]) rfl ⟨HB2.out, .inl ⟨HNO.out, rfl⟩⟩
end Go.Proofs.Ytcoicdaobgneeaa
