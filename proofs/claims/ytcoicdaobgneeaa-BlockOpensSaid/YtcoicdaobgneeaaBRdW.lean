
/-
  A reader by what it has to come; the walk of block's step.
-/
import Derived.Test.YtcoicdaobgneeaaBuild2W
import Derived.Test.YtcoicdaobgneeaaRefNumW
namespace Go.Proofs.Ytcoicdaobgneeaa
open Go.RowKit CodecP

/-- A reader at p: what it has to come; none: it is bad. -/
def RO (w : World) (p : Nat) (o : Option (List UInt8)) : Prop := ∃ s bad, Rd w p s bad ∧ st s bad = o
theorem RO.keep {w w' : World} {S : Nat → Prop} {p : Nat} {o : Option (List UInt8)} (h : RO w p o) (hf : Fr S w w') (hS : ¬ S p) : RO w' p o := by
  obtain ⟨s, bad, h1, h2⟩ := h
  exact ⟨s, bad, h1.keep hf hS, h2⟩
theorem RO.lt {w : World} {p : Nat} {o : Option (List UInt8)} (h : RO w p o) : p < w.heap.size := by
  obtain ⟨s, bad, h1, h2⟩ := h
  exact lt_of_block h1.1
/-- What Size takes. -/
def sz : Option (List UInt8) → Nat × Option (List UInt8)
  | none => (0, none)
  | some l => match tk 0 l with
    | none => (0, none)
    | some (n, r) => if 9223372036854775808 ≤ n then (0, none) else (n, some r)
theorem sizeO_sz (s : ByteArray) (bad : Bool) : sizeO s bad = sz (st s bad) := by
  unfold sizeO tkI st sz
  cases bad with
  | true => simp
  | false =>
    simp only [Bool.false_eq_true, if_false]
    cases tk 0 (bl s) with
    | none => simp
    | some x => obtain ⟨n, r⟩ := x; simp
theorem sz_lt (o : Option (List UInt8)) : (sz o).1 < 9223372036854775808 := by
  unfold sz
  cases o with
  | none => decide
  | some l =>
    simp only []
    cases tk 0 l with
    | none => decide
    | some x =>
      obtain ⟨n, r⟩ := x
      simp only []
      split
      · decide
      · simp only []; omega
theorem size_o (p : Nat) (o : Option (List UInt8)) (w : World) (h : RO w p o) :
    Calls Try.prog 55 #[(Value.pointer (some ⟨p, 0, none⟩))] w fun e w' => e = .returned (.int .i64 ((sz o).1 : Nat)) ∧ RO w' p (sz o).2 ∧ Fr (RdS p) w w' := by
  obtain ⟨s, bad, h1, rfl⟩ := h
  refine (rdSize_any p s bad w h1).mono ?_
  rintro e w' ⟨rfl, s', b', h2, h3, h4⟩
  rw [sizeO_sz] at h3 ⊢
  exact ⟨rfl, ⟨s', b', h2, h3⟩, h4⟩
theorem raw_o (p : Nat) (o : Option (List UInt8)) (n : Int) (w : World) (h : RO w p o) :
    Calls Try.prog 56 #[(Value.pointer (some ⟨p, 0, none⟩)), .int .i64 n] w fun e w' => e = .returned (.string (str (rawS n o).1)) ∧ RO w' p (rawS n o).2 ∧ Fr (RdS p) w w' := by
  obtain ⟨s, bad, h1, rfl⟩ := h
  refine (rdRaw_any p s bad n w h1).mono ?_
  rintro e w' ⟨rfl, h2, h3⟩
  obtain ⟨e1, e2⟩ := rawOut_st s bad n
  exact ⟨by rw [e1], ⟨_, _, h2, e2⟩, h3⟩
theorem good_o (p : Nat) (o : Option (List UInt8)) (w : World) (h : RO w p o) :
    Calls Try.prog 40 #[(Value.pointer (some ⟨p, 0, none⟩))] w fun e w' => e = .returned (.bool o.isSome) ∧ w = w' := by
  obtain ⟨s, bad, h1, rfl⟩ := h
  refine (good_any p s bad w h1).mono ?_
  rintro e w' ⟨rfl, rfl⟩
  cases bad <;> exact ⟨rfl, rfl⟩
theorem left_o (p : Nat) (o : Option (List UInt8)) (w : World) (h : RO w p o) :
    Calls Try.prog 38 #[(Value.pointer (some ⟨p, 0, none⟩))] w fun e w' => e = .returned (.int .i64 ((o.getD []).length : Nat)) ∧ w = w' := by
  obtain ⟨s, bad, h1, rfl⟩ := h
  refine (left_any p s bad w h1).mono ?_
  rintro e w' ⟨rfl, rfl⟩
  cases bad
  · exact ⟨by simp [st, bl_size], rfl⟩
  · exact ⟨rfl, rfl⟩
theorem end_o (p : Nat) (o : Option (List UInt8)) (w : World) (h : RO w p o) :
    Calls Try.prog 41 #[(Value.pointer (some ⟨p, 0, none⟩))] w fun e w' => e = .returned (.bool (decide (o = some []))) ∧ w = w' := by
  obtain ⟨s, bad, h1, rfl⟩ := h
  refine (end_any p s bad w h1).mono ?_
  rintro e w' ⟨rfl, rfl⟩
  refine ⟨?_, rfl⟩
  have e : (s.size == 0) = decide (bl s = []) := by rw [Bool.eq_iff_iff, beq_iff_eq, decide_eq_true_eq, ← bl_size, List.length_eq_zero_iff]
  cases bad
  · rw [e]; simp [st]
  · simp [st]
theorem read_o (s : ByteArray) (w : World) (hs : s.size ≤ maxLen) :
    Calls Try.prog 37 #[.string s] w fun e w' => e = .returned ((Value.pointer (some ⟨w.heap.size, 0, none⟩))) ∧ RO w' w.heap.size (some (bl s)) ∧ Below w.heap.size w w' := by
  refine (read_any s w hs).mono ?_
  rintro e w' ⟨rfl, h1, h2⟩
  exact ⟨rfl, ⟨s, false, h1, rfl⟩, h2⟩
/-- What step takes behind a key: the pair, how much of the key it had in common, what is to come. -/
def stepF (last : List UInt8) (o : Option (List UInt8)) : Option (Pr × Nat × List UInt8) :=
  let a := sz o
  let b := sz a.2
  let c := sz b.2
  match (if last.length < a.1 ∨ 80 < b.1 ∨ 16000 < c.1 then none else c.2) with
  | none => none
  | some l => if l.length < b.1 + c.1 then none else some ((last.take a.1 ++ l.take b.1, (l.drop b.1).take c.1), a.1, l.drop (b.1 + c.1))
def prO (x : Option (Pr × Nat × List UInt8)) : Pr := match x with
  | none => ([], [])
  | some y => y.1
def smO (x : Option (Pr × Nat × List UInt8)) : Nat := match x with
  | none => 0
  | some y => y.2.1
def rsO (x : Option (Pr × Nat × List UInt8)) : Option (List UInt8) := x.map (fun y => y.2.2)
/-- What two Raws take one behind the other. -/
theorem raws (o : Option (List UInt8)) (b c : Nat) : (o = none ∧ (rawS c (rawS b o).2).2 = none) ∨ ∃ l, o = some l ∧
    ((l.length < b + c ∧ (rawS c (rawS b o).2).2 = none) ∨ (b + c ≤ l.length ∧ (rawS b o).1 = l.take b ∧ (rawS c (rawS b o).2).1 = (l.drop b).take c ∧ (rawS c (rawS b o).2).2 = some (l.drop (b + c)))) := by
  cases o with
  | none => exact .inl ⟨rfl, rfl⟩
  | some l =>
    refine .inr ⟨l, rfl, ?_⟩
    by_cases h1 : l.length < b
    · left
      have e : rawS (b : Int) (some l) = ([], none) := by unfold rawS; simp only []; rw [if_pos (by omega)]
      rw [e]; exact ⟨by omega, by simp [rawS]⟩
    · have e : rawS (b : Int) (some l) = (l.take b, some (l.drop b)) := by unfold rawS; simp only []; rw [if_neg (by omega)]; simp
      rw [e]
      simp only []
      by_cases h2 : l.length < b + c
      · left
        have e2 : rawS (c : Int) (some (l.drop b)) = ([], none) := by unfold rawS; simp only []; rw [if_pos (by rw [List.length_drop]; omega)]
        rw [e2]; exact ⟨h2, rfl⟩
      · right
        have e2 : rawS (c : Int) (some (l.drop b)) = ((l.drop b).take c, some ((l.drop b).drop c)) := by unfold rawS; simp only []; rw [if_neg (by rw [List.length_drop]; omega)]; simp
        rw [e2, List.drop_drop]
        refine ⟨by omega, ?_, ?_, ?_⟩ <;> first | trivial | rfl
/-- A pair's cells, written. -/
theorem two_cells {w : World} {b : Nat} {x y : Value} {t : TypeId} (h : w.heap[b]? = some (.cells #[x, y] t (0, 0))) (u v : Value) :
    (w.setCell ⟨b, 0, none⟩ u).cell? ⟨b, 0, none⟩ = some u ∧ ((w.setCell ⟨b, 0, none⟩ u).setCell ⟨b, 1, none⟩ v).cell? ⟨b, 1, none⟩ = some v ∧ ((w.setCell ⟨b, 0, none⟩ u).setCell ⟨b, 1, none⟩ v).cell? ⟨b, 0, none⟩ = some u :=
  ⟨cellOf2 (setAt2 (o := 0) u h) rfl, cellOf2 (setAt2 (o := 1) v (setAt2 (o := 0) u h)) rfl, cellOf2 (setAt2 (o := 1) v (setAt2 (o := 0) u h)) rfl⟩
set_option maxRecDepth 100000 in
set_option maxHeartbeats 2000000 in
theorem step_any (p : Nat) (last : ByteArray) (o : Option (List UInt8)) (w : World) (h : RO w p o) (hl : last.size ≤ 1000000) :
    Calls Try.prog 39 #[(Value.pointer (some ⟨p, 0, none⟩)), .string last] w fun e w' => e = .returned (.tuple #[.agg #[.string (str (prO (stepF (bl last) o)).1), .string (str (prO (stepF (bl last) o)).2)], .int .i64 (smO (stepF (bl last) o))]) ∧ RO w' p (rsO (stepF (bl last) o)) ∧ Fr (RdS p) w w' := by
  have hp := h.lt
  have HSZ := Lib.hid size_o
  have HRW := Lib.hid raw_o
  have HGD := Lib.hid good_o
  have h1 : RO (w.alloc (.cells #[.string ⟨#[]⟩, .string ⟨#[]⟩] 48)) p o := h.keep ((Fr.refl (fun _ => False) w).alloc _) (fun h => h)
  have H1 := Lib.hid h1
  have HF1 := Lib.hid ((Fr.refl (RdS p) w).alloc (.cells #[.string ⟨#[]⟩, .string ⟨#[]⟩] 48))
  have hc0 : ∀ W, Fr (RdS p) (w.alloc (.cells #[.string ⟨#[]⟩, .string ⟨#[]⟩] 48)) W → W.heap[w.heap.size]? = some (.cells #[.string ⟨#[]⟩, .string ⟨#[]⟩] 48 (0, 0)) := fun W hW => by
    rw [hW.block w.heap.size (by simp) (fun e => by unfold RdS at e; omega)]
    show (w.heap.push _)[w.heap.size]? = _
    simp
  have HC0 := Lib.hid hc0
  obtain ⟨a, ha⟩ : ∃ a, a = sz o := ⟨_, rfl⟩
  obtain ⟨b, hb⟩ : ∃ b, b = sz a.2 := ⟨_, rfl⟩
  obtain ⟨c, hc⟩ : ∃ c, c = sz b.2 := ⟨_, rfl⟩
  have la := sz_lt o
  have lb := sz_lt a.2
  have lc := sz_lt b.2
  rw [← ha] at la
  rw [← hb] at lb
  rw [← hc] at lc
  have HX : Hid (stepF (bl last) o = match (if (bl last).length < a.1 ∨ 80 < b.1 ∨ 16000 < c.1 then none else c.2) with
    | none => none
    | some l => if l.length < b.1 + c.1 then none else some (((bl last).take a.1 ++ l.take b.1, (l.drop b.1).take c.1), a.1, l.drop (b.1 + c.1))) := Lib.hid (by rw [hc, hb, ha]; rfl)
  obtain ⟨a1, a2⟩ := a
  obtain ⟨b1, b2⟩ := b
  obtain ⟨c1, c2⟩ := c
  simp only [bl_size] at *
  have HA := Lib.hid ha
  have HB := Lib.hid hb
  have HC := Lib.hid hc
  generalize hX : stepF (bl last) o = X at *
  clear h h1 hc0 ha hb hc hX
  go_enter Try.func39, Try.ntmps39
  go_wp2_with fail
  generalize w.alloc (.cells #[.string ⟨#[]⟩, .string ⟨#[]⟩] 48) = w1 at *
  go_wp2_with fail
  (with_reducible refine (HSZ.out _ _ _ H1.out).mono ?_)
  rintro e w2 ⟨rfl, h2, hf2⟩
  rw [← HA.out] at h2 ⊢
  have H2 := Lib.hid h2
  have HF2 := Lib.hid hf2
  clear h2 hf2
  go_wp2_with fail
  (with_reducible refine (HSZ.out _ _ _ H2.out).mono ?_)
  rintro e w3 ⟨rfl, h3, hf3⟩
  rw [← HB.out] at h3 ⊢
  have H3 := Lib.hid h3
  have HF3 := Lib.hid (HF2.out.trans hf3 (fun _ _ h => h))
  clear h3 hf3
  go_wp2_with fail
  (with_reducible refine (HSZ.out _ _ _ H3.out).mono ?_)
  rintro e w4 ⟨rfl, h4, hf4⟩
  rw [← HC.out] at h4 ⊢
  have H4 := Lib.hid h4
  have HF4 := Lib.hid (HF3.out.trans hf4 (fun _ _ h => h))
  clear h4 hf4
  (try simp only [] at H4 HX)
  have hc4 := HC0.out w4 HF4.out
  have nn : ∀ n, rawS n none = ([], none) := fun n => rfl
  have neg : ∀ o', rawS (-1) o' = ([], none) := fun o' => by cases o' <;> simp [rawS]
  by_cases hbad : last.size < a1 ∨ 80 < b1 ∨ 16000 < c1
  · have hX : X = none := by rw [HX.out, if_pos hbad]
    subst hX
    have hcase : (decide (last.size < a1) = true ∧ True) ∨ (decide (last.size < a1) = false ∧ decide ((80 : Int) < (b1 : Int)) = true) ∨ (decide (last.size < a1) = false ∧ decide ((80 : Int) < (b1 : Int)) = false ∧ decide ((16000 : Int) < (c1 : Int)) = true) := by
      simp only [decide_eq_true_eq, decide_eq_false_iff_not]
      by_cases q1 : last.size < a1
      · exact .inl ⟨q1, trivial⟩
      · by_cases q2 : 80 < b1
        · exact .inr (.inl ⟨q1, by omega⟩)
        · exact .inr (.inr ⟨q1, by omega, by omega⟩)
    clear hbad
    have tl : ∀ W, RO W p none → Fr (RdS p) w1 W → W.heap[w.heap.size]? = some (.cells #[.string ⟨#[]⟩, .string ⟨#[]⟩] 48 (0, 0)) := fun W _ hW => HC0.out W hW
    rcases hcase with ⟨d1, -⟩ | ⟨d1, d2⟩ | ⟨d1, d2, d3⟩
    all_goals
      go_wp2_with fail
      (with_reducible refine (HRW.out _ _ _ _ H4.out).mono ?_)
      rintro e w5 ⟨rfl, h5, hf5⟩
      rw [neg] at h5 ⊢
      have H5 := Lib.hid h5
      have HF5 := Lib.hid (HF4.out.trans hf5 (fun _ _ h => h))
      clear h5 hf5
      go_wp2_with fail
      (with_reducible refine (HRW.out _ _ _ _ H5.out).mono ?_)
      rintro e w6 ⟨rfl, h6, hf6⟩
      rw [nn] at h6 ⊢
      have H6 := Lib.hid h6
      have HF6 := Lib.hid (HF5.out.trans hf6 (fun _ _ h => h))
      clear h6 hf6
      go_wp2_with fail
      (with_reducible refine (HRW.out _ _ _ _ H6.out).mono ?_)
      rintro e w7 ⟨rfl, h7, hf7⟩
      rw [nn] at h7 ⊢
      have H7 := Lib.hid h7
      have HF7 := Lib.hid (HF6.out.trans hf7 (fun _ _ h => h))
      clear h7 hf7
      go_wp2_with fail
      (with_reducible refine (HGD.out _ _ _ H7.out).mono ?_)
      rintro e w8 ⟨rfl, rfl⟩
      have hc7 := HC0.out _ HF7.out
      have k0 := cellOf2 (o := 0) hc7 rfl
      have k1 := cellOf2 (o := 1) hc7 rfl
      have g0 := free_of2 0 hc7
      have g1 := free_of2 1 hc7
      go_wp2_with fail
      obtain ⟨x0, x1, x2⟩ := two_cells hc7 (.string ⟨#[]⟩) (.string ⟨#[]⟩)
      have hB := ((Fr.refl (fun k => k = w.heap.size) w7).setCell (p := ⟨w.heap.size, 0, none⟩) (.inl rfl) (.string ⟨#[]⟩)).setCell (p := ⟨w.heap.size, 1, none⟩) (.inl rfl) (.string ⟨#[]⟩)
      refine bodyPost_ret (v := .tuple #[.agg #[.string ⟨#[]⟩, .string ⟨#[]⟩], .int .i64 0]) (by simp [results, Try.results39, go_sem, x1, x2]) rfl ⟨rfl, H7.out.keep hB (fun e => by omega), ?_⟩
      exact ((HF1.out.trans HF7.out (fun _ _ h => h)).setCell (.inr (Nat.le_refl _)) _).setCell (.inr (Nat.le_refl _)) _
  · have hX := HX.out
    rw [if_neg hbad] at hX
    have d1 : decide (last.size < a1) = false := decide_eq_false (fun h => hbad (.inl h))
    have d2 : decide ((80 : Int) < (b1 : Int)) = false := decide_eq_false (fun h => hbad (.inr (.inl (by omega))))
    have d3 : decide ((16000 : Int) < (c1 : Int)) = false := decide_eq_false (fun h => hbad (.inr (.inr (by omega))))
    have la1 : a1 ≤ last.size := by omega
    have lb1 : b1 ≤ 80 := by omega
    have hcase : ((rawS c1 (rawS b1 c2).2).2 = none ∧ X = none) ∨ ∃ l : List UInt8, (rawS b1 c2).1 = l.take b1 ∧ (rawS c1 (rawS b1 c2).2).1 = (l.drop b1).take c1 ∧ (rawS c1 (rawS b1 c2).2).2 = some (l.drop (b1 + c1)) ∧ X = some (((bl last).take a1 ++ l.take b1, (l.drop b1).take c1), a1, l.drop (b1 + c1)) := by
      rcases raws c2 b1 c1 with ⟨e, q⟩ | ⟨l, e, ⟨q0, q⟩ | ⟨q0, q1, q2, q3⟩⟩
      · exact .inl ⟨q, by rw [hX, e]⟩
      · exact .inl ⟨q, by rw [hX, e]; simp only []; rw [if_pos q0]⟩
      · exact .inr ⟨l, q1, q2, q3, by rw [hX, e]; simp only []; rw [if_neg (by omega)]⟩
    clear hX hbad HX
    rcases hcase with ⟨q, rfl⟩ | ⟨l, q1, q2, q3, rfl⟩
    all_goals
      go_wp2_with fail
      (with_reducible refine (HRW.out _ _ _ _ H4.out).mono ?_)
      rintro e w6 ⟨rfl, h6, hf6⟩
      have H6 := Lib.hid h6
      have HF6 := Lib.hid (HF4.out.trans hf6 (fun _ _ h => h))
      clear h6 hf6
      go_wp2_with fail
      (with_reducible refine (HRW.out _ _ _ _ H6.out).mono ?_)
      rintro e w7 ⟨rfl, h7, hf7⟩
      have H7 := Lib.hid h7
      have HF7 := Lib.hid (HF6.out.trans hf7 (fun _ _ h => h))
      clear h7 hf7
      have hc7 := HC0.out _ HF7.out
      have k0 := cellOf2 (o := 0) hc7 rfl
      have k1 := cellOf2 (o := 1) hc7 rfl
      have g0 := free_of2 0 hc7
      have g1 := free_of2 1 hc7
    · rw [q] at H7
      go_wp2_with fail
      (with_reducible refine (HGD.out _ _ _ H7.out).mono ?_)
      rintro e w8 ⟨rfl, rfl⟩
      go_wp2_with fail
      obtain ⟨x0, x1, x2⟩ := two_cells hc7 (.string ⟨#[]⟩) (.string ⟨#[]⟩)
      have hB := ((Fr.refl (fun k => k = w.heap.size) w7).setCell (p := ⟨w.heap.size, 0, none⟩) (.inl rfl) (.string ⟨#[]⟩)).setCell (p := ⟨w.heap.size, 1, none⟩) (.inl rfl) (.string ⟨#[]⟩)
      refine bodyPost_ret (v := .tuple #[.agg #[.string ⟨#[]⟩, .string ⟨#[]⟩], .int .i64 0]) (by simp [results, Try.results39, go_sem, x1, x2]) rfl ⟨rfl, H7.out.keep hB (fun e => by omega), ?_⟩
      exact ((HF1.out.trans HF7.out (fun _ _ h => h)).setCell (.inr (Nat.le_refl _)) _).setCell (.inr (Nat.le_refl _)) _
    · rw [q3] at H7
      rw [q2]
      have es : last.extract 0 a1 ++ str (l.take b1) = str ((bl last).take a1 ++ l.take b1) := by
        rw [← str_append, ← str_bl (last.extract 0 a1), ext_bl, List.drop_zero, Nat.sub_zero]
      have hov : ¬ 9223372036854775807 < a1 + (str (l.take b1)).size := by
        have : (str (l.take b1)).size ≤ b1 := by rw [show (str (l.take b1)).size = (l.take b1).length by simp [str, ByteArray.size]]; exact List.length_take_le _ _
        omega
      go_wp2_with fail
      (with_reducible refine (HGD.out _ _ _ H7.out).mono ?_)
      rintro e w8 ⟨rfl, rfl⟩
      go_wp2_with fail
      obtain ⟨x0, x1, x2⟩ := two_cells hc7 (.string (str ((bl last).take a1 ++ l.take b1))) (.string (str ((l.drop b1).take c1)))
      have hB := ((Fr.refl (fun k => k = w.heap.size) w7).setCell (p := ⟨w.heap.size, 0, none⟩) (.inl rfl) (.string (str ((bl last).take a1 ++ l.take b1)))).setCell (p := ⟨w.heap.size, 1, none⟩) (.inl rfl) (.string (str ((l.drop b1).take c1)))
      refine bodyPost_ret (v := .tuple #[.agg #[.string (str ((bl last).take a1 ++ l.take b1)), .string (str ((l.drop b1).take c1))], .int .i64 a1]) (by simp [results, Try.results39, go_sem, x1, x2]) rfl ⟨rfl, H7.out.keep hB (fun e => by omega), ?_⟩
      exact ((HF1.out.trans HF7.out (fun _ _ h => h)).setCell (.inr (Nat.le_refl _)) _).setCell (.inr (Nat.le_refl _)) _
end Go.Proofs.Ytcoicdaobgneeaa
