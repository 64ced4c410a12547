
/-
  The walk of block's At and Get.
-/
import Derived.Test.YtcoicdaobgneeaaLongW
namespace Go.Proofs.Ytcoicdaobgneeaa
open Go.RowKit CodecP

/-- A block that holds a pair. -/
def At2 (w : World) (c : Nat) (q : Pr) : Prop := w.heap[c]? = some (.cells #[.string (str q.1), .string (str q.2)] 48 (0, 0))
theorem At2.below {w w' : World} {c : Nat} {q : Pr} (h : At2 w c q) (hb : Below w.heap.size w w') : At2 w' c q := (hb.block c (lt_of_block h)).trans h
theorem At2.new (w : World) (q : Pr) : At2 (w.alloc (.cells #[.string (str q.1), .string (str q.2)] 48)) w.heap.size q := by
  show (w.heap.push _)[w.heap.size]? = _
  simp
theorem At2.set {w : World} {c : Nat} {q : Pr} (h : At2 w c q) (q' : Pr) : At2 ((w.setCell ⟨c, 0, none⟩ (.string (str q'.1))).setCell ⟨c, 1, none⟩ (.string (str q'.2))) c q' :=
  setAt2 (o := 1) _ (setAt2 (o := 0) _ h)
set_option maxRecDepth 100000 in
set_option maxHeartbeats 2000000 in
theorem at1_any (n i : Nat) (q q0 : Pr) (co ci : Nat) (w : World) (ho : At2 w co q0) (hi : At1 w ci (.int .i64 i) 3) :
    Calls Try.prog 46 #[.int .i64 n, prV q, (Value.pointer (some ⟨co, 0, none⟩)), (Value.pointer (some ⟨ci, 0, none⟩))] w fun e w' => e = .returned (.bool (decide (n < i))) ∧ At2 w' co q ∧ Fr (fun k => k = co) w w' := by
  unfold prV
  have hne : co ≠ ci := fun e => by
    have h1 := ho
    have h2 := hi
    unfold At2 at h1
    unfold At1 at h2
    rw [e, h2] at h1
    simp at h1
  have hfr : Fr (fun _ => False) w (w.alloc (.cells #[.string (str q.1), .string (str q.2)] 48)) := (Fr.refl _ w).alloc _
  have hp1 := At2.new w q
  have ho1 : At2 _ co q0 := (hfr.block co (lt_of_block ho) (fun h => h)).trans ho
  have hi1 : At1 _ ci _ _ := (hfr.block ci (lt_of_block hi) (fun h => h)).trans hi
  have HFR := Lib.hid hfr
  have HP1 := Lib.hid hp1
  have HO1 := Lib.hid ho1
  have HI1 := Lib.hid hi1
  clear hi ho hfr hp1 ho1 hi1
  go_enter Try.func46, Try.ntmps46
  go_upto_region 1 with (fail)
  generalize w.alloc (.cells #[.string (str q.1), .string (str q.2)] 48) = w5 at *
  have k0 := cellOf2 (o := 0) HP1.out rfl
  have k1 := cellOf2 (o := 1) HP1.out rfl
  have o0 := cellOf2 (o := 0) HO1.out rfl
  have f0 := free_of2 0 HO1.out
  have o1 := cellOf2 (o := 1) (setAt2 (o := 0) (.string (str q.1)) HO1.out) rfl
  have f1 := free_of2 1 (setAt2 (o := 0) (.string (str q.1)) HO1.out)
  have hs2 := HO1.out.set q
  have hf2 : Fr (fun k => k = co) w5 ((w5.setCell ⟨co, 0, none⟩ (.string (str q.1))).setCell ⟨co, 1, none⟩ (.string (str q.2))) :=
    ((Fr.refl (fun k => k = co) w5).setCell (p := ⟨co, 0, none⟩) (.inl rfl) _).setCell (p := ⟨co, 1, none⟩) (.inl rfl) _
  have hi2 := (hf2.block ci (lt_of_block HI1.out) (fun e => hne e.symm)).trans HI1.out
  have HS2 := Lib.hid hs2
  have HF2 := Lib.hid hf2
  have HI2 := Lib.hid hi2
  clear hs2 hf2 hi2
  go_upto_region 2 with (fail)
  generalize (w5.setCell ⟨co, 0, none⟩ (.string (str q.1))).setCell ⟨co, 1, none⟩ (.string (str q.2)) = w6 at *
  have c6 := cellOf2 (o := 0) HI2.out rfl
  have dl : decide ((n : Int) < (i : Int)) = decide (n < i) := by congr 1; exact propext Int.ofNat_lt
  have HD := Lib.hid dl
  clear dl k0 k1 o0 f0 o1 f1
  go_wp2_with fail
  go_ret
  exact ⟨by congr 2, HS2.out, (HFR.out.mono (T := fun k => k = co) (fun _ _ h => h.elim)).trans HF2.out (fun _ _ h => h)⟩
theorem at1_enter (args : Array Value) (w : World) : (callFunc 46 args).run Try.prog w = .ok (.enter 46 args) w := by rfl
theorem from_at (i co ci p B : Nat) (v : Value) (l : List Pr) (q0 : Pr) (w : World) (h : Bk w B p v l) (ho : At2 w co q0) (hci : At1 w ci (.int .i64 i) 3) (hi : i < l.length) (hp : p ≠ co) (hv : ∀ g, v.ownBlock = some g → g ≠ co) :
    Calls Try.prog 42 #[(Value.pointer (some ⟨p, 0, none⟩)), .int .i64 (i / 8 : Nat), .func (.func 46) #[] #[(Value.pointer (some ⟨co, 0, none⟩)), (Value.pointer (some ⟨ci, 0, none⟩))]] w fun e w' => e = .returned (.tuple #[]) ∧ At2 w' co l[i] ∧ Fr (fun k => k = co) w w' := by
  have hne : co ≠ ci := fun e => by
    have h1 := ho
    have h2 := hci
    unfold At2 at h1
    unfold At1 at h2
    rw [e, h2] at h1
    simp at h1
  have hcl := lt_of_block ho
  have hkl := lt_of_block hci
  refine (from_any (fun n w1 U => n ≤ i ∧ (∃ q, At2 w1 co q) ∧ At1 w1 ci (.int .i64 i) 3 ∧ U = fun k => k = co) (fun w1 => At2 w1 co l[i]) (fun k => k = co) 46 #[(Value.pointer (some ⟨co, 0, none⟩)), (Value.pointer (some ⟨ci, 0, none⟩))] at1_enter B p v l (i / 8) w h (by omega) hp ⟨_, by omega, ⟨q0, ho⟩, hci, rfl⟩
    ?_ ?_ ?_).mono ?_
  · rintro n w1 w2 U ⟨h1, ⟨q, h2⟩, h3, rfl⟩ hf
    exact ⟨h1, ⟨q, (hf.block co (lt_of_block h2) (by omega)).trans h2⟩, (hf.block ci (lt_of_block h3) (by omega)).trans h3, rfl⟩
  · rintro n w1 U hw ⟨h1, ⟨q, h2⟩, h3, rfl⟩ k rfl
    exact ⟨lt_of_block h2, fun e => hp e.symm, by omega, fun g hg e => hv g hg e.symm, fun _ => rfl⟩
  · rintro n hn w1 U hw ⟨h1, ⟨q, h2⟩, h3, rfl⟩
    refine (at1_any n i l[n] q co ci w1 h2 h3).mono ?_
    rintro e w2 ⟨rfl, ho2, hf⟩
    by_cases hlt : n < i
    · rw [decide_eq_true hlt]
      exact ⟨hf, .inl ⟨rfl, _, by omega, ⟨_, ho2⟩, (hf.block ci (lt_of_block h3) (fun e => hne e.symm)).trans h3, rfl⟩⟩
    · rw [decide_eq_false hlt]
      obtain rfl : n = i := by omega
      exact ⟨hf, .inr ⟨rfl, ho2⟩⟩
  · rintro e w2 ⟨rfl, hf, ⟨U, h1, -⟩ | ⟨w1, h1, h2⟩⟩
    · omega
    · exact ⟨rfl, (h2.block co (lt_of_block h1) (fun h => h)).trans h1, hf⟩
set_option maxRecDepth 100000 in
set_option maxHeartbeats 2000000 in
theorem at_yes (i p B : Nat) (v : Value) (l : List Pr) (w : World) (h : Bk w B p v l) (hi : i < l.length) :
    Calls Try.prog 23 #[(Value.pointer (some ⟨p, 0, none⟩)), .int .i64 i] w fun e w' => e = .returned (.tuple #[prV l[i], .bool true]) ∧ Below w.heap.size w w' := by
  unfold prV
  obtain ⟨w1, hw1⟩ : ∃ w1, w1 = (w.alloc (.cells #[.int .i64 i] 3)).alloc (.cells #[.string (str []), .string (str [])] 48) := ⟨_, rfl⟩
  have hb1 : Below w.heap.size w w1 := by rw [hw1]; exact ((Below.refl _ w).alloc (Nat.le_refl _) _).alloc (by simp) _
  have hs1 : w1.heap.size = w.heap.size + 2 := by rw [hw1]; simp
  have hc1 : At1 w1 w.heap.size (.int .i64 i) 3 := by rw [hw1]; exact (At1.new w _ _).alloc _
  have hr1 : At2 w1 (w.heap.size + 1) ([], []) := by
    rw [hw1]
    have h2 := At2.new (w.alloc (.cells #[.int .i64 i] 3)) ([], [])
    rw [show (w.alloc (.cells #[.int .i64 i] 3)).heap.size = w.heap.size + 1 by simp] at h2
    exact h2
  have hplt := lt_of_block h.cells
  have hrow : ∀ g, v.ownBlock = some g → g < w.heap.size := fun g hg => (h.row.lt g hg).2
  have hk1 := h2_of hb1 h
  have hle := h.rise.le
  have cc : w1.cell? ⟨w.heap.size, 0, none⟩ = some (.int .i64 i) := cellOf2 (o := 0) hc1 rfl
  have HLN := Lib.hid (fun W (hW : Below w1.heap.size w1 W) => bk_len p B v l W (h2_of hW hk1))
  have HW1 := Lib.hid hw1
  have HB1 := Lib.hid hb1
  have HS1 := Lib.hid hs1
  have HC1 := Lib.hid hc1
  have HR1 := Lib.hid hr1
  have HROW := Lib.hid hrow
  have HK1 := Lib.hid hk1
  clear h hw1 hb1 hs1 hc1 hr1 hrow hk1
  have d0 : decide ((i : Int) < 0) = false := by rw [decide_eq_false_iff_not]; omega
  have d1 : decide (l.length ≤ i) = false := by rw [decide_eq_false_iff_not]; omega
  go_enter Try.func23, Try.ntmps23
  go_upto_region 1 with (fail)
  rw [show (⟨#[]⟩ : ByteArray) = str [] from rfl, ← HW1.out]
  go_wp2_with fail
  go_quiet ((go_at_call 22; exact Calls.quiet_of_same ((HLN.out _ ((Below.refl _ _).drewN _)).mono (fun e w' h => ⟨h.1, h.2.symm⟩))))
  have hn2 : At2 ((w1.drewN nq).alloc (.cells #[.string (str []), .string (str [])] 48)) (w1.drewN nq).heap.size ([], []) := At2.new (w1.drewN nq) ([], [])
  have hb2 : Below w1.heap.size w1 ((w1.drewN nq).alloc (.cells #[.string (str []), .string (str [])] 48)) := ((Below.refl _ w1).drewN nq).alloc (Nat.le_refl _) _
  have HN2 := Lib.hid hn2
  have HB2 := Lib.hid hb2
  clear hn2 hb2
  go_upto_region 4 with (fail)
  rw [show (⟨#[]⟩ : ByteArray) = str [] from rfl]
  have hsz : (w1.drewN nq).heap.size = w1.heap.size := rfl
  rw [hsz] at HN2
  generalize (w1.drewN nq).alloc (.cells #[.string (str []), .string (str [])] 48) = w2 at *
  have c2 : w2.cell? ⟨w.heap.size, 0, none⟩ = some (.int .i64 i) := cellOf2 (o := 0) (HC1.out.below HB2.out) rfl
  have hfa := from_at i w1.heap.size w.heap.size p B v l ([], []) w2 (h2_of HB2.out HK1.out) HN2.out (HC1.out.below HB2.out) hi (by have := HS1.out; omega) (fun g hg => by have := HROW.out g hg; have := HS1.out; omega)
  rw [show ((i / 8 : Nat) : Int) = (i : Int) / 8 by omega] at hfa
  have HFA := Lib.hid hfa
  clear hfa hsz
  go_wp2_with fail
  (with_reducible refine HFA.out.mono ?_)
  rintro e w3 ⟨rfl, ho3, hf3⟩
  have hr3 : At2 w3 (w.heap.size + 1) ([], []) := (hf3.block _ (lt_of_block (HR1.out.below HB2.out)) (by have := HS1.out; omega)).trans (HR1.out.below HB2.out)
  obtain ⟨q, hq⟩ : ∃ q, q = l[i] := ⟨_, rfl⟩
  rw [← hq] at ho3
  have HQ := Lib.hid hq
  have a0 := cellOf2 (o := 0) ho3 rfl
  have a1 := cellOf2 (o := 1) ho3 rfl
  have f0 := free_of2 0 hr3
  have f1 := free_of2 1 (setAt2 (o := 0) (.string (str q.1)) hr3)
  have r0 := cellOf2 (o := 0) hr3 rfl
  have r1 := cellOf2 (o := 1) (setAt2 (o := 0) (.string (str q.1)) hr3) rfl
  have hs4 := hr3.set q
  have b0 := cellOf2 (o := 0) hs4 rfl
  have b1 := cellOf2 (o := 1) hs4 rfl
  have hbel : Below w.heap.size w ((w3.setCell ⟨w.heap.size + 1, 0, none⟩ (.string (str q.1))).setCell ⟨w.heap.size + 1, 1, none⟩ (.string (str q.2))) :=
    ((HB1.out.trans ((HB2.out.trans (hf3.below HB2.out.size (fun k _ e => by omega))).mono HB1.out.size)).setCell (by simp) _).setCell (by simp) _
  have HBEL := Lib.hid hbel
  clear ho3 hr3 hf3 hs4 hbel hq
  go_wp2_with fail
  exact bodyPost_ret (v := .tuple #[.agg #[.string (str q.1), .string (str q.2)], .bool true]) (by simp [results, Try.results23, go_sem, b0, b1]) rfl ⟨by rw [HQ.out], HBEL.out⟩
end Go.Proofs.Ytcoicdaobgneeaa
