/-
  The walks of law 10's awake and of the law CacheNone.
-/
import Derived.Test.YtoljoikkdhagoaaCacheSW
import Derived.Test.YtoljoikkdhagoaaCacheBW
namespace Go.Proofs.Ytoljoikkdhagoaa
open Go.RowKit Go.Maps

def sA : ByteArray := ⟨#[97]⟩
def sB : ByteArray := ⟨#[98]⟩
def sC : ByteArray := ⟨#[99]⟩
set_option maxHeartbeats 400000 in
theorem cacheAwake_any (w : World) :
    Calls Try.prog 6 #[] w fun e w' => e = .returned (.bool true) ∧ Below w.heap.size w w' := by
  have hA : sA.size ≤ maxLen := by decide
  have hB : sB.size ≤ maxLen := by decide
  have hC : sC.size ≤ maxLen := by decide
  have hAB : sA ≠ sB := by decide
  have hAC : sA ≠ sC := by decide
  have hBC : sB ≠ sC := by decide
  have HN := Lib.hid (newS_any 2 w (by omega))
  go_enter Try.func6, Try.ntmps6
  go_wp2_with fail
  (with_reducible refine (HN.out).mono ?_)
  rintro e w1 ⟨rfl, h1, hb1⟩
  have O1 : OwnC Try.prog 76 79 9 Value.string slit w w1 (w.heap.size + 2) (w.heap.size + 1) w.heap.size 2 [] 0 0 := ⟨h1, hb1, fun k hk => by
    rcases hk with hk | hk | hk
    · omega
    · omega
    · simp [blocks] at hk; omega⟩
  have H1 := Lib.hid O1
  clear h1 hb1 O1
  have P1 := Lib.hid (putS_new _ _ _ _ 0 0 [] sA 1 w1 H1.out.at_ (by simp) hA (by simp) (by decide))
  go_wp2_with fail
  refine (P1.out).mono ?_
  rintro e w2 ⟨rfl, h2, f2⟩
  have O2 := H1.out.step h2 f2 (fun k hk => by simp [blocks] at hk; right; omega)
  have H2 := Lib.hid O2
  clear h2 f2 O2 P1
  generalize w1.heap.size = b1 at *
  rw [List.nil_append] at H2
  have P2 := Lib.hid (putS_new _ _ _ _ 0 0 _ sB 2 w2 H2.out.at_ (by simp [hAB]) hB (by simp) (by simp))
  go_wp2_with fail
  refine (P2.out).mono ?_
  rintro e w3 ⟨rfl, h3, f3⟩
  have O3 := H2.out.step h3 f3 (fun k hk => by simp [blocks] at hk ⊢; omega)
  have H3 := Lib.hid O3
  clear h3 f3 O3 P2
  generalize w2.heap.size = b2 at *
  have P3 := Lib.hid (getS_yes _ _ _ _ 0 0 b1 [] [(b2, sB, 2)] sA 1 w3 H3.out.at_ (by simp [hAB.symm]) hA (by decide))
  go_wp2_with fail
  refine (P3.out).mono ?_
  rintro e w4 ⟨rfl, h4, f4⟩
  have O4 := H3.out.step h4 f4 (fun k hk => by simp [blocks] at hk ⊢; omega)
  have H4 := Lib.hid O4
  clear h4 f4 O4 P3
  have P4 := Lib.hid (putS_over _ _ _ _ 1 0 _ [(b1, sA, 1), (w4.heap.size, sC, 3)] sC 3 (b2, sB, 2) w4 H4.out.at_ (by simp [hAC, hBC]) hC (by simp [hA, hB]) (by simp) (by simp) rfl)
  go_wp2_with fail
  refine (P4.out).mono ?_
  rintro e w5 ⟨rfl, h5, f5⟩
  have O5 := H4.out.step h5 f5 (fun k hk => by simp [blocks] at hk ⊢; omega)
  have H5 := Lib.hid O5
  clear h5 f5 O5 P4
  have qB : (sB.toList == [98]) = true := by rw [ByteArray.toList_eq]; decide
  have qB2 : sB.toList = [98] := by rw [ByteArray.toList_eq]; rfl
  go_wp2_with fail
  refine (lenS_any _ _ _ _ _ _ _ _ H5.out.at_).mono ?_
  rintro e w6 ⟨rfl, rfl⟩
  go_wp2
  go_ret
  exact ⟨rfl, H5.out.bel⟩
theorem putNilI (k v : Int) (w : World) : Calls Try.prog 13 #[.pointer none, .int .i64 k, .int .i64 v] w fun e w' => e = .returned (.tuple #[.int .i64 0, .bool false]) ∧ w = w' := by
  go_enter Try.func13, Try.ntmps13
  go_wp2
  go_ret2
  exact ⟨rfl, rfl⟩
theorem getNilI (k : Int) (w : World) : Calls Try.prog 15 #[.pointer none, .int .i64 k] w fun e w' => e = .returned (.tuple #[.int .i64 0, .bool false]) ∧ w = w' := by
  go_enter Try.func15, Try.ntmps15
  go_wp2
  go_ret2
  exact ⟨rfl, rfl⟩
theorem dropNilI (k : Int) (w : World) : Calls Try.prog 16 #[.pointer none, .int .i64 k] w fun e w' => e = .returned (.bool false) ∧ w = w' := by
  go_enter Try.func16, Try.ntmps16
  go_wp2
  go_ret
  exact ⟨rfl, rfl⟩
theorem lenNilI (w : World) : Calls Try.prog 19 #[.pointer none] w fun e w' => e = .returned (.int .i64 0) ∧ w = w' := by
  go_enter Try.func19, Try.ntmps19
  go_wp2
  go_ret
  exact ⟨rfl, rfl⟩
theorem keysNilI (w : World) : Calls Try.prog 17 #[.pointer none] w fun e w' => e = .returned (.slice none 0 0) ∧ w = w' := by
  go_enter Try.func17, Try.ntmps17
  go_wp2
  go_ret
  exact ⟨rfl, rfl⟩
theorem hitsNilI (w : World) : Calls Try.prog 18 #[.pointer none] w fun e w' => e = .returned (.tuple #[.int .i64 0, .int .i64 0]) ∧ w = w' := by
  go_enter Try.func18, Try.ntmps18
  go_wp2
  go_ret2
  exact ⟨rfl, rfl⟩
set_option maxRecDepth 100000 in
set_option maxHeartbeats 1000000 in
theorem cacheNone_law (k v : Int) (w : World) (hwf : (Lit.int .i64 k).wf = true) :
    Calls Try.prog 5 #[.int .i64 k, .int .i64 v] w fun e w' => e = .returned (.bool true) ∧ Below w.heap.size w w' := by
  have HN := Lib.hid (newI_any 0 w (by omega))
  have HW := Lib.hid hwf
  have qk : (k == k) = true := by simp
  clear hwf
  go_enter Try.func5, Try.ntmps5
  go_wp2_with fail
  (with_reducible refine (HN.out).mono ?_)
  rintro e w1 ⟨rfl, h1, hb1⟩
  have O1 : OwnC Try.prog 68 71 3 (Value.int .i64) (Lit.int .i64) w w1 (w.heap.size + 2) (w.heap.size + 1) w.heap.size 0 [] 0 0 := ⟨h1, hb1, fun k hk => by
    rcases hk with hk | hk | hk
    · omega
    · omega
    · simp [blocks] at hk; omega⟩
  have H1 := Lib.hid O1
  clear h1 hb1 O1
  go_wp2_with fail
  (with_reducible refine (putNilI _ _ _).mono ?_)
  rintro e w2 ⟨rfl, rfl⟩
  go_wp2_with fail
  (with_reducible refine (getNilI _ _).mono ?_)
  rintro e w2 ⟨rfl, rfl⟩
  go_wp2_with fail
  (with_reducible refine (hitsNilI _).mono ?_)
  rintro e w2 ⟨rfl, rfl⟩
  have P1 := Lib.hid (putI_over _ _ _ _ 0 0 [] [] k v (w1.heap.size, k, v) w1 H1.out.at_ (by simp) HW.out (by simp) (by simp) (by decide) rfl)
  go_wp2_with fail
  refine (P1.out).mono ?_
  rintro e w2 ⟨rfl, h2, f2⟩
  have O2 := H1.out.step h2 f2 (fun k hk => by simp [blocks] at hk)
  have H2 := Lib.hid O2
  clear h2 f2 O2 P1
  have P2 := Lib.hid (getI_no _ _ _ _ 0 0 [] k w2 H2.out.at_ (by simp) HW.out (by decide))
  go_wp2_with fail
  refine (P2.out).mono ?_
  rintro e w3 ⟨rfl, h3, f3⟩
  have O3 := H2.out.step h3 f3 (fun k hk => by simp [blocks] at hk)
  have H3 := Lib.hid O3
  clear h3 f3 O3 P2
  go_wp2_with fail
  (with_reducible refine (dropNilI _ _).mono ?_)
  rintro e w4 ⟨rfl, rfl⟩
  go_wp2_with fail
  (with_reducible refine (lenNilI _).mono ?_)
  rintro e w4 ⟨rfl, rfl⟩
  go_wp2_with fail
  (with_reducible refine (keysNilI _).mono ?_)
  rintro e w4 ⟨rfl, rfl⟩
  go_wp2_with fail
  refine (lenI_any _ _ _ _ _ _ _ _ H3.out.at_).mono ?_
  rintro e w4 ⟨rfl, rfl⟩
  go_wp2_with fail
  (with_reducible refine (cacheAwake_any _).mono ?_)
  rintro e w5 ⟨rfl, hb5⟩
  have HB := Lib.hid (H3.out.bel)
  go_wp2
  go_ret
  exact ⟨rfl, HB.out.trans (hb5.mono HB.out.size)⟩
end Go.Proofs.Ytoljoikkdhagoaa
