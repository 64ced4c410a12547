
/-
  The walk of strings.Compare and of slices.BinarySearchFunc.
-/
import Derived.Test.YtcoicdaobgneeaaBackBW
import Derived.Lib.Bytealg
namespace Go.Proofs.Ytcoicdaobgneeaa
open Go.RowKit CodecP

theorem cmpString_any (a b : ByteArray) (w : World) :
    Calls Try.prog 57 #[.string a, .string b] w fun e w' => e = .returned (.int .i64 (Lib.compareBytes (bl a) (bl b))) ∧ w = w' := by
  go_enter Try.func57, Try.ntmps57
  go_wp2
  rw [run_callFunc_extern Try.func61 (by kernel_rfl) (by kernel_rfl) (by kernel_rfl) (e := Extern.BytealgCompare.compare) (by kernel_rfl), Lib.run_compareString]
  simp only [Result.andThen]
  rw [Oper.upon_value]
  go_wp2
  go_ret
  exact ⟨rfl, rfl⟩
theorem compare_any (a b : ByteArray) (w : World) :
    Calls Try.prog 49 #[.string a, .string b] w fun e w' => e = .returned (.int .i64 (Lib.compareBytes (bl a) (bl b))) ∧ w = w' := by
  have HC := Lib.hid (cmpString_any a b w)
  go_enter Try.func49, Try.ntmps49
  go_wp2_with fail
  (with_reducible refine HC.out.mono ?_)
  rintro e w1 ⟨rfl, rfl⟩
  go_wp2_with fail
  go_ret
  exact ⟨rfl, rfl⟩
set_option maxRecDepth 100000 in
set_option maxHeartbeats 2000000 in
/-- slices.BinarySearchFunc over a row of ints, where the function that compares answers c i of element i: negative below k, else not. -/
theorem bsf_any (fn : Nat) (caps : Array Value) (eg : ∀ args W, (callFunc fn args).run Try.prog W = .ok (.enter fn args) W) (g n cp : Nat) (xs : Nat → Int) (c : Nat → Int) (key : ByteArray) (k : Nat) (w : World)
    (hg : g < w.heap.size) (hn : n ≤ 1000000) (hx : ∀ i, i < n → w.cell? ⟨g, i, none⟩ = some (.int .i64 (xs i))) (hk : k ≤ n) (h1 : ∀ i, i < k → c i < 0) (h2 : ∀ i, k ≤ i → i < n → 0 ≤ c i)
    (hf : ∀ i W, i < n → Below w.heap.size w W → Calls Try.prog fn (#[.int .i64 (xs i), .string key] ++ caps) W fun e W' => e = .returned (.int .i64 (c i)) ∧ Below W.heap.size W W') :
    Calls Try.prog 47 #[.slice (some ⟨g, 0, none⟩) n cp, .string key, .func (.func fn) #[] caps] w fun e w' => e = .returned (.tuple #[.int .i64 k, .bool (decide (k < n ∧ c k = 0))]) ∧ Below w.heap.size w w' := by
  have HR := Lib.hid (Below.refl w.heap.size w)
  have HX := Lib.hid hx
  have H1 := Lib.hid h1
  have H2 := Lib.hid h2
  have HF := Lib.hid hf
  clear hx h1 h2 hf
  go_enter Try.func47, Try.ntmps47
  go_wp2_with fail
  go_loopg [9, 10] n (fun gg lv hv wr => ∃ lo hi : Nat, lv = .int .i64 lo ∧ hv = .int .i64 hi ∧ lo ≤ k ∧ k ≤ hi ∧ hi ≤ n ∧ hi - lo ≤ gg ∧ Below w.heap.size w wr)
  case atStart => exact ⟨0, n, rfl, rfl, Nat.zero_le _, hk, Nat.le_refl _, by omega, HR.out⟩
  case round =>
    obtain ⟨lo, hi, rfl, rfl, hlk, hkh, hhn, hgg, hbl⟩ := hrel
    have HBL := Lib.hid hbl
    have hsz := hbl.size
    by_cases hlt : lo < hi
    · have d0 : decide ((lo : Int) < (hi : Int)) = true := by rw [decide_eq_true_eq]; omega
      have cm : wr.cell? ⟨g, (lo + hi) / 2, none⟩ = some (.int .i64 (xs ((lo + hi) / 2))) := by rw [hbl.cell (p := ⟨g, (lo + hi) / 2, none⟩) hg]; exact HX.out _ (by omega)
      have HFC := Lib.hid (HF.out ((lo + hi) / 2) wr (by omega) hbl)
      clear hbl
      obtain ⟨y, hy⟩ : ∃ y, y = c ((lo + hi) / 2) := ⟨_, rfl⟩
      rw [← hy] at HFC
      have HY := Lib.hid hy
      clear hy
      have em : ((lo : Int) + (hi : Int)) / 2 = (((lo + hi) / 2 : Nat) : Int) := by omega
      have EM := Lib.hid em
      clear em
      have wm : IntKind.i64.wrap (((lo : Int) + (hi : Int)) / 2 + 1) = ((lo : Int) + (hi : Int)) / 2 + 1 := IntWalk.i64_in _ (by omega)
      by_cases hm : (lo + hi) / 2 < k
      · have d1 : decide (y < 0) = true := by rw [decide_eq_true_eq, HY.out]; exact H1.out _ hm
        go_wp2_with fail
        (with_reducible refine HFC.out.mono ?_)
        rintro e w4 ⟨rfl, hb4⟩
        have HB4 := Lib.hid (HBL.out.trans (hb4.mono hsz))
        clear hb4
        go_wp2_with fail
        go_roundg (hi - ((lo + hi) / 2 + 1))
        case measure => omega
        case rel => exact ⟨(lo + hi) / 2 + 1, hi, by rw [EM.out]; go_num, rfl, by omega, by omega, hhn, Nat.le_refl _, HB4.out⟩
      · have d1 : decide (y < 0) = false := by rw [decide_eq_false_iff_not, HY.out]; have := H2.out ((lo + hi) / 2) (by omega) (by omega); omega
        go_wp2_with fail
        (with_reducible refine HFC.out.mono ?_)
        rintro e w4 ⟨rfl, hb4⟩
        have HB4 := Lib.hid (HBL.out.trans (hb4.mono hsz))
        clear hb4
        go_wp2_with fail
        go_roundg ((lo + hi) / 2 - lo)
        case measure => omega
        case rel => exact ⟨lo, (lo + hi) / 2, rfl, by rw [EM.out], by omega, by omega, by omega, Nat.le_refl _, HB4.out⟩
    · have d0 : decide ((lo : Int) < (hi : Int)) = false := by rw [decide_eq_false_iff_not]; omega
      obtain rfl : hi = lo := by omega
      obtain rfl : hi = k := by omega
      by_cases hkn : hi < n
      · have d1 : decide ((hi : Int) < (n : Int)) = true := by rw [decide_eq_true_eq]; omega
        have cm : wr.cell? ⟨g, hi, none⟩ = some (.int .i64 (xs hi)) := by rw [hbl.cell (p := ⟨g, hi, none⟩) hg]; exact HX.out _ (by omega)
        have HFC := Lib.hid (HF.out hi wr (by omega) hbl)
        have hi' : (hi : Int) < (n : Int) := by omega
        clear hbl
        obtain ⟨y, hy⟩ : ∃ y, y = c hi := ⟨_, rfl⟩
        rw [← hy] at HFC
        have HY := Lib.hid hy
        clear hy
        by_cases hz : y = 0
        · have d2 : (y == 0) = true := by rw [beq_iff_eq]; exact hz
          have hz' : c hi = 0 := HY.out.symm.trans hz
          have HZ := Lib.hid hz'
          clear hz hz'
          go_wp2_with fail
          (with_reducible refine HFC.out.mono ?_)
          rintro e w4 ⟨rfl, hb4⟩
          have HB4 := Lib.hid (HBL.out.trans (hb4.mono hsz))
          clear hb4
          go_wp2_with fail
          exact bodyPost_ret (v := .tuple #[.int .i64 hi, .bool true]) (by simp [results, Try.results47, go_sem]) rfl ⟨by rw [decide_eq_true (show hi < n ∧ c hi = 0 from ⟨hkn, HZ.out⟩)], HB4.out⟩
        · have d2 : (y == 0) = false := by rw [beq_eq_false_iff_ne]; exact hz
          have hz' : ¬ c hi = 0 := fun e => hz (HY.out.trans e)
          have HZ := Lib.hid hz'
          clear hz hz'
          go_wp2_with fail
          (with_reducible refine HFC.out.mono ?_)
          rintro e w4 ⟨rfl, hb4⟩
          have HB4 := Lib.hid (HBL.out.trans (hb4.mono hsz))
          clear hb4
          go_wp2_with fail
          exact bodyPost_ret (v := .tuple #[.int .i64 hi, .bool false]) (by simp [results, Try.results47, go_sem]) rfl ⟨by rw [decide_eq_false (show ¬ (hi < n ∧ c hi = 0) from fun h => HZ.out h.2)], HB4.out⟩
      · have d1 : decide ((hi : Int) < (n : Int)) = false := by rw [decide_eq_false_iff_not]; omega
        have HKN := Lib.hid hkn
        go_wp2_with fail
        exact bodyPost_ret (v := .tuple #[.int .i64 hi, .bool false]) (by simp [results, Try.results47, go_sem]) rfl ⟨by rw [decide_eq_false (show ¬ (hi < n ∧ c hi = 0) from fun h => HKN.out h.1)], HBL.out⟩
end Go.Proofs.Ytcoicdaobgneeaa
