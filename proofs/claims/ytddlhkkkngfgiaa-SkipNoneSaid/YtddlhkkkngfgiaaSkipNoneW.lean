/-
  The law SkipNone.
-/
import Derived.Test.YtddlhkkkngfgiaaSkipNilW
import Derived.Test.YtddlhkkkngfgiaaSkipAwake
namespace Go.Proofs.Ytddlhkkkngfgiaa
open Go.RowKit

theorem findN_any (k : ByteArray) (w : World) : Calls Try.prog 23 #[.slice none 0 0, .string k] w fun e w' => e = .returned (.tuple #[.int .i64 0, .bool false]) ∧ Below w.heap.size w w' := by
  have hb := Below.refl w.heap.size w
  go_enter Try.func23, Try.ntmps23
  go_wp2_with fail
  go_loopg [6] 0 (fun g iv wr => iv = .int .i64 0 ∧ wr = w)
  case atStart => exact ⟨rfl, rfl⟩
  case round =>
    obtain ⟨rfl, rfl⟩ := hrel
    go_wp2_with fail
    go_quiet (fail)
    go_wp2_with fail
    go_ret2
    exact ⟨rfl, hb.drewN _⟩
theorem tell0_any (w : World) : Calls Try.prog 40 #[.slice none 0 0, .int .i64 0, .string ⟨#[]⟩, .int .i64 0, .bool false] w fun e w' => e = .returned (.bool true) ∧ Below w.heap.size w w' := by
  have hb := Below.refl w.heap.size w
  go_enter Try.func40, Try.ntmps40
  go_wp2_with fail
  go_ret
  exact ⟨rfl, hb⟩
theorem tellM_any (w : World) : Calls Try.prog 40 #[.slice none 0 0, .int .i64 (-1), .string ⟨#[]⟩, .int .i64 0, .bool false] w fun e w' => e = .returned (.bool true) ∧ Below w.heap.size w w' := by
  have hb := Below.refl w.heap.size w
  go_enter Try.func40, Try.ntmps40
  go_wp2_with fail
  go_ret
  exact ⟨rfl, hb⟩
set_option maxRecDepth 100000 in
set_option maxHeartbeats 1000000 in
theorem looksN_any (k : ByteArray) (w : World) : Calls Try.prog 28 #[.pointer none, .slice none 0 0, .string k] w fun e w' => e = .returned (.bool true) ∧ Below w.heap.size w w' := by
  go_enter Try.func28, Try.ntmps28
  go_wp2_with fail
  (with_reducible refine (findN_any _ _).mono ?_)
  rintro e w1 ⟨rfl, hb1⟩
  have HB1 := Lib.hid hb1
  clear hb1
  go_wp2_with fail
  (with_reducible refine (getN_any _ _).mono ?_)
  rintro e w1b ⟨rfl, rfl⟩
  go_wp2_with fail
  (with_reducible refine (lenN_any _).mono ?_)
  rintro e w1b ⟨rfl, rfl⟩
  go_wp2_with fail
  (with_reducible refine (fromN_any _ _).mono ?_)
  rintro e w1b ⟨rfl, rfl⟩
  go_wp2_with fail
  (with_reducible refine (behindN_any _ _).mono ?_)
  rintro e w1b ⟨rfl, rfl⟩
  go_wp2_with fail
  (with_reducible refine (aheadN_any _ _).mono ?_)
  rintro e w1b ⟨rfl, rfl⟩
  go_wp2_with fail
  (with_reducible refine (firstN_any _).mono ?_)
  rintro e w1b ⟨rfl, rfl⟩
  go_wp2_with fail
  (with_reducible refine (lastN_any _).mono ?_)
  rintro e w1b ⟨rfl, rfl⟩
  go_wp2_with fail
  (with_reducible refine (tell0_any _).mono ?_)
  rintro e w2 ⟨rfl, hb2⟩
  have HB2 := Lib.hid (HB1.out.trans (hb2.mono HB1.out.size))
  clear hb2
  go_wp2_with fail
  (with_reducible refine (tell0_any _).mono ?_)
  rintro e w3 ⟨rfl, hb3⟩
  have HB3 := Lib.hid (HB2.out.trans (hb3.mono HB2.out.size))
  clear hb3
  go_wp2_with fail
  (with_reducible refine (tellM_any _).mono ?_)
  rintro e w4 ⟨rfl, hb4⟩
  have HB4 := Lib.hid (HB3.out.trans (hb4.mono HB3.out.size))
  clear hb4
  go_wp2_with fail
  (with_reducible refine (tell0_any _).mono ?_)
  rintro e w5 ⟨rfl, hb5⟩
  have HB5 := Lib.hid (HB4.out.trans (hb5.mono HB4.out.size))
  clear hb5
  go_wp2_with fail
  (with_reducible refine (tellM_any _).mono ?_)
  rintro e w6 ⟨rfl, hb6⟩
  have HB6 := Lib.hid (HB5.out.trans (hb6.mono HB5.out.size))
  clear hb6
  go_wp2_with fail
  go_ret
  exact ⟨rfl, HB6.out⟩
set_option maxRecDepth 100000 in
set_option maxHeartbeats 1000000 in
theorem skipNone_law (k : ByteArray) (v : Int) (w : World) : Calls Try.prog 7 #[.string k, .int .i64 v] w fun e w' => e = .returned (.bool true) ∧ Below w.heap.size w w' := by
  go_enter Try.func7, Try.ntmps7
  go_wp2_with fail
  (with_reducible refine (putN_any _ _ _).mono ?_)
  rintro e w1b ⟨rfl, rfl⟩
  go_wp2_with fail
  (with_reducible refine (getN_any _ _).mono ?_)
  rintro e w1b ⟨rfl, rfl⟩
  go_wp2_with fail
  (with_reducible refine (delN_any _ _).mono ?_)
  rintro e w1b ⟨rfl, rfl⟩
  go_wp2_with fail
  (with_reducible refine (clearN_any _).mono ?_)
  rintro e w1b ⟨rfl, rfl⟩
  go_wp2_with fail
  (with_reducible refine (looksN_any _ _).mono ?_)
  rintro e w1 ⟨rfl, hb1⟩
  have HB1 := Lib.hid hb1
  clear hb1
  go_wp2_with fail
  (with_reducible refine (keysN_any _).mono ?_)
  rintro e w1b ⟨rfl, rfl⟩
  go_wp2_with fail
  (with_reducible refine (awake_any _).mono ?_)
  rintro e w2 ⟨rfl, hb2⟩
  have HB2 := Lib.hid (HB1.out.trans (hb2.mono HB1.out.size))
  clear hb2
  go_wp2_with fail
  go_ret
  exact ⟨rfl, HB2.out⟩
end Go.Proofs.Ytddlhkkkngfgiaa
