/-
  The walk of crc.Frame.
-/
import Derived.Test.YtbkdlkhaeidhcaaDoorCrcLaidW
namespace Go.Proofs.YtbkdlkhaeidhcaaDoor
open Go.RowKit Go.Deep CrcP CodecP FrameP

theorem str_size (l : List UInt8) : (str l).size = l.length := by simp [str, ByteArray.size]
theorem small (n : Nat) (h : n ≤ 1099511627776) : n ≤ maxLen := size_le n h
theorem frame_str (s : ByteArray) : ByteArray.mk (fixed 4 s.size ++ (str (laid (fixed 4 s.size))).data.toList ++ s.data.toList ++ (str (laid (bl s))).data.toList).toArray = str (frame (bl s)) := rfl
theorem frame_long (s : ByteArray) (w : World) (h : 131072 < s.size) (hs : s.size ≤ maxLen) :
    Calls Tryd.prog 30 #[.string s] w fun e w' => e = .returned (.tuple #[.string ByteArray.empty, .bool false]) ∧ w = w' := by
  unfold maxLen at hs
  go_enter Tryd.func30, Tryd.ntmps30
  go_wp2
  go_ret2
  exact ⟨rfl, rfl⟩

set_option maxHeartbeats 400000 in
theorem frame_any (s : ByteArray) (w : World) (h : s.size ≤ 131072) (hn : Nibs w) :
    Calls Tryd.prog 30 #[.string s] w fun e w' => e = .returned (.tuple #[.string (str (frame (bl s))), .bool true]) ∧ Below w.heap.size w w' := by
  have HN := Lib.hid hn
  have O0 := Own.new (Below.refl w.heap.size w)
  have hsm : s.size ≤ maxLen := small _ (by omega)
  have HS := Lib.hid hsm
  clear hn hsm
  go_enter Tryd.func30, Tryd.ntmps30
  go_wp2_with fail
  refine (fixed4_any w.heap.size 0 #[undef] 57 none [] s.size _ O0.wr (by omega) (by simp)).mono ?_
  rintro e w1 ⟨rfl, hby⟩
  obtain ⟨g1, O1⟩ := O0.step hby
  rw [List.nil_append] at O1
  clear hby O0
  go_wp2_with fail
  refine (bytes_any w.heap.size 0 #[undef] 57 g1 _ _ O1.wr).mono ?_
  rintro e w2 ⟨rfl, rfl⟩
  go_wp2_with fail
  refine (laid_any (str (fixed 4 s.size)) _ (by rw [str_size]; exact small _ (by rw [fixed_length]; omega)) (HN.out.below O1.below)).mono ?_
  rintro e w2 ⟨rfl, hb2⟩
  rw [bl_str]
  have O2 := O1.keep hb2
  clear O1 hb2
  go_wp2_with fail
  refine (raw_any w.heap.size 0 #[undef] 57 g1 _ (str (laid (fixed 4 s.size))) _ O2.wr (by rw [str_size, fixed_length, laid_length]; omega)).mono ?_
  rintro e w3 ⟨rfl, hby⟩
  obtain ⟨g3, O3⟩ := O2.step hby
  clear O2 hby
  go_wp2_with fail
  refine (raw_any w.heap.size 0 #[undef] 57 g3 _ s _ O3.wr (by rw [List.length_append, fixed_length]; show 4 + (bl (str _)).length + _ ≤ _; rw [bl_str, laid_length]; omega)).mono ?_
  rintro e w4 ⟨rfl, hby⟩
  obtain ⟨g4, O4⟩ := O3.step hby
  clear O3 hby
  go_wp2_with fail
  refine (laid_any s _ HS.out (HN.out.below O4.below)).mono ?_
  rintro e w5 ⟨rfl, hb5⟩
  have O5 := O4.keep hb5
  clear O4 hb5
  go_wp2_with fail
  refine (raw_any w.heap.size 0 #[undef] 57 g4 _ (str (laid (bl s))) _ O5.wr (by rw [str_size, laid_length, List.length_append, List.length_append, fixed_length]; show 4 + (bl (str _)).length + s.size + _ ≤ _; rw [bl_str, laid_length]; omega)).mono ?_
  rintro e w6 ⟨rfl, hby⟩
  obtain ⟨g6, O6⟩ := O5.step hby
  clear O5 hby
  go_wp2_with fail
  refine (bytes_any w.heap.size 0 #[undef] 57 g6 _ _ O6.wr).mono ?_
  rintro e w7 ⟨rfl, rfl⟩
  rw [frame_str]
  have hb := O6.below
  clear O6
  go_wp2
  go_ret2
  exact ⟨rfl, hb⟩
end Go.Proofs.YtbkdlkhaeidhcaaDoor
