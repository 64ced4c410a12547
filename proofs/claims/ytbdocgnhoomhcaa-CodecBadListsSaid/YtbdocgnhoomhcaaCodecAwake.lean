/-
  The walk of law 03's awake.
-/
import Derived.Test.YtbdocgnhoomhcaaReader3W
namespace Go.Proofs.Ytbdocgnhoomhcaa
open Go.RowKit CodecP

theorem st_some {s : ByteArray} {b : Bool} {l : List UInt8} (h : st s b = some l) : b = false ∧ s = str l := by
  unfold st at h
  cases b
  · rw [if_neg (by simp)] at h
    injection h with h
    exact ⟨rfl, by rw [← h, str_bl]⟩
  · rw [if_pos rfl] at h; cases h
/-- A reader that the call itself has made at block p, with what is to come (none: it is bad). -/
structure ROwn (w0 w : World) (p : Nat) (o : Option (List UInt8)) : Prop where
  rd : ∃ s b, Rd w p s b ∧ st s b = o
  below : Below w0.heap.size w0 w
  base : w0.heap.size ≤ p
theorem ROwn.step {w0 w w' : World} {p : Nat} {o o' : Option (List UInt8)} (h : ROwn w0 w p o) (k : RdTo w w' p o') : ROwn w0 w' p o' := by
  obtain ⟨s, b, hr, hs, hf⟩ := k
  exact ⟨⟨s, b, hr, hs⟩, h.below.trans (hf.below h.below.size (fun k _ hk => by unfold RdS at hk; rw [hk]; exact h.base)), h.base⟩
theorem ROwn.some {w0 w : World} {p : Nat} {l : List UInt8} (h : ROwn w0 w p (some l)) : Rd w p (str l) false := by
  obtain ⟨s, b, hr, hs⟩ := h.rd
  obtain ⟨rfl, rfl⟩ := st_some hs
  exact hr
theorem ROwn.none {w0 w : World} {p : Nat} (h : ROwn w0 w p none) : ∃ s, Rd w p s true := by
  obtain ⟨s, b, hr, hs⟩ := h.rd
  unfold st at hs
  cases b
  · cases hs
  · exact ⟨s, hr⟩
theorem ROwn.new {w0 w w' : World} {p : Nat} {s : ByteArray} (hb : Below w0.heap.size w0 w) (hr : Rd w' p s false) (hb' : Below w.heap.size w w') (hp : w.heap.size ≤ p) : ROwn w0 w' p (Option.some (bl s)) :=
  ⟨⟨s, false, hr, rfl⟩, hb.trans (hb'.mono hb.size), Nat.le_trans hb.size hp⟩
theorem awk_laid : ([] ++ grp (300 : Int).toNat ++ grp (zig (-1)) ++ text (ByteArray.mk #[97, 98]).data.toList : List UInt8) = [172, 2, 1, 2, 97, 98] := by decide
theorem awk_len : ([] ++ grp (300 : Int).toNat ++ grp (zig (-1)) : List UInt8).length = 3 := by decide
theorem awk_size : sizeO (str [172, 2, 1, 2, 97, 98]) false = (300, some [1, 2, 97, 98]) := by decide
theorem awk_signed : tkI 0 0 (str [1, 2, 97, 98]) false = (1, some [2, 97, 98]) := by decide
theorem awk_text : textO (str [2, 97, 98]) false 5 = ([97, 98], some []) := by decide
theorem codecAwake_any (w : World) :
    Calls Try.prog 10 #[] w fun e w' => e = .returned (.bool true) ∧ Below w.heap.size w w' := by
  have O0 := Own.new (Below.refl w.heap.size w)
  have HO := Lib.hid O0
  clear O0
  go_enter Try.func10, Try.ntmps10
  go_wp2_with fail
  refine (size_any w.heap.size 0 _ _ _ _ 300 _ HO.out.wr (by omega) (by omega) (by simp)).mono ?_
  rintro e w1 ⟨rfl, hby⟩
  obtain ⟨g1, O1⟩ := HO.out.step hby
  have HO1 := Lib.hid O1
  clear O1 hby
  go_wp2_with fail
  refine (signed_any w.heap.size 0 _ _ _ _ (-1) _ HO1.out.wr (by omega) (by omega) (by simp [grp, groups])).mono ?_
  rintro e w2 ⟨rfl, hby⟩
  obtain ⟨g2, O2⟩ := HO1.out.step hby
  have HO2 := Lib.hid O2
  clear O2 hby
  go_wp2_with fail
  refine (text_any w.heap.size 0 _ _ _ _ _ _ HO2.out.wr ?_).mono ?_
  · rw [awk_len]; decide
  rintro e w3 ⟨rfl, hby⟩
  rw [awk_laid] at hby
  obtain ⟨g3, O3⟩ := HO2.out.step hby
  have HO3 := Lib.hid O3
  clear O3 hby
  go_wp2_with fail
  refine (bytes_any w.heap.size 0 _ _ _ _ _ HO3.out.wr).mono ?_
  rintro e w4 ⟨rfl, rfl⟩
  have hsz6 : (ByteArray.mk [172, 2, 1, 2, 97, 98].toArray).size ≤ maxLen := by decide
  have HSZ := Lib.hid hsz6
  clear hsz6
  go_wp2_with fail
  refine (read_any _ _ HSZ.out).mono ?_
  rintro e w5 ⟨rfl, h5, hb5⟩
  have O5 := HO3.out.keep hb5
  have R0 := ROwn.new HO3.out.below h5 hb5 (Nat.le_refl _)
  have HO5 := Lib.hid O5
  have HR0 := Lib.hid R0
  clear O5 h5 hb5 R0
  generalize w3.heap.size = q at *
  go_wp2_with fail
  refine (bytes_any w.heap.size 0 _ _ _ _ _ HO5.out.wr).mono ?_
  rintro e w6 ⟨rfl, rfl⟩
  go_wp2_with fail
  refine (rdSize_any q _ _ _ HR0.out.some).mono ?_
  rintro e w6 ⟨rfl, k⟩
  have e1 : sizeO (str (bl (ByteArray.mk #[172, 2, 1, 2, 97, 98]))) false = (300, some [1, 2, 97, 98]) := awk_size
  rw [show sizeO (str (bl { data := [172, 2, 1, 2, 97, 98].toArray })) false = (300, some [1, 2, 97, 98]) from awk_size] at k
  rw [show sizeO (str (bl { data := [172, 2, 1, 2, 97, 98].toArray })) false = (300, some [1, 2, 97, 98]) from awk_size]
  have HR1 := Lib.hid (HR0.out.step k)
  clear k e1
  go_wp2_with fail
  refine (rdSigned_any q _ _ _ HR1.out.some).mono ?_
  rintro e w7 ⟨rfl, k⟩
  rw [awk_signed] at k
  rw [awk_signed]
  have HR2 := Lib.hid (HR1.out.step k)
  have hu : unzig 1 = -1 := by decide
  clear k
  go_wp2_with fail
  refine (rdText_any q _ _ 5 _ HR2.out.some).mono ?_
  rintro e w8 ⟨rfl, k⟩
  rw [awk_text] at k
  rw [awk_text]
  have htl : (str [97, 98]).toList = [97, 98] := by rw [ByteArray.toList_eq]; rfl
  have HR3 := Lib.hid (HR2.out.step k)
  clear k
  go_wp2_with fail
  refine (end_any q _ _ _ HR3.out.some).mono ?_
  rintro e w9 ⟨rfl, rfl⟩
  go_wp2
  go_ret
  exact ⟨rfl, HR3.out.below⟩
end Go.Proofs.Ytbdocgnhoomhcaa
