/-
  The walks of lists that are laid and taken: texts.
-/
import Derived.Test.YtbdocgnhoomhcaaNoneW
import Derived.Test.YtbdocgnhoomhcaaSl
namespace Go.Proofs.Ytbdocgnhoomhcaa
open Go.RowKit CodecP

/-- A list, as it is laid. -/
def enc (E : List (List UInt8)) : List UInt8 := grp E.length ++ E.flatten
def tx (k : ByteArray) : List UInt8 := text (bl k)
theorem take_flat (E : List (List UInt8)) (i : Nat) (e : List UInt8) (h : E[i]? = some e) : (E.take (i + 1)).flatten = (E.take i).flatten ++ e := by
  rw [List.take_add_one, h]; simp
theorem flat_le (E : List (List UInt8)) (i : Nat) : (E.take i).flatten.length ≤ E.flatten.length := by
  conv => rhs; rw [← List.take_append_drop i E]
  rw [List.flatten_append, List.length_append]; omega
theorem putText1_any (p o : Nat) (cs : Array Value) (t : TypeId) (g : Option Nat) (l : List UInt8) (s : ByteArray) (w : World) (h : Wr w p o cs t g l) (hlen : l.length + s.size + 16 ≤ 1099511627776) :
    Calls Try.prog 52 #[.pointer (some ⟨p, o, none⟩), .string s] w fun e w' => e = .returned (.tuple #[]) ∧ WrBy w w' p o cs t g (l ++ text s.data.toList) := by
  have H := Lib.hid (text_any p o cs t g l s w h hlen)
  clear h
  go_enter Try.func52, Try.ntmps52
  go_wp2_with fail
  (with_reducible refine (H.out).mono ?_)
  rintro e w1 ⟨rfl, hb⟩
  go_wp2
  go_end0
  exact ⟨rfl, hb⟩
set_option maxHeartbeats 400000 in
theorem putAllTexts_any (p o : Nat) (cs : Array Value) (t : TypeId) (g : Option Nat) (l : List UInt8) (v : Value) (ks : List ByteArray) (w : World) (h : Wr w p o cs t g l) (hk : Sl w v (ks.map Value.string)) (hd : ks ≠ [] → ∀ k, v.ownBlock = some k → ¬ WrS p g k)
    (hlen : l.length + (enc (ks.map tx)).length ≤ 1000000) :
    Calls Try.prog 51 #[.pointer (some ⟨p, o, none⟩), v, .func (.func 52) #[] #[]] w fun e w' => e = .returned (.tuple #[]) ∧ WrBy w w' p o cs t g (l ++ enc (ks.map tx)) := by
  have hen : (enc (ks.map tx)).length = (grp ks.length).length + (ks.map tx).flatten.length := by unfold enc; rw [List.length_append, List.length_map]
  have hkl := hk.len
  rw [List.length_map] at hkl
  unfold maxLen at hkl
  have hsz := size_any p o cs t g l (ks.length : Int) w h (by omega) (by omega) (by omega)
  rw [Int.toNat_natCast] at hsz
  have HSZ := Lib.hid hsz
  rcases hk.cases with ⟨h0, ao, cap, rfl⟩ | ⟨b, off, cap, rfl, hpos, hcap, hmax, hb, hc⟩
  · have h0 := List.map_eq_nil_iff.1 h0
    subst h0
    clear hen h hsz hd hk
    go_enter Try.func51, Try.ntmps51
    go_wp2_with fail
    refine (HSZ.out).mono ?_
    rintro e w1 ⟨rfl, hby⟩
    have HB := Lib.hid hby
    clear hby
    go_wp2
    go_loopw [7, 14] (fun _ i wr => i = .int .i64 0 ∧ wr = w1) (fun _ _ _ => 0)
    case atStart => exact ⟨rfl, rfl⟩
    case round =>
      obtain ⟨rfl, rfl⟩ := hrel
      go_wp2
      go_end0
      exact ⟨rfl, by simpa [enc] using HB.out⟩
  · rw [List.length_map] at hpos hcap
    have hS : ¬ WrS p g b := hd (by rintro rfl; simp at hpos) b rfl
    have hat : SlAt w b off (ks.map Value.string) := ⟨hb, hc⟩
    have hfl := flat_le (ks.map tx)
    have HAT := Lib.hid hat
    have HS := Lib.hid hS
    have HFL := Lib.hid hfl
    have HLEN := Lib.hid hlen
    have HEN := Lib.hid hen
    rw [List.length_map]
    clear hen h hsz hd hk hb hc hat hS hfl hlen
    go_enter Try.func51, Try.ntmps51
    go_wp2_with fail
    (with_reducible refine (HSZ.out).mono ?_)
    rintro e w1 ⟨rfl, hby⟩
    have HB := Lib.hid hby
    clear hby
    go_wp2
    go_loopw [7, 14] (fun _ i wr => ∃ k : Nat, k ≤ ks.length ∧ i = .int .i64 k ∧ WrBy w wr p o cs t g (l ++ grp ks.length ++ ((ks.map tx).take k).flatten)) (fun _ i _ => ks.length - (intOf i).toNat)
    case atStart => exact ⟨0, by omega, rfl, by simpa using HB.out⟩
    case round =>
      obtain ⟨k, hkn, rfl, hby⟩ := hrel
      by_cases hlt : k < ks.length
      · obtain ⟨⟨g', hg', hw⟩, hf⟩ := hby
        have c0 := (HAT.out.keep hf HS.out).2 k (.string ks[k]) (by simp [hlt])
        have htk := take_flat (ks.map tx) k (text ks[k].data.toList) (by simp [hlt, tx, bl])
        have hl2 : (l ++ grp ks.length ++ ((ks.map tx).take k).flatten).length + ks[k].size + 16 ≤ 1099511627776 := by
          have h1 := HFL.out k
          have h2 := HFL.out (k + 1)
          rw [htk, List.length_append] at h2
          have h3 : ks[k].size ≤ (text ks[k].data.toList).length := by unfold text; rw [List.length_append]; show ks[k].data.toList.length ≤ _; omega
          have h4 := HLEN.out
          have h5 := HEN.out
          simp only [List.length_append]
          omega
        have HT := Lib.hid (putText1_any p o cs t g' _ ks[k] wr hw hl2)
        have HTK := Lib.hid htk
        have HG := Lib.hid hg'
        have HF := Lib.hid hf
        clear hw htk hl2 hg' hf
        generalize ks[k] = kk at *
        go_wp2_with fail
        refine HT.out.mono ?_
        rintro e w2 ⟨rfl, hby⟩
        rw [List.append_assoc, ← HTK.out] at hby
        have hby2 : WrBy w w2 p o cs t g (l ++ grp ks.length ++ ((ks.map tx).take (k + 1)).flatten) := WrBy.trans HF.out HG.out hby
        have HBY := Lib.hid hby2
        clear hby hby2
        go_wp2
        go_roundw
        case rel => exact ⟨k + 1, by omega, by go_num, HBY.out⟩
        case measure => simp [intOf]; omega
      · obtain rfl : k = ks.length := by omega
        have HBY := Lib.hid hby
        clear hby
        go_wp2
        go_end0
        refine ⟨rfl, ?_⟩
        have := HBY.out
        rw [List.take_of_length_le (by rw [List.length_map]; omega), List.append_assoc] at this
        unfold enc
        rwa [List.length_map]
theorem putTexts_any (p o : Nat) (cs : Array Value) (t : TypeId) (g : Option Nat) (l : List UInt8) (v : Value) (ks : List ByteArray) (w : World) (h : Wr w p o cs t g l) (hk : Sl w v (ks.map Value.string)) (hd : ks ≠ [] → ∀ k, v.ownBlock = some k → ¬ WrS p g k)
    (hlen : l.length + (enc (ks.map tx)).length ≤ 1000000) :
    Calls Try.prog 35 #[.pointer (some ⟨p, o, none⟩), v] w fun e w' => e = .returned (.tuple #[]) ∧ WrBy w w' p o cs t g (l ++ enc (ks.map tx)) := by
  have H := Lib.hid (putAllTexts_any p o cs t g l v ks w h hk hd hlen)
  clear h hk hd hlen
  go_enter Try.func35, Try.ntmps35
  go_wp2_with fail
  (with_reducible refine (H.out).mono ?_)
  rintro e w1 ⟨rfl, hb⟩
  go_wp2
  go_end0
  exact ⟨rfl, hb⟩
def gz (n : Int) : List UInt8 := grp (zig n)
theorem putInt1_any (p o : Nat) (cs : Array Value) (t : TypeId) (g : Option Nat) (l : List UInt8) (n : Int) (w : World) (h : Wr w p o cs t g l) (h1 : -9223372036854775808 ≤ n) (h2 : n < 9223372036854775808) (hlen : l.length + 16 ≤ 1099511627776) :
    Calls Try.prog 54 #[.pointer (some ⟨p, o, none⟩), .int .i64 n] w fun e w' => e = .returned (.tuple #[]) ∧ WrBy w w' p o cs t g (l ++ grp (zig n)) := by
  have H := Lib.hid (signed_any p o cs t g l n w h h1 h2 hlen)
  clear h
  go_enter Try.func54, Try.ntmps54
  go_wp2_with fail
  (with_reducible refine (H.out).mono ?_)
  rintro e w1 ⟨rfl, hb⟩
  go_wp2
  go_end0
  exact ⟨rfl, hb⟩
set_option maxHeartbeats 400000 in
theorem putAllInts_any (p o : Nat) (cs : Array Value) (t : TypeId) (g : Option Nat) (l : List UInt8) (v : Value) (ks : List Int) (w : World) (h : Wr w p o cs t g l) (hk : Sl w v (ks.map (Value.int .i64))) (hd : ks ≠ [] → ∀ k, v.ownBlock = some k → ¬ WrS p g k)
    (hr : ∀ n ∈ ks, -9223372036854775808 ≤ n ∧ n < 9223372036854775808) (hlen : l.length + (enc (ks.map gz)).length ≤ 1000000) :
    Calls Try.prog 53 #[.pointer (some ⟨p, o, none⟩), v, .func (.func 54) #[] #[]] w fun e w' => e = .returned (.tuple #[]) ∧ WrBy w w' p o cs t g (l ++ enc (ks.map gz)) := by
  have HR := Lib.hid hr
  clear hr
  have hen : (enc (ks.map gz)).length = (grp ks.length).length + (ks.map gz).flatten.length := by unfold enc; rw [List.length_append, List.length_map]
  have hkl := hk.len
  rw [List.length_map] at hkl
  unfold maxLen at hkl
  have hsz := size_any p o cs t g l (ks.length : Int) w h (by omega) (by omega) (by omega)
  rw [Int.toNat_natCast] at hsz
  have HSZ := Lib.hid hsz
  rcases hk.cases with ⟨h0, ao, cap, rfl⟩ | ⟨b, off, cap, rfl, hpos, hcap, hmax, hb, hc⟩
  · have h0 := List.map_eq_nil_iff.1 h0
    subst h0
    clear hen h hsz hd hk
    go_enter Try.func53, Try.ntmps53
    go_wp2_with fail
    refine (HSZ.out).mono ?_
    rintro e w1 ⟨rfl, hby⟩
    have HB := Lib.hid hby
    clear hby
    go_wp2
    go_loopw [7, 14] (fun _ i wr => i = .int .i64 0 ∧ wr = w1) (fun _ _ _ => 0)
    case atStart => exact ⟨rfl, rfl⟩
    case round =>
      obtain ⟨rfl, rfl⟩ := hrel
      go_wp2
      go_end0
      exact ⟨rfl, by simpa [enc] using HB.out⟩
  · rw [List.length_map] at hpos hcap
    have hS : ¬ WrS p g b := hd (by rintro rfl; simp at hpos) b rfl
    have hat : SlAt w b off (ks.map (Value.int .i64)) := ⟨hb, hc⟩
    have hfl := flat_le (ks.map gz)
    have HAT := Lib.hid hat
    have HS := Lib.hid hS
    have HFL := Lib.hid hfl
    have HLEN := Lib.hid hlen
    have HEN := Lib.hid hen
    rw [List.length_map]
    clear hen h hsz hd hk hb hc hat hS hfl hlen
    go_enter Try.func53, Try.ntmps53
    go_wp2_with fail
    (with_reducible refine (HSZ.out).mono ?_)
    rintro e w1 ⟨rfl, hby⟩
    have HB := Lib.hid hby
    clear hby
    go_wp2
    go_loopw [7, 14] (fun _ i wr => ∃ k : Nat, k ≤ ks.length ∧ i = .int .i64 k ∧ WrBy w wr p o cs t g (l ++ grp ks.length ++ ((ks.map gz).take k).flatten)) (fun _ i _ => ks.length - (intOf i).toNat)
    case atStart => exact ⟨0, by omega, rfl, by simpa using HB.out⟩
    case round =>
      obtain ⟨k, hkn, rfl, hby⟩ := hrel
      by_cases hlt : k < ks.length
      · obtain ⟨⟨g', hg', hw⟩, hf⟩ := hby
        have c0 := (HAT.out.keep hf HS.out).2 k (.int .i64 ks[k]) (by simp [hlt])
        have htk := take_flat (ks.map gz) k (grp (zig ks[k])) (by simp [hlt, gz])
        have hl2 : (l ++ grp ks.length ++ ((ks.map gz).take k).flatten).length + 16 ≤ 1099511627776 := by
          have h1 := HFL.out k
          have h2 := HFL.out (k + 1)
          rw [htk, List.length_append] at h2
          have h4 := HLEN.out
          have h5 := HEN.out
          simp only [List.length_append]
          omega
        have HT := Lib.hid (putInt1_any p o cs t g' _ ks[k] wr hw (HR.out _ (by simp)).1 (HR.out _ (by simp)).2 hl2)
        have HTK := Lib.hid htk
        have HG := Lib.hid hg'
        have HF := Lib.hid hf
        clear hw htk hl2 hg' hf
        generalize ks[k] = kk at *
        go_wp2_with fail
        refine HT.out.mono ?_
        rintro e w2 ⟨rfl, hby⟩
        rw [List.append_assoc, ← HTK.out] at hby
        have hby2 : WrBy w w2 p o cs t g (l ++ grp ks.length ++ ((ks.map gz).take (k + 1)).flatten) := WrBy.trans HF.out HG.out hby
        have HBY := Lib.hid hby2
        clear hby hby2
        go_wp2
        go_roundw
        case rel => exact ⟨k + 1, by omega, by go_num, HBY.out⟩
        case measure => simp [intOf]; omega
      · obtain rfl : k = ks.length := by omega
        have HBY := Lib.hid hby
        clear hby
        go_wp2
        go_end0
        refine ⟨rfl, ?_⟩
        have := HBY.out
        rw [List.take_of_length_le (by rw [List.length_map]; omega), List.append_assoc] at this
        unfold enc
        rwa [List.length_map]
theorem putInts_any (p o : Nat) (cs : Array Value) (t : TypeId) (g : Option Nat) (l : List UInt8) (v : Value) (ks : List Int) (w : World) (h : Wr w p o cs t g l) (hk : Sl w v (ks.map (Value.int .i64))) (hd : ks ≠ [] → ∀ k, v.ownBlock = some k → ¬ WrS p g k)
    (hr : ∀ n ∈ ks, -9223372036854775808 ≤ n ∧ n < 9223372036854775808) (hlen : l.length + (enc (ks.map gz)).length ≤ 1000000) :
    Calls Try.prog 36 #[.pointer (some ⟨p, o, none⟩), v] w fun e w' => e = .returned (.tuple #[]) ∧ WrBy w w' p o cs t g (l ++ enc (ks.map gz)) := by
  have H := Lib.hid (putAllInts_any p o cs t g l v ks w h hk hd hr hlen)
  clear h hk hd hlen hr
  go_enter Try.func36, Try.ntmps36
  go_wp2_with fail
  (with_reducible refine (H.out).mono ?_)
  rintro e w1 ⟨rfl, hb⟩
  go_wp2
  go_end0
  exact ⟨rfl, hb⟩
end Go.Proofs.Ytbdocgnhoomhcaa
