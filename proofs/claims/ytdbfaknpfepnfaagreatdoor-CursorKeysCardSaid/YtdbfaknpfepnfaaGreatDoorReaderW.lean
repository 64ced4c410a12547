
/-
  The walks of a reader's inner functions: Read, Good, fail, Raw, fixed, Fixed4.
-/
import Derived.Test.YtdbfaknpfepnfaaGreatDoorFr
namespace Go.Proofs.YtdbfaknpfepnfaaGreatDoor
open Go.RowKit CodecP

/-- A reader at block p: what is to come, and whether it is bad. -/
def Rd (w : World) (p : Nat) (s : ByteArray) (bad : Bool) : Prop := w.heap[p]? = some (.cells #[.string s, .bool bad] 165 (0, 0)) ∧ s.size ≤ maxLen
theorem Rd.keep {w w' : World} {S : Nat → Prop} {p : Nat} {s : ByteArray} {bad : Bool} (h : Rd w p s bad) (hf : Fr S w w') (hS : ¬ S p) : Rd w' p s bad :=
  ⟨(hf.block p (lt_of_block h.1) hS).trans h.1, h.2⟩
theorem Rd.c0 {w : World} {p : Nat} {s : ByteArray} {bad : Bool} (h : Rd w p s bad) : w.cell? ⟨p, 0, none⟩ = some (.string s) := by simp [World.cell?, h.1]
theorem Rd.c1 {w : World} {p : Nat} {s : ByteArray} {bad : Bool} (h : Rd w p s bad) : w.cell? ⟨p, 1, none⟩ = some (.bool bad) := by simp [World.cell?, h.1]
theorem Rd.free {w : World} {p : Nat} {s : ByteArray} {bad : Bool} (h : Rd w p s bad) (o : Nat) : w.frozen? ⟨p, o, none⟩ = false := by simp [World.frozen?, h.1]
theorem Rd.set0 {w : World} {p : Nat} {s : ByteArray} {bad : Bool} (h : Rd w p s bad) (s' : ByteArray) (hs : s'.size ≤ maxLen) : Rd (w.setCell ⟨p, 0, none⟩ (.string s')) p s' bad := by
  have hlt := lt_of_block h.1
  have h' : w.heap[p] = .cells #[.string s, .bool bad] 165 (0, 0) := by simpa [Array.getElem?_eq_getElem hlt] using h.1
  refine ⟨?_, hs⟩
  show (w.heap.modify p _)[p]? = _
  rw [Array.getElem?_eq_getElem (by simpa using hlt), Array.getElem_modify_self, h']
  rfl
theorem Rd.set1 {w : World} {p : Nat} {s : ByteArray} {bad : Bool} (h : Rd w p s bad) (b' : Bool) : Rd (w.setCell ⟨p, 1, none⟩ (.bool b')) p s b' := by
  have hlt := lt_of_block h.1
  have h' : w.heap[p] = .cells #[.string s, .bool bad] 165 (0, 0) := by simpa [Array.getElem?_eq_getElem hlt] using h.1
  refine ⟨?_, h.2⟩
  show (w.heap.modify p _)[p]? = _
  rw [Array.getElem?_eq_getElem (by simpa using hlt), Array.getElem_modify_self, h']
  rfl
/-- A reader's own block. -/
def RdS (p : Nat) : Nat → Prop := fun k => k = p

theorem rdS_set (p o : Nat) (v : Value) (w : World) : Fr (RdS p) w (w.setCell ⟨p, o, none⟩ v) := (Fr.refl (RdS p) w).setCell (p := ⟨p, o, none⟩) (.inl rfl) v

theorem read_any (s : ByteArray) (w : World) (hs : s.size ≤ maxLen) :
    Calls Tryz.prog 64 #[.string s] w fun e w' => e = .returned (.pointer (some ⟨w.heap.size, 0, none⟩)) ∧ Rd w' w.heap.size s false ∧ Below w.heap.size w w' := by
  have H := Lib.hid hs
  clear hs
  go_enter Tryz.func64, Tryz.ntmps64
  go_wp2
  go_ret
  refine ⟨rfl, ⟨?_, H.out⟩, (Below.refl _ _).alloc (Nat.le_refl _) _⟩
  show (w.heap.push _)[w.heap.size]? = _
  simp

theorem good_any (p : Nat) (s : ByteArray) (bad : Bool) (w : World) (h : Rd w p s bad) :
    Calls Tryz.prog 127 #[.pointer (some ⟨p, 0, none⟩)] w fun e w' => e = .returned (.bool (!bad)) ∧ w = w' := by
  have c1 := h.c1
  clear h
  go_enter Tryz.func127, Tryz.ntmps127
  go_wp2
  go_ret
  exact ⟨rfl, rfl⟩

theorem fail_any (p : Nat) (s : ByteArray) (bad : Bool) (w : World) (h : Rd w p s bad) :
    Calls Tryz.prog 160 #[.pointer (some ⟨p, 0, none⟩)] w fun e w' => e = .returned (.tuple #[]) ∧ Rd w' p s true ∧ Fr (RdS p) w w' := by
  have c1 := h.c1
  have f1 := h.free 1
  have H := Lib.hid h
  clear h
  go_enter Tryz.func160, Tryz.ntmps160
  go_wp2
  go_end0
  exact ⟨rfl, H.out.set1 true, rdS_set _ _ _ _⟩

/-- What Raw takes: the text, what is to come, whether the reader is bad. -/
def rawOut (s : ByteArray) (bad : Bool) (n : Int) : ByteArray × ByteArray × Bool :=
  if bad = true ∨ n < 0 ∨ (s.size : Int) < n then (ByteArray.empty, s, true) else (s.extract 0 n.toNat, s.extract n.toNat s.size, false)

theorem rdRaw_any (p : Nat) (s : ByteArray) (bad : Bool) (n : Int) (w : World) (h : Rd w p s bad) :
    Calls Tryz.prog 151 #[.pointer (some ⟨p, 0, none⟩), .int .i64 n] w fun e w' => e = .returned (.string (rawOut s bad n).1) ∧ Rd w' p (rawOut s bad n).2.1 (rawOut s bad n).2.2 ∧ Fr (RdS p) w w' := by
  by_cases hb : bad = true ∨ n < 0 ∨ (s.size : Int) < n
  · have hr : rawOut s bad n = (ByteArray.empty, s, true) := by unfold rawOut; rw [if_pos hb]
    rw [hr]
    have c0 := h.c0
    have c1 := h.c1
    have H := Lib.hid h
    clear h hr
    cases bad
    · have hb2 : n < 0 ∨ (s.size : Int) < n := by simpa using hb
      clear hb
      by_cases hn : n < 0
      · clear hb2
        go_enter Tryz.func151, Tryz.ntmps151
        go_wp2_with fail
        refine (good_any _ _ _ _ H.out).mono ?_
        rintro e w1 ⟨rfl, rfl⟩
        go_wp2_with fail
        refine (fail_any _ _ _ _ H.out).mono ?_
        rintro e w1 ⟨rfl, h1, hf⟩
        go_wp2
        go_ret
        exact ⟨rfl, h1, hf⟩
      · have hn2 : (s.size : Int) < n := by omega
        clear hb2
        go_enter Tryz.func151, Tryz.ntmps151
        go_wp2_with fail
        refine (good_any _ _ _ _ H.out).mono ?_
        rintro e w1 ⟨rfl, rfl⟩
        go_wp2_with fail
        refine (fail_any _ _ _ _ H.out).mono ?_
        rintro e w1 ⟨rfl, h1, hf⟩
        go_wp2
        go_ret
        exact ⟨rfl, h1, hf⟩
    · clear hb
      go_enter Tryz.func151, Tryz.ntmps151
      go_wp2_with fail
      refine (good_any _ _ _ _ H.out).mono ?_
      rintro e w1 ⟨rfl, rfl⟩
      go_wp2_with fail
      refine (fail_any _ _ _ _ H.out).mono ?_
      rintro e w1 ⟨rfl, h1, hf⟩
      go_wp2
      go_ret
      exact ⟨rfl, h1, hf⟩
  · have hr : rawOut s bad n = (s.extract 0 n.toNat, s.extract n.toNat s.size, false) := by unfold rawOut; rw [if_neg hb]
    rw [hr]
    have hbad : bad = false := by cases bad <;> simp_all
    subst hbad
    obtain ⟨k, rfl⟩ := Int.eq_ofNat_of_zero_le (show 0 ≤ n by omega)
    have hk : k ≤ s.size := by omega
    have c0 := h.c0
    have c1 := h.c1
    have f0 := h.free 0
    have hs := h.2
    have hs2 : (s.extract k s.size).size ≤ maxLen := by
      have : (s.extract k s.size).size ≤ s.size := by simp [ByteArray.size_extract]
      omega
    have H := Lib.hid h
    have H2 := Lib.hid (h.set0 _ hs2)
    clear h hb hr hs2
    unfold maxLen at hs
    rw [Int.toNat_natCast]
    go_enter Tryz.func151, Tryz.ntmps151
    go_wp2_with fail
    refine (good_any _ _ _ _ H.out).mono ?_
    rintro e w1 ⟨rfl, rfl⟩
    go_wp2
    go_ret
    exact ⟨rfl, H2.out, rdS_set _ _ _ _⟩
theorem value_take (l : List UInt8) (k : Nat) (h : k < l.length) : value (l.take (k + 1)) = 256 * value (l.take k) + (l.getD k 0).toNat := by
  rw [List.take_succ_eq_append_getElem h, value_snoc]
  simp [h]
theorem value_take_lt (l : List UInt8) (k : Nat) (h : k ≤ 7) : value (l.take k) < 72057594037927936 := by
  have h1 := value_lt (l.take k)
  have h2 : 256 ^ (l.take k).length ≤ 256 ^ 7 := Nat.pow_le_pow_right (by decide) (by rw [List.length_take]; omega)
  have h3 : 256 ^ 7 = 72057594037927936 := by decide
  omega
theorem or_byte (x c : Nat) (hx : x < 72057594037927936) (hc : c < 256) : bits .or .u64 ((x : Int) * 256) (c : Int) = ((256 * x + c : Nat) : Int) := by
  rw [show (x : Int) * 256 = ((256 * x : Nat) : Int) by omega, u64_or_nat _ _ (by omega) (by omega)]
  congr 1
  exact nat_join 8 (256 * x) c (by omega) (by omega)
theorem ret_u64 {a b : Int} (h : a = b) : Ending.returned (.int .u64 a) = .returned (.int .u64 b) := by rw [h]

set_option maxHeartbeats 400000 in
theorem rdFixed_any (p : Nat) (s : ByteArray) (bad : Bool) (n : Nat) (w : World) (h : Rd w p s bad) (hn : n ≤ 8) :
    Calls Tryz.prog 108 #[.pointer (some ⟨p, 0, none⟩), .int .i64 n] w fun e w' => e = .returned (.int .u64 (value (rawOut s bad n).1.data.toList : Nat)) ∧ Rd w' p (rawOut s bad n).2.1 (rawOut s bad n).2.2 ∧ Fr (RdS p) w w' := by
  have hsz : (rawOut s bad n).1.size ≤ 8 := by
    unfold rawOut
    split
    · show (0 : Nat) ≤ 8; omega
    · rename_i hh
      simp only [ByteArray.size_extract, Int.toNat_natCast]; omega
  have HR := Lib.hid (rdRaw_any p s bad n w h)
  clear h
  generalize rawOut s bad n = r at *
  obtain ⟨t, s2, b2⟩ := r
  have hcv := fun W => Lib.run_convert_string_bytes (P := Tryz.prog) W 9 94 5 t Tryz.underlying9 Tryz.underlying94 Tryz.underlying5
  simp only at hsz
  have hpos : (n : Int) ≤ 8 := by omega
  go_enter Tryz.func108, Tryz.ntmps108
  go_wp2_with fail
  refine HR.out.mono ?_
  rintro e w1 ⟨rfl, h1, hf⟩
  simp only
  have h2 : Rd (Lib.bytesWorld w1 5 t) p s2 b2 := h1.keep ((Fr.refl (fun _ => False) w1).bytes _ _) (fun h => h)
  have hf2 : Fr (RdS p) w (Lib.bytesWorld w1 5 t) := hf.bytes _ _
  have hc := Lib.bytesWorld_cell w1 5 t
  have HC := Lib.hid hc
  have H2 := Lib.hid h2
  have HF := Lib.hid hf2
  clear h1 h2 hf hf2 hc HR
  go_wp2
  clear hcv
  generalize Lib.bytesWorld w1 5 t = w2 at *
  go_loop [5, 7, 13] (fun x _ c => ∃ k : Nat, k ≤ t.size ∧ c = .int .i64 k ∧ x = .int .u64 (value (t.data.toList.take k) : Nat)) (fun _ _ c => t.size - (intOf c).toNat)
  case atStart => exact ⟨0, by omega, rfl, rfl⟩
  case round =>
    obtain ⟨k, hk, rfl, rfl⟩ := hrel
    by_cases hlt : k < t.size
    · have c0 := HC.out k hlt
      have hv := value_take t.data.toList k (by simpa using hlt)
      have hl := value_take_lt t.data.toList k (by omega)
      have hcl := (t.data.toList.getD k 0).toNat_lt
      have hor := or_byte (value (t.data.toList.take k)) (t.data.toList.getD k 0).toNat hl (by omega)
      generalize value (t.data.toList.take k) = x at *
      generalize (t.data.toList.getD k 0).toNat = c at *
      have HV := Lib.hid hv
      clear hv
      go_wp2
      go_round
      case rel => exact ⟨k + 1, by omega, by go_num, by rw [HV.out]; go_num⟩
      case measure => simp [intOf]; omega
    · go_wp2
      go_ret
      exact ⟨ret_u64 (by rw [List.take_of_length_le (by simp; omega)]), H2.out, HF.out⟩
theorem value_lt4 (l : List UInt8) (h : l.length ≤ 4) : value l < 4294967296 := by
  have h1 := value_lt l
  have h2 : 256 ^ l.length ≤ 256 ^ 4 := Nat.pow_le_pow_right (by decide) h
  have h3 : 256 ^ 4 = 4294967296 := by decide
  omega
theorem rdFixed4_any (p : Nat) (s : ByteArray) (bad : Bool) (w : World) (h : Rd w p s bad) :
    Calls Tryz.prog 158 #[.pointer (some ⟨p, 0, none⟩)] w fun e w' => e = .returned (.int .u32 (value (rawOut s bad 4).1.data.toList : Nat)) ∧ Rd w' p (rawOut s bad 4).2.1 (rawOut s bad 4).2.2 ∧ Fr (RdS p) w w' := by
  have hsz : (rawOut s bad 4).1.data.toList.length ≤ 4 := by
    unfold rawOut
    split
    · show (0 : Nat) ≤ 4; omega
    · show ((s.extract 0 4).data.toList).length ≤ 4
      rw [Array.length_toList, ByteArray.size_data, ByteArray.size_extract]; omega
  have hv := value_lt4 _ hsz
  have HR := Lib.hid (rdFixed_any p s bad 4 w h (by omega))
  clear h hsz
  have e4 : ((4 : Nat) : Int) = 4 := rfl
  rw [e4] at HR
  clear e4
  generalize rawOut s bad 4 = r at *
  generalize value r.1.data.toList = x at *
  go_enter Tryz.func158, Tryz.ntmps158
  go_wp2_with fail
  refine HR.out.mono ?_
  rintro e w1 ⟨rfl, h1, hf⟩
  go_wp2
  go_ret
  exact ⟨rfl, h1, hf⟩
end Go.Proofs.YtdbfaknpfepnfaaGreatDoor
