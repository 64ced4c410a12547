/-
  Texts of the claim, joined: ReaderW, CrcLaidW, CrcFrameW, CrcOpenW, Reader2W, Reader3W, CodecAwake, CodecBackW, CrcAwake, CrcLaws1, RefMakeW, BloomAwake, BloomLaws, BloomKeepsW, CrcPatW, CrcTurnW, CrcTurn2W, CrcPieceW, CrcPiece2W, CodecBack2W, RefGroupsW, RefTakeW, RefTake2W, RefNumW, SizesW, RefLaysW, BlockP.
-/
import Derived.Test.YtdbfaknpfepnfaaGreatDoorTabCK1
import Derived.Deep.RegionLaw
import Derived.Deep.AppendLies
import Derived.StillTailTactics
import Derived.Laws.BytesArg
import Derived.Deep.RegionWith

/-
  The walks of a reader's inner functions: Read, Good, fail, Raw, fixed, Fixed4.
-/
namespace Go.Proofs.YtdbfaknpfepnfaaGreatDoor
open Go.RowKit CodecP

/-- A reader at block p: what is to come, and whether it is bad. -/
def Rd (w : World) (p : Nat) (s : ByteArray) (bad : Bool) : Prop := w.heap[p]? = some (.cells #[.string s, .bool bad] 165 (0, 0)) ∧ s.size ≤ maxLen
set_option maxRecDepth 100000 in
theorem Rd.keep {w w' : World} {S : Nat → Prop} {p : Nat} {s : ByteArray} {bad : Bool} (h : Rd w p s bad) (hf : Fr S w w') (hS : ¬ S p) : Rd w' p s bad :=
  ⟨(hf.block p (lt_of_block h.1) hS).trans h.1, h.2⟩
set_option maxRecDepth 100000 in
theorem Rd.c0 {w : World} {p : Nat} {s : ByteArray} {bad : Bool} (h : Rd w p s bad) : w.cell? ⟨p, 0, none⟩ = some (.string s) := by simp [World.cell?, h.1]
set_option maxRecDepth 100000 in
theorem Rd.c1 {w : World} {p : Nat} {s : ByteArray} {bad : Bool} (h : Rd w p s bad) : w.cell? ⟨p, 1, none⟩ = some (.bool bad) := by simp [World.cell?, h.1]
set_option maxRecDepth 100000 in
theorem Rd.free {w : World} {p : Nat} {s : ByteArray} {bad : Bool} (h : Rd w p s bad) (o : Nat) : w.frozen? ⟨p, o, none⟩ = false := by simp [World.frozen?, h.1]
set_option maxRecDepth 100000 in
theorem Rd.set0 {w : World} {p : Nat} {s : ByteArray} {bad : Bool} (h : Rd w p s bad) (s' : ByteArray) (hs : s'.size ≤ maxLen) : Rd (w.setCell ⟨p, 0, none⟩ (.string s')) p s' bad := by
  have hlt := lt_of_block h.1
  have h' : w.heap[p] = .cells #[.string s, .bool bad] 165 (0, 0) := by simpa [Array.getElem?_eq_getElem hlt] using h.1
  refine ⟨?_, hs⟩
  show (w.heap.modify p _)[p]? = _
  rw [Array.getElem?_eq_getElem (by simpa using hlt), Array.getElem_modify_self, h']
  rfl
set_option maxRecDepth 100000 in
theorem Rd.set1 {w : World} {p : Nat} {s : ByteArray} {bad : Bool} (h : Rd w p s bad) (b' : Bool) : Rd (w.setCell ⟨p, 1, none⟩ (.bool b')) p s b' := by
  have hlt := lt_of_block h.1
  have h' : w.heap[p] = .cells #[.string s, .bool bad] 165 (0, 0) := by simpa [Array.getElem?_eq_getElem hlt] using h.1
  refine ⟨?_, h.2⟩
  show (w.heap.modify p _)[p]? = _
  rw [Array.getElem?_eq_getElem (by simpa using hlt), Array.getElem_modify_self, h']
  rfl
/-- A reader's own block. -/
def RdS (p : Nat) : Nat → Prop := fun k => k = p

set_option maxRecDepth 100000 in
theorem rdS_set (p o : Nat) (v : Value) (w : World) : Fr (RdS p) w (w.setCell ⟨p, o, none⟩ v) := (Fr.refl (RdS p) w).setCell (p := ⟨p, o, none⟩) (.inl rfl) v

set_option maxRecDepth 100000 in
theorem read_any (s : ByteArray) (w : World) (hs : s.size ≤ maxLen) :
    Calls Tryz.prog 64 #[.string s] w fun e w' => e = .returned (.pointer (some ⟨w.heap.size, 0, none⟩)) ∧ Rd w' w.heap.size s false ∧ Below w.heap.size w w' := by
  have H := Lib.hid hs
  clear hs
  go_enter Tryz.func64, Tryz.ntmps64
  go_wp2
  go_ret
  refine ⟨rfl, ⟨?_, H.out⟩, (Below.refl _ _).alloc (Nat.le_refl _) _⟩
  show (w.heap.push _)[w.heap.size]? = _
  simp

set_option maxRecDepth 100000 in
theorem good_any (p : Nat) (s : ByteArray) (bad : Bool) (w : World) (h : Rd w p s bad) :
    Calls Tryz.prog 127 #[.pointer (some ⟨p, 0, none⟩)] w fun e w' => e = .returned (.bool (!bad)) ∧ w = w' := by
  have c1 := h.c1
  clear h
  go_enter Tryz.func127, Tryz.ntmps127
  go_wp2
  go_ret
  exact ⟨rfl, rfl⟩

set_option maxRecDepth 100000 in
theorem fail_any (p : Nat) (s : ByteArray) (bad : Bool) (w : World) (h : Rd w p s bad) :
    Calls Tryz.prog 160 #[.pointer (some ⟨p, 0, none⟩)] w fun e w' => e = .returned (.tuple #[]) ∧ Rd w' p s true ∧ Fr (RdS p) w w' := by
  have c1 := h.c1
  have f1 := h.free 1
  have H := Lib.hid h
  clear h
  go_enter Tryz.func160, Tryz.ntmps160
  go_wp2
  go_end0
  exact ⟨rfl, H.out.set1 true, rdS_set _ _ _ _⟩

/-- What Raw takes: the text, what is to come, whether the reader is bad. -/
def rawOut (s : ByteArray) (bad : Bool) (n : Int) : ByteArray × ByteArray × Bool :=
  if bad = true ∨ n < 0 ∨ (s.size : Int) < n then (ByteArray.empty, s, true) else (s.extract 0 n.toNat, s.extract n.toNat s.size, false)

set_option maxRecDepth 100000 in
theorem rdRaw_any (p : Nat) (s : ByteArray) (bad : Bool) (n : Int) (w : World) (h : Rd w p s bad) :
    Calls Tryz.prog 151 #[.pointer (some ⟨p, 0, none⟩), .int .i64 n] w fun e w' => e = .returned (.string (rawOut s bad n).1) ∧ Rd w' p (rawOut s bad n).2.1 (rawOut s bad n).2.2 ∧ Fr (RdS p) w w' := by
  by_cases hb : bad = true ∨ n < 0 ∨ (s.size : Int) < n
  · have hr : rawOut s bad n = (ByteArray.empty, s, true) := by unfold rawOut; rw [if_pos hb]
    rw [hr]
    have c0 := h.c0
    have c1 := h.c1
    have H := Lib.hid h
    clear h hr
    cases bad
    · have hb2 : n < 0 ∨ (s.size : Int) < n := by simpa using hb
      clear hb
      by_cases hn : n < 0
      · clear hb2
        go_enter Tryz.func151, Tryz.ntmps151
        go_wp2_with fail
        refine (good_any _ _ _ _ H.out).mono ?_
        rintro e w1 ⟨rfl, rfl⟩
        go_wp2_with fail
        refine (fail_any _ _ _ _ H.out).mono ?_
        rintro e w1 ⟨rfl, h1, hf⟩
        go_wp2
        go_ret
        exact ⟨rfl, h1, hf⟩
      · have hn2 : (s.size : Int) < n := by omega
        clear hb2
        go_enter Tryz.func151, Tryz.ntmps151
        go_wp2_with fail
        refine (good_any _ _ _ _ H.out).mono ?_
        rintro e w1 ⟨rfl, rfl⟩
        go_wp2_with fail
        refine (fail_any _ _ _ _ H.out).mono ?_
        rintro e w1 ⟨rfl, h1, hf⟩
        go_wp2
        go_ret
        exact ⟨rfl, h1, hf⟩
    · clear hb
      go_enter Tryz.func151, Tryz.ntmps151
      go_wp2_with fail
      refine (good_any _ _ _ _ H.out).mono ?_
      rintro e w1 ⟨rfl, rfl⟩
      go_wp2_with fail
      refine (fail_any _ _ _ _ H.out).mono ?_
      rintro e w1 ⟨rfl, h1, hf⟩
      go_wp2
      go_ret
      exact ⟨rfl, h1, hf⟩
  · have hr : rawOut s bad n = (s.extract 0 n.toNat, s.extract n.toNat s.size, false) := by unfold rawOut; rw [if_neg hb]
    rw [hr]
    have hbad : bad = false := by cases bad <;> simp_all
    subst hbad
    obtain ⟨k, rfl⟩ := Int.eq_ofNat_of_zero_le (show 0 ≤ n by omega)
    have hk : k ≤ s.size := by omega
    have c0 := h.c0
    have c1 := h.c1
    have f0 := h.free 0
    have hs := h.2
    have hs2 : (s.extract k s.size).size ≤ maxLen := by
      have : (s.extract k s.size).size ≤ s.size := by simp [ByteArray.size_extract]
      omega
    have H := Lib.hid h
    have H2 := Lib.hid (h.set0 _ hs2)
    clear h hb hr hs2
    unfold maxLen at hs
    rw [Int.toNat_natCast]
    go_enter Tryz.func151, Tryz.ntmps151
    go_wp2_with fail
    refine (good_any _ _ _ _ H.out).mono ?_
    rintro e w1 ⟨rfl, rfl⟩
    go_wp2
    go_ret
    exact ⟨rfl, H2.out, rdS_set _ _ _ _⟩
set_option maxRecDepth 100000 in
theorem value_take (l : List UInt8) (k : Nat) (h : k < l.length) : value (l.take (k + 1)) = 256 * value (l.take k) + (l.getD k 0).toNat := by
  rw [List.take_succ_eq_append_getElem h, value_snoc]
  simp [h]
set_option maxRecDepth 100000 in
theorem value_take_lt (l : List UInt8) (k : Nat) (h : k ≤ 7) : value (l.take k) < 72057594037927936 := by
  have h1 := value_lt (l.take k)
  have h2 : 256 ^ (l.take k).length ≤ 256 ^ 7 := Nat.pow_le_pow_right (by decide) (by rw [List.length_take]; omega)
  have h3 : 256 ^ 7 = 72057594037927936 := by decide
  omega
set_option maxRecDepth 100000 in
theorem or_byte (x c : Nat) (hx : x < 72057594037927936) (hc : c < 256) : bits .or .u64 ((x : Int) * 256) (c : Int) = ((256 * x + c : Nat) : Int) := by
  rw [show (x : Int) * 256 = ((256 * x : Nat) : Int) by omega, u64_or_nat _ _ (by omega) (by omega)]
  congr 1
  exact nat_join 8 (256 * x) c (by omega) (by omega)
set_option maxRecDepth 100000 in
theorem ret_u64 {a b : Int} (h : a = b) : Ending.returned (.int .u64 a) = .returned (.int .u64 b) := by rw [h]

set_option maxRecDepth 100000 in
set_option maxHeartbeats 400000 in
theorem rdFixed_any (p : Nat) (s : ByteArray) (bad : Bool) (n : Nat) (w : World) (h : Rd w p s bad) (hn : n ≤ 8) :
    Calls Tryz.prog 108 #[.pointer (some ⟨p, 0, none⟩), .int .i64 n] w fun e w' => e = .returned (.int .u64 (value (rawOut s bad n).1.data.toList : Nat)) ∧ Rd w' p (rawOut s bad n).2.1 (rawOut s bad n).2.2 ∧ Fr (RdS p) w w' := by
  have hsz : (rawOut s bad n).1.size ≤ 8 := by
    unfold rawOut
    split
    · show (0 : Nat) ≤ 8; omega
    · rename_i hh
      simp only [ByteArray.size_extract, Int.toNat_natCast]; omega
  have HR := Lib.hid (rdRaw_any p s bad n w h)
  clear h
  generalize rawOut s bad n = r at *
  obtain ⟨t, s2, b2⟩ := r
  have hcv := fun W => Lib.run_convert_string_bytes (P := Tryz.prog) W 9 94 5 t Tryz.underlying9 Tryz.underlying94 Tryz.underlying5
  simp only at hsz
  have hpos : (n : Int) ≤ 8 := by omega
  go_enter Tryz.func108, Tryz.ntmps108
  go_wp2_with fail
  refine HR.out.mono ?_
  rintro e w1 ⟨rfl, h1, hf⟩
  simp only
  have h2 : Rd (Lib.bytesWorld w1 5 t) p s2 b2 := h1.keep ((Fr.refl (fun _ => False) w1).bytes _ _) (fun h => h)
  have hf2 : Fr (RdS p) w (Lib.bytesWorld w1 5 t) := hf.bytes _ _
  have hc := Lib.bytesWorld_cell w1 5 t
  have HC := Lib.hid hc
  have H2 := Lib.hid h2
  have HF := Lib.hid hf2
  clear h1 h2 hf hf2 hc HR
  go_wp2
  clear hcv
  generalize Lib.bytesWorld w1 5 t = w2 at *
  go_loop [5, 7, 13] (fun x _ c => ∃ k : Nat, k ≤ t.size ∧ c = .int .i64 k ∧ x = .int .u64 (value (t.data.toList.take k) : Nat)) (fun _ _ c => t.size - (intOf c).toNat)
  case atStart => exact ⟨0, by omega, rfl, rfl⟩
  case round =>
    obtain ⟨k, hk, rfl, rfl⟩ := hrel
    by_cases hlt : k < t.size
    · have c0 := HC.out k hlt
      have hv := value_take t.data.toList k (by simpa using hlt)
      have hl := value_take_lt t.data.toList k (by omega)
      have hcl := (t.data.toList.getD k 0).toNat_lt
      have hor := or_byte (value (t.data.toList.take k)) (t.data.toList.getD k 0).toNat hl (by omega)
      generalize value (t.data.toList.take k) = x at *
      generalize (t.data.toList.getD k 0).toNat = c at *
      have HV := Lib.hid hv
      clear hv
      go_wp2
      go_round
      case rel => exact ⟨k + 1, by omega, by go_num, by rw [HV.out]; go_num⟩
      case measure => simp [intOf]; omega
    · go_wp2
      go_ret
      exact ⟨ret_u64 (by rw [List.take_of_length_le (by simp; omega)]), H2.out, HF.out⟩
set_option maxRecDepth 100000 in
theorem value_lt4 (l : List UInt8) (h : l.length ≤ 4) : value l < 4294967296 := by
  have h1 := value_lt l
  have h2 : 256 ^ l.length ≤ 256 ^ 4 := Nat.pow_le_pow_right (by decide) h
  have h3 : 256 ^ 4 = 4294967296 := by decide
  omega
set_option maxRecDepth 100000 in
theorem rdFixed4_any (p : Nat) (s : ByteArray) (bad : Bool) (w : World) (h : Rd w p s bad) :
    Calls Tryz.prog 158 #[.pointer (some ⟨p, 0, none⟩)] w fun e w' => e = .returned (.int .u32 (value (rawOut s bad 4).1.data.toList : Nat)) ∧ Rd w' p (rawOut s bad 4).2.1 (rawOut s bad 4).2.2 ∧ Fr (RdS p) w w' := by
  have hsz : (rawOut s bad 4).1.data.toList.length ≤ 4 := by
    unfold rawOut
    split
    · show (0 : Nat) ≤ 4; omega
    · show ((s.extract 0 4).data.toList).length ≤ 4
      rw [Array.length_toList, ByteArray.size_data, ByteArray.size_extract]; omega
  have hv := value_lt4 _ hsz
  have HR := Lib.hid (rdFixed_any p s bad 4 w h (by omega))
  clear h hsz
  have e4 : ((4 : Nat) : Int) = 4 := rfl
  rw [e4] at HR
  clear e4
  generalize rawOut s bad 4 = r at *
  generalize value r.1.data.toList = x at *
  go_enter Tryz.func158, Tryz.ntmps158
  go_wp2_with fail
  refine HR.out.mono ?_
  rintro e w1 ⟨rfl, h1, hf⟩
  go_wp2
  go_ret
  exact ⟨rfl, h1, hf⟩
end Go.Proofs.YtdbfaknpfepnfaaGreatDoor

/-
  The walks of math/bits.ReverseBytes32, crc.Laid, and of the document's own sum as bytes.
-/
namespace Go.Proofs.YtdbfaknpfepnfaaGreatDoor
open Go.RowKit Go.Deep CrcP CodecP FrameP

set_option maxRecDepth 100000 in
theorem byte_or (b a : Nat) (hb : b < 256) : b ||| 256 * a = b + 256 * a := by
  rw [Nat.or_comm, nat_join 8 (256 * a) b (by omega) (by omega), Nat.add_comm]
set_option maxRecDepth 100000 in
theorem rev_ops (x : Nat) (hx : x < 4294967296) : bits .or .u32 (bits .and .u32 ((x : Int) / 256) 16711935) (bits .and .u32 (x : Int) 16711935 * 256 % 4294967296) = ((x / 256 % 256 + 256 * (x % 256) + 65536 * (x / 16777216 + 256 * (x / 65536 % 256)) : Nat) : Int) := by
  have e1 : (x : Int) / 256 = ((x / 256 : Nat) : Int) := by omega
  rw [e1, show (16711935 : Int) = ((16711935 : Nat) : Int) from rfl, u32_and_nat _ _ (by omega) (by decide), u32_and_nat _ _ hx (by decide), mask_bytes, mask_bytes]
  have e2 : ((x % 256 + 65536 * (x / 65536 % 256) : Nat) : Int) * 256 % 4294967296 = ((65536 * (256 * (x / 65536 % 256)) + 256 * (x % 256) : Nat) : Int) := by omega
  have e3 : x / 256 % 256 + 65536 * (x / 256 / 65536 % 256) = 65536 * (x / 16777216) + x / 256 % 256 := by omega
  rw [e2, e3, u32_or_nat _ _ (by omega) (by omega)]
  congr 1
  rw [or_parts _ _ _ _ (by omega) (by omega), byte_or _ _ (by omega), byte_or _ _ (by omega)]
  omega
set_option maxRecDepth 100000 in
theorem rev_ops2 (y : Nat) (hy : y < 4294967296) : bits .or .u32 ((y : Int) / 65536) ((y : Int) * 65536 % 4294967296) = ((y / 65536 + 65536 * (y % 65536) : Nat) : Int) := by
  have e1 : (y : Int) / 65536 = ((y / 65536 : Nat) : Int) := by omega
  have e2 : (y : Int) * 65536 % 4294967296 = ((65536 * (y % 65536) : Nat) : Int) := by omega
  rw [e1, e2, u32_or_nat _ _ (by omega) (by omega), Nat.or_comm, nat_join 16 _ _ (by omega) (by omega), Nat.add_comm]
set_option maxRecDepth 100000 in
theorem ret_u32 {a b : Int} (h : a = b) : Ending.returned (.int .u32 a) = .returned (.int .u32 b) := by rw [h]
set_option maxRecDepth 100000 in
theorem rev_any (v : BitVec 32) (w : World) :
    Calls Tryz.prog 155 #[.int .u32 (u v)] w fun e w' => e = .returned (.int .u32 (rev v.toNat : Nat)) ∧ w = w' := by
  have hv := v.isLt
  have eu : u v = ((v.toNat : Nat) : Int) := rfl
  rw [eu]
  generalize v.toNat = x at *
  clear eu
  have h1 := rev_ops x hv
  have h2 := rev_ops2 (x / 256 % 256 + 256 * (x % 256) + 65536 * (x / 16777216 + 256 * (x / 65536 % 256))) (by omega)
  have h3 : (x / 256 % 256 + 256 * (x % 256) + 65536 * (x / 16777216 + 256 * (x / 65536 % 256))) / 65536 + 65536 * ((x / 256 % 256 + 256 * (x % 256) + 65536 * (x / 16777216 + 256 * (x / 65536 % 256))) % 65536) = rev x := by unfold rev; omega
  rw [h3] at h2
  clear h3
  generalize x / 256 % 256 + 256 * (x % 256) + 65536 * (x / 16777216 + 256 * (x / 65536 % 256)) = y at *
  go_enter Tryz.func155, Tryz.ntmps155
  go_wp2
  go_ret
  exact ⟨rfl, rfl⟩

set_option maxRecDepth 100000 in
/-- The sum of bytes as four bytes. -/
theorem laid_any (s : ByteArray) (w : World) (hs : s.size ≤ maxLen) (hn : Nibs w) :
    Calls Tryz.prog 119 #[.string s] w fun e w' => e = .returned (.string (str (laid (bl s)))) ∧ Below w.heap.size w w' := by
  have HN := Lib.hid (hn.below ((Below.refl _ w).alloc (Nat.le_refl _) (.cells #[.slice none 0 0] 96)))
  have HS := Lib.hid hs
  have HW := Lib.hid (Wr.new w)
  clear hn hs
  go_enter Tryz.func119, Tryz.ntmps119
  go_wp2_with fail
  refine (sum_any s _ HS.out HN.out).mono ?_
  rintro e w1 ⟨rfl, rfl⟩
  go_wp2_with fail
  refine (rev_any _ _).mono ?_
  rintro e w1 ⟨rfl, rfl⟩
  have hlt : rev (CrcP.sum s.data.toList).toNat < 4294967296 := by
    rw [rev_value]; exact value_lt4 _ (by rw [le4_length]; omega)
  have hfx := fixed_rev (CrcP.sum s.data.toList)
  generalize rev (CrcP.sum s.data.toList).toNat = r at *
  have HFX := Lib.hid hfx
  clear hfx
  go_wp2_with fail
  refine (fixed4_any w.heap.size 0 #[undef] 96 none [] r _ HW.out hlt (by simp)).mono ?_
  rintro e w1 ⟨rfl, hby⟩
  obtain ⟨⟨g', hg', hw⟩, hf⟩ := hby
  have hbel : Below w.heap.size w w1 := ((Below.refl _ w).alloc (Nat.le_refl _) _).trans (hf.below (by simp) (fun k _ hk => by rcases hk with rfl | hk; exact Nat.le_refl _; cases hk))
  rw [List.nil_append, HFX.out] at hw
  have HW2 := Lib.hid hw
  clear hw hf hg' HFX
  go_wp2_with fail
  refine (bytes_any w.heap.size 0 #[undef] 96 g' _ _ HW2.out).mono ?_
  rintro e w2 ⟨rfl, rfl⟩
  go_wp2
  go_ret
  exact ⟨rfl, hbel⟩

set_option maxRecDepth 100000 in
theorem bytes4 (x : Nat) : strOfNums [((x : Int) % 256), ((x : Int) / 256 % 256), ((x : Int) / 65536 % 256), ((x : Int) / 16777216)] = ⟨#[UInt8.ofNat (x % 256), UInt8.ofNat (x / 256 % 256), UInt8.ofNat (x / 65536 % 256), UInt8.ofNat (x / 16777216)]⟩ := by
  have m1 : ((x : Int) % 256).toNat = x % 256 := by omega
  have m2 : ((x : Int) / 256 % 256).toNat = x / 256 % 256 := by omega
  have m3 : ((x : Int) / 65536 % 256).toNat = x / 65536 % 256 := by omega
  have m4 : ((x : Int) / 16777216).toNat = x / 16777216 := by omega
  unfold strOfNums
  simp only [List.map_cons, List.map_nil, m1, m2, m3, m4]
set_option maxRecDepth 100000 in
theorem four_cells (w : World) (a b c d : Int) (t : TypeId) : ∀ i, i < 4 → (w.alloc (.cells #[.int .u8 a, .int .u8 b, .int .u8 c, .int .u8 d] t)).cell? ⟨w.heap.size, 0 + i, none⟩ = some (.int .u8 ([a, b, c, d].getD i 0)) := by
  intro i hi
  have : i = 0 ∨ i = 1 ∨ i = 2 ∨ i = 3 := by omega
  rcases this with rfl | rfl | rfl | rfl <;> simp
set_option maxRecDepth 100000 in
theorem refLaid_any (s : ByteArray) (w : World) (hs : s.size ≤ maxLen) :
    Calls Tryz.prog 114 #[.string s] w fun e w' => e = .returned (.string (str (laid (bl s)))) ∧ Below w.heap.size w w' := by
  have HS := Lib.hid hs
  clear hs
  go_enter Tryz.func114, Tryz.ntmps114
  go_wp2_with fail
  refine (refMore_at _ 0#32 rfl s _ HS.out).mono ?_
  rintro e w1 ⟨rfl, hb⟩
  have hx : (more 0#32 s.data.toList).toNat < 4294967296 := BitVec.isLt _
  have hu : u (more 0#32 s.data.toList) = (((more 0#32 s.data.toList).toNat : Nat) : Int) := rfl
  have hfin : str (laid (bl s)) = ⟨#[UInt8.ofNat ((more 0#32 s.data.toList).toNat % 256), UInt8.ofNat ((more 0#32 s.data.toList).toNat / 256 % 256), UInt8.ofNat ((more 0#32 s.data.toList).toNat / 65536 % 256), UInt8.ofNat ((more 0#32 s.data.toList).toNat / 16777216)]⟩ := rfl
  rw [hu]
  have HF := Lib.hid hfin
  clear hu hfin
  generalize (more 0#32 s.data.toList).toNat = x at *
  have b4 := bytes4 x
  have hcv := run_convert_bytes_arg (P := Tryz.prog) (w := w1.alloc (.cells #[.int .u8 ((x : Int) % 256), .int .u8 ((x : Int) / 256 % 256), .int .u8 ((x : Int) / 65536 % 256), .int .u8 ((x : Int) / 16777216)] 5)) 94 5 Tryz.underlying94 Tryz.underlying5 w1.heap.size 0 4 4 [((x : Int) % 256), ((x : Int) / 256 % 256), ((x : Int) / 65536 % 256), ((x : Int) / 16777216)] rfl
    (four_cells _ _ _ _ _ _) 9 Tryz.underlying9
  rw [b4, ← HF.out] at hcv
  clear b4 HF
  go_wp2
  go_ret
  exact ⟨rfl, hb.alloc hb.size _⟩
end Go.Proofs.YtdbfaknpfepnfaaGreatDoor

/-
  The walk of crc.Frame.
-/
namespace Go.Proofs.YtdbfaknpfepnfaaGreatDoor
open Go.RowKit Go.Deep CrcP CodecP FrameP

set_option maxRecDepth 100000 in
theorem str_size (l : List UInt8) : (str l).size = l.length := by simp [str, ByteArray.size]
set_option maxRecDepth 100000 in
theorem small (n : Nat) (h : n ≤ 1099511627776) : n ≤ maxLen := size_le n h
set_option maxRecDepth 100000 in
theorem frame_str (s : ByteArray) : ByteArray.mk (fixed 4 s.size ++ (str (laid (fixed 4 s.size))).data.toList ++ s.data.toList ++ (str (laid (bl s))).data.toList).toArray = str (frame (bl s)) := rfl
set_option maxRecDepth 100000 in
theorem frame_long (s : ByteArray) (w : World) (h : 131072 < s.size) (hs : s.size ≤ maxLen) :
    Calls Tryz.prog 80 #[.string s] w fun e w' => e = .returned (.tuple #[.string ByteArray.empty, .bool false]) ∧ w = w' := by
  unfold maxLen at hs
  go_enter Tryz.func80, Tryz.ntmps80
  go_wp2
  go_ret2
  exact ⟨rfl, rfl⟩

set_option maxRecDepth 100000 in
set_option maxHeartbeats 400000 in
theorem frame_any (s : ByteArray) (w : World) (h : s.size ≤ 131072) (hn : Nibs w) :
    Calls Tryz.prog 80 #[.string s] w fun e w' => e = .returned (.tuple #[.string (str (frame (bl s))), .bool true]) ∧ Below w.heap.size w w' := by
  have HN := Lib.hid hn
  have O0 := Own.new (Below.refl w.heap.size w)
  have hsm : s.size ≤ maxLen := small _ (by omega)
  have HS := Lib.hid hsm
  clear hn hsm
  go_enter Tryz.func80, Tryz.ntmps80
  go_wp2_with fail
  refine (fixed4_any w.heap.size 0 #[undef] 96 none [] s.size _ O0.wr (by omega) (by simp)).mono ?_
  rintro e w1 ⟨rfl, hby⟩
  obtain ⟨g1, O1⟩ := O0.step hby
  rw [List.nil_append] at O1
  clear hby O0
  go_wp2_with fail
  refine (bytes_any w.heap.size 0 #[undef] 96 g1 _ _ O1.wr).mono ?_
  rintro e w2 ⟨rfl, rfl⟩
  go_wp2_with fail
  refine (laid_any (str (fixed 4 s.size)) _ (by rw [str_size]; exact small _ (by rw [fixed_length]; omega)) (HN.out.below O1.below)).mono ?_
  rintro e w2 ⟨rfl, hb2⟩
  rw [bl_str]
  have O2 := O1.keep hb2
  clear O1 hb2
  go_wp2_with fail
  refine (raw_any w.heap.size 0 #[undef] 96 g1 _ (str (laid (fixed 4 s.size))) _ O2.wr (by rw [str_size, fixed_length, laid_length]; omega)).mono ?_
  rintro e w3 ⟨rfl, hby⟩
  obtain ⟨g3, O3⟩ := O2.step hby
  clear O2 hby
  go_wp2_with fail
  refine (raw_any w.heap.size 0 #[undef] 96 g3 _ s _ O3.wr (by rw [List.length_append, fixed_length]; show 4 + (bl (str _)).length + _ ≤ _; rw [bl_str, laid_length]; omega)).mono ?_
  rintro e w4 ⟨rfl, hby⟩
  obtain ⟨g4, O4⟩ := O3.step hby
  clear O3 hby
  go_wp2_with fail
  refine (laid_any s _ HS.out (HN.out.below O4.below)).mono ?_
  rintro e w5 ⟨rfl, hb5⟩
  have O5 := O4.keep hb5
  clear O4 hb5
  go_wp2_with fail
  refine (raw_any w.heap.size 0 #[undef] 96 g4 _ (str (laid (bl s))) _ O5.wr (by rw [str_size, laid_length, List.length_append, List.length_append, fixed_length]; show 4 + (bl (str _)).length + s.size + _ ≤ _; rw [bl_str, laid_length]; omega)).mono ?_
  rintro e w6 ⟨rfl, hby⟩
  obtain ⟨g6, O6⟩ := O5.step hby
  clear O5 hby
  go_wp2_with fail
  refine (bytes_any w.heap.size 0 #[undef] 96 g6 _ _ O6.wr).mono ?_
  rintro e w7 ⟨rfl, rfl⟩
  rw [frame_str]
  have hb := O6.below
  clear O6
  go_wp2
  go_ret2
  exact ⟨rfl, hb⟩
end Go.Proofs.YtdbfaknpfepnfaaGreatDoor

/-
  The walk of crc.Open.
-/
namespace Go.Proofs.YtdbfaknpfepnfaaGreatDoor
open Go.RowKit Go.Deep CrcP CodecP FrameP

/-- What is opened, as the program answers it. -/
def opnV (r : List UInt8 × Nat × Nat) : Value := .tuple #[.string (str r.1), .int .i64 (r.2.1 : Int), .int .i64 (r.2.2 : Int)]
set_option maxRecDepth 100000 in
theorem ext_bl (s : ByteArray) (a b : Nat) : bl (s.extract a b) = ((bl s).drop a).take (b - a) := by
  unfold bl
  rw [ByteArray.data_extract, Array.toList_extract]
set_option maxRecDepth 100000 in
theorem raw_none (s : ByteArray) (n : Int) (h : n < 0 ∨ (s.size : Int) < n) : rawOut s false n = (ByteArray.empty, s, true) := by
  unfold rawOut; rw [if_pos (.inr h)]
set_option maxRecDepth 100000 in
theorem raw_bad (s : ByteArray) (n : Int) : rawOut s true n = (ByteArray.empty, s, true) := by
  unfold rawOut; rw [if_pos (.inl rfl)]
set_option maxRecDepth 100000 in
theorem raw_some (s : ByteArray) (n : Nat) (h : n ≤ s.size) : rawOut s false n = (s.extract 0 n, s.extract n s.size, false) := by
  unfold rawOut; rw [if_neg (by simp; omega)]; simp
set_option maxRecDepth 100000 in
theorem ne_str (a b : ByteArray) : (a.toList == b.toList) = decide (bl a = bl b) := by
  rw [ByteArray.toList_eq, ByteArray.toList_eq, Bool.eq_iff_iff]; simp [bl]

set_option maxRecDepth 100000 in
theorem open_short8 (s : ByteArray) (w : World) (h : s.size < 8) :
    Calls Tryz.prog 123 #[.string s] w fun e w' => e = .returned (opnV ([], 0, 1)) ∧ Below w.heap.size w w' := by
  go_enter Tryz.func123, Tryz.ntmps123
  go_wp2_with fail
  refine (read_any s _ (small _ (by omega))).mono ?_
  rintro e w1 ⟨rfl, h1, hb1⟩
  go_wp2_with fail
  refine (rdFixed4_any w.heap.size s false _ h1).mono ?_
  rintro e w2 ⟨rfl, h2, hf2⟩
  go_wp2_with fail
  refine (rdRaw_any w.heap.size _ _ 4 _ h2).mono ?_
  rintro e w3 ⟨rfl, h3, hf3⟩
  have hbad : (rawOut (rawOut s false 4).2.1 (rawOut s false 4).2.2 4).2.2 = true := by
    by_cases h4 : 4 ≤ s.size
    · rw [show (4 : Int) = ((4 : Nat) : Int) from rfl, raw_some s 4 h4]
      simp only
      rw [raw_none _ _ (.inr (by rw [ByteArray.size_extract]; omega))]
    · rw [show (4 : Int) = ((4 : Nat) : Int) from rfl, raw_none s _ (.inr (by omega))]
      simp only
      rw [raw_bad]
  rw [hbad] at h3
  have hbel : Below w.heap.size w w3 := (hb1.trans (hf2.below (Nat.le_of_lt (lt_of_block h1.1)) (fun k _ hk => by unfold RdS at hk; omega))).trans (hf3.below (Nat.le_of_lt (lt_of_block h2.1)) (fun k _ hk => by unfold RdS at hk; omega))
  generalize rawOut (rawOut s false 4).2.1 (rawOut s false 4).2.2 4 = r2 at *
  generalize rawOut s false 4 = r1 at *
  clear hbad h2 hf2 hf3 h1 hb1
  go_wp2_with fail
  refine (good_any w.heap.size _ _ _ h3).mono ?_
  rintro e w4 ⟨rfl, rfl⟩
  go_wp2
  go_ret3
  exact ⟨rfl, hbel⟩
set_option maxRecDepth 100000 in
theorem if_cong {α : Type} {p q : Prop} [Decidable p] [Decidable q] {a b c d : α} (h : p ↔ q) (h1 : a = c) (h2 : b = d) : (if p then a else b) = if q then c else d := by
  subst h1 h2
  by_cases hp : p
  · rw [if_pos hp, if_pos (h.1 hp)]
  · rw [if_neg hp, if_neg (fun hq => hp (h.2 hq))]
set_option maxRecDepth 100000 in
theorem bl_len (s : ByteArray) : (bl s).length = s.size := rfl
set_option maxRecDepth 100000 in
set_option maxHeartbeats 1000000 in
theorem open_long (s : ByteArray) (w : World) (h : 8 ≤ s.size) (hs : s.size ≤ 1099511627776) (hn : Nibs w) :
    Calls Tryz.prog 123 #[.string s] w fun e w' => e = .returned (opnV (opn (bl s))) ∧ Below w.heap.size w w' := by
  have HN := Lib.hid hn
  clear hn
  obtain ⟨h4, eh4⟩ : ∃ x, x = s.extract 0 4 := ⟨_, rfl⟩
  obtain ⟨t4, et4⟩ : ∃ x, x = s.extract 4 s.size := ⟨_, rfl⟩
  obtain ⟨c4, ec4⟩ : ∃ x, x = t4.extract 0 4 := ⟨_, rfl⟩
  obtain ⟨s8, es8⟩ : ∃ x, x = t4.extract 4 t4.size := ⟨_, rfl⟩
  have hh4 : h4.size = 4 := by rw [eh4, ByteArray.size_extract]; omega
  have ht4 : t4.size = s.size - 4 := by rw [et4, ByteArray.size_extract]; omega
  have hs8 : s8.size = s.size - 8 := by rw [es8, ByteArray.size_extract]; omega
  have bh4 : bl h4 = (bl s).take 4 := by rw [eh4, ext_bl]; simp
  have bt4 : bl t4 = (bl s).drop 4 := by rw [et4, ext_bl, List.take_of_length_le]; simp [bl_len]
  have bc4 : bl c4 = ((bl s).drop 4).take 4 := by rw [ec4, ext_bl, bt4]; simp
  have bs8 : bl s8 = (bl s).drop 8 := by rw [es8, ext_bl, List.take_of_length_le (by simp [bl_len]), bt4, List.drop_drop]
  have hv : value (bl h4) < 4294967296 := value_lt4 _ (by rw [bl_len]; omega)
  have e1 : rawOut s false 4 = (h4, t4, false) := by rw [show (4 : Int) = ((4 : Nat) : Int) from rfl, raw_some s 4 (by omega), eh4, et4]
  have e2 : rawOut t4 false 4 = (c4, s8, false) := by rw [show (4 : Int) = ((4 : Nat) : Int) from rfl, raw_some t4 4 (by omega), ec4, es8]
  have R1 := fun W => rdFixed4_any w.heap.size s false W
  have R2 := fun W => rdRaw_any w.heap.size t4 false 4 W
  rw [e1] at R1
  rw [e2] at R2
  simp only at R1 R2
  have HR1 := Lib.hid R1
  have HR2 := Lib.hid R2
  have hval : value h4.data.toList = value (bl h4) := rfl
  have HV := Lib.hid hval
  have hL : opn (bl s) = if laid (bl h4) ≠ bl c4 ∨ 131072 < value (bl h4) then ([], 0, 2)
      else if s8.size < value (bl h4) + 4 then ([], 0, 1)
      else if laid ((bl s8).take (value (bl h4))) ≠ ((bl s8).drop (value (bl h4))).take 4 then ([], 0, 2)
      else ((bl s8).take (value (bl h4)), 12 + value (bl h4), 0) := by
    unfold opn
    rw [bl_len, if_neg (by omega), bh4, bc4, bs8, List.drop_drop, hs8]
    exact if_cong Iff.rfl rfl (if_cong (by omega) rfl rfl)
  have HL := Lib.hid hL
  have HP := Lib.hid bh4
  clear hL e1 e2 R1 R2 bt4 bc4 bs8 bh4 et4 ec4 es8 hval
  have HE4 := Lib.hid eh4.symm
  clear eh4
  have hsl : s.extract 0 4 = h4 := HE4.out
  go_enter Tryz.func123, Tryz.ntmps123
  go_wp2_with fail
  refine (read_any s _ (small _ (by omega))).mono ?_
  rintro e w1 ⟨rfl, h1, hb1⟩
  go_wp2_with fail
  refine (HR1.out _ h1).mono ?_
  rintro e w2 ⟨rfl, h2, hf2⟩
  rw [HV.out]
  go_wp2_with fail
  refine (HR2.out _ h2).mono ?_
  rintro e w3 ⟨rfl, h3, hf3⟩
  have hbel : Below w.heap.size w w3 := (hb1.trans (hf2.below (Nat.le_of_lt (lt_of_block h1.1)) (fun k _ hk => by unfold RdS at hk; omega))).trans (hf3.below (Nat.le_of_lt (lt_of_block h2.1)) (fun k _ hk => by unfold RdS at hk; omega))
  clear h1 h2 hf2 hf3 hb1
  go_wp2_with fail
  refine (good_any w.heap.size _ _ _ h3).mono ?_
  rintro e w4 ⟨rfl, rfl⟩
  go_wp2_with fail
  refine (laid_any h4 _ (small _ (by omega)) (HN.out.below hbel)).mono ?_
  rintro e w4 ⟨rfl, hb4⟩
  have h4' := h3.keep (Fr.of_below (fun _ => False) hb4) (fun h => h)
  have hbel4 := hbel.trans (hb4.mono hbel.size)
  clear h3 hbel hb4
  have hcmp := ne_str (str (laid (bl h4))) c4
  rw [bl_str] at hcmp
  generalize hLn : str (laid (bl h4)) = L4 at *
  clear hLn
  by_cases hA : laid (bl h4) = bl c4
  · have hcmp' : (L4.toList == c4.toList) = true := by rw [hcmp]; simp [hA]
    clear hcmp
    by_cases hB : 131072 < value (bl h4)
    · have hfin : opnV (opn (bl s)) = opnV ([], 0, 2) := by rw [HL.out, if_pos (.inr hB)]
      have HF := Lib.hid hfin
      clear hfin
      generalize value (bl h4) = n at *
      go_wp2
      go_ret3
      exact ⟨by rw [HF.out]; rfl, hbel4⟩
    · have hL2 := HL.out
      rw [if_neg (by rintro (h | h); exact h hA; exact hB h)] at hL2
      have HL2 := Lib.hid hL2
      have HA := Lib.hid hA
      clear hL2 HL hA
      generalize value (bl h4) = n at *
      by_cases hC : s8.size < n
      · have hfin : opnV (opn (bl s)) = opnV ([], 0, 1) := by rw [HL2.out, if_pos (by omega)]
        have HF := Lib.hid hfin
        clear hfin HL2
        have R3 := rdRaw_any w.heap.size s8 false n w4 h4'
        rw [raw_none s8 _ (.inr (by omega))] at R3
        simp only at R3
        have HR3 := Lib.hid R3
        clear R3
        go_wp2_with fail
        refine HR3.out.mono ?_
        rintro e w5 ⟨rfl, h5, hf5⟩
        have R4 := rdRaw_any w.heap.size s8 true 4 w5 h5
        rw [raw_bad] at R4
        simp only at R4
        have HR4 := Lib.hid R4
        clear R4
        go_wp2_with fail
        refine HR4.out.mono ?_
        rintro e w6 ⟨rfl, h6, hf6⟩
        have hbel6 : Below w.heap.size w w6 := (hbel4.trans (hf5.below (Nat.le_of_lt (lt_of_block h4'.1)) (fun k _ hk => by unfold RdS at hk; omega))).trans (hf6.below (Nat.le_of_lt (lt_of_block h5.1)) (fun k _ hk => by unfold RdS at hk; omega))
        clear h4' h5 hf5 hf6 hbel4
        go_wp2_with fail
        refine (good_any w.heap.size _ _ _ h6).mono ?_
        rintro e w7 ⟨rfl, rfl⟩
        go_wp2
        go_ret3
        exact ⟨by rw [HF.out]; rfl, hbel6⟩
      · obtain ⟨d8, ed8⟩ : ∃ x, x = s8.extract 0 n := ⟨_, rfl⟩
        obtain ⟨s12, es12⟩ : ∃ x, x = s8.extract n s8.size := ⟨_, rfl⟩
        have bd8 : bl d8 = (bl s8).take n := by rw [ed8, ext_bl]; simp
        have bs12 : bl s12 = (bl s8).drop n := by rw [es12, ext_bl, List.take_of_length_le]; simp [bl_len]
        have hs12 : s12.size = s8.size - n := by rw [es12, ByteArray.size_extract]; omega
        have hd8 : d8.size = n := by rw [ed8, ByteArray.size_extract]; omega
        have R3 := rdRaw_any w.heap.size s8 false n w4 h4'
        rw [raw_some s8 n (by omega), ← ed8, ← es12] at R3
        simp only at R3
        have HR3 := Lib.hid R3
        have HD8 := Lib.hid bd8
        clear R3 ed8 es12 bd8
        go_wp2_with fail
        refine HR3.out.mono ?_
        rintro e w5 ⟨rfl, h5, hf5⟩
        have hbel5 : Below w.heap.size w w5 := hbel4.trans (hf5.below (Nat.le_of_lt (lt_of_block h4'.1)) (fun k _ hk => by unfold RdS at hk; omega))
        clear h4' hf5 hbel4
        by_cases hD : s12.size < 4
        · have hfin : opnV (opn (bl s)) = opnV ([], 0, 1) := by rw [HL2.out, if_pos (by omega)]
          have HF := Lib.hid hfin
          clear hfin HL2
          have R4 := rdRaw_any w.heap.size s12 false 4 w5 h5
          rw [raw_none s12 _ (.inr (by omega))] at R4
          simp only at R4
          have HR4 := Lib.hid R4
          clear R4
          go_wp2_with fail
          refine HR4.out.mono ?_
          rintro e w6 ⟨rfl, h6, hf6⟩
          have hbel6 : Below w.heap.size w w6 := hbel5.trans (hf6.below (Nat.le_of_lt (lt_of_block h5.1)) (fun k _ hk => by unfold RdS at hk; omega))
          clear h5 hf6 hbel5
          go_wp2_with fail
          refine (good_any w.heap.size _ _ _ h6).mono ?_
          rintro e w7 ⟨rfl, rfl⟩
          go_wp2
          go_ret3
          exact ⟨by rw [HF.out]; rfl, hbel6⟩
        · obtain ⟨l4, el4⟩ : ∃ x, x = s12.extract 0 4 := ⟨_, rfl⟩
          have bl4 : bl l4 = ((bl s8).drop n).take 4 := by rw [el4, ext_bl, bs12]; simp
          have R4 := rdRaw_any w.heap.size s12 false 4 w5 h5
          rw [show (4 : Int) = ((4 : Nat) : Int) from rfl, raw_some s12 4 (by omega), ← el4] at R4
          simp only at R4
          rw [show ((4 : Nat) : Int) = (4 : Int) from rfl] at R4
          have HR4 := Lib.hid R4
          have hL3 := HL2.out
          rw [if_neg (by omega), ← HD8.out, ← bl4] at hL3
          have HL3 := Lib.hid hL3
          clear R4 el4 bl4 hL3 HL2 bs12
          go_wp2_with fail
          refine HR4.out.mono ?_
          rintro e w6 ⟨rfl, h6, hf6⟩
          have hbel6 : Below w.heap.size w w6 := hbel5.trans (hf6.below (Nat.le_of_lt (lt_of_block h5.1)) (fun k _ hk => by unfold RdS at hk; omega))
          clear h5 hf6 hbel5
          go_wp2_with fail
          refine (good_any w.heap.size _ _ _ h6).mono ?_
          rintro e w7 ⟨rfl, rfl⟩
          go_wp2_with fail
          refine (laid_any d8 _ (small _ (by omega)) (HN.out.below hbel6)).mono ?_
          rintro e w8 ⟨rfl, hb8⟩
          have hbel8 := hbel6.trans (hb8.mono hbel6.size)
          clear h6 hbel6 hb8
          have hcmp2 := ne_str (str (laid (bl d8))) l4
          rw [bl_str] at hcmp2
          generalize hLn2 : str (laid (bl d8)) = L8 at *
          clear hLn2
          by_cases hE : laid (bl d8) = bl l4
          · have hcmp3 : (L8.toList == l4.toList) = true := by rw [hcmp2]; simp [hE]
            have hfin : opnV (opn (bl s)) = opnV (bl d8, 12 + n, 0) := by rw [HL3.out, if_neg (by simpa using hE)]
            have HF := Lib.hid hfin
            clear hfin hcmp2 hE HL3
            go_wp2
            go_ret3
            refine ⟨?_, hbel8⟩
            rw [HF.out]
            unfold opnV
            rw [str_bl]
            have : (8 : Int) + (n : Int) + 4 = ((12 + n : Nat) : Int) := by omega
            simp only [← this]
            rfl
          · have hcmp3 : (L8.toList == l4.toList) = false := by rw [hcmp2]; simp [hE]
            have hfin : opnV (opn (bl s)) = opnV ([], 0, 2) := by rw [HL3.out, if_pos hE]
            have HF := Lib.hid hfin
            clear hfin hcmp2 hE HL3
            go_wp2
            go_ret3
            exact ⟨by rw [HF.out]; rfl, hbel8⟩
  · have hfin : opnV (opn (bl s)) = opnV ([], 0, 2) := by rw [HL.out, if_pos (.inl hA)]
    have hcmp' : (L4.toList == c4.toList) = false := by rw [hcmp]; simp [hA]
    have HF := Lib.hid hfin
    clear hfin hcmp hA
    go_wp2
    go_ret3
    exact ⟨by rw [HF.out]; rfl, hbel4⟩
set_option maxRecDepth 100000 in
theorem crcOpen_any (s : ByteArray) (w : World) (hs : s.size ≤ 1099511627776) (hn : Nibs w) :
    Calls Tryz.prog 123 #[.string s] w fun e w' => e = .returned (opnV (opn (bl s))) ∧ Below w.heap.size w w' := by
  by_cases h : 8 ≤ s.size
  · exact open_long s w h hs hn
  · have : opn (bl s) = ([], 0, 1) := by unfold opn; rw [bl_len, if_pos (by omega)]
    rw [this]
    exact open_short8 s w (by omega)
end Go.Proofs.YtdbfaknpfepnfaaGreatDoor

/-
  The walks of a reader's groups, Size, Signed, Fixed8, Text, Left, End.
-/
namespace Go.Proofs.YtdbfaknpfepnfaaGreatDoor
open Go.RowKit CodecP

/-- What a reader has to come; none: it is bad. -/
def st (s : ByteArray) (bad : Bool) : Option (List UInt8) := if bad then none else some (bl s)
/-- What groups takes from the i-th byte on, behind a number. -/
def tkI (i n : Nat) (s : ByteArray) (bad : Bool) : Nat × Option (List UInt8) :=
  if bad then (0, none) else match tk i (bl s) with
    | none => (0, none)
    | some (m, r) => (n + 2 ^ (7 * i) * m, some r)
def RdTo (w w' : World) (p : Nat) (o : Option (List UInt8)) : Prop := ∃ s bad, Rd w' p s bad ∧ st s bad = o ∧ Fr (RdS p) w w'

set_option maxRecDepth 100000 in
theorem or_part (n x i : Nat) (hi : i ≤ 9) (hn : n < 2 ^ (7 * i)) (hx : i = 9 → x ≤ 1) : bits .or .u64 (n : Int) (IntKind.u64.wrap ((x : Int) % 128 * 2 ^ (7 * i))) = ((n + 2 ^ (7 * i) * (x % 128) : Nat) : Int) ∧ n + 2 ^ (7 * i) * (x % 128) < 18446744073709551616 ∧ n + 2 ^ (7 * i) * (x % 128) < 2 ^ (7 * (i + 1)) := by
  have hp : 2 ^ (7 * i) ≤ 2 ^ 63 := Nat.pow_le_pow_right (by omega) (by omega)
  have hq : (2 : Nat) ^ 63 = 9223372036854775808 := by decide
  have h7 : 2 ^ (7 * (i + 1)) = 128 * 2 ^ (7 * i) := by rw [show 7 * (i + 1) = 7 + 7 * i by omega, Nat.pow_add]
  have h8 : i ≤ 8 → 2 ^ (7 * i) ≤ 2 ^ 56 := fun h => Nat.pow_le_pow_right (by omega) (by omega)
  have hr : (2 : Nat) ^ 56 = 72057594037927936 := by decide
  have ei : (x : Int) % 128 * 2 ^ (7 * i) = ((2 ^ (7 * i) * (x % 128) : Nat) : Int) := by first | (push_cast; done) | (push_cast; rw [Int.mul_comm])
  have hle : 2 ^ (7 * i) * (x % 128) ≤ 2 ^ (7 * i) * 127 := Nat.mul_le_mul_left _ (by omega)
  have hle9 : i = 9 → 2 ^ (7 * i) * (x % 128) ≤ 2 ^ (7 * i) * 1 := fun h => Nat.mul_le_mul_left _ (by have := hx h; omega)
  have hor := Nat.two_pow_add_eq_or_of_lt hn (x % 128)
  rw [ei]
  generalize hP : 2 ^ (7 * i) = P at *
  generalize hM : P * (x % 128) = M at *
  have hMl : n + M < 18446744073709551616 := by
    by_cases h9 : i = 9
    · have := hle9 h9; omega
    · have := h8 (by omega); omega
  refine ⟨?_, hMl, by rw [h7]; omega⟩
  rw [IntKind.wrap_u64, show (M : Int) % 18446744073709551616 = (M : Int) by omega, u64_or_nat _ _ (by omega) (by omega), Nat.or_comm, ← hor, Nat.add_comm]
set_option maxRecDepth 100000 in
theorem tkI_more (i n : Nat) (s s2 : ByteArray) (c : UInt8) (r : List UInt8) (hc : bl s = c :: r) (h2 : bl s2 = r) (hbad : ¬ ((i = 9 ∧ 1 < c.toNat) ∨ (0 < i ∧ c.toNat = 0))) (h : ¬ c.toNat < 128) : tkI i n s false = tkI (i + 1) (n + 2 ^ (7 * i) * (c.toNat % 128)) s2 false := by
  unfold tkI
  rw [if_neg (by simp), if_neg (by simp), hc, h2]
  simp only [tk]
  rw [if_neg hbad, if_neg h]
  cases hk : tk (i + 1) r with
  | none => rfl
  | some y =>
    obtain ⟨m, q⟩ := y
    simp only [Option.map_some]
    congr 1
    rw [Nat.mul_add, show 7 * (i + 1) = 7 * i + 7 by omega, Nat.pow_add, Nat.add_assoc, Nat.mul_assoc]
set_option maxRecDepth 100000 in
theorem tkI_end (i n : Nat) (s s2 : ByteArray) (c : UInt8) (r : List UInt8) (hc : bl s = c :: r) (h2 : bl s2 = r) (hbad : ¬ ((i = 9 ∧ 1 < c.toNat) ∨ (0 < i ∧ c.toNat = 0))) (h : c.toNat < 128) : tkI i n s false = (n + 2 ^ (7 * i) * (c.toNat % 128), some (bl s2)) := by
  unfold tkI
  rw [if_neg (by simp), hc, h2]
  simp only [tk]
  rw [if_neg hbad, if_pos h, Nat.mod_eq_of_lt h]
set_option maxRecDepth 100000 in
theorem rdGroups_any (p : Nat) (s : ByteArray) (bad : Bool) (w : World) (h : Rd w p s bad) :
    Calls Tryz.prog 159 #[.pointer (some ⟨p, 0, none⟩)] w fun e w' => e = .returned (.int .u64 ((tkI 0 0 s bad).1 : Nat)) ∧ RdTo w w' p (tkI 0 0 s bad).2 := by
  have H0 := Lib.hid h
  clear h
  go_enter Tryz.func159, Tryz.ntmps159
  go_wp2
  go_loopw [3, 4] (fun x c wr => ∃ (n i : Nat) (s' : ByteArray) (b' : Bool), x = .int .u64 (n : Int) ∧ c = .int .i64 (i : Int) ∧ i ≤ 9 ∧ n < 2 ^ (7 * i) ∧ Rd wr p s' b' ∧ Fr (RdS p) w wr ∧ tkI 0 0 s bad = tkI i n s' b') (fun _ c _ => 9 - (intOf c).toNat)
  case atStart => exact ⟨0, 0, s, bad, rfl, rfl, by omega, by simp, H0.out, Fr.refl _ _, rfl⟩
  case round =>
    obtain ⟨n, i, s', b', rfl, rfl, hi, hn, hr, hf, he⟩ := hrel
    have HF := Lib.hid hf
    have HE := Lib.hid he
    have HR := Lib.hid (rdRaw_any p s' b' 1 wr hr)
    have HN := Lib.hid hn
    clear hf he hr hn
    by_cases hb : b' = true ∨ s'.size = 0
    · have hr : rawOut s' b' 1 = (ByteArray.empty, s', true) := by unfold rawOut; rw [if_pos (by rcases hb with h | h; exact .inl h; exact .inr (.inr (by omega)))]
      have ht : tkI i n s' b' = (0, none) := by
        unfold tkI
        rcases hb with h | h
        · rw [if_pos h]
        · split
          · rfl
          · have : bl s' = [] := List.length_eq_zero_iff.1 h
            rw [this]; rfl
      rw [hr] at HR
      rw [ht] at HE
      clear hr ht hb
      go_wp2_with fail
      refine HR.out.mono ?_
      rintro e w1 ⟨rfl, h1, hf1⟩
      go_wp2
      go_ret
      exact ⟨by rw [HE.out]; rfl, s', true, h1, by rw [HE.out]; rfl, HF.out.trans hf1 (fun _ _ h => h)⟩
    · obtain ⟨c, r, hc⟩ : ∃ c r, bl s' = c :: r := by
        cases hbs : bl s' with
        | nil => exact absurd (.inr (congrArg List.length hbs)) hb
        | cons c r => exact ⟨c, r, rfl⟩
      have hb1 : b' = false := by cases b' with | false => rfl | true => exact absurd (.inl rfl) hb
      have hs1 : 1 ≤ s'.size := by have : s'.size ≠ 0 := fun h => hb (.inr h); omega
      have hr : rawOut s' b' 1 = (s'.extract 0 1, s'.extract 1 s'.size, false) := by unfold rawOut; rw [if_neg (by rw [hb1]; simp; omega)]; rfl
      rw [hr] at HR
      subst hb1
      have ht0 : (s'.extract 0 1).size = 1 := by simp; omega
      have hbt : bl (s'.extract 0 1) = [c] := by rw [ext_bl, hc]; rfl
      have htc : ∀ h, (s'.extract 0 1)[0]'h = c := by
        intro h
        have h2 : (bl (s'.extract 0 1))[0]? = some c := by rw [hbt]; rfl
        have h3 : (bl (s'.extract 0 1))[0]? = some ((s'.extract 0 1)[0]'h) := List.getElem?_eq_getElem (show 0 < (bl (s'.extract 0 1)).length from h)
        rw [h3] at h2; injection h2
      have hbr : bl (s'.extract 1 s'.size) = r := by
        rw [ext_bl, hc, List.take_of_length_le]
        · rfl
        · have := congrArg List.length hc
          rw [show (bl s').length = s'.size from rfl] at this
          simp at this ⊢; omega
      generalize s'.extract 0 1 = t at *
      generalize s'.extract 1 s'.size = s2 at *
      have HT := Lib.hid ht0
      have HI := Lib.hid hi
      have q0 : t.toList.isEmpty = false := by
        rw [ByteArray.toList_eq, show t.data.toList = [c] from hbt]; rfl
      have ht1 : 0 < t.size := by omega
      simp only at HR
      clear hb hr ht0 hi hs1 hbt
      have hcl := c.toNat_lt
      obtain ⟨x, hx⟩ : ∃ x, x = c.toNat := ⟨_, rfl⟩
      rw [← hx] at hcl
      have htc' : ∀ h, ((t[0]'h).toNat : Int) = (x : Int) := fun h => by rw [htc h, hx]
      have hwc : IntKind.u64.wrap (x : Int) = (x : Int) := by rw [IntKind.wrap_u64]; omega
      clear htc
      by_cases hbad : (i = 9 ∧ 1 < x) ∨ (0 < i ∧ x = 0)
      · have htk : tkI i n s' false = (0, none) := by
          unfold tkI
          rw [if_neg (by simp), hc]
          simp only [tk]
          rw [if_pos (by rw [← hx]; exact hbad)]
        rw [htk] at HE
        clear htk hc hx
        rcases hbad with ⟨rfl, h1x⟩ | ⟨hi0, rfl⟩
        · have q1 : decide ((1 : Int) < (x : Int)) = true := by rw [decide_eq_true_eq]; omega
          go_wp2_with fail
          refine HR.out.mono ?_
          rintro e w1 ⟨rfl, h1, hf1⟩
          have HFA := Lib.hid (fail_any p s2 false w1 h1)
          have HF1 := Lib.hid hf1
          clear h1 hf1
          go_wp2_with fail
          refine HFA.out.mono ?_
          rintro e w2 ⟨rfl, h2, hf2⟩
          go_wp2
          go_ret
          exact ⟨by rw [HE.out]; rfl, s2, true, h2, by rw [HE.out]; rfl, (HF.out.trans HF1.out (fun _ _ h => h)).trans hf2 (fun _ _ h => h)⟩
        · by_cases h9 : i = 9
          · subst h9
            go_wp2_with fail
            refine HR.out.mono ?_
            rintro e w1 ⟨rfl, h1, hf1⟩
            have HFA := Lib.hid (fail_any p s2 false w1 h1)
            have HF1 := Lib.hid hf1
            clear h1 hf1
            go_wp2_with fail
            refine HFA.out.mono ?_
            rintro e w2 ⟨rfl, h2, hf2⟩
            go_wp2
            go_ret
            exact ⟨by rw [HE.out]; rfl, s2, true, h2, by rw [HE.out]; rfl, (HF.out.trans HF1.out (fun _ _ h => h)).trans hf2 (fun _ _ h => h)⟩
          · have q1 : ((i : Int) == 9) = false := by rw [beq_eq_false_iff_ne]; omega
            have q3 : decide ((0 : Int) < (i : Int)) = true := by rw [decide_eq_true_eq]; omega
            go_wp2_with fail
            refine HR.out.mono ?_
            rintro e w1 ⟨rfl, h1, hf1⟩
            have HFA := Lib.hid (fail_any p s2 false w1 h1)
            have HF1 := Lib.hid hf1
            clear h1 hf1
            go_wp2_with fail
            refine HFA.out.mono ?_
            rintro e w2 ⟨rfl, h2, hf2⟩
            go_wp2
            go_ret
            exact ⟨by rw [HE.out]; rfl, s2, true, h2, by rw [HE.out]; rfl, (HF.out.trans HF1.out (fun _ _ h => h)).trans hf2 (fun _ _ h => h)⟩
      · have HXC := Lib.hid hx
        clear hx
        have hand : bits .and .u64 (x : Int) 127 = ((x % 128 : Nat) : Int) := by
          rw [show (127 : Int) = ((127 : Nat) : Int) from rfl, u64_and_nat _ _ (by omega) (by omega)]
          congr 1
          exact Nat.and_two_pow_sub_one_eq_mod x 7
        have hi : i ≤ 9 := HI.out
        have hop := or_part n x i hi HN.out (fun h => by omega)
        obtain ⟨ho1, ho2, ho3⟩ := hop
        have HO2 := Lib.hid ho2
        have HO3 := Lib.hid ho3
        clear ho2 ho3
        by_cases h128 : x < 128
        · have hE := HE.out
          rw [tkI_end i n s' s2 c r hc hbr (by rw [← HXC.out]; exact hbad) (by rw [← HXC.out]; exact h128), ← HXC.out] at hE
          have HE2 := Lib.hid hE
          have q5 : decide ((x : Int) < 128) = true := by rw [decide_eq_true_eq]; omega
          clear hc hbr HE hE h128
          generalize n + 2 ^ (7 * i) * (x % 128) = N at *
          by_cases hi0 : i = 0
          · subst hi0
            have ho0 : bits .or .u64 (n : Int) ((x : Int) % 128) = (N : Int) := by
              rw [← ho1, IntKind.wrap_u64, Nat.mul_zero, Int.pow_zero, Int.mul_one, show (x : Int) % 128 % 18446744073709551616 = (x : Int) % 128 by omega]
            clear hbad ho1
            go_wp2_with fail
            refine HR.out.mono ?_
            rintro e w1 ⟨rfl, h1, hf1⟩
            have HF1 := Lib.hid hf1
            have H1 := Lib.hid h1
            clear h1 hf1
            go_wp2
            go_ret
            exact ⟨by rw [HE2.out]; rfl, s2, false, H1.out, by rw [HE2.out]; rfl, HF.out.trans HF1.out (fun _ _ h => h)⟩
          · by_cases hi9 : i = 9
            · subst hi9
              have hx1 : x = 1 := by omega
              subst hx1
              have hw9 : IntKind.u64.wrap 9223372036854775808 = 9223372036854775808 := by rw [IntKind.wrap_u64]; rfl
              have hand1 : bits .and .u64 1 127 = 1 := hand
              have ho9 : bits .or .u64 (n : Int) 9223372036854775808 = (N : Int) := by
                rw [← ho1]; congr 1
              have ho9' : bits .or .u64 (n : Int) (IntKind.u64.wrap (bits .and .u64 1 127 * 9223372036854775808)) = (N : Int) := by
                rw [hand1, Int.one_mul, hw9]; exact ho9
              clear hbad hand ho1
              go_wp2_with fail
              refine HR.out.mono ?_
              rintro e w1 ⟨rfl, h1, hf1⟩
              have HF1 := Lib.hid hf1
              have H1 := Lib.hid h1
              clear h1 hf1
              go_wp2
              go_ret
              exact ⟨by rw [HE2.out]; rfl, s2, false, H1.out, by rw [HE2.out]; rfl, HF.out.trans HF1.out (fun _ _ h => h)⟩
            · have q3 : 0 < i := by omega
              have q1 : ((i : Int) == 9) = false := by rw [beq_eq_false_iff_ne]; omega
              have q4 : ((x : Int) == 0) = false := by rw [beq_eq_false_iff_ne]; omega
              have hi1 : (0 : Int) ≤ 7 * (i : Int) := by omega
              have hi2 : 7 * (i : Int) ≤ 63 := by omega
              clear hbad
              go_wp2_with fail
              refine HR.out.mono ?_
              rintro e w1 ⟨rfl, h1, hf1⟩
              have HF1 := Lib.hid hf1
              have H1 := Lib.hid h1
              clear h1 hf1
              go_wp2
              go_ret
              exact ⟨by rw [HE2.out]; rfl, s2, false, H1.out, by rw [HE2.out]; rfl, HF.out.trans HF1.out (fun _ _ h => h)⟩
        · have hx9 : i < 9 := by
            rcases Nat.lt_or_ge i 9 with h | h
            · exact h
            · exact absurd (.inl ⟨by omega, by omega⟩) hbad
          have hE := HE.out
          rw [tkI_more i n s' s2 c r hc hbr (by rw [← HXC.out]; exact hbad) (by rw [← HXC.out]; exact h128), ← HXC.out] at hE
          have HE2 := Lib.hid hE
          have q1 : ((i : Int) == 9) = false := by rw [beq_eq_false_iff_ne]; omega
          have q4 : ((x : Int) == 0) = false := by rw [beq_eq_false_iff_ne]; omega
          have q5 : decide ((x : Int) < 128) = false := by rw [decide_eq_false_iff_not]; omega
          clear hbad h128 hc hbr HE hE
          generalize n + 2 ^ (7 * i) * (x % 128) = N at *
          by_cases hi0 : i = 0
          · subst hi0
            have ho0 : bits .or .u64 (n : Int) ((x : Int) % 128) = (N : Int) := by
              rw [← ho1, IntKind.wrap_u64, Nat.mul_zero, Int.pow_zero, Int.mul_one, show (x : Int) % 128 % 18446744073709551616 = (x : Int) % 128 by omega]
            clear ho1 q1
            go_wp2_with fail
            refine HR.out.mono ?_
            rintro e w1 ⟨rfl, h1, hf1⟩
            have HF1 := Lib.hid hf1
            have H1 := Lib.hid h1
            clear h1 hf1
            go_wp2
            go_roundw
            case rel => exact ⟨N, 1, s2, false, rfl, rfl, by omega, HO3.out, H1.out, HF.out.trans HF1.out (fun _ _ h => h), HE2.out⟩
            case measure => simp [intOf]
          · have q3 : 0 < i := by omega
            have hi1 : (0 : Int) ≤ 7 * (i : Int) := by omega
            have hi2 : 7 * (i : Int) ≤ 63 := by omega
            go_wp2_with fail
            refine HR.out.mono ?_
            rintro e w1 ⟨rfl, h1, hf1⟩
            have HF1 := Lib.hid hf1
            have H1 := Lib.hid h1
            clear h1 hf1
            go_wp2
            go_roundw
            case rel => exact ⟨N, i + 1, s2, false, by go_num, by go_num, by omega, HO3.out, H1.out, HF.out.trans HF1.out (fun _ _ h => h), HE2.out⟩
            case measure => simp [intOf]; omega
end Go.Proofs.YtdbfaknpfepnfaaGreatDoor

/-
  The walks of a reader's Size, Signed, Fixed8, Text, Left, End.
-/
namespace Go.Proofs.YtdbfaknpfepnfaaGreatDoor
open Go.RowKit CodecP

set_option maxRecDepth 100000 in
theorem tkI_lt (s : ByteArray) (bad : Bool) : (tkI 0 0 s bad).1 < 18446744073709551616 := by
  unfold tkI
  split
  · decide
  · cases hk : tk 0 (bl s) with
    | none => decide
    | some y =>
      obtain ⟨m, r⟩ := y
      have := (grp_tk m _ _ hk).2
      simp only
      omega
/-- What Size takes. -/
def sizeO (s : ByteArray) (bad : Bool) : Nat × Option (List UInt8) := if 9223372036854775808 ≤ (tkI 0 0 s bad).1 then (0, none) else tkI 0 0 s bad
set_option maxRecDepth 100000 in
theorem rdSize_any (p : Nat) (s : ByteArray) (bad : Bool) (w : World) (h : Rd w p s bad) :
    Calls Tryz.prog 128 #[.pointer (some ⟨p, 0, none⟩)] w fun e w' => e = .returned (.int .i64 ((sizeO s bad).1 : Nat)) ∧ RdTo w w' p (sizeO s bad).2 := by
  have HG := Lib.hid (rdGroups_any p s bad w h)
  have hl := tkI_lt s bad
  unfold sizeO
  clear h
  generalize tkI 0 0 s bad = r at *
  obtain ⟨n, o⟩ := r
  simp only at *
  by_cases hn : 9223372036854775808 ≤ n
  · rw [if_pos hn]
    have q1 : decide ((9223372036854775808 : Int) ≤ (n : Int)) = true := by rw [decide_eq_true_eq]; omega
    clear hn hl
    go_enter Tryz.func128, Tryz.ntmps128
    go_wp2_with fail
    refine HG.out.mono ?_
    rintro e w1 ⟨rfl, s1, b1, h1, hs1, hf1⟩
    have HFA := Lib.hid (fail_any p s1 b1 w1 h1)
    clear h1 hs1
    go_wp2_with fail
    refine HFA.out.mono ?_
    rintro e w2 ⟨rfl, h2, hf2⟩
    go_wp2
    go_ret
    exact ⟨rfl, s1, true, h2, rfl, hf1.trans hf2 (fun _ _ h => h)⟩
  · rw [if_neg hn]
    have q1 : decide ((9223372036854775808 : Int) ≤ (n : Int)) = false := by rw [decide_eq_false_iff_not]; omega
    have hw : IntKind.i64.wrap (n : Int) = (n : Int) := IntWalk.i64_in _ (by omega)
    have hw2 : wrap64 (n : Int) = (n : Int) := IntWalk.wrap64_in _ (by omega)
    clear hn hl
    go_enter Tryz.func128, Tryz.ntmps128
    go_wp2_with fail
    refine HG.out.mono ?_
    rintro e w1 ⟨rfl, h1⟩
    have H1 := Lib.hid h1
    clear h1
    go_wp2
    go_ret
    exact ⟨rfl, H1.out⟩
set_option maxRecDepth 100000 in
theorem i64_xor0 (a : Nat) (ha : a < 9223372036854775808) : bits .xor .i64 (a : Int) 0 = (a : Int) := by
  have e : BitVec.ofInt 64 (a : Int) ^^^ BitVec.ofInt 64 0 = BitVec.ofNat 64 a := by
    rw [show BitVec.ofInt 64 0 = 0#64 by decide, BitVec.xor_zero, BitVec.ofInt_natCast]
  show IntKind.i64.wrap ((BitVec.ofInt 64 (a : Int) ^^^ BitVec.ofInt 64 0).toNat : Int) = _
  rw [e, BitVec.toNat_ofNat, Nat.mod_eq_of_lt (by omega)]
  exact IntWalk.i64_in _ (by omega)
set_option maxRecDepth 100000 in
theorem i64_xorm (a : Nat) (ha : a < 9223372036854775808) : bits .xor .i64 (a : Int) (-1) = -(a : Int) - 1 := by
  have e : BitVec.ofInt 64 (a : Int) ^^^ BitVec.ofInt 64 (-1) = ~~~(BitVec.ofNat 64 a) := by
    rw [show BitVec.ofInt 64 (-1) = BitVec.allOnes 64 by decide, BitVec.xor_allOnes, BitVec.ofInt_natCast]
  show IntKind.i64.wrap ((BitVec.ofInt 64 (a : Int) ^^^ BitVec.ofInt 64 (-1)).toNat : Int) = _
  rw [e, BitVec.toNat_not, BitVec.toNat_ofNat, Nat.mod_eq_of_lt (by omega)]
  simp [IntKind.wrap, IntKind.bits, IntKind.signed]
  omega
set_option maxRecDepth 100000 in
theorem unzig_bits (n : Nat) (hn : n < 18446744073709551616) : bits .xor .i64 (wrap64 ((n : Int) / 2)) (wrap64 (-wrap64 (bits .and .u64 (n : Int) 1))) = unzig n := by
  have h1 : bits .and .u64 (n : Int) 1 = ((n % 2 : Nat) : Int) := by
    rw [show (1 : Int) = ((1 : Nat) : Int) from rfl, u64_and_nat _ _ hn (by omega)]
    congr 1
    exact Nat.and_two_pow_sub_one_eq_mod n 1
  have h2 : wrap64 ((n : Int) / 2) = ((n / 2 : Nat) : Int) := by rw [IntWalk.wrap64_in _ (by omega)]; omega
  have h3 : wrap64 ((n % 2 : Nat) : Int) = ((n % 2 : Nat) : Int) := IntWalk.wrap64_in _ (by omega)
  have h4 : wrap64 (-((n % 2 : Nat) : Int)) = -((n % 2 : Nat) : Int) := IntWalk.wrap64_in _ (by omega)
  rw [h1, h2, h3, h4]
  unfold unzig
  rcases Nat.mod_two_eq_zero_or_one n with e | e
  · rw [e, if_pos rfl]; exact i64_xor0 _ (by omega)
  · rw [e, if_neg (by decide)]; exact i64_xorm _ (by omega)
set_option maxRecDepth 100000 in
theorem rdFixed8_any (p : Nat) (s : ByteArray) (bad : Bool) (w : World) (h : Rd w p s bad) :
    Calls Tryz.prog 65 #[.pointer (some ⟨p, 0, none⟩)] w fun e w' => e = .returned (.int .u64 (value (rawOut s bad 8).1.data.toList : Nat)) ∧ Rd w' p (rawOut s bad 8).2.1 (rawOut s bad 8).2.2 ∧ Fr (RdS p) w w' := by
  have HR := Lib.hid (rdFixed_any p s bad 8 w h (by omega))
  clear h
  have e4 : ((8 : Nat) : Int) = 8 := rfl
  rw [e4] at HR
  clear e4
  generalize rawOut s bad 8 = r at *
  generalize value r.1.data.toList = x at *
  go_enter Tryz.func65, Tryz.ntmps65
  go_wp2_with fail
  refine HR.out.mono ?_
  rintro e w1 ⟨rfl, h1, hf⟩
  go_wp2
  go_ret
  exact ⟨rfl, h1, hf⟩
set_option maxRecDepth 100000 in
theorem left_any (p : Nat) (s : ByteArray) (bad : Bool) (w : World) (h : Rd w p s bad) :
    Calls Tryz.prog 125 #[.pointer (some ⟨p, 0, none⟩)] w fun e w' => e = .returned (.int .i64 ((if bad then 0 else s.size : Nat) : Int)) ∧ w = w' := by
  have HG := Lib.hid (good_any p s bad w h)
  have c0 := h.c0
  have hs := h.2
  unfold maxLen at hs
  clear h
  cases bad
  · go_enter Tryz.func125, Tryz.ntmps125
    go_wp2_with fail
    refine HG.out.mono ?_
    rintro e w1 ⟨rfl, rfl⟩
    go_wp2
    go_ret
    exact ⟨rfl, rfl⟩
  · go_enter Tryz.func125, Tryz.ntmps125
    go_wp2_with fail
    refine HG.out.mono ?_
    rintro e w1 ⟨rfl, rfl⟩
    go_wp2
    go_ret
    exact ⟨rfl, rfl⟩
set_option maxRecDepth 100000 in
theorem end_any (p : Nat) (s : ByteArray) (bad : Bool) (w : World) (h : Rd w p s bad) :
    Calls Tryz.prog 122 #[.pointer (some ⟨p, 0, none⟩)] w fun e w' => e = .returned (.bool (!bad && s.size == 0)) ∧ w = w' := by
  have HG := Lib.hid (good_any p s bad w h)
  have c0 := h.c0
  have hs := h.2
  unfold maxLen at hs
  clear h
  cases bad
  · have e0 : ((s.size : Int) == 0) = (s.size == 0) := by
      rw [Bool.eq_iff_iff, beq_iff_eq, beq_iff_eq]; omega
    go_enter Tryz.func122, Tryz.ntmps122
    go_wp2_with fail
    refine HG.out.mono ?_
    rintro e w1 ⟨rfl, rfl⟩
    go_wp2
    go_ret
    exact ⟨rfl, rfl⟩
  · go_enter Tryz.func122, Tryz.ntmps122
    go_wp2_with fail
    refine HG.out.mono ?_
    rintro e w1 ⟨rfl, rfl⟩
    go_wp2
    go_ret
    exact ⟨rfl, rfl⟩
/-- What Raw takes of what is to come. -/
def rawS (n : Int) : Option (List UInt8) → List UInt8 × Option (List UInt8)
  | none => ([], none)
  | some l => if n < 0 ∨ (l.length : Int) < n then ([], none) else (l.take n.toNat, some (l.drop n.toNat))
set_option maxRecDepth 100000 in
theorem rawOut_st (s : ByteArray) (bad : Bool) (n : Int) : (rawOut s bad n).1 = str (rawS n (st s bad)).1 ∧ st (rawOut s bad n).2.1 (rawOut s bad n).2.2 = (rawS n (st s bad)).2 := by
  unfold rawOut st rawS
  cases bad
  · simp only [Bool.false_eq_true, false_or, if_false]
    by_cases h : n < 0 ∨ (s.size : Int) < n
    · rw [if_pos h, if_pos (show n < 0 ∨ ((bl s).length : Int) < n from h)]
      exact ⟨rfl, rfl⟩
    · rw [if_neg h, if_neg (show ¬ (n < 0 ∨ ((bl s).length : Int) < n) from h)]
      refine ⟨?_, ?_⟩
      · rw [← str_bl (s.extract 0 n.toNat), ext_bl]; simp
      · simp only [Bool.false_eq_true, if_false]
        rw [ext_bl, List.take_of_length_le (by rw [List.length_drop]; exact Nat.le_refl _)]
  · simp; rfl
/-- What Text takes. -/
def textO (s : ByteArray) (bad : Bool) (most : Int) : List UInt8 × Option (List UInt8) :=
  if most < ((sizeO s bad).1 : Int) then ([], none) else rawS ((sizeO s bad).1 : Int) (sizeO s bad).2
end Go.Proofs.YtdbfaknpfepnfaaGreatDoor

/-
  The walk of law 03's awake.
-/
namespace Go.Proofs.YtdbfaknpfepnfaaGreatDoor
open Go.RowKit CodecP

set_option maxRecDepth 100000 in
theorem st_some {s : ByteArray} {b : Bool} {l : List UInt8} (h : st s b = some l) : b = false ∧ s = str l := by
  unfold st at h
  cases b
  · rw [if_neg (by simp)] at h
    injection h with h
    exact ⟨rfl, by rw [← h, str_bl]⟩
  · rw [if_pos rfl] at h; cases h
/-- A reader that the call itself has made at block p, with what is to come (none: it is bad). -/
structure ROwn (w0 w : World) (p : Nat) (o : Option (List UInt8)) : Prop where
  rd : ∃ s b, Rd w p s b ∧ st s b = o
  below : Below w0.heap.size w0 w
  base : w0.heap.size ≤ p
set_option maxRecDepth 100000 in
theorem ROwn.step {w0 w w' : World} {p : Nat} {o o' : Option (List UInt8)} (h : ROwn w0 w p o) (k : RdTo w w' p o') : ROwn w0 w' p o' := by
  obtain ⟨s, b, hr, hs, hf⟩ := k
  exact ⟨⟨s, b, hr, hs⟩, h.below.trans (hf.below h.below.size (fun k _ hk => by unfold RdS at hk; rw [hk]; exact h.base)), h.base⟩
set_option maxRecDepth 100000 in
theorem ROwn.some {w0 w : World} {p : Nat} {l : List UInt8} (h : ROwn w0 w p (some l)) : Rd w p (str l) false := by
  obtain ⟨s, b, hr, hs⟩ := h.rd
  obtain ⟨rfl, rfl⟩ := st_some hs
  exact hr
set_option maxRecDepth 100000 in
theorem ROwn.none {w0 w : World} {p : Nat} (h : ROwn w0 w p none) : ∃ s, Rd w p s true := by
  obtain ⟨s, b, hr, hs⟩ := h.rd
  unfold st at hs
  cases b
  · cases hs
  · exact ⟨s, hr⟩
set_option maxRecDepth 100000 in
theorem ROwn.new {w0 w w' : World} {p : Nat} {s : ByteArray} (hb : Below w0.heap.size w0 w) (hr : Rd w' p s false) (hb' : Below w.heap.size w w') (hp : w.heap.size ≤ p) : ROwn w0 w' p (Option.some (bl s)) :=
  ⟨⟨s, false, hr, rfl⟩, hb.trans (hb'.mono hb.size), Nat.le_trans hb.size hp⟩
set_option maxRecDepth 100000 in
theorem awk_laid : ([] ++ grp (300 : Int).toNat ++ grp (zig (-1)) ++ text (ByteArray.mk #[97, 98]).data.toList : List UInt8) = [172, 2, 1, 2, 97, 98] := by decide
set_option maxRecDepth 100000 in
theorem awk_len : ([] ++ grp (300 : Int).toNat ++ grp (zig (-1)) : List UInt8).length = 3 := by decide
set_option maxRecDepth 100000 in
theorem awk_size : sizeO (str [172, 2, 1, 2, 97, 98]) false = (300, some [1, 2, 97, 98]) := by decide
set_option maxRecDepth 100000 in
theorem awk_signed : tkI 0 0 (str [1, 2, 97, 98]) false = (1, some [2, 97, 98]) := by decide
set_option maxRecDepth 100000 in
theorem awk_text : textO (str [2, 97, 98]) false 5 = ([97, 98], some []) := by decide
end Go.Proofs.YtdbfaknpfepnfaaGreatDoor

/-
  The plain law of CodecBack, and its walk.
-/
namespace Go.Proofs.YtdbfaknpfepnfaaGreatDoor
open Go.RowKit CodecP

set_option maxRecDepth 100000 in
theorem zig_lt (n : Int) (h1 : -9223372036854775808 ≤ n) (h2 : n < 9223372036854775808) : zig n < 18446744073709551616 := by unfold zig; split <;> omega
set_option maxRecDepth 100000 in
theorem tkI_str (l : List UInt8) (m : Nat) (r : List UInt8) (h : tk 0 l = some (m, r)) : tkI 0 0 (str l) false = (m, some r) := by
  unfold tkI; rw [if_neg (by simp), bl_str, h]; simp
set_option maxRecDepth 100000 in
theorem tkI_no (l : List UInt8) (h : tk 0 l = none) : tkI 0 0 (str l) false = (0, none) := by
  unfold tkI; rw [if_neg (by simp), bl_str, h]
set_option maxRecDepth 100000 in
theorem tk_cut (n : Nat) (rest : List UInt8) (k : Nat) (hn : n < 2 ^ 64) (hk : k < (grp n).length) : tk 0 ((grp n ++ rest).take k) = none := by
  cases h : tk 0 ((grp n ++ rest).take k) with
  | none => rfl
  | some y =>
    exfalso
    obtain ⟨m, r⟩ := y
    obtain ⟨e, hm⟩ := grp_tk m _ _ h
    have e2 : grp n ++ rest = grp m ++ (r ++ (grp n ++ rest).drop k) := by
      rw [← List.append_assoc, ← e, List.take_append_drop]
    have h1 := tk_grp n rest hn
    rw [e2, tk_grp m _ hm] at h1
    injection h1 with h1
    injection h1 with h1 h2
    subst h1
    have := congrArg List.length e
    rw [List.length_append, List.length_take] at this
    omega
set_option maxRecDepth 100000 in
theorem text_take (s more : List UInt8) (hs : s.length ≤ 3000) : textO (str (text s ++ more)) false 3000 = (s, some more) := by
  have h1 : tkI 0 0 (str (text s ++ more)) false = (s.length, some (s ++ more)) := tkI_str _ _ _ (by unfold text; rw [List.append_assoc]; exact tk_grp _ _ (by omega))
  unfold textO sizeO
  rw [h1]
  simp only
  rw [if_neg (show ¬ 9223372036854775808 ≤ s.length by omega)]
  simp only
  rw [if_neg (show ¬ (3000 : Int) < (s.length : Int) by omega)]
  unfold rawS
  simp
  omega
set_option maxRecDepth 100000 in
theorem text_cut (s : List UInt8) (k : Nat) (hs : s.length ≤ 3000) (hk : k < (text s).length) : (textO (str ((text s).take k)) false 3000).2 = none := by
  unfold text at hk ⊢
  by_cases h : k < (grp s.length).length
  · have h1 : tkI 0 0 (str ((grp s.length ++ s).take k)) false = (0, none) := tkI_no _ (tk_cut _ _ _ (by omega) h)
    unfold textO sizeO
    rw [h1]
    rfl
  · have ht : (grp s.length ++ s).take k = grp s.length ++ s.take (k - (grp s.length).length) := by rw [List.take_append, List.take_of_length_le (by omega)]
    have h1 : tkI 0 0 (str ((grp s.length ++ s).take k)) false = (s.length, some (s.take (k - (grp s.length).length))) := tkI_str _ _ _ (by rw [ht]; exact tk_grp _ _ (by omega))
    rw [List.length_append] at hk
    unfold textO sizeO
    rw [h1]
    simp only
    rw [if_neg (show ¬ 9223372036854775808 ≤ s.length by omega)]
    simp only
    rw [if_neg (show ¬ (3000 : Int) < (s.length : Int) by omega)]
    unfold rawS
    simp only
    rw [if_pos (.inr (by rw [List.length_take]; omega))]
set_option maxRecDepth 100000 in
/-- What was laid, cut off: the reader is bad at the end. -/
theorem back_cut (n : Nat) (s : List UInt8) (k : Nat) (hn : n < 2 ^ 64) (hs : s.length ≤ 3000) (hk : k < (grp n ++ text s).length) :
    ∃ o, (tkI 0 0 (str ((grp n ++ text s).take k)) false).2 = o ∧ (o = none ∨ ∃ l, o = some l ∧ (textO (str l) false 3000).2 = none) := by
  by_cases h : k < (grp n).length
  · exact ⟨none, by rw [tkI_no _ (tk_cut n (text s) k hn h)], .inl rfl⟩
  · have ht : (grp n ++ text s).take k = grp n ++ (text s).take (k - (grp n).length) := by rw [List.take_append, List.take_of_length_le (by omega)]
    rw [List.length_append] at hk
    refine ⟨some ((text s).take (k - (grp n).length)), ?_, .inr ⟨_, rfl, text_cut s _ hs (by omega)⟩⟩
    rw [ht, tkI_str _ _ _ (tk_grp n _ hn)]
end Go.Proofs.YtdbfaknpfepnfaaGreatDoor

/-
  The walk of awake of the laws of crc.
-/
namespace Go.Proofs.YtdbfaknpfepnfaaGreatDoor
open Go.RowKit Go.Deep CrcP CodecP FrameP

set_option maxRecDepth 100000 in
theorem check_sum : (CrcP.sum [49, 50, 51, 52, 53, 54, 55, 56, 57]).toNat = 3808858755 := by decide +kernel
set_option maxRecDepth 100000 in
theorem check_u : u (CrcP.sum [49, 50, 51, 52, 53, 54, 55, 56, 57]) = 3808858755 := by unfold u; rw [check_sum]; rfl
end Go.Proofs.YtdbfaknpfepnfaaGreatDoor

/-
  The walks of the laws CrcSums and CrcFrames, and of the document's own Fixed and Frame.
-/
namespace Go.Proofs.YtdbfaknpfepnfaaGreatDoor
open Go.RowKit Go.Deep CrcP CodecP FrameP

set_option maxRecDepth 100000 in
theorem u_of (n : Int) (h0 : 0 ≤ n) (h1 : n < 4294967296) : ∃ v : BitVec 32, n = u v := by
  refine ⟨BitVec.ofNat 32 n.toNat, ?_⟩
  unfold u
  rw [BitVec.toNat_ofNat]; omega
set_option maxRecDepth 100000 in
theorem u32_wf {n : Int} (h : (Lit.int .u32 n).wf = true) : 0 ≤ n ∧ n < 4294967296 := by
  have : 0 ≤ n ∧ n ≤ 4294967295 := by simpa [Lit.wf, IntKind.min, IntKind.max, IntKind.signed, IntKind.bits] using h
  omega
set_option maxRecDepth 100000 in
theorem fixed_succ (k n : Nat) : ∃ l, fixed (k + 1) n = l ∧ l = fixed k (n / 256) ++ [UInt8.ofNat (n % 256)] := ⟨_, rfl, rfl⟩
/-- The document's fixed bytes: from the lowest on. -/
def low (k n : Nat) : List UInt8 := fixed k (n % 256 ^ k)
set_option maxRecDepth 100000 in
theorem fixed_mod (k : Nat) : ∀ n, fixed k n = fixed k (n % 256 ^ k) := by
  induction k with
  | zero => intro n; rfl
  | succ k ih =>
    intro n
    rw [fixed, fixed]
    have e1 : n % 256 ^ (k + 1) % 256 = n % 256 := Nat.mod_mod_of_dvd n ⟨256 ^ k, by rw [Nat.pow_succ, Nat.mul_comm]⟩
    have e2 : n % 256 ^ (k + 1) / 256 = n / 256 % 256 ^ k := by rw [Nat.pow_succ, Nat.mul_comm, Nat.mod_mul_right_div_self]
    rw [e1, e2, ← ih]
set_option maxRecDepth 100000 in
theorem fixed_high (k : Nat) : ∀ n, fixed (k + 1) n = UInt8.ofNat (n / 256 ^ k % 256) :: fixed k n := by
  induction k with
  | zero => intro n; simp [fixed]
  | succ k ih =>
    intro n
    rw [fixed, ih, Nat.div_div_eq_div_mul, List.cons_append]
    congr 2
    · rw [Nat.pow_succ, Nat.mul_comm]
set_option maxRecDepth 100000 in
theorem bl_append (a b : ByteArray) : bl (a ++ b) = bl a ++ bl b := by
  unfold bl; simp
set_option maxRecDepth 100000 in
theorem str_append (a b : List UInt8) : str a ++ str b = str (a ++ b) := by
  rw [← str_bl (str a ++ str b), bl_append, bl_str, bl_str]

set_option maxRecDepth 100000 in
set_option maxHeartbeats 400000 in
theorem refFixed_any (n size : Nat) (w : World) (h : size ≤ 8) (hn : n < 18446744073709551616) :
    Calls Tryz.prog 63 #[.int .u64 n, .int .i64 size] w fun e w' => e = .returned (.string (str (fixed size n))) ∧ Below w.heap.size w w' := by
  have hb0 := Below.refl w.heap.size w
  go_enter Tryz.func63, Tryz.ntmps63
  go_wp2
  go_loopw [0, 5, 6] (fun x t i wr => ∃ k : Nat, k ≤ size ∧ i = .int .i64 k ∧ x = .int .u64 (n / 256 ^ k : Nat) ∧ t = .string (str (fixed k n)) ∧ Below w.heap.size w wr) (fun _ _ i _ => size - (intOf i).toNat)
  case atStart => exact ⟨0, by omega, rfl, by simp, rfl, hb0⟩
  case round =>
    clear hb0
    obtain ⟨k, hk, rfl, rfl, rfl, hbel⟩ := hrel
    by_cases hlt : k < size
    · have hq : n / 256 ^ k < 18446744073709551616 := Nat.lt_of_le_of_lt (Nat.div_le_self _ _) hn
      have hst := fixed_high k n
      have hdiv : n / 256 ^ (k + 1) = n / 256 ^ k / 256 := by rw [Nat.pow_succ, Nat.div_div_eq_div_mul]
      generalize n / 256 ^ k = q at *
      have HD := Lib.hid hdiv
      have hone : strOfNums [((q : Int) % 256)] = str [UInt8.ofNat (q % 256)] := by
        unfold strOfNums str
        have : ((q : Int) % 256).toNat = q % 256 := by omega
        simp only [List.map_cons, List.map_nil, this]
      have hcv := run_convert_bytes_arg (P := Tryz.prog) (w := wr.alloc (.cells #[.int .u8 ((q : Int) % 256)] 5)) 94 5 Tryz.underlying94 Tryz.underlying5 wr.heap.size 0 1 1 [((q : Int) % 256)] rfl
        (fun i hi => by obtain rfl : i = 0 := by omega
                        simp) 9 Tryz.underlying9
      rw [hone] at hcv
      have happ := str_append [UInt8.ofNat (q % 256)] (fixed k n)
      have hbel2 := hbel.alloc hbel.size (.cells #[.int .u8 ((q : Int) % 256)] 5)
      have HST := Lib.hid hst
      have HA := Lib.hid happ
      clear hone hst happ hdiv
      have hsz : (str [UInt8.ofNat (q % 256)]).size + (str (fixed k n)).size ≤ 100 := by rw [str_size, str_size, fixed_length]; simp; omega
      generalize str [UInt8.ofNat (q % 256)] = b at *
      generalize str (fixed k n) = f at *
      go_wp2
      go_roundw
      case rel =>
        refine ⟨k + 1, by omega, by go_num, by rw [HD.out]; go_num, ?_, hbel2⟩
        rw [HST.out, ← List.singleton_append, ← HA.out]
      case measure => simp [intOf]; omega
    · obtain rfl : k = size := by omega
      go_wp2
      go_ret
      exact ⟨rfl, hbel⟩
set_option maxRecDepth 100000 in
theorem refFrame_str (s : ByteArray) : str (fixed 4 s.size) ++ str (laid (fixed 4 s.size)) ++ s ++ str (laid (bl s)) = str (frame (bl s)) := by
  conv => lhs; rw [← str_bl s]
  rw [str_append, str_append, str_append]
  rw [bl_str]
  rfl
set_option maxRecDepth 100000 in
set_option maxHeartbeats 400000 in
theorem refFrame_any (s : ByteArray) (w : World) (h : s.size ≤ 131072) :
    Calls Tryz.prog 71 #[.string s] w fun e w' => e = .returned (.string (str (frame (bl s)))) ∧ Below w.heap.size w w' := by
  have hfin := refFrame_str s
  have hsm : s.size ≤ maxLen := small _ (by omega)
  have HS := Lib.hid hsm
  have z1 : (str (fixed 4 s.size)).size = 4 := by rw [str_size, fixed_length]
  have z2 : (str (laid (fixed 4 s.size))).size = 4 := by rw [str_size, laid_length]
  have z3 : (str (laid (bl s))).size = 4 := by rw [str_size, laid_length]
  have hbs : laid (bl (str (fixed 4 s.size))) = laid (fixed 4 s.size) := by rw [bl_str]
  have HB := Lib.hid hbs
  have R1 := fun W => refFixed_any s.size 4 W (by omega) (by omega)
  have R2 := fun W => refLaid_any (str (fixed 4 s.size)) W (small _ (by omega))
  rw [hbs] at R2
  have R3 := fun W => refLaid_any s W hsm
  have HR1 := Lib.hid R1
  have HR2 := Lib.hid R2
  have HR3 := Lib.hid R3
  have y1 : (str (fixed 4 s.size)).size + (str (laid (fixed 4 s.size))).size ≤ 100 := by omega
  have y2 : (str (fixed 4 s.size) ++ str (laid (fixed 4 s.size))).size + s.size ≤ 1000000 := by rw [ByteArray.size_append]; omega
  have y3 : (str (fixed 4 s.size) ++ str (laid (fixed 4 s.size)) ++ s).size + (str (laid (bl s))).size ≤ 1000000 := by rw [ByteArray.size_append, ByteArray.size_append]; omega
  clear R1 R2 R3 z1 z2 z3 hbs hsm HB
  rw [← hfin]
  clear hfin
  generalize str (fixed 4 s.size) = f1 at *
  generalize str (laid (fixed 4 s.size)) = f2 at *
  generalize str (laid (bl s)) = f3 at *
  go_enter Tryz.func71, Tryz.ntmps71
  go_wp2_with fail
  refine (HR1.out _).mono ?_
  rintro e w1 ⟨rfl, hb1⟩
  go_wp2_with fail
  refine (HR2.out _).mono ?_
  rintro e w2 ⟨rfl, hb2⟩
  go_wp2_with fail
  refine (HR3.out _).mono ?_
  rintro e w3 ⟨rfl, hb3⟩
  have hbel := (hb1.trans (hb2.mono hb1.size)).trans (hb3.mono (Nat.le_trans hb1.size hb2.size))
  clear hb1 hb2 hb3
  go_wp2
  go_ret
  exact ⟨rfl, hbel⟩

end Go.Proofs.YtdbfaknpfepnfaaGreatDoor

/-
  The walk of the document's own bloom.Make.
-/
namespace Go.Proofs.YtdbfaknpfepnfaaGreatDoor
open Go.RowKit Go.Deep CrcP BloomP

set_option maxRecDepth 100000 in
theorem info_bool : (Tryz.prog.info? 4).map (fun i => (i.zero, i.size, i.bytes)) = some (some (.bool false), 1, 1) := by kernel_rfl
/-- Bools in a block of the call's own. -/
structure Set (w0 w : World) (m : Nat) (S : Nat → Bool) : Prop where
  row : w.rowIs w0.heap.size 4 m (fun j => .bool (S j))
  below : Below w0.heap.size w0 w
set_option maxRecDepth 100000 in
theorem Set.congr {w0 w : World} {n : Nat} {S T : Nat → Bool} (h : Set w0 w n S) (e : ∀ i, S i = T i) : Set w0 w n T :=
  ⟨h.row.congr (fun j _ => by rw [e]), h.below⟩
set_option maxRecDepth 100000 in
theorem Set.set {w0 w : World} {n : Nat} {S : Nat → Bool} (h : Set w0 w n S) (p : Nat) : Set w0 (w.setCell ⟨w0.heap.size, p, none⟩ (.bool true)) n (fun i => S i || i == p) :=
  ⟨(h.row.set p _).congr (fun j _ => by
    by_cases e : j = p
    · subst e; simp
    · rw [if_neg e]; have : (j == p) = false := by simpa using e
      rw [this, Bool.or_false]), h.below.setCell (Nat.le_refl _) _⟩
set_option maxRecDepth 100000 in
theorem Set.later {w0 w w' : World} {n : Nat} {S : Nat → Bool} (h : Set w0 w n S) (hb : Below w.heap.size w w') : Set w0 w' n S :=
  ⟨h.row.of_block (hb.block _ h.row.lt), h.below.trans (hb.mono h.below.size)⟩

set_option maxRecDepth 100000 in
theorem u8_add (bt i nb : Nat) (h : nb = bt + 2 ^ (i % 8)) (hl : nb < 256) : ((bt : Int) + (2 : Int) ^ (i % 8) % 256) % 256 = (nb : Int) := by
  rw [show (2 : Int) ^ (i % 8) = ((2 ^ (i % 8) : Nat) : Int) by simp]
  generalize 2 ^ (i % 8) = q at *
  omega
set_option maxRecDepth 100000 in
set_option maxHeartbeats 1000000 in
theorem refMake_any (v : Value) (ks : List ByteArray) (w : World) (hk : Strs w v ks) :
    Calls Tryz.prog 74 #[v] w fun e w' => e = .returned (.string (str (make (bls ks)))) ∧ Below w.heap.size w w' := by
  obtain ⟨ao, cap, rfl, hl, hk⟩ := hk
  obtain ⟨n, hbits, hn1, hn2⟩ := bitsOf_eq ks.length
  have hmk := run_make_row' (P := Tryz.prog) 94 5 (.int .u8 0) 1 Tryz.underlying94 info_u8 rfl .i64 .i64 n (by omega) (by omega)
  have hmk2 := run_make_row' (P := Tryz.prog) 170 4 (.bool false) 1 Tryz.underlying170 info_bool rfl .i64 .i64 (8 * n) (by omega) (by omega)
  have ec : ((8 * n : Nat) : Int) = 8 * (n : Int) := by omega
  rw [ec] at hmk2
  have hM : make (bls ks) = pack (setOf (bls ks) (8 * n)) n := by
    unfold make
    rw [show (bls ks).length = ks.length by simp [bls], hbits, show 8 * n / 8 = n by omega]
  have HM := Lib.hid hM
  have HK := Lib.hid hk
  have HB := Lib.hid hbits
  have HE := Lib.hid ec
  clear hM hk hbits ec
  unfold maxLen at hl
  go_enter Tryz.func74, Tryz.ntmps74
  go_wp2_with fail
  refine (refBits_any _ _).mono ?_
  rintro e w1 ⟨rfl, rfl⟩
  rw [HB.out, HE.out]
  have hq : (8 * (n : Int)) / 8 = (n : Int) := by omega
  go_wp2
  have hnew : Set w (w.alloc (.cells (madeCells #[.bool false] (8 * n)) 4)) (8 * n) (setOf (bls (ks.take 0)) (8 * n)) :=
    ⟨(World.rowIs_made w (.bool false) (8 * n) 4).congr (fun j _ => rfl), (Below.refl _ _).alloc (Nat.le_refl _) _⟩
  go_loopw [5, 6, 7] (fun c _ _ wr => ∃ k : Nat, k ≤ ks.length ∧ c = .int .i64 k ∧ Set w wr (8 * n) (setOf (bls (ks.take k)) (8 * n))) (fun c _ _ _ => ks.length - (intOf c).toNat)
  case atStart => exact ⟨0, by omega, rfl, hnew⟩
  case round =>
    clear hnew hmk2
    obtain ⟨k, hk, rfl, hrow⟩ := hrel
    by_cases hlt : k < ks.length
    · obtain ⟨b, off, rfl, hks⟩ := HK.out (by intro e; subst e; simp at hlt)
      have hkr := hks.below hrow.below hks.lt
      have c0 := hkr.cell k hlt
      have hsz := hkr.size k hlt
      have hsn := take_snoc' ks k hlt
      generalize ks.getD k ByteArray.empty = key at *
      have HS := Lib.hid hsn
      have HZ := Lib.hid hsz
      clear hsn hsz hkr hks hmk
      go_wp2_with fail
      rw [← HE.out]
      refine (refPlaces_some key (8 * n) _ HZ.out (by omega) (by omega)).mono ?_
      rintro e w1 ⟨v, rfl, hv, hbel⟩
      obtain ⟨g, cap2, hg1, hg2, rfl, hc⟩ := placesAt hv (by omega) (by omega)
      have hgB : g ≠ w.heap.size := by have := hrow.row.lt; omega
      have hin : Set w w1 (8 * n) (fun i => setOf (bls (ks.take k)) (8 * n) i || ((List.range 0).map (plc (bl key) (8 * n))).contains i) := (hrow.later hbel).congr (by simp)
      clear hv
      have HC := Lib.hid hc
      clear hc hrow c0
      rw [HE.out]
      go_wp2
      go_loopw [7] (fun c wr => ∃ j : Nat, j ≤ 6 ∧ c = .int .i64 j ∧ Set w wr (8 * n) (fun i => setOf (bls (ks.take k)) (8 * n) i || ((List.range j).map (plc (bl key) (8 * n))).contains i) ∧
          (∀ i, i < 6 → wr.cell? ⟨g, i, none⟩ = some (.int .i64 (plc (bl key) (8 * n) i : Nat)))) (fun c _ => 6 - (intOf c).toNat)
      case atStart => exact ⟨0, by omega, rfl, hin, HC.out⟩
      case round =>
        clear hin HC
        obtain ⟨j, hj, rfl, hrow, hcs⟩ := hrel
        by_cases hlt2 : j < 6
        · have c1 := hcs j hlt2
          have hp := plc_lt (bl key) (8 * n) j (by omega)
          generalize hq : plc (bl key) (8 * n) j = p at *
          generalize hT : (fun i => setOf (bls (ks.take k)) (8 * n) i || ((List.range j).map (plc (bl key) (8 * n))).contains i) = T at *
          have c2 := hrow.row.cell (i := p) (by omega)
          have f2 := hrow.row.frozen p
          have hset := hrow.set p
          have HQ := Lib.hid hq
          have HT := Lib.hid hT
          have HCS := Lib.hid hcs
          have HSET := Lib.hid hset
          clear hq hT hcs hset
          go_wp2
          go_roundw
          case rel =>
            refine ⟨j + 1, by omega, by go_num, HSET.out.congr (fun i => ?_), fun i hi => ?_⟩
            · rw [← HT.out, List.range_succ, List.map_append, List.map_singleton, HQ.out]
              exact or_snoc _ _ _ _
            · exact (World.cell?_setCell_other _ _ _ _ (fun e => hgB (congrArg Addr.block e).symm)).trans (HCS.out i hi)
          case measure => simp [intOf]; omega
        · clear hcs
          go_wp2
          go_roundw
          case rel =>
            refine ⟨k + 1, by omega, by go_num, hrow.congr (fun i => ?_)⟩
            rw [HS.out, show bls (ks.take k ++ [key]) = bls (ks.take k) ++ [bl key] by simp [bls], setOf_snoc, places_eq (bl key) (8 * n) (by omega) (by omega), show j = 6 by omega]
          case measure => simp [intOf]; omega
    · have hall : ks.take k = ks := List.take_of_length_le (by omega)
      rw [hall] at hrow
      have hM := HM.out
      generalize hS : setOf (bls ks) (8 * n) = S at *
      have HM2 := Lib.hid hM
      clear hS HM hM hall
      go_wp2
      have hnew : Bits wr (wr.alloc (.cells (madeCells #[.int .u8 0] n) 5)) n (upto S 0) :=
        ⟨(World.rowIs_made wr (.int .u8 0) n 5).congr (fun j _ => by rw [upto_zero]; rfl), (Below.refl _ _).alloc (Nat.le_refl _) _⟩
      obtain ⟨wm, hwm⟩ : ∃ wm : World, wm = wr := ⟨_, rfl⟩
      rw [← hwm] at hnew hrow ⊢
      clear hwm
      go_loopw [9] (fun c wr => ∃ i : Nat, i ≤ 8 * n ∧ c = .int .i64 i ∧ Bits wm wr n (upto S i)) (fun c _ => 8 * n - (intOf c).toNat)
      case atStart => exact ⟨0, by omega, rfl, hnew⟩
      case round =>
        clear hnew hmk
        obtain ⟨i, hi, rfl, hb⟩ := hrel
        have hrow' := hrow.later hb.below
        by_cases hlt2 : i < 8 * n
        · have c1 := hrow'.row.cell hlt2
          have c2 := hb.row.cell (i := i / 8) (by omega)
          have f2 := hb.row.frozen (i / 8)
          have hst := upto_step S i
          have hoth := upto_other S i
          have hl2 := byteAt_lt (upto S (i + 1)) (i / 8)
          cases hSi : S i
          · rw [hSi] at c1 hst
            have hB : Bits wm wr n (upto S (i + 1)) := ⟨hb.row.congr (fun j _ => by
              by_cases e : j = i / 8
              · subst e; rw [hst]; rfl
              · rw [hoth j e]), hb.below⟩
            have HO := Lib.hid hB
            clear hst hoth hSi hB
            go_wp2
            go_roundw
            case rel => exact ⟨i + 1, by omega, by go_num, HO.out⟩
            case measure => simp [intOf]; omega
          · rw [hSi] at c1 hst
            have hB : Bits wm (wr.setCell ⟨wm.heap.size, i / 8, none⟩ (.int .u8 (byteAt (upto S (i + 1)) (i / 8) : Nat))) n (upto S (i + 1)) := ⟨(hb.row.set (i / 8) _).congr (fun j _ => by
              by_cases e : j = i / 8
              · subst e; rw [if_pos rfl]
              · rw [if_neg e, hoth j e]), hb.below.setCell (Nat.le_refl _) _⟩
            rw [if_pos rfl] at hst
            generalize byteAt (upto S (i + 1)) (i / 8) = nb at *
            generalize byteAt (upto S i) (i / 8) = bt at *
            have hadd := u8_add bt i nb hst hl2
            have HO := Lib.hid hB
            clear hst hoth hSi hB
            go_wp2
            go_region
            go_wp2
            go_roundw
            case rel => exact ⟨i + 1, by omega, by go_num, HO.out.drew⟩
            case measure => simp [intOf]; omega
        · have hS8 : Bits wm wr n S := ⟨hb.row.congr (fun j hj => by rw [show i = 8 * n by omega, upto_all S n j hj]), hb.below⟩
          have hcv := run_convert_bytes_arg (P := Tryz.prog) (w := wr) 94 5 Tryz.underlying94 Tryz.underlying5 wm.heap.size 0 n n ((List.range n).map fun j => (byteAt S j : Int)) (by simp)
            (fun i hi => by rw [Nat.zero_add, hS8.row.cell hi]; simp [hi]) 9 Tryz.underlying9
          have hfin : strOfNums ((List.range n).map fun j => (byteAt S j : Int)) = str (make (bls ks)) := by
            rw [HM2.out, pack_bytes]; exact strOfNums_str _ _
          rw [hfin] at hcv
          have hbel := hrow'.below
          clear hfin hS8 hb
          go_wp2
          go_ret
          exact ⟨rfl, hbel⟩
end Go.Proofs.YtdbfaknpfepnfaaGreatDoor

/-
  The walks of awake and great of the laws of bloom.
-/
namespace Go.Proofs.YtdbfaknpfepnfaaGreatDoor
open Go.RowKit Go.Deep CrcP BloomP

/-- Is there more than is asked of? -/
def greatB (ks : List ByteArray) : Bool := decide (300 < ks.length) || ks.any fun k => decide (300 < k.size)
set_option maxRecDepth 100000 in
theorem greatB_long (ks : List ByteArray) (h : 300 < ks.length) : greatB ks = true := by unfold greatB; simp [h]
set_option maxRecDepth 100000 in
theorem greatB_one (ks : List ByteArray) (k : Nat) (hk : k < ks.length) (h : 300 < (ks.getD k ByteArray.empty).size) : greatB ks = true := by
  unfold greatB
  have : (ks.any fun k => decide (300 < k.size)) = true := by
    rw [List.any_eq_true]
    refine ⟨ks.getD k ByteArray.empty, ?_, by simpa using h⟩
    rw [List.getD_eq_getElem?_getD, List.getElem?_eq_getElem hk]; simp
  rw [this]; simp
set_option maxRecDepth 100000 in
theorem greatB_no (ks : List ByteArray) (h : ¬ 300 < ks.length) (h2 : ∀ k, k < ks.length → ¬ 300 < (ks.getD k ByteArray.empty).size) : greatB ks = false := by
  unfold greatB
  have : (ks.any fun k => decide (300 < k.size)) = false := by
    rw [List.any_eq_false]
    intro x hx
    obtain ⟨i, hi, rfl⟩ := List.getElem_of_mem hx
    have := h2 i hi
    rw [List.getD_eq_getElem?_getD, List.getElem?_eq_getElem hi] at this
    simpa using this
  rw [this]; simpa using h
end Go.Proofs.YtdbfaknpfepnfaaGreatDoor

/-
  The walks of the laws BloomPlaces, BloomMakes and BloomHas.
-/
namespace Go.Proofs.YtdbfaknpfepnfaaGreatDoor
open Go.RowKit Go.Deep CrcP BloomP

end Go.Proofs.YtdbfaknpfepnfaaGreatDoor

/-
  The walk of the law BloomKeeps.
-/
namespace Go.Proofs.YtdbfaknpfepnfaaGreatDoor
open Go.RowKit Go.Deep CrcP BloomP

set_option maxRecDepth 100000 in
/-- append onto a slice that the call owns, as a step of a region that draws. -/
theorem step_append_own {P : Program} {ops : Array Oper} {o : Oper} {a : Act} (w : World) {K : Act → World → Prop} {Q : Exit → Act → World → Prop} {E : Prop} (hgd : o.guard = none) (s x : Operand) (t : TypeId)
    (ho : o.op = .call { callee := .builtin .append, args := #[s, x], argTypes := #[t, t] })
    (base : Nat) (e : TypeId) (i : TypeInfo) (z : Value) (size bytes : Nat) (ht : P.underlying t = some (.slice e)) (hi : P.info? e = some i) (hz : i.zero = some z)
    (hsize : i.size = size) (hby : i.bytes = bytes) (hzs : z.cells.size = size) (hsz : 0 < size)
    (v : Value) (n : Nat) (xs : List Value) (hs : a.eval s = v) (hown : w.ownsRow base e size v n xs)
    (ad : Addr) (m c : Nat) (news : List Value) (hx : a.eval x = .slice (some ad) m c) (hl : news.length = m * size) (hnews : ∀ j u, news[j]? = some u → w.cell? (ad.add j) = some u) (h1 : ∀ u ∈ news, u.oneCell' = true)
    (h63 : n + m ≤ maxLen) (hbytes : (n + m) * bytes ≤ 140737488355328) (hbase : base ≤ w.heap.size)
    (h : ∀ v' w', w'.ownsRow base e size v' (n + m) (xs ++ news) → w.grownBy w' v.ownBlock → (v' = .slice none 0 0 ↔ v = .slice none 0 0 ∧ m = 0) → K (a.put o.dst v') w') :
    if Region.wanted o (yielded ops a.tmps) = true then Oper.wp P o a w K Q else E := by
  have hw : Region.wanted o (yielded ops a.tmps) = true := by simp [Region.wanted, hgd]
  rw [if_pos hw]
  exact wp_append_own w s x t ho base e i z size bytes ht hi hz hsize hby hzs hsz v n xs hs hown ad m c news hx hl hnews h1 h63 hbytes hbase fun v' w' h2 h3 h4 => h v' w' h2 h3 h4
set_option maxRecDepth 100000 in
/-- Nothing, in a new block. -/
theorem owns_empty (w : World) (base : Nat) (h : base ≤ w.heap.size) (e : TypeId) : ((w.alloc (.cells #[] e)).drew).ownsRow base e 1 (.slice (some ⟨w.heap.size, 0, none⟩) 0 0) 0 [] := by
  refine ⟨rfl, .inr ⟨w.heap.size, 0, #[], rfl, h, ?_, by omega, by omega, rfl, rfl⟩⟩
  show (w.heap.push _)[w.heap.size]? = _
  simp
set_option maxRecDepth 100000 in
theorem strs_news {w w' : World} {b off : Nat} {ks : List ByteArray} (h : StrsAt w b off ks) (hb : w'.heap[b]? = w.heap[b]?) (k n : Nat) (hk : k + n ≤ ks.length) :
    ∀ j u, (((ks.drop k).take n).map Value.string)[j]? = some u → w'.cell? ((⟨b, off + k, none⟩ : Addr).add j) = some u := by
  intro j u hj
  rw [Go.WideShapes.add_plain]
  rw [List.getElem?_map] at hj
  cases hx : ((ks.drop k).take n)[j]? with
  | none => rw [hx] at hj; simp at hj
  | some x =>
    rw [hx] at hj
    simp only [Option.map_some, Option.some.injEq] at hj
    subst hj
    have hjn : j < n := by
      rcases Nat.lt_or_ge j n with h1 | h1
      · exact h1
      · rw [List.getElem?_eq_none (by simp; omega)] at hx; simp at hx
    rw [List.getElem?_take, if_pos hjn, List.getElem?_drop] at hx
    have := h.cell (k + j) (by omega)
    rw [List.getD_eq_getElem?_getD, hx] at this
    rw [World.cell?_of_block (w := w) (a := ⟨b, off + k + j, none⟩) hb, Nat.add_assoc]
    exact this
set_option maxRecDepth 100000 in
theorem strs_own {w : World} {B : Nat} {v : Value} {n : Nat} {ks : List ByteArray} (h : w.ownsRow B 9 1 v n (ks.map Value.string)) (hs : ∀ k ∈ ks, k.size ≤ maxLen) (hn : ks.length ≤ maxLen) : Strs w v ks := by
  obtain ⟨hl, h2⟩ := h
  simp at hl
  rcases h2 with ⟨rfl, rfl⟩ | ⟨g, cap, cur, rfl, hg, hh, hcap, hmax, hcs, htk⟩
  · exact ⟨none, 0, by rw [hl], hn, fun h => absurd (List.length_eq_zero_iff.1 hl) h⟩
  · refine ⟨some ⟨g, 0, none⟩, cap, by rw [hl], hn, fun _ => ⟨g, 0, rfl, fun i hi => ?_, ?_, fun i hi => ?_⟩⟩
    · have : cur[i]? = some (.string (ks.getD i ByteArray.empty)) := by
        have e : (cur.toList.take (n * 1))[i]? = cur.toList[i]? := by rw [List.getElem?_take, if_pos (by omega)]
        rw [← Array.getElem?_toList, ← e, htk]
        simp [hi]
      simp [World.cell?, hh, this]
    · rcases Nat.lt_or_ge g w.heap.size with h | h
      · exact h
      · rw [Array.getElem?_eq_none h] at hh; simp at hh
    · refine hs _ ?_
      rw [List.getD_eq_getElem?_getD, List.getElem?_eq_getElem hi]; simp
set_option maxRecDepth 100000 in
theorem turn_by (by_ : Int) (n : Nat) (h : 0 < n) (h2 : n ≤ 4611686018427387904) : ∃ t : Nat, t < n ∧ wrap64 ((IntKind.u64.wrap by_).tmod (n : Int)) = (t : Int) := by
  rw [IntKind.wrap_u64]
  have h0 : 0 ≤ by_ % 18446744073709551616 := Int.emod_nonneg _ (by decide)
  rw [Int.tmod_eq_emod_of_nonneg h0]
  have h1 := Int.emod_nonneg (by_ % 18446744073709551616) (show (n : Int) ≠ 0 by omega)
  have h3 := Int.emod_lt_of_pos (by_ % 18446744073709551616) (show (0 : Int) < n by omega)
  refine ⟨(by_ % 18446744073709551616 % (n : Int)).toNat, by omega, ?_⟩
  rw [IntWalk.wrap64_in _ ⟨by omega, by omega⟩]
  omega
set_option maxRecDepth 100000 in
theorem info_string : (Tryz.prog.info? 9).map (fun i => (i.zero, i.size, i.bytes)) = some (some (.string ByteArray.empty), 1, 16) := by kernel_rfl

set_option maxRecDepth 100000 in
theorem greatB_len (ks : List ByteArray) (h : greatB ks = false) : ks.length ≤ 300 := by
  apply Decidable.byContradiction
  intro h2
  rw [greatB_long ks (by omega)] at h; cases h
set_option maxRecDepth 100000 in
theorem greatB_size (ks : List ByteArray) (h : greatB ks = false) : ∀ i, i < ks.length → (ks.getD i ByteArray.empty).size ≤ 300 := by
  intro i hi
  apply Decidable.byContradiction
  intro h2
  rw [greatB_one ks i hi (by omega)] at h; cases h
end Go.Proofs.YtdbfaknpfepnfaaGreatDoor

/-
  Bytes that the call itself turns; the walk of the law CrcPatterns.
-/
namespace Go.Proofs.YtdbfaknpfepnfaaGreatDoor
open Go.RowKit Go.Deep CrcP CodecP FrameP

/-- The bytes of a text, in a block of the call's own. -/
structure BRow (w0 w : World) (B : Nat) (l : List UInt8) : Prop where
  cell : ∀ j, j < l.length → w.cell? ⟨B, j, none⟩ = some (.int .u8 ((l.getD j 0).toNat : Int))
  free : ∀ j, j < l.length → w.frozen? ⟨B, j, none⟩ = false
  below : Below w0.heap.size w0 w
  base : w0.heap.size ≤ B
set_option maxRecDepth 100000 in
theorem BRow.new {w0 w : World} (hb : Below w0.heap.size w0 w) (s : ByteArray) : BRow w0 (Lib.bytesWorld w 5 s) w.heap.size (bl s) :=
  ⟨fun j hj => Lib.bytesWorld_cell w _ s j hj, fun j hj => by
    have h1 : j < (Lib.bytesCells w 5 s).size := by
      unfold Lib.bytesCells
      have : (bl s).length = s.data.size := by simp [bl]
      rw [Array.size_append, Array.size_map]; omega
    simp only [World.frozen?, Lib.bytesWorld_at_new]
    generalize (Lib.bytesCells w 5 s).size = C at *
    simp; omega,
    ⟨hb.os, hb.tape, hb.output, Nat.le_trans hb.size (by rw [Lib.bytesWorld_size]; omega), fun k hk => (Lib.bytesWorld_at_old w _ s k (Nat.lt_of_lt_of_le hk hb.size)).trans (hb.block k hk)⟩, hb.size⟩
set_option maxRecDepth 100000 in
theorem BRow.set {w0 w : World} {B : Nat} {l : List UInt8} (h : BRow w0 w B l) (j : Nat) (hj : j < l.length) (b : UInt8) : BRow w0 (w.setCell ⟨B, j, none⟩ (.int .u8 (b.toNat : Int))) B (l.set j b) :=
  ⟨fun i hi => by
    rw [List.length_set] at hi
    by_cases e : i = j
    · subst e
      rw [World.cell?_setCell_same _ _ _ (h.cell i hi)]
      simp [hi]
    · rw [World.cell?_setCell_other _ _ _ _ (by intro he; injection he with _ he; exact e he.symm), h.cell i hi]
      simp [List.getD_eq_getElem?_getD, List.getElem?_set_ne (Ne.symm e)],
    fun i hi => by rw [World.frozen?_setCell]; exact h.free i (by simpa using hi),
    h.below.setCell h.base _, h.base⟩
set_option maxRecDepth 100000 in
theorem BRow.drew {w0 w : World} {B : Nat} {l : List UInt8} (h : BRow w0 w B l) : BRow w0 w.drew B l := ⟨h.cell, h.free, h.below.drew, h.base⟩
set_option maxRecDepth 100000 in
/-- The bytes as a text again. -/
theorem BRow.text {w0 w : World} {B : Nat} {l : List UInt8} (h : BRow w0 w B l) (cap : Nat) : (convert 94 9 (.slice (some ⟨B, 0, none⟩) l.length cap)).run Tryz.prog w = .ok (.string (str l)) w :=
  run_convert_bytes_back w 94 9 5 ⟨B, 0, none⟩ cap l Tryz.underlying94 Tryz.underlying5 Tryz.underlying9 (fun j hj => by
    rw [Go.WideShapes.add_plain, Nat.zero_add, h.cell j hj]
    simp [hj])

set_option maxRecDepth 100000 in
theorem xorL_get (a : List UInt8) : ∀ (b : List UInt8) (j : Nat), j < a.length → j < b.length → (xorL a b).getD j 0 = a.getD j 0 ^^^ b.getD j 0 := by
  induction a with
  | nil => intro b j h; simp at h
  | cons x a ih =>
    intro b j h1 h2
    cases b with
    | nil => simp at h2
    | cons y b =>
      cases j with
      | zero => rfl
      | succ j =>
        have := ih b j (by simpa using h1) (by simpa using h2)
        simpa [xorL] using this
set_option maxRecDepth 100000 in
theorem xorL_length (a : List UInt8) : ∀ b : List UInt8, a.length = b.length → (xorL a b).length = a.length := by
  induction a with
  | nil => intro b h; cases b <;> simp_all [xorL]
  | cons x a ih => intro b h; cases b with
    | nil => simp at h
    | cons y b => simp [xorL, ih b (by simpa using h)]
/-- Some bytes have been turned by the pattern. -/
def TurnedTo (l : List UInt8) (k d : Nat) (m : List UInt8) : Prop := m.length = l.length ∧ ∀ j, j < l.length → m.getD j 0 = if k ≤ j ∧ j < k + d then l.getD j 0 ^^^ 0xa5 else l.getD j 0
set_option maxRecDepth 100000 in
theorem TurnedTo.eq {l m : List UInt8} {k d : Nat} (h : TurnedTo l k d m) (hk : k + d ≤ l.length) : m = turnA5 l k d := by
  have hl : (List.replicate k (0 : UInt8) ++ List.replicate d 0xa5 ++ List.replicate (l.length - k - d) 0).length = l.length := by simp; omega
  apply List.ext_getElem?
  intro j
  by_cases hj : j < l.length
  · have h1 := h.2 j hj
    have h2 := xorL_get l _ j hj (by rw [hl]; exact hj)
    have e1 : m[j]? = some (m.getD j 0) := by rw [List.getD_eq_getElem?_getD, List.getElem?_eq_getElem (by rw [h.1]; exact hj)]; simp
    have hl2 : j < (turnA5 l k d).length := by unfold turnA5; rw [xorL_length _ _ hl.symm]; exact hj
    have e2 : (turnA5 l k d)[j]? = some ((turnA5 l k d).getD j 0) := by rw [List.getD_eq_getElem?_getD, List.getElem?_eq_getElem hl2]; simp
    rw [e1, e2]
    congr 1
    unfold turnA5
    rw [h1, h2]
    simp only [List.getD_eq_getElem?_getD, List.getElem?_append, List.length_append, List.length_replicate, List.getElem?_replicate]
    by_cases a1 : j < k
    · simp [a1, show j < k + d by omega, show ¬ k ≤ j by omega]
    · by_cases a2 : j < k + d
      · simp [a1, a2, show k ≤ j by omega, show j - k < d by omega]
      · simp [a2, show j - (k + d) < l.length - k - d by omega]
  · rw [List.getElem?_eq_none (by rw [h.1]; omega), List.getElem?_eq_none (by unfold turnA5; rw [xorL_length _ _ hl.symm]; omega)]
set_option maxRecDepth 100000 in
theorem TurnedTo.start (l : List UInt8) (k : Nat) : TurnedTo l k 0 l := ⟨rfl, fun j _ => by rw [if_neg (by omega)]⟩
set_option maxRecDepth 100000 in
theorem TurnedTo.step {l m : List UInt8} {k d : Nat} (h : TurnedTo l k d m) (hk : k + d < l.length) : TurnedTo l k (d + 1) (m.set (k + d) (m.getD (k + d) 0 ^^^ 0xa5)) := by
  refine ⟨by rw [List.length_set, h.1], fun j hj => ?_⟩
  have h1 := h.2 j hj
  by_cases e : j = k + d
  · subst e
    rw [if_neg (by omega)] at h1
    rw [if_pos (by omega), ← h1]
    simp [List.getD_eq_getElem?_getD, h.1, hk]
  · have : (m.set (k + d) (m.getD (k + d) 0 ^^^ 0xa5)).getD j 0 = m.getD j 0 := by
      simp [List.getD_eq_getElem?_getD, List.getElem?_set_ne (Ne.symm e)]
    rw [this, h1]
    by_cases a : k ≤ j ∧ j < k + d
    · rw [if_pos a, if_pos (by omega)]
    · rw [if_neg a, if_neg (by omega)]
set_option maxRecDepth 100000 in
theorem sum_ne (l m : List UInt8) (h : ∀ r, reg r m ≠ reg r l) : (u (CrcP.sum m) == u (CrcP.sum l)) = false := by
  rw [beq_eq_false_iff_ne]
  intro e
  have e2 : CrcP.sum m = CrcP.sum l := by
    apply BitVec.eq_of_toNat_eq
    unfold u at e; omega
  exact h _ (not_inj _ _ e2)
set_option maxRecDepth 100000 in
theorem xor165 (c : UInt8) : bits .xor .u8 (c.toNat : Int) 165 = ((c ^^^ 0xa5).toNat : Int) := by
  have := c.toNat_lt
  rw [show (165 : Int) = ((165 : Nat) : Int) from rfl, u8_xor_nat _ _ (by omega) (by decide), UInt8.toNat_xor]
  rfl

end Go.Proofs.YtdbfaknpfepnfaaGreatDoor

/-
  The walk of the document's Turned, and of the law CrcTurned.
-/
namespace Go.Proofs.YtdbfaknpfepnfaaGreatDoor
open Go.RowKit Go.Deep CrcP CodecP FrameP

set_option maxRecDepth 100000 in
theorem xor_pow (x n : Nat) (h : x < 2 ^ n) : x ^^^ 2 ^ n = x + 2 ^ n := by
  apply Nat.eq_of_testBit_eq
  intro i
  rw [Nat.testBit_xor, Nat.testBit_two_pow, Nat.add_comm]
  by_cases e : n = i
  · subst e
    rw [Nat.testBit_two_pow_add_eq, Nat.testBit_lt_two_pow h]; simp
  · by_cases h2 : i < n
    · rw [Nat.testBit_two_pow_add_gt h2]; simp [e]
    · have h3 : 2 ^ n + x < 2 ^ i := by
        have : 2 ^ (n + 1) ≤ 2 ^ i := Nat.pow_le_pow_right (by omega) (by omega)
        rw [Nat.pow_succ] at this; omega
      have h4 : x < 2 ^ i := by omega
      rw [Nat.testBit_lt_two_pow h3, Nat.testBit_lt_two_pow h4]; simp [e]
set_option maxRecDepth 100000 in
theorem xorNum_getD (l : List UInt8) : ∀ X j, j < l.length → (xorNum l X).getD j 0 = l.getD j 0 ^^^ UInt8.ofNat (X / 256 ^ j % 256) := by
  induction l with
  | nil => intro X j h; simp at h
  | cons c l ih =>
    intro X j h
    cases j with
    | zero => simp [xorNum]
    | succ j =>
      have := ih (X / 256) j (by simpa using h)
      rw [Nat.div_div_eq_div_mul, Nat.mul_comm 256, ← Nat.pow_succ] at this
      simpa [xorNum] using this
set_option maxRecDepth 100000 in
theorem xorNum_set (l : List UInt8) (X j t : Nat) (ht : t < 8) : (xorNum l X).set j ((xorNum l X).getD j 0 ^^^ UInt8.ofNat (2 ^ t)) = xorNum l (X ^^^ 2 ^ (8 * j + t)) := by
  apply List.ext_getElem?
  intro i
  by_cases hi : i < l.length
  · have e1 : ∀ m : List UInt8, m.length = l.length → m[i]? = some (m.getD i 0) := by
      intro m hm; rw [List.getD_eq_getElem?_getD, List.getElem?_eq_getElem (by omega)]; simp
    rw [e1 _ (by rw [List.length_set, xorNum_length]), e1 _ (xorNum_length _ _)]
    congr 1
    have hpow : 256 ^ i = 2 ^ (8 * i) := by rw [Nat.pow_mul]
    rw [xorNum_getD _ _ _ hi, hpow, Nat.xor_div_two_pow, ofNat8_xor]
    by_cases e : i = j
    · subst e
      have : ((xorNum l X).set i ((xorNum l X).getD i 0 ^^^ UInt8.ofNat (2 ^ t))).getD i 0 = (xorNum l X).getD i 0 ^^^ UInt8.ofNat (2 ^ t) := by
        simp [List.getD_eq_getElem?_getD, xorNum_length, hi]
      rw [this, xorNum_getD _ _ _ hi, hpow, UInt8.xor_assoc]
      congr 2
      have h2 : 2 ^ (8 * i + t) / 2 ^ (8 * i) = 2 ^ t := by rw [Nat.pow_add, Nat.mul_div_cancel_left _ (Nat.two_pow_pos _)]
      rw [h2, Nat.mod_eq_of_lt]
      have : 2 ^ t ≤ 2 ^ 7 := Nat.pow_le_pow_right (by omega) (by omega)
      omega
    · have : ((xorNum l X).set j ((xorNum l X).getD j 0 ^^^ UInt8.ofNat (2 ^ t))).getD i 0 = (xorNum l X).getD i 0 := by
        simp [List.getD_eq_getElem?_getD, List.getElem?_set_ne (Ne.symm e)]
      rw [this, xorNum_getD _ _ _ hi, hpow]
      have hz : 2 ^ (8 * j + t) / 2 ^ (8 * i) % 256 = 0 := by
        rcases Nat.lt_or_ge i j with h | h
        · have : 2 ^ (8 * j + t) = 2 ^ (8 * i) * (2 ^ (8 * (j - i - 1) + t) * 256) := by
            rw [show (256 : Nat) = 2 ^ 8 from rfl, ← Nat.pow_add, ← Nat.pow_add]; congr 1; omega
          rw [this, Nat.mul_div_cancel_left _ (Nat.two_pow_pos _), Nat.mul_mod_left]
        · have : 2 ^ (8 * j + t) < 2 ^ (8 * i) := Nat.pow_lt_pow_right (by omega) (by omega)
          rw [Nat.div_eq_of_lt this]
      rw [hz]; simp
  · rw [List.getElem?_eq_none (by rw [List.length_set, xorNum_length]; omega), List.getElem?_eq_none (by rw [xorNum_length]; omega)]
/-- Bytes with the first bits of a burst turned. -/
def turnTo (l : List UInt8) (k b i : Nat) : List UInt8 := xorNum l (2 ^ k * (b % 2 ^ i))
set_option maxRecDepth 100000 in
theorem turnTo_zero (l : List UInt8) (k b : Nat) : turnTo l k b 0 = l := by unfold turnTo; rw [Nat.pow_zero, Nat.mod_one, Nat.mul_zero, xorNum_zero]
set_option maxRecDepth 100000 in
theorem turnTo_length (l : List UInt8) (k b i : Nat) : (turnTo l k b i).length = l.length := xorNum_length _ _
set_option maxRecDepth 100000 in
theorem mod_succ (b i : Nat) : b % 2 ^ (i + 1) = b % 2 ^ i + 2 ^ i * (b / 2 ^ i % 2) := by
  rw [Nat.pow_succ, Nat.mod_mul]
set_option maxRecDepth 100000 in
theorem turnTo_no (l : List UInt8) (k b i : Nat) (h : b / 2 ^ i % 2 = 0) : turnTo l k b (i + 1) = turnTo l k b i := by
  unfold turnTo; rw [mod_succ, h]; simp
set_option maxRecDepth 100000 in
theorem turnTo_yes (l : List UInt8) (k b i : Nat) (h : b / 2 ^ i % 2 = 1) : turnTo l k b (i + 1) = (turnTo l k b i).set ((k + i) / 8) ((turnTo l k b i).getD ((k + i) / 8) 0 ^^^ UInt8.ofNat (2 ^ ((k + i) % 8))) := by
  unfold turnTo
  rw [xorNum_set _ _ _ _ (by omega), mod_succ, h, Nat.mul_one]
  congr 1
  have e : 8 * ((k + i) / 8) + (k + i) % 8 = k + i := by omega
  rw [e, Nat.mul_add, ← Nat.pow_add]
  refine (xor_pow _ _ ?_).symm
  rw [Nat.pow_add]
  exact Nat.mul_lt_mul_of_pos_left (Nat.mod_lt _ (Nat.two_pow_pos _)) (Nat.two_pow_pos _)
/-- All that a burst turns. -/
def turned (l : List UInt8) (k b : Nat) : List UInt8 := xorNum l (2 ^ k * b)
set_option maxRecDepth 100000 in
theorem turnTo_all (l : List UInt8) (k b i : Nat) (hb : b < 4294967296) (h : i = 32 ∨ (i ≤ 32 ∧ 8 * l.length ≤ k + i)) : turnTo l k b i = turned l k b := by
  unfold turnTo turned
  rcases h with rfl | ⟨_, h⟩
  · rw [Nat.mod_eq_of_lt (by simpa using hb)]
  · rw [xorNum_mod l (2 ^ k * (b % 2 ^ i)), xorNum_mod l (2 ^ k * b)]
    congr 1
    have e : 256 ^ l.length = 2 ^ (8 * l.length) := by rw [Nat.pow_mul]
    rw [e]
    have hd : ∃ c, 2 ^ k * 2 ^ i = 2 ^ (8 * l.length) * c := ⟨2 ^ (k + i - 8 * l.length), by rw [← Nat.pow_add, ← Nat.pow_add]; congr 1; omega⟩
    obtain ⟨c, hc⟩ := hd
    have : 2 ^ k * b = 2 ^ k * (b % 2 ^ i) + 2 ^ (8 * l.length) * (c * (b / 2 ^ i)) := by
      conv => lhs; rw [← Nat.mod_add_div b (2 ^ i)]
      rw [Nat.mul_add, ← Nat.mul_assoc (2 ^ k), hc, Nat.mul_assoc]
    rw [this, Nat.add_mul_mod_self_left]
set_option maxRecDepth 100000 in
theorem xor_shl (c : UInt8) (t : Nat) (ht : t < 8) : bits .xor .u8 (c.toNat : Int) ((2 : Int) ^ t % 256) = ((c ^^^ UInt8.ofNat (2 ^ t)).toNat : Int) := by
  have := c.toNat_lt
  have h : 2 ^ t < 256 := by
    have : 2 ^ t ≤ 2 ^ 7 := Nat.pow_le_pow_right (by omega) (by omega)
    omega
  have e : (2 : Int) ^ t % 256 = ((2 ^ t : Nat) : Int) := by
    rw [show (2 : Int) ^ t = ((2 ^ t : Nat) : Int) by simp]
    generalize 2 ^ t = q at *
    omega
  rw [e, u8_xor_nat _ _ (by omega) h, UInt8.toNat_xor, UInt8.toNat_ofNat', Nat.mod_eq_of_lt h]
set_option maxRecDepth 100000 in
theorem test5 (b i : Nat) : (((b : Int) / 2 ^ i).tmod 2 == 1) = (b / 2 ^ i % 2 == 1) := by
  have e2 : (b : Int) / 2 ^ i = ((b / 2 ^ i : Nat) : Int) := by simp
  rw [e2]
  generalize b / 2 ^ i = n
  rw [Int.tmod_eq_emod_of_nonneg (by omega), Bool.eq_iff_iff]
  simp only [beq_iff_eq]
  omega

set_option maxRecDepth 100000 in
set_option maxHeartbeats 1000000 in
theorem turned_any (s : ByteArray) (k b : Nat) (w : World) (hs : s.size ≤ 1000000) (hk : k ≤ 8 * s.size) (hb : b < 4294967296) :
    Calls Tryz.prog 36 #[.string s, .int .i64 k, .int .u32 b] w fun e w' => e = .returned (.string (str (turned (bl s) k b))) ∧ Below w.heap.size w w' := by
  have hcv := fun W => Lib.run_convert_string_bytes (P := Tryz.prog) W 9 94 5 s Tryz.underlying9 Tryz.underlying94 Tryz.underlying5
  have hlb : (bl s).length = s.size := rfl
  have HLB := Lib.hid hlb
  clear hlb
  go_enter Tryz.func36, Tryz.ntmps36
  go_wp2
  clear hcv
  have hrow0 := BRow.new (Below.refl w.heap.size w) s
  generalize Lib.bytesWorld w 5 s = W at *
  generalize grownCap w s.size 0 5 = cap at *
  go_loopw [8] (fun i wr => ∃ c : Nat, c ≤ 32 ∧ i = .int .i64 c ∧ BRow w wr w.heap.size (turnTo (bl s) k b c)) (fun i _ => 32 - (intOf i).toNat)
  case atStart => exact ⟨0, by omega, rfl, by rw [turnTo_zero]; exact hrow0⟩
  case round =>
    clear hrow0
    obtain ⟨c, hc, rfl, hrow⟩ := hrel
    by_cases hlt : c < 32 ∧ k + c < 8 * s.size
    · obtain ⟨hl1, hl2⟩ := hlt
      have hlen : (turnTo (bl s) k b c).length = s.size := by rw [turnTo_length]; exact HLB.out
      have c1 := hrow.cell ((k + c) / 8) (by omega)
      have f1 := hrow.free ((k + c) / 8) (by omega)
      have ht := test5 b c
      by_cases hbit : b / 2 ^ c % 2 = 1
      · have hx := xor_shl ((turnTo (bl s) k b c).getD ((k + c) / 8) 0) ((k + c) % 8) (by omega)
        have hset := hrow.set ((k + c) / 8) (by omega) ((turnTo (bl s) k b c).getD ((k + c) / 8) 0 ^^^ UInt8.ofNat (2 ^ ((k + c) % 8)))
        rw [← turnTo_yes (bl s) k b c hbit] at hset
        have hbb : (b / 2 ^ c % 2 == 1) = true := by rw [hbit]; rfl
        rw [hbb] at ht
        generalize (turnTo (bl s) k b c).getD ((k + c) / 8) 0 = x at *
        generalize x ^^^ UInt8.ofNat (2 ^ ((k + c) % 8)) = y at *
        have HSET := Lib.hid hset
        clear hset hrow hlen hbit hbb
        go_wp2
        go_region
        go_wp2
        go_roundw
        case rel => exact ⟨c + 1, by omega, by go_num, HSET.out.drew⟩
        case measure => simp [intOf]; omega
      · have hbb : (b / 2 ^ c % 2 == 1) = false := by simpa using hbit
        have hno := turnTo_no (bl s) k b c (by omega)
        rw [← hno] at hrow
        rw [hbb] at ht
        have HR := Lib.hid hrow
        clear hrow hno hbit hbb hlen c1 f1
        go_wp2
        go_roundw
        case rel => exact ⟨c + 1, by omega, by go_num, HR.out⟩
        case measure => simp [intOf]; omega
    · have hall := turnTo_all (bl s) k b c hb (by rw [HLB.out]; omega)
      rw [hall] at hrow
      have hlen : (turned (bl s) k b).length = s.size := by unfold turned; rw [xorNum_length]; exact HLB.out
      have hcvt := hrow.text cap
      rw [hlen] at hcvt
      have hbel := hrow.below
      clear hall hrow hlen
      by_cases h32 : c < 32
      · have h8 : ¬ k + c < 8 * s.size := by omega
        clear hlt
        go_wp2
        go_ret
        exact ⟨rfl, hbel⟩
      · clear hlt
        go_wp2
        go_ret
        exact ⟨rfl, hbel⟩

end Go.Proofs.YtdbfaknpfepnfaaGreatDoor

/-
  The walk of the document's Turned, and of the law CrcTurned.
-/
namespace Go.Proofs.YtdbfaknpfepnfaaGreatDoor
open Go.RowKit Go.Deep CrcP CodecP FrameP

end Go.Proofs.YtdbfaknpfepnfaaGreatDoor

/-
  The walk of the law CrcPieces.
-/
namespace Go.Proofs.YtdbfaknpfepnfaaGreatDoor
open Go.RowKit Go.Deep CrcP CodecP FrameP

def MixTo (a b c : List UInt8) (n i : Nat) (m : List UInt8) : Prop := m.length = n ∧ ∀ j, j < n → m.getD j 0 = if j < i then a.getD j 0 ^^^ b.getD j 0 ^^^ c.getD j 0 else a.getD j 0
set_option maxRecDepth 100000 in
theorem getD_take (l : List UInt8) (n j : Nat) (h : j < n) : (l.take n).getD j 0 = l.getD j 0 := by
  simp [List.getD_eq_getElem?_getD, h]
set_option maxRecDepth 100000 in
theorem MixTo.start (a b c : List UInt8) (n : Nat) (h : n ≤ a.length) : MixTo a b c n 0 (a.take n) :=
  ⟨by rw [List.length_take]; omega, fun j hj => by rw [if_neg (by omega), getD_take _ _ _ hj]⟩
set_option maxRecDepth 100000 in
theorem MixTo.step {a b c m : List UInt8} {n i : Nat} (h : MixTo a b c n i m) (hi : i < n) : MixTo a b c n (i + 1) (m.set i (a.getD i 0 ^^^ b.getD i 0 ^^^ c.getD i 0)) := by
  refine ⟨by rw [List.length_set, h.1], fun j hj => ?_⟩
  by_cases e : j = i
  · subst e
    rw [if_pos (by omega)]
    simp [List.getD_eq_getElem?_getD, h.1, hi]
  · have : (m.set i (a.getD i 0 ^^^ b.getD i 0 ^^^ c.getD i 0)).getD j 0 = m.getD j 0 := by
      simp [List.getD_eq_getElem?_getD, List.getElem?_set_ne (Ne.symm e)]
    rw [this, h.2 j hj]
    by_cases a1 : j < i
    · rw [if_pos a1, if_pos (by omega)]
    · rw [if_neg a1, if_neg (by omega)]
set_option maxRecDepth 100000 in
theorem MixTo.eq {a b c m : List UInt8} {n : Nat} (h : MixTo a b c n n m) (ha : n ≤ a.length) (hb : n ≤ b.length) (hc : n ≤ c.length) : m = xorL (xorL (a.take n) (b.take n)) (c.take n) := by
  have la : (a.take n).length = n := by rw [List.length_take]; omega
  have lb : (b.take n).length = n := by rw [List.length_take]; omega
  have lc : (c.take n).length = n := by rw [List.length_take]; omega
  have l1 : (xorL (a.take n) (b.take n)).length = n := by rw [xorL_length _ _ (by rw [la, lb]), la]
  have l2 : (xorL (xorL (a.take n) (b.take n)) (c.take n)).length = n := by rw [xorL_length _ _ (by rw [l1, lc]), l1]
  apply List.ext_getElem?
  intro j
  by_cases hj : j < n
  · have h1 := h.2 j hj
    rw [if_pos hj] at h1
    have e1 : m[j]? = some (m.getD j 0) := by rw [List.getD_eq_getElem?_getD, List.getElem?_eq_getElem (by rw [h.1]; exact hj)]; simp
    have e2 : (xorL (xorL (a.take n) (b.take n)) (c.take n))[j]? = some ((xorL (xorL (a.take n) (b.take n)) (c.take n)).getD j 0) := by rw [List.getD_eq_getElem?_getD, List.getElem?_eq_getElem (by rw [l2]; exact hj)]; simp
    rw [e1, e2, h1, xorL_get _ _ j (by rw [l1]; exact hj) (by rw [lc]; exact hj), xorL_get _ _ j (by rw [la]; exact hj) (by rw [lb]; exact hj), getD_take _ _ _ hj, getD_take _ _ _ hj, getD_take _ _ _ hj]
  · rw [List.getElem?_eq_none (by rw [h.1]; omega), List.getElem?_eq_none (by rw [l2]; omega)]
set_option maxRecDepth 100000 in
theorem not3 (a b c : BitVec 32) : ~~~a ^^^ ~~~b ^^^ ~~~c = ~~~(a ^^^ b ^^^ c) := by
  apply BitVec.eq_of_getLsbD_eq
  intro i hi
  simp only [BitVec.getLsbD_xor, BitVec.getLsbD_not, hi, decide_true, Bool.true_and]
  cases a.getLsbD i <;> cases b.getLsbD i <;> cases c.getLsbD i <;> rfl
set_option maxRecDepth 100000 in
theorem sum_three (a b c : List UInt8) (h1 : a.length = b.length) (h2 : a.length = c.length) : CrcP.sum (xorL (xorL a b) c) = CrcP.sum a ^^^ CrcP.sum b ^^^ CrcP.sum c := by
  unfold CrcP.sum CrcP.more
  rw [not3]
  congr 1
  generalize ~~~(0#32 : BitVec 32) = o
  have e : o = o ^^^ o ^^^ o := by rw [BitVec.xor_self, BitVec.zero_xor]
  rw [← reg_xor _ _ _ _ h1, ← reg_xor _ _ _ _ (by rw [xorL_length _ _ h1]; exact h2)]
  rw [← e]
set_option maxRecDepth 100000 in
theorem getD_bl (s : ByteArray) (i : Nat) (h : i < s.size) : (bl s).getD i 0 = s[i] := by
  have : i < (bl s).length := h
  rw [List.getD_eq_getElem?_getD, List.getElem?_eq_getElem this]
  rfl
set_option maxRecDepth 100000 in
theorem xor8 (a b : UInt8) : bits .xor .u8 (a.toNat : Int) (b.toNat : Int) = ((a ^^^ b).toNat : Int) := by
  rw [u8_xor_nat _ _ a.toNat_lt b.toNat_lt, UInt8.toNat_xor]

end Go.Proofs.YtdbfaknpfepnfaaGreatDoor

/-
  The walk of the law CrcPieces: the main road.
-/
namespace Go.Proofs.YtdbfaknpfepnfaaGreatDoor
open Go.RowKit Go.Deep CrcP CodecP FrameP

set_option maxRecDepth 100000 in
theorem bl_take (a : ByteArray) (n : Nat) : bl (a.extract 0 n) = (bl a).take n := by rw [ext_bl]; simp
end Go.Proofs.YtdbfaknpfepnfaaGreatDoor

/-
  The walk of the law CodecBack.
-/
namespace Go.Proofs.YtdbfaknpfepnfaaGreatDoor
open Go.RowKit CodecP

set_option maxRecDepth 100000 in
theorem grp_pos (n : Nat) : 1 ≤ (grp n).length := by unfold grp groups; split <;> simp
end Go.Proofs.YtdbfaknpfepnfaaGreatDoor

/-
  The walks of the document's Groups, Take, Number.
-/
namespace Go.Proofs.YtdbfaknpfepnfaaGreatDoor
open Go.RowKit CodecP

set_option maxRecDepth 100000 in
theorem one_str (x : Nat) : strOfNums [(x : Int)] = str [UInt8.ofNat x] := by
  unfold strOfNums str
  simp only [List.map_cons, List.map_nil, Int.toNat_natCast]
set_option maxRecDepth 100000 in
theorem conv_one (W : World) (x : Nat) : (convert 94 9 (.slice (some ⟨W.heap.size, 0, none⟩) 1 1)).run Tryz.prog (W.alloc (.cells #[.int .u8 (x : Int)] 5)) = .ok (.string (str [UInt8.ofNat x])) (W.alloc (.cells #[.int .u8 (x : Int)] 5)) := by
  have hcv := run_convert_bytes_arg (P := Tryz.prog) (w := W.alloc (.cells #[.int .u8 (x : Int)] 5)) 94 5 Tryz.underlying94 Tryz.underlying5 W.heap.size 0 1 1 [(x : Int)] rfl
    (fun i hi => by obtain rfl : i = 0 := by omega
                    simp) 9 Tryz.underlying9
  rw [one_str] at hcv
  exact hcv
set_option maxRecDepth 100000 in
theorem conv_mid {W w1 : World} {x : Nat} (hb : Below (W.alloc (.cells #[.int .u8 (x : Int)] 5)).heap.size (W.alloc (.cells #[.int .u8 (x : Int)] 5)) w1) : (convert 94 9 (.slice (some ⟨W.heap.size, 0, none⟩) 1 1)).run Tryz.prog w1 = .ok (.string (str [UInt8.ofNat x])) w1 := by
  have hcv := run_convert_bytes_arg (P := Tryz.prog) (w := w1) 94 5 Tryz.underlying94 Tryz.underlying5 W.heap.size 0 1 1 [(x : Int)] rfl
    (fun i hi => by
      obtain rfl : i = 0 := by omega
      rw [Nat.zero_add, hb.cell (p := ⟨W.heap.size, 0, none⟩) (by show W.heap.size < (W.heap.push _).size; simp)]
      simp) 9 Tryz.underlying9
  rw [one_str] at hcv
  exact hcv
set_option maxRecDepth 100000 in
theorem conv_oneD (W : World) (x : Nat) : (convert 94 9 (.slice (some ⟨W.heap.size, 0, none⟩) 1 1)).run Tryz.prog (W.alloc (.cells #[.int .u8 (x : Int)] 5)).drew = .ok (.string (str [UInt8.ofNat x])) (W.alloc (.cells #[.int .u8 (x : Int)] 5)).drew := conv_one W.drew x
set_option maxRecDepth 100000 in
theorem conv_midD {W w1 : World} {x : Nat} (hb : Below (W.alloc (.cells #[.int .u8 (x : Int)] 5)).drew.heap.size (W.alloc (.cells #[.int .u8 (x : Int)] 5)).drew w1) : (convert 94 9 (.slice (some ⟨W.heap.size, 0, none⟩) 1 1)).run Tryz.prog w1 = .ok (.string (str [UInt8.ofNat x])) w1 := conv_mid (W := W.drew) hb
set_option maxRecDepth 100000 in
theorem belA {W w1 : World} {o : Obj} (hb : Below (W.alloc o).drew.heap.size (W.alloc o).drew w1) : Below W.heap.size W w1 :=
  have h0 : Below W.heap.size W (W.alloc o).drew := ((Below.refl W.heap.size W).alloc (Nat.le_refl _) o).drew
  h0.trans (hb.mono h0.size)
set_option maxRecDepth 100000 in
theorem belB {W w1 : World} (hb : Below W.drew.heap.size W.drew w1) : Below W.heap.size W w1 := ⟨hb.os, hb.tape, hb.output, hb.size, hb.block⟩
set_option maxRecDepth 100000 in
theorem belC {W w1 : World} {o : Obj} (hb : Below W.drew.heap.size W.drew w1) : Below W.heap.size W (w1.alloc o) := (belB hb).alloc (belB hb).size o
set_option maxRecDepth 100000 in
theorem refGroups_low (f n : Nat) (w : World) (h : n < 128) :
    Calls Tryz.prog 72 #[.int .u64 n] w fun e w' => e = .returned (.string (str (groups f n))) ∧ Below w.heap.size w w' := by
  rw [groups_low f n h]
  have hcv := run_convert_bytes_arg (P := Tryz.prog) (w := w.alloc (.cells #[.int .u8 (n : Int)] 5)) 94 5 Tryz.underlying94 Tryz.underlying5 w.heap.size 0 1 1 [(n : Int)] rfl
    (fun i hi => by obtain rfl : i = 0 := by omega
                    simp) 9 Tryz.underlying9
  rw [one_str] at hcv
  have q1 : decide ((n : Int) < 128) = true := by rw [decide_eq_true_eq]; omega
  have q2 : (n : Int) % 256 = (n : Int) := by omega
  have hbel := (Below.refl w.heap.size w).alloc (Nat.le_refl _) (.cells #[.int .u8 (n : Int)] 5)
  clear h
  generalize str [UInt8.ofNat n] = S at *
  go_enter Tryz.func72, Tryz.ntmps72
  go_wp2
  go_ret
  exact ⟨rfl, hbel⟩
set_option maxRecDepth 100000 in
theorem refGroups_f (f : Nat) : ∀ (n : Nat) (w : World), f ≤ 100000 → n < 18446744073709551616 → n < 2 ^ (7 * f + 1) →
    Calls Tryz.prog 72 #[.int .u64 n] w fun e w' => e = .returned (.string (str (groups f n))) ∧ Below w.heap.size w w' := by
  induction f with
  | zero =>
    intro n w hf hn hm
    exact refGroups_low 0 n w (by have : n < 2 := by simpa using hm
                                  omega)
  | succ f ih =>
    intro n w hf hn hm
    by_cases hlt : n < 128
    · exact refGroups_low (f + 1) n w hlt
    · have hm2 : n / 128 < 2 ^ (7 * f + 1) := by
        rw [Nat.div_lt_iff_lt_mul (by omega)]
        rw [show 7 * (f + 1) + 1 = (7 * f + 1) + 7 by omega, Nat.pow_add] at hm
        exact hm
      have IH := fun W => ih (n / 128) W (by omega) (by omega) hm2
      have hcv := fun W => conv_one W (n % 128 + 128)
      have q1 : decide ((n : Int) < 128) = false := by rw [decide_eq_false_iff_not]; omega
      have hap := str_append [UInt8.ofNat (n % 128 + 128)] (groups f (n / 128))
      rw [List.singleton_append, ← groups_high f n hlt] at hap
      have hsz : (str [UInt8.ofNat (n % 128 + 128)]).size + (str (groups f (n / 128))).size ≤ 1000000 := by
        rw [str_size, str_size]
        have := groups_length f (n / 128)
        simp only [List.length_singleton]; omega
      have HIH := Lib.hid IH
      have HAP := Lib.hid hap
      have ht1 : (n : Int).tmod 128 = ((n % 128 : Nat) : Int) := by rw [Int.tmod_eq_emod_of_nonneg (by omega)]; omega
      have hw1 : IntKind.u8.wrap ((n % 128 : Nat) : Int) = ((n % 128 : Nat) : Int) := IntWalk.u8_in _ (by omega)
      have hw2 : IntKind.u8.wrap (((n % 128 : Nat) : Int) + 128) = ((n % 128 + 128 : Nat) : Int) := by rw [IntWalk.u8_in _ (by omega)]; omega
      have hw3 : IntKind.u64.wrap ((n : Int) / 128) = ((n / 128 : Nat) : Int) := by rw [IntKind.wrap_u64]; omega
      have hcvd := fun W => conv_oneD W (n % 128 + 128)
      have hbd := Below.refl w.heap.size w
      clear IH ih hm hm2 hlt hap hn
      generalize n % 128 + 128 = y at *
      generalize n % 128 = x at *
      generalize n / 128 = q at *
      have hcat : ¬ 9223372036854775807 < (str [UInt8.ofNat y]).size + (str (groups f q)).size := by omega
      clear hsz
      generalize str (groups f q) = G at *
      go_enter Tryz.func72, Tryz.ntmps72
      go_wp2_with fail
      go_region_with (go_at_call 72; refine (HIH.out _).mono ?_; rintro e w1 ⟨rfl, hb1⟩; first | have hmid := conv_mid hb1 | have hmid := conv_midD hb1 | skip)
      all_goals
        go_wp2
        go_ret
        refine ⟨by rw [← HAP.out]; rfl, ?_⟩
        first | exact belA hb1 | exact belC hb1 | exact belB hb1
set_option maxRecDepth 100000 in
theorem refGroups_any (n : Nat) (w : World) (hn : n < 18446744073709551616) :
    Calls Tryz.prog 72 #[.int .u64 n] w fun e w' => e = .returned (.string (str (grp n))) ∧ Below w.heap.size w w' :=
  refGroups_f 9 n w (by decide) hn (by simpa using hn)
end Go.Proofs.YtdbfaknpfepnfaaGreatDoor

/-
  The document's Take: the plain law and the walk; Number.
-/
namespace Go.Proofs.YtdbfaknpfepnfaaGreatDoor
open Go.RowKit CodecP

def lowv : List UInt8 → Nat
  | [] => 0
  | c :: l => c.toNat % 128 + 128 * lowv l
set_option maxRecDepth 100000 in
theorem lowv_groups (f : Nat) : ∀ n, n < 2 ^ (7 * f + 1) → lowv (groups f n) = n := by
  induction f with
  | zero => intro n h; have : n < 2 := by simpa using h
            simp only [groups, lowv, UInt8.toNat_ofNat']; omega
  | succ f ih =>
    intro n h
    by_cases hlt : n < 128
    · rw [groups_low _ _ hlt]; simp only [lowv, UInt8.toNat_ofNat']; omega
    · rw [groups_high _ _ hlt]
      have hm2 : n / 128 < 2 ^ (7 * f + 1) := by
        rw [Nat.div_lt_iff_lt_mul (by omega)]
        rw [show 7 * (f + 1) + 1 = (7 * f + 1) + 7 by omega, Nat.pow_add] at h
        exact h
      simp only [lowv, UInt8.toNat_ofNat', ih _ hm2]; omega
set_option maxRecDepth 100000 in
/-- All but the last are at least 128, the last is less. -/
theorem groups_form (f : Nat) : ∀ n, n < 2 ^ (7 * f + 1) → ∃ l c, groups f n = l ++ [c] ∧ (∀ x ∈ l, 128 ≤ x.toNat) ∧ c.toNat < 128 ∧ l.length ≤ f := by
  induction f with
  | zero => intro n h; have : n < 2 := by simpa using h
            exact ⟨[], UInt8.ofNat n, rfl, by simp, by rw [UInt8.toNat_ofNat']; omega, by simp⟩
  | succ f ih =>
    intro n h
    by_cases hlt : n < 128
    · exact ⟨[], UInt8.ofNat n, by rw [groups_low _ _ hlt]; rfl, by simp, by rw [UInt8.toNat_ofNat']; omega, by simp⟩
    · have hm2 : n / 128 < 2 ^ (7 * f + 1) := by
        rw [Nat.div_lt_iff_lt_mul (by omega)]
        rw [show 7 * (f + 1) + 1 = (7 * f + 1) + 7 by omega, Nat.pow_add] at h
        exact h
      obtain ⟨l, c, e, h1, h2, h3⟩ := ih _ hm2
      refine ⟨UInt8.ofNat (n % 128 + 128) :: l, c, by rw [groups_high _ _ hlt, e]; rfl, ?_, h2, by simpa using h3⟩
      intro x hx
      rcases List.mem_cons.1 hx with rfl | hx
      · rw [UInt8.toNat_ofNat']; omega
      · exact h1 x hx
/-- What the document's Take answers. -/
def takeR (l : List UInt8) : Nat × Nat := match tk 0 l with
  | none => (0, 0)
  | some (n, r) => (n, l.length - r.length)
set_option maxRecDepth 100000 in
/-- At the first byte below 128, or the tenth. -/
theorem takeR_at (l : List UInt8) (k : Nat) (hk : k < 10) (hkl : k < l.length) (hb : ∀ j, j < k → 128 ≤ (l.getD j 0).toNat) (he : (l.getD k 0).toNat < 128 ∨ k = 9) :
    takeR l = if grp (lowv (l.take (k + 1)) % 18446744073709551616) = l.take (k + 1) then (lowv (l.take (k + 1)) % 18446744073709551616, k + 1) else (0, 0) := by
  by_cases hg : grp (lowv (l.take (k + 1)) % 18446744073709551616) = l.take (k + 1)
  · rw [if_pos hg]
    have h1 := tk_grp (lowv (l.take (k + 1)) % 18446744073709551616) (l.drop (k + 1)) (Nat.mod_lt _ (by omega))
    rw [hg, List.take_append_drop] at h1
    unfold takeR
    rw [h1]
    simp only [List.length_drop]
    congr 1
    omega
  · rw [if_neg hg]
    unfold takeR
    cases ht : tk 0 l with
    | none => rfl
    | some y =>
      exfalso
      obtain ⟨m, r⟩ := y
      obtain ⟨e, hm⟩ := grp_tk m _ _ ht
      obtain ⟨q, c, eq, h1, h2, h3⟩ := groups_form 9 m hm
      have eg : grp m = q ++ [c] := eq
      have hlen : (grp m).length = q.length + 1 := by rw [eg]; simp
      have hqk : q.length = k := by
        rcases Nat.lt_trichotomy q.length k with h | h | h
        · have := hb q.length h
          rw [e, eg] at this
          simp at this; omega
        · exact h
        · rcases he with he | he
          · have hkq : l.getD k 0 = q.getD k 0 := by
              rw [e, eg, List.append_assoc, List.getD_eq_getElem?_getD, List.getD_eq_getElem?_getD, List.getElem?_append_left h]
            have : q.getD k 0 ∈ q := by
              rw [List.getD_eq_getElem?_getD, List.getElem?_eq_getElem h]; simp
            have := h1 _ this
            rw [← hkq] at this; omega
          · omega
      have htk : l.take (k + 1) = grp m := by rw [e]; exact List.take_left' (by rw [hlen, hqk])
      apply hg
      rw [htk]
      have hl : lowv (grp m) = m := lowv_groups 9 m hm
      rw [hl, Nat.mod_eq_of_lt hm]
set_option maxRecDepth 100000 in
theorem takeR_out (l : List UInt8) (hb : ∀ j, j < l.length → 128 ≤ (l.getD j 0).toNat) : takeR l = (0, 0) := by
  unfold takeR
  cases ht : tk 0 l with
  | none => rfl
  | some y =>
    exfalso
    obtain ⟨m, r⟩ := y
    obtain ⟨e, hm⟩ := grp_tk m _ _ ht
    obtain ⟨q, c, eq, h1, h2, h3⟩ := groups_form 9 m hm
    have eg : grp m = q ++ [c] := eq
    have := hb q.length (by rw [e, eg]; simp)
    rw [e, eg] at this
    simp at this; omega
end Go.Proofs.YtdbfaknpfepnfaaGreatDoor

/-
  The walk of the document's Take.
-/
namespace Go.Proofs.YtdbfaknpfepnfaaGreatDoor
open Go.RowKit CodecP

set_option maxRecDepth 100000 in
theorem lowv_drop (l : List UInt8) (k i : Nat) (hi : i < k) (hk : k ≤ l.length) : lowv ((l.take k).drop i) = (l.getD i 0).toNat % 128 + 128 * lowv ((l.take k).drop (i + 1)) := by
  have h : i < (l.take k).length := by rw [List.length_take]; omega
  rw [List.drop_eq_getElem_cons h, lowv]
  congr 3
  rw [List.getElem_take, List.getD_eq_getElem?_getD, List.getElem?_eq_getElem (by omega)]; rfl
set_option maxRecDepth 100000 in
set_option maxHeartbeats 1000000 in
theorem refTake_any (s : ByteArray) (w : World) (hs : s.size ≤ maxLen) :
    Calls Tryz.prog 139 #[.string s] w fun e w' => e = .returned (.tuple #[.int .u64 ((takeR (bl s)).1 : Nat), .int .i64 ((takeR (bl s)).2 : Nat)]) ∧ Below w.heap.size w w' := by
  unfold maxLen at hs
  have hbel0 := Below.refl w.heap.size w
  go_enter Tryz.func139, Tryz.ntmps139
  go_wp2
  go_loopw [4] (fun c wr => ∃ k : Nat, k ≤ 9 ∧ k ≤ s.size ∧ c = .int .i64 ((k : Int) + 1) ∧ (∀ j, j < k → 128 ≤ ((bl s).getD j 0).toNat) ∧ wr = w) (fun c _ => 10 - (intOf c).toNat)
  case atStart => exact ⟨0, by omega, by omega, rfl, fun j hj => by omega, rfl⟩
  case round =>
    obtain ⟨k, hk9, hks, rfl, hj, rfl⟩ := hrel
    have HJ := Lib.hid hj
    have g1 : (k : Int) + 1 ≤ 10 := by omega
    clear hj
    by_cases hlt : k < s.size
    · have g2 : (k : Int) + 1 ≤ (s.size : Int) := by omega
      have hgd := getD_bl s k hlt
      obtain ⟨x, hx⟩ : ∃ x, x = (s[k]).toNat := ⟨_, rfl⟩
      have hx' : ((s[k]).toNat : Int) = (x : Int) := by rw [hx]
      have HX := Lib.hid hx
      have HGD := Lib.hid hgd
      have hxl : x < 256 := by rw [hx]; exact (s[k]).toNat_lt
      clear hx hgd
      by_cases hc : 128 ≤ x ∧ k < 9
      · have q1 : decide ((128 : Int) ≤ (x : Int)) = true := by rw [decide_eq_true_eq]; omega
        have q2 : decide ((k : Int) + 1 < 10) = true := by rw [decide_eq_true_eq]; omega
        have hst : ∀ j, j < k + 1 → 128 ≤ ((bl s).getD j 0).toNat := fun j hj => by
          rcases Nat.lt_or_eq_of_le (Nat.le_of_lt_succ hj) with h | h
          · exact HJ.out j h
          · rw [h, HGD.out, ← HX.out]; exact hc.1
        have HST := Lib.hid hst
        have hk8 := hc.2
        clear hst hc
        go_wp2
        go_roundw
        case rel => exact ⟨k + 1, by omega, by omega, by push_cast; rfl, HST.out, by first | trivial | rfl⟩
        case measure => simp [intOf]; omega
      · have hta := takeR_at (bl s) k (by omega) hlt HJ.out (by rw [HGD.out, ← HX.out]; omega)
        have HTA := Lib.hid hta
        clear hta
        have hcase : (decide ((128 : Int) ≤ (x : Int)) = true ∧ decide ((k : Int) + 1 < 10) = false) ∨ (decide ((128 : Int) ≤ (x : Int)) = false ∧ True) := by
          by_cases hx128 : 128 ≤ x
          · exact .inl ⟨by rw [decide_eq_true_eq]; omega, by rw [decide_eq_false_iff_not]; omega⟩
          · exact .inr ⟨by rw [decide_eq_false_iff_not]; omega, trivial⟩
        clear hc
        have hdr0 : lowv (((bl s).take (k + 1)).drop (k + 1)) % 18446744073709551616 = 0 := by
          rw [List.drop_of_length_le (by rw [List.length_take]; omega)]; rfl
        have HDR0 := Lib.hid hdr0
        clear hdr0
        rcases hcase with ⟨q1, q2⟩ | ⟨q1, _⟩
        all_goals
          go_wp2
          go_loopw [5, 6] (fun n i wr2 => ∃ m : Nat, m ≤ k + 1 ∧ i = .int .i64 ((m : Int) - 1) ∧ n = .int .u64 ((lowv (((bl s).take (k + 1)).drop m) % 18446744073709551616 : Nat) : Int) ∧ wr2 = wr) (fun _ i _ => (intOf i + 1).toNat)
          case atStart => exact ⟨k + 1, by omega, by go_num, by rw [HDR0.out]; rfl, rfl⟩
          case round =>
            obtain ⟨m, hm, rfl, rfl, rfl⟩ := hrel
            by_cases hm0 : m = 0
            · subst hm0
              rw [List.drop_zero]
              have hN : lowv ((bl s).take (k + 1)) % 18446744073709551616 < 18446744073709551616 := Nat.mod_lt _ (by omega)
              have HG := Lib.hid (fun W => refGroups_any (lowv ((bl s).take (k + 1)) % 18446744073709551616) W hN)
              have hcmp := ne_str (str (grp (lowv ((bl s).take (k + 1)) % 18446744073709551616))) (s.extract 0 (k + 1))
              rw [bl_str, bl_take] at hcmp
              have HNN := Lib.hid hN
              clear hN
              generalize lowv ((bl s).take (k + 1)) % 18446744073709551616 = N at *
              have g3 : ((k + 1 : Nat) : Int) ≤ (s.size : Int) := by omega
              by_cases hg : grp N = (bl s).take (k + 1)
              · have hta := HTA.out
                rw [if_pos hg] at hta
                have HT := Lib.hid hta
                have r1 : ((str (grp N)).toList == (s.extract 0 (k + 1)).toList) = true := by rw [hcmp]; simp [hg]
                have r2 : ((str (grp N)).toList != (s.extract 0 (k + 1)).toList) = false := by rw [bne, r1]; rfl
                clear hg hcmp HTA hta
                generalize str (grp N) = GS at *
                go_wp2_with fail
                go_region_with (go_at_call 72; refine (HG.out _).mono ?_; rintro e w1 ⟨rfl, hb1⟩)
                all_goals
                  go_wp2
                  go_ret2
                  exact ⟨by rw [HT.out]; rfl, belB hb1⟩
              · have hta := HTA.out
                rw [if_neg hg] at hta
                have HT := Lib.hid hta
                have r1 : ((str (grp N)).toList == (s.extract 0 (k + 1)).toList) = false := by rw [hcmp]; simp [hg]
                have r2 : ((str (grp N)).toList != (s.extract 0 (k + 1)).toList) = true := by rw [bne, r1]; rfl
                clear hg hcmp HTA hta
                generalize str (grp N) = GS at *
                go_wp2_with fail
                go_region_with (go_at_call 72; refine (HG.out _).mono ?_; rintro e w1 ⟨rfl, hb1⟩)
                all_goals
                  go_wp2
                  go_ret2
                  exact ⟨by rw [HT.out]; rfl, belB hb1⟩
            · obtain ⟨i, rfl⟩ : ∃ i, m = i + 1 := ⟨m - 1, by omega⟩
              have hil : i < s.size := by omega
              have hld := lowv_drop (bl s) (k + 1) i (by omega) hlt
              rw [getD_bl s i hil] at hld
              obtain ⟨y, hy⟩ : ∃ y, y = (s[i]).toNat := ⟨_, rfl⟩
              have hy' : ((s[i]).toNat : Int) = (y : Int) := by rw [hy]
              have hyl : y < 256 := by rw [hy]; exact (s[i]).toNat_lt
              rw [← hy] at hld
              generalize lowv (((bl s).take (k + 1)).drop (i + 1)) = V at *
              have hnew : IntKind.u64.wrap (IntKind.u64.wrap (128 * ((V % 18446744073709551616 : Nat) : Int)) + ((y % 128 : Nat) : Int)) = ((lowv (((bl s).take (k + 1)).drop i) % 18446744073709551616 : Nat) : Int) := by
                rw [hld, IntKind.wrap_u64, IntKind.wrap_u64]; omega
              have HLD := Lib.hid hld
              have HNEW := Lib.hid hnew
              clear hld hnew hy
              have g4 : (0 : Int) ≤ (i : Int) := by omega
              have g5 : (i : Int) < (s.size : Int) := by omega
              go_wp2
              go_roundw
              case rel =>
                refine ⟨i, by omega, by go_num, ?_, by first | trivial | rfl⟩
                rw [← HNEW.out, show ((V % 18446744073709551616 : Nat) : Int) = (V : Int) % 18446744073709551616 by omega, show ((y % 128 : Nat) : Int) = (y : Int) % 128 by omega]
              case measure => simp [intOf]
    · obtain rfl : k = s.size := by omega
      have hto := takeR_out (bl s) HJ.out
      have HTO := Lib.hid hto
      have g2 : ¬ (s.size : Int) + 1 ≤ (s.size : Int) := by omega
      clear hto
      go_wp2
      go_ret2
      exact ⟨by rw [HTO.out]; rfl, hbel0⟩
end Go.Proofs.YtdbfaknpfepnfaaGreatDoor

/-
  The walk of the document's Number; the law CodecSizes.
-/
namespace Go.Proofs.YtdbfaknpfepnfaaGreatDoor
open Go.RowKit CodecP

set_option maxRecDepth 100000 in
/-- What Take and a reader's groups tell of each other. -/
theorem take_tk (s : ByteArray) : (∃ n r, takeR (bl s) = (n, s.size - r.length) ∧ tkI 0 0 s false = (n, some r) ∧ n < 18446744073709551616 ∧ r.length < s.size) ∨ (takeR (bl s) = (0, 0) ∧ tkI 0 0 s false = (0, none)) := by
  unfold takeR tkI
  rw [if_neg (by simp)]
  cases h : tk 0 (bl s) with
  | none => right; exact ⟨rfl, rfl⟩
  | some y =>
    left
    obtain ⟨n, r⟩ := y
    obtain ⟨e, hn⟩ := grp_tk n _ _ h
    have hl := congrArg List.length e
    rw [List.length_append, show (bl s).length = s.size from rfl] at hl
    have := grp_pos n
    exact ⟨n, r, rfl, by simp, by simpa using hn, by omega⟩
set_option maxRecDepth 100000 in
theorem ROwn.other {w0 w w' : World} {p q : Nat} {o o' : Option (List UInt8)} (h : ROwn w0 w q o) (hp : w0.heap.size ≤ p) (k : RdTo w w' p o') (hne : q ≠ p) : ROwn w0 w' q o := by
  obtain ⟨s1, b1, _, _, hf⟩ := k
  obtain ⟨s, b, hr, hs⟩ := h.rd
  exact ⟨⟨s, b, hr.keep hf hne, hs⟩, h.below.trans (hf.below h.below.size (fun k _ hk => by unfold RdS at hk; rw [hk]; exact hp)), h.base⟩
set_option maxRecDepth 100000 in
theorem ROwn.keep {w0 w w' : World} {p : Nat} {o : Option (List UInt8)} (h : ROwn w0 w p o) (hb : Below w.heap.size w w') : ROwn w0 w' p o := by
  obtain ⟨s, b, hr, hs⟩ := h.rd
  exact ⟨⟨s, b, hr.keep (Fr.of_below (fun _ => False) hb) (fun h => h), hs⟩, h.below.trans (hb.mono h.below.size), h.base⟩
set_option maxRecDepth 100000 in
theorem ROwn.lt {w0 w : World} {p : Nat} {o : Option (List UInt8)} (h : ROwn w0 w p o) : p < w.heap.size := by
  obtain ⟨s, b, hr, _⟩ := h.rd
  exact lt_of_block hr.1
end Go.Proofs.YtdbfaknpfepnfaaGreatDoor

/-
  The walk of the law CodecSizes.
-/
namespace Go.Proofs.YtdbfaknpfepnfaaGreatDoor
open Go.RowKit CodecP

end Go.Proofs.YtdbfaknpfepnfaaGreatDoor

/-
  The walks of the document's Signed, Fixed, Text.
-/
namespace Go.Proofs.YtdbfaknpfepnfaaGreatDoor
open Go.RowKit CodecP

end Go.Proofs.YtdbfaknpfepnfaaGreatDoor

/-
  Plain mathematics: pairs, packed.
-/
namespace Go.Proofs.YtdbfaknpfepnfaaGreatDoor
open CodecP

set_option maxRecDepth 100000 in
theorem snocInd {α : Type} {P : List α → Prop} (h0 : P []) (h1 : ∀ l c, P l → P (l ++ [c])) (l : List α) : P l := by
  rw [← List.reverse_reverse l]
  induction l.reverse with
  | nil => exact h0
  | cons c r ih => rw [List.reverse_cons]; exact h1 _ _ ih
/-- A key with its value. -/
abbrev Pr := List UInt8 × List UInt8
/-- How many first bytes two texts have in common. -/
def cmn : List UInt8 → List UInt8 → Nat
  | a :: a1, b :: b1 => if a = b then cmn a1 b1 + 1 else 0
  | [], _ => 0
  | _ :: _, [] => 0
set_option maxRecDepth 100000 in
theorem cmn_le : ∀ a b : List UInt8, cmn a b ≤ a.length ∧ cmn a b ≤ b.length
  | [], b => by simp [cmn]
  | a :: a1, [] => by simp [cmn]
  | a :: a1, b :: b1 => by
    have := cmn_le a1 b1
    unfold cmn
    split <;> simp <;> omega
set_option maxRecDepth 100000 in
theorem cmn_take : ∀ a b : List UInt8, a.take (cmn a b) = b.take (cmn a b)
  | [], b => by simp [cmn]
  | a :: a1, [] => by simp [cmn]
  | a :: a1, b :: b1 => by
    have := cmn_take a1 b1
    unfold cmn
    split
    · rename_i h; rw [List.take_succ_cons, List.take_succ_cons, this, h]
    · simp
set_option maxRecDepth 100000 in
/-- How far two texts are alike, told byte by byte. -/
theorem cmn_is : ∀ (a b : List UInt8) (n : Nat), n ≤ a.length → n ≤ b.length → (∀ j, j < n → a[j]? = b[j]?) → (n = a.length ∨ n = b.length ∨ a[n]? ≠ b[n]?) → cmn a b = n
  | [], b, n, h1, _, _, _ => by simp at h1; subst h1; simp [cmn]
  | a :: a1, [], n, _, h2, _, _ => by simp at h2; subst h2; simp [cmn]
  | a :: a1, b :: b1, 0, _, _, _, h4 => by
    unfold cmn
    rw [if_neg]
    intro h
    rcases h4 with h4 | h4 | h4
    · simp at h4
    · simp at h4
    · simp [h] at h4
  | a :: a1, b :: b1, n + 1, h1, h2, h3, h4 => by
    have h0 := h3 0 (by omega)
    simp at h0
    unfold cmn
    rw [if_pos h0, cmn_is a1 b1 n (by simpa using h1) (by simpa using h2) (fun j hj => by have := h3 (j + 1) (by omega); simpa using this) (by
      rcases h4 with h4 | h4 | h4
      · left; simpa using h4
      · right; left; simpa using h4
      · right; right; simpa using h4)]
/-- A pair, laid. -/
def ent (same : Nat) (p : Pr) : List UInt8 := grp same ++ grp (p.1.length - same) ++ grp p.2.length ++ p.1.drop same ++ p.2
def sameOf (i : Nat) (last k : List UInt8) : Nat := if i % 8 = 0 then 0 else cmn last k
set_option maxRecDepth 100000 in
theorem sameOf_le (i : Nat) (last k : List UInt8) : sameOf i last k ≤ last.length ∧ sameOf i last k ≤ k.length := by
  unfold sameOf
  split
  · omega
  · exact cmn_le last k
def datF : Nat → List UInt8 → List Pr → List UInt8
  | _, _, [] => []
  | i, last, p :: r => ent (sameOf i last p.1) p ++ datF (i + 1) p.1 r
/-- The places of restarts. -/
def rstF : Nat → Nat → List UInt8 → List Pr → List Nat
  | _, _, _, [] => []
  | i, at_, last, p :: r => (if i % 8 = 0 then [at_] else []) ++ rstF (i + 1) (at_ + (ent (sameOf i last p.1) p).length) p.1 r
def dat (ps : List Pr) : List UInt8 := datF 0 [] ps
def rst (ps : List Pr) : List Nat := rstF 0 0 [] ps
def lastF (last : List UInt8) (ps : List Pr) : List UInt8 := (ps.getLast?.map (fun p => p.1)).getD last
abbrev lastK (ps : List Pr) : List UInt8 := lastF [] ps
set_option maxRecDepth 100000 in
theorem lastF_cons (last : List UInt8) (p : Pr) (r : List Pr) : lastF last (p :: r) = lastF p.1 r := by
  unfold lastF
  cases r with
  | nil => rfl
  | cons q r => rw [List.getLast?_cons_cons]; cases h : (q :: r).getLast? with
    | none => simp at h
    | some x => rfl
set_option maxRecDepth 100000 in
theorem lastK_snoc (ps : List Pr) (p : Pr) : lastK (ps ++ [p]) = p.1 := by simp [lastF]
set_option maxRecDepth 100000 in
theorem datF_append : ∀ (a b : List Pr) (i : Nat) (last : List UInt8), datF i last (a ++ b) = datF i last a ++ datF (i + a.length) (lastF last a) b
  | [], b, i, last => by simp [datF, lastF]
  | p :: a, b, i, last => by
    rw [List.cons_append, datF, datF, datF_append a b, lastF_cons, List.length_cons, List.append_assoc]
    congr 3
    omega
set_option maxRecDepth 100000 in
theorem rstF_append : ∀ (a b : List Pr) (i at_ : Nat) (last : List UInt8), rstF i at_ last (a ++ b) = rstF i at_ last a ++ rstF (i + a.length) (at_ + (datF i last a).length) (lastF last a) b
  | [], b, i, at_, last => by simp [datF, rstF, lastF]
  | p :: a, b, i, at_, last => by
    rw [List.cons_append, rstF, rstF, rstF_append a b, lastF_cons, List.length_cons, List.append_assoc, datF, List.length_append]
    congr 3 <;> omega
set_option maxRecDepth 100000 in
theorem dat_snoc (ps : List Pr) (p : Pr) : dat (ps ++ [p]) = dat ps ++ ent (sameOf ps.length (lastK ps) p.1) p := by
  unfold dat
  rw [datF_append]
  simp [datF]
set_option maxRecDepth 100000 in
theorem rst_snoc (ps : List Pr) (p : Pr) : rst (ps ++ [p]) = rst ps ++ (if ps.length % 8 = 0 then [(dat ps).length] else []) := by
  unfold rst dat
  rw [rstF_append]
  simp [rstF]
/-- The block of pairs. -/
def blk (ps : List Pr) : List UInt8 := dat ps ++ (rst ps).flatMap (fixed 4) ++ fixed 4 (rst ps).length
def Okp (p : Pr) : Prop := 1 ≤ p.1.length ∧ p.1.length ≤ 80 ∧ p.2.length ≤ 16000
instance (p : Pr) : Decidable (Okp p) := by unfold Okp; infer_instance
structure Rise (ps : List Pr) : Prop where
  ok : ∀ p ∈ ps, Okp p
  up : ps.Pairwise (fun a b => a.1 < b.1)
  le : ps.length ≤ 4096
set_option maxRecDepth 100000 in
theorem grp_len (n : Nat) : (grp n).length ≤ 10 := groups_length 9 n
set_option maxRecDepth 100000 in
theorem ent_len (same : Nat) (p : Pr) : (ent same p).length ≤ 30 + p.1.length + p.2.length := by
  unfold ent
  have h1 := grp_len same
  have h2 := grp_len (p.1.length - same)
  have h3 := grp_len p.2.length
  simp only [List.length_append, List.length_drop]
  omega
set_option maxRecDepth 100000 in
theorem dat_len {ps : List Pr} (h : ∀ p ∈ ps, Okp p) : (dat ps).length ≤ ps.length * 16110 := by
  revert h
  refine snocInd (P := fun ps => (∀ p ∈ ps, Okp p) → (dat ps).length ≤ ps.length * 16110) ?_ ?_ ps
  · intro _; simp [dat, datF]
  · intro ps p ih h
    have h1 := ih (fun q hq => h q (by simp [hq]))
    have h2 := ent_len (sameOf ps.length (lastK ps) p.1) p
    obtain ⟨-, h3, h4⟩ := h p (by simp)
    rw [dat_snoc, List.length_append, List.length_append, List.length_singleton]
    omega
set_option maxRecDepth 100000 in
theorem rst_len (ps : List Pr) : (rst ps).length = (ps.length + 7) / 8 := by
  refine snocInd (P := fun ps => (rst ps).length = (ps.length + 7) / 8) ?_ ?_ ps
  · rfl
  · intro ps p ih
    rw [rst_snoc, List.length_append, ih, List.length_append, List.length_singleton]
    split
    · simp; omega
    · simp; omega
set_option maxRecDepth 100000 in
theorem blk_len (ps : List Pr) : (blk ps).length = (dat ps).length + 4 * (rst ps).length + 4 := by
  unfold blk
  have : ∀ l : List Nat, (l.flatMap (fixed 4)).length = 4 * l.length := fun l => by
    induction l with
    | nil => rfl
    | cons a l ih => rw [List.flatMap_cons, List.length_append, ih, fixed_length, List.length_cons]; omega
  rw [List.length_append, List.length_append, this, fixed_length]
set_option maxRecDepth 100000 in
theorem Rise.snoc {ps : List Pr} {p : Pr} (h : Rise ps) (hp : Okp p) (hl : lastK ps < p.1) (hn : ps.length < 4096) : Rise (ps ++ [p]) := by
  refine ⟨fun q hq => ?_, ?_, by simp; omega⟩
  · rcases List.mem_append.1 hq with hq | hq
    · exact h.ok q hq
    · simp at hq; subst hq; exact hp
  · rw [List.pairwise_append]
    refine ⟨h.up, by simp, fun a ha b hb => ?_⟩
    simp at hb
    subst hb
    rcases List.eq_nil_or_concat ps with rfl | ⟨r, z, e⟩
    · simp at ha
    · rw [List.concat_eq_append] at e
      subst e
      rw [lastK_snoc] at hl
      rcases List.mem_append.1 ha with ha | ha
      · exact List.lt_trans ((List.pairwise_append.1 h.up).2.2 a ha z (by simp)) hl
      · simp at ha; subst ha; exact hl
set_option maxRecDepth 100000 in
theorem Rise.nil : Rise [] := ⟨by simp, List.Pairwise.nil, by simp⟩
set_option maxRecDepth 100000 in
theorem Rise.init {ps : List Pr} {p : Pr} (h : Rise (ps ++ [p])) : Rise ps ∧ Okp p ∧ lastK ps < p.1 ∧ ps.length < 4096 := by
  have hl := h.le
  rw [List.length_append, List.length_singleton] at hl
  have hu := List.pairwise_append.1 h.up
  refine ⟨⟨fun q hq => h.ok q (by simp [hq]), hu.1, by omega⟩, h.ok p (by simp), ?_, by omega⟩
  rcases List.eq_nil_or_concat ps with rfl | ⟨r, z, e⟩
  · have := (h.ok p (by simp)).1
    show [] < p.1
    cases hp : p.1 with
    | nil => rw [hp] at this; simp at this
    | cons a l => exact List.nil_lt_cons a l
  · rw [List.concat_eq_append] at e
    subst e
    rw [lastK_snoc]
    exact hu.2.2 z (by simp) p (by simp)
end Go.Proofs.YtdbfaknpfepnfaaGreatDoor
