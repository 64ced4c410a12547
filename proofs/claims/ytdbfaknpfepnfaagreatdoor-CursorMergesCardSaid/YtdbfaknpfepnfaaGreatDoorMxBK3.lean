/-
  Texts of the claim, joined: ReaderW, CrcLaidW, CrcFrameW, CrcOpenW, Reader2W, Reader3W.
-/
import Derived.Test.YtdbfaknpfepnfaaGreatDoorMxBK1
import Derived.Test.YtdbfaknpfepnfaaGreatDoorMxBK2
set_option maxRecDepth 100000
set_option maxHeartbeats 40000000
namespace Go.Proofs.YtdbfaknpfepnfaaGreatDoor
open Go.RowKit CodecP

def Rd (w : World) (p : Nat) (s : ByteArray) (bad : Bool) : Prop := w.heap[p]? = some (.cells #[.string s, .bool bad] 165 (0, 0)) ∧ s.size ≤ maxLen
theorem Rd.keep {w w' : World} {S : Nat → Prop} {p : Nat} {s : ByteArray} {bad : Bool} (h : Rd w p s bad) (hf : Fr S w w') (hS : ¬ S p) : Rd w' p s bad :=
 ⟨(hf.block p (lt_of_block h.1) hS).trans h.1, h.2⟩
theorem Rd.c0 {w : World} {p : Nat} {s : ByteArray} {bad : Bool} (h : Rd w p s bad) : w.cell? ⟨p, 0, none⟩ = some (.string s) := by simp [World.cell?, h.1]
theorem Rd.c1 {w : World} {p : Nat} {s : ByteArray} {bad : Bool} (h : Rd w p s bad) : w.cell? ⟨p, 1, none⟩ = some (.bool bad) := by simp [World.cell?, h.1]
theorem Rd.free {w : World} {p : Nat} {s : ByteArray} {bad : Bool} (h : Rd w p s bad) (o : Nat) : w.frozen? ⟨p, o, none⟩ = false := by simp [World.frozen?, h.1]
theorem Rd.set0 {w : World} {p : Nat} {s : ByteArray} {bad : Bool} (h : Rd w p s bad) (s' : ByteArray) (hs : s'.size ≤ maxLen) : Rd (w.setCell ⟨p, 0, none⟩ (.string s')) p s' bad := by
 have hlt := lt_of_block h.1
 have h' : w.heap[p] = .cells #[.string s, .bool bad] 165 (0, 0) := by simpa [Array.getElem?_eq_getElem hlt] using h.1
 refine ⟨?_, hs⟩
 show (w.heap.modify p _)[p]? = _
 rw [Array.getElem?_eq_getElem (by simpa using hlt), Array.getElem_modify_self, h']
 rfl
theorem Rd.set1 {w : World} {p : Nat} {s : ByteArray} {bad : Bool} (h : Rd w p s bad) (b' : Bool) : Rd (w.setCell ⟨p, 1, none⟩ (.bool b')) p s b' := by
 have hlt := lt_of_block h.1
 have h' : w.heap[p] = .cells #[.string s, .bool bad] 165 (0, 0) := by simpa [Array.getElem?_eq_getElem hlt] using h.1
 refine ⟨?_, h.2⟩
 show (w.heap.modify p _)[p]? = _
 rw [Array.getElem?_eq_getElem (by simpa using hlt), Array.getElem_modify_self, h']
 rfl
def RdS (p : Nat) : Nat → Prop := fun k => k = p

theorem rdS_set (p o : Nat) (v : Value) (w : World) : Fr (RdS p) w (w.setCell ⟨p, o, none⟩ v) := (Fr.refl (RdS p) w).setCell (p := ⟨p, o, none⟩) (.inl rfl) v

theorem read_any (s : ByteArray) (w : World) (hs : s.size ≤ maxLen) :
  Calls Tryz.prog 64 #[.string s] w fun e w' => e = .returned (.pointer (some ⟨w.heap.size, 0, none⟩)) ∧ Rd w' w.heap.size s false ∧ Below w.heap.size w w' := by
 have H := Lib.hid hs
 clear hs
 go_enter Tryz.func64, Tryz.ntmps64
 go_wp2
 go_ret
 refine ⟨rfl, ⟨?_, H.out⟩, (Below.refl _ _).alloc (Nat.le_refl _) _⟩
 show (w.heap.push _)[w.heap.size]? = _
 simp

theorem good_any (p : Nat) (s : ByteArray) (bad : Bool) (w : World) (h : Rd w p s bad) :
  Calls Tryz.prog 127 #[.pointer (some ⟨p, 0, none⟩)] w fun e w' => e = .returned (.bool (!bad)) ∧ w = w' := by
 have c1 := h.c1
 clear h
 go_enter Tryz.func127, Tryz.ntmps127
 go_wp2
 go_ret
 exact ⟨rfl, rfl⟩

theorem fail_any (p : Nat) (s : ByteArray) (bad : Bool) (w : World) (h : Rd w p s bad) :
  Calls Tryz.prog 160 #[.pointer (some ⟨p, 0, none⟩)] w fun e w' => e = .returned (.tuple #[]) ∧ Rd w' p s true ∧ Fr (RdS p) w w' := by
 have c1 := h.c1
 have f1 := h.free 1
 have H := Lib.hid h
 clear h
 go_enter Tryz.func160, Tryz.ntmps160
 go_wp2
 go_end0
 exact ⟨rfl, H.out.set1 true, rdS_set _ _ _ _⟩

def rawOut (s : ByteArray) (bad : Bool) (n : Int) : ByteArray × ByteArray × Bool :=
 if bad = true ∨ n < 0 ∨ (s.size : Int) < n then (ByteArray.empty, s, true) else (s.extract 0 n.toNat, s.extract n.toNat s.size, false)

theorem rdRaw_any (p : Nat) (s : ByteArray) (bad : Bool) (n : Int) (w : World) (h : Rd w p s bad) :
  Calls Tryz.prog 151 #[.pointer (some ⟨p, 0, none⟩), .int .i64 n] w fun e w' => e = .returned (.string (rawOut s bad n).1) ∧ Rd w' p (rawOut s bad n).2.1 (rawOut s bad n).2.2 ∧ Fr (RdS p) w w' := by
 by_cases hb : bad = true ∨ n < 0 ∨ (s.size : Int) < n
 ·have hr : rawOut s bad n = (ByteArray.empty, s, true) := by unfold rawOut; rw [if_pos hb]
  rw [hr]
  have c0 := h.c0
  have c1 := h.c1
  have H := Lib.hid h
  clear h hr
  cases bad
  ·have hb2 : n < 0 ∨ (s.size : Int) < n := by simpa using hb
   clear hb
   by_cases hn : n < 0
   ·clear hb2
    go_enter Tryz.func151, Tryz.ntmps151
    go_wp2_with fail
    refine (good_any _ _ _ _ H.out).mono ?_
    rintro e w1 ⟨rfl, rfl⟩
    go_wp2_with fail
    refine (fail_any _ _ _ _ H.out).mono ?_
    rintro e w1 ⟨rfl, h1, hf⟩
    go_wp2
    go_ret
    exact ⟨rfl, h1, hf⟩
   ·have hn2 : (s.size : Int) < n := by omega
    clear hb2
    go_enter Tryz.func151, Tryz.ntmps151
    go_wp2_with fail
    refine (good_any _ _ _ _ H.out).mono ?_
    rintro e w1 ⟨rfl, rfl⟩
    go_wp2_with fail
    refine (fail_any _ _ _ _ H.out).mono ?_
    rintro e w1 ⟨rfl, h1, hf⟩
    go_wp2
    go_ret
    exact ⟨rfl, h1, hf⟩
  ·clear hb
   go_enter Tryz.func151, Tryz.ntmps151
   go_wp2_with fail
   refine (good_any _ _ _ _ H.out).mono ?_
   rintro e w1 ⟨rfl, rfl⟩
   go_wp2_with fail
   refine (fail_any _ _ _ _ H.out).mono ?_
   rintro e w1 ⟨rfl, h1, hf⟩
   go_wp2
   go_ret
   exact ⟨rfl, h1, hf⟩
 ·have hr : rawOut s bad n = (s.extract 0 n.toNat, s.extract n.toNat s.size, false) := by unfold rawOut; rw [if_neg hb]
  rw [hr]
  have hbad : bad = false := by cases bad <;> simp_all
  subst hbad
  obtain ⟨k, rfl⟩ := Int.eq_ofNat_of_zero_le (show 0 ≤ n by omega)
  have hk : k ≤ s.size := by omega
  have c0 := h.c0
  have c1 := h.c1
  have f0 := h.free 0
  have hs := h.2
  have hs2 : (s.extract k s.size).size ≤ maxLen := by
   have : (s.extract k s.size).size ≤ s.size := by simp [ByteArray.size_extract]
   omega
  have H := Lib.hid h
  have H2 := Lib.hid (h.set0 _ hs2)
  clear h hb hr hs2
  unfold maxLen at hs
  rw [Int.toNat_natCast]
  go_enter Tryz.func151, Tryz.ntmps151
  go_wp2_with fail
  refine (good_any _ _ _ _ H.out).mono ?_
  rintro e w1 ⟨rfl, rfl⟩
  go_wp2
  go_ret
  exact ⟨rfl, H2.out, rdS_set _ _ _ _⟩
theorem value_take (l : List UInt8) (k : Nat) (h : k < l.length) : value (l.take (k + 1)) = 256 * value (l.take k) + (l.getD k 0).toNat := by
 rw [List.take_succ_eq_append_getElem h, value_snoc]
 simp [h]
theorem value_take_lt (l : List UInt8) (k : Nat) (h : k ≤ 7) : value (l.take k) < 72057594037927936 := by
 have h1 := value_lt (l.take k)
 have h2 : 256 ^ (l.take k).length ≤ 256 ^ 7 := Nat.pow_le_pow_right (by decide) (by rw [List.length_take]; omega)
 have h3 : 256 ^ 7 = 72057594037927936 := by decide
 omega
theorem or_byte (x c : Nat) (hx : x < 72057594037927936) (hc : c < 256) : bits .or .u64 ((x : Int) * 256) (c : Int) = ((256 * x + c : Nat) : Int) := by
 rw [show (x : Int) * 256 = ((256 * x : Nat) : Int) by omega, u64_or_nat _ _ (by omega) (by omega)]
 congr 1
 exact nat_join 8 (256 * x) c (by omega) (by omega)
theorem ret_u64 {a b : Int} (h : a = b) : Ending.returned (.int .u64 a) = .returned (.int .u64 b) := by rw [h]

theorem rdFixed_any (p : Nat) (s : ByteArray) (bad : Bool) (n : Nat) (w : World) (h : Rd w p s bad) (hn : n ≤ 8) :
  Calls Tryz.prog 108 #[.pointer (some ⟨p, 0, none⟩), .int .i64 n] w fun e w' => e = .returned (.int .u64 (value (rawOut s bad n).1.data.toList : Nat)) ∧ Rd w' p (rawOut s bad n).2.1 (rawOut s bad n).2.2 ∧ Fr (RdS p) w w' := by
 have hsz : (rawOut s bad n).1.size ≤ 8 := by
  unfold rawOut
  split
  ·show (0 : Nat) ≤ 8; omega
  ·rename_i hh
   simp only [ByteArray.size_extract, Int.toNat_natCast]; omega
 have HR := Lib.hid (rdRaw_any p s bad n w h)
 clear h
 generalize rawOut s bad n = r at *
 obtain ⟨t, s2, b2⟩ := r
 have hcv := fun W => Lib.run_convert_string_bytes (P := Tryz.prog) W 9 94 5 t Tryz.underlying9 Tryz.underlying94 Tryz.underlying5
 simp only at hsz
 have hpos : (n : Int) ≤ 8 := by omega
 go_enter Tryz.func108, Tryz.ntmps108
 go_wp2_with fail
 refine HR.out.mono ?_
 rintro e w1 ⟨rfl, h1, hf⟩
 simp only
 have h2 : Rd (Lib.bytesWorld w1 5 t) p s2 b2 := h1.keep ((Fr.refl (fun _ => False) w1).bytes _ _) (fun h => h)
 have hf2 : Fr (RdS p) w (Lib.bytesWorld w1 5 t) := hf.bytes _ _
 have hc := Lib.bytesWorld_cell w1 5 t
 have HC := Lib.hid hc
 have H2 := Lib.hid h2
 have HF := Lib.hid hf2
 clear h1 h2 hf hf2 hc HR
 go_wp2
 clear hcv
 generalize Lib.bytesWorld w1 5 t = w2 at *
 go_loop [5, 7, 13] (fun x _ c => ∃ k : Nat, k ≤ t.size ∧ c = .int .i64 k ∧ x = .int .u64 (value (t.data.toList.take k) : Nat)) (fun _ _ c => t.size - (intOf c).toNat)
 case atStart => exact ⟨0, by omega, rfl, rfl⟩
 case round =>
  obtain ⟨k, hk, rfl, rfl⟩ := hrel
  by_cases hlt : k < t.size
  ·have c0 := HC.out k hlt
   have hv := value_take t.data.toList k (by simpa using hlt)
   have hl := value_take_lt t.data.toList k (by omega)
   have hcl := (t.data.toList.getD k 0).toNat_lt
   have hor := or_byte (value (t.data.toList.take k)) (t.data.toList.getD k 0).toNat hl (by omega)
   generalize value (t.data.toList.take k) = x at *
   generalize (t.data.toList.getD k 0).toNat = c at *
   have HV := Lib.hid hv
   clear hv
   go_wp2
   go_round
   case rel => exact ⟨k + 1, by omega, by go_num, by rw [HV.out]; go_num⟩
   case measure => simp [intOf]; omega
  ·go_wp2
   go_ret
   exact ⟨ret_u64 (by rw [List.take_of_length_le (by simp; omega)]), H2.out, HF.out⟩
theorem value_lt4 (l : List UInt8) (h : l.length ≤ 4) : value l < 4294967296 := by
 have h1 := value_lt l
 have h2 : 256 ^ l.length ≤ 256 ^ 4 := Nat.pow_le_pow_right (by decide) h
 have h3 : 256 ^ 4 = 4294967296 := by decide
 omega
theorem rdFixed4_any (p : Nat) (s : ByteArray) (bad : Bool) (w : World) (h : Rd w p s bad) :
  Calls Tryz.prog 158 #[.pointer (some ⟨p, 0, none⟩)] w fun e w' => e = .returned (.int .u32 (value (rawOut s bad 4).1.data.toList : Nat)) ∧ Rd w' p (rawOut s bad 4).2.1 (rawOut s bad 4).2.2 ∧ Fr (RdS p) w w' := by
 have hsz : (rawOut s bad 4).1.data.toList.length ≤ 4 := by
  unfold rawOut
  split
  ·show (0 : Nat) ≤ 4; omega
  ·show ((s.extract 0 4).data.toList).length ≤ 4
   rw [Array.length_toList, ByteArray.size_data, ByteArray.size_extract]; omega
 have hv := value_lt4 _ hsz
 have HR := Lib.hid (rdFixed_any p s bad 4 w h (by omega))
 clear h hsz
 have e4 : ((4 : Nat) : Int) = 4 := rfl
 rw [e4] at HR
 clear e4
 generalize rawOut s bad 4 = r at *
 generalize value r.1.data.toList = x at *
 go_enter Tryz.func158, Tryz.ntmps158
 go_wp2_with fail
 refine HR.out.mono ?_
 rintro e w1 ⟨rfl, h1, hf⟩
 go_wp2
 go_ret
 exact ⟨rfl, h1, hf⟩
end Go.Proofs.YtdbfaknpfepnfaaGreatDoor


namespace Go.Proofs.YtdbfaknpfepnfaaGreatDoor
open Go.RowKit Go.Deep CrcP CodecP FrameP

theorem byte_or (b a : Nat) (hb : b < 256) : b ||| 256 * a = b + 256 * a := by
 rw [Nat.or_comm, nat_join 8 (256 * a) b (by omega) (by omega), Nat.add_comm]
theorem rev_ops (x : Nat) (hx : x < 4294967296) : bits .or .u32 (bits .and .u32 ((x : Int) / 256) 16711935) (bits .and .u32 (x : Int) 16711935 * 256 % 4294967296) = ((x / 256 % 256 + 256 * (x % 256) + 65536 * (x / 16777216 + 256 * (x / 65536 % 256)) : Nat) : Int) := by
 have e1 : (x : Int) / 256 = ((x / 256 : Nat) : Int) := by omega
 rw [e1, show (16711935 : Int) = ((16711935 : Nat) : Int) from rfl, u32_and_nat _ _ (by omega) (by decide), u32_and_nat _ _ hx (by decide), mask_bytes, mask_bytes]
 have e2 : ((x % 256 + 65536 * (x / 65536 % 256) : Nat) : Int) * 256 % 4294967296 = ((65536 * (256 * (x / 65536 % 256)) + 256 * (x % 256) : Nat) : Int) := by omega
 have e3 : x / 256 % 256 + 65536 * (x / 256 / 65536 % 256) = 65536 * (x / 16777216) + x / 256 % 256 := by omega
 rw [e2, e3, u32_or_nat _ _ (by omega) (by omega)]
 congr 1
 rw [or_parts _ _ _ _ (by omega) (by omega), byte_or _ _ (by omega), byte_or _ _ (by omega)]
 omega
theorem rev_ops2 (y : Nat) (hy : y < 4294967296) : bits .or .u32 ((y : Int) / 65536) ((y : Int) * 65536 % 4294967296) = ((y / 65536 + 65536 * (y % 65536) : Nat) : Int) := by
 have e1 : (y : Int) / 65536 = ((y / 65536 : Nat) : Int) := by omega
 have e2 : (y : Int) * 65536 % 4294967296 = ((65536 * (y % 65536) : Nat) : Int) := by omega
 rw [e1, e2, u32_or_nat _ _ (by omega) (by omega), Nat.or_comm, nat_join 16 _ _ (by omega) (by omega), Nat.add_comm]
theorem rev_any (v : BitVec 32) (w : World) :
  Calls Tryz.prog 155 #[.int .u32 (u v)] w fun e w' => e = .returned (.int .u32 (rev v.toNat : Nat)) ∧ w = w' := by
 have hv := v.isLt
 have eu : u v = ((v.toNat : Nat) : Int) := rfl
 rw [eu]
 generalize v.toNat = x at *
 clear eu
 have h1 := rev_ops x hv
 have h2 := rev_ops2 (x / 256 % 256 + 256 * (x % 256) + 65536 * (x / 16777216 + 256 * (x / 65536 % 256))) (by omega)
 have h3 : (x / 256 % 256 + 256 * (x % 256) + 65536 * (x / 16777216 + 256 * (x / 65536 % 256))) / 65536 + 65536 * ((x / 256 % 256 + 256 * (x % 256) + 65536 * (x / 16777216 + 256 * (x / 65536 % 256))) % 65536) = rev x := by unfold rev; omega
 rw [h3] at h2
 clear h3
 generalize x / 256 % 256 + 256 * (x % 256) + 65536 * (x / 16777216 + 256 * (x / 65536 % 256)) = y at *
 go_enter Tryz.func155, Tryz.ntmps155
 go_wp2
 go_ret
 exact ⟨rfl, rfl⟩

theorem laid_any (s : ByteArray) (w : World) (hs : s.size ≤ maxLen) (hn : Nibs w) :
  Calls Tryz.prog 119 #[.string s] w fun e w' => e = .returned (.string (str (laid (bl s)))) ∧ Below w.heap.size w w' := by
 have HN := Lib.hid (hn.below ((Below.refl _ w).alloc (Nat.le_refl _) (.cells #[.slice none 0 0] 96)))
 have HS := Lib.hid hs
 have HW := Lib.hid (Wr.new w)
 clear hn hs
 go_enter Tryz.func119, Tryz.ntmps119
 go_wp2_with fail
 refine (sum_any s _ HS.out HN.out).mono ?_
 rintro e w1 ⟨rfl, rfl⟩
 go_wp2_with fail
 refine (rev_any _ _).mono ?_
 rintro e w1 ⟨rfl, rfl⟩
 have hlt : rev (CrcP.sum s.data.toList).toNat < 4294967296 := by
  rw [rev_value]; exact value_lt4 _ (by rw [le4_length]; omega)
 have hfx := fixed_rev (CrcP.sum s.data.toList)
 generalize rev (CrcP.sum s.data.toList).toNat = r at *
 have HFX := Lib.hid hfx
 clear hfx
 go_wp2_with fail
 refine (fixed4_any w.heap.size 0 #[undef] 96 none [] r _ HW.out hlt (by simp)).mono ?_
 rintro e w1 ⟨rfl, hby⟩
 obtain ⟨⟨g', hg', hw⟩, hf⟩ := hby
 have hbel : Below w.heap.size w w1 := ((Below.refl _ w).alloc (Nat.le_refl _) _).trans (hf.below (by simp) (fun k _ hk => by rcases hk with rfl | hk; exact Nat.le_refl _; cases hk))
 rw [List.nil_append, HFX.out] at hw
 have HW2 := Lib.hid hw
 clear hw hf hg' HFX
 go_wp2_with fail
 refine (bytes_any w.heap.size 0 #[undef] 96 g' _ _ HW2.out).mono ?_
 rintro e w2 ⟨rfl, rfl⟩
 go_wp2
 go_ret
 exact ⟨rfl, hbel⟩

theorem bytes4 (x : Nat) : strOfNums [((x : Int) % 256), ((x : Int) / 256 % 256), ((x : Int) / 65536 % 256), ((x : Int) / 16777216)] = ⟨#[UInt8.ofNat (x % 256), UInt8.ofNat (x / 256 % 256), UInt8.ofNat (x / 65536 % 256), UInt8.ofNat (x / 16777216)]⟩ := by
 have m1 : ((x : Int) % 256).toNat = x % 256 := by omega
 have m2 : ((x : Int) / 256 % 256).toNat = x / 256 % 256 := by omega
 have m3 : ((x : Int) / 65536 % 256).toNat = x / 65536 % 256 := by omega
 have m4 : ((x : Int) / 16777216).toNat = x / 16777216 := by omega
 unfold strOfNums
 simp only [List.map_cons, List.map_nil, m1, m2, m3, m4]
theorem four_cells (w : World) (a b c d : Int) (t : TypeId) : ∀ i, i < 4 → (w.alloc (.cells #[.int .u8 a, .int .u8 b, .int .u8 c, .int .u8 d] t)).cell? ⟨w.heap.size, 0 + i, none⟩ = some (.int .u8 ([a, b, c, d].getD i 0)) := by
 intro i hi
 have : i = 0 ∨ i = 1 ∨ i = 2 ∨ i = 3 := by omega
 rcases this with rfl | rfl | rfl | rfl <;> simp
theorem refLaid_any (s : ByteArray) (w : World) (hs : s.size ≤ maxLen) :
  Calls Tryz.prog 114 #[.string s] w fun e w' => e = .returned (.string (str (laid (bl s)))) ∧ Below w.heap.size w w' := by
 have HS := Lib.hid hs
 clear hs
 go_enter Tryz.func114, Tryz.ntmps114
 go_wp2_with fail
 refine (refMore_at _ 0#32 rfl s _ HS.out).mono ?_
 rintro e w1 ⟨rfl, hb⟩
 have hx : (more 0#32 s.data.toList).toNat < 4294967296 := BitVec.isLt _
 have hu : u (more 0#32 s.data.toList) = (((more 0#32 s.data.toList).toNat : Nat) : Int) := rfl
 have hfin : str (laid (bl s)) = ⟨#[UInt8.ofNat ((more 0#32 s.data.toList).toNat % 256), UInt8.ofNat ((more 0#32 s.data.toList).toNat / 256 % 256), UInt8.ofNat ((more 0#32 s.data.toList).toNat / 65536 % 256), UInt8.ofNat ((more 0#32 s.data.toList).toNat / 16777216)]⟩ := rfl
 rw [hu]
 have HF := Lib.hid hfin
 clear hu hfin
 generalize (more 0#32 s.data.toList).toNat = x at *
 have b4 := bytes4 x
 have hcv := run_convert_bytes_arg (P := Tryz.prog) (w := w1.alloc (.cells #[.int .u8 ((x : Int) % 256), .int .u8 ((x : Int) / 256 % 256), .int .u8 ((x : Int) / 65536 % 256), .int .u8 ((x : Int) / 16777216)] 5)) 94 5 Tryz.underlying94 Tryz.underlying5 w1.heap.size 0 4 4 [((x : Int) % 256), ((x : Int) / 256 % 256), ((x : Int) / 65536 % 256), ((x : Int) / 16777216)] rfl
  (four_cells _ _ _ _ _ _) 9 Tryz.underlying9
 rw [b4, ← HF.out] at hcv
 clear b4 HF
 go_wp2
 go_ret
 exact ⟨rfl, hb.alloc hb.size _⟩
end Go.Proofs.YtdbfaknpfepnfaaGreatDoor


namespace Go.Proofs.YtdbfaknpfepnfaaGreatDoor
open Go.RowKit Go.Deep CrcP CodecP FrameP

theorem str_size (l : List UInt8) : (str l).size = l.length := by simp [str, ByteArray.size]
theorem small (n : Nat) (h : n ≤ 1099511627776) : n ≤ maxLen := size_le n h
end Go.Proofs.YtdbfaknpfepnfaaGreatDoor


namespace Go.Proofs.YtdbfaknpfepnfaaGreatDoor
open Go.RowKit Go.Deep CrcP CodecP FrameP

def opnV (r : List UInt8 × Nat × Nat) : Value := .tuple #[.string (str r.1), .int .i64 (r.2.1 : Int), .int .i64 (r.2.2 : Int)]
theorem ext_bl (s : ByteArray) (a b : Nat) : bl (s.extract a b) = ((bl s).drop a).take (b - a) := by
 unfold bl
 rw [ByteArray.data_extract, Array.toList_extract]
theorem raw_none (s : ByteArray) (n : Int) (h : n < 0 ∨ (s.size : Int) < n) : rawOut s false n = (ByteArray.empty, s, true) := by
 unfold rawOut; rw [if_pos (.inr h)]
theorem raw_bad (s : ByteArray) (n : Int) : rawOut s true n = (ByteArray.empty, s, true) := by
 unfold rawOut; rw [if_pos (.inl rfl)]
theorem raw_some (s : ByteArray) (n : Nat) (h : n ≤ s.size) : rawOut s false n = (s.extract 0 n, s.extract n s.size, false) := by
 unfold rawOut; rw [if_neg (by simp; omega)]; simp
theorem ne_str (a b : ByteArray) : (a.toList == b.toList) = decide (bl a = bl b) := by
 rw [ByteArray.toList_eq, ByteArray.toList_eq, Bool.eq_iff_iff]; simp [bl]

theorem open_short8 (s : ByteArray) (w : World) (h : s.size < 8) :
  Calls Tryz.prog 123 #[.string s] w fun e w' => e = .returned (opnV ([], 0, 1)) ∧ Below w.heap.size w w' := by
 go_enter Tryz.func123, Tryz.ntmps123
 go_wp2_with fail
 refine (read_any s _ (small _ (by omega))).mono ?_
 rintro e w1 ⟨rfl, h1, hb1⟩
 go_wp2_with fail
 refine (rdFixed4_any w.heap.size s false _ h1).mono ?_
 rintro e w2 ⟨rfl, h2, hf2⟩
 go_wp2_with fail
 refine (rdRaw_any w.heap.size _ _ 4 _ h2).mono ?_
 rintro e w3 ⟨rfl, h3, hf3⟩
 have hbad : (rawOut (rawOut s false 4).2.1 (rawOut s false 4).2.2 4).2.2 = true := by
  by_cases h4 : 4 ≤ s.size
  ·rw [show (4 : Int) = ((4 : Nat) : Int) from rfl, raw_some s 4 h4]
   simp only
   rw [raw_none _ _ (.inr (by rw [ByteArray.size_extract]; omega))]
  ·rw [show (4 : Int) = ((4 : Nat) : Int) from rfl, raw_none s _ (.inr (by omega))]
   simp only
   rw [raw_bad]
 rw [hbad] at h3
 have hbel : Below w.heap.size w w3 := (hb1.trans (hf2.below (Nat.le_of_lt (lt_of_block h1.1)) (fun k _ hk => by unfold RdS at hk; omega))).trans (hf3.below (Nat.le_of_lt (lt_of_block h2.1)) (fun k _ hk => by unfold RdS at hk; omega))
 generalize rawOut (rawOut s false 4).2.1 (rawOut s false 4).2.2 4 = r2 at *
 generalize rawOut s false 4 = r1 at *
 clear hbad h2 hf2 hf3 h1 hb1
 go_wp2_with fail
 refine (good_any w.heap.size _ _ _ h3).mono ?_
 rintro e w4 ⟨rfl, rfl⟩
 go_wp2
 go_ret3
 exact ⟨rfl, hbel⟩
theorem if_cong {α : Type} {p q : Prop} [Decidable p] [Decidable q] {a b c d : α} (h : p ↔ q) (h1 : a = c) (h2 : b = d) : (if p then a else b) = if q then c else d := by
 subst h1 h2
 by_cases hp : p
 ·rw [if_pos hp, if_pos (h.1 hp)]
 ·rw [if_neg hp, if_neg (fun hq => hp (h.2 hq))]
theorem bl_len (s : ByteArray) : (bl s).length = s.size := rfl
theorem open_long (s : ByteArray) (w : World) (h : 8 ≤ s.size) (hs : s.size ≤ 1099511627776) (hn : Nibs w) :
  Calls Tryz.prog 123 #[.string s] w fun e w' => e = .returned (opnV (opn (bl s))) ∧ Below w.heap.size w w' := by
 have HN := Lib.hid hn
 clear hn
 obtain ⟨h4, eh4⟩ : ∃ x, x = s.extract 0 4 := ⟨_, rfl⟩
 obtain ⟨t4, et4⟩ : ∃ x, x = s.extract 4 s.size := ⟨_, rfl⟩
 obtain ⟨c4, ec4⟩ : ∃ x, x = t4.extract 0 4 := ⟨_, rfl⟩
 obtain ⟨s8, es8⟩ : ∃ x, x = t4.extract 4 t4.size := ⟨_, rfl⟩
 have hh4 : h4.size = 4 := by rw [eh4, ByteArray.size_extract]; omega
 have ht4 : t4.size = s.size - 4 := by rw [et4, ByteArray.size_extract]; omega
 have hs8 : s8.size = s.size - 8 := by rw [es8, ByteArray.size_extract]; omega
 have bh4 : bl h4 = (bl s).take 4 := by rw [eh4, ext_bl]; simp
 have bt4 : bl t4 = (bl s).drop 4 := by rw [et4, ext_bl, List.take_of_length_le]; simp [bl_len]
 have bc4 : bl c4 = ((bl s).drop 4).take 4 := by rw [ec4, ext_bl, bt4]; simp
 have bs8 : bl s8 = (bl s).drop 8 := by rw [es8, ext_bl, List.take_of_length_le (by simp [bl_len]), bt4, List.drop_drop]
 have hv : value (bl h4) < 4294967296 := value_lt4 _ (by rw [bl_len]; omega)
 have e1 : rawOut s false 4 = (h4, t4, false) := by rw [show (4 : Int) = ((4 : Nat) : Int) from rfl, raw_some s 4 (by omega), eh4, et4]
 have e2 : rawOut t4 false 4 = (c4, s8, false) := by rw [show (4 : Int) = ((4 : Nat) : Int) from rfl, raw_some t4 4 (by omega), ec4, es8]
 have R1 := fun W => rdFixed4_any w.heap.size s false W
 have R2 := fun W => rdRaw_any w.heap.size t4 false 4 W
 rw [e1] at R1
 rw [e2] at R2
 simp only at R1 R2
 have HR1 := Lib.hid R1
 have HR2 := Lib.hid R2
 have hval : value h4.data.toList = value (bl h4) := rfl
 have HV := Lib.hid hval
 have hL : opn (bl s) = if laid (bl h4) ≠ bl c4 ∨ 131072 < value (bl h4) then ([], 0, 2)
   else if s8.size < value (bl h4) + 4 then ([], 0, 1)
   else if laid ((bl s8).take (value (bl h4))) ≠ ((bl s8).drop (value (bl h4))).take 4 then ([], 0, 2)
   else ((bl s8).take (value (bl h4)), 12 + value (bl h4), 0) := by
  unfold opn
  rw [bl_len, if_neg (by omega), bh4, bc4, bs8, List.drop_drop, hs8]
  exact if_cong Iff.rfl rfl (if_cong (by omega) rfl rfl)
 have HL := Lib.hid hL
 have HP := Lib.hid bh4
 clear hL e1 e2 R1 R2 bt4 bc4 bs8 bh4 et4 ec4 es8 hval
 have HE4 := Lib.hid eh4.symm
 clear eh4
 have hsl : s.extract 0 4 = h4 := HE4.out
 go_enter Tryz.func123, Tryz.ntmps123
 go_wp2_with fail
 refine (read_any s _ (small _ (by omega))).mono ?_
 rintro e w1 ⟨rfl, h1, hb1⟩
 go_wp2_with fail
 refine (HR1.out _ h1).mono ?_
 rintro e w2 ⟨rfl, h2, hf2⟩
 rw [HV.out]
 go_wp2_with fail
 refine (HR2.out _ h2).mono ?_
 rintro e w3 ⟨rfl, h3, hf3⟩
 have hbel : Below w.heap.size w w3 := (hb1.trans (hf2.below (Nat.le_of_lt (lt_of_block h1.1)) (fun k _ hk => by unfold RdS at hk; omega))).trans (hf3.below (Nat.le_of_lt (lt_of_block h2.1)) (fun k _ hk => by unfold RdS at hk; omega))
 clear h1 h2 hf2 hf3 hb1
 go_wp2_with fail
 refine (good_any w.heap.size _ _ _ h3).mono ?_
 rintro e w4 ⟨rfl, rfl⟩
 go_wp2_with fail
 refine (laid_any h4 _ (small _ (by omega)) (HN.out.below hbel)).mono ?_
 rintro e w4 ⟨rfl, hb4⟩
 have h4' := h3.keep (Fr.of_below (fun _ => False) hb4) (fun h => h)
 have hbel4 := hbel.trans (hb4.mono hbel.size)
 clear h3 hbel hb4
 have hcmp := ne_str (str (laid (bl h4))) c4
 rw [bl_str] at hcmp
 generalize hLn : str (laid (bl h4)) = L4 at *
 clear hLn
 by_cases hA : laid (bl h4) = bl c4
 ·have hcmp' : (L4.toList == c4.toList) = true := by rw [hcmp]; simp [hA]
  clear hcmp
  by_cases hB : 131072 < value (bl h4)
  ·have hfin : opnV (opn (bl s)) = opnV ([], 0, 2) := by rw [HL.out, if_pos (.inr hB)]
   have HF := Lib.hid hfin
   clear hfin
   generalize value (bl h4) = n at *
   go_wp2
   go_ret3
   exact ⟨by rw [HF.out]; rfl, hbel4⟩
  ·have hL2 := HL.out
   rw [if_neg (by rintro (h | h); exact h hA; exact hB h)] at hL2
   have HL2 := Lib.hid hL2
   have HA := Lib.hid hA
   clear hL2 HL hA
   generalize value (bl h4) = n at *
   by_cases hC : s8.size < n
   ·have hfin : opnV (opn (bl s)) = opnV ([], 0, 1) := by rw [HL2.out, if_pos (by omega)]
    have HF := Lib.hid hfin
    clear hfin HL2
    have R3 := rdRaw_any w.heap.size s8 false n w4 h4'
    rw [raw_none s8 _ (.inr (by omega))] at R3
    simp only at R3
    have HR3 := Lib.hid R3
    clear R3
    go_wp2_with fail
    refine HR3.out.mono ?_
    rintro e w5 ⟨rfl, h5, hf5⟩
    have R4 := rdRaw_any w.heap.size s8 true 4 w5 h5
    rw [raw_bad] at R4
    simp only at R4
    have HR4 := Lib.hid R4
    clear R4
    go_wp2_with fail
    refine HR4.out.mono ?_
    rintro e w6 ⟨rfl, h6, hf6⟩
    have hbel6 : Below w.heap.size w w6 := (hbel4.trans (hf5.below (Nat.le_of_lt (lt_of_block h4'.1)) (fun k _ hk => by unfold RdS at hk; omega))).trans (hf6.below (Nat.le_of_lt (lt_of_block h5.1)) (fun k _ hk => by unfold RdS at hk; omega))
    clear h4' h5 hf5 hf6 hbel4
    go_wp2_with fail
    refine (good_any w.heap.size _ _ _ h6).mono ?_
    rintro e w7 ⟨rfl, rfl⟩
    go_wp2
    go_ret3
    exact ⟨by rw [HF.out]; rfl, hbel6⟩
   ·obtain ⟨d8, ed8⟩ : ∃ x, x = s8.extract 0 n := ⟨_, rfl⟩
    obtain ⟨s12, es12⟩ : ∃ x, x = s8.extract n s8.size := ⟨_, rfl⟩
    have bd8 : bl d8 = (bl s8).take n := by rw [ed8, ext_bl]; simp
    have bs12 : bl s12 = (bl s8).drop n := by rw [es12, ext_bl, List.take_of_length_le]; simp [bl_len]
    have hs12 : s12.size = s8.size - n := by rw [es12, ByteArray.size_extract]; omega
    have hd8 : d8.size = n := by rw [ed8, ByteArray.size_extract]; omega
    have R3 := rdRaw_any w.heap.size s8 false n w4 h4'
    rw [raw_some s8 n (by omega), ← ed8, ← es12] at R3
    simp only at R3
    have HR3 := Lib.hid R3
    have HD8 := Lib.hid bd8
    clear R3 ed8 es12 bd8
    go_wp2_with fail
    refine HR3.out.mono ?_
    rintro e w5 ⟨rfl, h5, hf5⟩
    have hbel5 : Below w.heap.size w w5 := hbel4.trans (hf5.below (Nat.le_of_lt (lt_of_block h4'.1)) (fun k _ hk => by unfold RdS at hk; omega))
    clear h4' hf5 hbel4
    by_cases hD : s12.size < 4
    ·have hfin : opnV (opn (bl s)) = opnV ([], 0, 1) := by rw [HL2.out, if_pos (by omega)]
     have HF := Lib.hid hfin
     clear hfin HL2
     have R4 := rdRaw_any w.heap.size s12 false 4 w5 h5
     rw [raw_none s12 _ (.inr (by omega))] at R4
     simp only at R4
     have HR4 := Lib.hid R4
     clear R4
     go_wp2_with fail
     refine HR4.out.mono ?_
     rintro e w6 ⟨rfl, h6, hf6⟩
     have hbel6 : Below w.heap.size w w6 := hbel5.trans (hf6.below (Nat.le_of_lt (lt_of_block h5.1)) (fun k _ hk => by unfold RdS at hk; omega))
     clear h5 hf6 hbel5
     go_wp2_with fail
     refine (good_any w.heap.size _ _ _ h6).mono ?_
     rintro e w7 ⟨rfl, rfl⟩
     go_wp2
     go_ret3
     exact ⟨by rw [HF.out]; rfl, hbel6⟩
    ·obtain ⟨l4, el4⟩ : ∃ x, x = s12.extract 0 4 := ⟨_, rfl⟩
     have bl4 : bl l4 = ((bl s8).drop n).take 4 := by rw [el4, ext_bl, bs12]; simp
     have R4 := rdRaw_any w.heap.size s12 false 4 w5 h5
     rw [show (4 : Int) = ((4 : Nat) : Int) from rfl, raw_some s12 4 (by omega), ← el4] at R4
     simp only at R4
     rw [show ((4 : Nat) : Int) = (4 : Int) from rfl] at R4
     have HR4 := Lib.hid R4
     have hL3 := HL2.out
     rw [if_neg (by omega), ← HD8.out, ← bl4] at hL3
     have HL3 := Lib.hid hL3
     clear R4 el4 bl4 hL3 HL2 bs12
     go_wp2_with fail
     refine HR4.out.mono ?_
     rintro e w6 ⟨rfl, h6, hf6⟩
     have hbel6 : Below w.heap.size w w6 := hbel5.trans (hf6.below (Nat.le_of_lt (lt_of_block h5.1)) (fun k _ hk => by unfold RdS at hk; omega))
     clear h5 hf6 hbel5
     go_wp2_with fail
     refine (good_any w.heap.size _ _ _ h6).mono ?_
     rintro e w7 ⟨rfl, rfl⟩
     go_wp2_with fail
     refine (laid_any d8 _ (small _ (by omega)) (HN.out.below hbel6)).mono ?_
     rintro e w8 ⟨rfl, hb8⟩
     have hbel8 := hbel6.trans (hb8.mono hbel6.size)
     clear h6 hbel6 hb8
     have hcmp2 := ne_str (str (laid (bl d8))) l4
     rw [bl_str] at hcmp2
     generalize hLn2 : str (laid (bl d8)) = L8 at *
     clear hLn2
     by_cases hE : laid (bl d8) = bl l4
     ·have hcmp3 : (L8.toList == l4.toList) = true := by rw [hcmp2]; simp [hE]
      have hfin : opnV (opn (bl s)) = opnV (bl d8, 12 + n, 0) := by rw [HL3.out, if_neg (by simpa using hE)]
      have HF := Lib.hid hfin
      clear hfin hcmp2 hE HL3
      go_wp2
      go_ret3
      refine ⟨?_, hbel8⟩
      rw [HF.out]
      unfold opnV
      rw [str_bl]
      have : (8 : Int) + (n : Int) + 4 = ((12 + n : Nat) : Int) := by omega
      simp only [← this]
      rfl
     ·have hcmp3 : (L8.toList == l4.toList) = false := by rw [hcmp2]; simp [hE]
      have hfin : opnV (opn (bl s)) = opnV ([], 0, 2) := by rw [HL3.out, if_pos hE]
      have HF := Lib.hid hfin
      clear hfin hcmp2 hE HL3
      go_wp2
      go_ret3
      exact ⟨by rw [HF.out]; rfl, hbel8⟩
 ·have hfin : opnV (opn (bl s)) = opnV ([], 0, 2) := by rw [HL.out, if_pos (.inl hA)]
  have hcmp' : (L4.toList == c4.toList) = false := by rw [hcmp]; simp [hA]
  have HF := Lib.hid hfin
  clear hfin hcmp hA
  go_wp2
  go_ret3
  exact ⟨by rw [HF.out]; rfl, hbel4⟩
theorem crcOpen_any (s : ByteArray) (w : World) (hs : s.size ≤ 1099511627776) (hn : Nibs w) :
  Calls Tryz.prog 123 #[.string s] w fun e w' => e = .returned (opnV (opn (bl s))) ∧ Below w.heap.size w w' := by
 by_cases h : 8 ≤ s.size
 ·exact open_long s w h hs hn
 ·have : opn (bl s) = ([], 0, 1) := by unfold opn; rw [bl_len, if_pos (by omega)]
  rw [this]
  exact open_short8 s w (by omega)
end Go.Proofs.YtdbfaknpfepnfaaGreatDoor


namespace Go.Proofs.YtdbfaknpfepnfaaGreatDoor
open Go.RowKit CodecP

def st (s : ByteArray) (bad : Bool) : Option (List UInt8) := if bad then none else some (bl s)
def tkI (i n : Nat) (s : ByteArray) (bad : Bool) : Nat × Option (List UInt8) :=
 if bad then (0, none) else match tk i (bl s) with
  | none => (0, none)
  | some (m, r) => (n + 2 ^ (7 * i) * m, some r)
def RdTo (w w' : World) (p : Nat) (o : Option (List UInt8)) : Prop := ∃ s bad, Rd w' p s bad ∧ st s bad = o ∧ Fr (RdS p) w w'

theorem or_part (n x i : Nat) (hi : i ≤ 9) (hn : n < 2 ^ (7 * i)) (hx : i = 9 → x ≤ 1) : bits .or .u64 (n : Int) (IntKind.u64.wrap ((x : Int) % 128 * 2 ^ (7 * i))) = ((n + 2 ^ (7 * i) * (x % 128) : Nat) : Int) ∧ n + 2 ^ (7 * i) * (x % 128) < 18446744073709551616 ∧ n + 2 ^ (7 * i) * (x % 128) < 2 ^ (7 * (i + 1)) := by
 have hp : 2 ^ (7 * i) ≤ 2 ^ 63 := Nat.pow_le_pow_right (by omega) (by omega)
 have hq : (2 : Nat) ^ 63 = 9223372036854775808 := by decide
 have h7 : 2 ^ (7 * (i + 1)) = 128 * 2 ^ (7 * i) := by rw [show 7 * (i + 1) = 7 + 7 * i by omega, Nat.pow_add]
 have h8 : i ≤ 8 → 2 ^ (7 * i) ≤ 2 ^ 56 := fun h => Nat.pow_le_pow_right (by omega) (by omega)
 have hr : (2 : Nat) ^ 56 = 72057594037927936 := by decide
 have ei : (x : Int) % 128 * 2 ^ (7 * i) = ((2 ^ (7 * i) * (x % 128) : Nat) : Int) := by first | (push_cast; done) | (push_cast; rw [Int.mul_comm])
 have hle : 2 ^ (7 * i) * (x % 128) ≤ 2 ^ (7 * i) * 127 := Nat.mul_le_mul_left _ (by omega)
 have hle9 : i = 9 → 2 ^ (7 * i) * (x % 128) ≤ 2 ^ (7 * i) * 1 := fun h => Nat.mul_le_mul_left _ (by have := hx h; omega)
 have hor := Nat.two_pow_add_eq_or_of_lt hn (x % 128)
 rw [ei]
 generalize hP : 2 ^ (7 * i) = P at *
 generalize hM : P * (x % 128) = M at *
 have hMl : n + M < 18446744073709551616 := by
  by_cases h9 : i = 9
  ·have := hle9 h9; omega
  ·have := h8 (by omega); omega
 refine ⟨?_, hMl, by rw [h7]; omega⟩
 rw [IntKind.wrap_u64, show (M : Int) % 18446744073709551616 = (M : Int) by omega, u64_or_nat _ _ (by omega) (by omega), Nat.or_comm, ← hor, Nat.add_comm]
theorem tkI_more (i n : Nat) (s s2 : ByteArray) (c : UInt8) (r : List UInt8) (hc : bl s = c :: r) (h2 : bl s2 = r) (hbad : ¬ ((i = 9 ∧ 1 < c.toNat) ∨ (0 < i ∧ c.toNat = 0))) (h : ¬ c.toNat < 128) : tkI i n s false = tkI (i + 1) (n + 2 ^ (7 * i) * (c.toNat % 128)) s2 false := by
 unfold tkI
 rw [if_neg (by simp), if_neg (by simp), hc, h2]
 simp only [tk]
 rw [if_neg hbad, if_neg h]
 cases hk : tk (i + 1) r with
 | none => rfl
 | some y =>
  obtain ⟨m, q⟩ := y
  simp only [Option.map_some]
  congr 1
  rw [Nat.mul_add, show 7 * (i + 1) = 7 * i + 7 by omega, Nat.pow_add, Nat.add_assoc, Nat.mul_assoc]
theorem tkI_end (i n : Nat) (s s2 : ByteArray) (c : UInt8) (r : List UInt8) (hc : bl s = c :: r) (h2 : bl s2 = r) (hbad : ¬ ((i = 9 ∧ 1 < c.toNat) ∨ (0 < i ∧ c.toNat = 0))) (h : c.toNat < 128) : tkI i n s false = (n + 2 ^ (7 * i) * (c.toNat % 128), some (bl s2)) := by
 unfold tkI
 rw [if_neg (by simp), hc, h2]
 simp only [tk]
 rw [if_neg hbad, if_pos h, Nat.mod_eq_of_lt h]
theorem rdGroups_any (p : Nat) (s : ByteArray) (bad : Bool) (w : World) (h : Rd w p s bad) :
  Calls Tryz.prog 159 #[.pointer (some ⟨p, 0, none⟩)] w fun e w' => e = .returned (.int .u64 ((tkI 0 0 s bad).1 : Nat)) ∧ RdTo w w' p (tkI 0 0 s bad).2 := by
 have H0 := Lib.hid h
 clear h
 go_enter Tryz.func159, Tryz.ntmps159
 go_wp2
 go_loopw [3, 4] (fun x c wr => ∃ (n i : Nat) (s' : ByteArray) (b' : Bool), x = .int .u64 (n : Int) ∧ c = .int .i64 (i : Int) ∧ i ≤ 9 ∧ n < 2 ^ (7 * i) ∧ Rd wr p s' b' ∧ Fr (RdS p) w wr ∧ tkI 0 0 s bad = tkI i n s' b') (fun _ c _ => 9 - (intOf c).toNat)
 case atStart => exact ⟨0, 0, s, bad, rfl, rfl, by omega, by simp, H0.out, Fr.refl _ _, rfl⟩
 case round =>
  obtain ⟨n, i, s', b', rfl, rfl, hi, hn, hr, hf, he⟩ := hrel
  have HF := Lib.hid hf
  have HE := Lib.hid he
  have HR := Lib.hid (rdRaw_any p s' b' 1 wr hr)
  have HN := Lib.hid hn
  clear hf he hr hn
  by_cases hb : b' = true ∨ s'.size = 0
  ·have hr : rawOut s' b' 1 = (ByteArray.empty, s', true) := by unfold rawOut; rw [if_pos (by rcases hb with h | h; exact .inl h; exact .inr (.inr (by omega)))]
   have ht : tkI i n s' b' = (0, none) := by
    unfold tkI
    rcases hb with h | h
    ·rw [if_pos h]
    ·split
     ·rfl
     ·have : bl s' = [] := List.length_eq_zero_iff.1 h
      rw [this]; rfl
   rw [hr] at HR
   rw [ht] at HE
   clear hr ht hb
   go_wp2_with fail
   refine HR.out.mono ?_
   rintro e w1 ⟨rfl, h1, hf1⟩
   go_wp2
   go_ret
   exact ⟨by rw [HE.out]; rfl, s', true, h1, by rw [HE.out]; rfl, HF.out.trans hf1 (fun _ _ h => h)⟩
  ·obtain ⟨c, r, hc⟩ : ∃ c r, bl s' = c :: r := by
    cases hbs : bl s' with
    | nil => exact absurd (.inr (congrArg List.length hbs)) hb
    | cons c r => exact ⟨c, r, rfl⟩
   have hb1 : b' = false := by cases b' with | false => rfl | true => exact absurd (.inl rfl) hb
   have hs1 : 1 ≤ s'.size := by have : s'.size ≠ 0 := fun h => hb (.inr h); omega
   have hr : rawOut s' b' 1 = (s'.extract 0 1, s'.extract 1 s'.size, false) := by unfold rawOut; rw [if_neg (by rw [hb1]; simp; omega)]; rfl
   rw [hr] at HR
   subst hb1
   have ht0 : (s'.extract 0 1).size = 1 := by simp; omega
   have hbt : bl (s'.extract 0 1) = [c] := by rw [ext_bl, hc]; rfl
   have htc : ∀ h, (s'.extract 0 1)[0]'h = c := by
    intro h
    have h2 : (bl (s'.extract 0 1))[0]? = some c := by rw [hbt]; rfl
    have h3 : (bl (s'.extract 0 1))[0]? = some ((s'.extract 0 1)[0]'h) := List.getElem?_eq_getElem (show 0 < (bl (s'.extract 0 1)).length from h)
    rw [h3] at h2; injection h2
   have hbr : bl (s'.extract 1 s'.size) = r := by
    rw [ext_bl, hc, List.take_of_length_le]
    ·rfl
    ·have := congrArg List.length hc
     rw [show (bl s').length = s'.size from rfl] at this
     simp at this ⊢; omega
   generalize s'.extract 0 1 = t at *
   generalize s'.extract 1 s'.size = s2 at *
   have HT := Lib.hid ht0
   have HI := Lib.hid hi
   have q0 : t.toList.isEmpty = false := by
    rw [ByteArray.toList_eq, show t.data.toList = [c] from hbt]; rfl
   have ht1 : 0 < t.size := by omega
   simp only at HR
   clear hb hr ht0 hi hs1 hbt
   have hcl := c.toNat_lt
   obtain ⟨x, hx⟩ : ∃ x, x = c.toNat := ⟨_, rfl⟩
   rw [← hx] at hcl
   have htc' : ∀ h, ((t[0]'h).toNat : Int) = (x : Int) := fun h => by rw [htc h, hx]
   have hwc : IntKind.u64.wrap (x : Int) = (x : Int) := by rw [IntKind.wrap_u64]; omega
   clear htc
   by_cases hbad : (i = 9 ∧ 1 < x) ∨ (0 < i ∧ x = 0)
   ·have htk : tkI i n s' false = (0, none) := by
     unfold tkI
     rw [if_neg (by simp), hc]
     simp only [tk]
     rw [if_pos (by rw [← hx]; exact hbad)]
    rw [htk] at HE
    clear htk hc hx
    rcases hbad with ⟨rfl, h1x⟩ | ⟨hi0, rfl⟩
    ·have q1 : decide ((1 : Int) < (x : Int)) = true := by rw [decide_eq_true_eq]; omega
     go_wp2_with fail
     refine HR.out.mono ?_
     rintro e w1 ⟨rfl, h1, hf1⟩
     have HFA := Lib.hid (fail_any p s2 false w1 h1)
     have HF1 := Lib.hid hf1
     clear h1 hf1
     go_wp2_with fail
     refine HFA.out.mono ?_
     rintro e w2 ⟨rfl, h2, hf2⟩
     go_wp2
     go_ret
     exact ⟨by rw [HE.out]; rfl, s2, true, h2, by rw [HE.out]; rfl, (HF.out.trans HF1.out (fun _ _ h => h)).trans hf2 (fun _ _ h => h)⟩
    ·by_cases h9 : i = 9
     ·subst h9
      go_wp2_with fail
      refine HR.out.mono ?_
      rintro e w1 ⟨rfl, h1, hf1⟩
      have HFA := Lib.hid (fail_any p s2 false w1 h1)
      have HF1 := Lib.hid hf1
      clear h1 hf1
      go_wp2_with fail
      refine HFA.out.mono ?_
      rintro e w2 ⟨rfl, h2, hf2⟩
      go_wp2
      go_ret
      exact ⟨by rw [HE.out]; rfl, s2, true, h2, by rw [HE.out]; rfl, (HF.out.trans HF1.out (fun _ _ h => h)).trans hf2 (fun _ _ h => h)⟩
     ·have q1 : ((i : Int) == 9) = false := by rw [beq_eq_false_iff_ne]; omega
      have q3 : decide ((0 : Int) < (i : Int)) = true := by rw [decide_eq_true_eq]; omega
      go_wp2_with fail
      refine HR.out.mono ?_
      rintro e w1 ⟨rfl, h1, hf1⟩
      have HFA := Lib.hid (fail_any p s2 false w1 h1)
      have HF1 := Lib.hid hf1
      clear h1 hf1
      go_wp2_with fail
      refine HFA.out.mono ?_
      rintro e w2 ⟨rfl, h2, hf2⟩
      go_wp2
      go_ret
      exact ⟨by rw [HE.out]; rfl, s2, true, h2, by rw [HE.out]; rfl, (HF.out.trans HF1.out (fun _ _ h => h)).trans hf2 (fun _ _ h => h)⟩
   ·have HXC := Lib.hid hx
    clear hx
    have hand : bits .and .u64 (x : Int) 127 = ((x % 128 : Nat) : Int) := by
     rw [show (127 : Int) = ((127 : Nat) : Int) from rfl, u64_and_nat _ _ (by omega) (by omega)]
     congr 1
     exact Nat.and_two_pow_sub_one_eq_mod x 7
    have hi : i ≤ 9 := HI.out
    have hop := or_part n x i hi HN.out (fun h => by omega)
    obtain ⟨ho1, ho2, ho3⟩ := hop
    have HO2 := Lib.hid ho2
    have HO3 := Lib.hid ho3
    clear ho2 ho3
    by_cases h128 : x < 128
    ·have hE := HE.out
     rw [tkI_end i n s' s2 c r hc hbr (by rw [← HXC.out]; exact hbad) (by rw [← HXC.out]; exact h128), ← HXC.out] at hE
     have HE2 := Lib.hid hE
     have q5 : decide ((x : Int) < 128) = true := by rw [decide_eq_true_eq]; omega
     clear hc hbr HE hE h128
     generalize n + 2 ^ (7 * i) * (x % 128) = N at *
     by_cases hi0 : i = 0
     ·subst hi0
      have ho0 : bits .or .u64 (n : Int) ((x : Int) % 128) = (N : Int) := by
       rw [← ho1, IntKind.wrap_u64, Nat.mul_zero, Int.pow_zero, Int.mul_one, show (x : Int) % 128 % 18446744073709551616 = (x : Int) % 128 by omega]
      clear hbad ho1
      go_wp2_with fail
      refine HR.out.mono ?_
      rintro e w1 ⟨rfl, h1, hf1⟩
      have HF1 := Lib.hid hf1
      have H1 := Lib.hid h1
      clear h1 hf1
      go_wp2
      go_ret
      exact ⟨by rw [HE2.out]; rfl, s2, false, H1.out, by rw [HE2.out]; rfl, HF.out.trans HF1.out (fun _ _ h => h)⟩
     ·by_cases hi9 : i = 9
      ·subst hi9
       have hx1 : x = 1 := by omega
       subst hx1
       have hw9 : IntKind.u64.wrap 9223372036854775808 = 9223372036854775808 := by rw [IntKind.wrap_u64]; rfl
       have hand1 : bits .and .u64 1 127 = 1 := hand
       have ho9 : bits .or .u64 (n : Int) 9223372036854775808 = (N : Int) := by
        rw [← ho1]; congr 1
       have ho9' : bits .or .u64 (n : Int) (IntKind.u64.wrap (bits .and .u64 1 127 * 9223372036854775808)) = (N : Int) := by
        rw [hand1, Int.one_mul, hw9]; exact ho9
       clear hbad hand ho1
       go_wp2_with fail
       refine HR.out.mono ?_
       rintro e w1 ⟨rfl, h1, hf1⟩
       have HF1 := Lib.hid hf1
       have H1 := Lib.hid h1
       clear h1 hf1
       go_wp2
       go_ret
       exact ⟨by rw [HE2.out]; rfl, s2, false, H1.out, by rw [HE2.out]; rfl, HF.out.trans HF1.out (fun _ _ h => h)⟩
      ·have q3 : 0 < i := by omega
       have q1 : ((i : Int) == 9) = false := by rw [beq_eq_false_iff_ne]; omega
       have q4 : ((x : Int) == 0) = false := by rw [beq_eq_false_iff_ne]; omega
       have hi1 : (0 : Int) ≤ 7 * (i : Int) := by omega
       have hi2 : 7 * (i : Int) ≤ 63 := by omega
       clear hbad
       go_wp2_with fail
       refine HR.out.mono ?_
       rintro e w1 ⟨rfl, h1, hf1⟩
       have HF1 := Lib.hid hf1
       have H1 := Lib.hid h1
       clear h1 hf1
       go_wp2
       go_ret
       exact ⟨by rw [HE2.out]; rfl, s2, false, H1.out, by rw [HE2.out]; rfl, HF.out.trans HF1.out (fun _ _ h => h)⟩
    ·have hx9 : i < 9 := by
      rcases Nat.lt_or_ge i 9 with h | h
      ·exact h
      ·exact absurd (.inl ⟨by omega, by omega⟩) hbad
     have hE := HE.out
     rw [tkI_more i n s' s2 c r hc hbr (by rw [← HXC.out]; exact hbad) (by rw [← HXC.out]; exact h128), ← HXC.out] at hE
     have HE2 := Lib.hid hE
     have q1 : ((i : Int) == 9) = false := by rw [beq_eq_false_iff_ne]; omega
     have q4 : ((x : Int) == 0) = false := by rw [beq_eq_false_iff_ne]; omega
     have q5 : decide ((x : Int) < 128) = false := by rw [decide_eq_false_iff_not]; omega
     clear hbad h128 hc hbr HE hE
     generalize n + 2 ^ (7 * i) * (x % 128) = N at *
     by_cases hi0 : i = 0
     ·subst hi0
      have ho0 : bits .or .u64 (n : Int) ((x : Int) % 128) = (N : Int) := by
       rw [← ho1, IntKind.wrap_u64, Nat.mul_zero, Int.pow_zero, Int.mul_one, show (x : Int) % 128 % 18446744073709551616 = (x : Int) % 128 by omega]
      clear ho1 q1
      go_wp2_with fail
      refine HR.out.mono ?_
      rintro e w1 ⟨rfl, h1, hf1⟩
      have HF1 := Lib.hid hf1
      have H1 := Lib.hid h1
      clear h1 hf1
      go_wp2
      go_roundw
      case rel => exact ⟨N, 1, s2, false, rfl, rfl, by omega, HO3.out, H1.out, HF.out.trans HF1.out (fun _ _ h => h), HE2.out⟩
      case measure => simp [intOf]
     ·have q3 : 0 < i := by omega
      have hi1 : (0 : Int) ≤ 7 * (i : Int) := by omega
      have hi2 : 7 * (i : Int) ≤ 63 := by omega
      go_wp2_with fail
      refine HR.out.mono ?_
      rintro e w1 ⟨rfl, h1, hf1⟩
      have HF1 := Lib.hid hf1
      have H1 := Lib.hid h1
      clear h1 hf1
      go_wp2
      go_roundw
      case rel => exact ⟨N, i + 1, s2, false, by go_num, by go_num, by omega, HO3.out, H1.out, HF.out.trans HF1.out (fun _ _ h => h), HE2.out⟩
      case measure => simp [intOf]; omega
end Go.Proofs.YtdbfaknpfepnfaaGreatDoor


namespace Go.Proofs.YtdbfaknpfepnfaaGreatDoor
open Go.RowKit CodecP

theorem tkI_lt (s : ByteArray) (bad : Bool) : (tkI 0 0 s bad).1 < 18446744073709551616 := by
 unfold tkI
 split
 ·decide
 ·cases hk : tk 0 (bl s) with
  | none => decide
  | some y =>
   obtain ⟨m, r⟩ := y
   have := (grp_tk m _ _ hk).2
   simp only
   omega
def sizeO (s : ByteArray) (bad : Bool) : Nat × Option (List UInt8) := if 9223372036854775808 ≤ (tkI 0 0 s bad).1 then (0, none) else tkI 0 0 s bad
theorem rdSize_any (p : Nat) (s : ByteArray) (bad : Bool) (w : World) (h : Rd w p s bad) :
  Calls Tryz.prog 128 #[.pointer (some ⟨p, 0, none⟩)] w fun e w' => e = .returned (.int .i64 ((sizeO s bad).1 : Nat)) ∧ RdTo w w' p (sizeO s bad).2 := by
 have HG := Lib.hid (rdGroups_any p s bad w h)
 have hl := tkI_lt s bad
 unfold sizeO
 clear h
 generalize tkI 0 0 s bad = r at *
 obtain ⟨n, o⟩ := r
 simp only at *
 by_cases hn : 9223372036854775808 ≤ n
 ·rw [if_pos hn]
  have q1 : decide ((9223372036854775808 : Int) ≤ (n : Int)) = true := by rw [decide_eq_true_eq]; omega
  clear hn hl
  go_enter Tryz.func128, Tryz.ntmps128
  go_wp2_with fail
  refine HG.out.mono ?_
  rintro e w1 ⟨rfl, s1, b1, h1, hs1, hf1⟩
  have HFA := Lib.hid (fail_any p s1 b1 w1 h1)
  clear h1 hs1
  go_wp2_with fail
  refine HFA.out.mono ?_
  rintro e w2 ⟨rfl, h2, hf2⟩
  go_wp2
  go_ret
  exact ⟨rfl, s1, true, h2, rfl, hf1.trans hf2 (fun _ _ h => h)⟩
 ·rw [if_neg hn]
  have q1 : decide ((9223372036854775808 : Int) ≤ (n : Int)) = false := by rw [decide_eq_false_iff_not]; omega
  have hw : IntKind.i64.wrap (n : Int) = (n : Int) := IntWalk.i64_in _ (by omega)
  have hw2 : wrap64 (n : Int) = (n : Int) := IntWalk.wrap64_in _ (by omega)
  clear hn hl
  go_enter Tryz.func128, Tryz.ntmps128
  go_wp2_with fail
  refine HG.out.mono ?_
  rintro e w1 ⟨rfl, h1⟩
  have H1 := Lib.hid h1
  clear h1
  go_wp2
  go_ret
  exact ⟨rfl, H1.out⟩
theorem rdFixed8_any (p : Nat) (s : ByteArray) (bad : Bool) (w : World) (h : Rd w p s bad) :
  Calls Tryz.prog 65 #[.pointer (some ⟨p, 0, none⟩)] w fun e w' => e = .returned (.int .u64 (value (rawOut s bad 8).1.data.toList : Nat)) ∧ Rd w' p (rawOut s bad 8).2.1 (rawOut s bad 8).2.2 ∧ Fr (RdS p) w w' := by
 have HR := Lib.hid (rdFixed_any p s bad 8 w h (by omega))
 clear h
 have e4 : ((8 : Nat) : Int) = 8 := rfl
 rw [e4] at HR
 clear e4
 generalize rawOut s bad 8 = r at *
 generalize value r.1.data.toList = x at *
 go_enter Tryz.func65, Tryz.ntmps65
 go_wp2_with fail
 refine HR.out.mono ?_
 rintro e w1 ⟨rfl, h1, hf⟩
 go_wp2
 go_ret
 exact ⟨rfl, h1, hf⟩
theorem left_any (p : Nat) (s : ByteArray) (bad : Bool) (w : World) (h : Rd w p s bad) :
  Calls Tryz.prog 125 #[.pointer (some ⟨p, 0, none⟩)] w fun e w' => e = .returned (.int .i64 ((if bad then 0 else s.size : Nat) : Int)) ∧ w = w' := by
 have HG := Lib.hid (good_any p s bad w h)
 have c0 := h.c0
 have hs := h.2
 unfold maxLen at hs
 clear h
 cases bad
 ·go_enter Tryz.func125, Tryz.ntmps125
  go_wp2_with fail
  refine HG.out.mono ?_
  rintro e w1 ⟨rfl, rfl⟩
  go_wp2
  go_ret
  exact ⟨rfl, rfl⟩
 ·go_enter Tryz.func125, Tryz.ntmps125
  go_wp2_with fail
  refine HG.out.mono ?_
  rintro e w1 ⟨rfl, rfl⟩
  go_wp2
  go_ret
  exact ⟨rfl, rfl⟩
theorem end_any (p : Nat) (s : ByteArray) (bad : Bool) (w : World) (h : Rd w p s bad) :
  Calls Tryz.prog 122 #[.pointer (some ⟨p, 0, none⟩)] w fun e w' => e = .returned (.bool (!bad && s.size == 0)) ∧ w = w' := by
 have HG := Lib.hid (good_any p s bad w h)
 have c0 := h.c0
 have hs := h.2
 unfold maxLen at hs
 clear h
 cases bad
 ·have e0 : ((s.size : Int) == 0) = (s.size == 0) := by
   rw [Bool.eq_iff_iff, beq_iff_eq, beq_iff_eq]; omega
  go_enter Tryz.func122, Tryz.ntmps122
  go_wp2_with fail
  refine HG.out.mono ?_
  rintro e w1 ⟨rfl, rfl⟩
  go_wp2
  go_ret
  exact ⟨rfl, rfl⟩
 ·go_enter Tryz.func122, Tryz.ntmps122
  go_wp2_with fail
  refine HG.out.mono ?_
  rintro e w1 ⟨rfl, rfl⟩
  go_wp2
  go_ret
  exact ⟨rfl, rfl⟩
def rawS (n : Int) : Option (List UInt8) → List UInt8 × Option (List UInt8)
 | none => ([], none)
 | some l => if n < 0 ∨ (l.length : Int) < n then ([], none) else (l.take n.toNat, some (l.drop n.toNat))
theorem rawOut_st (s : ByteArray) (bad : Bool) (n : Int) : (rawOut s bad n).1 = str (rawS n (st s bad)).1 ∧ st (rawOut s bad n).2.1 (rawOut s bad n).2.2 = (rawS n (st s bad)).2 := by
 unfold rawOut st rawS
 cases bad
 ·simp only [Bool.false_eq_true, false_or, if_false]
  by_cases h : n < 0 ∨ (s.size : Int) < n
  ·rw [if_pos h, if_pos (show n < 0 ∨ ((bl s).length : Int) < n from h)]
   exact ⟨rfl, rfl⟩
  ·rw [if_neg h, if_neg (show ¬ (n < 0 ∨ ((bl s).length : Int) < n) from h)]
   refine ⟨?_, ?_⟩
   ·rw [← str_bl (s.extract 0 n.toNat), ext_bl]; simp
   ·simp only [Bool.false_eq_true, if_false]
    rw [ext_bl, List.take_of_length_le (by rw [List.length_drop]; exact Nat.le_refl _)]
 ·simp; rfl
end Go.Proofs.YtdbfaknpfepnfaaGreatDoor


