
/-
  The walks of a writer's Raw, fixed and Fixed4.
-/
import Derived.Test.YtdbfaknpfepnfaaGreatDoorWriterW
namespace Go.Proofs.YtdbfaknpfepnfaaGreatDoor
open Go.RowKit CodecP

/-- Bytes of a text that were laid into a new block. -/
theorem bs_bytes (w : World) (s : ByteArray) : BsAt (Lib.bytesWorld w 5 s) ⟨w.heap.size, 0, none⟩ s.data.toList := by
  intro j x hj
  have hjl : j < s.size := by
    rcases Nat.lt_or_ge j s.size with h | h
    · exact h
    · rw [List.getElem?_eq_none (by rw [u8s_length]; simpa using h)] at hj; simp at hj
  rw [Go.WideShapes.add_plain, Nat.zero_add, Lib.bytesWorld_cell w _ s j hjl]
  unfold u8s at hj
  rw [List.getElem?_map, List.getElem?_eq_getElem (by simpa using hjl)] at hj
  rw [← hj, List.getD_eq_getElem?_getD, List.getElem?_eq_getElem (by simpa using hjl)]
  rfl

theorem raw_any (p o : Nat) (cs : Array Value) (t : TypeId) (g : Option Nat) (l : List UInt8) (s : ByteArray) (w : World) (h : Wr w p o cs t g l) (hlen : l.length + s.size ≤ 1099511627776) :
    Calls Tryz.prog 60 #[.pointer (some ⟨p, o, none⟩), .string s] w fun e w' => e = .returned (.pointer (some ⟨p, o, none⟩)) ∧ WrBy w w' p o cs t g (l ++ s.data.toList) := by
  have hcv := fun W => Lib.run_convert_string_bytes (P := Tryz.prog) W 9 94 5 s Tryz.underlying9 Tryz.underlying94 Tryz.underlying5
  have hf : Fr (WrS p g) w (Lib.bytesWorld w 5 s) := (Fr.refl _ w).bytes _ _
  have hw : Wr (Lib.bytesWorld w 5 s) p o cs t g l := h.keep ((Fr.refl (fun k => w.heap.size ≤ k) w).bytes _ _) (fun k hk => by
    rcases hk with rfl | hk
    · have := h.lt; omega
    · have := h.lt2 k hk; omega)
  have HW := Lib.hid hw
  have HF := Lib.hid hf
  clear hf hw h
  go_enter Tryz.func60, Tryz.ntmps60
  go_wp2_with fail
  refine (put_any p o cs t g l ⟨w.heap.size, 0, none⟩ _ s.data.toList _ HW.out (bs_bytes w s) hlen).mono ?_
  rintro e w' ⟨rfl, hby⟩
  go_wp2
  go_ret
  exact ⟨rfl, WrBy.trans HF.out (.inl rfl) hby⟩

theorem byte_at (n m : Nat) : ((n : Int) / (2 : Int) ^ (8 * m)) % 256 = ((n / 256 ^ m % 256 : Nat) : Int) := by
  rw [show (2 : Int) ^ (8 * m) = ((256 ^ m : Nat) : Int) by rw [Int.pow_mul]; simp]
  rw [← Int.natCast_ediv]; omega
theorem u8s_byte (n m : Nat) : u8s [UInt8.ofNat (n / 256 ^ m % 256)] = [Value.int .u8 ((n / 256 ^ m % 256 : Nat) : Int)] := by
  unfold u8s
  have : n / 256 ^ m % 256 < 256 := Nat.mod_lt _ (by decide)
  simp
theorem bs_one (w : World) (x : Value) (t : TypeId) (l : List UInt8) (h : u8s l = [x]) : BsAt (w.alloc (.cells #[x] t)) ⟨w.heap.size, 0, none⟩ l := by
  intro j y hj
  rw [h] at hj
  match j, hj with
  | 0, hj => simp at hj; subst hj; simp [Addr.add]

set_option maxHeartbeats 400000 in
theorem fixed_any (p o : Nat) (cs : Array Value) (t : TypeId) (g : Option Nat) (l : List UInt8) (n size : Nat) (w : World) (h : Wr w p o cs t g l) (hs : size ≤ 8) (hlen : l.length + 8 ≤ 1099511627776) :
    Calls Tryz.prog 107 #[.pointer (some ⟨p, o, none⟩), .int .u64 n, .int .i64 size] w fun e w' => e = .returned (.pointer (some ⟨p, o, none⟩)) ∧ WrBy w w' p o cs t g (l ++ fixed size n) := by
  have hby := WrBy.refl h
  clear h
  go_enter Tryz.func107, Tryz.ntmps107
  go_wp2
  go_loopw [7] (fun i wr => (∃ m k : Nat, m + k + 1 = size ∧ i = .int .i64 m ∧ WrBy w wr p o cs t g (l ++ (fixed size n).take k)) ∨ (i = .int .i64 (-1) ∧ WrBy w wr p o cs t g (l ++ fixed size n))) (fun i _ => (intOf i + 1).toNat)
  case atStart =>
    by_cases hz : size = 0
    · right; subst hz; exact ⟨rfl, by simpa [fixed] using hby⟩
    · left; exact ⟨size - 1, 0, by omega, by go_num, by simpa using hby⟩
  case round =>
    clear hby
    rcases hrel with ⟨m, k, hmk, rfl, hby⟩ | ⟨rfl, hby⟩
    · have hby2 := byte_at n m
      have hu := u8s_byte n m
      have htk := fixed_take size n k (by omega)
      rw [show size - 1 - k = m by omega] at htk
      generalize n / 256 ^ m % 256 = b at *
      have HU := Lib.hid hu
      have HT := Lib.hid htk
      clear hu htk
      obtain ⟨⟨g', hg', hw⟩, hf⟩ := hby
      have HW := Lib.hid hw
      have HG := Lib.hid hg'
      have HF := Lib.hid hf
      clear hg' hw hf
      go_wp2_with fail
      have hw2 : Wr (wr.alloc (.cells #[.int .u8 (b : Int)] 5)) p o cs t g' (l ++ (fixed size n).take k) := HW.out.keep ((Fr.refl (fun _ => False) wr).alloc _) (fun _ _ h => h)
      have hlk : ((fixed size n).take k).length ≤ 7 := by rw [List.length_take, fixed_length]; omega
      refine (put_any p o cs t g' _ ⟨wr.heap.size, 0, none⟩ 1 [UInt8.ofNat b] _ hw2 (bs_one _ _ _ _ HU.out) (by rw [List.length_append]; simp only [List.length_cons, List.length_nil]; omega)).mono ?_
      rintro e w2 ⟨rfl, hby⟩
      rw [List.append_assoc, ← HT.out] at hby
      have hby3 : WrBy w w2 p o cs t g (l ++ (fixed size n).take (k + 1)) := WrBy.trans (HF.out.alloc _) HG.out ⟨hby.wr.imp fun g2 h2 => h2, hby.fr⟩
      clear hby hw2
      have HBY := Lib.hid hby3
      clear hby3
      go_wp2
      go_roundw
      case rel =>
        cases m with
        | zero => right; exact ⟨by go_num, by have := HBY.out; rwa [List.take_of_length_le (by rw [fixed_length]; omega)] at this⟩
        | succ m => left; exact ⟨m, k + 1, by omega, by go_num, HBY.out⟩
      case measure => simp [intOf]
    · go_wp2
      go_ret
      exact ⟨rfl, hby⟩
theorem fixed4_any (p o : Nat) (cs : Array Value) (t : TypeId) (g : Option Nat) (l : List UInt8) (n : Nat) (w : World) (h : Wr w p o cs t g l) (hn : n < 4294967296) (hlen : l.length + 8 ≤ 1099511627776) :
    Calls Tryz.prog 118 #[.pointer (some ⟨p, o, none⟩), .int .u32 n] w fun e w' => e = .returned (.pointer (some ⟨p, o, none⟩)) ∧ WrBy w w' p o cs t g (l ++ fixed 4 n) := by
  have H := Lib.hid h
  clear h
  go_enter Tryz.func118, Tryz.ntmps118
  go_wp2_with fail
  refine (fixed_any p o cs t g l n 4 w H.out (by omega) hlen).mono ?_
  rintro e w' ⟨rfl, hby⟩
  go_wp2
  go_ret
  exact ⟨rfl, hby⟩
end Go.Proofs.YtdbfaknpfepnfaaGreatDoor
