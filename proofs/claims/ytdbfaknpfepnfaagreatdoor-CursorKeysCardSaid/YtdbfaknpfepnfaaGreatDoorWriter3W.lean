
/-
  The walks of a writer's groups, Size, Signed, Fixed8, Text.
-/
import Derived.Test.YtdbfaknpfepnfaaGreatDoorWriter2W
namespace Go.Proofs.YtdbfaknpfepnfaaGreatDoor
open Go.RowKit CodecP

theorem groups_low (f n : Nat) (h : n < 128) : groups f n = [UInt8.ofNat n] := by cases f <;> simp [groups, h]
theorem groups_high (f n : Nat) (h : ¬ n < 128) : groups (f + 1) n = UInt8.ofNat (n % 128 + 128) :: groups f (n / 128) := by simp [groups, h]
theorem groups_length (f : Nat) : ∀ n, (groups f n).length ≤ f + 1 := by
  induction f with
  | zero => intro n; simp [groups]
  | succ f ih => intro n; simp only [groups]; split <;> simp; exact ih _
theorem or128 (n : Nat) : bits .or .u8 (((n : Int)) % 256) 128 = ((n % 128 + 128 : Nat) : Int) := by
  rw [show (n : Int) % 256 = ((n % 256 : Nat) : Int) by omega, show (128 : Int) = ((128 : Nat) : Int) from rfl, u8_or_nat _ _ (by omega) (by omega)]
  congr 1
  have h : n % 256 = 128 * (n / 128 % 2) + n % 128 := by omega
  rw [h]
  rcases Nat.mod_two_eq_zero_or_one (n / 128) with e | e <;> rw [e]
  · rw [show 128 * 0 + n % 128 = n % 128 by omega]
    have := Nat.two_pow_add_eq_or_of_lt (i := 7) (b := n % 128) (by omega) 1
    rw [show (2 : Nat) ^ 7 * 1 = 128 from rfl] at this
    rw [Nat.or_comm, ← this]; omega
  · have := Nat.two_pow_add_eq_or_of_lt (i := 7) (b := n % 128) (by omega) 1
    rw [show (2 : Nat) ^ 7 * 1 = 128 from rfl] at this
    rw [show 128 * 1 + n % 128 = 128 + n % 128 by omega, this, Nat.or_assoc, Nat.or_comm (n % 128) 128, ← Nat.or_assoc, Nat.or_self, ← this]
    omega
theorem wgroups_any (p o : Nat) (cs : Array Value) (t : TypeId) (g : Option Nat) (l : List UInt8) (n : Nat) (w : World) (h : Wr w p o cs t g l) (hn : n < 18446744073709551616) (hlen : l.length + 16 ≤ 1099511627776) :
    Calls Tryz.prog 152 #[.pointer (some ⟨p, o, none⟩), .int .u64 n] w fun e w' => e = .returned (.pointer (some ⟨p, o, none⟩)) ∧ WrBy w w' p o cs t g (l ++ grp n) := by
  have hby := WrBy.refl h
  have HNN := Lib.hid hn
  clear h hn
  go_enter Tryz.func152, Tryz.ntmps152
  go_wp2
  go_loopw [1] (fun x wr => ∃ (m f : Nat) (d : List UInt8), x = .int .u64 (m : Int) ∧ f ≤ 9 ∧ m < 18446744073709551616 ∧ m < 2 ^ (7 * f + 1) ∧ d.length + f = 9 ∧ grp n = d ++ groups f m ∧ WrBy w wr p o cs t g (l ++ d)) (fun x _ => (intOf x).toNat)
  case atStart => exact ⟨n, 9, [], rfl, by omega, HNN.out, by simpa using HNN.out, rfl, rfl, by simpa using hby⟩
  case round =>
    clear hby
    obtain ⟨m, f, d, rfl, hf, hmx, hm, hd, hgr, hby⟩ := hrel
    obtain ⟨⟨g', hg', hw⟩, hfr⟩ := hby
    have HW := Lib.hid hw
    have HG := Lib.hid hg'
    have HF := Lib.hid hfr
    have HX := Lib.hid hmx
    clear hg' hw hfr hmx
    by_cases hlt : m < 128
    · rw [groups_low f m hlt] at hgr
      have hu : u8s [UInt8.ofNat m] = [Value.int .u8 ((m : Nat) : Int)] := by
        unfold u8s; simp only [List.map_cons, List.map_nil, UInt8.toNat_ofNat']; rw [Nat.mod_eq_of_lt (by omega)]
      have em : (m : Int) % 256 = (m : Int) := by omega
      have HGR := Lib.hid hgr
      have hli : decide ((128 : Int) ≤ (m : Int)) = false := by rw [decide_eq_false_iff_not]; omega
      clear hgr hm hlt
      go_wp2_with fail
      have hw2 : Wr (wr.alloc (.cells #[.int .u8 (m : Int)] 5)) p o cs t g' (l ++ d) := HW.out.keep ((Fr.refl (fun _ => False) wr).alloc _) (fun _ _ h => h)
      refine (put_any p o cs t g' _ ⟨wr.heap.size, 0, none⟩ 1 [UInt8.ofNat m] _ hw2 (bs_one _ _ _ _ hu) (by rw [List.length_append]; simp only [List.length_cons, List.length_nil]; omega)).mono ?_
      rintro e w2 ⟨rfl, hby⟩
      rw [List.append_assoc, ← HGR.out] at hby
      have hby3 : WrBy w w2 p o cs t g (l ++ grp n) := WrBy.trans (HF.out.alloc _) HG.out ⟨hby.wr.imp fun g2 h2 => h2, hby.fr⟩
      clear hby hw2
      go_wp2
      go_ret
      exact ⟨rfl, hby3⟩
    · obtain ⟨f, rfl⟩ : ∃ q, f = q + 1 := ⟨f - 1, by
        have : f ≠ 0 := by rintro rfl; simp at hm; omega
        omega⟩
      have hm2 : m / 128 < 2 ^ (7 * f + 1) := by
        rw [Nat.div_lt_iff_lt_mul (by omega)]
        rw [show 7 * (f + 1) + 1 = (7 * f + 1) + 7 by omega, Nat.pow_add] at hm
        exact hm
      rw [groups_high f m hlt] at hgr
      have ho := or128 m
      have hu : u8s [UInt8.ofNat (m % 128 + 128)] = [Value.int .u8 ((m % 128 + 128 : Nat) : Int)] := by
        unfold u8s; simp only [List.map_cons, List.map_nil, UInt8.toNat_ofNat']; rw [Nat.mod_eq_of_lt (by omega)]
      have hgr2 : grp n = (d ++ [UInt8.ofNat (m % 128 + 128)]) ++ groups f (m / 128) := by rw [hgr]; simp
      have hge : 128 ≤ m := by omega
      generalize m % 128 + 128 = b at *
      have HU := Lib.hid hu
      have HM := Lib.hid hm2
      have HGR := Lib.hid hgr2
      have hli : decide ((128 : Int) ≤ (m : Int)) = true := by rw [decide_eq_true_eq]; omega
      have HGE := Lib.hid hge
      clear hu hgr hgr2 hm hm2 hlt hge
      go_wp2_with fail
      have hw2 : Wr (wr.alloc (.cells #[.int .u8 (b : Int)] 5)) p o cs t g' (l ++ d) := HW.out.keep ((Fr.refl (fun _ => False) wr).alloc _) (fun _ _ h => h)
      refine (put_any p o cs t g' _ ⟨wr.heap.size, 0, none⟩ 1 [UInt8.ofNat b] _ hw2 (bs_one _ _ _ _ HU.out) (by rw [List.length_append]; simp only [List.length_cons, List.length_nil]; omega)).mono ?_
      rintro e w2 ⟨rfl, hby⟩
      rw [List.append_assoc] at hby
      have hby3 : WrBy w w2 p o cs t g (l ++ (d ++ [UInt8.ofNat b])) := WrBy.trans (HF.out.alloc _) HG.out ⟨hby.wr.imp fun g2 h2 => h2, hby.fr⟩
      clear hby hw2
      have HBY := Lib.hid hby3
      clear hby3
      go_wp2
      go_roundw
      case rel => exact ⟨m / 128, f, d ++ [UInt8.ofNat b], by go_num, by omega, by have := HX.out; omega, HM.out, by simp; omega, HGR.out, HBY.out⟩
      case measure => have := HGE.out; simp [intOf]; omega
end Go.Proofs.YtdbfaknpfepnfaaGreatDoor
