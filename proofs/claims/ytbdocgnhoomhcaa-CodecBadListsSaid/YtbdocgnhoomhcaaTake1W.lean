/-
  The walk of law 03's take: what a reader answers.
-/
import Derived.Test.YtbdocgnhoomhcaaLaysW
namespace Go.Proofs.Ytbdocgnhoomhcaa
open Go.RowKit CodecP

/-- What bytes begin with: the number, the text, what is behind; none: it isn't laid so. -/
def ask (k N : Int) (l : List UInt8) : Option (Nat × List UInt8 × List UInt8) :=
  if k = 0 then match tk 0 l with
    | none => none
    | some (n, r) => if 9223372036854775808 ≤ n then none else some (n, [], r)
  else if k = 1 then match tk 0 l with
    | none => none
    | some (n, r) => some ((unzig n % 18446744073709551616).toNat, [], r)
  else if k = 2 then if l.length < 4 then none else some (value (l.take 4), [], l.drop 4)
  else if k = 3 then if l.length < 8 then none else some (value (l.take 8), [], l.drop 8)
  else if k = 4 then match tk 0 l with
    | none => none
    | some (n, r) => if 9223372036854775808 ≤ n ∨ N < (n : Int) ∨ r.length < n then none else some (0, r.take n, r.drop n)
  else if N < 0 ∨ (l.length : Int) < N then none else some (0, l.take N.toNat, l.drop N.toNat)
/-- What a reader answers, and what is then to come. -/
def askO (k N : Int) (o : Option (List UInt8)) : Nat × List UInt8 × Option (List UInt8) :=
  match o.bind (ask k N) with
  | none => (0, [], none)
  | some (v, t, r) => (v, t, some r)
theorem askO_none (k N : Int) : askO k N none = (0, [], none) := rfl
theorem RdTo.after {w w1 w' : World} {p : Nat} {o : Option (List UInt8)} (h : Fr (RdS p) w w1) (k : RdTo w1 w' p o) : RdTo w w' p o := by
  obtain ⟨s, b, hr, hs, hf⟩ := k
  exact ⟨s, b, hr, hs, h.trans hf (fun _ _ h => h)⟩
theorem sizeO_lt (s : ByteArray) (bad : Bool) : (sizeO s bad).1 < 9223372036854775808 := by
  unfold sizeO
  split
  · decide
  · omega
theorem st_true (s : ByteArray) : st s true = none := rfl
theorem st_false (s : ByteArray) : st s false = some (bl s) := rfl
theorem askO0 (s : ByteArray) (bad : Bool) (N : Int) : askO 0 N (st s bad) = ((sizeO s bad).1, [], (sizeO s bad).2) := by
  cases bad
  · unfold askO sizeO tkI
    simp only [st_false, Option.bind_some, ask, if_true]
    cases h : tk 0 (bl s) with
    | none => simp
    | some x => obtain ⟨n, r⟩ := x; by_cases hn : 9223372036854775808 ≤ n <;> simp [hn]
  · simp [askO, sizeO, tkI, st_true]
theorem askO1 (s : ByteArray) (bad : Bool) (N : Int) : askO 1 N (st s bad) = ((unzig (tkI 0 0 s bad).1 % 18446744073709551616).toNat, [], (tkI 0 0 s bad).2) := by
  cases bad
  · unfold askO tkI
    simp only [st_false, Option.bind_some, ask, if_true]
    cases h : tk 0 (bl s) with
    | none => simp [unzig]
    | some x => obtain ⟨n, r⟩ := x; simp
  · simp [askO, tkI, st_true, unzig]
theorem rawS_nat (k : Nat) (l : List UInt8) : rawS k (some l) = if l.length < k then ([], none) else (l.take k, some (l.drop k)) := by
  by_cases hl : l.length < k
  · simp only [rawS]; rw [if_pos hl, if_pos (by omega)]
  · simp only [rawS]; rw [if_neg hl, if_neg (by omega)]; simp
theorem rawOut_low (s : ByteArray) (bad : Bool) (k : Nat) : (value (rawOut s bad k).1.data.toList, ([] : List UInt8), st (rawOut s bad k).2.1 (rawOut s bad k).2.2) =
    match (st s bad).bind (fun l => if l.length < k then none else some (value (l.take k), ([] : List UInt8), l.drop k)) with
    | none => (0, [], none)
    | some (v, t, r) => (v, t, some r) := by
  have h := rawOut_st s bad k
  have h1 : (rawOut s bad k).1.data.toList = (rawS k (st s bad)).1 := by rw [h.1]; rfl
  rw [h1, h.2]
  cases st s bad with
  | none => rfl
  | some l =>
    rw [rawS_nat]
    by_cases hl : l.length < k
    · simp [hl, value]
    · simp [hl]
theorem askO2 (s : ByteArray) (bad : Bool) (N : Int) : askO 2 N (st s bad) = (value (rawOut s bad 4).1.data.toList, [], st (rawOut s bad 4).2.1 (rawOut s bad 4).2.2) := by
  have h := rawOut_low s bad 4
  rw [show ((4 : Nat) : Int) = 4 from rfl] at h
  rw [h]
  unfold askO
  have e : (ask 2 N) = (fun l : List UInt8 => if l.length < 4 then none else some (value (l.take 4), ([] : List UInt8), l.drop 4)) := by funext l; simp [ask]
  rw [e]
theorem askO3 (s : ByteArray) (bad : Bool) (N : Int) : askO 3 N (st s bad) = (value (rawOut s bad 8).1.data.toList, [], st (rawOut s bad 8).2.1 (rawOut s bad 8).2.2) := by
  have h := rawOut_low s bad 8
  rw [show ((8 : Nat) : Int) = 8 from rfl] at h
  rw [h]
  unfold askO
  have e : (ask 3 N) = (fun l : List UInt8 => if l.length < 8 then none else some (value (l.take 8), ([] : List UInt8), l.drop 8)) := by funext l; simp [ask]
  rw [e]
theorem askO4 (s : ByteArray) (bad : Bool) (N : Int) : askO 4 N (st s bad) = (0, (textO s bad N).1, (textO s bad N).2) := by
  cases bad
  · unfold askO textO sizeO tkI
    simp only [st_false, Option.bind_some, ask, if_true]
    cases h : tk 0 (bl s) with
    | none => by_cases hN : N < 0 <;> simp [hN, rawS]
    | some x =>
      obtain ⟨n, r⟩ := x
      by_cases hn : 9223372036854775808 ≤ n
      · by_cases hN : N < 0 <;> simp [hn, hN, rawS]
      · by_cases hN : N < (n : Int)
        · simp [hn, hN]
        · by_cases hr : r.length < n
          · simp [hn, hN, rawS_nat, hr]
          · simp [hn, hN, rawS_nat, hr]
  · have e : tkI 0 0 s true = (0, none) := rfl
    unfold askO textO sizeO
    rw [e]
    simp only [st_true, Option.bind_none]
    by_cases hN : N < 0 <;> simp [hN, rawS]
theorem askO5 (s : ByteArray) (bad : Bool) (k N : Int) (h0 : k ≠ 0) (h1 : k ≠ 1) (h2 : k ≠ 2) (h3 : k ≠ 3) (h4 : k ≠ 4) : askO k N (st s bad) = (0, bl (rawOut s bad N).1, st (rawOut s bad N).2.1 (rawOut s bad N).2.2) := by
  have h := rawOut_st s bad N
  rw [h.1, h.2, bl_str]
  unfold askO
  have e : (ask k N) = (fun l : List UInt8 => if N < 0 ∨ (l.length : Int) < N then none else some (0, l.take N.toNat, l.drop N.toNat)) := by funext l; simp [ask, h0, h1, h2, h3, h4]
  rw [e]
  cases st s bad with
  | none => rfl
  | some l =>
    unfold rawS
    by_cases hl : N < 0 ∨ (l.length : Int) < N
    · simp [hl]
    · simp [hl]
theorem u64_mod (n : Int) : IntKind.u64.wrap n = (((n % 18446744073709551616).toNat : Nat) : Int) := by rw [IntKind.wrap_u64]; omega
theorem rd_box {w : World} {p : Nat} {s : ByteArray} {bad : Bool} (h : Rd w p s bad) (o : Obj) : Rd (w.alloc o) p s bad := h.keep ((Fr.refl (fun _ => False) w).alloc _) (fun h => h)
theorem take_0 (p : Nat) (s : ByteArray) (bad : Bool) (N : Int) (w : World) (h : Rd w p s bad) :
    Calls Try.prog 32 #[.pointer (some ⟨p, 0, none⟩), .agg #[.int .i64 0, .int .i64 N]] w fun e w' => e = .returned (.tuple #[.int .u64 ((askO 0 N (st s bad)).1 : Nat), .string (str (askO 0 N (st s bad)).2.1)]) ∧ RdTo w w' p (askO 0 N (st s bad)).2.2 := by
  rw [askO0]
  have C := fun o => rdSize_any p s bad (w.alloc o) (rd_box h o)
  have F := fun o => (Fr.refl (RdS p) w).alloc o
  have hlt := sizeO_lt s bad
  have HC := Lib.hid C
  have HF := Lib.hid F
  have Hh := Lib.hid h
  clear C F h
  generalize sizeO s bad = z at *
  obtain ⟨n, r⟩ := z
  dsimp only at *
  have hw : IntKind.u64.wrap (n : Int) = (n : Int) := by rw [IntKind.wrap_u64]; omega
  go_enter Try.func32, Try.ntmps32
  go_wp2_with fail
  (with_reducible refine (HC.out _).mono ?_)
  rintro e w1 ⟨rfl, hb⟩
  go_wp2
  go_ret2
  exact ⟨rfl, RdTo.after (HF.out _) hb⟩
theorem take_1 (p : Nat) (s : ByteArray) (bad : Bool) (N : Int) (w : World) (h : Rd w p s bad) :
    Calls Try.prog 32 #[.pointer (some ⟨p, 0, none⟩), .agg #[.int .i64 1, .int .i64 N]] w fun e w' => e = .returned (.tuple #[.int .u64 ((askO 1 N (st s bad)).1 : Nat), .string (str (askO 1 N (st s bad)).2.1)]) ∧ RdTo w w' p (askO 1 N (st s bad)).2.2 := by
  rw [askO1]
  have C := fun o => rdSigned_any p s bad (w.alloc o) (rd_box h o)
  have F := fun o => (Fr.refl (RdS p) w).alloc o
  have HC := Lib.hid C
  have HF := Lib.hid F
  have Hh := Lib.hid h
  clear C F h
  generalize tkI 0 0 s bad = z at *
  obtain ⟨n, r⟩ := z
  dsimp only at *
  have hw := u64_mod (unzig n)
  generalize (unzig n % 18446744073709551616).toNat = x at *
  go_enter Try.func32, Try.ntmps32
  go_wp2_with fail
  (with_reducible refine (HC.out _).mono ?_)
  rintro e w1 ⟨rfl, hb⟩
  go_wp2
  go_ret2
  exact ⟨rfl, RdTo.after (HF.out _) hb⟩
theorem take_2 (p : Nat) (s : ByteArray) (bad : Bool) (N : Int) (w : World) (h : Rd w p s bad) :
    Calls Try.prog 32 #[.pointer (some ⟨p, 0, none⟩), .agg #[.int .i64 2, .int .i64 N]] w fun e w' => e = .returned (.tuple #[.int .u64 ((askO 2 N (st s bad)).1 : Nat), .string (str (askO 2 N (st s bad)).2.1)]) ∧ RdTo w w' p (askO 2 N (st s bad)).2.2 := by
  rw [askO2]
  have C := fun o => rdFixed4_any p s bad (w.alloc o) (rd_box h o)
  have F := fun o => (Fr.refl (RdS p) w).alloc o
  have hlt : value (rawOut s bad 4).1.data.toList < 18446744073709551616 := by
    have h1 : (rawOut s bad 4).1.data.toList.length ≤ 4 := by
      rw [(rawOut_st s bad 4).1]
      show (rawS 4 (st s bad)).1.length ≤ 4
      cases st s bad with
      | none => simp [rawS]
      | some l => rw [show (4 : Int) = ((4 : Nat) : Int) from rfl, rawS_nat]; split <;> simp; omega
    have := value_lt4 _ h1
    omega
  have HC := Lib.hid C
  have HF := Lib.hid F
  have Hh := Lib.hid h
  clear C F h
  generalize rawOut s bad 4 = z at *
  obtain ⟨n, s2, b2⟩ := z
  dsimp only at *
  generalize value n.data.toList = x at *
  have hw : IntKind.u64.wrap (x : Int) = (x : Int) := by rw [IntKind.wrap_u64]; omega
  go_enter Try.func32, Try.ntmps32
  go_wp2_with fail
  (with_reducible refine (HC.out _).mono ?_)
  rintro e w1 ⟨rfl, hb, hf⟩
  have HB := Lib.hid hb
  have HG := Lib.hid hf
  clear hb hf
  go_wp2
  go_ret2
  exact ⟨rfl, RdTo.after (HF.out _) ⟨s2, b2, HB.out, rfl, HG.out⟩⟩
theorem take_3 (p : Nat) (s : ByteArray) (bad : Bool) (N : Int) (w : World) (h : Rd w p s bad) :
    Calls Try.prog 32 #[.pointer (some ⟨p, 0, none⟩), .agg #[.int .i64 3, .int .i64 N]] w fun e w' => e = .returned (.tuple #[.int .u64 ((askO 3 N (st s bad)).1 : Nat), .string (str (askO 3 N (st s bad)).2.1)]) ∧ RdTo w w' p (askO 3 N (st s bad)).2.2 := by
  rw [askO3]
  have C := fun o => rdFixed8_any p s bad (w.alloc o) (rd_box h o)
  have F := fun o => (Fr.refl (RdS p) w).alloc o
  have HC := Lib.hid C
  have HF := Lib.hid F
  have Hh := Lib.hid h
  clear C F h
  generalize rawOut s bad 8 = z at *
  obtain ⟨n, s2, b2⟩ := z
  dsimp only at *
  generalize value n.data.toList = x at *
  go_enter Try.func32, Try.ntmps32
  go_wp2_with fail
  (with_reducible refine (HC.out _).mono ?_)
  rintro e w1 ⟨rfl, hb, hf⟩
  have HB := Lib.hid hb
  have HG := Lib.hid hf
  clear hb hf
  go_wp2
  go_ret2
  exact ⟨rfl, RdTo.after (HF.out _) ⟨s2, b2, HB.out, rfl, HG.out⟩⟩
theorem take_4 (p : Nat) (s : ByteArray) (bad : Bool) (N : Int) (w : World) (h : Rd w p s bad) :
    Calls Try.prog 32 #[.pointer (some ⟨p, 0, none⟩), .agg #[.int .i64 4, .int .i64 N]] w fun e w' => e = .returned (.tuple #[.int .u64 ((askO 4 N (st s bad)).1 : Nat), .string (str (askO 4 N (st s bad)).2.1)]) ∧ RdTo w w' p (askO 4 N (st s bad)).2.2 := by
  rw [askO4]
  have C := fun o => rdText_any p s bad N (w.alloc o) (rd_box h o)
  have F := fun o => (Fr.refl (RdS p) w).alloc o
  have HC := Lib.hid C
  have HF := Lib.hid F
  have Hh := Lib.hid h
  clear C F h
  generalize textO s bad N = z at *
  obtain ⟨n, r⟩ := z
  dsimp only at *
  go_enter Try.func32, Try.ntmps32
  go_wp2_with fail
  (with_reducible refine (HC.out _).mono ?_)
  rintro e w1 ⟨rfl, hb⟩
  go_wp2
  go_ret2
  exact ⟨rfl, RdTo.after (HF.out _) hb⟩
theorem take_5 (p : Nat) (s : ByteArray) (bad : Bool) (k N : Int) (w : World) (h : Rd w p s bad) (h0 : k ≠ 0) (h1 : k ≠ 1) (h2 : k ≠ 2) (h3 : k ≠ 3) (h4 : k ≠ 4) :
    Calls Try.prog 32 #[.pointer (some ⟨p, 0, none⟩), .agg #[.int .i64 k, .int .i64 N]] w fun e w' => e = .returned (.tuple #[.int .u64 ((askO k N (st s bad)).1 : Nat), .string (str (askO k N (st s bad)).2.1)]) ∧ RdTo w w' p (askO k N (st s bad)).2.2 := by
  rw [askO5 s bad k N h0 h1 h2 h3 h4]
  have C := fun o => rdRaw_any p s bad N (w.alloc o) (rd_box h o)
  have F := fun o => (Fr.refl (RdS p) w).alloc o
  have q0 : (k == 0) = false := by simpa using h0
  have q1 : (k == 1) = false := by simpa using h1
  have q2 : (k == 2) = false := by simpa using h2
  have q3 : (k == 3) = false := by simpa using h3
  have q4 : (k == 4) = false := by simpa using h4
  have HC := Lib.hid C
  have HF := Lib.hid F
  have Hh := Lib.hid h
  clear C F h
  clear h0 h1 h2 h3 h4
  generalize rawOut s bad N = z at *
  obtain ⟨n, s2, b2⟩ := z
  dsimp only at *
  rw [str_bl]
  go_enter Try.func32, Try.ntmps32
  go_wp2_with fail
  (with_reducible refine (HC.out _).mono ?_)
  rintro e w1 ⟨rfl, hb, hf⟩
  have HB := Lib.hid hb
  have HG := Lib.hid hf
  clear hb hf
  go_wp2
  go_ret2
  exact ⟨rfl, RdTo.after (HF.out _) ⟨s2, b2, HB.out, rfl, HG.out⟩⟩
theorem take_any (p : Nat) (s : ByteArray) (bad : Bool) (k N : Int) (w : World) (h : Rd w p s bad) :
    Calls Try.prog 32 #[.pointer (some ⟨p, 0, none⟩), .agg #[.int .i64 k, .int .i64 N]] w fun e w' => e = .returned (.tuple #[.int .u64 ((askO k N (st s bad)).1 : Nat), .string (str (askO k N (st s bad)).2.1)]) ∧ RdTo w w' p (askO k N (st s bad)).2.2 := by
  by_cases h0 : k = 0
  · subst h0; exact take_0 p s bad N w h
  by_cases h1 : k = 1
  · subst h1; exact take_1 p s bad N w h
  by_cases h2 : k = 2
  · subst h2; exact take_2 p s bad N w h
  by_cases h3 : k = 3
  · subst h3; exact take_3 p s bad N w h
  by_cases h4 : k = 4
  · subst h4; exact take_4 p s bad N w h
  exact take_5 p s bad k N w h h0 h1 h2 h3 h4
end Go.Proofs.Ytbdocgnhoomhcaa
