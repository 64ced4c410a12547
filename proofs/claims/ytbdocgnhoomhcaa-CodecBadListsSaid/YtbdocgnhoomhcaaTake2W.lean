/-
  The walk of law 03's takes: what bytes begin with, by the document's answer.
-/
import Derived.Test.YtbdocgnhoomhcaaTake1W
namespace Go.Proofs.Ytbdocgnhoomhcaa
open Go.RowKit CodecP

theorem refValue_any (s : ByteArray) (w : World) (hs : s.size ≤ 8) :
    Calls Try.prog 50 #[.string s] w fun e w' => e = .returned (.int .u64 (value (bl s) : Nat)) ∧ w = w' := by
  go_enter Try.func50, Try.ntmps50
  go_wp2
  go_loop [3, 4] (fun x c => ∃ k : Nat, k ≤ s.size ∧ c = .int .i64 k ∧ x = .int .u64 (value ((bl s).take k) : Nat)) (fun _ c => s.size - (intOf c).toNat)
  case atStart => exact ⟨0, by omega, rfl, rfl⟩
  case round =>
    obtain ⟨k, hk, rfl, rfl⟩ := hrel
    by_cases hlt : k < s.size
    · have hv := value_take (bl s) k hlt
      have hl := value_take_lt (bl s) k (by omega)
      rw [getD_bl s k hlt] at hv
      have hc := (s[k]).toNat_lt
      generalize value ((bl s).take k) = x at *
      have HV := Lib.hid hv
      clear hv
      go_wp2
      go_round
      case rel => exact ⟨k + 1, by omega, by go_num, by rw [HV.out]; go_num⟩
      case measure => simp [intOf]; omega
    · go_wp2
      go_ret
      exact ⟨ret_u64 (by rw [List.take_of_length_le (by show s.size ≤ k; omega)]), rfl⟩

theorem _root_.Go.RowKit.Below.drewN {B : Nat} {a w : World} (h : Below B a w) (n : Nat) : Below B a (w.drewN n) := ⟨h.os, h.tape, h.output, h.size, h.block⟩
def takesR (k N : Int) (l : List UInt8) : Nat × List UInt8 × Int := match ask k N l with
  | none => (0, [], -1)
  | some (v, t, r) => (v, t, (l.length : Int) - r.length)
/-- What takes returns. -/
def TakesPost (s : ByteArray) (k N : Int) (w : World) (e : Ending) (w' : World) : Prop :=
  e = .returned (.tuple #[.int .u64 ((takesR k N (bl s)).1 : Nat), .string (str (takesR k N (bl s)).2.1), .int .i64 (takesR k N (bl s)).2.2]) ∧ Below w.heap.size w w'
theorem TakesPost.mk {s : ByteArray} {k N : Int} {w w' : World} {v : Nat} {t : List UInt8} {q : Int} (h : takesR k N (bl s) = (v, t, q)) (hb : Below w.heap.size w w') {x : Nat} {y : ByteArray} (hx : x = v) (hy : y = str t) :
    TakesPost s k N w (.returned (.tuple #[.int .u64 (x : Nat), .string y, .int .i64 q])) w' := by
  unfold TakesPost
  rw [h, hx, hy]
  exact ⟨rfl, hb⟩
theorem TakesPost.no {s : ByteArray} {k N : Int} {w w' : World} (h : ask k N (bl s) = none) (hb : Below w.heap.size w w') :
    TakesPost s k N w (.returned (.tuple #[.int .u64 0, .string ByteArray.empty, .int .i64 (-1)])) w' := by
  unfold TakesPost
  rw [show takesR k N (bl s) = (0, [], -1) by unfold takesR; rw [h]]
  exact ⟨rfl, hb⟩
theorem take_ask (s : ByteArray) : (∃ n r, takeR (bl s) = (n, s.size - r.length) ∧ tk 0 (bl s) = some (n, r) ∧ n < 18446744073709551616 ∧ r.length < s.size) ∨ (takeR (bl s) = (0, 0) ∧ tk 0 (bl s) = none) := by
  unfold takeR
  cases h : tk 0 (bl s) with
  | none => exact .inr ⟨rfl, rfl⟩
  | some x =>
    obtain ⟨n, r⟩ := x
    obtain ⟨h1, h2⟩ := grp_tk _ _ _ h
    refine .inl ⟨n, r, rfl, rfl, by simpa using h2, ?_⟩
    have h3 := congrArg List.length h1
    have h4 := grp_pos n
    rw [List.length_append] at h3
    have h5 : (bl s).length = s.size := rfl
    omega
theorem bel_box {w w' : World} {o : Obj} (h : Below (w.alloc o).heap.size (w.alloc o) w') : Below w.heap.size w w' :=
  ((Below.refl w.heap.size w).alloc (Nat.le_refl _) o).trans (h.mono (by simp))
theorem bel_cells {w w' : World} {a b : Value} {T : TypeId} (h : Below (w.alloc (.cells #[a, b] T)).heap.size (w.alloc (.cells #[a, b] T)) w') :
    w'.cell? ⟨w.heap.size, 0, none⟩ = some a ∧ w'.cell? ⟨w.heap.size, 1, none⟩ = some b := by
  refine ⟨?_, ?_⟩
  · rw [h.cell (p := ⟨w.heap.size, 0, none⟩) (by simp)]; simp
  · rw [h.cell (p := ⟨w.heap.size, 1, none⟩) (by simp)]; simp
theorem takes_none (s : ByteArray) (k N : Int) (w : World) (hs : s.size ≤ 1000000) (hk : k = 0 ∨ k = 1 ∨ k = 4) (ht : takeR (bl s) = (0, 0)) (ha : ask k N (bl s) = none) :
    Calls Try.prog 33 #[.string s, .agg #[.int .i64 k, .int .i64 N]] w (TakesPost s k N w) := by
  have RT := fun o => refTake_any s (w.alloc o) (size_le _ (by omega))
  rw [ht] at RT
  have HRT := Lib.hid RT
  have Hha := Lib.hid ha
  clear RT ha
  clear ht
  rcases hk with rfl | rfl | rfl
  all_goals
    go_enter Try.func33, Try.ntmps33
    go_wp2_with fail
    refine (HRT.out _).mono ?_
    rintro e w1 ⟨rfl, hb⟩
    have HB := Lib.hid (bel_box hb)
    obtain ⟨hc0, hc1⟩ := bel_cells hb
    clear hb
    go_wp2
    go_ret3
    exact TakesPost.no Hha.out HB.out
theorem takes_0 (s : ByteArray) (N : Int) (w : World) (n : Nat) (r : List UInt8) (hs : s.size ≤ 1000000) (ht : takeR (bl s) = (n, s.size - r.length)) (hk : tk 0 (bl s) = some (n, r)) (hn : n < 18446744073709551616) (hr : r.length < s.size) :
    Calls Try.prog 33 #[.string s, .agg #[.int .i64 0, .int .i64 N]] w (TakesPost s 0 N w) := by
  have RT := fun o => refTake_any s (w.alloc o) (size_le _ (by omega))
  rw [ht] at RT
  by_cases hb : 9223372036854775808 ≤ n
  · have ha : ask 0 N (bl s) = none := by unfold ask; rw [if_pos rfl, hk]; simp [hb]
    have q0 : (((s.size - r.length : Nat) : Int) == 0) = false := by rw [beq_eq_false_iff_ne]; omega
    have q1 : decide ((9223372036854775808 : Int) ≤ (n : Int)) = true := by rw [decide_eq_true_eq]; omega
    have HRT := Lib.hid RT
    have Hha := Lib.hid ha
    clear RT ha
    clear ht hk hn hb hr
    generalize s.size - r.length = K at *
    go_enter Try.func33, Try.ntmps33
    go_wp2_with fail
    refine (HRT.out _).mono ?_
    rintro e w1 ⟨rfl, hb⟩
    have HB := Lib.hid (bel_box hb)
    obtain ⟨hc0, hc1⟩ := bel_cells hb
    clear hb
    go_wp2
    go_ret3
    exact TakesPost.no Hha.out HB.out
  · have ha : takesR 0 N (bl s) = (n, [], (s.size : Int) - r.length) := by unfold takesR ask; rw [if_pos rfl, hk]; simp [hb]; rfl
    rw [show (s.size : Int) - r.length = ((s.size - r.length : Nat) : Int) by omega] at ha
    have q0 : (((s.size - r.length : Nat) : Int) == 0) = false := by rw [beq_eq_false_iff_ne]; omega
    have q1 : decide ((9223372036854775808 : Int) ≤ (n : Int)) = false := by rw [decide_eq_false_iff_not]; omega
    have HRT := Lib.hid RT
    have Hha := Lib.hid ha
    clear RT ha
    clear ht hk hn hb hr
    generalize s.size - r.length = K at *
    go_enter Try.func33, Try.ntmps33
    go_wp2_with fail
    refine (HRT.out _).mono ?_
    rintro e w1 ⟨rfl, hb⟩
    have HB := Lib.hid (bel_box hb)
    obtain ⟨hc0, hc1⟩ := bel_cells hb
    clear hb
    go_wp2
    go_ret3
    exact TakesPost.mk Hha.out HB.out rfl rfl
theorem takes_1 (s : ByteArray) (N : Int) (w : World) (n : Nat) (r : List UInt8) (hs : s.size ≤ 1000000) (ht : takeR (bl s) = (n, s.size - r.length)) (hk : tk 0 (bl s) = some (n, r)) (hn : n < 18446744073709551616) (hr : r.length < s.size) :
    Calls Try.prog 33 #[.string s, .agg #[.int .i64 1, .int .i64 N]] w (TakesPost s 1 N w) := by
  have RT := fun o => refTake_any s (w.alloc o) (size_le _ (by omega))
  rw [ht] at RT
  have ha : takesR 1 N (bl s) = ((unzig n % 18446744073709551616).toNat, [], (s.size : Int) - r.length) := by unfold takesR ask; rw [if_neg (by decide), if_pos rfl, hk]; rfl
  rw [show (s.size : Int) - r.length = ((s.size - r.length : Nat) : Int) by omega] at ha
  have q0 : (((s.size - r.length : Nat) : Int) == 0) = false := by rw [beq_eq_false_iff_ne]; omega
  have RN := fun W => refNumber_any n W hn
  have hu := u64_mod (unzig n)
  generalize (unzig n % 18446744073709551616).toNat = x at *
  have HRT := Lib.hid RT
  have Hha := Lib.hid ha
  have HRN := Lib.hid RN
  clear RT ha RN
  clear ht hk hn hr
  generalize s.size - r.length = K at *
  go_enter Try.func33, Try.ntmps33
  go_wp2_with fail
  refine (HRT.out _).mono ?_
  rintro e w1 ⟨rfl, hb⟩
  have HB := Lib.hid (bel_box hb)
  obtain ⟨hc0, hc1⟩ := bel_cells hb
  clear hb
  go_wp2_with fail
  (with_reducible refine (HRN.out _).mono ?_)
  rintro e w2 ⟨rfl, rfl⟩
  go_wp2
  go_ret3
  exact TakesPost.mk Hha.out HB.out rfl rfl
theorem takes_23 (s : ByteArray) (N k : Int) (w : World) (hs : s.size ≤ 1000000) (hk : k = 2 ∨ k = 3) :
    Calls Try.prog 33 #[.string s, .agg #[.int .i64 k, .int .i64 N]] w (TakesPost s k N w) := by
  have RT := fun o => refTake_any s (w.alloc o) (size_le _ (by omega))
  obtain ⟨q, hq, hq8, hk2, hav⟩ : ∃ q : Nat, 4 * (k - 1) = (q : Int) ∧ q ≤ 8 ∧ (k = 2 ∧ q = 4 ∨ k = 3 ∧ q = 8) ∧ ∀ l : List UInt8, ask k N l = if l.length < q then none else some (value (l.take q), [], l.drop q) := by
    rcases hk with rfl | rfl
    · exact ⟨4, rfl, by omega, .inl ⟨rfl, rfl⟩, fun l => by simp [ask]⟩
    · exact ⟨8, rfl, by omega, .inr ⟨rfl, rfl⟩, fun l => by simp [ask]⟩
  generalize hT : takeR (bl s) = T at RT
  obtain ⟨n, K⟩ := T
  clear hk hq hT
  have hbl : (bl s).length = s.size := rfl
  by_cases hl : s.size < q
  · have ha : ask k N (bl s) = none := by rw [hav, hbl, if_pos hl]
    have HRT := Lib.hid RT
    have Hha := Lib.hid ha
    clear RT ha
    clear hav hbl
    rcases hk2 with ⟨rfl, rfl⟩ | ⟨rfl, rfl⟩
    all_goals
      go_enter Try.func33, Try.ntmps33
      go_wp2_with fail
      refine (HRT.out _).mono ?_
      rintro e w1 ⟨rfl, hb⟩
      have HB := Lib.hid (bel_box hb)
      obtain ⟨hc0, hc1⟩ := bel_cells hb
      clear hb
      go_wp2
      go_ret3
      exact TakesPost.no Hha.out HB.out
  · have hsz : (s.extract 0 q).size = q := by rw [ByteArray.size_extract]; omega
    have ha : takesR k N (bl s) = (value (bl (s.extract 0 q)), [], (q : Int)) := by
      unfold takesR
      rw [hav, hbl, if_neg hl, ext_bl]
      simp only [List.drop_zero, Nat.sub_zero, List.length_drop, hbl]
      rw [show (s.size : Int) - ((s.size - q : Nat) : Int) = (q : Int) by omega]
    have RV := fun W => refValue_any (s.extract 0 q) W (by omega)
    generalize value (bl (s.extract 0 q)) = x at *
    have HRT := Lib.hid RT
    have Hha := Lib.hid ha
    have HRV := Lib.hid RV
    clear RT ha RV
    clear hav hbl hsz
    rcases hk2 with ⟨rfl, rfl⟩ | ⟨rfl, rfl⟩
    all_goals
      go_enter Try.func33, Try.ntmps33
      go_wp2_with fail
      refine (HRT.out _).mono ?_
      rintro e w1 ⟨rfl, hb⟩
      have HB := Lib.hid (bel_box hb)
      obtain ⟨hc0, hc1⟩ := bel_cells hb
      clear hb
      go_wp2_with fail
      (with_reducible refine (HRV.out _).mono ?_)
      rintro e w2 ⟨rfl, rfl⟩
      go_wp2
      go_ret3
      exact TakesPost.mk Hha.out HB.out rfl rfl
theorem takes_4 (s : ByteArray) (N : Int) (w : World) (n : Nat) (r : List UInt8) (hs : s.size ≤ 1000000) (ht : takeR (bl s) = (n, s.size - r.length)) (hk : tk 0 (bl s) = some (n, r)) (hn : n < 18446744073709551616) (hr : r.length < s.size) :
    Calls Try.prog 33 #[.string s, .agg #[.int .i64 4, .int .i64 N]] w (TakesPost s 4 N w) := by
  have RT := fun o => refTake_any s (w.alloc o) (size_le _ (by omega))
  rw [ht] at RT
  have q0 : (((s.size - r.length : Nat) : Int) == 0) = false := by rw [beq_eq_false_iff_ne]; omega
  by_cases hb : 9223372036854775808 ≤ n
  · have ha : ask 4 N (bl s) = none := by unfold ask; rw [if_neg (by decide), if_neg (by decide), if_neg (by decide), if_neg (by decide), if_pos rfl, hk]; simp [hb]
    have q1 : decide ((9223372036854775808 : Int) ≤ (n : Int)) = true := by rw [decide_eq_true_eq]; omega
    have HRT := Lib.hid RT
    have Hha := Lib.hid ha
    clear RT ha
    clear ht hk hn hb hr
    generalize s.size - r.length = K at *
    go_enter Try.func33, Try.ntmps33
    go_wp2_with fail
    refine (HRT.out _).mono ?_
    rintro e w1 ⟨rfl, hb⟩
    have HB := Lib.hid (bel_box hb)
    obtain ⟨hc0, hc1⟩ := bel_cells hb
    clear hb
    go_wp2
    go_ret3
    exact TakesPost.no Hha.out HB.out
  have q1 : decide ((9223372036854775808 : Int) ≤ (n : Int)) = false := by rw [decide_eq_false_iff_not]; omega
  have hw : wrap64 (n : Int) = (n : Int) := IntWalk.wrap64_in _ (by omega)
  by_cases hN : N < (n : Int)
  · have ha : ask 4 N (bl s) = none := by unfold ask; rw [if_neg (by decide), if_neg (by decide), if_neg (by decide), if_neg (by decide), if_pos rfl, hk]; simp [hN]
    have q2 : decide (N < (n : Int)) = true := by rw [decide_eq_true_eq]; omega
    have HRT := Lib.hid RT
    have Hha := Lib.hid ha
    clear RT ha
    clear ht hk hn hb hr hN
    generalize s.size - r.length = K at *
    go_enter Try.func33, Try.ntmps33
    go_wp2_with fail
    refine (HRT.out _).mono ?_
    rintro e w1 ⟨rfl, hb⟩
    have HB := Lib.hid (bel_box hb)
    obtain ⟨hc0, hc1⟩ := bel_cells hb
    clear hb
    go_wp2
    go_ret3
    exact TakesPost.no Hha.out HB.out
  have q2 : decide (N < (n : Int)) = false := by rw [decide_eq_false_iff_not]; omega
  have hrK : r.length = s.size - (s.size - r.length) := by omega
  have hKs : s.size - r.length ≤ s.size := by omega
  by_cases hl : r.length < n
  · have ha : ask 4 N (bl s) = none := by unfold ask; rw [if_neg (by decide), if_neg (by decide), if_neg (by decide), if_neg (by decide), if_pos rfl, hk]; simp [hl]
    have q3 : decide ((s.size : Int) - ((s.size - r.length : Nat) : Int) < (n : Int)) = true := by rw [decide_eq_true_eq]; omega
    have HRT := Lib.hid RT
    have Hha := Lib.hid ha
    clear RT ha
    clear ht hk hn hb hr hN hl hrK
    generalize s.size - r.length = K at *
    go_enter Try.func33, Try.ntmps33
    go_wp2_with fail
    refine (HRT.out _).mono ?_
    rintro e w1 ⟨rfl, hb⟩
    have HB := Lib.hid (bel_box hb)
    obtain ⟨hc0, hc1⟩ := bel_cells hb
    clear hb
    go_wp2
    go_ret3
    exact TakesPost.no Hha.out HB.out
  · have hr2 : r = (bl s).drop (s.size - r.length) := by
      obtain ⟨e1, _⟩ := grp_tk _ _ _ hk
      have h3 := congrArg List.length e1
      rw [List.length_append] at h3
      have h5 : (bl s).length = s.size := rfl
      rw [show s.size - r.length = (grp n).length by omega, e1, List.drop_left]
    have ha : takesR 4 N (bl s) = (0, bl (s.extract (s.size - r.length) (s.size - r.length + n)), ((s.size - r.length : Nat) : Int) + n) := by
      unfold takesR ask
      rw [if_neg (by decide), if_neg (by decide), if_neg (by decide), if_neg (by decide), if_pos rfl, hk]
      simp only [hN, hl, hb, or_self, if_false]
      have h5 : (bl s).length = s.size := rfl
      rw [ext_bl, ← hr2, List.length_drop, h5, show s.size - r.length + n - (s.size - r.length) = n by omega]
      rw [show (s.size : Int) - ((r.length - n : Nat) : Int) = ((s.size - r.length : Nat) : Int) + n by omega]
    have q3 : decide ((s.size : Int) - ((s.size - r.length : Nat) : Int) < (n : Int)) = false := by rw [decide_eq_false_iff_not]; omega
    have q4 : IntKind.i64.wrap (((s.size - r.length : Nat) : Int) + n) = ((s.size - r.length : Nat) : Int) + n := IntWalk.i64_in _ (by omega)
    have q5 : s.size - r.length + n ≤ s.size := by omega
    have q6 : (((s.size - r.length : Nat) : Int) + n).toNat = s.size - r.length + n := by omega
    have HRT := Lib.hid RT
    have Hha := Lib.hid ha
    clear RT ha
    clear ht hk hb hr hN hl hrK hr2
    generalize s.size - r.length = K at *
    go_enter Try.func33, Try.ntmps33
    go_wp2_with fail
    refine (HRT.out _).mono ?_
    rintro e w1 ⟨rfl, hb⟩
    have HB := Lib.hid (bel_box hb)
    obtain ⟨hc0, hc1⟩ := bel_cells hb
    clear hb
    go_wp2
    go_quiet (fail)
    go_wp2
    go_ret3
    exact TakesPost.mk Hha.out (HB.out.drewN _) rfl (str_bl _).symm
theorem takes_5 (s : ByteArray) (k N : Int) (w : World) (hs : s.size ≤ 1000000) (h0 : k ≠ 0) (h1 : k ≠ 1) (h2 : k ≠ 2) (h3 : k ≠ 3) (h4 : k ≠ 4) :
    Calls Try.prog 33 #[.string s, .agg #[.int .i64 k, .int .i64 N]] w (TakesPost s k N w) := by
  have RT := fun o => refTake_any s (w.alloc o) (size_le _ (by omega))
  generalize takeR (bl s) = T at RT
  obtain ⟨n, K⟩ := T
  have q0 : (k == 0) = false := by simpa using h0
  have q1 : (k == 1) = false := by simpa using h1
  have q2 : (k == 2) = false := by simpa using h2
  have q3 : (k == 3) = false := by simpa using h3
  have q4 : (k == 4) = false := by simpa using h4
  have hbl : (bl s).length = s.size := rfl
  have hav : ask k N (bl s) = if N < 0 ∨ (s.size : Int) < N then none else some (0, (bl s).take N.toNat, (bl s).drop N.toNat) := by simp [ask, h0, h1, h2, h3, h4, hbl]
  clear h0 h1 h2 h3 h4
  by_cases hn : N < 0
  · have ha : ask k N (bl s) = none := by rw [hav]; simp [hn]
    have HRT := Lib.hid RT
    have Hha := Lib.hid ha
    clear RT ha
    clear hav hbl
    go_enter Try.func33, Try.ntmps33
    go_wp2_with fail
    refine (HRT.out _).mono ?_
    rintro e w1 ⟨rfl, hb⟩
    have HB := Lib.hid (bel_box hb)
    obtain ⟨hc0, hc1⟩ := bel_cells hb
    clear hb
    go_wp2
    go_ret3
    exact TakesPost.no Hha.out HB.out
  obtain ⟨N, rfl⟩ := Int.eq_ofNat_of_zero_le (show 0 ≤ N by omega)
  by_cases hl : s.size < N
  · have ha : ask k N (bl s) = none := by rw [hav]; rw [if_pos (.inr (by omega))]
    have HRT := Lib.hid RT
    have Hha := Lib.hid ha
    clear RT ha
    clear hav hbl
    go_enter Try.func33, Try.ntmps33
    go_wp2_with fail
    refine (HRT.out _).mono ?_
    rintro e w1 ⟨rfl, hb⟩
    have HB := Lib.hid (bel_box hb)
    obtain ⟨hc0, hc1⟩ := bel_cells hb
    clear hb
    go_wp2
    go_ret3
    exact TakesPost.no Hha.out HB.out
  · have ha : takesR k N (bl s) = (0, bl (s.extract 0 N), (N : Int)) := by
      unfold takesR
      rw [hav, if_neg (by omega), ext_bl]
      simp only [List.drop_zero, Nat.sub_zero, List.length_drop, hbl, Int.toNat_natCast]
      rw [show (s.size : Int) - ((s.size - N : Nat) : Int) = (N : Int) by omega]
    have HRT := Lib.hid RT
    have Hha := Lib.hid ha
    clear RT ha
    clear hav hbl
    go_enter Try.func33, Try.ntmps33
    go_wp2_with fail
    refine (HRT.out _).mono ?_
    rintro e w1 ⟨rfl, hb⟩
    have HB := Lib.hid (bel_box hb)
    obtain ⟨hc0, hc1⟩ := bel_cells hb
    clear hb
    go_wp2
    go_quiet (fail)
    go_wp2
    go_ret3
    exact TakesPost.mk Hha.out (HB.out.drewN _) rfl (str_bl _).symm
theorem takes_any (s : ByteArray) (k N : Int) (w : World) (hs : s.size ≤ 1000000) :
    Calls Try.prog 33 #[.string s, .agg #[.int .i64 k, .int .i64 N]] w (TakesPost s k N w) := by
  by_cases h2 : k = 2
  · exact takes_23 s N k w hs (.inl h2)
  by_cases h3 : k = 3
  · exact takes_23 s N k w hs (.inr h3)
  by_cases h0 : k = 0
  · subst h0
    rcases take_ask s with ⟨n, r, e1, e2, hn, hr⟩ | ⟨e1, e2⟩
    · exact takes_0 s N w n r hs e1 e2 hn hr
    · exact takes_none s 0 N w hs (.inl rfl) e1 (by unfold ask; rw [if_pos rfl, e2])
  by_cases h1 : k = 1
  · subst h1
    rcases take_ask s with ⟨n, r, e1, e2, hn, hr⟩ | ⟨e1, e2⟩
    · exact takes_1 s N w n r hs e1 e2 hn hr
    · exact takes_none s 1 N w hs (.inr (.inl rfl)) e1 (by unfold ask; rw [if_neg (by decide), if_pos rfl, e2])
  by_cases h4 : k = 4
  · subst h4
    rcases take_ask s with ⟨n, r, e1, e2, hn, hr⟩ | ⟨e1, e2⟩
    · exact takes_4 s N w n r hs e1 e2 hn hr
    · exact takes_none s 4 N w hs (.inr (.inr rfl)) e1 (by unfold ask; rw [if_neg (by decide), if_neg (by decide), if_neg (by decide), if_neg (by decide), if_pos rfl, e2])
  exact takes_5 s k N w hs h0 h1 h2 h3 h4
end Go.Proofs.Ytbdocgnhoomhcaa
