
/-
  The walk of block's Seek.
-/
import Derived.Test.YtcoicdaobgneeaaBsW
namespace Go.Proofs.Ytcoicdaobgneeaa
open Go.RowKit CodecP

theorem cmpB : ∀ a b : List UInt8, (Lib.compareBytes a b < 0 ↔ a < b) ∧ (Lib.compareBytes a b = 0 ↔ a = b)
  | [], [] => by simp [Lib.compareBytes]
  | [], b :: bs => by simp [Lib.compareBytes]
  | a :: s, [] => by simp [Lib.compareBytes]
  | a :: s, b :: bs => by
    obtain ⟨h1, h2⟩ := cmpB s bs
    unfold Lib.compareBytes
    rw [List.cons_lt_cons_iff]
    by_cases hab : a < b
    · have hne : a ≠ b := fun e => by subst e; exact absurd hab (by simp)
      simp [hab, hne]
    · by_cases hba : b < a
      · have hne : a ≠ b := fun e => by subst e; exact hab hba
        simp [hab, hba, hne]
      · have e : a = b := by
          apply UInt8.toNat_inj.1
          rw [UInt8.lt_iff_toNat_lt] at hab hba
          omega
        subst e
        simp [h1, h2]
/-- The place of the first pair whose key is not below k. -/
def findN (k : List UInt8) : List Pr → Nat
  | [] => 0
  | p :: r => if p.1 < k then findN k r + 1 else 0
theorem findN_le (k : List UInt8) : ∀ l : List Pr, findN k l ≤ l.length
  | [] => Nat.le_refl _
  | p :: r => by
    unfold findN
    have := findN_le k r
    split
    · simp; omega
    · omega
theorem findN_lt (k : List UInt8) : ∀ (l : List Pr) (i : Nat) (h : i < findN k l), (l[i]'(Nat.lt_of_lt_of_le h (findN_le k l))).1 < k
  | [], i, h => by simp [findN] at h
  | p :: r, i, h => by
    by_cases hp : p.1 < k
    · cases i with
      | zero => exact hp
      | succ i =>
        have h' : i < findN k r := by
          unfold findN at h
          rw [if_pos hp] at h
          omega
        exact findN_lt k r i h'
    · unfold findN at h
      rw [if_neg hp] at h
      omega
theorem findN_at (k : List UInt8) : ∀ (l : List Pr) (h : findN k l < l.length), ¬ l[findN k l].1 < k
  | [], h => by simp at h
  | p :: r, h => by
    by_cases hp : p.1 < k
    · have e : findN k (p :: r) = findN k r + 1 := by rw [findN, if_pos hp]
      have h' : findN k r < r.length := by rw [e, List.length_cons] at h; omega
      have := findN_at k r h'
      simpa [e] using this
    · have e : findN k (p :: r) = 0 := by rw [findN, if_neg hp]
      simpa [e] using hp
theorem findN_iff {l : List Pr} (hl : Rise l) (k : List UInt8) (i : Nat) (hi : i < l.length) : l[i].1 < k ↔ i < findN k l := by
  refine ⟨fun h => ?_, fun h => findN_lt k l i h⟩
  rcases Nat.lt_or_ge i (findN k l) with h1 | h1
  · exact h1
  · exfalso
    have h2 := findN_at k l (by omega)
    rcases Nat.eq_or_lt_of_le h1 with h3 | h3
    · exact h2 (by simpa [h3] using h)
    · exact h2 (List.lt_trans (hl.key hi h3) h)
/-- A key that is there stands where it is found. -/
theorem findN_eq {l : List Pr} (hl : Rise l) (k : List UInt8) (i : Nat) (hi : i < l.length) (h : l[i].1 = k) : findN k l = i := by
  have h1 : ¬ i < findN k l := fun h4 => absurd ((findN_iff hl k i hi).2 h4) (by rw [h]; exact List.lt_irrefl k)
  rcases Nat.eq_or_lt_of_le (Nat.le_of_not_lt h1) with h3 | h3
  · exact h3
  · exfalso
    have := hl.key hi h3
    rw [h] at this
    exact findN_at k l (by omega) this
/-- A row of one cell that holds v. -/
def At1 (w : World) (c : Nat) (v : Value) (t : TypeId) : Prop := w.heap[c]? = some (.cells #[v] t (0, 0))
theorem At1.below {w w' : World} {c : Nat} {v : Value} {t : TypeId} (h : At1 w c v t) (hb : Below w.heap.size w w') : At1 w' c v t := (hb.block c (lt_of_block h)).trans h
theorem At1.new (w : World) (v : Value) (t : TypeId) : At1 (w.alloc (.cells #[v] t)) w.heap.size v t := by
  show (w.heap.push _)[w.heap.size]? = _
  simp
theorem At1.alloc {w : World} {c : Nat} {v : Value} {t : TypeId} (h : At1 w c v t) (o : Obj) : At1 (w.alloc o) c v t := h.below ((Below.refl _ w).alloc (Nat.le_refl _) o)
set_option maxRecDepth 100000 in
set_option maxHeartbeats 2000000 in
theorem seek1_any (r off cb p B : Nat) (v : Value) (l : List Pr) (key : ByteArray) (w : World) (h : Bk w B p v l) (hc : At1 w cb ((Value.pointer (some ⟨p, 0, none⟩))) 40) (hr : 8 * r < l.length) (ho : (rst l)[r]? = some off) :
    Calls Try.prog 48 #[.int .i64 off, .string key, (Value.pointer (some ⟨cb, 0, none⟩))] w fun e w' => e = .returned (.int .i64 (Lib.compareBytes l[8 * r].1 (bl key))) ∧ Below w.heap.size w w' := by
  have HRD := Lib.hid read_o
  have HST := Lib.hid step_any
  obtain ⟨off2, o1, o2, o3⟩ := rst_at l r hr
  rw [ho] at o1
  injection o1 with o1
  subst o1
  have hle := h.rise.le
  have hdl := dat_len h.rise.ok
  have c0 : w.cell? ⟨p, 0, none⟩ = some (.string (str (dat l))) := cellOf2 (o := 0) h.cells rfl
  have c1 : w.cell? ⟨cb, 0, none⟩ = some ((Value.pointer (some ⟨p, 0, none⟩))) := cellOf2 (o := 0) hc rfl
  have z1 : (str (dat l)).size = (dat l).length := by simp [str, ByteArray.size]
  have ex : (str (dat l)).extract off (dat l).length = str (datF (8 * r) [] (l.drop (8 * r))) := by
    rw [← o3, ← str_bl ((str (dat l)).extract _ _), ext_bl, bl_str]
    congr 1
    rw [List.take_of_length_le (by rw [List.length_drop]; omega)]
  have zx : (str (datF (8 * r) [] (l.drop (8 * r)))).size ≤ maxLen := by
    rw [← o3]
    rw [show (str ((dat l).drop off)).size = ((dat l).drop off).length by simp [str, ByteArray.size], List.length_drop]
    unfold maxLen
    omega
  have hst := stepF_dat h.rise.ok (8 * r) [] (Nat.zero_le _) hr
  have o2' : (off : Int) ≤ ((dat l).length : Int) := by omega
  have HEX := Lib.hid ex
  have HZX := Lib.hid zx
  have HSF := Lib.hid hst
  clear ex h hc ho hdl o3 zx hst
  obtain ⟨pr, hpr⟩ : ∃ pr, pr = l[8 * r] := ⟨_, rfl⟩
  rw [← hpr] at HSF ⊢
  have HCM := Lib.hid (compare_any (str pr.1) key)
  clear hpr
  go_enter Try.func48, Try.ntmps48
  go_wp2_with fail
  rw [HEX.out]
  (with_reducible refine (HRD.out _ _ HZX.out).mono ?_)
  rintro e w2 ⟨rfl, h2, hb2⟩
  rw [bl_str] at h2
  have HSS := Lib.hid (HST.out _ ⟨#[]⟩ _ w2 h2 (Nat.zero_le _))
  rw [show bl ⟨#[]⟩ = [] from rfl, HSF.out, prO_some, smO_some, rsO_some] at HSS
  have HB2 := Lib.hid hb2
  clear h2 hb2
  go_wp2_with fail
  (with_reducible refine HSS.out.mono ?_)
  rintro e w3 ⟨rfl, h3, hf3⟩
  have HB3 : Hid (Below w.heap.size w w3) := Lib.hid (HB2.out.trans (hf3.below HB2.out.size (fun k _ hk => by unfold RdS at hk; omega)))
  have hp5 : (w3.alloc (.cells #[.string (str pr.1), .string (str pr.2)] 48)).heap[w3.heap.size]? = some (.cells #[.string (str pr.1), .string (str pr.2)] 48 (0, 0)) := by
    show (w3.heap.push _)[w3.heap.size]? = _
    simp
  have HP5 := Lib.hid hp5
  have HB5 := Lib.hid (HB3.out.alloc HB3.out.size (.cells #[.string (str pr.1), .string (str pr.2)] 48))
  clear h3 hf3 hp5
  go_upto_region 2 with (fail)
  generalize w3.alloc (.cells #[.string (str pr.1), .string (str pr.2)] 48) = w5 at *
  have k0 := cellOf2 (o := 0) HP5.out rfl
  go_wp2_with fail
  (with_reducible refine (HCM.out _).mono ?_)
  rintro e w6 ⟨rfl, rfl⟩
  go_wp2_with fail
  go_ret
  exact ⟨rfl, HB5.out⟩
theorem seek1_enter (args : Array Value) (w : World) : (callFunc 48 args).run Try.prog w = .ok (.enter 48 args) w := by rfl
theorem seek2_enter (args : Array Value) (w : World) : (callFunc 50 args).run Try.prog w = .ok (.enter 50 args) w := by rfl
set_option maxRecDepth 100000 in
set_option maxHeartbeats 2000000 in
theorem seek2_any (i : Nat) (q : Pr) (ck co : Nat) (key : ByteArray) (v : Value) (w : World) (hk : At1 w ck (.string key) 9) (ho : At1 w co v 3) :
    Calls Try.prog 50 #[.int .i64 i, prV q, (Value.pointer (some ⟨ck, 0, none⟩)), (Value.pointer (some ⟨co, 0, none⟩))] w fun e w' => Fr (fun k => k = co) w w' ∧
      ((q.1 < bl key ∧ e = .returned (.bool true) ∧ At1 w' co v 3) ∨ (¬ q.1 < bl key ∧ e = .returned (.bool false) ∧ At1 w' co (.int .i64 i) 3)) := by
  unfold prV
  have hfr : Fr (fun _ => False) w (w.alloc (.cells #[.string (str q.1), .string (str q.2)] 48)) := (Fr.refl _ w).alloc _
  have hp1 : (w.alloc (.cells #[.string (str q.1), .string (str q.2)] 48)).heap[w.heap.size]? = some (.cells #[.string (str q.1), .string (str q.2)] 48 (0, 0)) := by
    show (w.heap.push _)[w.heap.size]? = _
    simp
  have ho1 := (hfr.block co (lt_of_block ho) (fun h => h)).trans ho
  have hk1 := (hfr.block ck (lt_of_block hk) (fun h => h)).trans hk
  have HFR := Lib.hid hfr
  have HP1 := Lib.hid hp1
  have HO1 := Lib.hid ho1
  have HK1 := Lib.hid hk1
  clear hk ho hfr hp1 ho1 hk1
  go_enter Try.func50, Try.ntmps50
  go_upto_region 1 with (fail)
  generalize w.alloc (.cells #[.string (str q.1), .string (str q.2)] 48) = w5 at *
  have k0 := cellOf2 (o := 0) HP1.out rfl
  have k1 := cellOf2 (o := 0) HK1.out rfl
  have k2 := cellOf2 (o := 0) HO1.out rfl
  have f2 := free_of2 0 HO1.out
  by_cases hlt : q.1 < bl key
  · have g1 : Op.bytesLess (str q.1).toList key.toList = true := by
      rw [bytesLess_eq, ByteArray.toList_eq, ByteArray.toList_eq]
      exact decide_eq_true (show bl (str q.1) < bl key by rw [bl_str]; exact hlt)
    have HLT := Lib.hid hlt
    clear hlt
    go_wp2_with fail
    go_ret
    exact ⟨HFR.out.mono (fun _ _ h => h.elim), .inl ⟨HLT.out, rfl, HO1.out⟩⟩
  · have g1 : Op.bytesLess (str q.1).toList key.toList = false := by
      rw [bytesLess_eq, ByteArray.toList_eq, ByteArray.toList_eq]
      exact decide_eq_false (show ¬ bl (str q.1) < bl key by rw [bl_str]; exact hlt)
    have HLT := Lib.hid hlt
    clear hlt
    have hst : Fr (fun k => k = co) w5 (w5.setCell ⟨co, 0, none⟩ (.int .i64 i)) := (Fr.refl (fun k => k = co) w5).setCell (p := ⟨co, 0, none⟩) (.inl rfl) _
    have HST := Lib.hid hst
    clear hst
    go_wp2_with fail
    go_ret
    exact ⟨(HFR.out.mono (T := fun k => k = co) (fun _ _ h => h.elim)).trans HST.out (fun _ _ h => h), .inr ⟨HLT.out, rfl, setAt2 (o := 0) _ HO1.out⟩⟩
end Go.Proofs.Ytcoicdaobgneeaa
