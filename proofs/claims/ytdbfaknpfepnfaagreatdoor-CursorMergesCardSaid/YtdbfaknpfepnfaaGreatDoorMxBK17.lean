/-
  Texts of the claim, joined: SeekW, Seek2W, LongW, AtBW, GetBW.
-/
import Derived.Test.YtdbfaknpfepnfaaGreatDoorMxBK9
set_option maxRecDepth 100000
set_option maxHeartbeats 40000000
namespace Go.Proofs.YtdbfaknpfepnfaaGreatDoor
open Go.RowKit CodecP

theorem cmpB : ∀ a b : List UInt8, (Lib.compareBytes a b < 0 ↔ a < b) ∧ (Lib.compareBytes a b = 0 ↔ a = b)
 | [], [] => by simp [Lib.compareBytes]
 | [], b :: bs => by simp [Lib.compareBytes]
 | a :: s, [] => by simp [Lib.compareBytes]
 | a :: s, b :: bs => by
  obtain ⟨h1, h2⟩ := cmpB s bs
  unfold Lib.compareBytes
  rw [List.cons_lt_cons_iff]
  by_cases hab : a < b
  ·have hne : a ≠ b := fun e => by subst e; exact absurd hab (by simp)
   simp [hab, hne]
  ·by_cases hba : b < a
   ·have hne : a ≠ b := fun e => by subst e; exact hab hba
    simp [hab, hba, hne]
   ·have e : a = b := by
     apply UInt8.toNat_inj.1
     rw [UInt8.lt_iff_toNat_lt] at hab hba
     omega
    subst e
    simp [h1, h2]
def findN (k : List UInt8) : List Pr → Nat
 | [] => 0
 | p :: r => if p.1 < k then findN k r + 1 else 0
theorem findN_le (k : List UInt8) : ∀ l : List Pr, findN k l ≤ l.length
 | [] => Nat.le_refl _
 | p :: r => by
  unfold findN
  have := findN_le k r
  split
  ·simp; omega
  ·omega
theorem findN_lt (k : List UInt8) : ∀ (l : List Pr) (i : Nat) (h : i < findN k l), (l[i]'(Nat.lt_of_lt_of_le h (findN_le k l))).1 < k
 | [], i, h => by simp [findN] at h
 | p :: r, i, h => by
  by_cases hp : p.1 < k
  ·cases i with
   | zero => exact hp
   | succ i =>
    have h' : i < findN k r := by
     unfold findN at h
     rw [if_pos hp] at h
     omega
    exact findN_lt k r i h'
  ·unfold findN at h
   rw [if_neg hp] at h
   omega
theorem findN_at (k : List UInt8) : ∀ (l : List Pr) (h : findN k l < l.length), ¬ l[findN k l].1 < k
 | [], h => by simp at h
 | p :: r, h => by
  by_cases hp : p.1 < k
  ·have e : findN k (p :: r) = findN k r + 1 := by rw [findN, if_pos hp]
   have h' : findN k r < r.length := by rw [e, List.length_cons] at h; omega
   have := findN_at k r h'
   simpa [e] using this
  ·have e : findN k (p :: r) = 0 := by rw [findN, if_neg hp]
   simpa [e] using hp
theorem findN_iff {l : List Pr} (hl : Rise l) (k : List UInt8) (i : Nat) (hi : i < l.length) : l[i].1 < k ↔ i < findN k l := by
 refine ⟨fun h => ?_, fun h => findN_lt k l i h⟩
 rcases Nat.lt_or_ge i (findN k l) with h1 | h1
 ·exact h1
 ·exfalso
  have h2 := findN_at k l (by omega)
  rcases Nat.eq_or_lt_of_le h1 with h3 | h3
  ·exact h2 (by simpa [h3] using h)
  ·exact h2 (List.lt_trans (hl.key hi h3) h)
theorem findN_eq {l : List Pr} (hl : Rise l) (k : List UInt8) (i : Nat) (hi : i < l.length) (h : l[i].1 = k) : findN k l = i := by
 have h1 : ¬ i < findN k l := fun h4 => absurd ((findN_iff hl k i hi).2 h4) (by rw [h]; exact List.lt_irrefl k)
 rcases Nat.eq_or_lt_of_le (Nat.le_of_not_lt h1) with h3 | h3
 ·exact h3
 ·exfalso
  have := hl.key hi h3
  rw [h] at this
  exact findN_at k l (by omega) this
def At1 (w : World) (c : Nat) (v : Value) (t : TypeId) : Prop := w.heap[c]? = some (.cells #[v] t (0, 0))
theorem At1.below {w w' : World} {c : Nat} {v : Value} {t : TypeId} (h : At1 w c v t) (hb : Below w.heap.size w w') : At1 w' c v t := (hb.block c (lt_of_block h)).trans h
theorem At1.new (w : World) (v : Value) (t : TypeId) : At1 (w.alloc (.cells #[v] t)) w.heap.size v t := by
 show (w.heap.push _)[w.heap.size]? = _
 simp
theorem At1.alloc {w : World} {c : Nat} {v : Value} {t : TypeId} (h : At1 w c v t) (o : Obj) : At1 (w.alloc o) c v t := h.below ((Below.refl _ w).alloc (Nat.le_refl _) o)
theorem seek1_any (r off cb p B : Nat) (v : Value) (l : List Pr) (key : ByteArray) (w : World) (h : Bk w B p v l) (hc : At1 w cb ((Value.pointer (some ⟨p, 0, none⟩))) 132) (hr : 8 * r < l.length) (ho : (rst l)[r]? = some off) :
  Calls Tryz.prog 131 #[.int .i64 off, .string key, (Value.pointer (some ⟨cb, 0, none⟩))] w fun e w' => e = .returned (.int .i64 (Lib.compareBytes l[8 * r].1 (bl key))) ∧ Below w.heap.size w w' := by
 have HRD := Lib.hid read_o
 have HST := Lib.hid step_any
 obtain ⟨off2, o1, o2, o3⟩ := rst_at l r hr
 rw [ho] at o1
 injection o1 with o1
 subst o1
 have hle := h.rise.le
 have hdl := dat_len h.rise.ok
 have c0 : w.cell? ⟨p, 0, none⟩ = some (.string (str (dat l))) := cellOf2 (o := 0) h.cells rfl
 have c1 : w.cell? ⟨cb, 0, none⟩ = some ((Value.pointer (some ⟨p, 0, none⟩))) := cellOf2 (o := 0) hc rfl
 have z1 : (str (dat l)).size = (dat l).length := by simp [str, ByteArray.size]
 have ex : (str (dat l)).extract off (dat l).length = str (datF (8 * r) [] (l.drop (8 * r))) := by
  rw [← o3, ← str_bl ((str (dat l)).extract _ _), ext_bl, bl_str]
  congr 1
  rw [List.take_of_length_le (by rw [List.length_drop]; omega)]
 have zx : (str (datF (8 * r) [] (l.drop (8 * r)))).size ≤ maxLen := by
  rw [← o3]
  rw [show (str ((dat l).drop off)).size = ((dat l).drop off).length by simp [str, ByteArray.size], List.length_drop]
  unfold maxLen
  omega
 have hst := stepF_dat h.rise.ok (8 * r) [] (Nat.zero_le _) hr
 have o2' : (off : Int) ≤ ((dat l).length : Int) := by omega
 have HEX := Lib.hid ex
 have HZX := Lib.hid zx
 have HSF := Lib.hid hst
 clear ex h hc ho hdl o3 zx hst
 obtain ⟨pr, hpr⟩ : ∃ pr, pr = l[8 * r] := ⟨_, rfl⟩
 rw [← hpr] at HSF ⊢
 have HCM := Lib.hid (compare_any (str pr.1) key)
 clear hpr
 go_enter Tryz.func131, Tryz.ntmps131
 go_wp2_with fail
 rw [HEX.out]
 (with_reducible refine (HRD.out _ _ HZX.out).mono ?_)
 rintro e w2 ⟨rfl, h2, hb2⟩
 rw [bl_str] at h2
 have HSS := Lib.hid (HST.out _ ⟨#[]⟩ _ w2 h2 (Nat.zero_le _))
 rw [show bl ⟨#[]⟩ = [] from rfl, HSF.out, prO_some, smO_some, rsO_some] at HSS
 have HB2 := Lib.hid hb2
 clear h2 hb2
 go_wp2_with fail
 (with_reducible refine HSS.out.mono ?_)
 rintro e w3 ⟨rfl, h3, hf3⟩
 have HB3 : Hid (Below w.heap.size w w3) := Lib.hid (HB2.out.trans (hf3.below HB2.out.size (fun k _ hk => by unfold RdS at hk; omega)))
 have hp5 : (w3.alloc (.cells #[.string (str pr.1), .string (str pr.2)] 43)).heap[w3.heap.size]? = some (.cells #[.string (str pr.1), .string (str pr.2)] 43 (0, 0)) := by
  show (w3.heap.push _)[w3.heap.size]? = _
  simp
 have HP5 := Lib.hid hp5
 have HB5 := Lib.hid (HB3.out.alloc HB3.out.size (.cells #[.string (str pr.1), .string (str pr.2)] 43))
 clear h3 hf3 hp5
 go_upto_region 2 with (fail)
 generalize w3.alloc (.cells #[.string (str pr.1), .string (str pr.2)] 43) = w5 at *
 have k0 := cellOf2 (o := 0) HP5.out rfl
 go_wp2_with fail
 (with_reducible refine (HCM.out _).mono ?_)
 rintro e w6 ⟨rfl, rfl⟩
 go_wp2_with fail
 go_ret
 exact ⟨rfl, HB5.out⟩
theorem seek1_enter (args : Array Value) (w : World) : (callFunc 131 args).run Tryz.prog w = .ok (.enter 131 args) w := by rfl
theorem seek2_enter (args : Array Value) (w : World) : (callFunc 134 args).run Tryz.prog w = .ok (.enter 134 args) w := by rfl
theorem seek2_any (i : Nat) (q : Pr) (ck co : Nat) (key : ByteArray) (v : Value) (w : World) (hk : At1 w ck (.string key) 9) (ho : At1 w co v 3) :
  Calls Tryz.prog 134 #[.int .i64 i, prV q, (Value.pointer (some ⟨ck, 0, none⟩)), (Value.pointer (some ⟨co, 0, none⟩))] w fun e w' => Fr (fun k => k = co) w w' ∧
   ((q.1 < bl key ∧ e = .returned (.bool true) ∧ At1 w' co v 3) ∨ (¬ q.1 < bl key ∧ e = .returned (.bool false) ∧ At1 w' co (.int .i64 i) 3)) := by
 unfold prV
 have hfr : Fr (fun _ => False) w (w.alloc (.cells #[.string (str q.1), .string (str q.2)] 43)) := (Fr.refl _ w).alloc _
 have hp1 : (w.alloc (.cells #[.string (str q.1), .string (str q.2)] 43)).heap[w.heap.size]? = some (.cells #[.string (str q.1), .string (str q.2)] 43 (0, 0)) := by
  show (w.heap.push _)[w.heap.size]? = _
  simp
 have ho1 := (hfr.block co (lt_of_block ho) (fun h => h)).trans ho
 have hk1 := (hfr.block ck (lt_of_block hk) (fun h => h)).trans hk
 have HFR := Lib.hid hfr
 have HP1 := Lib.hid hp1
 have HO1 := Lib.hid ho1
 have HK1 := Lib.hid hk1
 clear hk ho hfr hp1 ho1 hk1
 go_enter Tryz.func134, Tryz.ntmps134
 go_upto_region 1 with (fail)
 generalize w.alloc (.cells #[.string (str q.1), .string (str q.2)] 43) = w5 at *
 have k0 := cellOf2 (o := 0) HP1.out rfl
 have k1 := cellOf2 (o := 0) HK1.out rfl
 have k2 := cellOf2 (o := 0) HO1.out rfl
 have f2 := free_of2 0 HO1.out
 by_cases hlt : q.1 < bl key
 ·have g1 : Op.bytesLess (str q.1).toList key.toList = true := by
   rw [bytesLess_eq, ByteArray.toList_eq, ByteArray.toList_eq]
   exact decide_eq_true (show bl (str q.1) < bl key by rw [bl_str]; exact hlt)
  have HLT := Lib.hid hlt
  clear hlt
  go_wp2_with fail
  go_ret
  exact ⟨HFR.out.mono (fun _ _ h => h.elim), .inl ⟨HLT.out, rfl, HO1.out⟩⟩
 ·have g1 : Op.bytesLess (str q.1).toList key.toList = false := by
   rw [bytesLess_eq, ByteArray.toList_eq, ByteArray.toList_eq]
   exact decide_eq_false (show ¬ bl (str q.1) < bl key by rw [bl_str]; exact hlt)
  have HLT := Lib.hid hlt
  clear hlt
  have hst : Fr (fun k => k = co) w5 (w5.setCell ⟨co, 0, none⟩ (.int .i64 i)) := (Fr.refl (fun k => k = co) w5).setCell (p := ⟨co, 0, none⟩) (.inl rfl) _
  have HST := Lib.hid hst
  clear hst
  go_wp2_with fail
  go_ret
  exact ⟨(HFR.out.mono (T := fun k => k = co) (fun _ _ h => h.elim)).trans HST.out (fun _ _ h => h), .inr ⟨HLT.out, rfl, setAt2 (o := 0) _ HO1.out⟩⟩
end Go.Proofs.YtdbfaknpfepnfaaGreatDoor


namespace Go.Proofs.YtdbfaknpfepnfaaGreatDoor
open Go.RowKit CodecP

theorem from_seek (r F ck co p B : Nat) (v : Value) (l : List Pr) (key : ByteArray) (w : World) (h : Bk w B p v l) (hk : At1 w ck (.string key) 9) (ho : At1 w co (.int .i64 l.length) 3)
  (hFi : ∀ i (hi : i < l.length), l[i].1 < bl key ↔ i < F) (hF : F ≤ l.length) (hr : 8 * r ≤ F) (hr2 : 8 * r < l.length) (hp : p ≠ co) (hck : ck ≠ co) (hv : ∀ g, v.ownBlock = some g → g ≠ co) :
  Calls Tryz.prog 133 #[(Value.pointer (some ⟨p, 0, none⟩)), .int .i64 r, .func (.func 134) #[] #[(Value.pointer (some ⟨ck, 0, none⟩)), (Value.pointer (some ⟨co, 0, none⟩))]] w fun e w' => e = .returned (.tuple #[]) ∧ At1 w' co (.int .i64 F) 3 ∧ Fr (fun k => k = co) w w' := by
 have hcl := lt_of_block ho
 have hkl := lt_of_block hk
 refine (from_any (fun i w1 U => i ≤ F ∧ At1 w1 co (.int .i64 l.length) 3 ∧ At1 w1 ck (.string key) 9 ∧ U = fun k => k = co) (fun w1 => At1 w1 co (.int .i64 F) 3) (fun k => k = co) 134 #[(Value.pointer (some ⟨ck, 0, none⟩)), (Value.pointer (some ⟨co, 0, none⟩))] seek2_enter B p v l r w h hr2 hp ⟨_, hr, ho, hk, rfl⟩
  ?_ ?_ ?_).mono ?_
 ·rintro i w1 w2 U ⟨h1, h2, h3, rfl⟩ hf
  exact ⟨h1, (hf.block co (lt_of_block h2) (by omega)).trans h2, (hf.block ck (lt_of_block h3) (by omega)).trans h3, rfl⟩
 ·rintro i w1 U hw ⟨h1, h2, h3, rfl⟩ k rfl
  exact ⟨lt_of_block h2, fun e => hp e.symm, by omega, fun g hg e => hv g hg e.symm, fun _ => rfl⟩
 ·rintro i hi w1 U hw ⟨h1, h2, h3, rfl⟩
  refine (seek2_any i l[i] ck co key _ w1 h3 h2).mono ?_
  rintro e w2 ⟨hf, ⟨hlt, rfl, ho2⟩ | ⟨hlt, rfl, ho2⟩⟩
  ·exact ⟨hf, .inl ⟨rfl, _, by have := (hFi i hi).1 hlt; omega, ho2, (hf.block ck (lt_of_block h3) hck).trans h3, rfl⟩⟩
  ·have : ¬ i < F := fun h => hlt ((hFi i hi).2 h)
   obtain rfl : i = F := by omega
   exact ⟨hf, .inr ⟨rfl, ho2⟩⟩
 ·rintro e w2 ⟨rfl, hf, ⟨U, h1, h2, -⟩ | ⟨w1, h1, h2⟩⟩
  ·obtain rfl : F = l.length := by omega
   exact ⟨rfl, h2, hf⟩
  ·exact ⟨rfl, (h2.block co (lt_of_block h1) (fun h => h)).trans h1, hf⟩
theorem seek_any (p B : Nat) (v : Value) (l : List Pr) (key : ByteArray) (w : World) (h : Bk w B p v l) :
  Calls Tryz.prog 89 #[(Value.pointer (some ⟨p, 0, none⟩)), .string key] w fun e w' => e = .returned (.int .i64 (findN (bl key) l)) ∧ Below w.heap.size w w' := by
 obtain ⟨w1, hw1⟩ : ∃ w1, w1 = (w.alloc (.cells #[(Value.pointer (some ⟨p, 0, none⟩))] 132)).alloc (.cells #[.string key] 9) := ⟨_, rfl⟩
 have hb1 : Below w.heap.size w w1 := by rw [hw1]; exact ((Below.refl _ w).alloc (Nat.le_refl _) _).alloc (by simp) _
 have hc1 : At1 w1 w.heap.size ((Value.pointer (some ⟨p, 0, none⟩))) 132 := by
  rw [hw1]
  exact (At1.new w _ _).alloc _
 have hk1 : At1 w1 (w.heap.size + 1) (.string key) 9 := by
  rw [hw1]
  have h2 := At1.new (w.alloc (.cells #[(Value.pointer (some ⟨p, 0, none⟩))] 132)) (.string key) 9
  rw [show (w.alloc (.cells #[(Value.pointer (some ⟨p, 0, none⟩))] 132)).heap.size = w.heap.size + 1 by simp] at h2
  exact h2
 have hs1 : w1.heap.size = w.heap.size + 2 := by rw [hw1]; simp
 have hplt := lt_of_block h.cells
 have hrow : ∀ g, v.ownBlock = some g → g < w.heap.size := fun g hg => (h.row.lt g hg).2
 have hle := h.rise.le
 have hrl := rst_len l
 have hb : Bk w1 B p v l := h2_of hb1 h
 have cc := cellOf2 (o := 0) hc1 rfl
 have HW1 := Lib.hid hw1
 have HB1 := Lib.hid hb1
 have HC1 := Lib.hid hc1
 have HK1 := Lib.hid hk1
 have HS1 := Lib.hid hs1
 have HB := Lib.hid hb
 have HROW := Lib.hid hrow
 have HRL := Lib.hid hrl
 have HLN := Lib.hid (bk_len p B v l _ hb)
 clear h hw1 hb1 hc1 hk1 hs1 hb hrow hrl
 go_enter Tryz.func89, Tryz.ntmps89
 go_upto_region 1 with (fail)
 rw [← HW1.out]
 rcases Nat.eq_zero_or_pos l.length with h0 | h0
 ·have d0 : ((l.length : Int) == 0) = true := by rw [beq_iff_eq]; omega
  go_wp2_with fail
  (with_reducible refine HLN.out.mono ?_)
  rintro e w2 ⟨rfl, rfl⟩
  go_wp2_with fail
  go_ret
  obtain rfl := List.length_eq_zero_iff.1 h0
  exact ⟨rfl, HB1.out⟩
 ·have d0 : ((l.length : Int) == 0) = false := by rw [beq_eq_false_iff_ne]; omega
  have q0 : 0 < (rst l).length := by have := HRL.out; omega
  obtain ⟨g, cp, hv, _, hg, hc, hm, hcell⟩ := own_pos HB.out.row q0
  subst hv
  unfold maxLen at hm
  have c1 : w1.cell? ⟨p, 1, none⟩ = some (.slice (some ⟨g, 0, none⟩) (rst l).length cp) := cellOf2 (o := 1) HB.out.cells rfl
  have ck : w1.cell? ⟨w.heap.size + 1, 0, none⟩ = some (.string key) := cellOf2 (o := 0) HK1.out rfl
  have cb : w1.cell? ⟨w.heap.size, 0, none⟩ = some ((Value.pointer (some ⟨p, 0, none⟩))) := cellOf2 (o := 0) HC1.out rfl
  obtain ⟨F, hF⟩ : ∃ F, F = findN (bl key) l := ⟨_, rfl⟩
  have HF := Lib.hid hF
  have hFl : F ≤ l.length := by rw [hF]; exact findN_le _ _
  have hFi : ∀ i (hi : i < l.length), l[i].1 < bl key ↔ i < F := fun i hi => by rw [hF]; exact findN_iff HB.out.rise _ _ hi
  have hFe : ∀ i (hi : i < l.length), l[i].1 = bl key → F = i := fun i hi h => by rw [hF]; exact findN_eq HB.out.rise _ _ hi h
  have hbs : Calls Tryz.prog 130 #[.slice (some ⟨g, 0, none⟩) (rst l).length cp, .string key, .func (.func 131) #[] #[(Value.pointer (some ⟨w.heap.size, 0, none⟩))]] w1.drew (fun e w' => ∃ fnd : Bool, e = .returned (.tuple #[.int .i64 ((F + 7) / 8 : Nat), .bool fnd]) ∧ (fnd = true → (F + 7) / 8 < (rst l).length ∧ F = 8 * ((F + 7) / 8)) ∧ Below w1.heap.size w1 w') := by
   have hlen := HRL.out
   refine (bsf_any 131 #[(Value.pointer (some ⟨w.heap.size, 0, none⟩))] seek1_enter g (rst l).length cp (fun i => ((rst l).getD i 0 : Nat)) (fun i => Lib.compareBytes (l.getD (8 * i) ([], [])).1 (bl key)) key ((F + 7) / 8) w1.drew hg (by omega) ?_ (by omega) ?_ ?_ ?_).mono ?_
   ·intro i hi
    refine hcell i _ ?_
    rw [List.getElem?_map, List.getElem?_eq_getElem hi]
    simp [List.getD, List.getElem?_eq_getElem hi]
   ·intro i hi
    have h8 : 8 * i < l.length := by omega
    rw [show l.getD (8 * i) ([], []) = l[8 * i] by simp [List.getD, List.getElem?_eq_getElem h8]]
    exact (cmpB _ _).1.2 ((hFi _ h8).2 (by omega))
   ·intro i hi hi2
    have h8 : 8 * i < l.length := by omega
    rw [show l.getD (8 * i) ([], []) = l[8 * i] by simp [List.getD, List.getElem?_eq_getElem h8]]
    have h1 : ¬ Lib.compareBytes l[8 * i].1 (bl key) < 0 := fun h => by have := (hFi _ h8).1 ((cmpB _ _).1.1 h); omega
    omega
   ·intro i W hi hW
    have h8 : 8 * i < l.length := by omega
    rw [show l.getD (8 * i) ([], []) = l[8 * i] by simp [List.getD, List.getElem?_eq_getElem h8]]
    have hW1 : Below w1.heap.size w1 W := hW.undrew
    refine (seek1_any i ((rst l).getD i 0) w.heap.size p B _ l key W (h2_of hW1 HB.out) (HC1.out.below hW1) h8 (by simp [List.getD, List.getElem?_eq_getElem hi])).mono ?_
    rintro e w' ⟨rfl, hb⟩
    exact ⟨rfl, hb⟩
   ·rintro e w' ⟨rfl, hb⟩
    refine ⟨_, rfl, fun hd => ?_, hb.undrew⟩
    rw [decide_eq_true_eq] at hd
    obtain ⟨hd1, hd2⟩ := hd
    have h8 : 8 * ((F + 7) / 8) < l.length := by omega
    rw [show l.getD (8 * ((F + 7) / 8)) ([], []) = l[8 * ((F + 7) / 8)] by simp [List.getD, List.getElem?_eq_getElem h8]] at hd2
    exact ⟨hd1, hFe _ h8 ((cmpB _ _).2.1 hd2)⟩
  have HBS := Lib.hid hbs
  have HFI := Lib.hid hFi
  clear hbs hFi hFe hF hcell cc
  go_wp2_with fail
  (with_reducible refine HLN.out.mono ?_)
  rintro e w2 ⟨rfl, rfl⟩
  go_wp2_with fail
  refine wp_region_held_drew (S := (fun w' => w'.cell? ⟨w.heap.size, 0, none⟩ = some ((Value.pointer (some ⟨p, 0, none⟩))) ∧ w'.cell? ⟨p, 1, none⟩ = some (.slice (some ⟨g, 0, none⟩) (rst l).length cp) ∧ w'.cell? ⟨w.heap.size + 1, 0, none⟩ = some (.string key))) (by kernel_rfl) (by (try dsimp only); exact ⟨cb, c1, ck⟩) (fun hHeld => ?_)
  refine takeH (i := 0) (d := some 12) (v := ?_) rfl rfl (by kernel_rfl) (by kernel_rfl) (by kernel_rfl) (fun _ _ _ h => h) (Or.inl ⟨by rfl, ?_⟩) (by assumption) ?_
  rotate_left
  ·intro wS hSw; (try dsimp only at hSw); go_simp; (try (with_reducible rfl))
  simp only [Act.put, zA, zB, zC]
  refine takeH (i := 1) (d := some 13) (v := ?_) rfl rfl (by kernel_rfl) (by kernel_rfl) (by kernel_rfl) (fun _ _ _ h => h) (Or.inl ⟨by rfl, ?_⟩) (by assumption) ?_
  rotate_left
  ·intro wS hSw; (try dsimp only at hSw); go_simp; (try (with_reducible rfl))
  simp only [Act.put, zA, zB, zC]
  refine takeH (i := 2) (d := some 14) (v := ?_) rfl rfl (by kernel_rfl) (by kernel_rfl) (by kernel_rfl) (fun _ _ _ h => h) (Or.inl ⟨by rfl, ?_⟩) (by assumption) ?_
  rotate_left
  ·intro wS hSw; (try dsimp only at hSw); go_simp; (try (with_reducible rfl))
  simp only [Act.put, zA, zB, zC]
  refine takeH (i := 3) (d := some 15) (v := ?_) rfl rfl (by kernel_rfl) (by kernel_rfl) (by kernel_rfl) (fun _ _ _ h => h) (Or.inl ⟨by rfl, ?_⟩) (by assumption) ?_
  rotate_left
  ·intro wS hSw; (try dsimp only at hSw); go_simp; (try (with_reducible rfl))
  simp only [Act.put, zA, zB, zC]
  refine takeH (i := 4) (d := some 16) (v := ?_) rfl rfl (by kernel_rfl) (by kernel_rfl) (by kernel_rfl) (fun _ _ _ h => h) (Or.inl ⟨by rfl, ?_⟩) (by assumption) ?_
  rotate_left
  ·intro wS hSw; (try dsimp only at hSw); go_simp; (try (with_reducible rfl))
  simp only [Act.put, zA, zB, zC]
  refine takeH (i := 5) (d := some 17) (v := ?_) rfl rfl (by kernel_rfl) (by kernel_rfl) (by kernel_rfl) (fun _ _ _ h => h) (Or.inl ⟨by rfl, ?_⟩) (by assumption) ?_
  rotate_left
  ·intro wS hSw; (try dsimp only at hSw); go_simp; (try (with_reducible rfl))
  simp only [Act.put, zA, zB, zC]
  refine wpAnyH_ready (rs := [6]) (by kernel_rfl) (by simp) ?_
  refine AllReadyH.cons rfl (fun K hK => ?_) AllReadyH.nil
  go_simp
  refine HBS.out.mono ?_
  rintro e w2 ⟨fnd, rfl, hfnd, hb2⟩
  have k0 := (Fr.of_below (fun _ => False) hb2).cell cb (fun h => h)
  have k1 := (Fr.of_below (fun _ => False) hb2).cell c1 (fun h => h)
  have k2 := (Fr.of_below (fun _ => False) hb2).cell ck (fun h => h)
  have HB2 := Lib.hid hb2
  have HFND := Lib.hid hfnd
  clear hb2 hfnd
  go_wp2_with fail
  refine hK.out _ _ (by (try dsimp only); exact ⟨k0, k1, k2⟩) (fun hHeld => ?_)
  clear hK K
  refine takeH (i := 7) (d := some 11) (v := ?_) rfl rfl (by kernel_rfl) (by kernel_rfl) (by kernel_rfl) (fun _ _ _ h => h) (Or.inl ⟨by rfl, ?_⟩) (by assumption) ?_
  rotate_left
  ·intro wS hSw; (try dsimp only at hSw); go_simp; (try (with_reducible rfl))
  simp only [Act.put, zA, zB, zC]
  refine takeH (i := 8) (d := some 19) (v := ?_) rfl rfl (by kernel_rfl) (by kernel_rfl) (by kernel_rfl) (fun _ _ _ h => h) (Or.inl ⟨by rfl, ?_⟩) (by assumption) ?_
  rotate_left
  ·intro wS hSw; (try dsimp only at hSw); go_simp; (try (with_reducible rfl))
  simp only [Act.put, zA, zB, zC]
  refine takeH (i := 9) (d := some 20) (v := ?_) rfl rfl (by kernel_rfl) (by kernel_rfl) (by kernel_rfl) (fun _ _ _ h => h) (Or.inl ⟨by rfl, ?_⟩) (by assumption) ?_
  rotate_left
  ·intro wS hSw; (try dsimp only at hSw); go_simp; (try (with_reducible rfl))
  simp only [Act.put, zA, zB, zC]
  refine takeH (i := 10) (d := some 5) (v := ?_) rfl rfl (by kernel_rfl) (by kernel_rfl) (by kernel_rfl) (fun _ _ _ h => h) (Or.inl ⟨by rfl, ?_⟩) (by assumption) ?_
  rotate_left
  ·intro wS hSw; (try dsimp only at hSw); go_simp; (try (with_reducible rfl))
  simp only [Act.put, zA, zB, zC]
  refine takeH (i := 11) (d := some 6) (v := ?_) rfl rfl (by kernel_rfl) (by kernel_rfl) (by kernel_rfl) (fun _ _ _ h => h) (Or.inl ⟨by rfl, ?_⟩) (by assumption) ?_
  rotate_left
  ·intro wS hSw; (try dsimp only at hSw); go_simp; (try (with_reducible rfl))
  simp only [Act.put, zA, zB, zC]
  refine wpAnyH_done (by kernel_rfl) ?_ _
  have hb2 := h2_of HB2.out HB.out
  have c20 : w2.cell? ⟨p, 2, none⟩ = some (.int .i64 l.length) := cellOf2 (o := 2) hb2.cells rfl
  have hw2 := HB2.out.size
  have hw1 := HS1.out
  have hal : At1 (w2.alloc (.cells #[.int .i64 l.length] 3)) w2.heap.size (.int .i64 l.length) 3 := At1.new _ _ _
  have hba : Below w2.heap.size w2 (w2.alloc (.cells #[.int .i64 l.length] 3)) := (Below.refl _ w2).alloc (Nat.le_refl _) _
  have hfs : ∀ r, 8 * r ≤ F → 8 * r < l.length → _ := fun r h1 h2 => from_seek r F (w.heap.size + 1) w2.heap.size p B _ l key _ (h2_of hba hb2) ((HK1.out.below HB2.out).below hba) hal HFI.out hFl h1 h2 (by omega) (by omega) (fun g hg e => by have := HROW.out g hg; omega)
  have ca : (w2.alloc (.cells #[.int .i64 l.length] 3)).cell? ⟨w.heap.size, 0, none⟩ = some ((Value.pointer (some ⟨p, 0, none⟩))) := cellOf2 (o := 0) (((HC1.out.below HB2.out).below hba)) rfl
  have HFS := Lib.hid hfs
  have HBA := Lib.hid (HB1.out.trans ((HB2.out.trans (hba.mono hw2)).mono HB1.out.size))
  have fin : ∀ w', Fr (fun k => k = w2.heap.size) (w2.alloc (.cells #[.int .i64 l.length] 3)) w' → Below w.heap.size w w' := fun w' hf => HBA.out.trans (hf.below HBA.out.size (fun k _ e => by omega))
  have HFIN := Lib.hid fin
  have HF7 : Hid (((F : Int) + 7) / 8 = ((F + 7) / 8 : Nat)) := Lib.hid (by omega)
  rw [HF7.out]
  have hlen := HRL.out
  clear hb2 hal hba hfs fin c1 ck cb hHeld
  rcases fnd with _ | _
  ·obtain ⟨K, hK⟩ : ∃ K, K = (F + 7) / 8 := ⟨_, rfl⟩
   rw [← hK]
   clear HFND
   rcases Nat.eq_zero_or_pos K with k0 | k0
   ·subst k0
    have hfk := HFS.out 0 (by omega) (by omega)
    have HFK := Lib.hid hfk
    rw [show ((0 : Nat) : Int) = 0 from rfl] at HFK ⊢
    have d2 : decide ((0 : Int) < 0) = false := rfl
    have d1 : ((0 : Int) == ((rst l).length : Int)) = false := by rw [beq_eq_false_iff_ne]; omega
    clear hlen hK hfk
    go_wp2_with fail
    (with_reducible refine HFK.out.mono ?_)
    rintro e w6 ⟨rfl, ho6, hf6⟩
    have c6 := cellOf2 (o := 0) ho6 rfl
    have HE := Lib.hid (HFIN.out _ hf6)
    clear ho6 hf6
    go_wp2_with fail
    go_ret
    exact ⟨by rw [HF.out]; rfl, HE.out⟩
   ·have hfk := HFS.out (K - 1) (by omega) (by omega)
    have HFK := Lib.hid hfk
    have e1 : ((K - 1 : Nat) : Int) = (K : Int) - 1 := by omega
    rw [e1] at HFK
    have d2 : decide ((0 : Int) < (K : Int)) = true := by rw [decide_eq_true_eq]; omega
    have k0' : (0 : Nat) < K := k0
    have w1' : IntKind.i64.wrap ((K : Int) - 1) = (K : Int) - 1 := IntWalk.i64_in _ (by omega)
    have d1 : ((K : Int) - 1 == ((rst l).length : Int)) = false := by rw [beq_eq_false_iff_ne]; omega
    clear hlen hK hfk e1
    go_wp2_with fail
    (with_reducible refine HFK.out.mono ?_)
    rintro e w6 ⟨rfl, ho6, hf6⟩
    have c6 := cellOf2 (o := 0) ho6 rfl
    have HE := Lib.hid (HFIN.out _ hf6)
    clear ho6 hf6
    go_wp2_with fail
    go_ret
    exact ⟨by rw [HF.out]; rfl, HE.out⟩
  ·obtain ⟨f1, f2⟩ := HFND.out rfl
   obtain ⟨K, hK⟩ : ∃ K, K = (F + 7) / 8 := ⟨_, rfl⟩
   rw [← hK] at f1 f2 ⊢
   have hfk := HFS.out K (by omega) (by omega)
   have HFK := Lib.hid hfk
   have d1 : ((K : Int) == ((rst l).length : Int)) = false := by rw [beq_eq_false_iff_ne]; omega
   clear hlen hK hfk
   go_wp2_with fail
   (with_reducible refine HFK.out.mono ?_)
   rintro e w6 ⟨rfl, ho6, hf6⟩
   have c6 := cellOf2 (o := 0) ho6 rfl
   have HE := Lib.hid (HFIN.out _ hf6)
   clear ho6 hf6
   go_wp2_with fail
   go_ret
   exact ⟨by show Ending.returned (Value.int .i64 (8 * (K : Int))) = _; rw [← HF.out, show (F : Int) = 8 * (K : Int) by omega], HE.out⟩
end Go.Proofs.YtdbfaknpfepnfaaGreatDoor


namespace Go.Proofs.YtdbfaknpfepnfaaGreatDoor
open Go.RowKit CodecP

def kb (j : Nat) : List UInt8 := [UInt8.ofNat (1 + j / 200), UInt8.ofNat (1 + j % 200)]
end Go.Proofs.YtdbfaknpfepnfaaGreatDoor


namespace Go.Proofs.YtdbfaknpfepnfaaGreatDoor
open Go.RowKit CodecP

def At2 (w : World) (c : Nat) (q : Pr) : Prop := w.heap[c]? = some (.cells #[.string (str q.1), .string (str q.2)] 43 (0, 0))
theorem At2.below {w w' : World} {c : Nat} {q : Pr} (h : At2 w c q) (hb : Below w.heap.size w w') : At2 w' c q := (hb.block c (lt_of_block h)).trans h
theorem At2.new (w : World) (q : Pr) : At2 (w.alloc (.cells #[.string (str q.1), .string (str q.2)] 43)) w.heap.size q := by
 show (w.heap.push _)[w.heap.size]? = _
 simp
theorem At2.set {w : World} {c : Nat} {q : Pr} (h : At2 w c q) (q' : Pr) : At2 ((w.setCell ⟨c, 0, none⟩ (.string (str q'.1))).setCell ⟨c, 1, none⟩ (.string (str q'.2))) c q' :=
 setAt2 (o := 1) _ (setAt2 (o := 0) _ h)
theorem at1_any (n i : Nat) (q q0 : Pr) (co ci : Nat) (w : World) (ho : At2 w co q0) (hi : At1 w ci (.int .i64 i) 3) :
  Calls Tryz.prog 148 #[.int .i64 n, prV q, (Value.pointer (some ⟨co, 0, none⟩)), (Value.pointer (some ⟨ci, 0, none⟩))] w fun e w' => e = .returned (.bool (decide (n < i))) ∧ At2 w' co q ∧ Fr (fun k => k = co) w w' := by
 unfold prV
 have hne : co ≠ ci := fun e => by
  have h1 := ho
  have h2 := hi
  unfold At2 at h1
  unfold At1 at h2
  rw [e, h2] at h1
  simp at h1
 have hfr : Fr (fun _ => False) w (w.alloc (.cells #[.string (str q.1), .string (str q.2)] 43)) := (Fr.refl _ w).alloc _
 have hp1 := At2.new w q
 have ho1 : At2 _ co q0 := (hfr.block co (lt_of_block ho) (fun h => h)).trans ho
 have hi1 : At1 _ ci _ _ := (hfr.block ci (lt_of_block hi) (fun h => h)).trans hi
 have HFR := Lib.hid hfr
 have HP1 := Lib.hid hp1
 have HO1 := Lib.hid ho1
 have HI1 := Lib.hid hi1
 clear hi ho hfr hp1 ho1 hi1
 go_enter Tryz.func148, Tryz.ntmps148
 go_upto_region 1 with (fail)
 generalize w.alloc (.cells #[.string (str q.1), .string (str q.2)] 43) = w5 at *
 have k0 := cellOf2 (o := 0) HP1.out rfl
 have k1 := cellOf2 (o := 1) HP1.out rfl
 have o0 := cellOf2 (o := 0) HO1.out rfl
 have f0 := free_of2 0 HO1.out
 have o1 := cellOf2 (o := 1) (setAt2 (o := 0) (.string (str q.1)) HO1.out) rfl
 have f1 := free_of2 1 (setAt2 (o := 0) (.string (str q.1)) HO1.out)
 have hs2 := HO1.out.set q
 have hf2 : Fr (fun k => k = co) w5 ((w5.setCell ⟨co, 0, none⟩ (.string (str q.1))).setCell ⟨co, 1, none⟩ (.string (str q.2))) :=
  ((Fr.refl (fun k => k = co) w5).setCell (p := ⟨co, 0, none⟩) (.inl rfl) _).setCell (p := ⟨co, 1, none⟩) (.inl rfl) _
 have hi2 := (hf2.block ci (lt_of_block HI1.out) (fun e => hne e.symm)).trans HI1.out
 have HS2 := Lib.hid hs2
 have HF2 := Lib.hid hf2
 have HI2 := Lib.hid hi2
 clear hs2 hf2 hi2
 go_upto_region 2 with (fail)
 generalize (w5.setCell ⟨co, 0, none⟩ (.string (str q.1))).setCell ⟨co, 1, none⟩ (.string (str q.2)) = w6 at *
 have c6 := cellOf2 (o := 0) HI2.out rfl
 have dl : decide ((n : Int) < (i : Int)) = decide (n < i) := by congr 1; exact propext Int.ofNat_lt
 have HD := Lib.hid dl
 clear dl k0 k1 o0 f0 o1 f1
 go_wp2_with fail
 go_ret
 exact ⟨by congr 2, HS2.out, (HFR.out.mono (T := fun k => k = co) (fun _ _ h => h.elim)).trans HF2.out (fun _ _ h => h)⟩
theorem at1_enter (args : Array Value) (w : World) : (callFunc 148 args).run Tryz.prog w = .ok (.enter 148 args) w := by rfl
theorem from_at (i co ci p B : Nat) (v : Value) (l : List Pr) (q0 : Pr) (w : World) (h : Bk w B p v l) (ho : At2 w co q0) (hci : At1 w ci (.int .i64 i) 3) (hi : i < l.length) (hp : p ≠ co) (hv : ∀ g, v.ownBlock = some g → g ≠ co) :
  Calls Tryz.prog 133 #[(Value.pointer (some ⟨p, 0, none⟩)), .int .i64 (i / 8 : Nat), .func (.func 148) #[] #[(Value.pointer (some ⟨co, 0, none⟩)), (Value.pointer (some ⟨ci, 0, none⟩))]] w fun e w' => e = .returned (.tuple #[]) ∧ At2 w' co l[i] ∧ Fr (fun k => k = co) w w' := by
 have hne : co ≠ ci := fun e => by
  have h1 := ho
  have h2 := hci
  unfold At2 at h1
  unfold At1 at h2
  rw [e, h2] at h1
  simp at h1
 have hcl := lt_of_block ho
 have hkl := lt_of_block hci
 refine (from_any (fun n w1 U => n ≤ i ∧ (∃ q, At2 w1 co q) ∧ At1 w1 ci (.int .i64 i) 3 ∧ U = fun k => k = co) (fun w1 => At2 w1 co l[i]) (fun k => k = co) 148 #[(Value.pointer (some ⟨co, 0, none⟩)), (Value.pointer (some ⟨ci, 0, none⟩))] at1_enter B p v l (i / 8) w h (by omega) hp ⟨_, by omega, ⟨q0, ho⟩, hci, rfl⟩
  ?_ ?_ ?_).mono ?_
 ·rintro n w1 w2 U ⟨h1, ⟨q, h2⟩, h3, rfl⟩ hf
  exact ⟨h1, ⟨q, (hf.block co (lt_of_block h2) (by omega)).trans h2⟩, (hf.block ci (lt_of_block h3) (by omega)).trans h3, rfl⟩
 ·rintro n w1 U hw ⟨h1, ⟨q, h2⟩, h3, rfl⟩ k rfl
  exact ⟨lt_of_block h2, fun e => hp e.symm, by omega, fun g hg e => hv g hg e.symm, fun _ => rfl⟩
 ·rintro n hn w1 U hw ⟨h1, ⟨q, h2⟩, h3, rfl⟩
  refine (at1_any n i l[n] q co ci w1 h2 h3).mono ?_
  rintro e w2 ⟨rfl, ho2, hf⟩
  by_cases hlt : n < i
  ·rw [decide_eq_true hlt]
   exact ⟨hf, .inl ⟨rfl, _, by omega, ⟨_, ho2⟩, (hf.block ci (lt_of_block h3) (fun e => hne e.symm)).trans h3, rfl⟩⟩
  ·rw [decide_eq_false hlt]
   obtain rfl : n = i := by omega
   exact ⟨hf, .inr ⟨rfl, ho2⟩⟩
 ·rintro e w2 ⟨rfl, hf, ⟨U, h1, -⟩ | ⟨w1, h1, h2⟩⟩
  ·omega
  ·exact ⟨rfl, (h2.block co (lt_of_block h1) (fun h => h)).trans h1, hf⟩
theorem at_yes (i p B : Nat) (v : Value) (l : List Pr) (w : World) (h : Bk w B p v l) (hi : i < l.length) :
  Calls Tryz.prog 102 #[(Value.pointer (some ⟨p, 0, none⟩)), .int .i64 i] w fun e w' => e = .returned (.tuple #[prV l[i], .bool true]) ∧ Below w.heap.size w w' := by
 unfold prV
 obtain ⟨w1, hw1⟩ : ∃ w1, w1 = (w.alloc (.cells #[.int .i64 i] 3)).alloc (.cells #[.string (str []), .string (str [])] 43) := ⟨_, rfl⟩
 have hb1 : Below w.heap.size w w1 := by rw [hw1]; exact ((Below.refl _ w).alloc (Nat.le_refl _) _).alloc (by simp) _
 have hs1 : w1.heap.size = w.heap.size + 2 := by rw [hw1]; simp
 have hc1 : At1 w1 w.heap.size (.int .i64 i) 3 := by rw [hw1]; exact (At1.new w _ _).alloc _
 have hr1 : At2 w1 (w.heap.size + 1) ([], []) := by
  rw [hw1]
  have h2 := At2.new (w.alloc (.cells #[.int .i64 i] 3)) ([], [])
  rw [show (w.alloc (.cells #[.int .i64 i] 3)).heap.size = w.heap.size + 1 by simp] at h2
  exact h2
 have hplt := lt_of_block h.cells
 have hrow : ∀ g, v.ownBlock = some g → g < w.heap.size := fun g hg => (h.row.lt g hg).2
 have hk1 := h2_of hb1 h
 have hle := h.rise.le
 have cc : w1.cell? ⟨w.heap.size, 0, none⟩ = some (.int .i64 i) := cellOf2 (o := 0) hc1 rfl
 have HLN := Lib.hid (fun W (hW : Below w1.heap.size w1 W) => bk_len p B v l W (h2_of hW hk1))
 have HW1 := Lib.hid hw1
 have HB1 := Lib.hid hb1
 have HS1 := Lib.hid hs1
 have HC1 := Lib.hid hc1
 have HR1 := Lib.hid hr1
 have HROW := Lib.hid hrow
 have HK1 := Lib.hid hk1
 clear h hw1 hb1 hs1 hc1 hr1 hrow hk1
 have d0 : decide ((i : Int) < 0) = false := by rw [decide_eq_false_iff_not]; omega
 have d1 : decide (l.length ≤ i) = false := by rw [decide_eq_false_iff_not]; omega
 go_enter Tryz.func102, Tryz.ntmps102
 go_upto_region 1 with (fail)
 rw [show (⟨#[]⟩ : ByteArray) = str [] from rfl, ← HW1.out]
 go_wp2_with fail
 go_quiet ((go_at_call 129; exact Calls.quiet_of_same ((HLN.out _ ((Below.refl _ _).drewN _)).mono (fun e w' h => ⟨h.1, h.2.symm⟩))))
 have hn2 : At2 ((w1.drewN nq).alloc (.cells #[.string (str []), .string (str [])] 43)) (w1.drewN nq).heap.size ([], []) := At2.new (w1.drewN nq) ([], [])
 have hb2 : Below w1.heap.size w1 ((w1.drewN nq).alloc (.cells #[.string (str []), .string (str [])] 43)) := ((Below.refl _ w1).drewN nq).alloc (Nat.le_refl _) _
 have HN2 := Lib.hid hn2
 have HB2 := Lib.hid hb2
 clear hn2 hb2
 go_upto_region 4 with (fail)
 rw [show (⟨#[]⟩ : ByteArray) = str [] from rfl]
 have hsz : (w1.drewN nq).heap.size = w1.heap.size := rfl
 rw [hsz] at HN2
 generalize (w1.drewN nq).alloc (.cells #[.string (str []), .string (str [])] 43) = w2 at *
 have c2 : w2.cell? ⟨w.heap.size, 0, none⟩ = some (.int .i64 i) := cellOf2 (o := 0) (HC1.out.below HB2.out) rfl
 have hfa := from_at i w1.heap.size w.heap.size p B v l ([], []) w2 (h2_of HB2.out HK1.out) HN2.out (HC1.out.below HB2.out) hi (by have := HS1.out; omega) (fun g hg => by have := HROW.out g hg; have := HS1.out; omega)
 rw [show ((i / 8 : Nat) : Int) = (i : Int) / 8 by omega] at hfa
 have HFA := Lib.hid hfa
 clear hfa hsz
 go_wp2_with fail
 (with_reducible refine HFA.out.mono ?_)
 rintro e w3 ⟨rfl, ho3, hf3⟩
 have hr3 : At2 w3 (w.heap.size + 1) ([], []) := (hf3.block _ (lt_of_block (HR1.out.below HB2.out)) (by have := HS1.out; omega)).trans (HR1.out.below HB2.out)
 obtain ⟨q, hq⟩ : ∃ q, q = l[i] := ⟨_, rfl⟩
 rw [← hq] at ho3
 have HQ := Lib.hid hq
 have a0 := cellOf2 (o := 0) ho3 rfl
 have a1 := cellOf2 (o := 1) ho3 rfl
 have f0 := free_of2 0 hr3
 have f1 := free_of2 1 (setAt2 (o := 0) (.string (str q.1)) hr3)
 have r0 := cellOf2 (o := 0) hr3 rfl
 have r1 := cellOf2 (o := 1) (setAt2 (o := 0) (.string (str q.1)) hr3) rfl
 have hs4 := hr3.set q
 have b0 := cellOf2 (o := 0) hs4 rfl
 have b1 := cellOf2 (o := 1) hs4 rfl
 have hbel : Below w.heap.size w ((w3.setCell ⟨w.heap.size + 1, 0, none⟩ (.string (str q.1))).setCell ⟨w.heap.size + 1, 1, none⟩ (.string (str q.2))) :=
  ((HB1.out.trans ((HB2.out.trans (hf3.below HB2.out.size (fun k _ e => by omega))).mono HB1.out.size)).setCell (by simp) _).setCell (by simp) _
 have HBEL := Lib.hid hbel
 clear ho3 hr3 hf3 hs4 hbel hq
 go_wp2_with fail
 exact bodyPost_ret (v := .tuple #[.agg #[.string (str q.1), .string (str q.2)], .bool true]) (by simp [results, Tryz.results102, go_sem, b0, b1]) rfl ⟨by rw [HQ.out], HBEL.out⟩
end Go.Proofs.YtdbfaknpfepnfaaGreatDoor


namespace Go.Proofs.YtdbfaknpfepnfaaGreatDoor
open Go.RowKit CodecP

theorem at_no (i : Int) (p B : Nat) (v : Value) (l : List Pr) (w : World) (h : Bk w B p v l) (hi : i < 0 ∨ (l.length : Int) ≤ i) :
  Calls Tryz.prog 102 #[(Value.pointer (some ⟨p, 0, none⟩)), .int .i64 i] w fun e w' => e = .returned (.tuple #[prV ([], []), .bool false]) ∧ Below w.heap.size w w' := by
 unfold prV
 rw [show str ([] : List UInt8) = ⟨#[]⟩ from rfl]
 have hlen : ∀ W, Below w.heap.size w W → _ := fun W hW => bk_len p B v l W (h2_of hW h)
 have HLN := Lib.hid hlen
 clear hlen h
 by_cases h0 : i < 0
 ·have d1 : decide (i < 0) = true := by simpa using h0
  clear hi
  go_enter Tryz.func102, Tryz.ntmps102
  go_wp2_with fail
  go_quiet (fail)
  go_wp2_with fail
  exact bodyPost_ret (v := .tuple #[.agg #[.string ⟨#[]⟩, .string ⟨#[]⟩], .bool false]) (by simp [results, Tryz.results102, go_sem]) rfl ⟨rfl, (((((Below.refl w.heap.size w).alloc (Nat.le_refl _) _).alloc (by simp) _).drewN _).setCell (by simp) _).setCell (by simp) _⟩
 ·have d1 : decide (i < 0) = false := by simpa using h0
  have d2 : decide ((l.length : Int) ≤ i) = true := by rw [decide_eq_true_eq]; omega
  clear hi h0
  go_enter Tryz.func102, Tryz.ntmps102
  go_wp2_with fail
  go_quiet ((go_at_call 129; exact Calls.quiet_of_same ((HLN.out _ ((((Below.refl _ w).alloc (Nat.le_refl _) _).alloc (by simp) _).drewN _)).mono (fun e w' h => ⟨h.1, h.2.symm⟩))))
  go_wp2_with fail
  exact bodyPost_ret (v := .tuple #[.agg #[.string ⟨#[]⟩, .string ⟨#[]⟩], .bool false]) (by simp [results, Tryz.results102, go_sem]) rfl ⟨rfl, (((((Below.refl w.heap.size w).alloc (Nat.le_refl _) _).alloc (by simp) _).drewN _).setCell (by simp) _).setCell (by simp) _⟩
end Go.Proofs.YtdbfaknpfepnfaaGreatDoor


