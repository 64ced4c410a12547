/-
  Texts of the claim, joined: TabCuW, TabCu2W, TabRdP, TabFinW, TabBdP, TabGP, TabGbW, TabAwW, TabNlW.
-/
import Derived.Test.YtdbfaknpfepnfaaGreatDoorMxBK18
import Derived.Test.YtdbfaknpfepnfaaGreatDoorMxBK17
import Derived.Deep.RegionHeld3
import Derived.Deep.RegionWith
import Derived.Test.YtdbfaknpfepnfaaGreatDoorMxBK14
import Derived.Test.YtdbfaknpfepnfaaGreatDoorMxBK4
import Derived.Test.YtdbfaknpfepnfaaGreatDoorMxBK8
set_option maxRecDepth 100000
set_option maxHeartbeats 40000000
namespace Go.Proofs.YtdbfaknpfepnfaaGreatDoor
open Go.RowKit CodecP CrcP FrameP

section
variable {Q : Nat → Prop} {bo : Option Addr} {file : Int} {Ld : Nat → List Pr → Prop} {kc : Kch Q bo file Ld} {w w' : World} {p c : Nat} {s : ByteArray} {bits : List UInt8} {ip : List Pr} {L : List Wh} {n : Nat}
theorem load_c (i : Nat) (hi : i < L.length) (h : TbC kc w p s bits ip L n) (hni : ∀ W, KF Q w W → Nibs W) :
  Calls Tryz.prog 90 #[(Value.pointer (some ⟨p, 0, none⟩)), .int .i64 i] w fun e w' => KF Q w w' ∧ TbC kc w' p s bits ip L n ∧
   ((e = .returned (.tuple #[.pointer none, .int .i64 9]) ∧ (blsO s L)[i]? = some none) ∨ ∃ q v ps, (blsO s L)[i]? = some (some ps) ∧ e = .returned (.tuple #[(Value.pointer (some ⟨q, 0, none⟩)), .int .i64 0]) ∧ Bk w' 0 q v ps ∧ ∀ k, v.ownBlock = some k → kc.nb k ∨ w.heap.size ≤ k) := by
 obtain ⟨B, pi, vi, pv, ht⟩ := h.tt
 refine (load_any kc w B p s bits ip L n pi vi pv i hi ht h.c h.hs h.hL (h.hx i hi) hni (h.hLd i hi)).mono ?_
 rintro e w' ⟨hk, hc, ⟨rfl, hno⟩ | ⟨q, v, ps, hl, rfl, hb, hnb⟩⟩
 ·exact ⟨hk, h.kf hk hc, .inl ⟨rfl, by rw [blsO_get s L i hi, blkO_none.2 hno]⟩⟩
 ·exact ⟨hk, h.kf hk hc, .inr ⟨q, v, ps, by rw [blsO_get s L i hi, blkO_iff.2 hl], rfl, hb, hnb⟩⟩
def EnP (kc : Kch Q bo file Ld) (c p : Nat) (s : ByteArray) (bits : List UInt8) (ip : List Pr) (L : List Wh) (n : Nat) (i a : Nat) (w : World) (e : Ending) (w' : World) : Prop :=
  e = .returned (.tuple #[]) ∧ KC Q c w w' ∧ TbC kc w' p s bits ip L n ∧ ∃ i' a' : Nat, restL (blsO s L) i' a' = restL (blsO s L) i a ∧ (∀ ps, (blsO s L)[i]? = some (some ps) → a < ps.length → i' = i ∧ a' = a) ∧
    (((blsO s L)[i']? = none ∧ ∃ y1 y2, CuC w' c p y1 y2 (.pointer none) 0) ∨ ((blsO s L)[i']? = some none ∧ ∃ y1 y2, CuC w' c p y1 y2 (.pointer none) 9) ∨
      ∃ q v ps, (blsO s L)[i']? = some (some ps) ∧ a' < ps.length ∧ Bk w' 0 q v ps ∧ (∀ k, v.ownBlock = some k → kc.nb k ∨ w.heap.size ≤ k) ∧ CuC w' c p i' a' ((Value.pointer (some ⟨q, 0, none⟩))) 0)
theorem EnP.cu {i a : Nat} {e : Ending} (h : EnP kc c p s bits ip L n i a w e w') : CuN (fun k => kc.nb k ∨ w.heap.size ≤ k) w' c p (blsO s L) (restL (blsO s L) i a).1 (restL (blsO s L) i a).2 := by
 obtain ⟨-, -, -, i', a', h1, -, h3⟩ := h
 rw [← h1]
 rcases h3 with ⟨h4, y1, y2, h5⟩ | ⟨h4, y1, y2, h5⟩ | ⟨q, v, ps, h4, h5, h6, h8, h7⟩
 ·have e := restL_end (a := a') (List.getElem?_eq_none_iff.1 h4)
  rw [e]
  exact .inl ⟨y1, y2, rfl, h5⟩
 ·rw [restL_bad h4]
  exact .inl ⟨y1, y2, rfl, h5⟩
 ·exact .inr ⟨i', a', q, v, ps, h4, h5, h6, h8, rfl, h7⟩
theorem enter_any (p c : Nat) (s : ByteArray) (bits : List UInt8) (ip : List Pr) (L : List Wh) (n : Nat) : ∀ (m i a : Nat) (x1 x2 : Int) (x3 : Value) (w : World), L.length ≤ i + m → CuC w c p x1 x2 x3 0 → TbC kc w p s bits ip L n → (∀ W, KC Q c w W → Nibs W) → i ≤ 1000000 → a ≤ 1000000 →
  Calls Tryz.prog 101 #[(Value.pointer (some ⟨c, 0, none⟩)), .int .i64 i, .int .i64 a] w (EnP kc c p s bits ip L n i a w) := by
 intro m
 induction m with
 | zero =>
  intro i a x1 x2 x3 w hm hc hT hni hi1 ha1
  have h0 : ¬ i < L.length := by omega
  have c3 := cellOf2 (o := 3) hc rfl
  have f3 := free_of2 3 hc
  have hc1 : CuC (w.setCell ⟨c, 3, none⟩ (.pointer none)) c p x1 x2 (.pointer none) 0 := setAt2 (o := 3) _ hc
  have hk1 : KC Q c w (w.setCell ⟨c, 3, none⟩ (.pointer none)) := KC.set 3 _
  have hT1 : TbC kc (w.setCell ⟨c, 3, none⟩ (.pointer none)) p s bits ip L n := hT.keep (S := fun k => k = c) ((Fr.refl (fun k => k = c) w).setCell (p := ⟨c, 3, none⟩) (.inl rfl) _) hc.types
  obtain ⟨B, pi, vi, pv, ht⟩ := hT1.tt
  obtain ⟨po, pc, hpv⟩ := own_form ht.places
  subst hpv
  have d0 := cellOf2 (o := 0) hc1 rfl
  have t5 := cellOf2 (o := 5) ht.cells rfl
  have q1 : (L.length : Int) ≤ (i : Int) := by omega
  have q2 : decide ((L.length : Int) ≤ (i : Int)) = true := by rw [decide_eq_true_eq]; omega
  have HC1 := Lib.hid hc1
  have HK1 := Lib.hid hk1
  have HT1 := Lib.hid hT1
  have hnone : (blsO s L)[i]? = none := List.getElem?_eq_none_iff.2 (by rw [blsO_len]; omega)
  have HN := Lib.hid hnone
  clear hc hT hni ht hc1 hk1 hT1 hm h0 hnone
  go_enter Tryz.func101, Tryz.ntmps101
  go_wp2_with fail
  go_end0
  exact ⟨rfl, HK1.out, HT1.out, i, a, rfl, fun _ _ _ => ⟨rfl, rfl⟩, .inl ⟨HN.out, x1, x2, HC1.out⟩⟩
 | succ m ih =>
  intro i a x1 x2 x3 w hm hc hT hni hi1 ha1
  have c3 := cellOf2 (o := 3) hc rfl
  have f3 := free_of2 3 hc
  have hc1 : CuC (w.setCell ⟨c, 3, none⟩ (.pointer none)) c p x1 x2 (.pointer none) 0 := setAt2 (o := 3) _ hc
  have hk1 : KC Q c w (w.setCell ⟨c, 3, none⟩ (.pointer none)) := KC.set 3 _
  have hT1 : TbC kc (w.setCell ⟨c, 3, none⟩ (.pointer none)) p s bits ip L n := hT.keep (S := fun k => k = c) ((Fr.refl (fun k => k = c) w).setCell (p := ⟨c, 3, none⟩) (.inl rfl) _) hc.types
  obtain ⟨B, pi, vi, pv, ht⟩ := hT1.tt
  obtain ⟨po, pc, hpv⟩ := own_form ht.places
  subst hpv
  have d0 := cellOf2 (o := 0) hc1 rfl
  have t5 := cellOf2 (o := 5) ht.cells rfl
  have HC1 := Lib.hid hc1
  have HK1 := Lib.hid hk1
  have HT1 := Lib.hid hT1
  have HNI := Lib.hid hni
  by_cases h0 : i < L.length
  case neg =>
   have q1 : (L.length : Int) ≤ (i : Int) := by omega
   have q2 : decide ((L.length : Int) ≤ (i : Int)) = true := by rw [decide_eq_true_eq]; omega
   have hnone : (blsO s L)[i]? = none := List.getElem?_eq_none_iff.2 (by rw [blsO_len]; omega)
   have HN := Lib.hid hnone
   clear hc hT hni ht hc1 hk1 hT1 hm h0 hnone
   go_enter Tryz.func101, Tryz.ntmps101
   go_wp2_with fail
   go_end0
   exact ⟨rfl, HK1.out, HT1.out, i, a, rfl, fun _ _ _ => ⟨rfl, rfl⟩, .inl ⟨HN.out, x1, x2, HC1.out⟩⟩
  have q1 : ¬ (L.length : Int) ≤ (i : Int) := by omega
  have q2 : decide ((L.length : Int) ≤ (i : Int)) = false := by rw [decide_eq_false_iff_not]; omega
  have d4 := cellOf2 (o := 4) hc1 rfl
  have HLO := Lib.hid (load_c i h0 hT1 (fun W hW => hni W (hk1.trans (KC.of_kf hW))))
  have HH0 := Lib.hid h0
  have HHM := Lib.hid hm
  have HIH := Lib.hid ih
  clear hc hT hni ht hc1 hk1 hT1 hm h0 ih
  go_enter Tryz.func101, Tryz.ntmps101
  go_wp2_with fail
  (with_reducible refine HLO.out.mono ?_)
  rintro e w2 ⟨hk2, hT2, ⟨rfl, hb⟩ | ⟨q, v, ps, hb, rfl, hbk, hnb⟩⟩
  ·have hc2 := HC1.out.kf hk2
   have e4 := cellOf2 (o := 4) hc2 rfl
   have g4 := free_of2 4 hc2
   have hc3 : CuC (w2.setCell ⟨c, 4, none⟩ (.int .i64 9)) c p x1 x2 (.pointer none) 9 := setAt2 (o := 4) _ hc2
   have HK3 := Lib.hid (HK1.out.trans ((KC.of_kf (c := c) hk2).trans (KC.set (Q := Q) 4 (.int .i64 9))))
   have HT3 := Lib.hid (hT2.keep (S := fun k => k = c) ((Fr.refl (fun k => k = c) w2).setCell (p := ⟨c, 4, none⟩) (.inl rfl) (.int .i64 9)) hc2.types)
   have HC3 := Lib.hid hc3
   have HB := Lib.hid hb
   clear hc2 hc3 hk2 hT2 hb
   go_wp2_with fail
   go_end0
   exact ⟨rfl, HK3.out, HT3.out, i, a, rfl, fun _ _ _ => ⟨rfl, rfl⟩, .inr (.inl ⟨HB.out, x1, x2, HC3.out⟩)⟩
  have hc2 := HC1.out.kf hk2
  have g1 := free_of2 1 hc2
  have g2 := free_of2 2 hc2
  have g3 := free_of2 3 hc2
  have e1 := cellOf2 (o := 1) hc2 rfl
  have e2 := cellOf2 (o := 2) hc2 rfl
  have e3 := cellOf2 (o := 3) hc2 rfl
  have hf3 : Fr (fun k => k = c) w2 (((w2.setCell ⟨c, 1, none⟩ (.int .i64 i)).setCell ⟨c, 2, none⟩ (.int .i64 a)).setCell ⟨c, 3, none⟩ ((Value.pointer (some ⟨q, 0, none⟩)))) := (((Fr.refl (fun k => k = c) w2).setCell (p := ⟨c, 1, none⟩) (.inl rfl) _).setCell (p := ⟨c, 2, none⟩) (.inl rfl) _).setCell (p := ⟨c, 3, none⟩) (.inl rfl) _
  have hc3 : CuC (((w2.setCell ⟨c, 1, none⟩ (.int .i64 i)).setCell ⟨c, 2, none⟩ (.int .i64 a)).setCell ⟨c, 3, none⟩ ((Value.pointer (some ⟨q, 0, none⟩)))) c p i a ((Value.pointer (some ⟨q, 0, none⟩))) 0 := setAt2 (o := 3) _ (setAt2 (o := 2) _ (setAt2 (o := 1) _ hc2))
  have hT3 := hT2.keep hf3 hc2.types
  have hbk3 := bk_keep hbk hf3 hc2.types2
  have hk3 : KC Q c w (((w2.setCell ⟨c, 1, none⟩ (.int .i64 i)).setCell ⟨c, 2, none⟩ (.int .i64 a)).setCell ⟨c, 3, none⟩ ((Value.pointer (some ⟨q, 0, none⟩)))) := HK1.out.trans ((KC.of_kf (c := c) hk2).trans (Fr.mono hf3 (fun _ _ h => .inl h)))
  have HLN := Lib.hid (bk_len q 0 v ps _ hbk3)
  have HC3 := Lib.hid hc3
  have HT3 := Lib.hid hT3
  have HBK3 := Lib.hid hbk3
  have HNB := Lib.hid (show ∀ k, v.ownBlock = some k → kc.nb k ∨ w.heap.size ≤ k from fun k hk => (hnb k hk).imp id (fun h => by simpa using h))
  have hsz3 : w.heap.size ≤ _ := KC.size hk3
  have HSZ := Lib.hid hsz3
  have HK3 := Lib.hid hk3
  have HB := Lib.hid hb
  have hple := hbk.rise.le
  clear hc2 hf3 hc3 hT3 hbk3 hk3 hk2 hT2 hb hbk hnb hsz3
  by_cases hap : a < ps.length
  ·have r1 : ¬ (ps.length : Int) ≤ (a : Int) := by omega
   have r2 : decide ((ps.length : Int) ≤ (a : Int)) = false := by rw [decide_eq_false_iff_not]; omega
   have HAP := Lib.hid hap
   clear hap
   go_wp2_with fail
   (with_reducible refine HLN.out.mono ?_)
   rintro e w4 ⟨rfl, rfl⟩
   go_wp2_with fail
   go_end0
   exact ⟨rfl, HK3.out, HT3.out, i, a, rfl, fun _ _ _ => ⟨rfl, rfl⟩, .inr (.inr ⟨q, v, ps, HB.out, HAP.out, HBK3.out, HNB.out, HC3.out⟩)⟩
  ·have r1 : (ps.length : Int) ≤ (a : Int) := by omega
   have r2 : decide ((ps.length : Int) ≤ (a : Int)) = true := by rw [decide_eq_true_eq]; omega
   have wi : IntKind.i64.wrap ((i : Int) + 1) = (i : Int) + 1 := IntWalk.i64_in _ (by omega)
   have HAP := Lib.hid hap
   have HRE := Lib.hid (HIH.out (i + 1) 0 i a ((Value.pointer (some ⟨q, 0, none⟩))) _ (by (have := HHM.out; omega)) HC3.out HT3.out (fun W hW => HNI.out W (HK3.out.trans hW)) (by (have := HH0.out; have := HT3.out.hL; omega)) (by omega))
   rw [show ((i + 1 : Nat) : Int) = (i : Int) + 1 by omega, show ((0 : Nat) : Int) = 0 from rfl] at HRE
   clear hap
   go_wp2_with fail
   (with_reducible refine HLN.out.mono ?_)
   rintro e w4 ⟨rfl, rfl⟩
   go_wp2_with fail
   (with_reducible refine HRE.out.mono ?_)
   rintro e w5 hE
   obtain ⟨rfl, hk5, hT5, i', a', h1, h2, h3⟩ := hE
   have HK5 := Lib.hid (HK3.out.trans hk5)
   have HT5 := Lib.hid hT5
   have H1 := Lib.hid h1
   have H3 := Lib.hid h3
   clear hk5 hT5 h1 h2 h3
   go_wp2_with fail
   go_end0
   refine ⟨rfl, HK5.out, HT5.out, i', a', by rw [H1.out, restL_over HB.out (by (have := HAP.out; omega))], fun ps2 h4 h5 => ?_, H3.out.imp id (fun h => h.imp id (fun ⟨q, v, ps, g1, g2, g3, g4, g5⟩ => ⟨q, v, ps, g1, g2, g3, fun k hk => (g4 k hk).imp id (fun h => Nat.le_trans HSZ.out h), g5⟩))⟩
   rw [HB.out] at h4
   injection h4 with h4
   injection h4 with h4
   exact absurd (h4 ▸ h5) HAP.out
end
end Go.Proofs.YtdbfaknpfepnfaaGreatDoor


namespace Go.Proofs.YtdbfaknpfepnfaaGreatDoor
open Go.RowKit CodecP CrcP FrameP

section
variable {Q : Nat → Prop} {bo : Option Addr} {file : Int} {Ld : Nat → List Pr → Prop} {kc : Kch Q bo file Ld} {w w' : World} {p c : Nat} {s : ByteArray} {bits : List UInt8} {ip : List Pr} {L : List Wh} {n : Nat}
theorem Cu.some {bls : List (Option (List Pr))} {x : Pr} {r : List Pr} {bad : Bool} (h : Cu w c p bls (x :: r) bad) : ∃ (i a q : Nat) (v : Value) (ps : List Pr) (ha : a < ps.length), bls[i]? = some (some ps) ∧ Bk w 0 q v ps ∧ x = ps[a] ∧ (r, bad) = restL bls i (a + 1) ∧ CuC w c p i a ((Value.pointer (some ⟨q, 0, none⟩))) 0 := by
 rcases h with ⟨i, a, h1, -⟩ | ⟨i, a, q, v, ps, h1, h2, h3, h4, h5⟩
 ·cases h1
 ·rw [restL_at h1 h2] at h4
  injection h4 with h6 h7
  injection h6 with h6 h8
  exact ⟨i, a, q, v, ps, h2, h1, h3, h6, by rw [h8, h7], h5⟩
theorem Cu.none {bls : List (Option (List Pr))} {bad : Bool} (h : Cu w c p bls [] bad) : ∃ i a, CuC w c p i a (.pointer none) (if bad then 9 else 0) := by
 rcases h with ⟨i, a, -, h2⟩ | ⟨i, a, q, v, ps, h1, h2, h3, h4, h5⟩
 ·exact ⟨i, a, h2⟩
 ·rw [restL_at h1 h2] at h4
  injection h4 with h6 h7
  cases h6
theorem curNew_any (p : Nat) (w : World) :
  Calls Tryz.prog 51 #[(Value.pointer (some ⟨p, 0, none⟩))] w fun e w' => e = .returned ((Value.pointer (some ⟨w.heap.size, 0, none⟩))) ∧ CuC w' w.heap.size p 0 0 (.pointer none) 0 ∧ Below w.heap.size w w' := by
 have hc : CuC (w.alloc (.cells #[(Value.pointer (some ⟨p, 0, none⟩)), .int .i64 0, .int .i64 0, .pointer none, .int .i64 0] 157)) w.heap.size p 0 0 (.pointer none) 0 := by
  show (w.heap.push _)[w.heap.size]? = _
  simp
 have HC := Lib.hid hc
 have HB := Lib.hid ((Below.refl w.heap.size w).alloc (Nat.le_refl _) (.cells #[(Value.pointer (some ⟨p, 0, none⟩)), .int .i64 0, .int .i64 0, .pointer none, .int .i64 0] 157))
 clear hc
 go_enter Tryz.func51, Tryz.ntmps51
 go_wp2_with fail
 go_ret
 exact ⟨rfl, HC.out, HB.out⟩
theorem cuFirst_any (x1 x2 : Int) (x3 : Value) (hc : CuC w c p x1 x2 x3 0) (hT : TbC kc w p s bits ip L n) (hni : ∀ W, KC Q c w W → Nibs W) :
  Calls Tryz.prog 52 #[(Value.pointer (some ⟨c, 0, none⟩))] w fun e w' => e = .returned (.tuple #[]) ∧ KC Q c w w' ∧ TbC kc w' p s bits ip L n ∧ CuN (fun k => kc.nb k ∨ w.heap.size ≤ k) w' c p (blsO s L) (goL (blsO s L)).1 (goL (blsO s L)).2 := by
 have HE := Lib.hid (enter_any (kc := kc) p c s bits ip L n L.length 0 0 x1 x2 x3 w (by omega) hc hT hni (by omega) (by omega))
 rw [show ((0 : Nat) : Int) = 0 from rfl] at HE
 clear hc hT hni
 go_enter Tryz.func52, Tryz.ntmps52
 go_wp2_with fail
 (with_reducible refine HE.out.mono ?_)
 rintro e w1 hE
 have hcu := hE.cu
 rw [restL_zero, List.drop_zero] at hcu
 obtain ⟨rfl, hk, hT, -⟩ := hE
 have HK := Lib.hid hk
 have HT := Lib.hid hT
 have HC := Lib.hid hcu
 clear hk hT hcu
 go_wp2_with fail
 go_end0
 exact ⟨rfl, HK.out, HT.out, HC.out⟩
theorem cuValid_yes {bls : List (Option (List Pr))} {x : Pr} {r : List Pr} {bad : Bool} (h : Cu w c p bls (x :: r) bad) :
  Calls Tryz.prog 53 #[(Value.pointer (some ⟨c, 0, none⟩))] w fun e w' => e = .returned (.bool true) ∧ w = w' := by
 obtain ⟨i, a, q, v, ps, ha, -, -, -, -, h5⟩ := h.some
 have c3 := cellOf2 (o := 3) h5 rfl
 clear h h5
 go_enter Tryz.func53, Tryz.ntmps53
 go_wp2_with fail
 go_ret
 exact ⟨rfl, rfl⟩
theorem cuValid_no {i a : Int} {ev : Int} (h : CuC w c p i a (.pointer none) ev) :
  Calls Tryz.prog 53 #[(Value.pointer (some ⟨c, 0, none⟩))] w fun e w' => e = .returned (.bool false) ∧ w = w' := by
 have c3 := cellOf2 (o := 3) h rfl
 clear h
 go_enter Tryz.func53, Tryz.ntmps53
 go_wp2_with fail
 go_ret
 exact ⟨rfl, rfl⟩
theorem cuErr_c {i a : Int} {nv : Value} {ev : Int} (h : CuC w c p i a nv ev) :
  Calls Tryz.prog 56 #[(Value.pointer (some ⟨c, 0, none⟩))] w fun e w' => e = .returned (.int .i64 ev) ∧ w = w' := by
 have c4 := cellOf2 (o := 4) h rfl
 clear h
 go_enter Tryz.func56, Tryz.ntmps56
 go_wp2_with fail
 go_ret
 exact ⟨rfl, rfl⟩
theorem cuNext_any {x : Pr} {r : List Pr} {bad : Bool} (h : Cu w c p (blsO s L) (x :: r) bad) (hT : TbC kc w p s bits ip L n) (hni : ∀ W, KC Q c w W → Nibs W) :
  Calls Tryz.prog 55 #[(Value.pointer (some ⟨c, 0, none⟩))] w fun e w' => e = .returned (.tuple #[]) ∧ KC Q c w w' ∧ TbC kc w' p s bits ip L n ∧ CuN (fun k => kc.nb k ∨ w.heap.size ≤ k) w' c p (blsO s L) r bad := by
 have HV := Lib.hid (cuValid_yes h)
 obtain ⟨i, a, q, v, ps, ha, h1, h2, h3, h4, h5⟩ := h.some
 have hi : i < L.length := by
  have := (List.getElem?_eq_some_iff.1 h1).1
  rwa [blsO_len] at this
 have hpl := h2.rise.le
 have hLl := hT.hL
 have hbd : Below w.heap.size w w.drew := (Below.refl _ w).drew
 have HE := Lib.hid (enter_any (kc := kc) p c s bits ip L n L.length i (a + 1) i a ((Value.pointer (some ⟨q, 0, none⟩))) w.drew (by omega) (h5.below hbd) (hT.below hbd) (fun W hW => hni W ((KC.of_below hbd).trans hW)) (by omega) (by omega))
 rw [show ((a + 1 : Nat) : Int) = (a : Int) + 1 by omega] at HE
 have c1 := cellOf2 (o := 1) h5 rfl
 have c2 := cellOf2 (o := 2) h5 rfl
 have wa : IntKind.i64.wrap ((a : Int) + 1) = (a : Int) + 1 := IntWalk.i64_in _ (by omega)
 have H4 := Lib.hid h4
 have HB := Lib.hid hbd
 clear h h1 h2 h3 h4 h5 hT hni hbd
 go_enter Tryz.func55, Tryz.ntmps55
 go_wp2_with fail
 (with_reducible refine HV.out.mono ?_)
 rintro e w1 ⟨rfl, rfl⟩
 go_wp2_with fail
 go_still_tail 10, (by kernel_rfl)
 change wpList _ _ _ _ _ w.drew
 go_wp2_with fail
 (with_reducible refine HE.out.mono ?_)
 rintro e w1 hE
 have hcu := hE.cu
 rw [← H4.out] at hcu
 obtain ⟨rfl, hk, hT, -⟩ := hE
 have HK := Lib.hid ((KC.of_below (c := c) HB.out).trans hk)
 have HT := Lib.hid hT
 have HC := Lib.hid hcu
 clear hk hT hcu
 go_wp2_with fail
 go_end0
 exact ⟨rfl, HK.out, HT.out, HC.out⟩
end
end Go.Proofs.YtdbfaknpfepnfaaGreatDoor


namespace Go.Proofs.YtdbfaknpfepnfaaGreatDoor
open Go.RowKit CodecP CrcP FrameP BloomP

theorem frmd_frame (a d b : List UInt8) (h : d.length ≤ 131072) (f t : Int) (hf : f = a.length) (ht : t = (a.length : Int) + (frame d).length) : frmd (a ++ frame d ++ b) f t = (d, true) := by
 subst hf ht
 have h1 : ((a ++ frame d ++ b).drop a.length).take (frame d).length = frame d := by
  rw [List.append_assoc, List.drop_left' rfl, List.take_left' rfl]
 have h2 : opn (frame d) = (d, 12 + d.length, 0) := by
  have := opn_frame d [] h
  rw [List.append_nil] at this
  exact this
 unfold frmd
 rw [if_neg (by simp only [List.length_append]; omega), show (((a.length : Int) + (frame d).length) - (a.length : Int)).toNat = (frame d).length by omega, show ((a.length : Int)).toNat = a.length from rfl, h1, h2, frame_length]
 simp
theorem rawS_fixed (a : Nat) (r : List UInt8) : rawS 8 (some (fixed 8 a ++ r)) = (fixed 8 a, some r) := by
 have h : (fixed 8 a).length = 8 := fixed_length 8 a
 unfold rawS
 simp only []
 rw [if_neg (by rw [List.length_append, h]; omega), show (8 : Int).toNat = 8 from rfl, List.take_left' h, List.drop_left' h]
theorem endsF_tab (bs : List (List Pr)) (ks : List (List UInt8)) (h : (tabS bs ks).length ≤ 1000000000000) (hk : ks.length ≤ 1000000) (hkl : ks.length ≤ (tabS bs ks).length) : endsF (tabS bs ks) = some ((outB bs).length, (outB bs).length + (tabF ks).length, ks.length) := by
 have hE := tabE_len (outB bs).length (tabF ks).length ks.length
 have hl : (tabS bs ks).length = (outB bs).length + (tabF ks).length + (frm (idx bs)).length + 36 := by
  unfold tabS; rw [List.length_append, List.length_append, List.length_append, hE]
 have hf : frmd (tabS bs ks) (((tabS bs ks).length : Int) - 36) (tabS bs ks).length = (fixed 8 (outB bs).length ++ fixed 8 ((outB bs).length + (tabF ks).length) ++ fixed 8 ks.length, true) := by
  have hd : (fixed 8 (outB bs).length ++ fixed 8 ((outB bs).length + (tabF ks).length) ++ fixed 8 ks.length).length ≤ 131072 := by
   simp only [List.length_append, fixed_length]; omega
  have := frmd_frame (outB bs ++ tabF ks ++ frm (idx bs)) (fixed 8 (outB bs).length ++ fixed 8 ((outB bs).length + (tabF ks).length) ++ fixed 8 ks.length) [] hd (((tabS bs ks).length : Int) - 36) (tabS bs ks).length (by rw [hl]; simp only [List.length_append]; omega) (by
   rw [hl]
   have : (frame (fixed 8 (outB bs).length ++ fixed 8 ((outB bs).length + (tabF ks).length) ++ fixed 8 ks.length)).length = 36 := hE
   rw [this]
   simp only [List.length_append]; omega)
  rw [List.append_nil] at this
  exact this
 have v1 : value (fixed 8 (outB bs).length) = (outB bs).length := value_fixed 8 _ (by omega)
 have v2 : value (fixed 8 ((outB bs).length + (tabF ks).length)) = (outB bs).length + (tabF ks).length := value_fixed 8 _ (by omega)
 have v3 : value (fixed 8 ks.length) = ks.length := value_fixed 8 _ (by omega)
 have r3 : rawS 8 (some (fixed 8 ks.length)) = (fixed 8 ks.length, some []) := by
  have := rawS_fixed ks.length []
  rw [List.append_nil] at this
  exact this
 unfold endsF
 simp only []
 rw [hf]
 simp only []
 rw [List.append_assoc, rawS_fixed]
 simp only []
 rw [rawS_fixed]
 simp only []
 rw [r3, v1, v2, v3]
 rw [if_pos ⟨by simp, by simp, by omega, by omega, hkl⟩]
def whs : Nat → List (List Pr) → List Wh
 | _, [] => []
 | a, b :: r => (a, (frm b).length, lastK b) :: whs (a + (frm b).length) r
theorem plc_idx (upto : Nat) : ∀ (bs : List (List Pr)) (a : Nat) (acc : List Wh), a + (outB bs).length ≤ upto → upto ≤ 1000000000000 → (idxF a bs).foldl (plcS upto) (some (a, acc)) = some (a + (outB bs).length, acc ++ whs a bs)
 | [], a, acc, _, _ => by simp [idxF, outB, whs]
 | b :: r, a, acc, h, hu => by
  have hb : (outB (b :: r)).length = (frm b).length + (outB r).length := by simp [outB]
  have hf := frm_len b
  have e1 : sz (some (grp a ++ grp (frm b).length)) = (a, some (grp (frm b).length)) := sz_grp a _ (by omega)
  have e2 : sz (some (grp (frm b).length)) = ((frm b).length, some []) := by
   have := sz_grp (frm b).length [] (by omega)
   rw [List.append_nil] at this
   exact this
  rw [idxF, List.foldl_cons]
  have hs : plcS upto (some (a, acc)) (lastK b, grp a ++ grp (frm b).length) = some (a + (frm b).length, acc ++ [(a, (frm b).length, lastK b)]) := by
   unfold plcS
   simp only []
   rw [e1]
   simp only []
   rw [e2]
   simp only []
   rw [if_pos ⟨by simp, by simp, by omega, by omega⟩]
  rw [hs, plc_idx upto r (a + (frm b).length) _ (by omega) hu, whs, hb]
  simp [Nat.add_assoc]
theorem placesF_idx (bs : List (List Pr)) (h : (outB bs).length ≤ 1000000000000) : placesF (idx bs) (outB bs).length = some (whs 0 bs) := by
 unfold placesF plcs idx
 rw [plc_idx _ bs 0 [] (by omega) h]
 simp
theorem whs_len : ∀ (bs : List (List Pr)) (a : Nat), (whs a bs).length = bs.length
 | [], _ => rfl
 | _ :: r, a => by rw [whs, List.length_cons, List.length_cons, whs_len r]
theorem whs_get : ∀ (bs : List (List Pr)) (a i : Nat) (h : i < (whs a bs).length) (h2 : i < bs.length), (whs a bs)[i] = (a + (outB (bs.take i)).length, (frm bs[i]).length, lastK bs[i])
 | b :: r, a, 0, h, h2 => by simp [whs, outB]
 | b :: r, a, i + 1, h, h2 => by
  have := whs_get r (a + (frm b).length) i (by rw [whs_len]; simpa using h2) (by simpa using h2)
  simp only [whs, List.getElem_cons_succ, List.take_succ_cons]
  rw [this]
  simp [outB, Nat.add_assoc]
theorem outB_split (bs : List (List Pr)) (i : Nat) (h : i < bs.length) : outB bs = outB (bs.take i) ++ frm bs[i] ++ outB (bs.drop (i + 1)) := by
 have e : bs = bs.take i ++ bs[i] :: bs.drop (i + 1) := by rw [← List.drop_eq_getElem_cons h, List.take_append_drop]
 refine (congrArg outB e).trans ?_
 unfold outB
 rw [List.flatMap_append, List.flatMap_cons, List.append_assoc]
end Go.Proofs.YtdbfaknpfepnfaaGreatDoor


namespace Go.Proofs.YtdbfaknpfepnfaaGreatDoor
open Go.RowKit CodecP CrcP FrameP

theorem Tb.fz {w : World} {p sz nb : Nat} {cl : List (List Pr)} {cur : List Pr} {ks : List (List UInt8)} {fz : Bool} {x : TbS} (h : Tb w p sz cl cur ks nb fz x) : Tb w p sz cl cur ks nb true x :=
 ⟨h.cells, h.av, h.row, (fun e => by cases e), h.now, h.ix, h.keys, h.apn, h.api, h.apb⟩
def bsOf (cl : List (List Pr)) (cur : List Pr) : List (List Pr) := if cur = [] then cl else cl ++ [cur]
end Go.Proofs.YtdbfaknpfepnfaaGreatDoor


namespace Go.Proofs.YtdbfaknpfepnfaaGreatDoor
open Go.RowKit CodecP CrcP FrameP BloomP

theorem blocksOf_bs (sz : Nat) (l : List Pr) : blocksOf sz l = bsOf (cut sz l).1 (cut sz l).2 := by
 unfold blocksOf closeB bsOf
 rfl
structure BksI (bs : List (List Pr)) (l : List Pr) : Prop where
 flat : bs.flatten = l
 ne : ∀ b ∈ bs, b ≠ []
 rise : ∀ b ∈ bs, Rise b
 small : ∀ b ∈ bs, (blk b).length ≤ 32500
 idx_ : Rise (idx bs)
 few : bs.length ≤ 200
theorem AccI.bks {sz : Nat} {acc : List Pr} (h : AccI sz acc) : BksI (bsOf (cut sz acc).1 (cut sz acc).2) acc := by
 have hc := h.cutI
 have hp := rise_parts h.rise hc.flat
 have hl := cut_len hc
 have hflat : (bsOf (cut sz acc).1 (cut sz acc).2).flatten = acc := by
  unfold bsOf
  split
  ·rename_i h0
   have := hc.flat
   rw [h0, List.append_nil] at this
   exact this
  ·rw [List.flatten_append, List.flatten_singleton]; exact hc.flat
 have hne : ∀ b ∈ bsOf (cut sz acc).1 (cut sz acc).2, b ≠ [] := fun b hb => by
  unfold bsOf at hb
  split at hb
  ·exact hc.ne b hb
  ·rename_i h0
   rcases List.mem_append.1 hb with hb | hb
   ·exact hc.ne b hb
   ·rw [List.mem_singleton.1 hb]; exact h0
 have hlen : ∀ L : List (List Pr), (∀ b ∈ L, b ≠ []) → L.length ≤ L.flatten.length := fun L hL => by
  induction L with
  | nil => simp
  | cons b L ih =>
   have h1 := ih (fun x hx => hL x (by simp [hx]))
   have h2 := List.length_pos_iff.2 (hL b (by simp))
   rw [List.flatten_cons, List.length_append, List.length_cons]; omega
 refine ⟨hflat, hne, ?_, ?_, rise_idx (by rw [hflat]; exact h.rise) hne, by have := hlen _ hne; rw [hflat] at this; have := h.le; omega⟩
 ·intro b hb
  unfold bsOf at hb
  split at hb
  ·exact hp.1 b hb
  ·rcases List.mem_append.1 hb with hb | hb
   ·exact hp.1 b hb
   ·rw [List.mem_singleton.1 hb]; exact hp.2
 ·intro b hb
  unfold bsOf at hb
  split at hb
  ·exact hc.small b hb
  ·rcases List.mem_append.1 hb with hb | hb
   ·exact hc.small b hb
   ·rw [List.mem_singleton.1 hb]; have := hc.cur; omega
end Go.Proofs.YtdbfaknpfepnfaaGreatDoor


namespace Go.Proofs.YtdbfaknpfepnfaaGreatDoor
open Go.RowKit CodecP CrcP FrameP BloomP

theorem idx_get (bs : List (List Pr)) (i : Nat) (h : i < (idx bs).length) : (idx bs)[i].1 = lastK (bs[i]'(by rw [idx_len] at h; exact h)) := by
 have e := idx_key bs
 have h1 : ((idx bs).map (·.1))[i]'(by simpa using h) = (bs.map lastK)[i]'(by rw [idx_len] at h; simpa using h) := by simp only [e]
 simpa using h1
theorem last_ge {b : List Pr} (h : Rise b) {q : Pr} (hq : q ∈ b) : ¬ lastK b < q.1 := by
 rcases List.eq_nil_or_concat b with rfl | ⟨r, z, e⟩
 ·cases hq
 ·rw [List.concat_eq_append] at e
  subst e
  rw [lastK_snoc]
  rcases List.mem_append.1 hq with hq | hq
  ·have := (List.pairwise_append.1 h.up).2.2 q hq z (by simp)
   exact fun h2 => List.lt_irrefl _ (List.lt_trans this h2)
  ·rw [List.mem_singleton.1 hq]; exact List.lt_irrefl _
theorem div_burstA (k b a : Nat) (hb : b < 4294967296) : ∃ k' b', b' < 4294967296 ∧ 2 ^ k * b / 256 ^ a = 2 ^ k' * b' := by
 have h64 : 256 ^ a = 2 ^ (8 * a) := by rw [show (256 : Nat) = 2 ^ 8 by decide, ← Nat.pow_mul]
 rw [h64]
 by_cases h : 8 * a ≤ k
 ·refine ⟨k - 8 * a, b, hb, ?_⟩
  have : 2 ^ k = 2 ^ (8 * a) * 2 ^ (k - 8 * a) := by rw [← Nat.pow_add]; congr 1; omega
  rw [this, Nat.mul_assoc, Nat.mul_div_cancel_left _ (Nat.two_pow_pos _)]
 ·refine ⟨0, b / 2 ^ (8 * a - k), Nat.lt_of_le_of_lt (Nat.div_le_self _ _) hb, ?_⟩
  have : 2 ^ (8 * a) = 2 ^ k * 2 ^ (8 * a - k) := by rw [← Nat.pow_add]; congr 1; omega
  rw [this, Nat.mul_div_mul_left _ _ (Nat.two_pow_pos k)]; simp
theorem frmd_turned (a d z : List UInt8) (k b : Nat) (hb : b < 4294967296) (hd : d.length ≤ 131072) (f t : Int) (hf : f = a.length) (ht : t = (a.length : Int) + (frame d).length) (x : List UInt8) (h : frmd (turned (a ++ frame d ++ z) k b) f t = (x, true)) : x = d := by
 subst hf ht
 unfold frmd at h
 have hl : (turned (a ++ frame d ++ z) k b).length = a.length + (frame d).length + z.length := by
  unfold turned
  rw [xorNum_length, List.length_append, List.length_append]
 have h1 : ((turned (a ++ frame d ++ z) k b).drop a.length).take (frame d).length = xorNum (frame d) (2 ^ k * b / 256 ^ a.length) := by
  unfold turned
  rw [xorNum_drop, xorNum_take, List.append_assoc, List.drop_left' rfl, List.take_left' rfl]
 rw [if_neg (by rw [hl]; omega), show (((a.length : Int) + (frame d).length) - (a.length : Int)).toNat = (frame d).length by omega, show ((a.length : Int)).toNat = a.length from rfl, h1] at h
 obtain ⟨k', b', hb', e⟩ := div_burstA k b a.length hb
 rw [e] at h
 by_cases hq : xorNum (frame d) (2 ^ k' * b') = frame d
 ·rw [hq] at h
  have h2 := opn_frame d [] hd
  rw [List.append_nil] at h2
  rw [h2] at h
  injection h with h3 h4
  exact h3.symm
 ·have h2 := opn_burst d k' b' hd hb' hq
  injection h with h3 h4
  exact absurd (of_decide_eq_true h4).1 h2
theorem endsF_same {l m : List UInt8} (hl : l.length = m.length) (h : frmd l ((l.length : Int) - 36) l.length = frmd m ((m.length : Int) - 36) m.length) : endsF l = endsF m := by
 unfold endsF
 rw [h, hl]
theorem endsF_bad {l x : List UInt8} (h : frmd l ((l.length : Int) - 36) l.length = (x, false)) : endsF l = none := by
 unfold endsF
 rw [h]
 simp
theorem tabO_turned (bs : List (List Pr)) (ks : List (List UInt8)) (k b : Nat) (hb : b < 4294967296) (h : (tabS bs ks).length ≤ 1000000000000) (hk : ks.length ≤ 200) (hkl : ks.length ≤ (tabS bs ks).length) (hr : Rise (idx bs)) (hi : (blk (idx bs)).length ≤ 131072)
  {bits : List UInt8} {ip : List Pr} {L : List Wh} {n : Nat} (ho : TabO (turned (tabS bs ks) k b) bits ip L n) : bits = make (ks.map frontK) ∧ ip = idx bs ∧ L = whs 0 bs ∧ n = ks.length := by
 have hE := tabE_len (outB bs).length (tabF ks).length ks.length
 have hl : (tabS bs ks).length = (outB bs).length + (tabF ks).length + (frm (idx bs)).length + 36 := by
  unfold tabS; rw [List.length_append, List.length_append, List.length_append, hE]
 have hlt : (turned (tabS bs ks) k b).length = (tabS bs ks).length := xorNum_length _ _
 have hm := make_len (ks.map frontK) (by simpa using hk)
 obtain ⟨f, a, h1, h2, h3, h4, h5⟩ := ho
 have hd : (fixed 8 (outB bs).length ++ fixed 8 ((outB bs).length + (tabF ks).length) ++ fixed 8 ks.length).length ≤ 131072 := by
  simp only [List.length_append, fixed_length]; omega
 have hEl : (frame (fixed 8 (outB bs).length ++ fixed 8 ((outB bs).length + (tabF ks).length) ++ fixed 8 ks.length)).length = 36 := hE
 have p1 : (((tabS bs ks).length : Int) - 36) = ((outB bs ++ tabF ks ++ frm (idx bs)).length : Nat) := by rw [hl]; simp only [List.length_append]; omega
 have p2 : ((tabS bs ks).length : Int) = ((outB bs ++ tabF ks ++ frm (idx bs)).length : Int) + (frame (fixed 8 (outB bs).length ++ fixed 8 ((outB bs).length + (tabF ks).length) ++ fixed 8 ks.length)).length := by
  rw [hl, hEl]; simp only [List.length_append]; omega
 have e0 : tabS bs ks = outB bs ++ tabF ks ++ frm (idx bs) ++ frame (fixed 8 (outB bs).length ++ fixed 8 ((outB bs).length + (tabF ks).length) ++ fixed 8 ks.length) ++ [] := by
  rw [List.append_nil]; rfl
 have hends : endsF (turned (tabS bs ks) k b) = endsF (tabS bs ks) := by
  rcases hq : frmd (turned (tabS bs ks) k b) (((turned (tabS bs ks) k b).length : Int) - 36) (turned (tabS bs ks) k b).length with ⟨x, w⟩
  cases w with
  | false => rw [endsF_bad hq] at h1; exact absurd h1 (by simp)
  | true =>
   refine endsF_same hlt ?_
   rw [hlt] at hq ⊢
   have hx : x = fixed 8 (outB bs).length ++ fixed 8 ((outB bs).length + (tabF ks).length) ++ fixed 8 ks.length := by
    refine frmd_turned (outB bs ++ tabF ks ++ frm (idx bs)) _ [] k b hb hd _ _ p1 p2 x ?_
    rw [← e0]
    exact hq
   have hq2 : frmd (tabS bs ks) (((tabS bs ks).length : Int) - 36) (tabS bs ks).length = (fixed 8 (outB bs).length ++ fixed 8 ((outB bs).length + (tabF ks).length) ++ fixed 8 ks.length, true) := by
    have := frmd_frame (outB bs ++ tabF ks ++ frm (idx bs)) _ [] hd _ _ p1 p2
    rw [← e0] at this
    exact this
   rw [hq, hq2, hx]
 rw [hends, endsF_tab bs ks h (by omega) hkl] at h1
 injection h1 with h1
 injection h1 with e1 h1
 injection h1 with e2 e3
 subst e1 e2 e3
 have e4 : bits = make (ks.map frontK) := by
  refine frmd_turned (outB bs) (make (ks.map frontK)) (frm (idx bs) ++ tabE (outB bs).length (tabF ks).length ks.length) k b hb (by omega) ((outB bs).length : Int) (((outB bs).length + (tabF ks).length : Nat) : Int) rfl (by unfold tabF; push_cast; rfl) bits ?_
  rw [← List.append_assoc]
  exact h2
 rw [hlt] at h3
 have e5 : blk ip = blk (idx bs) := by
  refine frmd_turned (outB bs ++ tabF ks) (blk (idx bs)) (tabE (outB bs).length (tabF ks).length ks.length) k b hb hi (((outB bs).length + (tabF ks).length : Nat) : Int) (((tabS bs ks).length : Int) - 36) (by simp only [List.length_append]) ?_ (blk ip) h3
  rw [hl]; unfold frm; simp only [List.length_append]; push_cast; omega
 obtain rfl := blk_inj h4 hr e5
 rw [placesF_idx bs (by omega)] at h5
 injection h5 with e6
 exact ⟨e4, rfl, e6.symm, rfl⟩
theorem loadR_turned (bs : List (List Pr)) (ks : List (List UInt8)) (k b : Nat) (hb : b < 4294967296) (i : Nat) (h : i < (whs 0 bs).length) (h2 : i < bs.length) (hr : Rise bs[i]) (hl : (blk bs[i]).length ≤ 131072) (ps : List Pr) (hL : LoadR (turned (tabS bs ks) k b) (whs 0 bs)[i] ps) : ps = bs[i] := by
 obtain ⟨h3, h4, -⟩ := hL
 rw [whs_get bs 0 i h h2] at h3
 simp only [Nat.zero_add] at h3
 have e : tabS bs ks = outB (bs.take i) ++ frame (blk bs[i]) ++ (outB (bs.drop (i + 1)) ++ tabF ks ++ frm (idx bs) ++ tabE (outB bs).length (tabF ks).length ks.length) := by
  unfold tabS
  generalize tabE (outB bs).length (tabF ks).length ks.length = E
  rw [outB_split bs i h2]
  simp only [frm, List.append_assoc]
 rw [e] at h3
 exact blk_inj h4 hr (frmd_turned _ _ _ k b hb hl _ _ rfl rfl _ h3)
theorem ent_pos (same : Nat) (p : Pr) : 1 ≤ (ent same p).length := by
 unfold ent
 have : 1 ≤ (grp same).length := by
  unfold grp
  unfold CodecP.groups
  split <;> simp
 simp only [List.length_append]
 omega
theorem blk_ge (ps : List Pr) : ps.length ≤ (blk ps).length := by
 have : ps.length ≤ (dat ps).length := by
  refine snocInd (P := fun ps => ps.length ≤ (dat ps).length) (by simp [dat, datF]) (fun ps p ih => ?_) ps
  rw [dat_snoc, List.length_append, List.length_append, List.length_singleton]
  have := ent_pos (sameOf ps.length (lastK ps) p.1) p
  omega
 rw [blk_len]
 omega
theorem outB_ge (bs : List (List Pr)) : bs.flatten.length ≤ (outB bs).length := by
 induction bs with
 | nil => simp
 | cons b r ih =>
  have h1 := blk_ge b
  have h2 := frm_len b
  rw [show outB (b :: r) = frm b ++ outB r by simp [outB], List.flatten_cons, List.length_append, List.length_append]
  omega
structure TabI (bs : List (List Pr)) (l : List Pr) : Prop where
 bks : BksI bs l
 rise : Rise l
 size : (tabS bs (keysOf l)).length ≤ 10000000
 few : (keysOf l).length ≤ 200
 more : (keysOf l).length ≤ (tabS bs (keysOf l)).length
 ix : (blk (idx bs)).length ≤ 131072
theorem AccI.tab {sz : Nat} {l : List Pr} (h : AccI sz l) : TabI (bsOf (cut sz l).1 (cut sz l).2) l := by
 have hb := h.bks
 have ho := outB_len hb.small
 have hf := hb.few
 have hk := h.le
 have hge := outB_ge (bsOf (cut sz l).1 (cut sz l).2)
 rw [hb.flat] at hge
 have hi := idx_small hb.idx_ (by omega)
 have hE := tabE_len (outB (bsOf (cut sz l).1 (cut sz l).2)).length (tabF (keysOf l)).length (keysOf l).length
 have hkl : (keysOf l).length ≤ 200 := by rw [keysOf_len]; exact hk
 have hF := tabF_len (keysOf l) hkl
 have hl : (tabS (bsOf (cut sz l).1 (cut sz l).2) (keysOf l)).length = (outB (bsOf (cut sz l).1 (cut sz l).2)).length + (tabF (keysOf l)).length + (frm (idx (bsOf (cut sz l).1 (cut sz l).2))).length + 36 := by
  unfold tabS; rw [List.length_append, List.length_append, List.length_append, hE]
 have hfl := frm_len (idx (bsOf (cut sz l).1 (cut sz l).2))
 exact ⟨hb, h.rise, by omega, hkl, by rw [keysOf_len] at *; omega, by omega⟩
theorem TabI.whs_le {bs : List (List Pr)} {l : List Pr} (h : TabI bs l) (i : Nat) (hi : i < (whs 0 bs).length) : (whs 0 bs)[i].1 + (whs 0 bs)[i].2.1 ≤ 1000000000000 := by
 have hi2 : i < bs.length := by rw [whs_len] at hi; exact hi
 rw [whs_get bs 0 i hi hi2]
 simp only [Nat.zero_add]
 have h1 := congrArg List.length (outB_split bs i hi2)
 rw [List.length_append, List.length_append] at h1
 have h2 : (outB bs).length ≤ (tabS bs (keysOf l)).length := by
  unfold tabS; simp only [List.length_append]; omega
 have := h.size
 omega
end Go.Proofs.YtdbfaknpfepnfaaGreatDoor


namespace Go.Proofs.YtdbfaknpfepnfaaGreatDoor
open Go.RowKit CodecP CrcP FrameP BloomP

def LdT (l : List UInt8) (L : List Wh) (a : Nat) (ps : List Pr) : Prop := ∃ x ∈ L, x.1 = a ∧ LoadR l x ps
theorem outB_take_lt (bs : List (List Pr)) {i j : Nat} (hj : j ≤ bs.length) (h : i < j) : (outB (bs.take i)).length < (outB (bs.take j)).length := by
 have e : bs.take j = bs.take i ++ (bs.take j).drop i := by
  conv => lhs; rw [← List.take_append_drop i (bs.take j)]
  rw [List.take_take, Nat.min_eq_left (by omega)]
 rw [e]
 have hl : ((bs.take j).drop i).length = j - i := by rw [List.length_drop, List.length_take]; omega
 cases hd : (bs.take j).drop i with
 | nil => rw [hd] at hl; simp at hl; omega
 | cons b r =>
  have := frm_len b
  unfold outB
  rw [List.flatMap_append, List.length_append, List.flatMap_cons, List.length_append]
  omega
theorem whs_inj (bs : List (List Pr)) {i j : Nat} (hi : i < (whs 0 bs).length) (hj : j < (whs 0 bs).length) (h : (whs 0 bs)[i].1 = (whs 0 bs)[j].1) : i = j := by
 have hi2 : i < bs.length := by rw [whs_len] at hi; exact hi
 have hj2 : j < bs.length := by rw [whs_len] at hj; exact hj
 rw [whs_get bs 0 i hi hi2, whs_get bs 0 j hj hj2] at h
 simp only [Nat.zero_add] at h
 rcases Nat.lt_trichotomy i j with h1 | h1 | h1
 ·have := outB_take_lt bs (Nat.le_of_lt hj2) h1; omega
 ·exact h1
 ·have := outB_take_lt bs (Nat.le_of_lt hi2) h1; omega
theorem ldT_iff (l : List UInt8) (bs : List (List Pr)) (i : Nat) (hi : i < (whs 0 bs).length) (ps : List Pr) : LdT l (whs 0 bs) (whs 0 bs)[i].1 ps ↔ LoadR l (whs 0 bs)[i] ps := by
 constructor
 ·rintro ⟨x, hx, e, h⟩
  obtain ⟨j, hj, rfl⟩ := List.getElem_of_mem hx
  obtain rfl := whs_inj bs hj hi e
  exact h
 ·intro h
  exact ⟨_, List.getElem_mem hi, rfl, h⟩
theorem str_len (l : List UInt8) : (str l).size = l.length := by rw [← bl_len, bl_str]
end Go.Proofs.YtdbfaknpfepnfaaGreatDoor


namespace Go.Proofs.YtdbfaknpfepnfaaGreatDoor
open Go.RowKit CodecP CrcP FrameP BloomP

def p1 : Pr := ([97], [49])
end Go.Proofs.YtdbfaknpfepnfaaGreatDoor


namespace Go.Proofs.YtdbfaknpfepnfaaGreatDoor
open Go.RowKit CodecP CrcP FrameP BloomP

attribute [local go_sem] yl_undef
end Go.Proofs.YtdbfaknpfepnfaaGreatDoor


