/-
  Texts of the claim, joined: FromW, AllBW, WrapC, OpenC, BOpenW, BackBW, BsW.
-/
import Derived.Test.YtdbfaknpfepnfaaGreatDoorMxBK7
import Derived.Test.YtdbfaknpfepnfaaGreatDoorMxBK8
import Derived.Test.YtdbfaknpfepnfaaGreatDoorRows
import Derived.ProofKit
import Derived.OpenShut
import Derived.Deep.Slices
import Derived.Deep.Fields
import Derived.ChangeSame
import Derived.Lib.Bytealg
set_option maxRecDepth 100000
set_option maxHeartbeats 40000000
namespace Go.Proofs.YtdbfaknpfepnfaaGreatDoor
open Go.RowKit CodecP

def prV (p : Pr) : Value := .agg #[.string (str p.1), .string (str p.2)]
theorem prO_some (a : Pr) (b : Nat) (c : List UInt8) : prO (some (a, b, c)) = a := rfl
theorem smO_some (a : Pr) (b : Nat) (c : List UInt8) : smO (some (a, b, c)) = b := rfl
theorem rsO_some (a : Pr) (b : Nat) (c : List UInt8) : rsO (some (a, b, c)) = some c := rfl
theorem h2_of {w w2 : World} {B p : Nat} {v : Value} {l : List Pr} (hb : Below w.heap.size w w2) (h : Bk w B p v l) : Bk w2 B p v l :=
 ⟨(hb.block p (lt_of_block h.cells)).trans h.cells, owns_of_block h.row (fun k hk => hb.block k (h.row.lt k hk).2), h.rise, h.at_⟩
theorem from_any (J : Nat → World → (Nat → Prop) → Prop) (Q : World → Prop) (S : Nat → Prop) (fn : Nat) (caps : Array Value) (eg : ∀ args W, (callFunc fn args).run Tryz.prog W = .ok (.enter fn args) W) (B p : Nat) (v : Value) (l : List Pr) (r : Nat) (w : World)
  (h : Bk w B p v l) (hr : 8 * r < l.length) (hSp : ¬ S p) (hJ0 : ∃ U, J (8 * r) w U) (hst : ∀ i w1 w2 U, J i w1 U → Fr (fun k => k = w.heap.size) w1 w2 → J i w2 U)
  (hU : ∀ i w1 U, w.heap.size ≤ w1.heap.size → J i w1 U → ∀ k, U k → k < w1.heap.size ∧ k ≠ p ∧ k ≠ w.heap.size ∧ (∀ g, v.ownBlock = some g → k ≠ g) ∧ (k < w.heap.size → S k))
  (hsee : ∀ i (hi : i < l.length) w1 U, w.heap.size < w1.heap.size → J i w1 U → Calls Tryz.prog fn (#[.int .i64 i, prV l[i]] ++ caps) w1 fun e w2 =>
   Fr U w1 w2 ∧ ((e = .returned (.bool true) ∧ ∃ U2, J (i + 1) w2 U2) ∨ (e = .returned (.bool false) ∧ Q w2))) :
  Calls Tryz.prog 133 #[(Value.pointer (some ⟨p, 0, none⟩)), .int .i64 r, .func (.func fn) #[] caps] w fun e w' => e = .returned (.tuple #[]) ∧ Fr S w w' ∧ ((∃ U, J l.length w' U) ∨ ∃ w1, Q w1 ∧ Fr (fun _ => False) w1 w') := by
 have HRD := Lib.hid read_o
 have HST := Lib.hid step_any
 obtain ⟨off, o1, o2, o3⟩ := rst_at l r hr
 have hle := h.rise.le
 have hdl := dat_len h.rise.ok
 have hrl := rst_len l
 have q1 : r < (rst l).length := by omega
 obtain ⟨g, cp, hv, _, hg, hc, hm, hcell⟩ := own_pos h.row (by omega)
 have hc7 := hcell r (.int .i64 off) (by rw [List.getElem?_map, o1]; rfl)
 subst hv
 have c0 : w.cell? ⟨p, 0, none⟩ = some (.string (str (dat l))) := cellOf2 (o := 0) h.cells rfl
 have c1 : w.cell? ⟨p, 1, none⟩ = some (.slice (some ⟨g, 0, none⟩) (rst l).length cp) := cellOf2 (o := 1) h.cells rfl
 have z1 : (str (dat l)).size = (dat l).length := by simp [str, ByteArray.size]
 have ex : (str (dat l)).extract off (dat l).length = str (datF (8 * r) [] (l.drop (8 * r))) := by
  rw [← o3, ← str_bl ((str (dat l)).extract _ _), ext_bl, bl_str]
  congr 1
  rw [List.take_of_length_le (by rw [List.length_drop]; omega)]
 have zx : (str (datF (8 * r) [] (l.drop (8 * r)))).size ≤ maxLen := by
  rw [← o3]
  rw [show (str ((dat l).drop off)).size = ((dat l).drop off).length by simp [str, ByteArray.size], List.length_drop]
  unfold maxLen
  omega
 have HEX := Lib.hid ex
 have HZX := Lib.hid zx
 have HH := Lib.hid h
 have HU := Lib.hid hU
 have HSEE := Lib.hid hsee
 have HJ0 := Lib.hid hJ0
 have HSTB := Lib.hid hst
 have HSP := Lib.hid hSp
 have o2' : (off : Int) ≤ ((dat l).length : Int) := by omega
 have o4 : (r : Int) < ((rst l).length : Int) := by omega
 have wr8 : IntKind.i64.wrap ((r : Int) * 8) = (r : Int) * 8 := IntWalk.i64_in _ (by omega)
 clear ex h hU hsee hJ0 hst hSp o3 hdl hcell zx hrl
 unfold maxLen at hm
 go_enter Tryz.func133, Tryz.ntmps133
 go_wp2_with fail
 refine wp_region_held_drew (S := (fun w' => w'.cell? ⟨p, 0, none⟩ = some (.string (str (dat l))) ∧ w'.cell? ⟨p, 1, none⟩ = some (.slice (some ⟨g, 0, none⟩) (rst l).length cp) ∧ w'.cell? ⟨g, r, none⟩ = some (.int .i64 off))) (by kernel_rfl) (by (try dsimp only); exact ⟨c0, c1, hc7⟩) (fun hHeld => ?_)
 refine takeH (i := 0) (d := some 11) (v := ?_) rfl rfl (by kernel_rfl) (by kernel_rfl) (by kernel_rfl) (fun _ _ _ h => h) (Or.inl ⟨by rfl, ?_⟩) (by assumption) ?_
 rotate_left
 ·intro wS hSw; (try dsimp only at hSw); go_simp; (try (with_reducible rfl))
 simp only [Act.put, zA, zB, zC]
 refine takeH (i := 1) (d := some 12) (v := ?_) rfl rfl (by kernel_rfl) (by kernel_rfl) (by kernel_rfl) (fun _ _ _ h => h) (Or.inl ⟨by rfl, ?_⟩) (by assumption) ?_
 rotate_left
 ·intro wS hSw; (try dsimp only at hSw); go_simp; (try (with_reducible rfl))
 simp only [Act.put, zA, zB, zC]
 refine takeH (i := 2) (d := some 13) (v := ?_) rfl rfl (by kernel_rfl) (by kernel_rfl) (by kernel_rfl) (fun _ _ _ h => h) (Or.inl ⟨by rfl, ?_⟩) (by assumption) ?_
 rotate_left
 ·intro wS hSw; (try dsimp only at hSw); go_simp; (try (with_reducible rfl))
 simp only [Act.put, zA, zB, zC]
 refine takeH (i := 3) (d := some 14) (v := ?_) rfl rfl (by kernel_rfl) (by kernel_rfl) (by kernel_rfl) (fun _ _ _ h => h) (Or.inl ⟨by rfl, ?_⟩) (by assumption) ?_
 rotate_left
 ·intro wS hSw; (try dsimp only at hSw); go_simp; (try (with_reducible rfl))
 simp only [Act.put, zA, zB, zC]
 refine takeH (i := 4) (d := some 15) (v := ?_) rfl rfl (by kernel_rfl) (by kernel_rfl) (by kernel_rfl) (fun _ _ _ h => h) (Or.inl ⟨by rfl, ?_⟩) (by assumption) ?_
 rotate_left
 ·intro wS hSw; (try dsimp only at hSw); go_simp; (try (with_reducible rfl))
 simp only [Act.put, zA, zB, zC]
 refine takeH (i := 5) (d := some 16) (v := ?_) rfl rfl (by kernel_rfl) (by kernel_rfl) (by kernel_rfl) (fun _ _ _ h => h) (Or.inl ⟨by rfl, ?_⟩) (by assumption) ?_
 rotate_left
 ·intro wS hSw; (try dsimp only at hSw); go_simp; (try (with_reducible rfl))
 simp only [Act.put, zA, zB, zC]
 refine takeH (i := 6) (d := some 17) (v := ?_) rfl rfl (by kernel_rfl) (by kernel_rfl) (by kernel_rfl) (fun _ _ _ h => h) (Or.inl ⟨by rfl, ?_⟩) (by assumption) ?_
 rotate_left
 ·intro wS hSw; (try dsimp only at hSw); go_simp; (try (with_reducible rfl))
 simp only [Act.put, zA, zB, zC]
 refine takeH (i := 7) (d := some 18) (v := ?_) rfl rfl (by kernel_rfl) (by kernel_rfl) (by kernel_rfl) (fun _ _ _ h => h) (Or.inl ⟨by rfl, ?_⟩) (by assumption) ?_
 rotate_left
 ·intro wS hSw; (try dsimp only at hSw); go_simp; (try (with_reducible rfl))
 simp only [Act.put, zA, zB, zC]
 refine takeH (i := 8) (d := some 19) (v := ?_) rfl rfl (by kernel_rfl) (by kernel_rfl) (by kernel_rfl) (fun _ _ _ h => h) (Or.inl ⟨by rfl, ?_⟩) (by assumption) ?_
 rotate_left
 ·intro wS hSw; (try dsimp only at hSw); go_simp; (try (with_reducible rfl))
 simp only [Act.put, zA, zB, zC]
 refine takeH (i := 9) (d := some 20) (v := ?_) rfl rfl (by kernel_rfl) (by kernel_rfl) (by kernel_rfl) (fun _ _ _ h => h) (Or.inl ⟨by rfl, ?_⟩) (by assumption) ?_
 rotate_left
 ·intro wS hSw; (try dsimp only at hSw); go_simp; (try (with_reducible rfl))
 simp only [Act.put, zA, zB, zC]
 refine takeH (i := 10) (d := some 21) (v := ?_) rfl rfl (by kernel_rfl) (by kernel_rfl) (by kernel_rfl) (fun _ _ _ h => h) (Or.inl ⟨by rfl, ?_⟩) (by assumption) ?_
 rotate_left
 ·intro wS hSw; (try dsimp only at hSw); go_simp; (try (with_reducible rfl))
 simp only [Act.put, zA, zB, zC]
 refine takeH (i := 11) (d := some 22) (v := ?_) rfl rfl (by kernel_rfl) (by kernel_rfl) (by kernel_rfl) (fun _ _ _ h => h) (Or.inl ⟨by rfl, ?_⟩) (by assumption) ?_
 rotate_left
 ·intro wS hSw; (try dsimp only at hSw); go_simp; (try (with_reducible rfl))
 simp only [Act.put, zA, zB, zC]
 refine wpAnyH_ready (rs := [12]) (by kernel_rfl) (by simp) ?_
 refine AllReadyH.cons rfl (fun K hK => ?_) AllReadyH.nil
 go_simp
 rw [HEX.out]
 refine (HRD.out _ _ HZX.out).mono ?_
 rintro e w2 ⟨rfl, h2, hb2⟩
 have hb2' : Below w.heap.size w w2 := hb2.undrew
 have hj2 := hb2'
 have k0 := (Fr.of_below (fun _ => False) hb2').cell c0 (fun h => h)
 have k1 := (Fr.of_below (fun _ => False) hb2').cell c1 (fun h => h)
 have k2 := (Fr.of_below (fun _ => False) hb2').cell hc7 (fun h => h)
 have H2 := Lib.hid h2
 have HB2 := Lib.hid hb2'
 clear h2 hb2 hb2' hj2
 go_wp2_with fail
 refine hK.out _ _ (by (try dsimp only); exact ⟨k0, k1, k2⟩) (fun hHeld => ?_)
 clear hK K
 refine takeH (i := 13) (d := some 6) (v := ?_) rfl rfl (by kernel_rfl) (by kernel_rfl) (by kernel_rfl) (fun _ _ _ h => h) (Or.inl ⟨by rfl, ?_⟩) (by assumption) ?_
 rotate_left
 ·intro wS hSw; (try dsimp only at hSw); go_simp; (try (with_reducible rfl))
 simp only [Act.put, zA, zB, zC]
 refine wpAnyH_done (by kernel_rfl) ?_ _
 have hp2 := h2_of HB2.out HH.out
 have h2 := H2.out
 rw [bl_str, show w.drew.heap.size = w.heap.size from rfl] at h2
 have HR2 := Lib.hid h2
 have HP2 := Lib.hid hp2
 clear h2 hp2 c0 c1 hc7 z1 H2 hHeld
 go_wp2_with fail
 have hrl' : r * 8 ≤ l.length := by omega
 go_loopg [7, 8] (l.length - r * 8) (fun g lv iv wr => ∃ (i : Nat) (last : List UInt8), i ≤ l.length ∧ 8 * r ≤ i ∧ l.length - i = g ∧ lv = .string (str last) ∧ iv = .int .i64 i ∧ last.length ≤ 80 ∧ RO wr w.heap.size (some (datF i last (l.drop i))) ∧
  (∃ U, J i wr U) ∧ Fr S w wr)
 case atStart =>
  obtain ⟨U, hU⟩ := HJ0.out
  exact ⟨8 * r, [], by omega, Nat.le_refl _, by rw [Nat.mul_comm], rfl, by rw [Nat.mul_comm]; rfl, Nat.zero_le _, HR2.out, ⟨U, HSTB.out _ _ _ _ hU (Fr.of_below _ HB2.out)⟩, Fr.of_below _ HB2.out⟩
 case round =>
  obtain ⟨i, last, hi, hri, hg, rfl, rfl, hlast, hRO, ⟨U, hJ⟩, hF⟩ := hrel
  have hlt := lt_of_block HH.out.cells
  have hcp := (hF.block p hlt HSP.out).trans HH.out.cells
  have c2 := cellOf2 (o := 2) hcp rfl
  have HRO := Lib.hid hRO
  have HJ := Lib.hid hJ
  have HF := Lib.hid hF
  clear hRO hJ hF hcp
  by_cases hil : i = l.length
  ·have d0 : decide ((i : Int) < (l.length : Int)) = false := by rw [decide_eq_false_iff_not]; omega
   go_wp2_with fail
   go_end0
   subst hil
   exact ⟨rfl, HF.out, .inl ⟨U, HJ.out⟩⟩
  ·have hil' : i < l.length := by omega
   have d0 : decide ((i : Int) < (l.length : Int)) = true := by rw [decide_eq_true_eq]; omega
   have HSS := Lib.hid (HST.out w.heap.size (str last) _ wr HRO.out (by rw [show (str last).size = last.length by simp [str, ByteArray.size]]; omega))
   rw [bl_str, stepF_dat HH.out.rise.ok i last hlast hil', prO_some, smO_some, rsO_some] at HSS
   have hok := HH.out.rise.ok l[i] (List.getElem_mem hil')
   have hsee := HSEE.out i hil'
   have hlt := hok.2.1
   unfold prV at hsee
   obtain ⟨pr, hpr⟩ : ∃ pr, pr = l[i] := ⟨_, rfl⟩
   rw [← hpr] at hsee HSS hlt
   have HSE := Lib.hid hsee
   clear hsee hok hpr
   go_wp2_with fail
   (with_reducible refine HSS.out.mono ?_)
   rintro e w4 ⟨rfl, h4, hf4⟩
   have hs4 : wr.heap.size ≤ w4.heap.size := hf4.size
   have hwr : w.heap.size ≤ wr.heap.size := HF.out.size
   have hj4 := HSTB.out _ _ _ _ HJ.out hf4
   have H4 := Lib.hid h4
   have HF4 := Lib.hid (HF.out.trans (hf4.mono (T := fun k => k = w.heap.size ∨ S k) (fun k _ h => .inl h)) (fun k hk h => h.elim (fun e => absurd e (by omega)) id))
   have h5 : Fr (fun _ => False) w4 (w4.alloc (.cells #[.string (str pr.1), .string (str pr.2)] 43)) := (Fr.refl _ w4).alloc _
   have hp5 : (w4.alloc (.cells #[.string (str pr.1), .string (str pr.2)] 43)).heap[w4.heap.size]? = some (.cells #[.string (str pr.1), .string (str pr.2)] 43 (0, 0)) := by
    show (w4.heap.push _)[w4.heap.size]? = _
    simp
   have hsz5 : w4.heap.size < (w4.alloc (.cells #[.string (str pr.1), .string (str pr.2)] 43)).heap.size := by simp
   have HP5 := Lib.hid hp5
   have H5 := Lib.hid (H4.out.keep h5 (fun h => h))
   have HF5 := Lib.hid (HF4.out.trans h5 (fun _ _ h => h.elim))
   have HJ5 := Lib.hid (HSTB.out _ _ _ _ hj4 (h5.mono (fun _ _ h => h.elim)))
   have HU4 := Lib.hid (HU.out _ _ _ (by omega) hj4)
   clear h4 hf4 hj4 h5 hp5
   go_upto_region 6 with (fail)
   generalize w4.alloc (.cells #[.string (str pr.1), .string (str pr.2)] 43) = w5 at *
   have k0 := cellOf2 (o := 0) HP5.out rfl
   have k1 := cellOf2 (o := 1) HP5.out rfl
   go_wp2_with fail
   (with_reducible refine (HSE.out w5 U H5.out.lt HJ5.out).mono ?_)
   rintro e w6 ⟨hf6, ⟨rfl, U2, hj6⟩ | ⟨rfl, hq6⟩⟩
   ·have hp6 := (hf6.block w4.heap.size (lt_of_block HP5.out) (fun h => by have := (HU4.out _ h).1; omega)).trans HP5.out
    have k60 := cellOf2 (o := 0) hp6 rfl
    have HR6 := Lib.hid (H5.out.keep hf6 (fun h => (HU4.out _ h).2.2.1 rfl))
    have HF6 := Lib.hid (HF5.out.trans hf6 (fun k hk h => (HU4.out _ h).2.2.2.2 hk))
    have HJ6 := Lib.hid hj6
    have wi : IntKind.i64.wrap ((i : Int) + 1) = (i : Int) + 1 := IntWalk.i64_in _ (by omega)
    clear hf6 hj6 hp6
    go_wp2_with fail
    go_roundg (l.length - (i + 1))
    case measure => omega
    case rel => exact ⟨i + 1, pr.1, by omega, by omega, rfl, rfl, by go_num, hlt, HR6.out, ⟨U2, HJ6.out⟩, HF6.out⟩
   ·have HF6 := Lib.hid (HF5.out.trans hf6 (fun k hk h => (HU4.out _ h).2.2.2.2 hk))
    clear hf6
    go_wp2_with fail
    exact bodyPost_ret (v := .tuple #[]) (by simp [results, Tryz.results133, go_sem]) rfl ⟨rfl, HF6.out, .inr ⟨w6, hq6, Fr.refl _ _⟩⟩
end Go.Proofs.YtdbfaknpfepnfaaGreatDoor


namespace Go.Proofs.YtdbfaknpfepnfaaGreatDoor
open Go.RowKit CodecP

theorem info_prB : (Tryz.prog.info? 43).map (fun i => (i.zero, i.size, i.bytes)) = some (some (.agg #[.string ⟨#[]⟩, .string ⟨#[]⟩]), 2, 32) := by kernel_rfl
structure AllS (w : World) (c b : Nat) (v : Value) (qs : List Pr) : Prop where
 cell : w.heap[c]? = some (.cells #[v] 42 (0, 0))
 row : w.ownsRow b 43 2 v qs.length (flatR qs)
 lt : c < b
def AllU (c : Nat) (v : Value) (k : Nat) : Prop := k = c ∨ v.ownBlock = some k
theorem AllS.keep {w w' : World} {S : Nat → Prop} {c b : Nat} {v : Value} {qs : List Pr} (h : AllS w c b v qs) (hf : Fr S w w') (hS : ∀ k, AllU c v k → ¬ S k) : AllS w' c b v qs :=
 ⟨(hf.block c (lt_of_block h.cell) (hS c (.inl rfl))).trans h.cell, owns_of_block h.row (fun k hk => hf.block k (h.row.lt k hk).2 (hS k (.inr hk))), h.lt⟩
theorem all1_any (i : Nat) (q : Pr) (c b : Nat) (v : Value) (qs : List Pr) (w : World) (h : AllS w c b v qs) (hb : b ≤ w.heap.size) (hq : qs.length ≤ 4096) :
  Calls Tryz.prog 147 #[.int .i64 i, prV q, (Value.pointer (some ⟨c, 0, none⟩))] w fun e w' => Fr (AllU c v) w w' ∧ e = .returned (.bool true) ∧ ∃ v', AllS w' c b v' (qs ++ [q]) ∧ (v'.ownBlock = v.ownBlock ∨ ∃ k, v'.ownBlock = some k ∧ w.heap.size ≤ k) := by
 obtain ⟨i0, hi, hz0, hz1, hz2⟩ := info_parts info_prB
 unfold prV
 have hc := h.cell
 have hclt := lt_of_block hc
 have h1 : Fr (fun _ => False) w (w.alloc (.cells #[.string (str q.1), .string (str q.2)] 43)) := (Fr.refl _ w).alloc _
 have hs1 := h.keep h1 (fun _ _ h => h)
 have hp1 : (w.alloc (.cells #[.string (str q.1), .string (str q.2)] 43)).heap[w.heap.size]? = some (.cells #[.string (str q.1), .string (str q.2)] 43 (0, 0)) := by
  show (w.heap.push _)[w.heap.size]? = _
  simp
 have hg : (w.alloc (.cells #[.string (str q.1), .string (str q.2)] 43)).heap.size = w.heap.size + 1 := by simp
 obtain ⟨ao, cp, hv⟩ := own_form h.row
 subst hv
 have HS1 := Lib.hid hs1
 have HP1 := Lib.hid hp1
 have HF1 := Lib.hid (h1.mono (T := AllU c (.slice ao qs.length cp)) (fun _ _ h => h.elim))
 have HG := Lib.hid hg
 have hb5 : b ≤ (w.alloc (.cells #[.string (str q.1), .string (str q.2)] 43)).heap.size := by omega
 clear h h1 hs1 hp1 hg hc
 go_enter Tryz.func147, Tryz.ntmps147
 go_upto_region 1 with (fail)
 generalize w.alloc (.cells #[.string (str q.1), .string (str q.2)] 43) = w5 at *
 have k0 := cellOf2 (o := 0) HP1.out rfl
 have k1 := cellOf2 (o := 1) HP1.out rfl
 have cc := cellOf2 (o := 0) HS1.out.cell rfl
 have fc := free_of2 0 HS1.out.cell
 have hql : flatR [q] = [.string (str q.1), .string (str q.2)] := rfl
 have HQL := Lib.hid hql
 clear hql
 generalize str q.1 = sk at *
 generalize str q.2 = sv at *
 go_wp2_with (at_builtin; refine wpList_append_own_at _ rfl _ _ 42 rfl b 43 i0 (.agg #[.string ⟨#[]⟩, .string ⟨#[]⟩]) 2 32 Tryz.underlying42 hi hz0 hz1 hz2 rfl (by decide) _ _ _ rfl (HS1.out.row.alloc _) ⟨w5.heap.size, 0, none⟩ 1 1 [.string sk, .string sv] rfl rfl (cells2_new _ _ _ _) (two_one _ _) (by unfold maxLen; omega) (by omega) (by simp; omega) ?_; intro v' w6 hown' hgrow hatt1 hatt2; obtain ⟨ao6, cp6, hv6⟩ := own_form hown'; subst hv6; have hfr : Fr (fun j => (Value.slice ao qs.length cp).ownBlock = some j) w5 w6 := (((Fr.refl _ w5).alloc _).grown hgrow (fun _ _ h => h)); have hc6 := (hfr.block c (lt_of_block HS1.out.cell) (fun e => (by have := (HS1.out.row.lt c e).1; have := HS1.out.lt; omega))).trans HS1.out.cell; have cc6 := cellOf2 (o := 0) hc6 rfl; have fc6 := free_of2 0 hc6; have HC6 := Lib.hid hc6; have HFR := Lib.hid hfr; have HOWN := Lib.hid hown'; have HAT := Lib.hid hatt2; clear hfr hc6 hown' hgrow hatt1 hatt2)
 have hat : (Value.slice ao6 (qs.length + 1) cp6).ownBlock = (Value.slice ao qs.length cp).ownBlock ∨ (Value.slice ao6 (qs.length + 1) cp6).ownBlock = some (w5.alloc (.cells #[.string sk, .string sv] 43)).heap.size := HAT.out
 have hgs := HG.out
 have hat2 : (Value.slice ao6 (qs.length + 1) cp6).ownBlock = (Value.slice ao qs.length cp).ownBlock ∨ ∃ k, (Value.slice ao6 (qs.length + 1) cp6).ownBlock = some k ∧ w.heap.size ≤ k :=
  hat.imp id (fun e => ⟨_, e, by simp; omega⟩)
 have hs7 : Fr (fun k => k = c) w6 (w6.setCell ⟨c, 0, none⟩ (.slice ao6 (qs.length + 1) cp6)) := (Fr.refl (fun k => k = c) w6).setCell (p := ⟨c, 0, none⟩) (.inl rfl) _
 have hown := HOWN.out
 rw [← HQL.out, ← flatR_append] at hown
 go_ret
 refine ⟨(HF1.out.trans HFR.out (fun k _ h => .inr h)).trans hs7 (fun k _ h => .inl h), rfl, _, ⟨setAt2 (o := 0) _ HC6.out, ?_, HS1.out.lt⟩, hat2⟩
 rw [List.length_append, List.length_singleton]
 exact owns_of_block hown (fun k hk => hs7.block k (hown.lt k hk).2 (fun e => by have := (hown.lt k hk).1; have := HS1.out.lt; omega))
theorem own_base {w : World} {b b' e size n : Nat} {v : Value} {xs : List Value} (h : w.ownsRow b e size v n xs) (hb : b' ≤ b) : w.ownsRow b' e size v n xs := by
 obtain ⟨h1, h2⟩ := h
 refine ⟨h1, ?_⟩
 rcases h2 with h2 | ⟨g, cap, cur, hv, hg, r⟩
 ·exact .inl h2
 ·exact .inr ⟨g, cap, cur, hv, Nat.le_trans hb hg, r⟩
theorem bk_len (p B : Nat) (v : Value) (l : List Pr) (w : World) (h : Bk w B p v l) :
  Calls Tryz.prog 129 #[(Value.pointer (some ⟨p, 0, none⟩))] w fun e w' => e = .returned (.int .i64 l.length) ∧ w = w' := by
 have c2 := cellOf2 (o := 2) h.cells rfl
 clear h
 go_enter Tryz.func129, Tryz.ntmps129
 go_wp2_with fail
 go_ret
 exact ⟨rfl, rfl⟩
theorem allB_enter (args : Array Value) (w : World) : (callFunc 147 args).run Tryz.prog w = .ok (.enter 147 args) w := by rfl
theorem all_any (p B : Nat) (v : Value) (l : List Pr) (w : World) (h : Bk w B p v l) :
  Calls Tryz.prog 100 #[(Value.pointer (some ⟨p, 0, none⟩))] w fun e w' => ∃ v', e = .returned v' ∧ w'.ownsRow w.heap.size 43 2 v' l.length (flatR l) ∧ Below w.heap.size w w' := by
 have h1 : Below w.heap.size w (w.alloc (.cells #[.slice none 0 0] 42)) := (Below.refl _ w).alloc (Nat.le_refl _) _
 have hc1 : (w.alloc (.cells #[.slice none 0 0] 42)).heap[w.heap.size]? = some (.cells #[.slice none 0 0] 42 (0, 0)) := by
  show (w.heap.push _)[w.heap.size]? = _
  simp
 have hg : (w.alloc (.cells #[.slice none 0 0] 42)).heap.size = w.heap.size + 1 := by simp
 have hk1 := h2_of h1 h
 have hplt := lt_of_block h.cells
 have hrow : ∀ g, v.ownBlock = some g → g < w.heap.size := fun g hg => (h.row.lt g hg).2
 have hle := h.rise.le
 have HF1 := Lib.hid h1
 have HC1 := Lib.hid hc1
 have HG := Lib.hid hg
 have HK1 := Lib.hid hk1
 have HLN := Lib.hid (bk_len p B v l _ hk1)
 have HROW := Lib.hid hrow
 clear h h1 hc1 hg hk1 hrow
 go_enter Tryz.func100, Tryz.ntmps100
 go_upto_region 2 with (fail)
 generalize w.alloc (.cells #[.slice none 0 0] 42) = w1 at *
 rcases Nat.eq_zero_or_pos l.length with h0 | h0
 ·have d0 : decide ((0 : Int) < (l.length : Int)) = false := by rw [decide_eq_false_iff_not]; omega
  have cc := cellOf2 (o := 0) HC1.out rfl
  go_wp2_with fail
  (with_reducible refine HLN.out.mono ?_)
  rintro e w2 ⟨rfl, rfl⟩
  go_wp2_with fail
  go_ret
  obtain rfl := List.length_eq_zero_iff.1 h0
  exact ⟨_, rfl, World.ownsRow_nil _ _ _ _, HF1.out⟩
 ·have d0 : decide ((0 : Int) < (l.length : Int)) = true := by rw [decide_eq_true_eq]; omega
  have HFM := Lib.hid (from_any (fun i w2 U => ∃ u, AllS w2 w.heap.size (w1.heap.size + 1) u (l.take i) ∧ U = AllU w.heap.size u) (fun _ => False) (fun k => k = w.heap.size) 147 #[(Value.pointer (some ⟨w.heap.size, 0, none⟩))] allB_enter B p v l 0 w1 HK1.out (by omega) (by omega)
   ⟨_, _, ⟨HC1.out, World.ownsRow_nil _ _ _ _, by have := HG.out; omega⟩, rfl⟩
   (fun i w2 w3 U => by
    rintro ⟨u, hu, rfl⟩ hf
    refine ⟨u, hu.keep hf (fun k hk e => ?_), rfl⟩
    have := HG.out
    rcases hk with rfl | hk
    ·omega
    ·have := (hu.row.lt k hk).1; omega)
   (fun i w2 U hw => by
    rintro ⟨u, hu, rfl⟩ k hk
    have := HG.out
    rcases hk with rfl | hk
    ·exact ⟨lt_of_block hu.cell, by omega, by omega, fun g hg => by have := HROW.out g hg; omega, fun _ => rfl⟩
    ·have h3 := hu.row.lt k hk
     exact ⟨h3.2, by omega, by omega, fun g hg => by have := HROW.out g hg; omega, fun _ => by omega⟩)
   (fun i hi w2 U hw => by
    rintro ⟨u, hu, rfl⟩
    refine (all1_any i l[i] w.heap.size _ u (l.take i) w2 hu (by omega) (by rw [List.length_take]; omega)).mono ?_
    rintro e w3 ⟨hf, rfl, u2, hu2, -⟩
    rw [List.take_append_getElem hi] at hu2
    exact ⟨hf, .inl ⟨rfl, _, u2, hu2, rfl⟩⟩))
  rw [show ((0 : Nat) : Int) = 0 from rfl] at HFM
  go_wp2_with fail
  (with_reducible refine HLN.out.mono ?_)
  rintro e w2 ⟨rfl, rfl⟩
  go_wp2_with fail
  (with_reducible refine HFM.out.mono ?_)
  rintro e w3 ⟨rfl, hf3, ⟨U, u, hu, -⟩ | ⟨-, hF, -⟩⟩
  ·rw [List.take_length] at hu
   have cc := cellOf2 (o := 0) hu.cell rfl
   have HS := Lib.hid hu
   have HF3 := Lib.hid hf3
   obtain ⟨ao, cp, hv⟩ := own_form hu.row
   subst hv
   clear hu hf3
   go_wp2_with fail
   go_ret
   have := HG.out
   exact ⟨_, rfl, own_base HS.out.row (by omega), HF1.out.trans (HF3.out.below (by omega) (fun k _ e => by omega))⟩
  ·exact hF.elim
end Go.Proofs.YtdbfaknpfepnfaaGreatDoor


namespace Go.Proofs.YtdbfaknpfepnfaaGreatDoor
open Go.ChangeShapes Go.WideShapes Go.ChangeAt Go.RowKit Go.ChangeMaps

theorem own : ownKnob Tryz.prog.godebug = none := by kernel_rfl
theorem laidOut : laidOutB Tryz.prog = true := by kernel_rfl
end Go.Proofs.YtdbfaknpfepnfaaGreatDoor


namespace Go.Proofs.YtdbfaknpfepnfaaGreatDoor
open Go.ChangeShapes Go.WideShapes Go.Deep
section
variable {H : Type} {enc : TypeId × Value → H} {P : Program} {w : World} {base : Nat} {spare : Nat → Bool} {held : Bool}
theorem open_slice_fields {t e : TypeId} {fs : Array Field} {fuel : Nat} {cs : List Value} {x : DataW H × List MemPlace} (ht : P.underlying t = some (.slice e)) (he : P.underlying e = some (.struct fs))
  (hone : oneCellFields P fs = true) (hC : P.cellsOf e = fs.size) (h : DataW.trod enc P w base spare held fuel t cs = some x) :
  (cs = [.slice none 0 0] ∧ x = (.nil, [])) ∨
  ∃ (a : Addr) (len cap m : Nat) (D : Nat → DataW H) (Pl : Nat → List MemPlace), cs = [.slice (some a) len cap] ∧ base ≤ a.block ∧ len ≤ cap ∧ cap ≤ maxLen ∧ m = (if spare a.block then cap else len) ∧
   x = (.slice ((List.range len).map D) ((List.range (m - len)).map fun j => D (len + j)), MemPlace.row a (m * fs.size) ++ (List.range m).flatMap Pl) ∧
   ∀ i, i < m → ∃ (ys : List (DataW H × List MemPlace)) (n : Nat), D i = .agg (ys.map (·.1)) ∧ Pl i = ys.flatMap (·.2) ∧ ys.length = fs.size ∧
    ∀ (j : Nat) (f : Field), fs[j]? = some f → ∃ (v : Value) (y : DataW H × List MemPlace), w.cell? (a.add (i * fs.size + j)) = some v ∧ ys[j]? = some y ∧ DataW.trod enc P w base spare held n f.type [v] = some y := by
 rcases open_slice ht h with h0 | ⟨a, len, cap, m, n, D, Pl, hcs, hb, hl, hm, hmm, hx, hi⟩
 ·exact .inl h0
 ·refine .inr ⟨a, len, cap, m, D, Pl, hcs, hb, hl, hm, hmm, by rw [hC] at hx; exact hx, fun i him => ?_⟩
  obtain ⟨cs', hc, ht'⟩ := hi i him
  rw [hC] at hc
  obtain ⟨ys, n', hn', hy, hlen, hyl, hf⟩ := DataW.trod_struct he ht'
  obtain ⟨_, hcl, hat⟩ := World.cells?_some hc
  simp only [Prod.mk.injEq] at hy
  refine ⟨ys, n', hy.1, hy.2, hyl, fun j f hj => ?_⟩
  obtain ⟨ho, hk⟩ := hone_of hone j f hj
  have hjl : j < fs.size := (Array.getElem?_eq_some_iff.1 hj).1
  have hcell := hat j hjl
  have hv : cs'[j]? = some (cs'[j]'(by omega)) := List.getElem?_eq_getElem (by omega)
  have h1 := hf j f hj
  rw [ho, hk] at h1
  have hone' : (cs'.drop j).take 1 = [cs'[j]'(by omega)] := by
   rw [List.drop_eq_getElem_cons (by omega)]
   rfl
  rw [hone'] at h1
  have hys : ys[j]? = some (ys[j]'(by omega)) := List.getElem?_eq_getElem (by omega)
  refine ⟨_, _, ?_, hys, h1.trans hys⟩
  rw [← Go.Deep.add_add, hcell, hv]
end
end Go.Proofs.YtdbfaknpfepnfaaGreatDoor


namespace Go.Proofs.YtdbfaknpfepnfaaGreatDoor
open Go.ChangeShapes Go.WideShapes Go.ChangeAt Go.RowKit Go.ChangeMaps Go.Deep

theorem lt_cell2 {w : World} {b o : Nat} {v : Value} (h : w.cell? ⟨b, o, none⟩ = some v) : b < w.heap.size := by
 unfold World.cell? at h
 rcases Nat.lt_or_ge b w.heap.size with h1 | h1
 ·exact h1
 ·rw [Array.getElem?_eq_none h1] at h; simp at h
end Go.Proofs.YtdbfaknpfepnfaaGreatDoor


namespace Go.Proofs.YtdbfaknpfepnfaaGreatDoor
open Go.RowKit CodecP

theorem datF_inj : ∀ (a b : List Pr) (i : Nat) (last : List UInt8), (∀ p ∈ a, Okp p) → (∀ p ∈ b, Okp p) → last.length ≤ 80 → datF i last a = datF i last b → a = b
 | [], [], _, _, _, _, _, _ => rfl
 | [], p :: r, i, last, _, hb, hl, h => by
  have h1 := stepF_dat hb i last hl
  exfalso
  have h2 := congrArg List.length h
  have h3 := (hb p (by simp)).1
  have h4 := grp_pos (sameOf i last p.1)
  simp only [datF, ent, List.length_append, List.length_nil] at h2
  omega
 | p :: r, [], i, last, ha, _, hl, h => by
  exfalso
  have h2 := congrArg List.length h
  have h4 := grp_pos (sameOf i last p.1)
  simp only [datF, ent, List.length_append, List.length_nil] at h2
  omega
 | p :: r, q :: t, i, last, ha, hb, hl, h => by
  have hp := ha p (by simp)
  have hq := hb q (by simp)
  have st : ∀ (z : Pr) (y : List Pr), Okp z → stepF last (some (datF i last (z :: y))) = some (z, sameOf i last z.1, datF (i + 1) z.1 y) := fun z y hz => by
   rw [datF]
   refine stepF_ent _ _ _ _ (sameOf_le i last z.1).1 ?_ (by omega) (by have := hz.2.1; omega) hz.2.2
   unfold sameOf
   split
   ·rfl
   ·exact (cmn_take _ _).symm
  have e := st p r hp
  rw [h, st q t hq] at e
  simp only [Option.some.injEq, Prod.mk.injEq] at e
  obtain ⟨e1, -, e3⟩ := e
  subst e1
  rw [datF_inj r t (i + 1) q.1 (fun z hz => ha z (by simp [hz])) (fun z hz => hb z (by simp [hz])) hq.2.1 e3.symm]
theorem blk_inj {a b : List Pr} (ha : Rise a) (hb : Rise b) (h : blk a = blk b) : a = b := by
 obtain ⟨-, -, a3, -⟩ := blk_tail a ha
 obtain ⟨-, -, b3, -⟩ := blk_tail b hb
 rw [h] at a3
 have e : dat a = dat b := by
  have e1 : (blk a).take (dat a).length = dat a := by unfold blk; rw [List.append_assoc, List.take_left' rfl]
  have e2 : (blk b).take (dat b).length = dat b := by unfold blk; rw [List.append_assoc, List.take_left' rfl]
  rw [← e1, ← e2, h, ← a3, ← b3]
 exact datF_inj a b 0 [] ha.ok hb.ok (Nat.zero_le _) e
end Go.Proofs.YtdbfaknpfepnfaaGreatDoor


namespace Go.Proofs.YtdbfaknpfepnfaaGreatDoor
open Go.RowKit CodecP

theorem cmpString_any (a b : ByteArray) (w : World) :
  Calls Tryz.prog 161 #[.string a, .string b] w fun e w' => e = .returned (.int .i64 (Lib.compareBytes (bl a) (bl b))) ∧ w = w' := by
 go_enter Tryz.func161, Tryz.ntmps161
 go_wp2
 rw [run_callFunc_extern Tryz.func174 (by kernel_rfl) (by kernel_rfl) (by kernel_rfl) (e := Extern.BytealgCompare.compare) (by kernel_rfl), Lib.run_compareString]
 simp only [Result.andThen]
 rw [Oper.upon_value]
 go_wp2
 go_ret
 exact ⟨rfl, rfl⟩
theorem compare_any (a b : ByteArray) (w : World) :
  Calls Tryz.prog 132 #[.string a, .string b] w fun e w' => e = .returned (.int .i64 (Lib.compareBytes (bl a) (bl b))) ∧ w = w' := by
 have HC := Lib.hid (cmpString_any a b w)
 go_enter Tryz.func132, Tryz.ntmps132
 go_wp2_with fail
 (with_reducible refine HC.out.mono ?_)
 rintro e w1 ⟨rfl, rfl⟩
 go_wp2_with fail
 go_ret
 exact ⟨rfl, rfl⟩
theorem bsf_any (fn : Nat) (caps : Array Value) (eg : ∀ args W, (callFunc fn args).run Tryz.prog W = .ok (.enter fn args) W) (g n cp : Nat) (xs : Nat → Int) (c : Nat → Int) (key : ByteArray) (k : Nat) (w : World)
  (hg : g < w.heap.size) (hn : n ≤ 1000000) (hx : ∀ i, i < n → w.cell? ⟨g, i, none⟩ = some (.int .i64 (xs i))) (hk : k ≤ n) (h1 : ∀ i, i < k → c i < 0) (h2 : ∀ i, k ≤ i → i < n → 0 ≤ c i)
  (hf : ∀ i W, i < n → Below w.heap.size w W → Calls Tryz.prog fn (#[.int .i64 (xs i), .string key] ++ caps) W fun e W' => e = .returned (.int .i64 (c i)) ∧ Below W.heap.size W W') :
  Calls Tryz.prog 130 #[.slice (some ⟨g, 0, none⟩) n cp, .string key, .func (.func fn) #[] caps] w fun e w' => e = .returned (.tuple #[.int .i64 k, .bool (decide (k < n ∧ c k = 0))]) ∧ Below w.heap.size w w' := by
 have HR := Lib.hid (Below.refl w.heap.size w)
 have HX := Lib.hid hx
 have H1 := Lib.hid h1
 have H2 := Lib.hid h2
 have HF := Lib.hid hf
 clear hx h1 h2 hf
 go_enter Tryz.func130, Tryz.ntmps130
 go_wp2_with fail
 go_loopg [9, 10] n (fun gg lv hv wr => ∃ lo hi : Nat, lv = .int .i64 lo ∧ hv = .int .i64 hi ∧ lo ≤ k ∧ k ≤ hi ∧ hi ≤ n ∧ hi - lo ≤ gg ∧ Below w.heap.size w wr)
 case atStart => exact ⟨0, n, rfl, rfl, Nat.zero_le _, hk, Nat.le_refl _, by omega, HR.out⟩
 case round =>
  obtain ⟨lo, hi, rfl, rfl, hlk, hkh, hhn, hgg, hbl⟩ := hrel
  have HBL := Lib.hid hbl
  have hsz := hbl.size
  by_cases hlt : lo < hi
  ·have d0 : decide ((lo : Int) < (hi : Int)) = true := by rw [decide_eq_true_eq]; omega
   have cm : wr.cell? ⟨g, (lo + hi) / 2, none⟩ = some (.int .i64 (xs ((lo + hi) / 2))) := by rw [hbl.cell (p := ⟨g, (lo + hi) / 2, none⟩) hg]; exact HX.out _ (by omega)
   have HFC := Lib.hid (HF.out ((lo + hi) / 2) wr (by omega) hbl)
   clear hbl
   obtain ⟨y, hy⟩ : ∃ y, y = c ((lo + hi) / 2) := ⟨_, rfl⟩
   rw [← hy] at HFC
   have HY := Lib.hid hy
   clear hy
   have em : ((lo : Int) + (hi : Int)) / 2 = (((lo + hi) / 2 : Nat) : Int) := by omega
   have EM := Lib.hid em
   clear em
   have wm : IntKind.i64.wrap (((lo : Int) + (hi : Int)) / 2 + 1) = ((lo : Int) + (hi : Int)) / 2 + 1 := IntWalk.i64_in _ (by omega)
   by_cases hm : (lo + hi) / 2 < k
   ·have d1 : decide (y < 0) = true := by rw [decide_eq_true_eq, HY.out]; exact H1.out _ hm
    go_wp2_with fail
    (with_reducible refine HFC.out.mono ?_)
    rintro e w4 ⟨rfl, hb4⟩
    have HB4 := Lib.hid (HBL.out.trans (hb4.mono hsz))
    clear hb4
    go_wp2_with fail
    go_roundg (hi - ((lo + hi) / 2 + 1))
    case measure => omega
    case rel => exact ⟨(lo + hi) / 2 + 1, hi, by rw [EM.out]; go_num, rfl, by omega, by omega, hhn, Nat.le_refl _, HB4.out⟩
   ·have d1 : decide (y < 0) = false := by rw [decide_eq_false_iff_not, HY.out]; have := H2.out ((lo + hi) / 2) (by omega) (by omega); omega
    go_wp2_with fail
    (with_reducible refine HFC.out.mono ?_)
    rintro e w4 ⟨rfl, hb4⟩
    have HB4 := Lib.hid (HBL.out.trans (hb4.mono hsz))
    clear hb4
    go_wp2_with fail
    go_roundg ((lo + hi) / 2 - lo)
    case measure => omega
    case rel => exact ⟨lo, (lo + hi) / 2, rfl, by rw [EM.out], by omega, by omega, by omega, Nat.le_refl _, HB4.out⟩
  ·have d0 : decide ((lo : Int) < (hi : Int)) = false := by rw [decide_eq_false_iff_not]; omega
   obtain rfl : hi = lo := by omega
   obtain rfl : hi = k := by omega
   by_cases hkn : hi < n
   ·have d1 : decide ((hi : Int) < (n : Int)) = true := by rw [decide_eq_true_eq]; omega
    have cm : wr.cell? ⟨g, hi, none⟩ = some (.int .i64 (xs hi)) := by rw [hbl.cell (p := ⟨g, hi, none⟩) hg]; exact HX.out _ (by omega)
    have HFC := Lib.hid (HF.out hi wr (by omega) hbl)
    have hi' : (hi : Int) < (n : Int) := by omega
    clear hbl
    obtain ⟨y, hy⟩ : ∃ y, y = c hi := ⟨_, rfl⟩
    rw [← hy] at HFC
    have HY := Lib.hid hy
    clear hy
    by_cases hz : y = 0
    ·have d2 : (y == 0) = true := by rw [beq_iff_eq]; exact hz
     have hz' : c hi = 0 := HY.out.symm.trans hz
     have HZ := Lib.hid hz'
     clear hz hz'
     go_wp2_with fail
     (with_reducible refine HFC.out.mono ?_)
     rintro e w4 ⟨rfl, hb4⟩
     have HB4 := Lib.hid (HBL.out.trans (hb4.mono hsz))
     clear hb4
     go_wp2_with fail
     exact bodyPost_ret (v := .tuple #[.int .i64 hi, .bool true]) (by simp [results, Tryz.results130, go_sem]) rfl ⟨by rw [decide_eq_true (show hi < n ∧ c hi = 0 from ⟨hkn, HZ.out⟩)], HB4.out⟩
    ·have d2 : (y == 0) = false := by rw [beq_eq_false_iff_ne]; exact hz
     have hz' : ¬ c hi = 0 := fun e => hz (HY.out.trans e)
     have HZ := Lib.hid hz'
     clear hz hz'
     go_wp2_with fail
     (with_reducible refine HFC.out.mono ?_)
     rintro e w4 ⟨rfl, hb4⟩
     have HB4 := Lib.hid (HBL.out.trans (hb4.mono hsz))
     clear hb4
     go_wp2_with fail
     exact bodyPost_ret (v := .tuple #[.int .i64 hi, .bool false]) (by simp [results, Tryz.results130, go_sem]) rfl ⟨by rw [decide_eq_false (show ¬ (hi < n ∧ c hi = 0) from fun h => HZ.out h.2)], HB4.out⟩
   ·have d1 : decide ((hi : Int) < (n : Int)) = false := by rw [decide_eq_false_iff_not]; omega
    have HKN := Lib.hid hkn
    go_wp2_with fail
    exact bodyPost_ret (v := .tuple #[.int .i64 hi, .bool false]) (by simp [results, Tryz.results130, go_sem]) rfl ⟨by rw [decide_eq_false (show ¬ (hi < n ∧ c hi = 0) from fun h => HKN.out h.1)], HBL.out⟩
end Go.Proofs.YtdbfaknpfepnfaaGreatDoor


