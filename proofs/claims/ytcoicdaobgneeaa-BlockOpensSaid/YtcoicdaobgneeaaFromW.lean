
/-
  The walk of block's from.
-/
import Derived.Test.YtcoicdaobgneeaaBFromP
import Derived.Test.YtcoicdaobgneeaaBuildsW
namespace Go.Proofs.Ytcoicdaobgneeaa
open Go.RowKit CodecP

/-- A pair, as a value. -/
def prV (p : Pr) : Value := .agg #[.string (str p.1), .string (str p.2)]
theorem prO_some (a : Pr) (b : Nat) (c : List UInt8) : prO (some (a, b, c)) = a := rfl
theorem smO_some (a : Pr) (b : Nat) (c : List UInt8) : smO (some (a, b, c)) = b := rfl
theorem rsO_some (a : Pr) (b : Nat) (c : List UInt8) : rsO (some (a, b, c)) = some c := rfl
theorem h2_of {w w2 : World} {B p : Nat} {v : Value} {l : List Pr} (hb : Below w.heap.size w w2) (h : Bk w B p v l) : Bk w2 B p v l :=
  ⟨(hb.block p (lt_of_block h.cells)).trans h.cells, owns_of_block h.row (fun k hk => hb.block k (h.row.lt k hk).2), h.rise, h.at_⟩
set_option maxRecDepth 100000 in
set_option maxHeartbeats 2000000 in
/-- from, where the function that sees keeps a state. J i w U: it waits for pair i, and the blocks of U are its own; Q: it has told to stop. -/
theorem from_any (J : Nat → World → (Nat → Prop) → Prop) (Q : World → Prop) (S : Nat → Prop) (fn : Nat) (caps : Array Value) (eg : ∀ args W, (callFunc fn args).run Try.prog W = .ok (.enter fn args) W) (B p : Nat) (v : Value) (l : List Pr) (r : Nat) (w : World)
    (h : Bk w B p v l) (hr : 8 * r < l.length) (hSp : ¬ S p) (hJ0 : ∃ U, J (8 * r) w U) (hst : ∀ i w1 w2 U, J i w1 U → Fr (fun k => k = w.heap.size) w1 w2 → J i w2 U)
    (hU : ∀ i w1 U, w.heap.size ≤ w1.heap.size → J i w1 U → ∀ k, U k → k < w1.heap.size ∧ k ≠ p ∧ k ≠ w.heap.size ∧ (∀ g, v.ownBlock = some g → k ≠ g) ∧ (k < w.heap.size → S k))
    (hsee : ∀ i (hi : i < l.length) w1 U, w.heap.size < w1.heap.size → J i w1 U → Calls Try.prog fn (#[.int .i64 i, prV l[i]] ++ caps) w1 fun e w2 =>
      Fr U w1 w2 ∧ ((e = .returned (.bool true) ∧ ∃ U2, J (i + 1) w2 U2) ∨ (e = .returned (.bool false) ∧ Q w2))) :
    Calls Try.prog 42 #[(Value.pointer (some ⟨p, 0, none⟩)), .int .i64 r, .func (.func fn) #[] caps] w fun e w' => e = .returned (.tuple #[]) ∧ Fr S w w' ∧ ((∃ U, J l.length w' U) ∨ ∃ w1, Q w1 ∧ Fr (fun _ => False) w1 w') := by
  have HRD := Lib.hid read_o
  have HST := Lib.hid step_any
  obtain ⟨off, o1, o2, o3⟩ := rst_at l r hr
  have hle := h.rise.le
  have hdl := dat_len h.rise.ok
  have hrl := rst_len l
  have q1 : r < (rst l).length := by omega
  obtain ⟨g, cp, hv, _, hg, hc, hm, hcell⟩ := own_pos h.row (by omega)
  have hc7 := hcell r (.int .i64 off) (by rw [List.getElem?_map, o1]; rfl)
  subst hv
  have c0 : w.cell? ⟨p, 0, none⟩ = some (.string (str (dat l))) := cellOf2 (o := 0) h.cells rfl
  have c1 : w.cell? ⟨p, 1, none⟩ = some (.slice (some ⟨g, 0, none⟩) (rst l).length cp) := cellOf2 (o := 1) h.cells rfl
  have z1 : (str (dat l)).size = (dat l).length := by simp [str, ByteArray.size]
  have ex : (str (dat l)).extract off (dat l).length = str (datF (8 * r) [] (l.drop (8 * r))) := by
    rw [← o3, ← str_bl ((str (dat l)).extract _ _), ext_bl, bl_str]
    congr 1
    rw [List.take_of_length_le (by rw [List.length_drop]; omega)]
  have zx : (str (datF (8 * r) [] (l.drop (8 * r)))).size ≤ maxLen := by
    rw [← o3]
    rw [show (str ((dat l).drop off)).size = ((dat l).drop off).length by simp [str, ByteArray.size], List.length_drop]
    unfold maxLen
    omega
  have HEX := Lib.hid ex
  have HZX := Lib.hid zx
  have HH := Lib.hid h
  have HU := Lib.hid hU
  have HSEE := Lib.hid hsee
  have HJ0 := Lib.hid hJ0
  have HSTB := Lib.hid hst
  have HSP := Lib.hid hSp
  have o2' : (off : Int) ≤ ((dat l).length : Int) := by omega
  have o4 : (r : Int) < ((rst l).length : Int) := by omega
  have wr8 : IntKind.i64.wrap ((r : Int) * 8) = (r : Int) * 8 := IntWalk.i64_in _ (by omega)
  clear ex h hU hsee hJ0 hst hSp o3 hdl hcell zx hrl
  unfold maxLen at hm
  go_enter Try.func42, Try.ntmps42
  go_wp2_with fail
  refine wp_region_held_drew (S := (fun w' => w'.cell? ⟨p, 0, none⟩ = some (.string (str (dat l))) ∧ w'.cell? ⟨p, 1, none⟩ = some (.slice (some ⟨g, 0, none⟩) (rst l).length cp) ∧ w'.cell? ⟨g, r, none⟩ = some (.int .i64 off))) (by kernel_rfl) (by (try dsimp only); exact ⟨c0, c1, hc7⟩) (fun hHeld => ?_)
  refine takeH (i := 0) (d := some 11) (v := ?_) rfl rfl (by kernel_rfl) (by kernel_rfl) (by kernel_rfl) (fun _ _ _ h => h) (Or.inl ⟨by rfl, ?_⟩) (by assumption) ?_
  rotate_left
  · intro wS hSw; (try dsimp only at hSw); go_simp; (try (with_reducible rfl))
  simp only [Act.put, List.setIfInBounds_toArray, List.set_cons_zero, List.set_cons_succ]
  refine takeH (i := 1) (d := some 12) (v := ?_) rfl rfl (by kernel_rfl) (by kernel_rfl) (by kernel_rfl) (fun _ _ _ h => h) (Or.inl ⟨by rfl, ?_⟩) (by assumption) ?_
  rotate_left
  · intro wS hSw; (try dsimp only at hSw); go_simp; (try (with_reducible rfl))
  simp only [Act.put, List.setIfInBounds_toArray, List.set_cons_zero, List.set_cons_succ]
  refine takeH (i := 2) (d := some 13) (v := ?_) rfl rfl (by kernel_rfl) (by kernel_rfl) (by kernel_rfl) (fun _ _ _ h => h) (Or.inl ⟨by rfl, ?_⟩) (by assumption) ?_
  rotate_left
  · intro wS hSw; (try dsimp only at hSw); go_simp; (try (with_reducible rfl))
  simp only [Act.put, List.setIfInBounds_toArray, List.set_cons_zero, List.set_cons_succ]
  refine takeH (i := 3) (d := some 14) (v := ?_) rfl rfl (by kernel_rfl) (by kernel_rfl) (by kernel_rfl) (fun _ _ _ h => h) (Or.inl ⟨by rfl, ?_⟩) (by assumption) ?_
  rotate_left
  · intro wS hSw; (try dsimp only at hSw); go_simp; (try (with_reducible rfl))
  simp only [Act.put, List.setIfInBounds_toArray, List.set_cons_zero, List.set_cons_succ]
  refine takeH (i := 4) (d := some 15) (v := ?_) rfl rfl (by kernel_rfl) (by kernel_rfl) (by kernel_rfl) (fun _ _ _ h => h) (Or.inl ⟨by rfl, ?_⟩) (by assumption) ?_
  rotate_left
  · intro wS hSw; (try dsimp only at hSw); go_simp; (try (with_reducible rfl))
  simp only [Act.put, List.setIfInBounds_toArray, List.set_cons_zero, List.set_cons_succ]
  refine takeH (i := 5) (d := some 16) (v := ?_) rfl rfl (by kernel_rfl) (by kernel_rfl) (by kernel_rfl) (fun _ _ _ h => h) (Or.inl ⟨by rfl, ?_⟩) (by assumption) ?_
  rotate_left
  · intro wS hSw; (try dsimp only at hSw); go_simp; (try (with_reducible rfl))
  simp only [Act.put, List.setIfInBounds_toArray, List.set_cons_zero, List.set_cons_succ]
  refine takeH (i := 6) (d := some 17) (v := ?_) rfl rfl (by kernel_rfl) (by kernel_rfl) (by kernel_rfl) (fun _ _ _ h => h) (Or.inl ⟨by rfl, ?_⟩) (by assumption) ?_
  rotate_left
  · intro wS hSw; (try dsimp only at hSw); go_simp; (try (with_reducible rfl))
  simp only [Act.put, List.setIfInBounds_toArray, List.set_cons_zero, List.set_cons_succ]
  refine takeH (i := 7) (d := some 18) (v := ?_) rfl rfl (by kernel_rfl) (by kernel_rfl) (by kernel_rfl) (fun _ _ _ h => h) (Or.inl ⟨by rfl, ?_⟩) (by assumption) ?_
  rotate_left
  · intro wS hSw; (try dsimp only at hSw); go_simp; (try (with_reducible rfl))
  simp only [Act.put, List.setIfInBounds_toArray, List.set_cons_zero, List.set_cons_succ]
  refine takeH (i := 8) (d := some 19) (v := ?_) rfl rfl (by kernel_rfl) (by kernel_rfl) (by kernel_rfl) (fun _ _ _ h => h) (Or.inl ⟨by rfl, ?_⟩) (by assumption) ?_
  rotate_left
  · intro wS hSw; (try dsimp only at hSw); go_simp; (try (with_reducible rfl))
  simp only [Act.put, List.setIfInBounds_toArray, List.set_cons_zero, List.set_cons_succ]
  refine takeH (i := 9) (d := some 20) (v := ?_) rfl rfl (by kernel_rfl) (by kernel_rfl) (by kernel_rfl) (fun _ _ _ h => h) (Or.inl ⟨by rfl, ?_⟩) (by assumption) ?_
  rotate_left
  · intro wS hSw; (try dsimp only at hSw); go_simp; (try (with_reducible rfl))
  simp only [Act.put, List.setIfInBounds_toArray, List.set_cons_zero, List.set_cons_succ]
  refine takeH (i := 10) (d := some 21) (v := ?_) rfl rfl (by kernel_rfl) (by kernel_rfl) (by kernel_rfl) (fun _ _ _ h => h) (Or.inl ⟨by rfl, ?_⟩) (by assumption) ?_
  rotate_left
  · intro wS hSw; (try dsimp only at hSw); go_simp; (try (with_reducible rfl))
  simp only [Act.put, List.setIfInBounds_toArray, List.set_cons_zero, List.set_cons_succ]
  refine takeH (i := 11) (d := some 22) (v := ?_) rfl rfl (by kernel_rfl) (by kernel_rfl) (by kernel_rfl) (fun _ _ _ h => h) (Or.inl ⟨by rfl, ?_⟩) (by assumption) ?_
  rotate_left
  · intro wS hSw; (try dsimp only at hSw); go_simp; (try (with_reducible rfl))
  simp only [Act.put, List.setIfInBounds_toArray, List.set_cons_zero, List.set_cons_succ]
  refine wpAnyH_ready (rs := [12]) (by kernel_rfl) (by simp) ?_
  refine AllReadyH.cons rfl (fun K hK => ?_) AllReadyH.nil
  go_simp
  rw [HEX.out]
  refine (HRD.out _ _ HZX.out).mono ?_
  rintro e w2 ⟨rfl, h2, hb2⟩
  have hb2' : Below w.heap.size w w2 := hb2.undrew
  have hj2 := hb2'
  have k0 := (Fr.of_below (fun _ => False) hb2').cell c0 (fun h => h)
  have k1 := (Fr.of_below (fun _ => False) hb2').cell c1 (fun h => h)
  have k2 := (Fr.of_below (fun _ => False) hb2').cell hc7 (fun h => h)
  have H2 := Lib.hid h2
  have HB2 := Lib.hid hb2'
  clear h2 hb2 hb2' hj2
  go_wp2_with fail
  refine hK.out _ _ (by (try dsimp only); exact ⟨k0, k1, k2⟩) (fun hHeld => ?_)
  clear hK K
  refine takeH (i := 13) (d := some 6) (v := ?_) rfl rfl (by kernel_rfl) (by kernel_rfl) (by kernel_rfl) (fun _ _ _ h => h) (Or.inl ⟨by rfl, ?_⟩) (by assumption) ?_
  rotate_left
  · intro wS hSw; (try dsimp only at hSw); go_simp; (try (with_reducible rfl))
  simp only [Act.put, List.setIfInBounds_toArray, List.set_cons_zero, List.set_cons_succ]
  refine wpAnyH_done (by kernel_rfl) ?_ _
  have hp2 := h2_of HB2.out HH.out
  have h2 := H2.out
  rw [bl_str, show w.drew.heap.size = w.heap.size from rfl] at h2
  have HR2 := Lib.hid h2
  have HP2 := Lib.hid hp2
  clear h2 hp2 c0 c1 hc7 z1 H2 hHeld
  go_wp2_with fail
  have hrl' : r * 8 ≤ l.length := by omega
  go_loopg [7, 8] (l.length - r * 8) (fun g lv iv wr => ∃ (i : Nat) (last : List UInt8), i ≤ l.length ∧ 8 * r ≤ i ∧ l.length - i = g ∧ lv = .string (str last) ∧ iv = .int .i64 i ∧ last.length ≤ 80 ∧ RO wr w.heap.size (some (datF i last (l.drop i))) ∧
    (∃ U, J i wr U) ∧ Fr S w wr)
  case atStart =>
    obtain ⟨U, hU⟩ := HJ0.out
    exact ⟨8 * r, [], by omega, Nat.le_refl _, by rw [Nat.mul_comm], rfl, by rw [Nat.mul_comm]; rfl, Nat.zero_le _, HR2.out, ⟨U, HSTB.out _ _ _ _ hU (Fr.of_below _ HB2.out)⟩, Fr.of_below _ HB2.out⟩
  case round =>
    obtain ⟨i, last, hi, hri, hg, rfl, rfl, hlast, hRO, ⟨U, hJ⟩, hF⟩ := hrel
    have hlt := lt_of_block HH.out.cells
    have hcp := (hF.block p hlt HSP.out).trans HH.out.cells
    have c2 := cellOf2 (o := 2) hcp rfl
    have HRO := Lib.hid hRO
    have HJ := Lib.hid hJ
    have HF := Lib.hid hF
    clear hRO hJ hF hcp
    by_cases hil : i = l.length
    · have d0 : decide ((i : Int) < (l.length : Int)) = false := by rw [decide_eq_false_iff_not]; omega
      go_wp2_with fail
      go_end0
      subst hil
      exact ⟨rfl, HF.out, .inl ⟨U, HJ.out⟩⟩
    · have hil' : i < l.length := by omega
      have d0 : decide ((i : Int) < (l.length : Int)) = true := by rw [decide_eq_true_eq]; omega
      have HSS := Lib.hid (HST.out w.heap.size (str last) _ wr HRO.out (by rw [show (str last).size = last.length by simp [str, ByteArray.size]]; omega))
      rw [bl_str, stepF_dat HH.out.rise.ok i last hlast hil', prO_some, smO_some, rsO_some] at HSS
      have hok := HH.out.rise.ok l[i] (List.getElem_mem hil')
      have hsee := HSEE.out i hil'
      have hlt := hok.2.1
      unfold prV at hsee
      obtain ⟨pr, hpr⟩ : ∃ pr, pr = l[i] := ⟨_, rfl⟩
      rw [← hpr] at hsee HSS hlt
      have HSE := Lib.hid hsee
      clear hsee hok hpr
      go_wp2_with fail
      (with_reducible refine HSS.out.mono ?_)
      rintro e w4 ⟨rfl, h4, hf4⟩
      have hs4 : wr.heap.size ≤ w4.heap.size := hf4.size
      have hwr : w.heap.size ≤ wr.heap.size := HF.out.size
      have hj4 := HSTB.out _ _ _ _ HJ.out hf4
      have H4 := Lib.hid h4
      have HF4 := Lib.hid (HF.out.trans (hf4.mono (T := fun k => k = w.heap.size ∨ S k) (fun k _ h => .inl h)) (fun k hk h => h.elim (fun e => absurd e (by omega)) id))
      have h5 : Fr (fun _ => False) w4 (w4.alloc (.cells #[.string (str pr.1), .string (str pr.2)] 48)) := (Fr.refl _ w4).alloc _
      have hp5 : (w4.alloc (.cells #[.string (str pr.1), .string (str pr.2)] 48)).heap[w4.heap.size]? = some (.cells #[.string (str pr.1), .string (str pr.2)] 48 (0, 0)) := by
        show (w4.heap.push _)[w4.heap.size]? = _
        simp
      have hsz5 : w4.heap.size < (w4.alloc (.cells #[.string (str pr.1), .string (str pr.2)] 48)).heap.size := by simp
      have HP5 := Lib.hid hp5
      have H5 := Lib.hid (H4.out.keep h5 (fun h => h))
      have HF5 := Lib.hid (HF4.out.trans h5 (fun _ _ h => h.elim))
      have HJ5 := Lib.hid (HSTB.out _ _ _ _ hj4 (h5.mono (fun _ _ h => h.elim)))
      have HU4 := Lib.hid (HU.out _ _ _ (by omega) hj4)
      clear h4 hf4 hj4 h5 hp5
      go_upto_region 6 with (fail)
      generalize w4.alloc (.cells #[.string (str pr.1), .string (str pr.2)] 48) = w5 at *
      have k0 := cellOf2 (o := 0) HP5.out rfl
      have k1 := cellOf2 (o := 1) HP5.out rfl
      go_wp2_with fail
      (with_reducible refine (HSE.out w5 U H5.out.lt HJ5.out).mono ?_)
      rintro e w6 ⟨hf6, ⟨rfl, U2, hj6⟩ | ⟨rfl, hq6⟩⟩
      · have hp6 := (hf6.block w4.heap.size (lt_of_block HP5.out) (fun h => by have := (HU4.out _ h).1; omega)).trans HP5.out
        have k60 := cellOf2 (o := 0) hp6 rfl
        have HR6 := Lib.hid (H5.out.keep hf6 (fun h => (HU4.out _ h).2.2.1 rfl))
        have HF6 := Lib.hid (HF5.out.trans hf6 (fun k hk h => (HU4.out _ h).2.2.2.2 hk))
        have HJ6 := Lib.hid hj6
        have wi : IntKind.i64.wrap ((i : Int) + 1) = (i : Int) + 1 := IntWalk.i64_in _ (by omega)
        clear hf6 hj6 hp6
        go_wp2_with fail
        go_roundg (l.length - (i + 1))
        case measure => omega
        case rel => exact ⟨i + 1, pr.1, by omega, by omega, rfl, rfl, by go_num, hlt, HR6.out, ⟨U2, HJ6.out⟩, HF6.out⟩
      · have HF6 := Lib.hid (HF5.out.trans hf6 (fun k hk h => (HU4.out _ h).2.2.2.2 hk))
        clear hf6
        go_wp2_with fail
        exact bodyPost_ret (v := .tuple #[]) (by simp [results, Try.results42, go_sem]) rfl ⟨rfl, HF6.out, .inr ⟨w6, hq6, Fr.refl _ _⟩⟩
end Go.Proofs.Ytcoicdaobgneeaa
