/-
  Texts of the claim, joined: TabRtW, TabEnW, TabEn2W, TabPlP.
-/
import Derived.Test.YtdbfaknpfepnfaaGreatDoorMxBK14
import Derived.Test.YtdbfaknpfepnfaaGreatDoorMxBK4
set_option maxRecDepth 100000
set_option maxHeartbeats 40000000
namespace Go.Proofs.YtdbfaknpfepnfaaGreatDoor
open Go.RowKit CodecP CrcP FrameP

theorem BlksIn.at_ {w W : World} {v : Value} {bs : List (List Pr)} (h : BlksIn w W v bs) {A : Option Addr} {n cap : Nat} (hv : v = .slice A n cap) {i : Nat} (hi : i < bs.length) :
  n = bs.length ∧ n ≤ cap ∧ cap ≤ maxLen ∧ ∃ b s, A = some ⟨b, 0, none⟩ ∧ b < W.heap.size ∧ W.cell? ⟨b, i, none⟩ = some s ∧ W.ownsRow w.heap.size 40 2 s bs[i].length (flatR bs[i]) := by
 obtain ⟨sv, h1, h2, h3⟩ := h
 obtain ⟨b, cp, hv2, _, hb, hc, hm, hcell⟩ := own_pos h1 (by omega)
 rw [hv] at hv2
 injection hv2 with e1 e2 e3
 subst e1 e2 e3
 have hi2 : i < sv.length := by omega
 exact ⟨rfl, hc, hm, b, sv[i], rfl, hb, hcell i _ (List.getElem?_eq_getElem hi2), h3 i hi hi2⟩
theorem take_snocB {α : Type} {l : List α} {i : Nat} (h : i < l.length) : l.take (i + 1) = l.take i ++ [l[i]] := (List.take_append_getElem h).symm
theorem outB_take_le (bs : List (List Pr)) (h : ∀ b ∈ bs, (blk b).length ≤ 32500) (i : Nat) : (outB (bs.take i)).length ≤ bs.length * 32512 := by
 have := outB_len (fun b hb => h b (List.mem_of_mem_take hb) : ∀ b ∈ bs.take i, (blk b).length ≤ 32500)
 rw [List.length_take] at this
 have : min i bs.length * 32512 ≤ bs.length * 32512 := Nat.mul_le_mul_right _ (Nat.min_le_right _ _)
 omega
structure BsI (bs : List (List Pr)) (L : List Pr) : Prop where
 flat : bs.flatten = L
 ne : ∀ b ∈ bs, b ≠ []
 small : ∀ b ∈ bs, (blk b).length ≤ 32500
 rise : ∀ b ∈ bs, Rise b
 ix : Rise (idx bs)
 few : bs.length ≤ 200
theorem bsI {sz : Nat} {L : List Pr} (hr : Rise L) (hl : L.length ≤ 200) (h1 : 64 ≤ sz) (h2 : sz ≤ 16384) : BsI (blocksOf sz L) L := by
 have hc := cutI sz h1 h2 L hr.ok
 have hlen := cut_len hc
 obtain ⟨p1, p2⟩ := rise_parts hr hc.flat
 have hfl : (blocksOf sz L).flatten = L := by
  unfold blocksOf closeB
  split
  ·rename_i h0
   have := hc.flat
   rw [h0, List.append_nil] at this
   exact this
  ·rw [List.flatten_append]
   simpa using hc.flat
 have hne : ∀ b ∈ blocksOf sz L, b ≠ [] := by
  unfold blocksOf closeB
  split
  ·exact hc.ne
  ·rename_i h0
   intro b hb
   rcases List.mem_append.1 hb with hb | hb
   ·exact hc.ne b hb
   ·rw [List.mem_singleton.1 hb]; exact h0
 have hsm : ∀ b ∈ blocksOf sz L, (blk b).length ≤ 32500 ∧ Rise b := by
  unfold blocksOf closeB
  have := hc.cur
  split
  ·exact fun b hb => ⟨hc.small b hb, p1 b hb⟩
  ·intro b hb
   rcases List.mem_append.1 hb with hb | hb
   ·exact ⟨hc.small b hb, p1 b hb⟩
   ·rw [List.mem_singleton.1 hb]; exact ⟨by omega, p2⟩
 refine ⟨hfl, hne, fun b hb => (hsm b hb).1, fun b hb => (hsm b hb).2, rise_idx (by rw [hfl]; exact hr) hne, ?_⟩
 have : ∀ M : List (List Pr), (∀ b ∈ M, b ≠ []) → M.length ≤ M.flatten.length := fun M hM => by
  induction M with
  | nil => simp
  | cons b M ih =>
   have e1 := ih (fun x hx => hM x (by simp [hx]))
   have e2 := List.length_pos_iff.2 (hM b (by simp))
   rw [List.flatten_cons, List.length_append, List.length_cons]
   omega
 have := this _ hne
 rw [hfl] at this
 omega
theorem strs_of_own {W : World} {B : Nat} {v : Value} {l : List (List UInt8)} (h : W.ownsRow B 9 1 v l.length (keyV l)) (hn : l.length ≤ 100000) (hl : ∀ k ∈ l, k.length ≤ 1000000) : Strs W v (l.map str) := by
 obtain ⟨ao, cp, hv⟩ := own_form h
 subst hv
 refine ⟨ao, cp, by simp, by simp [maxLen]; omega, fun hne => ?_⟩
 have h0 : 0 < l.length := by
  rcases Nat.eq_zero_or_pos l.length with h1 | h1
  ·exact absurd (by rw [List.length_eq_zero_iff.1 h1]; rfl) hne
  ·exact h1
 obtain ⟨b, cap, hv, _, hb, hc, hm, hcell⟩ := own_pos h h0
 injection hv with hv
 refine ⟨b, 0, hv, fun i hi => ?_, hb, fun i hi => ?_⟩
 ·have hi2 : i < l.length := by simpa using hi
  rw [Nat.zero_add]
  exact hcell i _ (by simp [keyV, List.getD, hi2])
 ·have hi2 : i < l.length := by simpa using hi
  have := hl l[i] (List.getElem_mem hi2)
  simp only [List.getD_eq_getElem?_getD, List.getElem?_map, List.getElem?_eq_getElem hi2, Option.map_some, Option.getD_some, str_size]
  unfold maxLen
  omega
theorem bls_strR (l : List (List UInt8)) : bls (l.map str) = l := by
 unfold bls
 rw [List.map_map]
 refine (List.map_congr_left fun k _ => ?_).trans (List.map_id _)
 exact bl_str k
theorem refTab_any (v : Value) (L : List Pr) (size : Int) (w : World) (h : PrsIn w v L) (hr : Rise L) (hn : L.length ≤ 200) :
  Calls Tryz.prog 30 #[v, .int .i64 size] w fun e w' => e = .returned (.string (str (tabS (blocksOf (clampN size) L) (L.map fun p => p.1)))) ∧ Below w.heap.size w w' := by
 have HBL := Lib.hid (refBlocks_any v L size w h hr.ok hn)
 have HPI := Lib.hid (fun W (hW : Below w.heap.size w W) => h.below hW)
 have HC := Lib.hid (fun A n cap hv i hi => h.cells (A := A) (n := n) (cap := cap) hv (i := i) hi)
 have hcz := clamp_le size
 have HBI := Lib.hid (bsI hr hn hcz.2.1 hcz.1)
 obtain ⟨A, cap, hv, hs⟩ := h.ex
 subst hv
 have hcl := hs.le
 have hcm := hs.max
 unfold maxLen at hcm
 have HR := Lib.hid hr
 clear h hs hcz hr
 generalize hbsE : blocksOf (clampN size) L = bs at *
 have HBS := Lib.hid hbsE
 clear hbsE
 go_enter Tryz.func30, Tryz.ntmps30
 go_wp2_with fail
 (with_reducible refine HBL.out.mono ?_)
 rintro e w4 ⟨bv, rfl, hbi, hb4⟩
 have hbv : ∃ bA bc, bv = .slice bA bs.length bc := by
  obtain ⟨sv, h1, -⟩ := hbi
  obtain ⟨a, c, e⟩ := own_form h1
  exact ⟨a, c, e⟩
 obtain ⟨bA, bc, hbv⟩ := hbv
 subst hbv
 have HBK := Lib.hid (fun i hi => hbi.at_ rfl (i := i) hi)
 have HB4 := Lib.hid hb4
 clear hbi hb4 HBL
 go_wp2_with fail
 have hfew := HBI.out.few
 have HRF := Lib.hid (Below.refl w4.heap.size w4)
 obtain ⟨i0, hi, hz0, hz1, hz2⟩ := info_parts info_prR
 go_loopg [5, 6, 9] bs.length (fun g sv xv iv wr => ∃ i : Nat, i + g = bs.length ∧ iv = .int .i64 i ∧ sv = .string (str (outB (bs.take i))) ∧ wr.ownsRow w4.heap.size 40 2 xv (idx (bs.take i)).length (flatR (idx (bs.take i))) ∧ Below w4.heap.size w4 wr)
 case atStart => exact ⟨0, by omega, rfl, rfl, World.ownsRow_nil _ _ _ _, HRF.out⟩
 case round =>
  obtain ⟨i, hig, rfl, rfl, hx, hbel⟩ := hrel
  obtain ⟨xao, xcp, hxv⟩ := own_form hx
  subst hxv
  have hxl := idx_len (bs.take i)
  have hol := outB_take_le bs HBI.out.small i
  rw [List.length_take, Nat.min_eq_left (by omega)] at hxl
  rw [hxl] at hx
  have HX := Lib.hid hx
  have HBEL := Lib.hid hbel
  clear hx hbel
  by_cases hlt : i < bs.length
  ·have d9 : decide ((i : Int) < (bs.length : Int)) = true := by rw [decide_eq_true_eq]; omega
   have gi : (i : Int) < (bs.length : Int) := by omega
   have wi : IntKind.i64.wrap ((i : Int) + 1) = (i : Int) + 1 := IntWalk.i64_in _ (by omega)
   obtain ⟨-, hbc, hbm, gb, s, rfl, hgb, hcs, hrow⟩ := HBK.out i hlt
   unfold maxLen at hbm
   have hbmem := List.getElem_mem hlt
   have htk := take_snocB hlt
   obtain ⟨b, hb⟩ : ∃ b, b = bs[i] := ⟨_, rfl⟩
   rw [← hb] at hrow hbmem htk
   have hbr := HBI.out.rise b hbmem
   have hbs := HBI.out.small b hbmem
   have hbn := HBI.out.ne b hbmem
   have hrow2 := owns_of_block (w' := wr) hrow (fun k hk => HBEL.out.block k (hrow.lt k hk).2)
   have c1 := (HBEL.out.cell (p := ⟨gb, i, none⟩) hgb).trans hcs
   have hpl : 0 < b.length := List.length_pos_iff.2 hbn
   obtain ⟨gs, cs, hsv, _, hgs, hsc, hsm, hscell⟩ := own_pos hrow2 hpl
   subst hsv
   unfold maxLen at hsm
   have hb4 := hbr.le
   have hlk := lastK_get b hpl
   have c2 := hscell _ _ (flatR_get b (b.length - 1) (by omega)).1
   rw [← hlk] at c2
   have HBY := Lib.hid (refBytes_any _ b wr (PrsIn.own hrow2 hbr.ok) hbr.ok hbr.le)
   have HFR := Lib.hid (fun W => refFrame_any (str (blk b)) W (by rw [str_size]; omega))
   rw [bl_str, show frame (blk b) = frm b from rfl] at HFR
   have hfl := frm_len b
   have hfb : (frm b).length ≤ 32512 := by omega
   clear hfl
   have s1 : IntKind.i64.wrap ((b.length : Int) - 1) = (b.length : Int) - 1 := IntWalk.i64_in _ (by omega)
   have s2 : ((b.length : Int) - 1).toNat = b.length - 1 := by omega
   have s5 : (0 : Int) ≤ (b.length : Int) - 1 := by omega
   have s6 : (b.length : Int) - 1 < (b.length : Int) := by omega
   have s7 : (1 : Int) ≤ (b.length : Int) := by omega
   have HTK := Lib.hid htk
   have hlt1 := sb_lt c1
   have hlt2 := sb_lt c2
   clear hcs hrow hbmem htk hb hbr hrow2 hscell hlk hgb hgs
   go_wp2_with fail
   (with_reducible refine HBY.out.mono ?_)
   rintro e w5 ⟨rfl, hb5⟩
   have HB5 := Lib.hid hb5
   clear hb5 HBY
   go_wp2_with fail
   (with_reducible refine (HFR.out _).mono ?_)
   rintro e w6 ⟨rfl, hb6⟩
   have hb56 := HB5.out.trans (hb6.mono HB5.out.size)
   have k1 := (hb56.cell (p := ⟨gb, i, none⟩) hlt1).trans c1
   have k2 := (hb56.cell (p := ⟨gs, (b.length - 1) * 2, none⟩) hlt2).trans c2
   have HB6 := Lib.hid hb56
   clear hb6 hb56 HFR HB5 c1 c2
   have HKE := Lib.hid (show bl (str (lastK b)) = lastK b from bl_str _)
   generalize str (lastK b) = lk at *
   go_wp2_with fail
   refine wp_region_held_drew (S := (fun W => W.cell? ⟨gb, i, none⟩ = some (.slice (some ⟨gs, 0, none⟩) b.length cs) ∧ W.cell? ⟨gs, (b.length - 1) * 2, none⟩ = some (.string lk))) (by kernel_rfl) (by (try dsimp only); exact ⟨k1, k2⟩) (fun hHeld => ?_)
   refine takeH (i := 0) (d := some 30) (v := ?_) rfl rfl (by kernel_rfl) (by kernel_rfl) (by kernel_rfl) (fun _ _ _ h => h) (Or.inl ⟨by rfl, ?_⟩) (by assumption) ?_
   rotate_left
   ·intro wS hSw; (try dsimp only at hSw); go_simp; (try (with_reducible rfl))
   simp only [Act.put, zA, zB, zC]
   refine takeH (i := 1) (d := some 31) (v := ?_) rfl rfl (by kernel_rfl) (by kernel_rfl) (by kernel_rfl) (fun _ _ _ h => h) (Or.inl ⟨by rfl, ?_⟩) (by assumption) ?_
   rotate_left
   ·intro wS hSw; (try dsimp only at hSw); go_simp; (try (with_reducible rfl))
   simp only [Act.put, zA, zB, zC]
   refine takeH (i := 2) (d := some 32) (v := ?_) rfl rfl (by kernel_rfl) (by kernel_rfl) (by kernel_rfl) (fun _ _ _ h => h) (Or.inl ⟨by rfl, ?_⟩) (by assumption) ?_
   rotate_left
   ·intro wS hSw; (try dsimp only at hSw); go_simp; (try (with_reducible rfl))
   simp only [Act.put, zA, zB, zC]
   refine takeH (i := 3) (d := some 33) (v := ?_) rfl rfl (by kernel_rfl) (by kernel_rfl) (by kernel_rfl) (fun _ _ _ h => h) (Or.inl ⟨by rfl, ?_⟩) (by assumption) ?_
   rotate_left
   ·intro wS hSw; (try dsimp only at hSw); go_simp; (try (with_reducible rfl))
   simp only [Act.put, zA, zB, zC]
   refine takeH (i := 4) (d := some 34) (v := ?_) rfl rfl (by kernel_rfl) (by kernel_rfl) (by kernel_rfl) (fun _ _ _ h => h) (Or.inl ⟨by rfl, ?_⟩) (by assumption) ?_
   rotate_left
   ·intro wS hSw; (try dsimp only at hSw); go_simp; (try (with_reducible rfl))
   simp only [Act.put, zA, zB, zC]
   refine takeH (i := 5) (d := some 35) (v := ?_) rfl rfl (by kernel_rfl) (by kernel_rfl) (by kernel_rfl) (fun _ _ _ h => h) (Or.inl ⟨by rfl, ?_⟩) (by assumption) ?_
   rotate_left
   ·intro wS hSw; (try dsimp only at hSw); go_simp; (try (with_reducible rfl))
   simp only [Act.put, zA, zB, zC]
   refine takeH (i := 6) (d := some 36) (v := ?_) rfl rfl (by kernel_rfl) (by kernel_rfl) (by kernel_rfl) (fun _ _ _ h => h) (Or.inl ⟨by rfl, ?_⟩) (by assumption) ?_
   rotate_left
   ·intro wS hSw; (try dsimp only at hSw); go_simp; (try (with_reducible rfl))
   simp only [Act.put, zA, zB, zC]
   refine takeH (i := 7) (d := some 37) (v := ?_) rfl rfl (by kernel_rfl) (by kernel_rfl) (by kernel_rfl) (fun _ _ _ h => h) (Or.inl ⟨by rfl, ?_⟩) (by assumption) ?_
   rotate_left
   ·intro wS hSw; (try dsimp only at hSw); go_simp; (try (with_reducible rfl))
   simp only [Act.put, zA, zB, zC]
   refine takeH (i := 8) (d := some 38) (v := ?_) rfl rfl (by kernel_rfl) (by kernel_rfl) (by kernel_rfl) (fun _ _ _ h => h) (Or.inl ⟨by rfl, ?_⟩) (by assumption) ?_
   rotate_left
   ·intro wS hSw; (try dsimp only at hSw); go_simp; (try (with_reducible rfl))
   simp only [Act.put, zA, zB, zC]
   refine takeH (i := 9) (d := some 39) (v := ?_) rfl rfl (by kernel_rfl) (by kernel_rfl) (by kernel_rfl) (fun _ _ _ h => h) (Or.inl ⟨by rfl, ?_⟩) (by assumption) ?_
   rotate_left
   ·intro wS hSw; (try dsimp only at hSw); go_simp; (try (with_reducible rfl))
   simp only [Act.put, zA, zB, zC]
   refine takeH (i := 10) (d := some 40) (v := ?_) rfl rfl (by kernel_rfl) (by kernel_rfl) (by kernel_rfl) (fun _ _ _ h => h) (Or.inl ⟨by rfl, ?_⟩) (by assumption) ?_
   rotate_left
   ·intro wS hSw; (try dsimp only at hSw); go_simp; (try (with_reducible rfl))
   simp only [Act.put, zA, zB, zC]
   refine takeH (i := 11) (d := some 41) (v := ?_) rfl rfl (by kernel_rfl) (by kernel_rfl) (by kernel_rfl) (fun _ _ _ h => h) (Or.inl ⟨by rfl, ?_⟩) (by assumption) ?_
   rotate_left
   ·intro wS hSw; (try dsimp only at hSw); go_simp; (try (with_reducible rfl))
   simp only [Act.put, zA, zB, zC]
   refine takeH (i := 12) (d := some 42) (v := ?_) rfl rfl (by kernel_rfl) (by kernel_rfl) (by kernel_rfl) (fun _ _ _ h => h) (Or.inl ⟨by rfl, ?_⟩) (by assumption) ?_
   rotate_left
   ·intro wS hSw; (try dsimp only at hSw); go_simp; (try (with_reducible rfl))
   simp only [Act.put, zA, zB, zC]
   refine takeH (i := 13) (d := some 11) (v := ?_) rfl rfl (by kernel_rfl) (by kernel_rfl) (by kernel_rfl) (fun _ _ _ h => h) (Or.inl ⟨by rfl, ?_⟩) (by assumption) ?_
   rotate_left
   ·intro wS hSw; (try dsimp only at hSw); go_simp; (try (with_reducible rfl))
   simp only [Act.put, zA, zB, zC]
   refine wpAnyH_done (by kernel_rfl) ?_ _
   clear hHeld k1 k2
   have es := str_size (outB (bs.take i))
   have ef := str_size (frm b)
   have HG1 := Lib.hid (fun W => refGroups_any (outB (bs.take i)).length W (by omega))
   have HG2 := Lib.hid (fun W => refGroups_any (frm b).length W (by omega))
   have g1 := grp_len (outB (bs.take i)).length
   have g2 := grp_len (frm b).length
   have u1 : IntKind.u64.wrap ((outB (bs.take i)).length : Int) = ((outB (bs.take i)).length : Int) := IntWalk.u64_in _ (by omega)
   have u2 : IntKind.u64.wrap ((frm b).length : Int) = ((frm b).length : Int) := IntWalk.u64_in _ (by omega)
   have e1 := str_size (grp (outB (bs.take i)).length)
   have e2 := str_size (grp (frm b).length)
   have e3 := str_append (grp (outB (bs.take i)).length) (grp (frm b).length)
   have e4 := str_append (outB (bs.take i)) (frm b)
   have hcat1 : ¬ 9223372036854775807 < (str (grp (outB (bs.take i)).length)).size + (str (grp (frm b).length)).size := by omega
   have hcat2 : ¬ 9223372036854775807 < (str (outB (bs.take i))).size + (str (frm b)).size := by omega
   have HX6 := Lib.hid (show Below w4.heap.size w4 w6.drew from (HBEL.out.trans (HB6.out.mono HBEL.out.size)).drew)
   have HXR := Lib.hid (owns_of_block (w' := w6.drew) HX.out (fun k hk => HB6.out.block k (HX.out.lt k hk).2))
   have hsn := idx_snoc (bs.take i) b
   have hos := outB_snoc (bs.take i) b
   rw [← HTK.out] at hsn hos
   have HSN := Lib.hid hsn
   have HOS := Lib.hid hos
   rw [← HKE.out] at hsn
   clear hos hsn HX HBEL HB6 hbn hpl hb4
   go_wp2_with fail
   (with_reducible refine (HG1.out _).mono ?_)
   rintro e w8 ⟨rfl, hb8⟩
   have HB8 := Lib.hid hb8
   clear hb8
   go_wp2_with fail
   (with_reducible refine (HG2.out _).mono ?_)
   rintro e w9 ⟨rfl, hb9⟩
   have hb89 := HB8.out.trans (hb9.mono HB8.out.size)
   have HX9 := Lib.hid (HX6.out.trans (hb89.mono HX6.out.size))
   have HR9 := Lib.hid (owns_of_block (w' := w9) HXR.out (fun k hk => hb89.block k (HXR.out.lt k hk).2))
   obtain ⟨nx, hnx⟩ : ∃ nx, nx = grp (outB (bs.take i)).length ++ grp (frm b).length := ⟨_, rfl⟩
   have HNX := Lib.hid hnx
   have HPR : Hid (flatR [(lastK b, nx)] = [.string lk, .string (str nx)]) := Lib.hid (by
    show [Value.string (str (lastK b)), Value.string (str nx)] = _
    rw [← HKE.out, str_bl])
   rw [← hnx] at e3
   have hsz9 := HX9.out.size
   clear hb89 hb9 HG1 HG2 HB8 HX6 HXR hnx
   go_upto_region 11 with (at_builtin; refine wpList_append_own_at _ rfl _ _ 36 rfl w4.heap.size 40 i0 (.agg #[.string ⟨#[]⟩, .string ⟨#[]⟩]) 2 32 Tryz.underlying36 hi hz0 hz1 hz2 rfl (by decide) _ _ _ rfl (HR9.out.alloc _) ⟨w9.heap.size, 0, none⟩ 1 1 [.string lk, .string (str nx)] rfl rfl (cells2_new _ _ _ _) (two_one _ _) (by unfold maxLen; omega) (by omega) (Nat.le_trans hsz9 (by simp)) ?_; intro v10 w10 hown hgrow hx1 hx2; obtain ⟨ao10, cp10, hv10⟩ := own_form hown; subst hv10; have HOW := Lib.hid hown; have HGR := Lib.hid hgrow; clear hown hgrow hx1 hx2)
   have hxl2 : (idx (bs.take (i + 1))).length = i + 1 := by rw [idx_len, List.length_take]; omega
   have hb10 : Below w4.heap.size w4 w10 := (HX9.out.alloc hsz9 _).grown HGR.out (by simp; omega) (fun k hk => (HR9.out.lt k hk).1)
   have hfin : w10.ownsRow w4.heap.size 40 2 (.slice ao10 (i + 1) cp10) (idx (bs.take (i + 1))).length (flatR (idx (bs.take (i + 1)))) := by
    have h1 := HOW.out
    rw [hxl2, HSN.out, flatR_append, ← HNX.out, HPR.out]
    exact h1
   have HF := Lib.hid hfin
   have HB10 := Lib.hid hb10
   clear hfin hb10 hxl2 HOW HGR HR9 HX9
   go_wp2_with fail
   go_roundg (bs.length - (i + 1))
   case measure => omega
   case rel => exact ⟨i + 1, by omega, by go_num, by rw [HOS.out, ← e4], HF.out, HB10.out⟩
  ·have d9 : decide ((i : Int) < (bs.length : Int)) = false := by rw [decide_eq_false_iff_not]; omega
   have htk : bs.take i = bs := List.take_of_length_le (by omega)
   rw [htk] at HX hol
   have HTK := Lib.hid htk
   have hxb : i = bs.length := by omega
   subst hxb
   clear hxl
   rw [List.take_length] at ⊢
   rw [idx_len] at ⊢
   have HXA := Lib.hid HX.out
   have HBA := Lib.hid (HB4.out.trans (HBEL.out.mono HB4.out.size))
   have HRA := Lib.hid (Below.refl wr.heap.size wr)
   obtain ⟨j0, hj, jz0, jz1, jz2⟩ := info_parts info_strK
   clear htk HX HBEL hi hz0 hz1 hz2
   go_wp2_with fail
   have HWA : Hid (wr = wr) := Lib.hid rfl
   obtain ⟨wA, hwA⟩ : ∃ wA, wA = wr := ⟨_, rfl⟩
   rw [← hwA] at HXA HBA HRA ⊢
   clear hwA HWA hig d9
   go_loopg [7, 12] L.length (fun g kv iv w2 => ∃ j : Nat, j + g = L.length ∧ iv = .int .i64 j ∧ w2.ownsRow wA.heap.size 9 1 kv j (keyV ((L.take j).map fun p => frontK p.1)) ∧ Below wA.heap.size wA w2)
   case atStart => exact ⟨0, by omega, rfl, World.ownsRow_nil _ _ _ _, HRA.out⟩
   case round =>
    obtain ⟨j, hjg, rfl, hk, hbel⟩ := hrel
    obtain ⟨kao, kcp, hkv⟩ := own_form hk
    subst hkv
    have HK := Lib.hid hk
    have HBEL := Lib.hid hbel
    have HBW := Lib.hid (HBA.out.trans (hbel.mono HBA.out.size))
    clear hk hbel HRA
    by_cases hlt : j < L.length
    ·have d9 : decide ((j : Int) < (L.length : Int)) = true := by rw [decide_eq_true_eq]; omega
     have gj : (j : Int) < (L.length : Int) := by omega
     have wj : IntKind.i64.wrap ((j : Int) + 1) = (j : Int) + 1 := IntWalk.i64_in _ (by omega)
     obtain ⟨lb, off, rfl, hc⟩ := HC.out _ _ _ rfl j hlt
     have c1 := (hc wr HBW.out j hlt).1
     have htk := take_snocB hlt
     have hql := (HR.out.ok _ (List.getElem_mem hlt)).2.1
     obtain ⟨q, hq⟩ : ∃ q, q = L[j] := ⟨_, rfl⟩
     rw [← hq] at c1 htk hql
     have HF := Lib.hid (refFront_any (str q.1) wr (by rw [str_size]; omega))
     rw [bl_str] at HF
     have hfin : (L.take (j + 1)).map (fun p => frontK p.1) = (L.take j).map (fun p => frontK p.1) ++ [frontK q.1] := by rw [htk, List.map_append]; rfl
     have HFN := Lib.hid hfin
     clear hc htk hq hql hfin
     go_wp2_with fail
     (with_reducible refine HF.out.mono ?_)
     rintro e w6 ⟨rfl, rfl⟩
     have HPR : Hid (keyV [frontK q.1] = [.string (str (frontK q.1))]) := Lib.hid rfl
     go_wp2_with (at_builtin; refine wpList_append_own_at _ rfl _ _ 106 rfl wA.heap.size 9 j0 (.string ⟨#[]⟩) 1 16 Tryz.underlying106 hj jz0 jz1 jz2 rfl (by decide) _ _ _ rfl (HK.out.alloc _) ⟨wr.heap.size, 0, none⟩ 1 1 [.string (str (frontK q.1))] rfl rfl (cell_one_new _ _ _) (fun u hu => by rw [List.mem_singleton.1 hu]; rfl) (by unfold maxLen; omega) (by omega) (Nat.le_trans HBEL.out.size (by simp)) ?_; intro v10 w10 hown hgrow hx1 hx2; obtain ⟨ao10, cp10, hv10⟩ := own_form hown; subst hv10; have HOW := Lib.hid hown; have HGR := Lib.hid hgrow; clear hown hgrow hx1 hx2)
     have hsz := HBEL.out.size
     have HB10 := Lib.hid (show Below wA.heap.size wA w10 from (HBEL.out.alloc hsz _).grown HGR.out (by simp; omega) (fun k hk => (HK.out.lt k hk).1))
     go_roundg (L.length - (j + 1))
     case measure => omega
     case rel => exact ⟨j + 1, by omega, by go_num, by rw [HFN.out, keyV_append, HPR.out]; exact HOW.out, HB10.out⟩
    ·have d9 : decide ((j : Int) < (L.length : Int)) = false := by rw [decide_eq_false_iff_not]; omega
     have hjl : j = L.length := by omega
     subst hjl
     have hk := HK.out
     rw [List.take_length] at hk
     obtain ⟨fk, hfk⟩ : ∃ fk, fk = L.map fun p => frontK p.1 := ⟨_, rfl⟩
     rw [← hfk] at hk
     have hfl : fk.length = L.length := by rw [hfk]; simp
     have hst := strs_of_own (l := fk) (by rw [hfl]; exact hk) (by omega) (fun k hk => by
      rw [hfk] at hk
      obtain ⟨y, hy, rfl⟩ := List.mem_map.1 hk
      have h1 := (HR.out.ok y hy).2.1
      have h2 := front_le y.1
      omega)
     have hmk := refMake_any _ _ wr hst
     rw [bls_strR] at hmk
     have HMK := Lib.hid hmk
     have hml := make_len fk (by omega)
     have HF1 := Lib.hid (fun W => refFrame_any (str (BloomP.make fk)) W (by rw [str_size]; omega))
     rw [bl_str] at HF1
     have htf : tabF (L.map fun p => p.1) = frame (BloomP.make fk) := by
      unfold tabF
      rw [List.map_map, hfk]
      rfl
     rw [← htf] at HF1
     have htl := tabF_len (L.map fun p => p.1) (by simpa using hn)
     have hxrow := owns_of_block (w' := wr) HXA.out (fun k hk => HBEL.out.block k (HXA.out.lt k hk).2)
     have hxr : wr.ownsRow w4.heap.size 40 2 (.slice xao bs.length xcp) (idx bs).length (flatR (idx bs)) := by
      rw [idx_len]
      exact hxrow
     have hpi := PrsIn.own hxr HBI.out.ix.ok
     have HBY := Lib.hid (fun W (hW : Below wr.heap.size wr W) => refBytes_any _ (idx bs) W (hpi.below hW) HBI.out.ix.ok HBI.out.ix.le)
     have his := idx_small HBI.out.ix (by omega)
     have HF2 := Lib.hid (fun W => refFrame_any (str (blk (idx bs))) W (by rw [str_size]; omega))
     rw [bl_str, show frame (blk (idx bs)) = frm (idx bs) from rfl] at HF2
     have hil := frm_len (idx bs)
     have hil2 : (frm (idx bs)).length ≤ 27012 := by omega
     have HFX := Lib.hid (fun (n : Nat) (hn : n < 18446744073709551616) (W : World) => show Calls Tryz.prog 63 #[.int .u64 n, .int .i64 8] W fun e w' => e = .returned (.string (str (fixed 8 n))) ∧ Below W.heap.size W w' from refFixed_any n 8 W (by omega) hn)
     have HF3 := Lib.hid (fun (a b c : Nat) W => refFrame_any (str (fixed 8 a ++ fixed 8 b ++ fixed 8 c)) W (by rw [str_size]; simp [fixed_length]))
     have HTF := Lib.hid htf
     clear hk hfk hst hmk hml htf hxrow hxr hpi his hil HXA hjg
     obtain ⟨S0, hS0⟩ : ∃ S0, S0 = outB bs := ⟨_, rfl⟩
     obtain ⟨F0, hF0⟩ : ∃ F0, F0 = tabF (L.map fun p => p.1) := ⟨_, rfl⟩
     obtain ⟨X0, hX0⟩ : ∃ X0, X0 = frm (idx bs) := ⟨_, rfl⟩
     rw [← hS0] at hol
     rw [← hF0] at HF1 htl
     rw [← hX0] at HF2 hil2
     have HS0 := Lib.hid hS0
     have HF0 := Lib.hid hF0
     have HX0 := Lib.hid hX0
     have sz0 : (str (outB bs)).size = S0.length := by rw [hS0, str_size]
     have e1 := str_append S0 F0
     have e2 := str_append (S0 ++ F0) X0
     have z1 := str_size F0
     have z2 := str_size X0
     have z3 : (str (S0 ++ F0)).size = S0.length + F0.length := by rw [str_size, List.length_append]
     have z4 : (str (S0 ++ F0 ++ X0)).size = S0.length + F0.length + X0.length := by rw [str_size, List.length_append, List.length_append]
     have zz : (str S0).size = S0.length := str_size _
     rw [← hS0] at sz0 ⊢
     clear hF0 hX0 hS0 sz0 hol
     have hs7 : S0.length ≤ 7000000 := by
      have h1 := outB_len HBI.out.small
      have h2 := HBI.out.few
      rw [HS0.out]
      omega
     have u1 : IntKind.u64.wrap (S0.length : Int) = (S0.length : Int) := IntWalk.u64_in _ (by omega)
     have u2 : IntKind.u64.wrap ((S0.length + F0.length : Nat) : Int) = ((S0.length + F0.length : Nat) : Int) := IntWalk.u64_in _ (by omega)
     have u2' : IntKind.u64.wrap ((S0.length : Int) + (F0.length : Int)) = ((S0.length + F0.length : Nat) : Int) := by rw [IntWalk.u64_in _ (by omega)]; omega
     have u3 : IntKind.u64.wrap (L.length : Int) = (L.length : Int) := IntWalk.u64_in _ (by omega)
     have hc1 : ¬ 9223372036854775807 < (str S0).size + (str F0).size := by omega
     have hc2 : ¬ 9223372036854775807 < (str (S0 ++ F0)).size + (str X0).size := by omega
     go_wp2_with fail
     (with_reducible refine HMK.out.mono ?_)
     rintro e w6 ⟨rfl, hb6⟩
     have HB6 := Lib.hid hb6
     clear hb6 HMK
     go_wp2_with fail
     (with_reducible refine (HF1.out _).mono ?_)
     rintro e w7 ⟨rfl, hb7⟩
     have HB7 := Lib.hid (HB6.out.trans (hb7.mono HB6.out.size))
     clear hb7 HF1 HB6
     go_wp2_with fail
     (with_reducible refine (HBY.out _ HB7.out).mono ?_)
     rintro e w8 ⟨rfl, hb8⟩
     have HB8 := Lib.hid (HB7.out.trans (hb8.mono HB7.out.size))
     clear hb8 HBY HB7
     go_wp2_with fail
     (with_reducible refine (HF2.out _).mono ?_)
     rintro e w9 ⟨rfl, hb9⟩
     have HB9 := Lib.hid (HB8.out.trans (hb9.mono HB8.out.size))
     clear hb9 HF2 HB8
     have v0 := str_append (fixed 8 S0.length) (fixed 8 (S0.length + F0.length))
     have v1 := str_append (fixed 8 S0.length ++ fixed 8 (S0.length + F0.length)) (fixed 8 L.length)
     have y0 : (str (fixed 8 S0.length)).size = 8 := by rw [str_size, fixed_length]
     have y1 : (str (fixed 8 (S0.length + F0.length))).size = 8 := by rw [str_size, fixed_length]
     have y2 : (str (fixed 8 L.length)).size = 8 := by rw [str_size, fixed_length]
     have y3 : (str (fixed 8 S0.length ++ fixed 8 (S0.length + F0.length))).size = 16 := by rw [str_size, List.length_append, fixed_length, fixed_length]
     have hc3 : ¬ 9223372036854775807 < (str (fixed 8 S0.length)).size + (str (fixed 8 (S0.length + F0.length))).size := by omega
     have hc4 : ¬ 9223372036854775807 < (str (fixed 8 S0.length ++ fixed 8 (S0.length + F0.length))).size + (str (fixed 8 L.length)).size := by omega
     have H10 := Lib.hid (HFX.out S0.length (by omega) w9)
     have h11 := fun W => HFX.out (S0.length + F0.length) (by omega) W
     simp only [Int.natCast_add] at h11
     have H11 := Lib.hid h11
     have u4 : IntKind.u64.wrap ((S0.length : Int) + (F0.length : Int)) = (S0.length : Int) + (F0.length : Int) := IntWalk.u64_in _ (by omega)
     clear h11 u2 u2'
     have H12 := Lib.hid (fun W => HFX.out L.length (by omega) W)
     obtain ⟨E0, hE0⟩ : ∃ E0, E0 = frame (fixed 8 S0.length ++ fixed 8 (S0.length + F0.length) ++ fixed 8 L.length) := ⟨_, rfl⟩
     have hE1 : E0.length = 36 := by
      rw [hE0, frame_length]
      simp only [List.length_append, fixed_length]
     have h13 := fun W => HF3.out S0.length (S0.length + F0.length) L.length W
     rw [bl_str, ← hE0, List.append_assoc] at h13
     have H13 := Lib.hid h13
     clear h13
     have HE0 := Lib.hid hE0
     have y4 : (str E0).size = 36 := by rw [str_size]; exact hE1
     have y5 : (str (S0 ++ (F0 ++ X0))).size = S0.length + F0.length + X0.length := by rw [str_size, List.length_append, List.length_append]; omega
     have hc5 : ¬ 9223372036854775807 < (str (S0 ++ (F0 ++ X0))).size + (str E0).size := by omega
     have v2 := str_append (S0 ++ (F0 ++ X0)) E0
     have HFN : Hid (S0 ++ (F0 ++ (X0 ++ E0)) = tabS bs (L.map fun p => p.1)) := Lib.hid (by
      unfold tabS tabE
      rw [HE0.out, ← HS0.out, ← HF0.out, ← HX0.out, List.length_map]
      simp only [List.append_assoc])
     clear hE0 hE1 HFX HF3 hcl hcm
     go_wp2_with fail
     (with_reducible refine H10.out.mono ?_)
     rintro e w10 ⟨rfl, hb10⟩
     have HB10 := Lib.hid (HB9.out.trans (hb10.mono HB9.out.size))
     clear hb10 H10 HB9
     go_wp2_with fail
     (with_reducible refine (H11.out _).mono ?_)
     rintro e w11 ⟨rfl, hb11⟩
     have HB11 := Lib.hid (HB10.out.trans (hb11.mono HB10.out.size))
     clear hb11 H11 HB10
     go_wp2_with fail
     (with_reducible refine (H12.out _).mono ?_)
     rintro e w12 ⟨rfl, hb12⟩
     have HB12 := Lib.hid (HB11.out.trans (hb12.mono HB11.out.size))
     clear hb12 H12 HB11
     go_wp2_with fail
     (with_reducible refine (H13.out _).mono ?_)
     rintro e w13 ⟨rfl, hb13⟩
     have HB13 := Lib.hid (HBW.out.trans ((HB12.out.trans (hb13.mono HB12.out.size)).mono HBW.out.size))
     clear hb13 H13 HB12
     go_wp2_with fail
     go_ret
     exact ⟨congrArg (fun z => Ending.returned (.string (str z))) HFN.out, HB13.out⟩
end Go.Proofs.YtdbfaknpfepnfaaGreatDoor


namespace Go.Proofs.YtdbfaknpfepnfaaGreatDoor
open Go.RowKit CodecP CrcP FrameP

def frmd (l : List UInt8) (a b : Int) : List UInt8 × Bool :=
 if a < 0 ∨ b < a ∨ (l.length : Int) < b then ([], false)
 else ((opn ((l.drop a.toNat).take (b - a).toNat)).1, decide ((opn ((l.drop a.toNat).take (b - a).toNat)).2.2 = 0 ∧ (opn ((l.drop a.toNat).take (b - a).toNat)).2.1 = (b - a).toNat))
theorem opn_le (l : List UInt8) : (opn l).1.length ≤ 131072 ∧ (opn l).2.1 ≤ l.length ∧ (opn l).2.2 ≤ 2 := by
 unfold opn
 repeat' split
 all_goals simp
 omega
theorem frmd_le (l : List UInt8) (a b : Int) : (frmd l a b).1.length ≤ 131072 := by
 unfold frmd
 split
 ·simp
 ·exact (opn_le _).1
theorem framed_any (s : ByteArray) (a b : Int) (w : World) (hs : s.size ≤ 1099511627776) (hn : Nibs w) :
  Calls Tryz.prog 85 #[.string s, .int .i64 a, .int .i64 b] w fun e w' => e = .returned (.tuple #[.string (str (frmd (bl s) a b).1), .bool (frmd (bl s) a b).2]) ∧ Below w.heap.size w w' := by
 unfold frmd
 rw [bl_len]
 have HR := Lib.hid (Below.refl w.heap.size w)
 by_cases h1 : a < 0
 ·rw [if_pos (.inl h1)]
  have d1 : decide (a < 0) = true := decide_eq_true h1
  go_enter Tryz.func85, Tryz.ntmps85
  go_wp2_with fail
  go_ret2
  exact ⟨rfl, HR.out⟩
 have d1 : decide (a < 0) = false := decide_eq_false h1
 by_cases h2 : b < a
 ·rw [if_pos (.inr (.inl h2))]
  have d2 : decide (b < a) = true := decide_eq_true h2
  go_enter Tryz.func85, Tryz.ntmps85
  go_wp2_with fail
  go_ret2
  exact ⟨rfl, HR.out⟩
 have d2 : decide (b < a) = false := decide_eq_false h2
 by_cases h3 : (s.size : Int) < b
 ·rw [if_pos (.inr (.inr h3))]
  have d3 : decide ((s.size : Int) < b) = true := decide_eq_true h3
  go_enter Tryz.func85, Tryz.ntmps85
  go_wp2_with fail
  go_ret2
  exact ⟨rfl, HR.out⟩
 rw [if_neg (by omega)]
 obtain ⟨n, rfl⟩ := Int.eq_ofNat_of_zero_le (show 0 ≤ a by omega)
 obtain ⟨m, rfl⟩ := Int.eq_ofNat_of_zero_le (show 0 ≤ b by omega)
 have d3 : decide ((s.size : Int) < (m : Int)) = false := decide_eq_false h3
 obtain ⟨x, hx⟩ : ∃ x, s.extract n m = x := ⟨_, rfl⟩
 have hbx : bl x = ((bl s).drop n).take (m - n) := by rw [← hx, ext_bl]
 have hxs : x.size = m - n := by rw [← hx, ByteArray.size_extract]; omega
 have e1 : ((m : Int) - (n : Int)).toNat = m - n := by omega
 have e2 : (n : Int).toNat = n := rfl
 rw [e1, e2, ← hbx]
 have HO := Lib.hid fun W (hW : Nibs W) => crcOpen_any x W (by omega) hW
 have hle := opn_le (bl x)
 unfold opnV at HO
 generalize opn (bl x) = r at *
 obtain ⟨d, k, c⟩ := r
 simp only at HO hle ⊢
 have qn : n ≤ m := by omega
 have qm : m ≤ s.size := by omega
 have qi : (0 : Int) ≤ n ∧ (n : Int) ≤ m ∧ (m : Int) ≤ s.size := ⟨by omega, by omega, by omega⟩
 have qw : IntKind.i64.wrap ((m : Int) - (n : Int)) = ((m - n : Nat) : Int) := by rw [show (m : Int) - (n : Int) = ((m - n : Nat) : Int) by omega]; exact IntWalk.i64_in _ (by omega)
 have HX := Lib.hid hx
 have HN := Lib.hid hn
 clear hn hbx e1 e2 hle
 have d4 : (decide (c = 0 ∧ k = m - n)) = (if ((c : Int) == 0) = true then ((k : Int) == ((m - n : Nat) : Int)) else false) := by
  by_cases hc : c = 0
  ·subst hc
   simp only [Int.natCast_zero, beq_self_eq_true, if_true, true_and]
   rw [Bool.eq_iff_iff, decide_eq_true_eq, beq_iff_eq]; omega
  ·rw [if_neg (by simp; exact hc)]
   simp [hc]
 rw [d4]
 clear d4
 go_enter Tryz.func85, Tryz.ntmps85
 have hxx := HX.out
 go_wp2_with fail
 (with_reducible refine (HO.out _ HN.out).mono ?_)
 rintro e w1 ⟨rfl, hb⟩
 have HB := Lib.hid hb
 clear hb
 cases hc : ((c : Int) == 0)
 ·go_wp2_with fail
  go_ret2
  exact ⟨rfl, HB.out⟩
 ·go_wp2_with fail
  go_ret2
  exact ⟨rfl, HB.out⟩
end Go.Proofs.YtdbfaknpfepnfaaGreatDoor


namespace Go.Proofs.YtdbfaknpfepnfaaGreatDoor
open Go.RowKit CodecP CrcP FrameP

theorem fixed8_o (p : Nat) (o : Option (List UInt8)) (w : World) (h : RO w p o) :
  Calls Tryz.prog 65 #[(Value.pointer (some ⟨p, 0, none⟩))] w fun e w' => e = .returned (.int .u64 (value (rawS 8 o).1 : Nat)) ∧ RO w' p (rawS 8 o).2 ∧ Fr (RdS p) w w' := by
 obtain ⟨s, bad, h1, rfl⟩ := h
 refine (rdFixed8_any p s bad w h1).mono ?_
 rintro e w' ⟨rfl, h2, h3⟩
 obtain ⟨e1, e2⟩ := rawOut_st s bad 8
 exact ⟨by rw [e1]; simp [str], ⟨_, _, h2, e2⟩, h3⟩
def endsF (l : List UInt8) : Option (Nat × Nat × Nat) :=
 let d := frmd l ((l.length : Int) - 36) l.length
 let a := rawS 8 (some d.1)
 let b := rawS 8 a.2
 let c := rawS 8 b.2
 if d.2 = true ∧ c.2 = some [] ∧ value a.1 ≤ l.length ∧ value b.1 ≤ l.length ∧ value c.1 ≤ l.length then some (value a.1, value b.1, value c.1) else none
def endsV : Option (Nat × Nat × Nat) → Value
 | none => .tuple #[.int .i64 0, .int .i64 0, .int .i64 0, .bool false]
 | some r => .tuple #[.int .i64 r.1, .int .i64 r.2.1, .int .i64 r.2.2, .bool true]
theorem ends_any (s : ByteArray) (w : World) (hs : s.size ≤ 1099511627776) (hn : Nibs w) :
  Calls Tryz.prog 84 #[.string s] w fun e w' => e = .returned (endsV (endsF (bl s))) ∧ Below w.heap.size w w' := by
 have HF := Lib.hid (framed_any s ((s.size : Int) - 36) s.size w hs hn)
 have hd := frmd_le (bl s) ((s.size : Int) - 36) s.size
 unfold endsF
 rw [bl_len]
 have HRD := Lib.hid read_o
 have HF8 := Lib.hid fixed8_o
 have HEN := Lib.hid end_o
 have w36 : IntKind.i64.wrap ((s.size : Int) - 36) = (s.size : Int) - 36 := IntWalk.i64_in _ (by omega)
 have wsz : IntKind.u64.wrap (s.size : Int) = (s.size : Int) := IntWalk.u64_in _ (by omega)
 simp only []
 generalize frmd (bl s) ((s.size : Int) - 36) s.size = d at *
 obtain ⟨d, wh⟩ := d
 simp only at *
 have hds : (str d).size ≤ maxLen := by
  have : (str d).size = d.length := by rw [← bl_len, bl_str]
  unfold maxLen; omega
 have ebd : bl (str d) = d := bl_str d
 obtain ⟨a, ha⟩ : ∃ a, rawS 8 (some d) = a := ⟨_, rfl⟩
 obtain ⟨b, hb⟩ : ∃ b, rawS 8 a.2 = b := ⟨_, rfl⟩
 obtain ⟨c, hc⟩ : ∃ c, rawS 8 b.2 = c := ⟨_, rfl⟩
 rw [ha, hb, hc]
 have HA := Lib.hid ha
 have HB := Lib.hid hb
 have HC := Lib.hid hc
 clear ha hb hc
 obtain ⟨x, hx⟩ : ∃ x, value a.1 = x := ⟨_, rfl⟩
 obtain ⟨y, hy⟩ : ∃ y, value b.1 = y := ⟨_, rfl⟩
 obtain ⟨z, hz⟩ : ∃ z, value c.1 = z := ⟨_, rfl⟩
 rw [hx, hy, hz]
 obtain ⟨en, hen⟩ : ∃ en, decide (c.2 = some []) = en := ⟨_, rfl⟩
 obtain ⟨g1, hg1⟩ : ∃ g1, decide ((s.size : Int) < (x : Int)) = g1 := ⟨_, rfl⟩
 obtain ⟨g2, hg2⟩ : ∃ g2, decide ((s.size : Int) < (y : Int)) = g2 := ⟨_, rfl⟩
 obtain ⟨g3, hg3⟩ : ∃ g3, decide ((s.size : Int) < (z : Int)) = g3 := ⟨_, rfl⟩
 have k1 : decide (s.size < x) = g1 := by rw [← hg1, decide_eq_decide]; omega
 have k2 : decide (s.size < y) = g2 := by rw [← hg2, decide_eq_decide]; omega
 have k3 : decide (s.size < z) = g3 := by rw [← hg3, decide_eq_decide]; omega
 have hcond : (if wh = true ∧ c.2 = some [] ∧ x ≤ s.size ∧ y ≤ s.size ∧ z ≤ s.size then some (x, y, z) else none) = if (wh && en && !g1 && !g2 && !g3) = true then some (x, y, z) else none := by
  refine if_cong ?_ rfl rfl
  rw [← hen, ← k1, ← k2, ← k3]
  simp [and_assoc]
 rw [hcond]
 have wx : g1 = false → IntKind.i64.wrap (x : Int) = (x : Int) := fun h => IntWalk.i64_in _ (by rw [h, decide_eq_false_iff_not] at k1; omega)
 have wy : g2 = false → IntKind.i64.wrap (y : Int) = (y : Int) := fun h => IntWalk.i64_in _ (by rw [h, decide_eq_false_iff_not] at k2; omega)
 have wz : g3 = false → IntKind.i64.wrap (z : Int) = (z : Int) := fun h => IntWalk.i64_in _ (by rw [h, decide_eq_false_iff_not] at k3; omega)
 have HWX := Lib.hid wx
 have HWY := Lib.hid wy
 have HWZ := Lib.hid wz
 have HX := Lib.hid hx
 have HY := Lib.hid hy
 have HZ := Lib.hid hz
 have HE := Lib.hid hen
 have HDS := Lib.hid hds
 clear hcond wx wy wz hx hy hz hen hds hd hn
 go_enter Tryz.func84, Tryz.ntmps84
 go_wp2_with fail
 (with_reducible refine HF.out.mono ?_)
 rintro e w1 ⟨rfl, hb1⟩
 have HB1 := Lib.hid hb1
 clear hb1
 go_wp2_with fail
 (with_reducible refine (HRD.out _ _ HDS.out).mono ?_)
 rw [ebd]
 rintro e w2 ⟨rfl, hr2, hb2⟩
 have HR2 := Lib.hid hr2
 have HB2 := Lib.hid hb2
 have hle := HB1.out.size
 have HLE := Lib.hid hle
 clear hr2 hb2 hle
 generalize hp : w1.heap.size = p at *
 have HP := Lib.hid hp
 clear hp
 go_wp2_with fail
 (with_reducible refine (HF8.out p _ _ HR2.out).mono ?_)
 rw [HA.out, HX.out]
 rintro e w3 ⟨rfl, hr3, hf3⟩
 have HR3 := Lib.hid hr3
 have HF3 := Lib.hid hf3
 clear hr3 hf3
 go_wp2_with fail
 (with_reducible refine (HF8.out p _ _ HR3.out).mono ?_)
 rw [HB.out, HY.out]
 rintro e w4 ⟨rfl, hr4, hf4⟩
 have HR4 := Lib.hid hr4
 have HF4 := Lib.hid hf4
 clear hr4 hf4
 go_wp2_with fail
 (with_reducible refine (HF8.out p _ _ HR4.out).mono ?_)
 rw [HC.out, HZ.out]
 rintro e w5 ⟨rfl, hr5, hf5⟩
 have HR5 := Lib.hid hr5
 have hbel : Below w.heap.size w w5 := by
  have l2 := HR2.out.lt
  have h2 : Below w1.heap.size w1 w2 := by rw [HP.out]; exact HB2.out
  have hf : Below w.heap.size w2 w5 := ((HF3.out.trans HF4.out (fun _ _ h => h)).trans hf5 (fun _ _ h => h)).below (by have := HB1.out.size; have := h2.size; omega) (fun k _ hk => by have e : k = p := hk; have h9 := HB1.out.size; rw [e, ← HP.out]; omega)
  exact (HB1.out.trans (h2.mono HB1.out.size)).trans hf
 have HBEL := Lib.hid hbel
 clear hr5 hf5 hbel
 cases wh
 ·go_wp2_with fail
  exact bodyPost_ret (v := .tuple #[.int .i64 0, .int .i64 0, .int .i64 0, .bool false]) (by simp [results, Tryz.results84, go_sem]) rfl ⟨rfl, HBEL.out⟩
 go_wp2_with fail
 (with_reducible refine (HEN.out p _ _ HR5.out).mono ?_)
 rw [HE.out]
 rintro e w6 ⟨rfl, rfl⟩
 cases en
 ·go_wp2_with fail
  exact bodyPost_ret (v := .tuple #[.int .i64 0, .int .i64 0, .int .i64 0, .bool false]) (by simp [results, Tryz.results84, go_sem]) rfl ⟨rfl, HBEL.out⟩
 cases g1
 case true =>
  go_wp2_with fail
  exact bodyPost_ret (v := .tuple #[.int .i64 0, .int .i64 0, .int .i64 0, .bool false]) (by simp [results, Tryz.results84, go_sem]) rfl ⟨rfl, HBEL.out⟩
 have wx := HWX.out rfl
 cases g2
 case true =>
  go_wp2_with fail
  exact bodyPost_ret (v := .tuple #[.int .i64 0, .int .i64 0, .int .i64 0, .bool false]) (by simp [results, Tryz.results84, go_sem]) rfl ⟨rfl, HBEL.out⟩
 have wy := HWY.out rfl
 cases g3
 case true =>
  go_wp2_with fail
  exact bodyPost_ret (v := .tuple #[.int .i64 0, .int .i64 0, .int .i64 0, .bool false]) (by simp [results, Tryz.results84, go_sem]) rfl ⟨rfl, HBEL.out⟩
 have wz := HWZ.out rfl
 go_wp2_with fail
 exact bodyPost_ret (v := .tuple #[.int .i64 x, .int .i64 y, .int .i64 z, .bool true]) (by simp [results, Tryz.results84, go_sem]) rfl ⟨rfl, HBEL.out⟩
end Go.Proofs.YtdbfaknpfepnfaaGreatDoor


namespace Go.Proofs.YtdbfaknpfepnfaaGreatDoor
open Go.RowKit CodecP CrcP FrameP

abbrev Wh := Nat × Nat × List UInt8
def plcS (upto : Nat) (o : Option (Nat × List Wh)) (p : Pr) : Option (Nat × List Wh) :=
 match o with
 | none => none
 | some x => if (sz (sz (some p.2)).2).2 = some [] ∧ (sz (some p.2)).1 = x.1 ∧ 12 ≤ (sz (sz (some p.2)).2).1 ∧ (sz (sz (some p.2)).2).1 ≤ upto - x.1 then some (x.1 + (sz (sz (some p.2)).2).1, x.2 ++ [(x.1, (sz (sz (some p.2)).2).1, p.1)]) else none
def plcs (upto : Nat) (ps : List Pr) : Option (Nat × List Wh) := ps.foldl (plcS upto) (some (0, []))
def placesF (ps : List Pr) (upto : Nat) : Option (List Wh) :=
 match plcs upto ps with
 | none => none
 | some x => if x.1 = upto then some x.2 else none
theorem plcs_snoc (upto : Nat) (ps : List Pr) (p : Pr) : plcs upto (ps ++ [p]) = plcS upto (plcs upto ps) p := by
 unfold plcs; rw [List.foldl_append]; rfl
theorem plcS_none (upto : Nat) (ps : List Pr) : ps.foldl (plcS upto) none = none := by
 induction ps with
 | nil => rfl
 | cons p r ih => exact ih
theorem plcs_none {upto : Nat} {ps : List Pr} {i : Nat} (h : plcs upto (ps.take i) = none) : plcs upto ps = none := by
 rw [← List.take_append_drop i ps]
 unfold plcs at *
 rw [List.foldl_append, h, plcS_none]
theorem placesF_none {upto : Nat} {ps : List Pr} {i : Nat} (h : plcs upto (ps.take i) = none) : placesF ps upto = none := by
 unfold placesF; rw [plcs_none h]
def flatW (l : List Wh) : List Value := l.flatMap fun x => [Value.int .i64 x.1, Value.int .i64 x.2.1, Value.string (str x.2.2)]
theorem flatW_append (a b : List Wh) : flatW (a ++ b) = flatW a ++ flatW b := by simp [flatW]
theorem flatW_get (l : List Wh) (i : Nat) (h : i < l.length) : (flatW l)[i * 3]? = some (.int .i64 l[i].1) ∧ (flatW l)[i * 3 + 1]? = some (.int .i64 l[i].2.1) ∧ (flatW l)[i * 3 + 2]? = some (.string (str l[i].2.2)) := by
 induction l generalizing i with
 | nil => exact absurd h (Nat.not_lt_zero _)
 | cons p r ih =>
  rw [show flatW (p :: r) = [Value.int .i64 p.1, Value.int .i64 p.2.1, Value.string (str p.2.2)] ++ flatW r from rfl]
  cases i with
  | zero => exact ⟨rfl, rfl, rfl⟩
  | succ j =>
   have hj : j < r.length := by simpa using h
   obtain ⟨h1, h2, h3⟩ := ih j hj
   rw [show (j + 1) * 3 = j * 3 + 3 by omega]
   exact ⟨h1, h2, h3⟩
theorem cells3_new (w : World) (x y z : Value) (t : TypeId) : ∀ j u, [x, y, z][j]? = some u → (w.alloc (.cells #[x, y, z] t)).cell? ((⟨w.heap.size, 0, none⟩ : Addr).add j) = some u := by
 intro j u hj
 match j, hj with
 | 0, hj => simp at hj; subst hj; simp [Addr.add]
 | 1, hj => simp at hj; subst hj; simp [Addr.add]
 | 2, hj => simp at hj; subst hj; simp [Addr.add]
end Go.Proofs.YtdbfaknpfepnfaaGreatDoor


