
/-
  The walk of a merge's step, where there is one source.
-/
import Derived.Test.YtdbfaknpfepnfaaGreatDoorCurStartW
namespace Go.Proofs.YtdbfaknpfepnfaaGreatDoor
open Go.RowKit CodecP Cur

theorem down_small (B p : Nat) (S : Nat → Prop) (m : MSt) (w : World) (h : Mg B w p S m) (hl : m.hp.length ≤ 1) :
    Calls Tryz.prog 146 #[(Value.pointer (some ⟨p, 0, none⟩)), .int .i64 0] w fun e w' => e = .returned (.tuple #[]) ∧ w = w' := by
  obtain ⟨lv, hv, kv, h1, h2, h3, h4, h5⟩ := h.ex
  obtain ⟨ao, cp, hv'⟩ := own_form h3
  subst hv'
  have c1 := cellOf2 (o := 1) h1 rfl
  have d1 : decide ((m.hp.length : Int) ≤ 1) = true := by rw [decide_eq_true_eq]; omega
  clear h h1 h2 h3 h4 h5
  go_enter Tryz.func146, Tryz.ntmps146
  go_wp2_with fail
  go_loopw [1] (fun i wr => i = .int .i64 0 ∧ wr = w) (fun _ _ => 0)
  case atStart => exact ⟨rfl, rfl⟩
  case round =>
    obtain ⟨rfl, rfl⟩ := hrel
    go_wp2_with fail
    exact bodyPost_ret (v := .tuple #[]) (by simp [results, Tryz.results146, go_sem]) rfl ⟨rfl, rfl⟩
set_option maxRecDepth 100000 in
set_option maxHeartbeats 4000000 in
theorem step_one (B p k : Nat) (S : Nat → Prop) (s : Src) (x : List UInt8) (w : World) (h : Mg B w p S ⟨[{ s with at_ := k }], [0], [x]⟩) (hk : k ≤ 1000000) :
    Calls Tryz.prog 99 #[(Value.pointer (some ⟨p, 0, none⟩))] w fun e w' => e = .returned (.tuple #[]) ∧ Fr S w w' ∧ Mg B w' p S (one s (k + 1) [x]) := by
  obtain ⟨lv, hv, kv, h1, h2, h3, h4, h5⟩ := h.ex
  dsimp only at h1 h2 h3 h4 h5
  obtain ⟨lb, lc, hlv, -, hlb, hlc, hlm, -⟩ := own_pos h2 (by simp)
  obtain ⟨hb, hc, hhv, -, hhb, hhc, hhm, hcell⟩ := own_pos h3 (by simp)
  subst hlv hhv
  have c0 := cellOf2 (o := 0) h1 rfl
  have c1 := cellOf2 (o := 1) h1 rfl
  have x0 := hcell 0 (.int .i64 0) rfl
  unfold maxLen at hlm hhm
  dsimp only [List.length_singleton] at c0 c1 hlc hhc
  have ha4 := at4_of h2 rfl 0 (by simp)
  have HNX := Lib.hid (srcNext_any lb 0 { s with at_ := k } w ha4 hk)
  obtain ⟨hm2, hf2⟩ := h.goto h1 h2 h3 h4 h5 rfl 0 (k + 1) (by simp)
  have hm2' : Mg B (w.setCell ⟨lb, 3, none⟩ (.int .i64 (k + 1 : Nat))) p S ⟨[{ s with at_ := k + 1 }], [0], [x]⟩ := hm2
  have hf2' : Fr S w (w.setCell ⟨lb, 3, none⟩ (.int .i64 (k + 1 : Nat))) := hf2
  have HM2 := Lib.hid hm2'
  have HF2 := Lib.hid hf2'
  dsimp only [Nat.zero_add] at HNX
  clear h h1 h2 h3 h4 h5 hm2 hf2 hm2' hf2' hcell ha4
  go_enter Tryz.func99, Tryz.ntmps99
  go_wp2_with fail
  (with_reducible refine HNX.out.mono ?_)
  rintro e w2 ⟨rfl, hw2⟩
  have HM : Hid (Mg B w2 p S ⟨[{ s with at_ := k + 1 }], [0], [x]⟩) := Lib.hid (hw2 ▸ HM2.out)
  have HF : Hid (Fr S w w2) := Lib.hid (hw2 ▸ HF2.out)
  have HLK := Lib.hid (look_any B p 0 S _ w2 HM.out (by simp))
  dsimp only [List.getElem_cons_zero] at HLK
  rw [show ((0 : Nat) : Int) = 0 from rfl] at HLK
  clear hw2 HM2 HF2 c0 c1 x0
  go_wp2_with fail
  (with_reducible refine HLK.out.mono ?_)
  rintro e w3 ⟨hf3, ⟨hl, rfl, hm3⟩ | ⟨hl, rfl, hm3⟩⟩
  · have hone : one s (k + 1) [x] = ⟨[{ s with at_ := k + 1 }], [0], [s.l[k + 1].1]⟩ := by unfold one; rw [dif_pos hl]
    have hm3' : Mg B w3 p S ⟨[{ s with at_ := k + 1 }], [0], [s.l[k + 1].1]⟩ := hm3
    have HDN := Lib.hid (down_small B p S _ w3 hm3' (by simp))
    have HM3 := Lib.hid hm3'
    have HF3 := Lib.hid (HF.out.trans hf3 (fun _ _ h => h))
    have HON := Lib.hid hone
    clear hf3 hm3 hm3' hone
    go_wp2_with fail
    (with_reducible refine HDN.out.mono ?_)
    rintro e w4 ⟨rfl, rfl⟩
    go_wp2_with fail
    go_end0
    exact ⟨rfl, HF3.out, by rw [HON.out]; exact HM3.out⟩
  · have hone : one s (k + 1) [x] = ⟨[{ s with at_ := k + 1 }], [], [x]⟩ := by unfold one; rw [dif_neg hl]
    obtain ⟨lv, hv, kv, h1, h2, h3, h4, h5⟩ := hm3.ex
    dsimp only at h1 h2 h3 h4 h5
    obtain ⟨hb, hc, hhv, -, hhb, hhc, hhm, hcell⟩ := own_pos h3 (by simp)
    subst hhv
    dsimp only [List.length_singleton] at hhc
    unfold maxLen at hhm
    have c1 : w3.cell? ⟨p, 1, none⟩ = some (.slice (some ⟨hb, 0, none⟩) 1 hc) := cellOf2 (o := 1) h1 rfl
    have x0 := hcell 0 (.int .i64 0) rfl
    have g0 := h3.frozenAt 0
    have hdr : Below w3.heap.size w3 w3.drew := (Below.refl _ _).drew
    have hm4 := hm3.below hdr
    obtain ⟨hma, hfa⟩ := hm4.hset h1 h2 h3 h4 h5 rfl 0 0 (by simp)
    have hma' : Mg B (w3.drew.setCell ⟨hb, 0, none⟩ (.int .i64 0)) p S ⟨[{ s with at_ := k + 1 }], [0], [x]⟩ := hma
    have h1a : (w3.drew.setCell ⟨hb, 0, none⟩ (.int .i64 0)).heap[p]? = some (.cells #[lv, .slice (some ⟨hb, 0, none⟩) 1 hc, kv, .int .i64 0] 109 (0, 0)) := by
      obtain ⟨cs, hcs⟩ := own_type h3 (g := hb) rfl
      exact (((Fr.refl (fun k => k = hb) w3.drew).setCell (p := ⟨hb, 0, none⟩) (.inl rfl) (.int .i64 0)).block p (lt_of_block h1) (type_ne h1 hcs (by decide))).trans h1
    have hcut : Mg B ((w3.drew.setCell ⟨hb, 0, none⟩ (.int .i64 0)).setCell ⟨p, 1, none⟩ (.slice (some ⟨hb, 0, none⟩) 0 hc)) p S ⟨[{ s with at_ := k + 1 }], [], [x]⟩ ∧ Fr S (w3.drew.setCell ⟨hb, 0, none⟩ (.int .i64 0)) ((w3.drew.setCell ⟨hb, 0, none⟩ (.int .i64 0)).setCell ⟨p, 1, none⟩ (.slice (some ⟨hb, 0, none⟩) 0 hc)) := by
      obtain ⟨lv2, hv2, kv2, e1, e2, e3, e4, e5⟩ := hma'.ex
      dsimp only at e1 e2 e3 e4 e5
      rw [h1a] at e1
      injection e1 with e1
      injection e1 with e1
      simp only [Array.mk.injEq, List.cons.injEq, and_true] at e1
      obtain ⟨rfl, rfl, rfl⟩ := e1
      exact hma'.cut h1a e2 e3 e4 e5 rfl 0 (Nat.zero_le _)
    have ca := cellOf2 (o := 1) h1a rfl
    have fa := free_of2 1 h1a
    have y0 : w3.drew.cell? ⟨hb, 0, none⟩ = some (.int .i64 0) := x0
    have yg : w3.drew.frozen? ⟨hb, 0, none⟩ = false := g0
    have HDN := Lib.hid (down_small B p S _ _ hcut.1 (by simp))
    have HMC := Lib.hid hcut.1
    have HFC := Lib.hid ((HF.out.trans hf3 (fun _ _ h => h)).trans (((Fr.refl S w3).drew.trans hfa (fun _ _ h => h)).trans hcut.2 (fun _ _ h => h)) (fun _ _ h => h))
    have HON := Lib.hid hone
    clear hf3 hm3 hone h1 h2 h3 h4 h5 hcell hdr hm4 hma hfa hma' h1a hcut
    go_wp2_with fail
    go_still_tail 12, (by kernel_rfl)
    change wpList _ _ _ _ _ w3.drew
    clear c1 x0 g0
    generalize w3.drew = w4 at *
    go_wp2_with fail
    (with_reducible refine HDN.out.mono ?_)
    rintro e w5 ⟨rfl, hw5⟩
    have HM5 : Hid (Mg B w5 p S ⟨[{ s with at_ := k + 1 }], [], [x]⟩) := Lib.hid (hw5 ▸ HMC.out)
    have HF5 : Hid (Fr S w w5) := Lib.hid (hw5 ▸ HFC.out)
    clear hw5 HMC HFC HDN ca fa y0 yg
    go_wp2_with fail
    go_end0
    exact ⟨rfl, HF5.out, by rw [HON.out]; exact HM5.out⟩
/-- What is known of the first key. -/
theorem head_cells {B p : Nat} {S : Nat → Prop} {s : Src} {x : List UInt8} {w : World} (h : Mg B w p S ⟨[s], [0], [x]⟩) : ∃ lb lc hb hc kb kc, 1 ≤ lc ∧ lc ≤ 9223372036854775807 ∧ 1 ≤ hc ∧ hc ≤ 9223372036854775807 ∧ 1 ≤ kc ∧ kc ≤ 9223372036854775807 ∧ lb < w.heap.size ∧ ∀ W, Below w.heap.size w W → W.cell? ⟨p, 0, none⟩ = some (.slice (some ⟨lb, 0, none⟩) 1 lc) ∧ W.cell? ⟨p, 1, none⟩ = some (.slice (some ⟨hb, 0, none⟩) 1 hc) ∧ W.cell? ⟨p, 2, none⟩ = some (.slice (some ⟨kb, 0, none⟩) 1 kc) ∧
    W.cell? ⟨p, 3, none⟩ = some (.int .i64 0) ∧ W.cell? ⟨hb, 0, none⟩ = some (.int .i64 0) ∧ W.cell? ⟨kb, 0, none⟩ = some (.string (str x)) ∧ At4 W lb 0 s ∧ Lis W B s := by
  obtain ⟨lv, hv, kv, h1, h2, h3, h4, h5⟩ := h.ex
  dsimp only at h1 h2 h3 h4 h5
  obtain ⟨lb, lc, hlv, -, hlb, hlc, hlm, -⟩ := own_pos h2 (by simp)
  obtain ⟨hb, hc, hhv, -, hhb, hhc, hhm, hcell⟩ := own_pos h3 (by simp)
  obtain ⟨kb, kc, hkv, -, hkb, hkc, hkm, kcell⟩ := own_pos h4 (by simp)
  subst hlv hhv hkv
  unfold maxLen at hlm hhm hkm
  have hp := lt_of_block h1
  have ha := at4_of h2 rfl 0 (by simp)
  refine ⟨lb, lc, hb, hc, kb, kc, hlc, hlm, hhc, hhm, hkc, hkm, hlb, fun W hW => ⟨?_, ?_, ?_, ?_, ?_, ?_, ?_, ?_⟩⟩
  · exact (hW.cell (p := ⟨p, 0, none⟩) hp).trans (cellOf2 (o := 0) h1 rfl)
  · exact (hW.cell (p := ⟨p, 1, none⟩) hp).trans (cellOf2 (o := 1) h1 rfl)
  · exact (hW.cell (p := ⟨p, 2, none⟩) hp).trans (cellOf2 (o := 2) h1 rfl)
  · exact (hW.cell (p := ⟨p, 3, none⟩) hp).trans (cellOf2 (o := 3) h1 rfl)
  · exact (hW.cell (p := ⟨hb, 0, none⟩) hhb).trans (hcell 0 _ rfl)
  · exact (hW.cell (p := ⟨kb, 0, none⟩) hkb).trans (kcell 0 _ rfl)
  · exact ha.below hW hlb
  · exact (h.lists s (by simp)).below (hW.mono h.Bw)
set_option maxRecDepth 100000 in
set_option maxHeartbeats 4000000 in
theorem pair_one (B p : Nat) (S : Nat → Prop) (s : Src) (x : List UInt8) (w : World) (h : Mg B w p S ⟨[s], [0], [x]⟩) (hl : s.at_ < s.l.length) :
    Calls Tryz.prog 47 #[(Value.pointer (some ⟨p, 0, none⟩))] w fun e w' => e = .returned (.agg #[.string (str s.l[s.at_].1), .string (str s.l[s.at_].2)]) ∧ Below w.heap.size w w' := by
  obtain ⟨lb, lc, hb, hc, kb, kc, g1, g2, g3, g4, g5, g6, hlb, HH⟩ := head_cells h
  have HV := Lib.hid (fun W (hW : Below w.heap.size w W) => mgValid_any B p S _ W (h.below hW))
  have hba : Below w.heap.size w (w.alloc (.cells #[.string ⟨#[]⟩, .string ⟨#[]⟩] 43)) := (Below.refl _ w).alloc (Nat.le_refl _) _
  have hp1 : (w.alloc (.cells #[.string ⟨#[]⟩, .string ⟨#[]⟩] 43)).heap[w.heap.size]? = some (.cells #[.string ⟨#[]⟩, .string ⟨#[]⟩] 43 (0, 0)) := by
    show (w.heap.push _)[w.heap.size]? = _
    simp
  have HHD := Lib.hid HH
  have HBA := Lib.hid hba
  have HP1 := Lib.hid hp1
  obtain ⟨pr, hpr⟩ : ∃ pr, pr = s.l[s.at_] := ⟨_, rfl⟩
  have HPA := Lib.hid (fun W (hW : Below w.heap.size w W) => srcPair_any lb 0 s B W (HH W hW).2.2.2.2.2.2.1 (HH W hW).2.2.2.2.2.2.2 hl)
  rw [← hpr] at HPA ⊢
  clear h HH hba hp1 hpr
  go_enter Tryz.func47, Tryz.ntmps47
  go_upto_region 1 with (fail)
  have HV1 := Lib.hid (HV.out _ HBA.out)
  rw [show decide (0 < ([0] : List Nat).length) = true from rfl] at HV1
  generalize w.alloc (.cells #[.string ⟨#[]⟩, .string ⟨#[]⟩] 43) = w1 at *
  obtain ⟨a0, a1, a2, a3, a4, a5, -, -⟩ := HHD.out w1 HBA.out
  go_wp2_with fail
  (with_reducible refine HV1.out.mono ?_)
  rintro e w2 ⟨rfl, rfl⟩
  go_wp2_with fail
  have HPB := Lib.hid (HPA.out w1.drew HBA.out.drew)
  refine wp_region_held_drew (S := (fun w' => w'.cell? ⟨p, 0, none⟩ = some (.slice (some ⟨lb, 0, none⟩) 1 lc) ∧ w'.cell? ⟨p, 1, none⟩ = some (.slice (some ⟨hb, 0, none⟩) 1 hc) ∧ w'.cell? ⟨hb, 0, none⟩ = some (.int .i64 0))) (by kernel_rfl) (by (try dsimp only); exact ⟨a0, a1, a4⟩) (fun hHeld => ?_)
  refine takeH (i := 0) (d := some 7) (v := ?_) rfl rfl (by kernel_rfl) (by kernel_rfl) (by kernel_rfl) (fun _ _ _ h => h) (Or.inl ⟨by rfl, ?_⟩) (by assumption) ?_
  rotate_left
  · intro wS hSw; (try dsimp only at hSw); go_simp; (try (with_reducible rfl))
  simp only [Act.put, List.setIfInBounds_toArray, List.set_cons_zero, List.set_cons_succ]
  refine takeH (i := 1) (d := some 8) (v := ?_) rfl rfl (by kernel_rfl) (by kernel_rfl) (by kernel_rfl) (fun _ _ _ h => h) (Or.inl ⟨by rfl, ?_⟩) (by assumption) ?_
  rotate_left
  · intro wS hSw; (try dsimp only at hSw); go_simp; (try (with_reducible rfl))
  simp only [Act.put, List.setIfInBounds_toArray, List.set_cons_zero, List.set_cons_succ]
  refine takeH (i := 2) (d := some 9) (v := ?_) rfl rfl (by kernel_rfl) (by kernel_rfl) (by kernel_rfl) (fun _ _ _ h => h) (Or.inl ⟨by rfl, ?_⟩) (by assumption) ?_
  rotate_left
  · intro wS hSw; (try dsimp only at hSw); go_simp; (try (with_reducible rfl))
  simp only [Act.put, List.setIfInBounds_toArray, List.set_cons_zero, List.set_cons_succ]
  refine takeH (i := 3) (d := some 10) (v := ?_) rfl rfl (by kernel_rfl) (by kernel_rfl) (by kernel_rfl) (fun _ _ _ h => h) (Or.inl ⟨by rfl, ?_⟩) (by assumption) ?_
  rotate_left
  · intro wS hSw; (try dsimp only at hSw); go_simp; (try (with_reducible rfl))
  simp only [Act.put, List.setIfInBounds_toArray, List.set_cons_zero, List.set_cons_succ]
  refine takeH (i := 4) (d := some 11) (v := ?_) rfl rfl (by kernel_rfl) (by kernel_rfl) (by kernel_rfl) (fun _ _ _ h => h) (Or.inl ⟨by rfl, ?_⟩) (by assumption) ?_
  rotate_left
  · intro wS hSw; (try dsimp only at hSw); go_simp; (try (with_reducible rfl))
  simp only [Act.put, List.setIfInBounds_toArray, List.set_cons_zero, List.set_cons_succ]
  refine takeH (i := 5) (d := some 12) (v := ?_) rfl rfl (by kernel_rfl) (by kernel_rfl) (by kernel_rfl) (fun _ _ _ h => h) (Or.inl ⟨by rfl, ?_⟩) (by assumption) ?_
  rotate_left
  · intro wS hSw; (try dsimp only at hSw); go_simp; (try (with_reducible rfl))
  simp only [Act.put, List.setIfInBounds_toArray, List.set_cons_zero, List.set_cons_succ]
  refine takeH (i := 6) (d := some 13) (v := ?_) rfl rfl (by kernel_rfl) (by kernel_rfl) (by kernel_rfl) (fun _ _ _ h => h) (Or.inl ⟨by rfl, ?_⟩) (by assumption) ?_
  rotate_left
  · intro wS hSw; (try dsimp only at hSw); go_simp; (try (with_reducible rfl))
  simp only [Act.put, List.setIfInBounds_toArray, List.set_cons_zero, List.set_cons_succ]
  refine takeH (i := 7) (d := some 14) (v := ?_) rfl rfl (by kernel_rfl) (by kernel_rfl) (by kernel_rfl) (fun _ _ _ h => h) (Or.inl ⟨by rfl, ?_⟩) (by assumption) ?_
  rotate_left
  · intro wS hSw; (try dsimp only at hSw); go_simp; (try (with_reducible rfl))
  simp only [Act.put, List.setIfInBounds_toArray, List.set_cons_zero, List.set_cons_succ]
  refine takeH (i := 8) (d := some 15) (v := ?_) rfl rfl (by kernel_rfl) (by kernel_rfl) (by kernel_rfl) (fun _ _ _ h => h) (Or.inl ⟨by rfl, ?_⟩) (by assumption) ?_
  rotate_left
  · intro wS hSw; (try dsimp only at hSw); go_simp; (try (with_reducible rfl))
  simp only [Act.put, List.setIfInBounds_toArray, List.set_cons_zero, List.set_cons_succ]
  refine takeH (i := 9) (d := some 16) (v := ?_) rfl rfl (by kernel_rfl) (by kernel_rfl) (by kernel_rfl) (fun _ _ _ h => h) (Or.inl ⟨by rfl, ?_⟩) (by assumption) ?_
  rotate_left
  · intro wS hSw; (try dsimp only at hSw); go_simp; (try (with_reducible rfl))
  simp only [Act.put, List.setIfInBounds_toArray, List.set_cons_zero, List.set_cons_succ]
  refine takeH (i := 10) (d := some 17) (v := ?_) rfl rfl (by kernel_rfl) (by kernel_rfl) (by kernel_rfl) (fun _ _ _ h => h) (Or.inl ⟨by rfl, ?_⟩) (by assumption) ?_
  rotate_left
  · intro wS hSw; (try dsimp only at hSw); go_simp; (try (with_reducible rfl))
  simp only [Act.put, List.setIfInBounds_toArray, List.set_cons_zero, List.set_cons_succ]
  refine wpAnyH_ready (rs := [11]) (by kernel_rfl) (by simp) ?_
  refine AllReadyH.cons rfl (fun K hK => ?_) AllReadyH.nil
  go_simp
  refine HPB.out.mono ?_
  rintro e w3 ⟨rfl, hb3⟩
  have hb3' : Below w.heap.size w w3 := HBA.out.trans ((undrew hb3).mono HBA.out.size)
  obtain ⟨k0, k1, -, -, k4, -, -, -⟩ := HHD.out w3 hb3'
  have hp3 : w3.heap[w.heap.size]? = some (.cells #[.string ⟨#[]⟩, .string ⟨#[]⟩] 43 (0, 0)) := ((undrew hb3).block w.heap.size (lt_of_block HP1.out)).trans HP1.out
  have HB3 := Lib.hid hb3'
  have HP3 := Lib.hid hp3
  clear hb3 hb3' hp3
  go_wp2_with fail
  refine hK.out _ _ (by (try dsimp only); exact ⟨k0, k1, k4⟩) (fun hHeld => ?_)
  clear hK K
  have r0 := cellOf2 (o := 0) HP3.out rfl
  have f0 := free_of2 0 HP3.out
  have r1 := cellOf2 (o := 1) (setAt2 (o := 0) (.string (str pr.1)) HP3.out) rfl
  have f1 := free_of2 1 (setAt2 (o := 0) (.string (str pr.1)) HP3.out)
  have hs4 := setAt2 (o := 1) (.string (str pr.2)) (setAt2 (o := 0) (.string (str pr.1)) HP3.out)
  have b0 := cellOf2 (o := 0) hs4 rfl
  have b1 := cellOf2 (o := 1) hs4 rfl
  have HBB := Lib.hid ((HB3.out.setCell (p := ⟨w.heap.size, 0, none⟩) (Nat.le_refl _) (.string (str pr.1))).setCell (p := ⟨w.heap.size, 1, none⟩) (Nat.le_refl _) (.string (str pr.2)))
  clear hs4
  refine wpAnyH_ready (rs := [12]) (by kernel_rfl) (by simp) ?_
  refine AllReadyH.cons rfl (fun K hK => ?_) AllReadyH.nil
  go_simp
  obtain ⟨m0, m1, -, -, m4, -, -, -⟩ := HHD.out _ HBB.out
  refine hK.out _ _ (by (try dsimp only); exact ⟨m0, m1, m4⟩) (fun hHeld => ?_)
  clear hK K hHeld m0 m1 m4 r0 f0 r1 f1 k0 k1 k4 a0 a1 a2 a3 a4 a5
  refine wpAnyH_done (by kernel_rfl) ?_ _
  go_wp2_with fail
  exact bodyPost_ret (v := .agg #[.string (str pr.1), .string (str pr.2)]) (by simp [results, Tryz.results47, go_sem, b0, b1]) rfl ⟨rfl, HBB.out⟩
end Go.Proofs.YtdbfaknpfepnfaaGreatDoor
