
/-
  The walk of a merge's look.
-/
import Derived.Test.YtdbfaknpfepnfaaGreatDoorCurMrgW
namespace Go.Proofs.YtdbfaknpfepnfaaGreatDoor
open Go.RowKit CodecP Cur

/-- The merge's keys are set. -/
theorem Mg.setKey {B : Nat} {w : World} {p kb kc : Nat} {S : Nat → Prop} {m : MSt} {lv hv : Value} {n : Nat} (h : Mg B w p S m) (h1 : w.heap[p]? = some (.cells #[lv, hv, .slice (some ⟨kb, 0, none⟩) n kc, .int .i64 0] 109 (0, 0)))
    (h2 : w.ownsRow 0 46 4 lv m.ss.length (flatS m.ss)) (h3 : w.ownsRow 0 3 1 hv m.hp.length (hpV m.hp)) (h4 : w.ownsRow 0 9 1 (.slice (some ⟨kb, 0, none⟩) n kc) m.ks.length (ksV m.ks)) (hS : ∀ k, S k ↔ (k = p ∨ lv.ownBlock = some k ∨ hv.ownBlock = some k ∨ (Value.slice (some ⟨kb, 0, none⟩) n kc).ownBlock = some k)) (hn : n = m.ks.length) (i : Nat) (x : List UInt8) :
    Mg B (w.setCell ⟨kb, i, none⟩ (.string (str x))) p S { m with ks := m.ks.set i x } ∧ Fr S w (w.setCell ⟨kb, i, none⟩ (.string (str x))) := by
  subst hn
  have hkS : S kb := (hS kb).2 (.inr (.inr (.inr rfl)))
  have hf : Fr S w (w.setCell ⟨kb, i, none⟩ (.string (str x))) := (Fr.refl S w).setCell (p := ⟨kb, i, none⟩) (.inl hkS) _
  have hft : Fr (fun k => k = kb) w (w.setCell ⟨kb, i, none⟩ (.string (str x))) := (Fr.refl (fun k => k = kb) w).setCell (p := ⟨kb, i, none⟩) (.inl rfl) _
  obtain ⟨kcs, hkc⟩ := own_type h4 (g := kb) rfl
  refine ⟨⟨⟨lv, hv, _, (hft.block p (lt_of_block h1) (type_ne h1 hkc (by decide))).trans h1, owns_of_block h2 (fun k hk => ?_), owns_of_block h3 (fun k hk => ?_), ?_, hS⟩, ?_, h.own, ?_, h.heap, h.few⟩, hf⟩
  · obtain ⟨cs, hc⟩ := own_type h2 hk
    exact hft.block k (h2.lt k hk).2 (type_ne hc hkc (by decide))
  · obtain ⟨cs, hc⟩ := own_type h3 hk
    exact hft.block k (h3.lt k hk).2 (type_ne hc hkc (by decide))
  · have := (h4.stored i (.string (str x))).1
    rw [List.length_set]
    unfold ksV at this ⊢
    rw [List.map_set]
    exact this
  · intro s hs
    exact (h.lists s hs).below (hf.below h.Bw (fun k _ hk => h.own k hk))
  · rw [List.length_set]; exact h.keys
theorem At4.below {w w' : World} {b o : Nat} {s : Src} (h : At4 w b o s) (hb : Below w.heap.size w w') (hlt : b < w.heap.size) : At4 w' b o s :=
  ⟨(hb.cell (p := ⟨b, o, none⟩) hlt).trans h.c0, (hb.cell (p := ⟨b, o + 1, none⟩) hlt).trans h.c1, (hb.cell (p := ⟨b, o + 3, none⟩) hlt).trans h.c3, (hb.frozen (p := ⟨b, o + 3, none⟩) hlt).trans h.f3⟩
def lookM (m : MSt) (i : Nat) (k : List UInt8) : MSt := { m with ks := m.ks.set i k }
set_option maxRecDepth 100000 in
set_option maxHeartbeats 2000000 in
theorem look_any (B p i : Nat) (S : Nat → Prop) (m : MSt) (w : World) (h : Mg B w p S m) (hi : i < m.ss.length) :
    Calls Tryz.prog 141 #[(Value.pointer (some ⟨p, 0, none⟩)), .int .i64 i] w fun e w' => Fr S w w' ∧
      ((∃ hl : m.ss[i].at_ < m.ss[i].l.length, e = .returned (.bool true) ∧ Mg B w' p S (lookM m i (m.ss[i].l[m.ss[i].at_]).1)) ∨ (¬ m.ss[i].at_ < m.ss[i].l.length ∧ e = .returned (.bool false) ∧ Mg B w' p S m)) := by
  obtain ⟨lv, hv, kv, h1, h2, h3, h4, h5⟩ := h.ex
  have hkl := h.keys
  have hfew := h.few
  obtain ⟨lb, lc, hlv, -, hlb, hlc, hlm, -⟩ := own_pos h2 (by omega)
  obtain ⟨kb, kc, hkv, -, hkb, hkc, hkm, -⟩ := own_pos h4 (by omega)
  subst hlv hkv
  have h4a := at4_of h2 rfl i hi
  have hls := h.lists m.ss[i] (List.getElem_mem hi)
  have c0 := cellOf2 (o := 0) h1 rfl
  have c2 := cellOf2 (o := 2) h1 rfl
  have c3 := cellOf2 (o := 3) h1 rfl
  unfold maxLen at hlm hkm
  have hil : (i : Int) < (m.ss.length : Int) := by omega
  have hik : (i : Int) < (m.ks.length : Int) := by omega
  have s0 := h4a.c0
  have HVD := Lib.hid (srcValid_any lb (i * 4) m.ss[i] B w h4a hls)
  have H := Lib.hid h
  have H1 := Lib.hid h1
  have H2 := Lib.hid h2
  have H3 := Lib.hid h3
  have H4 := Lib.hid h4
  have H5 := Lib.hid h5
  have H4A := Lib.hid h4a
  have HLS := Lib.hid hls
  by_cases hat : m.ss[i].at_ < m.ss[i].l.length
  · rw [decide_eq_true hat] at HVD
    clear h h1 h2 h3 h4 h5 h4a hls
    go_enter Tryz.func141, Tryz.ntmps141
    go_wp2_with fail
    (with_reducible refine HVD.out.mono ?_)
    rintro e w1 ⟨rfl, hb1⟩
    have HB1 := Lib.hid hb1
    have d2 : w1.cell? ⟨p, 2, none⟩ = some (.slice (some ⟨kb, 0, none⟩) m.ks.length kc) := (hb1.cell (p := ⟨p, 2, none⟩) (lt_of_block H1.out)).trans c2
    have hpr := srcPair_any lb (i * 4) m.ss[i] B w1.drew (H4A.out.below hb1.drew hlb) (HLS.out.below (hb1.drew.mono H.out.Bw)) hat
    obtain ⟨pr, hpp⟩ : ∃ pr, pr = m.ss[i].l[m.ss[i].at_] := ⟨_, rfl⟩
    rw [← hpp] at hpr
    have HPR := Lib.hid hpr
    have hfd : ∀ wS, (Instr.field 43 (.agg #[.string (str pr.1), .string (str pr.2)]) 0).run Tryz.prog wS = .ok (.string (str pr.1)) wS := fun wS => by first | rfl | (simp [Instr.field, go_sem])
    have HPP := Lib.hid hpp
    have d3 : w1.cell? ⟨p, 3, none⟩ = some (.int .i64 0) := (hb1.cell (p := ⟨p, 3, none⟩) (lt_of_block H1.out)).trans c3
    clear hb1 hpr c0 c2 c3 s0 hpp
    go_wp2_with fail
    refine wp_region_held_drew (S := (fun w' => w'.cell? ⟨p, 2, none⟩ = some (.slice (some ⟨kb, 0, none⟩) m.ks.length kc))) (by kernel_rfl) (by (try dsimp only); exact d2) (fun hHeld => ?_)
    refine takeH (i := 0) (d := some 38) (v := ?_) rfl rfl (by kernel_rfl) (by kernel_rfl) (by kernel_rfl) (fun _ _ _ h => h) (Or.inl ⟨by rfl, ?_⟩) (by assumption) ?_
    rotate_left
    · intro wS hSw; (try dsimp only at hSw); go_simp; (try (with_reducible rfl))
    simp only [Act.put, List.setIfInBounds_toArray, List.set_cons_zero, List.set_cons_succ]
    refine takeH (i := 1) (d := some 39) (v := ?_) rfl rfl (by kernel_rfl) (by kernel_rfl) (by kernel_rfl) (fun _ _ _ h => h) (Or.inl ⟨by rfl, ?_⟩) (by assumption) ?_
    rotate_left
    · intro wS hSw; (try dsimp only at hSw); go_simp; (try (with_reducible rfl))
    simp only [Act.put, List.setIfInBounds_toArray, List.set_cons_zero, List.set_cons_succ]
    refine takeH (i := 2) (d := some 40) (v := ?_) rfl rfl (by kernel_rfl) (by kernel_rfl) (by kernel_rfl) (fun _ _ _ h => h) (Or.inl ⟨by rfl, ?_⟩) (by assumption) ?_
    rotate_left
    · intro wS hSw; (try dsimp only at hSw); go_simp; (try (with_reducible rfl))
    simp only [Act.put, List.setIfInBounds_toArray, List.set_cons_zero, List.set_cons_succ]
    refine takeH (i := 3) (d := some 41) (v := ?_) rfl rfl (by kernel_rfl) (by kernel_rfl) (by kernel_rfl) (fun _ _ _ h => h) (Or.inl ⟨by rfl, ?_⟩) (by assumption) ?_
    rotate_left
    · intro wS hSw; (try dsimp only at hSw); go_simp; (try (with_reducible rfl))
    simp only [Act.put, List.setIfInBounds_toArray, List.set_cons_zero, List.set_cons_succ]
    refine takeH (i := 4) (d := some 42) (v := ?_) rfl rfl (by kernel_rfl) (by kernel_rfl) (by kernel_rfl) (fun _ _ _ h => h) (Or.inl ⟨by rfl, ?_⟩) (by assumption) ?_
    rotate_left
    · intro wS hSw; (try dsimp only at hSw); go_simp; (try (with_reducible rfl))
    simp only [Act.put, List.setIfInBounds_toArray, List.set_cons_zero, List.set_cons_succ]
    refine takeH (i := 5) (d := some 43) (v := ?_) rfl rfl (by kernel_rfl) (by kernel_rfl) (by kernel_rfl) (fun _ _ _ h => h) (Or.inl ⟨by rfl, ?_⟩) (by assumption) ?_
    rotate_left
    · intro wS hSw; (try dsimp only at hSw); go_simp; (try (with_reducible rfl))
    simp only [Act.put, List.setIfInBounds_toArray, List.set_cons_zero, List.set_cons_succ]
    refine wpAnyH_ready (rs := [6]) (by kernel_rfl) (by simp) ?_
    refine AllReadyH.cons rfl (fun K hK => ?_) AllReadyH.nil
    go_simp
    refine HPR.out.mono ?_
    rintro e w2 ⟨rfl, hb2⟩
    have hb2' := HB1.out.trans ((undrew hb2).mono HB1.out.size)
    have k2 := (hb2'.cell (p := ⟨p, 2, none⟩) (lt_of_block H1.out)).trans (cellOf2 (o := 2) H1.out rfl)
    have HB2 := Lib.hid hb2'
    clear hb2 hb2'
    go_wp2_with fail
    refine hK.out _ _ (by (try dsimp only); exact k2) (fun hHeld => ?_)
    clear hK K
    refine takeH (i := 7) (d := some 45) (v := ?_) rfl rfl (by kernel_rfl) (by kernel_rfl) (by kernel_rfl) (fun _ _ _ h => h) (Or.inl ⟨by rfl, ?_⟩) (by assumption) ?_
    rotate_left
    · intro wS hSw; (try dsimp only at hSw); go_simp; (try (with_reducible rfl))
    simp only [Act.put, List.setIfInBounds_toArray, List.set_cons_zero, List.set_cons_succ]
    refine takeH (i := 8) (d := some 46) (v := ?_) rfl rfl (by kernel_rfl) (by kernel_rfl) (by kernel_rfl) (fun _ _ _ h => h) (Or.inl ⟨by rfl, ?_⟩) (by assumption) ?_
    rotate_left
    · intro wS hSw; (try dsimp only at hSw); go_simp; (try (with_reducible rfl))
    simp only [Act.put, List.setIfInBounds_toArray, List.set_cons_zero, List.set_cons_succ]
    have hm2 := H.out.below HB2.out
    have hr4 := owns_of_block H4.out (fun k hk => HB2.out.block k (H4.out.lt k hk).2)
    have hci := hr4.cellAt i (by omega)
    have hcf := hr4.frozenAt i
    rw [show (ksV m.ks)[i]? = some (.string (str (m.ks[i]'(by omega)))) by unfold ksV; rw [List.getElem?_map, List.getElem?_eq_getElem (by omega : i < m.ks.length)]; rfl] at hci
    have hsk := hm2.setKey ((HB2.out.block p (lt_of_block H1.out)).trans H1.out) (owns_of_block H2.out (fun k hk => HB2.out.block k (H2.out.lt k hk).2)) (owns_of_block H3.out (fun k hk => HB2.out.block k (H3.out.lt k hk).2)) hr4 H5.out rfl i pr.1
    have HSK := Lib.hid hsk
    clear hm2 hr4 hsk
    refine wpAnyH_ready (rs := [9]) (by kernel_rfl) (by simp) ?_
    refine AllReadyH.cons rfl (fun K hK => ?_) AllReadyH.nil
    go_simp
    obtain ⟨kcs, hkcs⟩ := own_type H4.out (g := kb) rfl
    have hpk := type_ne H1.out hkcs (by decide)
    refine hK.out _ _ (by
      (try dsimp only)
      exact (((Fr.refl (fun k => k = kb) w2).setCell (p := ⟨kb, i, none⟩) (.inl rfl) (.string (str pr.1))).cell (a := ⟨p, 2, none⟩) k2 hpk)) (fun hHeld => ?_)
    clear hK K
    refine wpAnyH_done (by kernel_rfl) ?_ _
    go_wp2_with fail
    go_ret
    exact ⟨(Fr.of_below S HB2.out).trans HSK.out.2 (fun _ _ h => h), .inl ⟨hat, rfl, by rw [← HPP.out]; exact HSK.out.1⟩⟩
  · rw [decide_eq_false hat] at HVD
    have HAT := Lib.hid hat
    clear h h1 h2 h3 h4 h5 h4a hls hat
    go_enter Tryz.func141, Tryz.ntmps141
    go_wp2_with fail
    (with_reducible refine HVD.out.mono ?_)
    rintro e w1 ⟨rfl, hb1⟩
    have HB1 := Lib.hid hb1
    clear hb1
    go_wp2_with fail
    go_ret
    exact ⟨Fr.of_below _ HB1.out, .inr ⟨HAT.out, rfl, H.out.below HB1.out⟩⟩
end Go.Proofs.YtdbfaknpfepnfaaGreatDoor
