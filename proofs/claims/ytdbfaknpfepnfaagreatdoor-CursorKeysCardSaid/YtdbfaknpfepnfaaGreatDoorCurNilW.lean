
/-
  The walks of a merge of nothing.
-/
import Derived.Test.YtdbfaknpfepnfaaGreatDoorCurNewW
namespace Go.Proofs.YtdbfaknpfepnfaaGreatDoor
open Go.RowKit CodecP Cur

theorem strs_row0 (W : World) {b : Nat} (hb : b ≤ W.heap.size) : (W.alloc (.cells #[] 9)).ownsRow b 9 1 (.slice (some ⟨W.heap.size, 0, none⟩) 0 0) 0 [] :=
  ⟨rfl, .inr ⟨W.heap.size, 0, #[], rfl, hb, by show (W.heap.push _)[W.heap.size]? = _; simp, Nat.le_refl _, by unfold maxLen; omega, rfl, rfl⟩⟩
set_option maxRecDepth 100000 in
set_option maxHeartbeats 4000000 in
theorem new_nil (w : World) :
    Calls Tryz.prog 18 #[.slice none 0 0] w fun e w' => ∃ p S, e = .returned ((Value.pointer (some ⟨p, 0, none⟩))) ∧ Mg w.heap.size w' p S ⟨[], [], []⟩ ∧ Below w.heap.size w w' := by
  have HCL := Lib.hid clone_nil
  have hfin : ∀ W kv, Fr (fun _ => False) w W → W.ownsRow w.heap.size 9 1 kv 0 [] →
      ∃ p S, ((Value.pointer (some ⟨W.heap.size, 0, none⟩))) = ((Value.pointer (some ⟨p, 0, none⟩))) ∧ Mg w.heap.size (W.alloc (.cells #[.slice none 0 0, .slice none 0 0, kv, .int .i64 0] 109)) p S ⟨[], [], []⟩ ∧ Below w.heap.size w (W.alloc (.cells #[.slice none 0 0, .slice none 0 0, kv, .int .i64 0] 109)) := fun W kv hW h2 => by
    have hbW : Below w.heap.size w W := hW.below (Nat.le_refl _) (fun _ _ h => h.elim)
    have hba := hbW.alloc hW.size (.cells #[.slice none 0 0, .slice none 0 0, kv, .int .i64 0] 109)
    refine ⟨W.heap.size, fun k => k = W.heap.size ∨ (Value.slice none 0 0).ownBlock = some k ∨ (Value.slice none 0 0).ownBlock = some k ∨ kv.ownBlock = some k, rfl, ⟨⟨_, _, kv, ?_, World.ownsRow_nil _ _ _ _, World.ownsRow_nil _ _ _ _, own_base (h2.alloc _) (Nat.zero_le _), fun _ => Iff.rfl⟩, (by simp), fun k hk => ?_, rfl, fun i hi => (by cases hi), (by simp)⟩, hba⟩
    · show (W.heap.push _)[W.heap.size]? = _
      simp
    · rcases hk with rfl | hk | hk | hk
      · exact hW.size
      · cases hk
      · cases hk
      · exact (h2.lt k hk).1
  have HFIN := Lib.hid hfin
  have hmk : ∀ W : World, (Instr.makeSlice 106 (.int .i64 0) (.int .i64 0)).run Tryz.prog W = .ok (.slice (some ⟨W.heap.size, 0, none⟩) 0 0) (W.alloc (.cells #[] 9)) := fun W => by
    have h := mk_strs W 0 (by omega)
    rw [show madeCells #[Value.string ⟨#[]⟩] 0 = #[] from by kernel_rfl] at h
    exact h
  clear hfin
  go_enter Tryz.func18, Tryz.ntmps18
  go_wp2_with fail
  refine wp_region_held_drew (S := (fun _ => True)) (by kernel_rfl) (by (try dsimp only); skip) (fun hHeld => ?_)
  refine takeH (i := 0) (d := some 4) (v := ?_) rfl rfl (by kernel_rfl) (by kernel_rfl) (by kernel_rfl) (fun _ _ _ h => h) (Or.inl ⟨by rfl, ?_⟩) (by assumption) ?_
  rotate_left
  · intro wS hSw; (try dsimp only at hSw); go_simp; (try (with_reducible rfl))
  simp only [Act.put, List.setIfInBounds_toArray, List.set_cons_zero, List.set_cons_succ]
  refine takeH (i := 2) (d := some 6) (v := ?_) rfl rfl (by kernel_rfl) (by kernel_rfl) (by kernel_rfl) (fun _ _ _ h => h) (Or.inl ⟨by rfl, ?_⟩) (by assumption) ?_
  rotate_left
  · intro wS hSw; (try dsimp only at hSw); go_simp; (try (with_reducible rfl))
  simp only [Act.put, List.setIfInBounds_toArray, List.set_cons_zero, List.set_cons_succ]
  refine takeH (i := 3) (d := some 7) (v := ?_) rfl rfl (by kernel_rfl) (by kernel_rfl) (by kernel_rfl) (fun _ _ _ h => h) (Or.inl ⟨by rfl, ?_⟩) (by assumption) ?_
  rotate_left
  · intro wS hSw; (try dsimp only at hSw); go_simp; (try (with_reducible rfl))
  simp only [Act.put, List.setIfInBounds_toArray, List.set_cons_zero, List.set_cons_succ]
  refine wpAnyH_ready (rs := [1, 4]) (by kernel_rfl) (by simp) ?_
  refine AllReadyH.cons rfl (fun K hK => ?_) (AllReadyH.cons rfl (fun K hK => ?_) AllReadyH.nil)
  · go_simp
    refine (HCL.out _).mono ?_
    rintro e w1 ⟨rfl, rfl⟩
    go_wp2_with fail
    refine hK.out _ _ trivial (fun hHeld => ?_)
    clear hK K
    refine wpAnyH_ready (rs := [4]) (by kernel_rfl) (by simp) ?_
    refine AllReadyH.cons rfl (fun K hK => ?_) AllReadyH.nil
    go_simp
    refine hK.out _ _ trivial (fun hHeld => ?_)
    clear hK K
    refine takeH (i := 5) (d := some 9) (v := ?_) rfl rfl (by kernel_rfl) (by kernel_rfl) (by kernel_rfl) (fun _ _ _ h => h) (Or.inl ⟨by rfl, ?_⟩) (by assumption) ?_
    rotate_left
    · intro wS hSw; (try dsimp only at hSw); go_simp; (try (with_reducible rfl))
    simp only [Act.put, List.setIfInBounds_toArray, List.set_cons_zero, List.set_cons_succ]
    refine wpAnyH_ready (rs := [6]) (by kernel_rfl) (by simp) ?_
    refine AllReadyH.cons rfl (fun K hK => ?_) AllReadyH.nil
    go_simp
    refine hK.out _ _ trivial (fun hHeld => ?_)
    clear hK K
    refine takeH (i := 7) (d := some 3) (v := ?_) rfl rfl (by kernel_rfl) (by kernel_rfl) (by kernel_rfl) (fun _ _ _ h => h) (Or.inl ⟨by rfl, ?_⟩) (by assumption) ?_
    rotate_left
    · intro wS hSw; (try dsimp only at hSw); go_simp; (try (with_reducible rfl))
    simp only [Act.put, List.setIfInBounds_toArray, List.set_cons_zero, List.set_cons_succ]
    refine wpAnyH_done (by kernel_rfl) ?_ _
    go_wp2_with fail
    go_ret
    obtain ⟨p, S, hp, hm, hb⟩ := HFIN.out (w.drew.alloc (.cells #[] 9)) _ ((Fr.refl _ _).drew.alloc _) (strs_row0 w.drew (Nat.le_refl _))
    rw [show (w.drew.alloc (.cells #[] 9)).heap.size = w.heap.size + 1 from Array.size_push _] at hp
    exact ⟨p, S, congrArg Ending.returned hp, hm, hb⟩
  · go_simp
    refine hK.out _ _ trivial (fun hHeld => ?_)
    clear hK K
    refine wpAnyH_ready (rs := [1]) (by kernel_rfl) (by simp) ?_
    refine AllReadyH.cons rfl (fun K hK => ?_) AllReadyH.nil
    go_simp
    refine (HCL.out _).mono ?_
    rintro e w1 ⟨rfl, rfl⟩
    go_wp2_with fail
    refine hK.out _ _ trivial (fun hHeld => ?_)
    clear hK K
    refine takeH (i := 5) (d := some 9) (v := ?_) rfl rfl (by kernel_rfl) (by kernel_rfl) (by kernel_rfl) (fun _ _ _ h => h) (Or.inl ⟨by rfl, ?_⟩) (by assumption) ?_
    rotate_left
    · intro wS hSw; (try dsimp only at hSw); go_simp; (try (with_reducible rfl))
    simp only [Act.put, List.setIfInBounds_toArray, List.set_cons_zero, List.set_cons_succ]
    refine wpAnyH_ready (rs := [6]) (by kernel_rfl) (by simp) ?_
    refine AllReadyH.cons rfl (fun K hK => ?_) AllReadyH.nil
    go_simp
    refine hK.out _ _ trivial (fun hHeld => ?_)
    clear hK K
    refine takeH (i := 7) (d := some 3) (v := ?_) rfl rfl (by kernel_rfl) (by kernel_rfl) (by kernel_rfl) (fun _ _ _ h => h) (Or.inl ⟨by rfl, ?_⟩) (by assumption) ?_
    rotate_left
    · intro wS hSw; (try dsimp only at hSw); go_simp; (try (with_reducible rfl))
    simp only [Act.put, List.setIfInBounds_toArray, List.set_cons_zero, List.set_cons_succ]
    refine wpAnyH_done (by kernel_rfl) ?_ _
    go_wp2_with fail
    go_ret
    obtain ⟨p, S, hp, hm, hb⟩ := HFIN.out (w.drew.alloc (.cells #[] 9)) _ ((Fr.refl _ _).drew.alloc _) (strs_row0 w.drew (Nat.le_refl _))
    rw [show (w.drew.alloc (.cells #[] 9)).heap.size = w.heap.size + 1 from Array.size_push _] at hp
    exact ⟨p, S, congrArg Ending.returned hp, hm, hb⟩
set_option maxRecDepth 100000 in
theorem first_none (B p : Nat) (S : Nat → Prop) (w : World) (h : Mg B w p S ⟨[], [], []⟩) :
    Calls Tryz.prog 43 #[(Value.pointer (some ⟨p, 0, none⟩))] w fun e w' => e = .returned (.tuple #[]) ∧ Fr S w w' ∧ Mg B w' p S ⟨[], [], []⟩ := by
  obtain ⟨lv, hv, kv, h1, h2, h3, h4, h5⟩ := h.ex
  dsimp only at h1 h2 h3 h4 h5
  obtain ⟨A, c, hhv⟩ := own_form h3
  obtain ⟨A2, c2, hlv⟩ := own_form h2
  subst hhv hlv
  obtain ⟨hc, hcf⟩ := h.cut h1 h2 h3 h4 h5 rfl 0 (Nat.zero_le _)
  dsimp only at hc
  have hst : Calls Tryz.prog 94 #[(Value.pointer (some ⟨p, 0, none⟩)), .func (.func 95) #[] #[]] w fun e w' => e = .returned (.tuple #[]) ∧ Fr S w w' ∧ Mg B w' p S ⟨[], [], []⟩ := by
    have c1 := cellOf2 (o := 1) h1 rfl
    have f1 := free_of2 1 h1
    have c0 := cellOf2 (o := 0) (setAt2 (o := 1) (.slice A 0 c) h1) rfl
    have HC := Lib.hid hc
    have HCF := Lib.hid hcf
    clear h hc hcf h1 h2 h3 h4 h5
    go_enter Tryz.func94, Tryz.ntmps94
    go_wp2_with fail
    generalize w.setCell ⟨p, 1, none⟩ (.slice A 0 c) = wa at *
    go_loopw [18] (fun i wr => i = .int .i64 0 ∧ wr = wa) (fun _ _ => 0)
    case atStart => exact ⟨rfl, rfl⟩
    case round =>
      obtain ⟨rfl, rfl⟩ := hrel
      go_wp2_with fail
      go_end0
      exact ⟨rfl, HCF.out, HC.out⟩
  have HST := Lib.hid hst
  clear h hc hcf h1 h2 h3 h4 h5 hst
  go_enter Tryz.func43, Tryz.ntmps43
  go_wp2_with fail
  (with_reducible refine HST.out.mono ?_)
  rintro e w2 ⟨rfl, hf2, hm2⟩
  have HF2 := Lib.hid hf2
  have HM2 := Lib.hid hm2
  clear hf2 hm2
  go_wp2_with fail
  go_end0
  exact ⟨rfl, HF2.out, HM2.out⟩
end Go.Proofs.YtdbfaknpfepnfaaGreatDoor
