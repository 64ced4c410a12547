
/-
  The walks of New.
-/
import Derived.Test.YtdbfaknpfepnfaaGreatDoorCurSeekW
namespace Go.Proofs.YtdbfaknpfepnfaaGreatDoor
open Go.RowKit CodecP Cur

theorem info_src : (Tryz.prog.info? 46).map (fun i => (i.zero, i.size, i.bytes)) = some (some (.agg #[.int .i64 0, .slice none 0 0, .pointer none, .int .i64 0]), 4, 48) := by kernel_rfl
set_option maxRecDepth 100000 in
theorem clone_nil (w : World) : Calls Tryz.prog 66 #[.slice none 0 0] w fun e w' => e = .returned (.slice none 0 0) ∧ w = w' := by
  have hq : ∀ W, (binOp .eql 33 (.slice none 0 0) (.slice none 0 0)).run Tryz.prog W = .ok (.bool true) W := fun W => by first | rfl | kernel_rfl
  go_enter Tryz.func66, Tryz.ntmps66
  go_wp2_with fail
  go_ret
  exact ⟨rfl, rfl⟩
theorem srcs_one (ss : List Src) (hv : ∀ s ∈ ss, ∃ A n c, s.v = .slice A n c) : ∀ u ∈ flatS ss, u.oneCell' = true := by
  intro u hu
  unfold flatS at hu
  obtain ⟨s, hs, hu⟩ := List.mem_flatMap.1 hu
  obtain ⟨A, n, c, e⟩ := hv s hs
  unfold srcC at hu
  rw [e] at hu
  simp only [List.mem_cons, List.not_mem_nil, or_false] at hu
  rcases hu with rfl | rfl | rfl | rfl <;> rfl
set_option maxRecDepth 100000 in
theorem clone_any (a n cap : Nat) (ss : List Src) (w : World) (hn : n = ss.length) (hfew : n ≤ 1000) (hv : ∀ s ∈ ss, ∃ A n c, s.v = .slice A n c) (hc : ∀ j u, (flatS ss)[j]? = some u → w.cell? ⟨a, j, none⟩ = some u) :
    Calls Tryz.prog 66 #[.slice (some ⟨a, 0, none⟩) n cap] w fun e w' => ∃ v, e = .returned v ∧ w'.ownsRow w.heap.size 46 4 v n (flatS ss) ∧ Below w.heap.size w w' := by
  subst hn
  obtain ⟨i0, hi, hz0, hz1, hz2⟩ := info_parts info_src
  have ho := srcs_one ss hv
  have hown : (w.alloc (.cells #[] 46)).ownsRow w.heap.size 46 4 (.slice (some ⟨w.heap.size, 0, none⟩) 0 0) 0 [] :=
    ⟨rfl, .inr ⟨w.heap.size, 0, #[], rfl, Nat.le_refl _, by show (w.heap.push _)[w.heap.size]? = _; simp, Nat.le_refl _, by unfold maxLen; omega, rfl, rfl⟩⟩
  have hnews : ∀ j u, (flatS ss)[j]? = some u → (w.alloc (.cells #[] 46)).cell? ((⟨a, 0, none⟩ : Addr).add j) = some u := fun j u hu => by
    rw [Go.WideShapes.add_plain, Nat.zero_add]
    exact ((Fr.refl (fun _ => False) w).alloc _).cell (hc j u hu) (fun h => h)
  have HO := Lib.hid ho
  have HOWN := Lib.hid hown
  have HN := Lib.hid hnews
  have hlen := flatS_length ss
  have HB := Lib.hid ((Below.refl w.heap.size w).alloc (Nat.le_refl _) (.cells #[] 46))
  have hq : ∀ W, (binOp .eql 33 (.slice (some ⟨a, 0, none⟩) ss.length cap) (.slice none 0 0)).run Tryz.prog W = .ok (.bool false) W := fun W => by first | rfl | kernel_rfl
  clear ho hown hnews hc hv
  go_enter Tryz.func66, Tryz.ntmps66
  go_wp2_with (at_builtin; refine wpList_append_own_at _ rfl _ _ 33 rfl w.heap.size 46 i0 (.agg #[.int .i64 0, .slice none 0 0, .pointer none, .int .i64 0]) 4 48 Tryz.underlying33 hi hz0 hz1 hz2 rfl (by decide) _ _ _ rfl HOWN.out ⟨a, 0, none⟩ ss.length cap (flatS ss) rfl (by rw [hlen]) HN.out HO.out (by unfold maxLen; omega) (by omega) (by simp) ?_; intro v' w6 hown' hgrow hx1 hx2; have HOW := Lib.hid hown'; have hb6 := HB.out.grown hgrow (by simp) (fun j hj => (HOWN.out.lt j hj).1); have HB6 := Lib.hid hb6; clear hown' hgrow hx1 hx2 hb6)
  go_ret
  have := HOW.out
  rw [Nat.zero_add, List.nil_append] at this
  exact ⟨_, rfl, this, HB6.out⟩
theorem info_strC : (Tryz.prog.info? 9).map (fun i => (i.zero, i.size, i.bytes)) = some (some (.string ⟨#[]⟩), 1, 16) := by kernel_rfl
theorem mk_strs (W : World) (n : Nat) (hn : n ≤ 1) : (Instr.makeSlice 106 (.int .i64 n) (.int .i64 n)).run Tryz.prog W = .ok (.slice (some ⟨W.heap.size, 0, none⟩) n n) (W.alloc (.cells (madeCells #[.string ⟨#[]⟩] n) 9)) := by
  obtain ⟨i0, hi, hz0, hz1, hz2⟩ := info_parts info_strC
  have h := run_makeSlice (w := W) (P := Tryz.prog) 106 9 i0 _ Tryz.underlying106 hi hz0 .i64 .i64 n n (by omega) (Int.le_refl _) (by rw [hz1]; simp; omega) (by rw [hz2]; omega) (by omega)
  simp only [Int.toNat_natCast, hz1, Nat.mul_one] at h
  exact h
theorem strs_row1 (W : World) {b : Nat} (hb : b ≤ W.heap.size) : (W.alloc (.cells #[.string ⟨#[]⟩] 9)).ownsRow b 9 1 (.slice (some ⟨W.heap.size, 0, none⟩) 1 1) 1 [.string ⟨#[]⟩] :=
  ⟨rfl, .inr ⟨W.heap.size, 1, #[.string ⟨#[]⟩], rfl, hb, by show (W.heap.push _)[W.heap.size]? = _; simp, Nat.le_refl _, by unfold maxLen; omega, rfl, rfl⟩⟩
set_option maxRecDepth 100000 in
set_option maxHeartbeats 4000000 in
theorem new_one (B a cap : Nat) (s : Src) (w : World) (hl : Lis w B s) (hB : B ≤ w.heap.size) (hc : ∀ j u, (flatS [s])[j]? = some u → w.cell? ⟨a, j, none⟩ = some u) :
    Calls Tryz.prog 18 #[.slice (some ⟨a, 0, none⟩) 1 cap] w fun e w' => ∃ p S, e = .returned ((Value.pointer (some ⟨p, 0, none⟩))) ∧ Mg B w' p S ⟨[s], [], [[]]⟩ ∧ (∀ k, S k → w.heap.size ≤ k) ∧ Below w.heap.size w w' := by
  have hcl : ∀ W, Fr (fun _ => False) w W → Calls Tryz.prog 66 #[.slice (some ⟨a, 0, none⟩) 1 cap] W fun e w' => ∃ v, e = .returned v ∧ w'.ownsRow w.heap.size 46 4 v 1 (flatS [s]) ∧ Below W.heap.size W w' := fun W hW => by
    obtain ⟨A, c, h1, -⟩ := hl
    refine (clone_any a 1 cap [s] W rfl (by omega) (fun s' hs => ?_) (fun j u hu => hW.cell (hc j u hu) (fun h => h))).mono ?_
    · rw [List.mem_singleton.1 hs]; exact ⟨A, _, c, h1⟩
    · rintro e w' ⟨v, he, ho, hb⟩
      exact ⟨v, he, own_base ho hW.size, hb⟩
  have HCL := Lib.hid hcl
  have hfin : ∀ W lv kv, Fr (fun _ => False) w W → W.ownsRow w.heap.size 46 4 lv 1 (flatS [s]) → W.ownsRow w.heap.size 9 1 kv 1 [.string ⟨#[]⟩] →
      ∃ p S, ((Value.pointer (some ⟨W.heap.size, 0, none⟩))) = ((Value.pointer (some ⟨p, 0, none⟩))) ∧ Mg B (W.alloc (.cells #[lv, .slice none 0 0, kv, .int .i64 0] 109)) p S ⟨[s], [], [[]]⟩ ∧ (∀ k, S k → w.heap.size ≤ k) ∧ Below w.heap.size w (W.alloc (.cells #[lv, .slice none 0 0, kv, .int .i64 0] 109)) := fun W lv kv hW h1 h2 => by
    have hbW : Below w.heap.size w W := hW.below (Nat.le_refl _) (fun _ _ h => h.elim)
    have hba := hbW.alloc hW.size (.cells #[lv, .slice none 0 0, kv, .int .i64 0] 109)
    have hS : ∀ k, (k = W.heap.size ∨ lv.ownBlock = some k ∨ (Value.slice none 0 0).ownBlock = some k ∨ kv.ownBlock = some k) → w.heap.size ≤ k := fun k hk => by
      rcases hk with rfl | hk | hk | hk
      · exact hW.size
      · exact (h1.lt k hk).1
      · cases hk
      · exact (h2.lt k hk).1
    refine ⟨W.heap.size, fun k => k = W.heap.size ∨ lv.ownBlock = some k ∨ (Value.slice none 0 0).ownBlock = some k ∨ kv.ownBlock = some k, rfl, ⟨⟨lv, _, kv, ?_, own_base (h1.alloc _) (Nat.zero_le _), World.ownsRow_nil _ _ _ _, own_base (h2.alloc _) (Nat.zero_le _), fun _ => Iff.rfl⟩, fun s' hs => ?_, fun k hk => Nat.le_trans hB (hS k hk), rfl, fun i hi => (by cases hi), (by simp)⟩, hS, hba⟩
    · show (W.heap.push _)[W.heap.size]? = _
      simp
    · rw [List.mem_singleton.1 hs]
      exact hl.below (hba.mono hB)
  have HFIN := Lib.hid hfin
  have hmk : ∀ W : World, (Instr.makeSlice 106 (.int .i64 1) (.int .i64 1)).run Tryz.prog W = .ok (.slice (some ⟨W.heap.size, 0, none⟩) 1 1) (W.alloc (.cells #[.string ⟨#[]⟩] 9)) := fun W => by
    have h := mk_strs W 1 (Nat.le_refl _)
    rw [show madeCells #[Value.string ⟨#[]⟩] 1 = #[.string ⟨#[]⟩] from by kernel_rfl] at h
    exact h
  clear hcl hfin hl hc
  go_enter Tryz.func18, Tryz.ntmps18
  go_wp2_with fail
  refine wp_region_held_drew (S := (fun _ => True)) (by kernel_rfl) (by (try dsimp only); skip) (fun hHeld => ?_)
  refine takeH (i := 0) (d := some 4) (v := ?_) rfl rfl (by kernel_rfl) (by kernel_rfl) (by kernel_rfl) (fun _ _ _ h => h) (Or.inl ⟨by rfl, ?_⟩) (by assumption) ?_
  rotate_left
  · intro wS hSw; (try dsimp only at hSw); go_simp; (try (with_reducible rfl))
  simp only [Act.put, List.setIfInBounds_toArray, List.set_cons_zero, List.set_cons_succ]
  refine takeH (i := 2) (d := some 6) (v := ?_) rfl rfl (by kernel_rfl) (by kernel_rfl) (by kernel_rfl) (fun _ _ _ h => h) (Or.inl ⟨by rfl, ?_⟩) (by assumption) ?_
  rotate_left
  · intro wS hSw; (try dsimp only at hSw); go_simp; (try (with_reducible rfl))
  simp only [Act.put, List.setIfInBounds_toArray, List.set_cons_zero, List.set_cons_succ]
  refine takeH (i := 3) (d := some 7) (v := ?_) rfl rfl (by kernel_rfl) (by kernel_rfl) (by kernel_rfl) (fun _ _ _ h => h) (Or.inl ⟨by rfl, ?_⟩) (by assumption) ?_
  rotate_left
  · intro wS hSw; (try dsimp only at hSw); go_simp; (try (with_reducible rfl))
  simp only [Act.put, List.setIfInBounds_toArray, List.set_cons_zero, List.set_cons_succ]
  refine wpAnyH_ready (rs := [1, 4]) (by kernel_rfl) (by simp) ?_
  refine AllReadyH.cons rfl (fun K hK => ?_) (AllReadyH.cons rfl (fun K hK => ?_) AllReadyH.nil)
  · go_simp
    refine (HCL.out _ (Fr.refl _ _).drew).mono ?_
    rintro e w1 ⟨lv, rfl, ho, hb⟩
    have HO := Lib.hid ho
    have HB := Lib.hid hb
    obtain ⟨ao, cc, hlv⟩ := own_form ho
    subst hlv
    clear ho hb
    go_wp2_with fail
    refine hK.out _ _ trivial (fun hHeld => ?_)
    clear hK K
    refine wpAnyH_ready (rs := [4]) (by kernel_rfl) (by simp) ?_
    refine AllReadyH.cons rfl (fun K hK => ?_) AllReadyH.nil
    go_simp
    refine hK.out _ _ trivial (fun hHeld => ?_)
    clear hK K
    refine takeH (i := 5) (d := some 9) (v := ?_) rfl rfl (by kernel_rfl) (by kernel_rfl) (by kernel_rfl) (fun _ _ _ h => h) (Or.inl ⟨by rfl, ?_⟩) (by assumption) ?_
    rotate_left
    · intro wS hSw; (try dsimp only at hSw); go_simp; (try (with_reducible rfl))
    simp only [Act.put, List.setIfInBounds_toArray, List.set_cons_zero, List.set_cons_succ]
    refine wpAnyH_ready (rs := [6]) (by kernel_rfl) (by simp) ?_
    refine AllReadyH.cons rfl (fun K hK => ?_) AllReadyH.nil
    go_simp
    refine hK.out _ _ trivial (fun hHeld => ?_)
    clear hK K
    refine takeH (i := 7) (d := some 3) (v := ?_) rfl rfl (by kernel_rfl) (by kernel_rfl) (by kernel_rfl) (fun _ _ _ h => h) (Or.inl ⟨by rfl, ?_⟩) (by assumption) ?_
    rotate_left
    · intro wS hSw; (try dsimp only at hSw); go_simp; (try (with_reducible rfl))
    simp only [Act.put, List.setIfInBounds_toArray, List.set_cons_zero, List.set_cons_succ]
    refine wpAnyH_done (by kernel_rfl) ?_ _
    go_wp2_with fail
    go_ret
    have hw1 : Fr (fun _ => False) w w1 := Fr.of_below _ (undrew HB.out)
    obtain ⟨p, S, hp, hm, hs, hb⟩ := HFIN.out (w1.alloc (.cells #[.string ⟨#[]⟩] 9)) _ _ (hw1.alloc _) (HO.out.alloc _) (strs_row1 w1 hw1.size)
    rw [show (w1.alloc (.cells #[.string ⟨#[]⟩] 9)).heap.size = w1.heap.size + 1 by simp] at hp
    exact ⟨p, S, congrArg Ending.returned hp, hm, hs, hb⟩
  · go_simp
    refine hK.out _ _ trivial (fun hHeld => ?_)
    clear hK K
    refine wpAnyH_ready (rs := [1]) (by kernel_rfl) (by simp) ?_
    refine AllReadyH.cons rfl (fun K hK => ?_) AllReadyH.nil
    go_simp
    refine (HCL.out _ ((Fr.refl _ _).drew.alloc _)).mono ?_
    rintro e w1 ⟨lv, rfl, ho, hb⟩
    have HO := Lib.hid ho
    have HB := Lib.hid hb
    obtain ⟨ao, cc, hlv⟩ := own_form ho
    subst hlv
    clear ho hb
    go_wp2_with fail
    refine hK.out _ _ trivial (fun hHeld => ?_)
    clear hK K
    refine takeH (i := 5) (d := some 9) (v := ?_) rfl rfl (by kernel_rfl) (by kernel_rfl) (by kernel_rfl) (fun _ _ _ h => h) (Or.inl ⟨by rfl, ?_⟩) (by assumption) ?_
    rotate_left
    · intro wS hSw; (try dsimp only at hSw); go_simp; (try (with_reducible rfl))
    simp only [Act.put, List.setIfInBounds_toArray, List.set_cons_zero, List.set_cons_succ]
    refine wpAnyH_ready (rs := [6]) (by kernel_rfl) (by simp) ?_
    refine AllReadyH.cons rfl (fun K hK => ?_) AllReadyH.nil
    go_simp
    refine hK.out _ _ trivial (fun hHeld => ?_)
    clear hK K
    refine takeH (i := 7) (d := some 3) (v := ?_) rfl rfl (by kernel_rfl) (by kernel_rfl) (by kernel_rfl) (fun _ _ _ h => h) (Or.inl ⟨by rfl, ?_⟩) (by assumption) ?_
    rotate_left
    · intro wS hSw; (try dsimp only at hSw); go_simp; (try (with_reducible rfl))
    simp only [Act.put, List.setIfInBounds_toArray, List.set_cons_zero, List.set_cons_succ]
    refine wpAnyH_done (by kernel_rfl) ?_ _
    go_wp2_with fail
    go_ret
    have hw0 : Fr (fun _ => False) w (w.drew.alloc (.cells #[.string ⟨#[]⟩] 9)) := (Fr.refl _ _).drew.alloc _
    have hw1 : Fr (fun _ => False) w w1 := hw0.trans (Fr.of_below (fun _ => False) HB.out) (fun _ _ h => h)
    obtain ⟨p, S, hp, hm, hs, hb⟩ := HFIN.out w1 _ _ hw1 HO.out (owns_of_block (strs_row1 w.drew (Nat.le_refl _)) (fun j hj => HB.out.block j ((strs_row1 w.drew (b := w.heap.size) (Nat.le_refl _)).lt j hj).2))
    exact ⟨p, S, congrArg Ending.returned hp, hm, hs, hb⟩
end Go.Proofs.YtdbfaknpfepnfaaGreatDoor
