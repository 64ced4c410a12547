
/-
  The walk of block's Seek, whole.
-/
import Derived.Test.YtcoicdaobgneeaaSeekW
namespace Go.Proofs.Ytcoicdaobgneeaa
open Go.RowKit CodecP

theorem from_seek (r F ck co p B : Nat) (v : Value) (l : List Pr) (key : ByteArray) (w : World) (h : Bk w B p v l) (hk : At1 w ck (.string key) 9) (ho : At1 w co (.int .i64 l.length) 3)
    (hFi : ∀ i (hi : i < l.length), l[i].1 < bl key ↔ i < F) (hF : F ≤ l.length) (hr : 8 * r ≤ F) (hr2 : 8 * r < l.length) (hp : p ≠ co) (hck : ck ≠ co) (hv : ∀ g, v.ownBlock = some g → g ≠ co) :
    Calls Try.prog 42 #[(Value.pointer (some ⟨p, 0, none⟩)), .int .i64 r, .func (.func 50) #[] #[(Value.pointer (some ⟨ck, 0, none⟩)), (Value.pointer (some ⟨co, 0, none⟩))]] w fun e w' => e = .returned (.tuple #[]) ∧ At1 w' co (.int .i64 F) 3 ∧ Fr (fun k => k = co) w w' := by
  have hcl := lt_of_block ho
  have hkl := lt_of_block hk
  refine (from_any (fun i w1 U => i ≤ F ∧ At1 w1 co (.int .i64 l.length) 3 ∧ At1 w1 ck (.string key) 9 ∧ U = fun k => k = co) (fun w1 => At1 w1 co (.int .i64 F) 3) (fun k => k = co) 50 #[(Value.pointer (some ⟨ck, 0, none⟩)), (Value.pointer (some ⟨co, 0, none⟩))] seek2_enter B p v l r w h hr2 hp ⟨_, hr, ho, hk, rfl⟩
    ?_ ?_ ?_).mono ?_
  · rintro i w1 w2 U ⟨h1, h2, h3, rfl⟩ hf
    exact ⟨h1, (hf.block co (lt_of_block h2) (by omega)).trans h2, (hf.block ck (lt_of_block h3) (by omega)).trans h3, rfl⟩
  · rintro i w1 U hw ⟨h1, h2, h3, rfl⟩ k rfl
    exact ⟨lt_of_block h2, fun e => hp e.symm, by omega, fun g hg e => hv g hg e.symm, fun _ => rfl⟩
  · rintro i hi w1 U hw ⟨h1, h2, h3, rfl⟩
    refine (seek2_any i l[i] ck co key _ w1 h3 h2).mono ?_
    rintro e w2 ⟨hf, ⟨hlt, rfl, ho2⟩ | ⟨hlt, rfl, ho2⟩⟩
    · exact ⟨hf, .inl ⟨rfl, _, by have := (hFi i hi).1 hlt; omega, ho2, (hf.block ck (lt_of_block h3) hck).trans h3, rfl⟩⟩
    · have : ¬ i < F := fun h => hlt ((hFi i hi).2 h)
      obtain rfl : i = F := by omega
      exact ⟨hf, .inr ⟨rfl, ho2⟩⟩
  · rintro e w2 ⟨rfl, hf, ⟨U, h1, h2, -⟩ | ⟨w1, h1, h2⟩⟩
    · obtain rfl : F = l.length := by omega
      exact ⟨rfl, h2, hf⟩
    · exact ⟨rfl, (h2.block co (lt_of_block h1) (fun h => h)).trans h1, hf⟩
set_option maxRecDepth 100000 in
set_option maxHeartbeats 2000000 in
theorem seek_any (p B : Nat) (v : Value) (l : List Pr) (key : ByteArray) (w : World) (h : Bk w B p v l) :
    Calls Try.prog 25 #[(Value.pointer (some ⟨p, 0, none⟩)), .string key] w fun e w' => e = .returned (.int .i64 (findN (bl key) l)) ∧ Below w.heap.size w w' := by
  obtain ⟨w1, hw1⟩ : ∃ w1, w1 = (w.alloc (.cells #[(Value.pointer (some ⟨p, 0, none⟩))] 40)).alloc (.cells #[.string key] 9) := ⟨_, rfl⟩
  have hb1 : Below w.heap.size w w1 := by rw [hw1]; exact ((Below.refl _ w).alloc (Nat.le_refl _) _).alloc (by simp) _
  have hc1 : At1 w1 w.heap.size ((Value.pointer (some ⟨p, 0, none⟩))) 40 := by
    rw [hw1]
    exact (At1.new w _ _).alloc _
  have hk1 : At1 w1 (w.heap.size + 1) (.string key) 9 := by
    rw [hw1]
    have h2 := At1.new (w.alloc (.cells #[(Value.pointer (some ⟨p, 0, none⟩))] 40)) (.string key) 9
    rw [show (w.alloc (.cells #[(Value.pointer (some ⟨p, 0, none⟩))] 40)).heap.size = w.heap.size + 1 by simp] at h2
    exact h2
  have hs1 : w1.heap.size = w.heap.size + 2 := by rw [hw1]; simp
  have hplt := lt_of_block h.cells
  have hrow : ∀ g, v.ownBlock = some g → g < w.heap.size := fun g hg => (h.row.lt g hg).2
  have hle := h.rise.le
  have hrl := rst_len l
  have hb : Bk w1 B p v l := h2_of hb1 h
  have cc := cellOf2 (o := 0) hc1 rfl
  have HW1 := Lib.hid hw1
  have HB1 := Lib.hid hb1
  have HC1 := Lib.hid hc1
  have HK1 := Lib.hid hk1
  have HS1 := Lib.hid hs1
  have HB := Lib.hid hb
  have HROW := Lib.hid hrow
  have HRL := Lib.hid hrl
  have HLN := Lib.hid (bk_len p B v l _ hb)
  clear h hw1 hb1 hc1 hk1 hs1 hb hrow hrl
  go_enter Try.func25, Try.ntmps25
  go_upto_region 1 with (fail)
  rw [← HW1.out]
  rcases Nat.eq_zero_or_pos l.length with h0 | h0
  · have d0 : ((l.length : Int) == 0) = true := by rw [beq_iff_eq]; omega
    go_wp2_with fail
    (with_reducible refine HLN.out.mono ?_)
    rintro e w2 ⟨rfl, rfl⟩
    go_wp2_with fail
    go_ret
    obtain rfl := List.length_eq_zero_iff.1 h0
    exact ⟨rfl, HB1.out⟩
  · have d0 : ((l.length : Int) == 0) = false := by rw [beq_eq_false_iff_ne]; omega
    have q0 : 0 < (rst l).length := by have := HRL.out; omega
    obtain ⟨g, cp, hv, _, hg, hc, hm, hcell⟩ := own_pos HB.out.row q0
    subst hv
    unfold maxLen at hm
    have c1 : w1.cell? ⟨p, 1, none⟩ = some (.slice (some ⟨g, 0, none⟩) (rst l).length cp) := cellOf2 (o := 1) HB.out.cells rfl
    have ck : w1.cell? ⟨w.heap.size + 1, 0, none⟩ = some (.string key) := cellOf2 (o := 0) HK1.out rfl
    have cb : w1.cell? ⟨w.heap.size, 0, none⟩ = some ((Value.pointer (some ⟨p, 0, none⟩))) := cellOf2 (o := 0) HC1.out rfl
    obtain ⟨F, hF⟩ : ∃ F, F = findN (bl key) l := ⟨_, rfl⟩
    have HF := Lib.hid hF
    have hFl : F ≤ l.length := by rw [hF]; exact findN_le _ _
    have hFi : ∀ i (hi : i < l.length), l[i].1 < bl key ↔ i < F := fun i hi => by rw [hF]; exact findN_iff HB.out.rise _ _ hi
    have hFe : ∀ i (hi : i < l.length), l[i].1 = bl key → F = i := fun i hi h => by rw [hF]; exact findN_eq HB.out.rise _ _ hi h
    have hbs : Calls Try.prog 47 #[.slice (some ⟨g, 0, none⟩) (rst l).length cp, .string key, .func (.func 48) #[] #[(Value.pointer (some ⟨w.heap.size, 0, none⟩))]] w1.drew (fun e w' => ∃ fnd : Bool, e = .returned (.tuple #[.int .i64 ((F + 7) / 8 : Nat), .bool fnd]) ∧ (fnd = true → (F + 7) / 8 < (rst l).length ∧ F = 8 * ((F + 7) / 8)) ∧ Below w1.heap.size w1 w') := by
      have hlen := HRL.out
      refine (bsf_any 48 #[(Value.pointer (some ⟨w.heap.size, 0, none⟩))] seek1_enter g (rst l).length cp (fun i => ((rst l).getD i 0 : Nat)) (fun i => Lib.compareBytes (l.getD (8 * i) ([], [])).1 (bl key)) key ((F + 7) / 8) w1.drew hg (by omega) ?_ (by omega) ?_ ?_ ?_).mono ?_
      · intro i hi
        refine hcell i _ ?_
        rw [List.getElem?_map, List.getElem?_eq_getElem hi]
        simp [List.getD, List.getElem?_eq_getElem hi]
      · intro i hi
        have h8 : 8 * i < l.length := by omega
        rw [show l.getD (8 * i) ([], []) = l[8 * i] by simp [List.getD, List.getElem?_eq_getElem h8]]
        exact (cmpB _ _).1.2 ((hFi _ h8).2 (by omega))
      · intro i hi hi2
        have h8 : 8 * i < l.length := by omega
        rw [show l.getD (8 * i) ([], []) = l[8 * i] by simp [List.getD, List.getElem?_eq_getElem h8]]
        have h1 : ¬ Lib.compareBytes l[8 * i].1 (bl key) < 0 := fun h => by have := (hFi _ h8).1 ((cmpB _ _).1.1 h); omega
        omega
      · intro i W hi hW
        have h8 : 8 * i < l.length := by omega
        rw [show l.getD (8 * i) ([], []) = l[8 * i] by simp [List.getD, List.getElem?_eq_getElem h8]]
        have hW1 : Below w1.heap.size w1 W := hW.undrew
        refine (seek1_any i ((rst l).getD i 0) w.heap.size p B _ l key W (h2_of hW1 HB.out) (HC1.out.below hW1) h8 (by simp [List.getD, List.getElem?_eq_getElem hi])).mono ?_
        rintro e w' ⟨rfl, hb⟩
        exact ⟨rfl, hb⟩
      · rintro e w' ⟨rfl, hb⟩
        refine ⟨_, rfl, fun hd => ?_, hb.undrew⟩
        rw [decide_eq_true_eq] at hd
        obtain ⟨hd1, hd2⟩ := hd
        have h8 : 8 * ((F + 7) / 8) < l.length := by omega
        rw [show l.getD (8 * ((F + 7) / 8)) ([], []) = l[8 * ((F + 7) / 8)] by simp [List.getD, List.getElem?_eq_getElem h8]] at hd2
        exact ⟨hd1, hFe _ h8 ((cmpB _ _).2.1 hd2)⟩
    have HBS := Lib.hid hbs
    have HFI := Lib.hid hFi
    clear hbs hFi hFe hF hcell cc
    go_wp2_with fail
    (with_reducible refine HLN.out.mono ?_)
    rintro e w2 ⟨rfl, rfl⟩
    go_wp2_with fail
    refine wp_region_held_drew (S := (fun w' => w'.cell? ⟨w.heap.size, 0, none⟩ = some ((Value.pointer (some ⟨p, 0, none⟩))) ∧ w'.cell? ⟨p, 1, none⟩ = some (.slice (some ⟨g, 0, none⟩) (rst l).length cp) ∧ w'.cell? ⟨w.heap.size + 1, 0, none⟩ = some (.string key))) (by kernel_rfl) (by (try dsimp only); exact ⟨cb, c1, ck⟩) (fun hHeld => ?_)
    refine takeH (i := 0) (d := some 12) (v := ?_) rfl rfl (by kernel_rfl) (by kernel_rfl) (by kernel_rfl) (fun _ _ _ h => h) (Or.inl ⟨by rfl, ?_⟩) (by assumption) ?_
    rotate_left
    · intro wS hSw; (try dsimp only at hSw); go_simp; (try (with_reducible rfl))
    simp only [Act.put, List.setIfInBounds_toArray, List.set_cons_zero, List.set_cons_succ]
    refine takeH (i := 1) (d := some 13) (v := ?_) rfl rfl (by kernel_rfl) (by kernel_rfl) (by kernel_rfl) (fun _ _ _ h => h) (Or.inl ⟨by rfl, ?_⟩) (by assumption) ?_
    rotate_left
    · intro wS hSw; (try dsimp only at hSw); go_simp; (try (with_reducible rfl))
    simp only [Act.put, List.setIfInBounds_toArray, List.set_cons_zero, List.set_cons_succ]
    refine takeH (i := 2) (d := some 14) (v := ?_) rfl rfl (by kernel_rfl) (by kernel_rfl) (by kernel_rfl) (fun _ _ _ h => h) (Or.inl ⟨by rfl, ?_⟩) (by assumption) ?_
    rotate_left
    · intro wS hSw; (try dsimp only at hSw); go_simp; (try (with_reducible rfl))
    simp only [Act.put, List.setIfInBounds_toArray, List.set_cons_zero, List.set_cons_succ]
    refine takeH (i := 3) (d := some 15) (v := ?_) rfl rfl (by kernel_rfl) (by kernel_rfl) (by kernel_rfl) (fun _ _ _ h => h) (Or.inl ⟨by rfl, ?_⟩) (by assumption) ?_
    rotate_left
    · intro wS hSw; (try dsimp only at hSw); go_simp; (try (with_reducible rfl))
    simp only [Act.put, List.setIfInBounds_toArray, List.set_cons_zero, List.set_cons_succ]
    refine takeH (i := 4) (d := some 16) (v := ?_) rfl rfl (by kernel_rfl) (by kernel_rfl) (by kernel_rfl) (fun _ _ _ h => h) (Or.inl ⟨by rfl, ?_⟩) (by assumption) ?_
    rotate_left
    · intro wS hSw; (try dsimp only at hSw); go_simp; (try (with_reducible rfl))
    simp only [Act.put, List.setIfInBounds_toArray, List.set_cons_zero, List.set_cons_succ]
    refine takeH (i := 5) (d := some 17) (v := ?_) rfl rfl (by kernel_rfl) (by kernel_rfl) (by kernel_rfl) (fun _ _ _ h => h) (Or.inl ⟨by rfl, ?_⟩) (by assumption) ?_
    rotate_left
    · intro wS hSw; (try dsimp only at hSw); go_simp; (try (with_reducible rfl))
    simp only [Act.put, List.setIfInBounds_toArray, List.set_cons_zero, List.set_cons_succ]
    refine wpAnyH_ready (rs := [6]) (by kernel_rfl) (by simp) ?_
    refine AllReadyH.cons rfl (fun K hK => ?_) AllReadyH.nil
    go_simp
    refine HBS.out.mono ?_
    rintro e w2 ⟨fnd, rfl, hfnd, hb2⟩
    have k0 := (Fr.of_below (fun _ => False) hb2).cell cb (fun h => h)
    have k1 := (Fr.of_below (fun _ => False) hb2).cell c1 (fun h => h)
    have k2 := (Fr.of_below (fun _ => False) hb2).cell ck (fun h => h)
    have HB2 := Lib.hid hb2
    have HFND := Lib.hid hfnd
    clear hb2 hfnd
    go_wp2_with fail
    refine hK.out _ _ (by (try dsimp only); exact ⟨k0, k1, k2⟩) (fun hHeld => ?_)
    clear hK K
    refine takeH (i := 7) (d := some 11) (v := ?_) rfl rfl (by kernel_rfl) (by kernel_rfl) (by kernel_rfl) (fun _ _ _ h => h) (Or.inl ⟨by rfl, ?_⟩) (by assumption) ?_
    rotate_left
    · intro wS hSw; (try dsimp only at hSw); go_simp; (try (with_reducible rfl))
    simp only [Act.put, List.setIfInBounds_toArray, List.set_cons_zero, List.set_cons_succ]
    refine takeH (i := 8) (d := some 19) (v := ?_) rfl rfl (by kernel_rfl) (by kernel_rfl) (by kernel_rfl) (fun _ _ _ h => h) (Or.inl ⟨by rfl, ?_⟩) (by assumption) ?_
    rotate_left
    · intro wS hSw; (try dsimp only at hSw); go_simp; (try (with_reducible rfl))
    simp only [Act.put, List.setIfInBounds_toArray, List.set_cons_zero, List.set_cons_succ]
    refine takeH (i := 9) (d := some 20) (v := ?_) rfl rfl (by kernel_rfl) (by kernel_rfl) (by kernel_rfl) (fun _ _ _ h => h) (Or.inl ⟨by rfl, ?_⟩) (by assumption) ?_
    rotate_left
    · intro wS hSw; (try dsimp only at hSw); go_simp; (try (with_reducible rfl))
    simp only [Act.put, List.setIfInBounds_toArray, List.set_cons_zero, List.set_cons_succ]
    refine takeH (i := 10) (d := some 5) (v := ?_) rfl rfl (by kernel_rfl) (by kernel_rfl) (by kernel_rfl) (fun _ _ _ h => h) (Or.inl ⟨by rfl, ?_⟩) (by assumption) ?_
    rotate_left
    · intro wS hSw; (try dsimp only at hSw); go_simp; (try (with_reducible rfl))
    simp only [Act.put, List.setIfInBounds_toArray, List.set_cons_zero, List.set_cons_succ]
    refine takeH (i := 11) (d := some 6) (v := ?_) rfl rfl (by kernel_rfl) (by kernel_rfl) (by kernel_rfl) (fun _ _ _ h => h) (Or.inl ⟨by rfl, ?_⟩) (by assumption) ?_
    rotate_left
    · intro wS hSw; (try dsimp only at hSw); go_simp; (try (with_reducible rfl))
    simp only [Act.put, List.setIfInBounds_toArray, List.set_cons_zero, List.set_cons_succ]
    refine wpAnyH_done (by kernel_rfl) ?_ _
    have hb2 := h2_of HB2.out HB.out
    have c20 : w2.cell? ⟨p, 2, none⟩ = some (.int .i64 l.length) := cellOf2 (o := 2) hb2.cells rfl
    have hw2 := HB2.out.size
    have hw1 := HS1.out
    have hal : At1 (w2.alloc (.cells #[.int .i64 l.length] 3)) w2.heap.size (.int .i64 l.length) 3 := At1.new _ _ _
    have hba : Below w2.heap.size w2 (w2.alloc (.cells #[.int .i64 l.length] 3)) := (Below.refl _ w2).alloc (Nat.le_refl _) _
    have hfs : ∀ r, 8 * r ≤ F → 8 * r < l.length → _ := fun r h1 h2 => from_seek r F (w.heap.size + 1) w2.heap.size p B _ l key _ (h2_of hba hb2) ((HK1.out.below HB2.out).below hba) hal HFI.out hFl h1 h2 (by omega) (by omega) (fun g hg e => by have := HROW.out g hg; omega)
    have ca : (w2.alloc (.cells #[.int .i64 l.length] 3)).cell? ⟨w.heap.size, 0, none⟩ = some ((Value.pointer (some ⟨p, 0, none⟩))) := cellOf2 (o := 0) (((HC1.out.below HB2.out).below hba)) rfl
    have HFS := Lib.hid hfs
    have HBA := Lib.hid (HB1.out.trans ((HB2.out.trans (hba.mono hw2)).mono HB1.out.size))
    have fin : ∀ w', Fr (fun k => k = w2.heap.size) (w2.alloc (.cells #[.int .i64 l.length] 3)) w' → Below w.heap.size w w' := fun w' hf => HBA.out.trans (hf.below HBA.out.size (fun k _ e => by omega))
    have HFIN := Lib.hid fin
    have HF7 : Hid (((F : Int) + 7) / 8 = ((F + 7) / 8 : Nat)) := Lib.hid (by omega)
    rw [HF7.out]
    have hlen := HRL.out
    clear hb2 hal hba hfs fin c1 ck cb hHeld
    rcases fnd with _ | _
    · obtain ⟨K, hK⟩ : ∃ K, K = (F + 7) / 8 := ⟨_, rfl⟩
      rw [← hK]
      clear HFND
      rcases Nat.eq_zero_or_pos K with k0 | k0
      · subst k0
        have hfk := HFS.out 0 (by omega) (by omega)
        have HFK := Lib.hid hfk
        rw [show ((0 : Nat) : Int) = 0 from rfl] at HFK ⊢
        have d2 : decide ((0 : Int) < 0) = false := rfl
        have d1 : ((0 : Int) == ((rst l).length : Int)) = false := by rw [beq_eq_false_iff_ne]; omega
        clear hlen hK hfk
        go_wp2_with fail
        (with_reducible refine HFK.out.mono ?_)
        rintro e w6 ⟨rfl, ho6, hf6⟩
        have c6 := cellOf2 (o := 0) ho6 rfl
        have HE := Lib.hid (HFIN.out _ hf6)
        clear ho6 hf6
        go_wp2_with fail
        go_ret
        exact ⟨by rw [HF.out]; rfl, HE.out⟩
      · have hfk := HFS.out (K - 1) (by omega) (by omega)
        have HFK := Lib.hid hfk
        have e1 : ((K - 1 : Nat) : Int) = (K : Int) - 1 := by omega
        rw [e1] at HFK
        have d2 : decide ((0 : Int) < (K : Int)) = true := by rw [decide_eq_true_eq]; omega
        have k0' : (0 : Nat) < K := k0
        have w1' : IntKind.i64.wrap ((K : Int) - 1) = (K : Int) - 1 := IntWalk.i64_in _ (by omega)
        have d1 : ((K : Int) - 1 == ((rst l).length : Int)) = false := by rw [beq_eq_false_iff_ne]; omega
        clear hlen hK hfk e1
        go_wp2_with fail
        (with_reducible refine HFK.out.mono ?_)
        rintro e w6 ⟨rfl, ho6, hf6⟩
        have c6 := cellOf2 (o := 0) ho6 rfl
        have HE := Lib.hid (HFIN.out _ hf6)
        clear ho6 hf6
        go_wp2_with fail
        go_ret
        exact ⟨by rw [HF.out]; rfl, HE.out⟩
    · obtain ⟨f1, f2⟩ := HFND.out rfl
      obtain ⟨K, hK⟩ : ∃ K, K = (F + 7) / 8 := ⟨_, rfl⟩
      rw [← hK] at f1 f2 ⊢
      have hfk := HFS.out K (by omega) (by omega)
      have HFK := Lib.hid hfk
      have d1 : ((K : Int) == ((rst l).length : Int)) = false := by rw [beq_eq_false_iff_ne]; omega
      clear hlen hK hfk
      go_wp2_with fail
      (with_reducible refine HFK.out.mono ?_)
      rintro e w6 ⟨rfl, ho6, hf6⟩
      have c6 := cellOf2 (o := 0) ho6 rfl
      have HE := Lib.hid (HFIN.out _ hf6)
      clear ho6 hf6
      go_wp2_with fail
      go_ret
      exact ⟨by show Ending.returned (Value.int .i64 (8 * (K : Int))) = _; rw [← HF.out, show (F : Int) = 8 * (K : Int) by omega], HE.out⟩
end Go.Proofs.Ytcoicdaobgneeaa
