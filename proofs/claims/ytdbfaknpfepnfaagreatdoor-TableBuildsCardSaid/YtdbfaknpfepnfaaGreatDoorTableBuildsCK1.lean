/-
  Texts of the claim, joined: TabBsW.
-/
import Derived.Test.YtdbfaknpfepnfaaGreatDoorTabBK7
import Derived.Deep.RegionHeld3
import Derived.Deep.RegionWith

/-
  The walk of the law TableBuilds.
-/
namespace Go.Proofs.YtdbfaknpfepnfaaGreatDoor
open Go.RowKit CodecP CrcP FrameP BloomP

attribute [local go_sem] yl_undef
set_option maxRecDepth 100000 in
theorem lss_is (a b : ByteArray) : Op.bytesLess a.toList b.toList = decide (bl a < bl b) := by
  rw [bytesLess_eq, ByteArray.toList_eq, ByteArray.toList_eq]
  rfl
set_option maxRecDepth 100000 in
set_option maxHeartbeats 40000000 in
theorem tableBuilds_law (v : Value) (L : List Pr) (size : Int) (w : World) (h : PrsIn w v L) (hni : ∀ W, Below w.heap.size w W → Nibs W) :
    Calls Tryz.prog 5 #[v, .int .i64 size] w fun e w' => e = .returned (.bool true) ∧ Below w.heap.size w w' := by
  obtain ⟨i0, hi, hz0, hz1, hz2⟩ := info_parts info_prR
  have HA := Lib.hid fun W (hW : Below w.heap.size w W) => tabAwake_any W (fun W2 hW2 => hni W2 (hW.trans (hW2.mono hW.size)))
  have HNI := Lib.hid hni
  clear hni
  by_cases hG : Grt L
  · have HG := Lib.hid (great_any v L w h true ⟨fun _ => hG, fun _ => rfl⟩)
    clear h hG
    go_enter Tryz.func5, Tryz.ntmps5
    go_wp2_with fail
    (with_reducible refine HG.out.mono ?_)
    rintro e w1 ⟨rfl, hb1⟩
    have HB1 := Lib.hid hb1
    clear hb1
    go_wp2_with fail
    (with_reducible refine (HA.out _ HB1.out).mono ?_)
    rintro e w2 ⟨rfl, hb2⟩
    have HB := Lib.hid (HB1.out.trans (hb2.mono HB1.out.size))
    clear hb2
    go_wp2_with fail
    go_ret
    exact ⟨rfl, HB.out⟩
  · have HG := Lib.hid (great_any v L w h false ⟨(fun h => by cases h), fun h => absurd h hG⟩)
    have hl200 : L.length ≤ 200 := by unfold Grt at hG; omega
    have HC := Lib.hid (fun A n cap hv i hi => h.cells (A := A) (n := n) (cap := cap) hv (i := i) hi)
    have HLE := Lib.hid h.le
    obtain ⟨A, cap, hv, hs⟩ := h.ex
    subst hv
    have hcl := hs.le
    have hcm := hs.max
    unfold maxLen at hcm
    obtain ⟨sz, hsz⟩ : ∃ sz, sz = clampN size := ⟨_, rfl⟩
    have hc1 := clamp_le size
    rw [← hsz] at hc1
    have HSZ := Lib.hid hsz
    have HC1 := Lib.hid hc1
    have HNW := Lib.hid (tNew_any size)
    rw [← hsz] at HNW
    clear h hG hs hsz hc1
    go_enter Tryz.func5, Tryz.ntmps5
    go_wp2_with fail
    (with_reducible refine HG.out.mono ?_)
    rintro e w1 ⟨rfl, hb1⟩
    have HB1 := Lib.hid hb1
    clear hb1
    go_wp2_with fail
    (with_reducible refine (HA.out _ HB1.out).mono ?_)
    rintro e w2 ⟨rfl, hb2⟩
    have HB2 := Lib.hid (HB1.out.trans (hb2.mono HB1.out.size))
    clear hb2 HG HA
    go_wp2_with fail
    (with_reducible refine (HNW.out _).mono ?_)
    rintro e w3 ⟨p, x, rfl, htb, hS, hb3⟩
    have hN : TN w w3 p sz [] x (.slice none 0 0) [] := ⟨htb, fun k hk => Nat.le_trans HB2.out.size (hS k hk), HB2.out.trans (hb3.mono HB2.out.size), World.ownsRow_nil _ _ _ _, accI_nil sz HC1.out.2.1 HC1.out.1⟩
    have HN := Lib.hid hN
    clear htb hS hb3 hN HNW
    go_wp2_with fail
    go_loopg [6, 7] L.length (fun g nv iv wr => ∃ (i : Nat) (ps : List Pr) (x : TbS), i + g = L.length ∧ iv = .int .i64 i ∧ TN w wr p sz ps x nv ps ∧ ps.length ≤ i)
    case atStart => exact ⟨0, [], _, by omega, rfl, HN.out, by simp⟩
    case round =>
      clear HN
      obtain ⟨i, ps, x, hig, rfl, hBN, hpi⟩ := hrel
      obtain ⟨ao, cp, hnv⟩ := own_form hBN.row
      subst hnv
      have HB := Lib.hid hBN
      clear hBN
      by_cases hlt : i < L.length
      · obtain ⟨bk, off, rfl, hc⟩ := HC.out _ _ _ rfl i hlt
        have hle := HLE.out L[i] (List.getElem_mem hlt)
        have HCW := Lib.hid (fun W hW => hc W hW i hlt)
        obtain ⟨c0, c1⟩ := hc wr HB.out.bel i hlt
        have e1 := str_size L[i].1
        have e2 := str_size L[i].2
        rw [← e1, ← e2] at hle
        obtain ⟨hk, hv⟩ := hle
        have hp : L[i] = (bl (str L[i].1), bl (str L[i].2)) := by rw [bl_str, bl_str]
        have hCd : ∃ C : Bool, (C = true ↔ (Okp L[i] ∧ lastK ps < L[i].1)) := ⟨@decide _ (Classical.propDecidable _), @decide_eq_true_iff _ (Classical.propDecidable _)⟩
        obtain ⟨C, hC⟩ := hCd
        have hOd : ∃ O : Bool, (O = true ↔ Okp L[i]) := ⟨decide (Okp L[i]), by simp⟩
        obtain ⟨O, hO⟩ := hOd
        rw [hp] at hC hO
        have HRT := Lib.hid (fun W => refRight_any (str L[i].1) (str L[i].2) W hk hv O hO)
        have gi : (i : Int) < (L.length : Int) := by omega
        have HP := Lib.hid hp
        have HCC := Lib.hid hC
        have HOO := Lib.hid hO
        clear hc e1 e2 hp hC hO
        generalize str L[i].1 = sk at *
        generalize str L[i].2 = sv at *
        generalize L[i] = pr at *
        have hdr : Below w.heap.size w wr.drew := HB.out.bel.drew
        obtain ⟨d0, d1⟩ := HCW.out _ hdr
        have hC1 := HCC.out
        have hO1 := HOO.out
        go_upto_region 8 with (fail)
        go_cut [8] (fun sv wx => sv = .bool C ∧ Below wr.heap.size wr wx)
        case first =>
          cases O with
          | false =>
            have hCf : C = false := by
              cases C with
              | false => rfl
              | true => exact absurd (hO1.2 (hC1.1 rfl).1) (by simp)
            subst hCf
            clear hC1 hO1
            go_wp2_with fail
            refine wp_region_held_drew (S := (fun w' => w'.cell? ⟨bk, off + i * 2, none⟩ = some (.string sk) ∧ w'.cell? ⟨bk, off + i * 2 + 1, none⟩ = some (.string sv))) (by kernel_rfl) (by (try dsimp only); exact ⟨d0, d1⟩) (fun hHeld => ?_)
            refine takeH (i := 0) (d := some 35) (v := ?_) rfl rfl (by kernel_rfl) (by kernel_rfl) (by kernel_rfl) (fun _ _ _ h => h) (Or.inl ⟨by rfl, ?_⟩) (by assumption) ?_
            rotate_left
            · intro wS hSw; (try dsimp only at hSw); go_simp; (try (with_reducible rfl))
            simp only [Act.put, List.setIfInBounds_toArray, List.set_cons_zero, List.set_cons_succ]
            refine takeH (i := 1) (d := some 36) (v := ?_) rfl rfl (by kernel_rfl) (by kernel_rfl) (by kernel_rfl) (fun _ _ _ h => h) (Or.inl ⟨by rfl, ?_⟩) (by assumption) ?_
            rotate_left
            · intro wS hSw; (try dsimp only at hSw); go_simp; (try (with_reducible rfl))
            simp only [Act.put, List.setIfInBounds_toArray, List.set_cons_zero, List.set_cons_succ]
            refine takeH (i := 2) (d := some 37) (v := ?_) rfl rfl (by kernel_rfl) (by kernel_rfl) (by kernel_rfl) (fun _ _ _ h => h) (Or.inl ⟨by rfl, ?_⟩) (by assumption) ?_
            rotate_left
            · intro wS hSw; (try dsimp only at hSw); go_simp; (try (with_reducible rfl))
            simp only [Act.put, List.setIfInBounds_toArray, List.set_cons_zero, List.set_cons_succ]
            refine takeH (i := 3) (d := some 38) (v := ?_) rfl rfl (by kernel_rfl) (by kernel_rfl) (by kernel_rfl) (fun _ _ _ h => h) (Or.inl ⟨by rfl, ?_⟩) (by assumption) ?_
            rotate_left
            · intro wS hSw; (try dsimp only at hSw); go_simp; (try (with_reducible rfl))
            simp only [Act.put, List.setIfInBounds_toArray, List.set_cons_zero, List.set_cons_succ]
            refine wpAnyH_ready (rs := [4]) (by kernel_rfl) (by simp) ?_
            refine AllReadyH.cons rfl (fun K hK => ?_) AllReadyH.nil
            go_simp
            refine (HRT.out _).mono ?_
            rintro e w4 ⟨rfl, hb4⟩
            obtain ⟨k0, k1⟩ := HCW.out w4 (HB.out.bel.drew.trans (hb4.mono HB.out.bel.size))
            have HB4 := Lib.hid hb4
            clear hb4
            go_wp2_with fail
            refine hK.out _ _ (by (try dsimp only); exact ⟨k0, k1⟩) (fun hHeld => ?_)
            clear hK K
            refine takeH (i := 5) (d := some 40) (v := ?_) rfl rfl (by kernel_rfl) (by kernel_rfl) (by kernel_rfl) (fun _ _ _ h => h) (Or.inl ⟨by rfl, ?_⟩) (by assumption) ?_
            rotate_left
            · intro wS hSw; (try dsimp only at hSw); go_simp; (try (with_reducible rfl))
            simp only [Act.put, List.setIfInBounds_toArray, List.set_cons_zero, List.set_cons_succ]
            refine takeH (i := 6) (d := some 41) (v := undef) rfl rfl (by kernel_rfl) (by kernel_rfl) (by kernel_rfl) (fun _ _ _ h => h) (Or.inr ⟨by rfl, rfl⟩) (by assumption) ?_
            simp only [Act.put, List.setIfInBounds_toArray, List.set_cons_zero, List.set_cons_succ]
            refine takeH (i := 7) (d := some 42) (v := undef) rfl rfl (by kernel_rfl) (by kernel_rfl) (by kernel_rfl) (fun _ _ _ h => h) (Or.inr ⟨by rfl, rfl⟩) (by assumption) ?_
            simp only [Act.put, List.setIfInBounds_toArray, List.set_cons_zero, List.set_cons_succ]
            refine takeH (i := 8) (d := some 43) (v := undef) rfl rfl (by kernel_rfl) (by kernel_rfl) (by kernel_rfl) (fun _ _ _ h => h) (Or.inr ⟨by rfl, rfl⟩) (by assumption) ?_
            simp only [Act.put, List.setIfInBounds_toArray, List.set_cons_zero, List.set_cons_succ]
            refine takeH (i := 9) (d := some 44) (v := undef) rfl rfl (by kernel_rfl) (by kernel_rfl) (by kernel_rfl) (fun _ _ _ h => h) (Or.inr ⟨by rfl, rfl⟩) (by assumption) ?_
            simp only [Act.put, List.setIfInBounds_toArray, List.set_cons_zero, List.set_cons_succ]
            refine takeH (i := 10) (d := some 45) (v := undef) rfl rfl (by kernel_rfl) (by kernel_rfl) (by kernel_rfl) (fun _ _ _ h => h) (Or.inr ⟨by rfl, rfl⟩) (by assumption) ?_
            simp only [Act.put, List.setIfInBounds_toArray, List.set_cons_zero, List.set_cons_succ]
            refine takeH (i := 11) (d := some 46) (v := undef) rfl rfl (by kernel_rfl) (by kernel_rfl) (by kernel_rfl) (fun _ _ _ h => h) (Or.inr ⟨by rfl, rfl⟩) (by assumption) ?_
            simp only [Act.put, List.setIfInBounds_toArray, List.set_cons_zero, List.set_cons_succ]
            refine takeH (i := 12) (d := some 47) (v := undef) rfl rfl (by kernel_rfl) (by kernel_rfl) (by kernel_rfl) (fun _ _ _ h => h) (Or.inr ⟨by rfl, rfl⟩) (by assumption) ?_
            simp only [Act.put, List.setIfInBounds_toArray, List.set_cons_zero, List.set_cons_succ]
            refine takeH (i := 13) (d := some 48) (v := undef) rfl rfl (by kernel_rfl) (by kernel_rfl) (by kernel_rfl) (fun _ _ _ h => h) (Or.inr ⟨by rfl, rfl⟩) (by assumption) ?_
            simp only [Act.put, List.setIfInBounds_toArray, List.set_cons_zero, List.set_cons_succ]
            refine takeH (i := 14) (d := some 49) (v := undef) rfl rfl (by kernel_rfl) (by kernel_rfl) (by kernel_rfl) (fun _ _ _ h => h) (Or.inr ⟨by rfl, rfl⟩) (by assumption) ?_
            simp only [Act.put, List.setIfInBounds_toArray, List.set_cons_zero, List.set_cons_succ]
            refine takeH (i := 15) (d := some 50) (v := undef) rfl rfl (by kernel_rfl) (by kernel_rfl) (by kernel_rfl) (fun _ _ _ h => h) (Or.inr ⟨by rfl, rfl⟩) (by assumption) ?_
            simp only [Act.put, List.setIfInBounds_toArray, List.set_cons_zero, List.set_cons_succ]
            refine takeH (i := 16) (d := some 51) (v := undef) rfl rfl (by kernel_rfl) (by kernel_rfl) (by kernel_rfl) (fun _ _ _ h => h) (Or.inr ⟨by rfl, rfl⟩) (by assumption) ?_
            simp only [Act.put, List.setIfInBounds_toArray, List.set_cons_zero, List.set_cons_succ]
            refine takeH (i := 17) (d := some 52) (v := undef) rfl rfl (by kernel_rfl) (by kernel_rfl) (by kernel_rfl) (fun _ _ _ h => h) (Or.inr ⟨by rfl, rfl⟩) (by assumption) ?_
            simp only [Act.put, List.setIfInBounds_toArray, List.set_cons_zero, List.set_cons_succ]
            refine takeH (i := 18) (d := some 53) (v := undef) rfl rfl (by kernel_rfl) (by kernel_rfl) (by kernel_rfl) (fun _ _ _ h => h) (Or.inr ⟨by rfl, rfl⟩) (by assumption) ?_
            simp only [Act.put, List.setIfInBounds_toArray, List.set_cons_zero, List.set_cons_succ]
            refine takeH (i := 19) (d := some 54) (v := undef) rfl rfl (by kernel_rfl) (by kernel_rfl) (by kernel_rfl) (fun _ _ _ h => h) (Or.inr ⟨by rfl, rfl⟩) (by assumption) ?_
            simp only [Act.put, List.setIfInBounds_toArray, List.set_cons_zero, List.set_cons_succ]
            refine takeH (i := 20) (d := some 55) (v := undef) rfl rfl (by kernel_rfl) (by kernel_rfl) (by kernel_rfl) (fun _ _ _ h => h) (Or.inr ⟨by rfl, rfl⟩) (by assumption) ?_
            simp only [Act.put, List.setIfInBounds_toArray, List.set_cons_zero, List.set_cons_succ]
            refine takeH (i := 21) (d := some 56) (v := undef) rfl rfl (by kernel_rfl) (by kernel_rfl) (by kernel_rfl) (fun _ _ _ h => h) (Or.inr ⟨by rfl, rfl⟩) (by assumption) ?_
            simp only [Act.put, List.setIfInBounds_toArray, List.set_cons_zero, List.set_cons_succ]
            refine takeH (i := 22) (d := some 57) (v := undef) rfl rfl (by kernel_rfl) (by kernel_rfl) (by kernel_rfl) (fun _ _ _ h => h) (Or.inr ⟨by rfl, rfl⟩) (by assumption) ?_
            simp only [Act.put, List.setIfInBounds_toArray, List.set_cons_zero, List.set_cons_succ]
            refine takeH (i := 23) (d := some 58) (v := undef) rfl rfl (by kernel_rfl) (by kernel_rfl) (by kernel_rfl) (fun _ _ _ h => h) (Or.inr ⟨by rfl, rfl⟩) (by assumption) ?_
            simp only [Act.put, List.setIfInBounds_toArray, List.set_cons_zero, List.set_cons_succ]
            refine takeH (i := 24) (d := some 59) (v := ?_) rfl rfl (by kernel_rfl) (by kernel_rfl) (by kernel_rfl) (fun _ _ _ h => h) (Or.inl ⟨by rfl, ?_⟩) (by assumption) ?_
            rotate_left
            · intro wS hSw; (try dsimp only at hSw); go_simp; (try (with_reducible rfl))
            simp only [Act.put, List.setIfInBounds_toArray, List.set_cons_zero, List.set_cons_succ]
            refine takeH (i := 25) (d := some 8) (v := ?_) rfl rfl (by kernel_rfl) (by kernel_rfl) (by kernel_rfl) (fun _ _ _ h => h) (Or.inl ⟨by rfl, ?_⟩) (by assumption) ?_
            rotate_left
            · intro wS hSw; (try dsimp only at hSw); go_simp; (try (with_reducible rfl))
            simp only [Act.put, List.setIfInBounds_toArray, List.set_cons_zero, List.set_cons_succ]
            refine wpAnyH_done (by kernel_rfl) ?_ _
            go_wp2_with fail
            go_meet
            case rel => exact ⟨rfl, HB4.out.undrew⟩
          | true =>
            have hok := hO1.1 rfl
            rcases Nat.eq_zero_or_pos ps.length with h0 | h0
            · obtain rfl := List.length_eq_zero_iff.1 h0
              have hCf : C = true := hC1.2 ⟨hok, nil_lt hok.1⟩
              subst hCf
              clear hC1 hO1 hok h0
              go_wp2_with fail
              refine wp_region_held_drew (S := (fun w' => w'.cell? ⟨bk, off + i * 2, none⟩ = some (.string sk) ∧ w'.cell? ⟨bk, off + i * 2 + 1, none⟩ = some (.string sv))) (by kernel_rfl) (by (try dsimp only); exact ⟨d0, d1⟩) (fun hHeld => ?_)
              refine takeH (i := 0) (d := some 35) (v := ?_) rfl rfl (by kernel_rfl) (by kernel_rfl) (by kernel_rfl) (fun _ _ _ h => h) (Or.inl ⟨by rfl, ?_⟩) (by assumption) ?_
              rotate_left
              · intro wS hSw; (try dsimp only at hSw); go_simp; (try (with_reducible rfl))
              simp only [Act.put, List.setIfInBounds_toArray, List.set_cons_zero, List.set_cons_succ]
              refine takeH (i := 1) (d := some 36) (v := ?_) rfl rfl (by kernel_rfl) (by kernel_rfl) (by kernel_rfl) (fun _ _ _ h => h) (Or.inl ⟨by rfl, ?_⟩) (by assumption) ?_
              rotate_left
              · intro wS hSw; (try dsimp only at hSw); go_simp; (try (with_reducible rfl))
              simp only [Act.put, List.setIfInBounds_toArray, List.set_cons_zero, List.set_cons_succ]
              refine takeH (i := 2) (d := some 37) (v := ?_) rfl rfl (by kernel_rfl) (by kernel_rfl) (by kernel_rfl) (fun _ _ _ h => h) (Or.inl ⟨by rfl, ?_⟩) (by assumption) ?_
              rotate_left
              · intro wS hSw; (try dsimp only at hSw); go_simp; (try (with_reducible rfl))
              simp only [Act.put, List.setIfInBounds_toArray, List.set_cons_zero, List.set_cons_succ]
              refine takeH (i := 3) (d := some 38) (v := ?_) rfl rfl (by kernel_rfl) (by kernel_rfl) (by kernel_rfl) (fun _ _ _ h => h) (Or.inl ⟨by rfl, ?_⟩) (by assumption) ?_
              rotate_left
              · intro wS hSw; (try dsimp only at hSw); go_simp; (try (with_reducible rfl))
              simp only [Act.put, List.setIfInBounds_toArray, List.set_cons_zero, List.set_cons_succ]
              refine wpAnyH_ready (rs := [4]) (by kernel_rfl) (by simp) ?_
              refine AllReadyH.cons rfl (fun K hK => ?_) AllReadyH.nil
              go_simp
              refine (HRT.out _).mono ?_
              rintro e w4 ⟨rfl, hb4⟩
              obtain ⟨k0, k1⟩ := HCW.out w4 (HB.out.bel.drew.trans (hb4.mono HB.out.bel.size))
              have HB4 := Lib.hid hb4
              clear hb4
              go_wp2_with fail
              refine hK.out _ _ (by (try dsimp only); exact ⟨k0, k1⟩) (fun hHeld => ?_)
              clear hK K
              refine takeH (i := 5) (d := some 40) (v := ?_) rfl rfl (by kernel_rfl) (by kernel_rfl) (by kernel_rfl) (fun _ _ _ h => h) (Or.inl ⟨by rfl, ?_⟩) (by assumption) ?_
              rotate_left
              · intro wS hSw; (try dsimp only at hSw); go_simp; (try (with_reducible rfl))
              simp only [Act.put, List.setIfInBounds_toArray, List.set_cons_zero, List.set_cons_succ]
              refine takeH (i := 6) (d := some 41) (v := ?_) rfl rfl (by kernel_rfl) (by kernel_rfl) (by kernel_rfl) (fun _ _ _ h => h) (Or.inl ⟨by rfl, ?_⟩) (by assumption) ?_
              rotate_left
              · intro wS hSw; (try dsimp only at hSw); go_simp; (try (with_reducible rfl))
              simp only [Act.put, List.setIfInBounds_toArray, List.set_cons_zero, List.set_cons_succ]
              refine takeH (i := 7) (d := some 42) (v := ?_) rfl rfl (by kernel_rfl) (by kernel_rfl) (by kernel_rfl) (fun _ _ _ h => h) (Or.inl ⟨by rfl, ?_⟩) (by assumption) ?_
              rotate_left
              · intro wS hSw; (try dsimp only at hSw); go_simp; (try (with_reducible rfl))
              simp only [Act.put, List.setIfInBounds_toArray, List.set_cons_zero, List.set_cons_succ]
              refine takeH (i := 8) (d := some 43) (v := ?_) rfl rfl (by kernel_rfl) (by kernel_rfl) (by kernel_rfl) (fun _ _ _ h => h) (Or.inl ⟨by rfl, ?_⟩) (by assumption) ?_
              rotate_left
              · intro wS hSw; (try dsimp only at hSw); go_simp; (try (with_reducible rfl))
              simp only [Act.put, List.setIfInBounds_toArray, List.set_cons_zero, List.set_cons_succ]
              refine takeH (i := 9) (d := some 44) (v := ?_) rfl rfl (by kernel_rfl) (by kernel_rfl) (by kernel_rfl) (fun _ _ _ h => h) (Or.inl ⟨by rfl, ?_⟩) (by assumption) ?_
              rotate_left
              · intro wS hSw; (try dsimp only at hSw); go_simp; (try (with_reducible rfl))
              simp only [Act.put, List.setIfInBounds_toArray, List.set_cons_zero, List.set_cons_succ]
              refine takeH (i := 10) (d := some 45) (v := undef) rfl rfl (by kernel_rfl) (by kernel_rfl) (by kernel_rfl) (fun _ _ _ h => h) (Or.inr ⟨by rfl, rfl⟩) (by assumption) ?_
              simp only [Act.put, List.setIfInBounds_toArray, List.set_cons_zero, List.set_cons_succ]
              refine takeH (i := 11) (d := some 46) (v := undef) rfl rfl (by kernel_rfl) (by kernel_rfl) (by kernel_rfl) (fun _ _ _ h => h) (Or.inr ⟨by rfl, rfl⟩) (by assumption) ?_
              simp only [Act.put, List.setIfInBounds_toArray, List.set_cons_zero, List.set_cons_succ]
              refine takeH (i := 12) (d := some 47) (v := undef) rfl rfl (by kernel_rfl) (by kernel_rfl) (by kernel_rfl) (fun _ _ _ h => h) (Or.inr ⟨by rfl, rfl⟩) (by assumption) ?_
              simp only [Act.put, List.setIfInBounds_toArray, List.set_cons_zero, List.set_cons_succ]
              refine takeH (i := 13) (d := some 48) (v := undef) rfl rfl (by kernel_rfl) (by kernel_rfl) (by kernel_rfl) (fun _ _ _ h => h) (Or.inr ⟨by rfl, rfl⟩) (by assumption) ?_
              simp only [Act.put, List.setIfInBounds_toArray, List.set_cons_zero, List.set_cons_succ]
              refine takeH (i := 14) (d := some 49) (v := undef) rfl rfl (by kernel_rfl) (by kernel_rfl) (by kernel_rfl) (fun _ _ _ h => h) (Or.inr ⟨by rfl, rfl⟩) (by assumption) ?_
              simp only [Act.put, List.setIfInBounds_toArray, List.set_cons_zero, List.set_cons_succ]
              refine takeH (i := 15) (d := some 50) (v := undef) rfl rfl (by kernel_rfl) (by kernel_rfl) (by kernel_rfl) (fun _ _ _ h => h) (Or.inr ⟨by rfl, rfl⟩) (by assumption) ?_
              simp only [Act.put, List.setIfInBounds_toArray, List.set_cons_zero, List.set_cons_succ]
              refine takeH (i := 16) (d := some 51) (v := undef) rfl rfl (by kernel_rfl) (by kernel_rfl) (by kernel_rfl) (fun _ _ _ h => h) (Or.inr ⟨by rfl, rfl⟩) (by assumption) ?_
              simp only [Act.put, List.setIfInBounds_toArray, List.set_cons_zero, List.set_cons_succ]
              refine takeH (i := 17) (d := some 52) (v := undef) rfl rfl (by kernel_rfl) (by kernel_rfl) (by kernel_rfl) (fun _ _ _ h => h) (Or.inr ⟨by rfl, rfl⟩) (by assumption) ?_
              simp only [Act.put, List.setIfInBounds_toArray, List.set_cons_zero, List.set_cons_succ]
              refine takeH (i := 18) (d := some 53) (v := undef) rfl rfl (by kernel_rfl) (by kernel_rfl) (by kernel_rfl) (fun _ _ _ h => h) (Or.inr ⟨by rfl, rfl⟩) (by assumption) ?_
              simp only [Act.put, List.setIfInBounds_toArray, List.set_cons_zero, List.set_cons_succ]
              refine takeH (i := 19) (d := some 54) (v := undef) rfl rfl (by kernel_rfl) (by kernel_rfl) (by kernel_rfl) (fun _ _ _ h => h) (Or.inr ⟨by rfl, rfl⟩) (by assumption) ?_
              simp only [Act.put, List.setIfInBounds_toArray, List.set_cons_zero, List.set_cons_succ]
              refine takeH (i := 20) (d := some 55) (v := undef) rfl rfl (by kernel_rfl) (by kernel_rfl) (by kernel_rfl) (fun _ _ _ h => h) (Or.inr ⟨by rfl, rfl⟩) (by assumption) ?_
              simp only [Act.put, List.setIfInBounds_toArray, List.set_cons_zero, List.set_cons_succ]
              refine takeH (i := 21) (d := some 56) (v := undef) rfl rfl (by kernel_rfl) (by kernel_rfl) (by kernel_rfl) (fun _ _ _ h => h) (Or.inr ⟨by rfl, rfl⟩) (by assumption) ?_
              simp only [Act.put, List.setIfInBounds_toArray, List.set_cons_zero, List.set_cons_succ]
              refine takeH (i := 22) (d := some 57) (v := undef) rfl rfl (by kernel_rfl) (by kernel_rfl) (by kernel_rfl) (fun _ _ _ h => h) (Or.inr ⟨by rfl, rfl⟩) (by assumption) ?_
              simp only [Act.put, List.setIfInBounds_toArray, List.set_cons_zero, List.set_cons_succ]
              refine takeH (i := 23) (d := some 58) (v := ?_) rfl rfl (by kernel_rfl) (by kernel_rfl) (by kernel_rfl) (fun _ _ _ h => h) (Or.inl ⟨by rfl, ?_⟩) (by assumption) ?_
              rotate_left
              · intro wS hSw; (try dsimp only at hSw); go_simp; (try (with_reducible rfl))
              simp only [Act.put, List.setIfInBounds_toArray, List.set_cons_zero, List.set_cons_succ]
              refine takeH (i := 24) (d := some 59) (v := ?_) rfl rfl (by kernel_rfl) (by kernel_rfl) (by kernel_rfl) (fun _ _ _ h => h) (Or.inl ⟨by rfl, ?_⟩) (by assumption) ?_
              rotate_left
              · intro wS hSw; (try dsimp only at hSw); go_simp; (try (with_reducible rfl))
              simp only [Act.put, List.setIfInBounds_toArray, List.set_cons_zero, List.set_cons_succ]
              refine takeH (i := 25) (d := some 8) (v := ?_) rfl rfl (by kernel_rfl) (by kernel_rfl) (by kernel_rfl) (fun _ _ _ h => h) (Or.inl ⟨by rfl, ?_⟩) (by assumption) ?_
              rotate_left
              · intro wS hSw; (try dsimp only at hSw); go_simp; (try (with_reducible rfl))
              simp only [Act.put, List.setIfInBounds_toArray, List.set_cons_zero, List.set_cons_succ]
              refine wpAnyH_done (by kernel_rfl) ?_ _
              go_wp2_with fail
              go_meet
              case rel => exact ⟨rfl, HB4.out.undrew⟩
            · have hlk := lastK_get ps h0
              obtain ⟨g6, cp6, hv6, _, hg6, hc6, hm6, hcell6⟩ := own_pos HB.out.row h0
              injection hv6 with hv6 _ hv6'
              subst hv6 hv6'
              unfold maxLen at hm6
              have hn := hcell6 _ _ (flatR_get ps (ps.length - 1) (by omega)).1
              rw [← hlk] at hn
              have HCN := Lib.hid (fun W (hW : Below wr.heap.size wr W) => show W.cell? ⟨g6, (ps.length - 1) * 2, none⟩ = some (.string (str (lastK ps))) from by
                rw [hW.cell (p := ⟨g6, (ps.length - 1) * 2, none⟩) hg6]; exact hn)
              have s3 : IntKind.i64.wrap ((ps.length : Int) - 1) = (ps.length : Int) - 1 := IntWalk.i64_in _ (by omega)
              have s4 : ((ps.length : Int) - 1).toNat = ps.length - 1 := by omega
              have s5 : (0 : Int) ≤ (ps.length : Int) - 1 := by omega
              have s6 : (ps.length : Int) - 1 < (ps.length : Int) := by omega
              have s7 : (1 : Int) ≤ (ps.length : Int) := by omega
              have g0 : ((ps.length : Int) == 0) = false := by rw [beq_eq_false_iff_ne]; omega
              have g0' : 0 < ps.length := h0
              have hC3 : C = decide (lastK ps < bl sk) := by
                cases C with
                | true => rw [decide_eq_true (hC1.1 rfl).2]
                | false => rw [decide_eq_false (fun h => by have := hC1.2 ⟨hok, h⟩; cases this)]
              have q1 : Op.bytesLess (str (lastK ps)).toList sk.toList = C := by rw [lss_is, bl_str, hC3]
              have d2 : wr.drew.cell? ⟨g6, (ps.length - 1) * 2, none⟩ = some (.string (str (lastK ps))) := HCN.out _ (Below.refl _ _).drew
              clear hC1 hO1 hok hcell6 hlk h0 hC3
              generalize str (lastK ps) = ls at *
              cases C with
              | true =>
                go_wp2_with fail
                refine wp_region_held_drew (S := (fun w' => w'.cell? ⟨bk, off + i * 2, none⟩ = some (.string sk) ∧ w'.cell? ⟨bk, off + i * 2 + 1, none⟩ = some (.string sv) ∧ w'.cell? ⟨g6, (ps.length - 1) * 2, none⟩ = some (.string ls))) (by kernel_rfl) (by (try dsimp only); exact ⟨d0, d1, d2⟩) (fun hHeld => ?_)
                refine takeH (i := 0) (d := some 35) (v := ?_) rfl rfl (by kernel_rfl) (by kernel_rfl) (by kernel_rfl) (fun _ _ _ h => h) (Or.inl ⟨by rfl, ?_⟩) (by assumption) ?_
                rotate_left
                · intro wS hSw; (try dsimp only at hSw); go_simp; (try (with_reducible rfl))
                simp only [Act.put, List.setIfInBounds_toArray, List.set_cons_zero, List.set_cons_succ]
                refine takeH (i := 1) (d := some 36) (v := ?_) rfl rfl (by kernel_rfl) (by kernel_rfl) (by kernel_rfl) (fun _ _ _ h => h) (Or.inl ⟨by rfl, ?_⟩) (by assumption) ?_
                rotate_left
                · intro wS hSw; (try dsimp only at hSw); go_simp; (try (with_reducible rfl))
                simp only [Act.put, List.setIfInBounds_toArray, List.set_cons_zero, List.set_cons_succ]
                refine takeH (i := 2) (d := some 37) (v := ?_) rfl rfl (by kernel_rfl) (by kernel_rfl) (by kernel_rfl) (fun _ _ _ h => h) (Or.inl ⟨by rfl, ?_⟩) (by assumption) ?_
                rotate_left
                · intro wS hSw; (try dsimp only at hSw); go_simp; (try (with_reducible rfl))
                simp only [Act.put, List.setIfInBounds_toArray, List.set_cons_zero, List.set_cons_succ]
                refine takeH (i := 3) (d := some 38) (v := ?_) rfl rfl (by kernel_rfl) (by kernel_rfl) (by kernel_rfl) (fun _ _ _ h => h) (Or.inl ⟨by rfl, ?_⟩) (by assumption) ?_
                rotate_left
                · intro wS hSw; (try dsimp only at hSw); go_simp; (try (with_reducible rfl))
                simp only [Act.put, List.setIfInBounds_toArray, List.set_cons_zero, List.set_cons_succ]
                refine wpAnyH_ready (rs := [4]) (by kernel_rfl) (by simp) ?_
                refine AllReadyH.cons rfl (fun K hK => ?_) AllReadyH.nil
                go_simp
                refine (HRT.out _).mono ?_
                rintro e w4 ⟨rfl, hb4⟩
                obtain ⟨k0, k1⟩ := HCW.out w4 (HB.out.bel.drew.trans (hb4.mono HB.out.bel.size))
                have k2 := HCN.out w4 hb4.undrew
                have HB4 := Lib.hid hb4
                clear hb4
                go_wp2_with fail
                refine hK.out _ _ (by (try dsimp only); exact ⟨k0, k1, k2⟩) (fun hHeld => ?_)
                clear hK K
                refine takeH (i := 5) (d := some 40) (v := ?_) rfl rfl (by kernel_rfl) (by kernel_rfl) (by kernel_rfl) (fun _ _ _ h => h) (Or.inl ⟨by rfl, ?_⟩) (by assumption) ?_
                rotate_left
                · intro wS hSw; (try dsimp only at hSw); go_simp; (try (with_reducible rfl))
                simp only [Act.put, List.setIfInBounds_toArray, List.set_cons_zero, List.set_cons_succ]
                refine takeH (i := 6) (d := some 41) (v := ?_) rfl rfl (by kernel_rfl) (by kernel_rfl) (by kernel_rfl) (fun _ _ _ h => h) (Or.inl ⟨by rfl, ?_⟩) (by assumption) ?_
                rotate_left
                · intro wS hSw; (try dsimp only at hSw); go_simp; (try (with_reducible rfl))
                simp only [Act.put, List.setIfInBounds_toArray, List.set_cons_zero, List.set_cons_succ]
                refine takeH (i := 7) (d := some 42) (v := ?_) rfl rfl (by kernel_rfl) (by kernel_rfl) (by kernel_rfl) (fun _ _ _ h => h) (Or.inl ⟨by rfl, ?_⟩) (by assumption) ?_
                rotate_left
                · intro wS hSw; (try dsimp only at hSw); go_simp; (try (with_reducible rfl))
                simp only [Act.put, List.setIfInBounds_toArray, List.set_cons_zero, List.set_cons_succ]
                refine takeH (i := 8) (d := some 43) (v := ?_) rfl rfl (by kernel_rfl) (by kernel_rfl) (by kernel_rfl) (fun _ _ _ h => h) (Or.inl ⟨by rfl, ?_⟩) (by assumption) ?_
                rotate_left
                · intro wS hSw; (try dsimp only at hSw); go_simp; (try (with_reducible rfl))
                simp only [Act.put, List.setIfInBounds_toArray, List.set_cons_zero, List.set_cons_succ]
                refine takeH (i := 9) (d := some 44) (v := ?_) rfl rfl (by kernel_rfl) (by kernel_rfl) (by kernel_rfl) (fun _ _ _ h => h) (Or.inl ⟨by rfl, ?_⟩) (by assumption) ?_
                rotate_left
                · intro wS hSw; (try dsimp only at hSw); go_simp; (try (with_reducible rfl))
                simp only [Act.put, List.setIfInBounds_toArray, List.set_cons_zero, List.set_cons_succ]
                refine takeH (i := 10) (d := some 45) (v := ?_) rfl rfl (by kernel_rfl) (by kernel_rfl) (by kernel_rfl) (fun _ _ _ h => h) (Or.inl ⟨by rfl, ?_⟩) (by assumption) ?_
                rotate_left
                · intro wS hSw; (try dsimp only at hSw); go_simp; (try (with_reducible rfl))
                simp only [Act.put, List.setIfInBounds_toArray, List.set_cons_zero, List.set_cons_succ]
                refine takeH (i := 11) (d := some 46) (v := ?_) rfl rfl (by kernel_rfl) (by kernel_rfl) (by kernel_rfl) (fun _ _ _ h => h) (Or.inl ⟨by rfl, ?_⟩) (by assumption) ?_
                rotate_left
                · intro wS hSw; (try dsimp only at hSw); go_simp; (try (with_reducible rfl))
                simp only [Act.put, List.setIfInBounds_toArray, List.set_cons_zero, List.set_cons_succ]
                refine takeH (i := 12) (d := some 47) (v := ?_) rfl rfl (by kernel_rfl) (by kernel_rfl) (by kernel_rfl) (fun _ _ _ h => h) (Or.inl ⟨by rfl, ?_⟩) (by assumption) ?_
                rotate_left
                · intro wS hSw; (try dsimp only at hSw); go_simp; (try (with_reducible rfl))
                simp only [Act.put, List.setIfInBounds_toArray, List.set_cons_zero, List.set_cons_succ]
                refine takeH (i := 13) (d := some 48) (v := ?_) rfl rfl (by kernel_rfl) (by kernel_rfl) (by kernel_rfl) (fun _ _ _ h => h) (Or.inl ⟨by rfl, ?_⟩) (by assumption) ?_
                rotate_left
                · intro wS hSw; (try dsimp only at hSw); go_simp; (try (with_reducible rfl))
                simp only [Act.put, List.setIfInBounds_toArray, List.set_cons_zero, List.set_cons_succ]
                refine takeH (i := 14) (d := some 49) (v := ?_) rfl rfl (by kernel_rfl) (by kernel_rfl) (by kernel_rfl) (fun _ _ _ h => h) (Or.inl ⟨by rfl, ?_⟩) (by assumption) ?_
                rotate_left
                · intro wS hSw; (try dsimp only at hSw); go_simp; (try (with_reducible rfl))
                simp only [Act.put, List.setIfInBounds_toArray, List.set_cons_zero, List.set_cons_succ]
                refine takeH (i := 15) (d := some 50) (v := ?_) rfl rfl (by kernel_rfl) (by kernel_rfl) (by kernel_rfl) (fun _ _ _ h => h) (Or.inl ⟨by rfl, ?_⟩) (by assumption) ?_
                rotate_left
                · intro wS hSw; (try dsimp only at hSw); go_simp; (try (with_reducible rfl))
                simp only [Act.put, List.setIfInBounds_toArray, List.set_cons_zero, List.set_cons_succ]
                refine takeH (i := 16) (d := some 51) (v := ?_) rfl rfl (by kernel_rfl) (by kernel_rfl) (by kernel_rfl) (fun _ _ _ h => h) (Or.inl ⟨by rfl, ?_⟩) (by assumption) ?_
                rotate_left
                · intro wS hSw; (try dsimp only at hSw); go_simp; (try (with_reducible rfl))
                simp only [Act.put, List.setIfInBounds_toArray, List.set_cons_zero, List.set_cons_succ]
                refine takeH (i := 17) (d := some 52) (v := ?_) rfl rfl (by kernel_rfl) (by kernel_rfl) (by kernel_rfl) (fun _ _ _ h => h) (Or.inl ⟨by rfl, ?_⟩) (by assumption) ?_
                rotate_left
                · intro wS hSw; (try dsimp only at hSw); go_simp; (try (with_reducible rfl))
                simp only [Act.put, List.setIfInBounds_toArray, List.set_cons_zero, List.set_cons_succ]
                refine takeH (i := 18) (d := some 53) (v := ?_) rfl rfl (by kernel_rfl) (by kernel_rfl) (by kernel_rfl) (fun _ _ _ h => h) (Or.inl ⟨by rfl, ?_⟩) (by assumption) ?_
                rotate_left
                · intro wS hSw; (try dsimp only at hSw); go_simp; (try (with_reducible rfl))
                simp only [Act.put, List.setIfInBounds_toArray, List.set_cons_zero, List.set_cons_succ]
                refine takeH (i := 19) (d := some 54) (v := ?_) rfl rfl (by kernel_rfl) (by kernel_rfl) (by kernel_rfl) (fun _ _ _ h => h) (Or.inl ⟨by rfl, ?_⟩) (by assumption) ?_
                rotate_left
                · intro wS hSw; (try dsimp only at hSw); go_simp; (try (with_reducible rfl))
                simp only [Act.put, List.setIfInBounds_toArray, List.set_cons_zero, List.set_cons_succ]
                refine takeH (i := 20) (d := some 55) (v := ?_) rfl rfl (by kernel_rfl) (by kernel_rfl) (by kernel_rfl) (fun _ _ _ h => h) (Or.inl ⟨by rfl, ?_⟩) (by assumption) ?_
                rotate_left
                · intro wS hSw; (try dsimp only at hSw); go_simp; (try (with_reducible rfl))
                simp only [Act.put, List.setIfInBounds_toArray, List.set_cons_zero, List.set_cons_succ]
                refine takeH (i := 21) (d := some 56) (v := ?_) rfl rfl (by kernel_rfl) (by kernel_rfl) (by kernel_rfl) (fun _ _ _ h => h) (Or.inl ⟨by rfl, ?_⟩) (by assumption) ?_
                rotate_left
                · intro wS hSw; (try dsimp only at hSw); go_simp; (try (with_reducible rfl))
                simp only [Act.put, List.setIfInBounds_toArray, List.set_cons_zero, List.set_cons_succ]
                refine takeH (i := 22) (d := some 57) (v := ?_) rfl rfl (by kernel_rfl) (by kernel_rfl) (by kernel_rfl) (fun _ _ _ h => h) (Or.inl ⟨by rfl, ?_⟩) (by assumption) ?_
                rotate_left
                · intro wS hSw; (try dsimp only at hSw); go_simp; (try (with_reducible rfl))
                simp only [Act.put, List.setIfInBounds_toArray, List.set_cons_zero, List.set_cons_succ]
                refine takeH (i := 23) (d := some 58) (v := ?_) rfl rfl (by kernel_rfl) (by kernel_rfl) (by kernel_rfl) (fun _ _ _ h => h) (Or.inl ⟨by rfl, ?_⟩) (by assumption) ?_
                rotate_left
                · intro wS hSw; (try dsimp only at hSw); go_simp; (try (with_reducible rfl))
                simp only [Act.put, List.setIfInBounds_toArray, List.set_cons_zero, List.set_cons_succ]
                refine takeH (i := 24) (d := some 59) (v := ?_) rfl rfl (by kernel_rfl) (by kernel_rfl) (by kernel_rfl) (fun _ _ _ h => h) (Or.inl ⟨by rfl, ?_⟩) (by assumption) ?_
                rotate_left
                · intro wS hSw; (try dsimp only at hSw); go_simp; (try (with_reducible rfl))
                simp only [Act.put, List.setIfInBounds_toArray, List.set_cons_zero, List.set_cons_succ]
                refine takeH (i := 25) (d := some 8) (v := ?_) rfl rfl (by kernel_rfl) (by kernel_rfl) (by kernel_rfl) (fun _ _ _ h => h) (Or.inl ⟨by rfl, ?_⟩) (by assumption) ?_
                rotate_left
                · intro wS hSw; (try dsimp only at hSw); go_simp; (try (with_reducible rfl))
                simp only [Act.put, List.setIfInBounds_toArray, List.set_cons_zero, List.set_cons_succ]
                refine wpAnyH_done (by kernel_rfl) ?_ _
                go_wp2_with fail
                go_meet
                case rel => exact ⟨rfl, HB4.out.undrew⟩
              | false =>
                go_wp2_with fail
                refine wp_region_held_drew (S := (fun w' => w'.cell? ⟨bk, off + i * 2, none⟩ = some (.string sk) ∧ w'.cell? ⟨bk, off + i * 2 + 1, none⟩ = some (.string sv) ∧ w'.cell? ⟨g6, (ps.length - 1) * 2, none⟩ = some (.string ls))) (by kernel_rfl) (by (try dsimp only); exact ⟨d0, d1, d2⟩) (fun hHeld => ?_)
                refine takeH (i := 0) (d := some 35) (v := ?_) rfl rfl (by kernel_rfl) (by kernel_rfl) (by kernel_rfl) (fun _ _ _ h => h) (Or.inl ⟨by rfl, ?_⟩) (by assumption) ?_
                rotate_left
                · intro wS hSw; (try dsimp only at hSw); go_simp; (try (with_reducible rfl))
                simp only [Act.put, List.setIfInBounds_toArray, List.set_cons_zero, List.set_cons_succ]
                refine takeH (i := 1) (d := some 36) (v := ?_) rfl rfl (by kernel_rfl) (by kernel_rfl) (by kernel_rfl) (fun _ _ _ h => h) (Or.inl ⟨by rfl, ?_⟩) (by assumption) ?_
                rotate_left
                · intro wS hSw; (try dsimp only at hSw); go_simp; (try (with_reducible rfl))
                simp only [Act.put, List.setIfInBounds_toArray, List.set_cons_zero, List.set_cons_succ]
                refine takeH (i := 2) (d := some 37) (v := ?_) rfl rfl (by kernel_rfl) (by kernel_rfl) (by kernel_rfl) (fun _ _ _ h => h) (Or.inl ⟨by rfl, ?_⟩) (by assumption) ?_
                rotate_left
                · intro wS hSw; (try dsimp only at hSw); go_simp; (try (with_reducible rfl))
                simp only [Act.put, List.setIfInBounds_toArray, List.set_cons_zero, List.set_cons_succ]
                refine takeH (i := 3) (d := some 38) (v := ?_) rfl rfl (by kernel_rfl) (by kernel_rfl) (by kernel_rfl) (fun _ _ _ h => h) (Or.inl ⟨by rfl, ?_⟩) (by assumption) ?_
                rotate_left
                · intro wS hSw; (try dsimp only at hSw); go_simp; (try (with_reducible rfl))
                simp only [Act.put, List.setIfInBounds_toArray, List.set_cons_zero, List.set_cons_succ]
                refine wpAnyH_ready (rs := [4]) (by kernel_rfl) (by simp) ?_
                refine AllReadyH.cons rfl (fun K hK => ?_) AllReadyH.nil
                go_simp
                refine (HRT.out _).mono ?_
                rintro e w4 ⟨rfl, hb4⟩
                obtain ⟨k0, k1⟩ := HCW.out w4 (HB.out.bel.drew.trans (hb4.mono HB.out.bel.size))
                have k2 := HCN.out w4 hb4.undrew
                have HB4 := Lib.hid hb4
                clear hb4
                go_wp2_with fail
                refine hK.out _ _ (by (try dsimp only); exact ⟨k0, k1, k2⟩) (fun hHeld => ?_)
                clear hK K
                refine takeH (i := 5) (d := some 40) (v := ?_) rfl rfl (by kernel_rfl) (by kernel_rfl) (by kernel_rfl) (fun _ _ _ h => h) (Or.inl ⟨by rfl, ?_⟩) (by assumption) ?_
                rotate_left
                · intro wS hSw; (try dsimp only at hSw); go_simp; (try (with_reducible rfl))
                simp only [Act.put, List.setIfInBounds_toArray, List.set_cons_zero, List.set_cons_succ]
                refine takeH (i := 6) (d := some 41) (v := ?_) rfl rfl (by kernel_rfl) (by kernel_rfl) (by kernel_rfl) (fun _ _ _ h => h) (Or.inl ⟨by rfl, ?_⟩) (by assumption) ?_
                rotate_left
                · intro wS hSw; (try dsimp only at hSw); go_simp; (try (with_reducible rfl))
                simp only [Act.put, List.setIfInBounds_toArray, List.set_cons_zero, List.set_cons_succ]
                refine takeH (i := 7) (d := some 42) (v := ?_) rfl rfl (by kernel_rfl) (by kernel_rfl) (by kernel_rfl) (fun _ _ _ h => h) (Or.inl ⟨by rfl, ?_⟩) (by assumption) ?_
                rotate_left
                · intro wS hSw; (try dsimp only at hSw); go_simp; (try (with_reducible rfl))
                simp only [Act.put, List.setIfInBounds_toArray, List.set_cons_zero, List.set_cons_succ]
                refine takeH (i := 8) (d := some 43) (v := ?_) rfl rfl (by kernel_rfl) (by kernel_rfl) (by kernel_rfl) (fun _ _ _ h => h) (Or.inl ⟨by rfl, ?_⟩) (by assumption) ?_
                rotate_left
                · intro wS hSw; (try dsimp only at hSw); go_simp; (try (with_reducible rfl))
                simp only [Act.put, List.setIfInBounds_toArray, List.set_cons_zero, List.set_cons_succ]
                refine takeH (i := 9) (d := some 44) (v := ?_) rfl rfl (by kernel_rfl) (by kernel_rfl) (by kernel_rfl) (fun _ _ _ h => h) (Or.inl ⟨by rfl, ?_⟩) (by assumption) ?_
                rotate_left
                · intro wS hSw; (try dsimp only at hSw); go_simp; (try (with_reducible rfl))
                simp only [Act.put, List.setIfInBounds_toArray, List.set_cons_zero, List.set_cons_succ]
                refine takeH (i := 10) (d := some 45) (v := ?_) rfl rfl (by kernel_rfl) (by kernel_rfl) (by kernel_rfl) (fun _ _ _ h => h) (Or.inl ⟨by rfl, ?_⟩) (by assumption) ?_
                rotate_left
                · intro wS hSw; (try dsimp only at hSw); go_simp; (try (with_reducible rfl))
                simp only [Act.put, List.setIfInBounds_toArray, List.set_cons_zero, List.set_cons_succ]
                refine takeH (i := 11) (d := some 46) (v := ?_) rfl rfl (by kernel_rfl) (by kernel_rfl) (by kernel_rfl) (fun _ _ _ h => h) (Or.inl ⟨by rfl, ?_⟩) (by assumption) ?_
                rotate_left
                · intro wS hSw; (try dsimp only at hSw); go_simp; (try (with_reducible rfl))
                simp only [Act.put, List.setIfInBounds_toArray, List.set_cons_zero, List.set_cons_succ]
                refine takeH (i := 12) (d := some 47) (v := ?_) rfl rfl (by kernel_rfl) (by kernel_rfl) (by kernel_rfl) (fun _ _ _ h => h) (Or.inl ⟨by rfl, ?_⟩) (by assumption) ?_
                rotate_left
                · intro wS hSw; (try dsimp only at hSw); go_simp; (try (with_reducible rfl))
                simp only [Act.put, List.setIfInBounds_toArray, List.set_cons_zero, List.set_cons_succ]
                refine takeH (i := 13) (d := some 48) (v := ?_) rfl rfl (by kernel_rfl) (by kernel_rfl) (by kernel_rfl) (fun _ _ _ h => h) (Or.inl ⟨by rfl, ?_⟩) (by assumption) ?_
                rotate_left
                · intro wS hSw; (try dsimp only at hSw); go_simp; (try (with_reducible rfl))
                simp only [Act.put, List.setIfInBounds_toArray, List.set_cons_zero, List.set_cons_succ]
                refine takeH (i := 14) (d := some 49) (v := ?_) rfl rfl (by kernel_rfl) (by kernel_rfl) (by kernel_rfl) (fun _ _ _ h => h) (Or.inl ⟨by rfl, ?_⟩) (by assumption) ?_
                rotate_left
                · intro wS hSw; (try dsimp only at hSw); go_simp; (try (with_reducible rfl))
                simp only [Act.put, List.setIfInBounds_toArray, List.set_cons_zero, List.set_cons_succ]
                refine takeH (i := 15) (d := some 50) (v := ?_) rfl rfl (by kernel_rfl) (by kernel_rfl) (by kernel_rfl) (fun _ _ _ h => h) (Or.inl ⟨by rfl, ?_⟩) (by assumption) ?_
                rotate_left
                · intro wS hSw; (try dsimp only at hSw); go_simp; (try (with_reducible rfl))
                simp only [Act.put, List.setIfInBounds_toArray, List.set_cons_zero, List.set_cons_succ]
                refine takeH (i := 16) (d := some 51) (v := ?_) rfl rfl (by kernel_rfl) (by kernel_rfl) (by kernel_rfl) (fun _ _ _ h => h) (Or.inl ⟨by rfl, ?_⟩) (by assumption) ?_
                rotate_left
                · intro wS hSw; (try dsimp only at hSw); go_simp; (try (with_reducible rfl))
                simp only [Act.put, List.setIfInBounds_toArray, List.set_cons_zero, List.set_cons_succ]
                refine takeH (i := 17) (d := some 52) (v := ?_) rfl rfl (by kernel_rfl) (by kernel_rfl) (by kernel_rfl) (fun _ _ _ h => h) (Or.inl ⟨by rfl, ?_⟩) (by assumption) ?_
                rotate_left
                · intro wS hSw; (try dsimp only at hSw); go_simp; (try (with_reducible rfl))
                simp only [Act.put, List.setIfInBounds_toArray, List.set_cons_zero, List.set_cons_succ]
                refine takeH (i := 18) (d := some 53) (v := ?_) rfl rfl (by kernel_rfl) (by kernel_rfl) (by kernel_rfl) (fun _ _ _ h => h) (Or.inl ⟨by rfl, ?_⟩) (by assumption) ?_
                rotate_left
                · intro wS hSw; (try dsimp only at hSw); go_simp; (try (with_reducible rfl))
                simp only [Act.put, List.setIfInBounds_toArray, List.set_cons_zero, List.set_cons_succ]
                refine takeH (i := 19) (d := some 54) (v := ?_) rfl rfl (by kernel_rfl) (by kernel_rfl) (by kernel_rfl) (fun _ _ _ h => h) (Or.inl ⟨by rfl, ?_⟩) (by assumption) ?_
                rotate_left
                · intro wS hSw; (try dsimp only at hSw); go_simp; (try (with_reducible rfl))
                simp only [Act.put, List.setIfInBounds_toArray, List.set_cons_zero, List.set_cons_succ]
                refine takeH (i := 20) (d := some 55) (v := ?_) rfl rfl (by kernel_rfl) (by kernel_rfl) (by kernel_rfl) (fun _ _ _ h => h) (Or.inl ⟨by rfl, ?_⟩) (by assumption) ?_
                rotate_left
                · intro wS hSw; (try dsimp only at hSw); go_simp; (try (with_reducible rfl))
                simp only [Act.put, List.setIfInBounds_toArray, List.set_cons_zero, List.set_cons_succ]
                refine takeH (i := 21) (d := some 56) (v := ?_) rfl rfl (by kernel_rfl) (by kernel_rfl) (by kernel_rfl) (fun _ _ _ h => h) (Or.inl ⟨by rfl, ?_⟩) (by assumption) ?_
                rotate_left
                · intro wS hSw; (try dsimp only at hSw); go_simp; (try (with_reducible rfl))
                simp only [Act.put, List.setIfInBounds_toArray, List.set_cons_zero, List.set_cons_succ]
                refine takeH (i := 22) (d := some 57) (v := ?_) rfl rfl (by kernel_rfl) (by kernel_rfl) (by kernel_rfl) (fun _ _ _ h => h) (Or.inl ⟨by rfl, ?_⟩) (by assumption) ?_
                rotate_left
                · intro wS hSw; (try dsimp only at hSw); go_simp; (try (with_reducible rfl))
                simp only [Act.put, List.setIfInBounds_toArray, List.set_cons_zero, List.set_cons_succ]
                refine takeH (i := 23) (d := some 58) (v := ?_) rfl rfl (by kernel_rfl) (by kernel_rfl) (by kernel_rfl) (fun _ _ _ h => h) (Or.inl ⟨by rfl, ?_⟩) (by assumption) ?_
                rotate_left
                · intro wS hSw; (try dsimp only at hSw); go_simp; (try (with_reducible rfl))
                simp only [Act.put, List.setIfInBounds_toArray, List.set_cons_zero, List.set_cons_succ]
                refine takeH (i := 24) (d := some 59) (v := ?_) rfl rfl (by kernel_rfl) (by kernel_rfl) (by kernel_rfl) (fun _ _ _ h => h) (Or.inl ⟨by rfl, ?_⟩) (by assumption) ?_
                rotate_left
                · intro wS hSw; (try dsimp only at hSw); go_simp; (try (with_reducible rfl))
                simp only [Act.put, List.setIfInBounds_toArray, List.set_cons_zero, List.set_cons_succ]
                refine takeH (i := 25) (d := some 8) (v := ?_) rfl rfl (by kernel_rfl) (by kernel_rfl) (by kernel_rfl) (fun _ _ _ h => h) (Or.inl ⟨by rfl, ?_⟩) (by assumption) ?_
                rotate_left
                · intro wS hSw; (try dsimp only at hSw); go_simp; (try (with_reducible rfl))
                simp only [Act.put, List.setIfInBounds_toArray, List.set_cons_zero, List.set_cons_succ]
                refine wpAnyH_done (by kernel_rfl) ?_ _
                go_wp2_with fail
                go_meet
                case rel => exact ⟨rfl, HB4.out.undrew⟩
        case rest =>
          obtain ⟨rfl, hb4⟩ := hcut
          have hN4 := HB.out.below hb4
          have HN4 := Lib.hid hN4
          clear c0 c1 d0 d1 hb4 hdr hC1 hO1
          have hdr4 : Below w.heap.size w wc.drew := hN4.bel.drew
          obtain ⟨d0, d1⟩ := HCW.out _ hdr4
          have hN4d := hN4.below (w' := wc.drew) (Below.refl _ _).drew
          have HAD := Lib.hid (tAdd_any p sz ps x sk sv wc.drew hN4d.tb hN4d.acc (by omega) hk hv (hN4d.nib HNI.out))
          have HN4D := Lib.hid hN4d
          clear hN4 hN4d
          go_wp2_with fail
          refine wp_region_held_drew (S := (fun w' => w'.cell? ⟨bk, off + i * 2, none⟩ = some (.string sk) ∧ w'.cell? ⟨bk, off + i * 2 + 1, none⟩ = some (.string sv))) (by kernel_rfl) (by (try dsimp only); exact ⟨d0, d1⟩) (fun hHeld => ?_)
          refine takeH (i := 0) (d := some 60) (v := ?_) rfl rfl (by kernel_rfl) (by kernel_rfl) (by kernel_rfl) (fun _ _ _ h => h) (Or.inl ⟨by rfl, ?_⟩) (by assumption) ?_
          rotate_left
          · intro wS hSw; (try dsimp only at hSw); go_simp; (try (with_reducible rfl))
          simp only [Act.put, List.setIfInBounds_toArray, List.set_cons_zero, List.set_cons_succ]
          refine takeH (i := 1) (d := some 61) (v := ?_) rfl rfl (by kernel_rfl) (by kernel_rfl) (by kernel_rfl) (fun _ _ _ h => h) (Or.inl ⟨by rfl, ?_⟩) (by assumption) ?_
          rotate_left
          · intro wS hSw; (try dsimp only at hSw); go_simp; (try (with_reducible rfl))
          simp only [Act.put, List.setIfInBounds_toArray, List.set_cons_zero, List.set_cons_succ]
          refine takeH (i := 2) (d := some 62) (v := ?_) rfl rfl (by kernel_rfl) (by kernel_rfl) (by kernel_rfl) (fun _ _ _ h => h) (Or.inl ⟨by rfl, ?_⟩) (by assumption) ?_
          rotate_left
          · intro wS hSw; (try dsimp only at hSw); go_simp; (try (with_reducible rfl))
          simp only [Act.put, List.setIfInBounds_toArray, List.set_cons_zero, List.set_cons_succ]
          refine takeH (i := 3) (d := some 63) (v := ?_) rfl rfl (by kernel_rfl) (by kernel_rfl) (by kernel_rfl) (fun _ _ _ h => h) (Or.inl ⟨by rfl, ?_⟩) (by assumption) ?_
          rotate_left
          · intro wS hSw; (try dsimp only at hSw); go_simp; (try (with_reducible rfl))
          simp only [Act.put, List.setIfInBounds_toArray, List.set_cons_zero, List.set_cons_succ]
          refine takeH (i := 4) (d := some 64) (v := ?_) rfl rfl (by kernel_rfl) (by kernel_rfl) (by kernel_rfl) (fun _ _ _ h => h) (Or.inl ⟨by rfl, ?_⟩) (by assumption) ?_
          rotate_left
          · intro wS hSw; (try dsimp only at hSw); go_simp; (try (with_reducible rfl))
          simp only [Act.put, List.setIfInBounds_toArray, List.set_cons_zero, List.set_cons_succ]
          refine takeH (i := 5) (d := some 65) (v := ?_) rfl rfl (by kernel_rfl) (by kernel_rfl) (by kernel_rfl) (fun _ _ _ h => h) (Or.inl ⟨by rfl, ?_⟩) (by assumption) ?_
          rotate_left
          · intro wS hSw; (try dsimp only at hSw); go_simp; (try (with_reducible rfl))
          simp only [Act.put, List.setIfInBounds_toArray, List.set_cons_zero, List.set_cons_succ]
          refine takeH (i := 6) (d := some 66) (v := ?_) rfl rfl (by kernel_rfl) (by kernel_rfl) (by kernel_rfl) (fun _ _ _ h => h) (Or.inl ⟨by rfl, ?_⟩) (by assumption) ?_
          rotate_left
          · intro wS hSw; (try dsimp only at hSw); go_simp; (try (with_reducible rfl))
          simp only [Act.put, List.setIfInBounds_toArray, List.set_cons_zero, List.set_cons_succ]
          refine takeH (i := 7) (d := some 67) (v := ?_) rfl rfl (by kernel_rfl) (by kernel_rfl) (by kernel_rfl) (fun _ _ _ h => h) (Or.inl ⟨by rfl, ?_⟩) (by assumption) ?_
          rotate_left
          · intro wS hSw; (try dsimp only at hSw); go_simp; (try (with_reducible rfl))
          simp only [Act.put, List.setIfInBounds_toArray, List.set_cons_zero, List.set_cons_succ]
          refine takeH (i := 8) (d := some 68) (v := ?_) rfl rfl (by kernel_rfl) (by kernel_rfl) (by kernel_rfl) (fun _ _ _ h => h) (Or.inl ⟨by rfl, ?_⟩) (by assumption) ?_
          rotate_left
          · intro wS hSw; (try dsimp only at hSw); go_simp; (try (with_reducible rfl))
          simp only [Act.put, List.setIfInBounds_toArray, List.set_cons_zero, List.set_cons_succ]
          refine takeH (i := 9) (d := some 69) (v := ?_) rfl rfl (by kernel_rfl) (by kernel_rfl) (by kernel_rfl) (fun _ _ _ h => h) (Or.inl ⟨by rfl, ?_⟩) (by assumption) ?_
          rotate_left
          · intro wS hSw; (try dsimp only at hSw); go_simp; (try (with_reducible rfl))
          simp only [Act.put, List.setIfInBounds_toArray, List.set_cons_zero, List.set_cons_succ]
          refine takeH (i := 10) (d := some 70) (v := ?_) rfl rfl (by kernel_rfl) (by kernel_rfl) (by kernel_rfl) (fun _ _ _ h => h) (Or.inl ⟨by rfl, ?_⟩) (by assumption) ?_
          rotate_left
          · intro wS hSw; (try dsimp only at hSw); go_simp; (try (with_reducible rfl))
          simp only [Act.put, List.setIfInBounds_toArray, List.set_cons_zero, List.set_cons_succ]
          refine wpAnyH_ready (rs := [11]) (by kernel_rfl) (by simp) ?_
          refine AllReadyH.cons rfl (fun K hK => ?_) AllReadyH.nil
          go_simp
          refine HAD.out.mono ?_
          rintro e w5 (⟨hok5, hlk5, rfl, hta⟩ | ⟨hno5, rfl, hb5⟩)
          · have hCt : C = true := HCC.out.2 ⟨hok5, hlk5⟩
            subst hCt
            obtain ⟨x5, hN5⟩ := HN4D.out.add hta (HN4D.out.acc.snoc hok5 hlk5 (by omega))
            have HN5 := Lib.hid hN5
            obtain ⟨k0, k1⟩ := HCW.out w5 hN5.bel
            clear hok5 hlk5 hta hN5
            go_wp2_with fail
            refine hK.out _ _ (by (try dsimp only); exact ⟨k0, k1⟩) (fun hHeld => ?_)
            clear hK K
            refine takeH (i := 12) (d := some 9) (v := ?_) rfl rfl (by kernel_rfl) (by kernel_rfl) (by kernel_rfl) (fun _ _ _ h => h) (Or.inl ⟨by rfl, ?_⟩) (by assumption) ?_
            rotate_left
            · intro wS hSw; (try dsimp only at hSw); go_simp; (try (with_reducible rfl))
            simp only [Act.put, List.setIfInBounds_toArray, List.set_cons_zero, List.set_cons_succ]
            refine wpAnyH_done (by kernel_rfl) ?_ _
            have HR5 := Lib.hid HN5.out.row
            have HPR : Hid (flatR [(bl sk, bl sv)] = [.string sk, .string sv]) := Lib.hid (by simp [flatR, str_bl])
            clear hHeld d0 d1
            go_wp2_with (at_builtin; refine wpList_append_own_at _ rfl (.tmp 85) (.tmp 90) 36 rfl w.heap.size 40 i0 (.agg #[.string ⟨#[]⟩, .string ⟨#[]⟩]) 2 32 Tryz.underlying36 hi hz0 hz1 hz2 rfl (by decide) _ _ _ rfl (HR5.out.alloc _) ⟨w5.heap.size, 0, none⟩ 1 1 [.string sk, .string sv] rfl rfl (cells2_new _ _ _ _) (two_one _ _) (by unfold maxLen; omega) (by omega) (Nat.le_trans HN5.out.bel.size (by simp)) ?_; intro v7 w7 hown hgrow hx1 hx2; have hN7 := HN5.out.append (qs' := ps ++ [(bl sk, bl sv)]) hgrow (by rw [List.length_append, List.length_singleton, flatR_append, HPR.out]; exact hown); have HN7 := Lib.hid hN7; clear hown hgrow hx1 hx2 hN7)
            go_roundg (L.length - (i + 1))
            case measure => omega
            case rel => exact ⟨i + 1, _, x5, by omega, by go_num, HN7.out, by simp; omega⟩
          · have hCf : C = false := by
              cases C with
              | false => rfl
              | true => exact absurd (HCC.out.1 rfl) hno5
            subst hCf
            have HN5 := Lib.hid (HN4D.out.below hb5)
            obtain ⟨k0, k1⟩ := HCW.out w5 HN5.out.bel
            clear hno5 hb5
            go_wp2_with fail
            refine hK.out _ _ (by (try dsimp only); exact ⟨k0, k1⟩) (fun hHeld => ?_)
            clear hK K
            refine takeH (i := 12) (d := some 9) (v := ?_) rfl rfl (by kernel_rfl) (by kernel_rfl) (by kernel_rfl) (fun _ _ _ h => h) (Or.inl ⟨by rfl, ?_⟩) (by assumption) ?_
            rotate_left
            · intro wS hSw; (try dsimp only at hSw); go_simp; (try (with_reducible rfl))
            simp only [Act.put, List.setIfInBounds_toArray, List.set_cons_zero, List.set_cons_succ]
            refine wpAnyH_done (by kernel_rfl) ?_ _
            clear hHeld d0 d1
            go_wp2_with fail
            go_roundg (L.length - (i + 1))
            case measure => omega
            case rel => exact ⟨i + 1, ps, x, by omega, by go_num, HN5.out, by omega⟩
      · obtain rfl : i = L.length := by omega
        clear HC HLE
        have hin := PrsIn.own HB.out.row HB.out.acc.rise.ok
        have HRT := Lib.hid (refTab_any _ ps size wr hin HB.out.acc.rise (by omega))
        have HRB := Lib.hid fun W (hW : PrsIn W (.slice ao ps.length cp) ps) => refBlocks_any _ ps size W hW HB.out.acc.rise.ok (by omega)
        rw [← HSZ.out, blocksOf_bs] at HRT HRB
        have HTI := Lib.hid HB.out.acc.tab
        have HFH := Lib.hid HB.out.acc.finH
        clear hin
        go_wp2_with fail
        (with_reducible refine HRT.out.mono ?_)
        rintro e w5 ⟨rfl, hb5⟩
        have hB5 := HB.out.below hb5
        have HB5 := Lib.hid hB5
        have HF1 := Lib.hid (tFinish_any p sz _ _ _ _ false x w5 hB5.tb HFH.out (hB5.nib HNI.out))
        clear hb5 hB5 HRT
        unfold metaV at HF1
        rw [keysOf_len] at HF1
        obtain ⟨tn, htn⟩ : ∃ tn, tn = (tabS (bsOf (cut sz ps).1 (cut sz ps).2) (keysOf ps)).length := ⟨_, rfl⟩
        rw [← htn] at HF1
        obtain ⟨FA, hFA⟩ : ∃ FA, FA = str ((keysOf ps).headD []) := ⟨_, rfl⟩
        obtain ⟨LA, hLA⟩ : ∃ LA, LA = str ((keysOf ps).getLastD []) := ⟨_, rfl⟩
        rw [← hFA, ← hLA] at HF1
        have hst : (str (tabS (bsOf (cut sz ps).1 (cut sz ps).2) (keysOf ps))).size = tn := by rw [str_len, htn]
        have HF2 := Lib.hid fun W (hW : TF w W p sz ps x (.slice ao ps.length cp) ps) => tFinish_any p sz _ _ _ _ true x W hW.tb HFH.out (hW.nib HNI.out)
        unfold metaV at HF2
        rw [keysOf_len, ← htn, ← hFA, ← hLA] at HF2
        have HTN := Lib.hid htn
        have HFA := Lib.hid hFA
        have HLA := Lib.hid hLA
        rw [show ps.map (fun p => p.1) = keysOf ps from rfl]
        obtain ⟨ST, hST⟩ : ∃ ST, ST = str (tabS (bsOf (cut sz ps).1 (cut sz ps).2) (keysOf ps)) := ⟨_, rfl⟩
        rw [← hST] at HF1 HF2 hst ⊢
        clear htn hFA hLA hST
        obtain ⟨bs, hbs⟩ : ∃ bs, bs = bsOf (cut sz ps).1 (cut sz ps).2 := ⟨_, rfl⟩
        rw [← hbs] at HRB
        have HBS := Lib.hid hbs
        clear hbs
        go_wp2_with fail
        (with_reducible refine HF1.out.mono ?_)
        rintro e w6 ⟨rfl, ht6, hf6⟩
        have HB6 := Lib.hid (HB5.out.fin ht6 hf6)
        clear ht6 hf6 HF1 HB5
        go_upto_region 16 with (fail)
        have hm7 : (w6.alloc (.cells #[.string FA, .string LA, .int .i64 ps.length, .int .i64 tn] 63)).heap[w6.heap.size]? = some (.cells #[.string FA, .string LA, .int .i64 ps.length, .int .i64 tn] 63 (0, 0)) := by
          show (w6.heap.push _)[w6.heap.size]? = _
          simp
        have hB7 := HB6.out.below (w' := w6.alloc (.cells #[.string FA, .string LA, .int .i64 ps.length, .int .i64 tn] 63)) ((Below.refl _ w6).alloc (Nat.le_refl _) _)
        have hpm : ¬ x.S p w6.heap.size := fun hk => absurd (HB6.out.tb.lt _ hk) (Nat.lt_irrefl _)
        have HM7 := Lib.hid hm7
        have HB7 := Lib.hid hB7
        have HPM := Lib.hid hpm
        clear hm7 hB7 hpm
        generalize w6.alloc (.cells #[.string FA, .string LA, .int .i64 ps.length, .int .i64 tn] 63) = w7 at *
        generalize w6.heap.size = pm at *
        go_wp2_with fail
        (with_reducible refine (HF2.out _ HB7.out).mono ?_)
        rintro e w8 ⟨rfl, ht8, hf8⟩
        have HB8 := Lib.hid (HB7.out.fin ht8 hf8)
        have HM8 := Lib.hid ((hf8.block pm (lt_of_block HM7.out) HPM.out).trans HM7.out)
        clear ht8 hf8 HF2
        go_upto_region 17 with (fail)
        have hm9 : (w8.alloc (.cells #[.string FA, .string LA, .int .i64 ps.length, .int .i64 tn] 63)).heap[w8.heap.size]? = some (.cells #[.string FA, .string LA, .int .i64 ps.length, .int .i64 tn] 63 (0, 0)) := by
          show (w8.heap.push _)[w8.heap.size]? = _
          simp
        have hb9 : Below w8.heap.size w8 (w8.alloc (.cells #[.string FA, .string LA, .int .i64 ps.length, .int .i64 tn] 63)) := (Below.refl _ w8).alloc (Nat.le_refl _) _
        have HM9 := Lib.hid hm9
        have HN9 := Lib.hid ((hb9.block pm (lt_of_block HM8.out)).trans HM8.out)
        have HB9 := Lib.hid (HB8.out.below hb9)
        clear hm9 hb9
        generalize w8.alloc (.cells #[.string FA, .string LA, .int .i64 ps.length, .int .i64 tn] 63) = w9 at *
        generalize w8.heap.size = pm2 at *
        go_upto_if 107 with (fail)
        go_cut [15, 16] (fun a b wx => a = .string FA ∧ b = .string LA ∧ Below w9.heap.size w9 wx)
        case first =>
          rcases Nat.eq_zero_or_pos ps.length with h0 | h0
          · obtain rfl := List.length_eq_zero_iff.1 h0
            have e1 : FA = ⟨#[]⟩ := HFA.out
            have e2 : LA = ⟨#[]⟩ := HLA.out
            subst e1 e2
            have HR := Lib.hid (Below.refl w9.heap.size w9)
            go_wp2_with fail
            go_meet
            case rel => exact ⟨rfl, rfl, HR.out⟩
          · obtain ⟨g6, cp6, hv6, _, hg6, hc6, hm6, hcell6⟩ := own_pos HB9.out.row h0
            injection hv6 with hv6 _ hv6'
            subst hv6 hv6'
            unfold maxLen at hm6
            have hn := hcell6 _ _ (flatR_get ps (ps.length - 1) (by omega)).1
            have hn0 := hcell6 _ _ (flatR_get ps 0 h0).1
            rw [Nat.zero_mul] at hn0
            have e1 : FA = str ps[0].1 := by
              rw [HFA.out]
              cases ps with
              | nil => simp at h0
              | cons a l => rfl
            have e2 : LA = str (ps[ps.length - 1]'(by omega)).1 := by
              rw [HLA.out, ← lastK_get ps h0]
              unfold lastK lastF keysOf
              rw [List.getLastD_eq_getLast?, List.getLast?_map]
            rw [← e1] at hn0
            rw [← e2] at hn
            have s3 : IntKind.i64.wrap ((ps.length : Int) - 1) = (ps.length : Int) - 1 := IntWalk.i64_in _ (by omega)
            have s4 : ((ps.length : Int) - 1).toNat = ps.length - 1 := by omega
            have s5 : (0 : Int) ≤ (ps.length : Int) - 1 := by omega
            have s6 : (ps.length : Int) - 1 < (ps.length : Int) := by omega
            have s7 : (1 : Int) ≤ (ps.length : Int) := by omega
            have s8 : decide ((0 : Int) < (ps.length : Int)) = true := by rw [decide_eq_true_eq]; omega
            have s9 : (0 : Int) < (ps.length : Int) := by omega
            have HR := Lib.hid (Below.refl w9.heap.size w9)
            clear hcell6 e1 e2
            go_wp2_with fail
            go_quiet (fail)
            go_wp2_with fail
            go_meet
            case rel => exact ⟨rfl, rfl, HR.out.drewN _⟩
        case rest =>
        obtain ⟨rfl, rfl, hb10⟩ := hcut
        have HM10 := Lib.hid ((hb10.block pm2 (lt_of_block HM9.out)).trans HM9.out)
        have HN10 := Lib.hid ((hb10.block pm (lt_of_block HN9.out)).trans HN9.out)
        have hB10 := HB9.out.below hb10
        have HRB2 := Lib.hid (HRB.out wc (PrsIn.own hB10.row hB10.acc.rise.ok))
        have HB10 := Lib.hid hB10
        clear hB10 hb10 HRB HB6 HB7 HB8 HB9 HM7 HM8 HM9 HN9
        go_wp2_with fail
        (with_reducible refine HRB2.out.mono ?_)
        rintro e w11 ⟨cv, rfl, hbk, hb11⟩
        have HM11 := Lib.hid ((hb11.block pm2 (lt_of_block HM10.out)).trans HM10.out)
        have HN11 := Lib.hid ((hb11.block pm (lt_of_block HN10.out)).trans HN10.out)
        have HB11 := Lib.hid (HB10.out.below hb11)
        obtain ⟨sv, hs1, hs2, hs3⟩ := hbk
        obtain ⟨co, ccp, hcv⟩ := own_form hs1
        subst hcv
        have hbl : bs.length ≤ 200 := by rw [HBS.out]; exact HTI.out.bks.few
        have htl : (tabS bs (keysOf ps)).length ≤ 10000000 := by rw [HBS.out]; exact HTI.out.size
        have hol : (outB bs).length ≤ 10000000 := by
          refine Nat.le_trans ?_ htl
          unfold tabS; simp only [List.length_append]; omega
        have hok : ∀ i (h : i < bs.length), (∀ q ∈ bs[i], Okp q) ∧ bs[i].length ≤ 4096 := fun i h => by
          have hr := HTI.out.bks.rise bs[i] (by rw [← HBS.out]; exact List.getElem_mem h)
          exact ⟨hr.ok, hr.le⟩
        have HS1 := Lib.hid hs1
        have HS2 := Lib.hid hs2
        have HS3 := Lib.hid hs3
        have HOK := Lib.hid hok
        have HOL := Lib.hid hol
        clear hb11 hs1 hs2 hs3 HM10 HN10 HB10 HRB2 htl hol hok
        have HR11 := Lib.hid (Below.refl w11.heap.size w11)
        go_wp2_with fail
        go_loopg [17, 19] bs.length (fun g sv iv wr => ∃ i : Nat, i + g = bs.length ∧ sv = .int .i64 (outB (bs.take i)).length ∧ iv = .int .i64 i ∧ Below w11.heap.size w11 wr)
        case atStart => exact ⟨0, by omega, rfl, rfl, HR11.out⟩
        case round =>
          obtain ⟨i, hib, rfl, rfl, hbr⟩ := hrel
          have HBR := Lib.hid hbr
          clear hbr
          by_cases hlt2 : i < bs.length
          · obtain ⟨g7, cp7, hv7, _, hg7, hc7, hm7, hcell7⟩ := own_pos HS1.out (by omega)
            injection hv7 with hv7 _ hv7'
            subst hv7 hv7'
            unfold maxLen at hm7
            have hi2 : i < sv.length := by rw [HS2.out]; exact hlt2
            have hce := hcell7 i sv[i] (by rw [List.getElem?_eq_getElem hi2])
            have hrw := HS3.out i hlt2 hi2
            obtain ⟨ro, rc, hrv⟩ := own_form hrw
            rw [hrv] at hce hrw
            have hce2 := (HBR.out.cell (p := ⟨g7, i, none⟩) hg7).trans hce
            have hrw2 := owns_of_block hrw (fun k hk => HBR.out.block k (hrw.lt k hk).2)
            have HBY := Lib.hid (refBytes_any _ bs[i] wr (PrsIn.own hrw2 (HOK.out i hlt2).1) (HOK.out i hlt2).1 (HOK.out i hlt2).2)
            have hsum := outB_take_succ bs i hlt2
            have hle : (outB (bs.take (i + 1))).length ≤ (outB bs).length := by
              rcases Nat.lt_or_ge (i + 1) bs.length with h | h
              · have := outB_take_lt bs (Nat.le_refl _) h
                rw [List.take_length] at this
                omega
              · rw [List.take_of_length_le h]; exact Nat.le_refl _
            have hol := HOL.out
            have hbz := str_len (blk bs[i])
            have hii : (i : Int) < (bs.length : Int) := by omega
            have hiw : IntKind.i64.wrap ((i : Int) + 1) = (i : Int) + 1 := IntWalk.i64_in _ (by omega)
            generalize (outB (bs.take i)).length = o1 at *
            generalize (blk bs[i]).length = o2 at *
            have HSUM := Lib.hid hsum
            have w1a : IntKind.i64.wrap ((o1 : Int) + (o2 : Int)) = (o1 : Int) + (o2 : Int) := IntWalk.i64_in _ (by omega)
            have w1b : IntKind.i64.wrap ((o1 : Int) + (o2 : Int) + 12) = (o1 : Int) + (o2 : Int) + 12 := IntWalk.i64_in _ (by omega)
            have hbr := HBR.out
            clear hcell7 hce hrw hrw2 hsum hle hol hrv hbr
            go_wp2_with fail
            (with_reducible refine HBY.out.mono ?_)
            rintro e w12 ⟨rfl, hb12⟩
            have HB12 := Lib.hid (HBR.out.trans (hb12.mono HBR.out.size))
            clear hb12
            go_wp2_with fail
            go_roundg (bs.length - (i + 1))
            case measure => omega
            case rel => exact ⟨i + 1, by omega, by rw [HSUM.out]; push_cast; rfl, by go_num, HB12.out⟩
          · obtain rfl : i = bs.length := by omega
            have hB13 := HB11.out.below HBR.out
            have hcut := HTI.out
            have HSZ2 := Lib.hid (tSize_any p sz _ _ _ _ true x wr hB13.tb (by have := hB13.acc.facts.2.2.2.1; omega) (by have := hB13.acc.cutI.cur; omega))
            rw [sizeB_outB, ← HBS.out] at HSZ2
            have hm13 := (HBR.out.block pm2 (lt_of_block HM11.out)).trans HM11.out
            have hn13 := (HBR.out.block pm (lt_of_block HN11.out)).trans HN11.out
            have m0 := cellOf2 (o := 0) hm13 rfl
            have m1 := cellOf2 (o := 1) hm13 rfl
            have m2 := cellOf2 (o := 2) hm13 rfl
            have m3 := cellOf2 (o := 3) hm13 rfl
            have n0 := cellOf2 (o := 0) hn13 rfl
            have n1 := cellOf2 (o := 1) hn13 rfl
            have n2 := cellOf2 (o := 2) hn13 rfl
            have n3 := cellOf2 (o := 3) hn13 rfl
            have HB13 := Lib.hid hB13.bel
            rw [List.take_length]
            generalize (outB bs).length = ob at *
            clear hm13 hn13 hB13 hcut
            go_wp2_with fail
            (with_reducible refine HSZ2.out.mono ?_)
            rintro e w14 ⟨rfl, hb14⟩
            have HB14 := Lib.hid (HB13.out.trans (hb14.mono HB13.out.size))
            clear hb14
            go_wp2_with fail
            go_ret
            exact ⟨rfl, HB14.out⟩
end Go.Proofs.YtdbfaknpfepnfaaGreatDoor
