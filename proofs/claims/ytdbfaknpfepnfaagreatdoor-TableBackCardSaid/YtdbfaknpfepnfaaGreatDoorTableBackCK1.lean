/-
  Texts of the claim, joined: TabBkW.
-/
import Derived.Test.YtdbfaknpfepnfaaGreatDoorTabCK9
import Derived.Deep.RegionHeld3
import Derived.Deep.RegionWith

/-
  The walk of the law TableBack.
-/
namespace Go.Proofs.YtdbfaknpfepnfaaGreatDoor
open Go.RowKit CodecP CrcP FrameP BloomP

attribute [local go_sem] yl_undef
set_option maxRecDepth 100000 in
set_option maxHeartbeats 40000000 in
theorem tableBack_law (v : Value) (L : List Pr) (size most : Int) (w : World) (h : PrsIn w v L) (hwm : (Lit.int .i64 most).wf = true) (hni : ∀ W, Below w.heap.size w W → Nibs W) :
    Calls Tryz.prog 8 #[v, .int .i64 size, .int .i64 most] w fun e w' => e = .returned (.bool true) ∧ Below w.heap.size w w' := by
  obtain ⟨i0, hi, hz0, hz1, hz2⟩ := info_parts info_prR
  have hmost : most ≤ 9223372036854775807 := by
    have : -9223372036854775808 ≤ most ∧ most ≤ 9223372036854775807 := by simpa [Lit.wf, IntKind.min, IntKind.max, IntKind.signed, IntKind.bits] using hwm
    exact this.2
  clear hwm
  have HA := Lib.hid fun W (hW : Below w.heap.size w W) => tabAwake_any W (fun W2 hW2 => hni W2 (hW.trans (hW2.mono hW.size)))
  have HNI := Lib.hid hni
  clear hni
  by_cases hG : Grt L
  · have HG := Lib.hid (great_any v L w h true ⟨fun _ => hG, fun _ => rfl⟩)
    clear h hG hmost
    go_enter Tryz.func8, Tryz.ntmps8
    go_wp2_with fail
    (with_reducible refine HG.out.mono ?_)
    rintro e w1 ⟨rfl, hb1⟩
    have HB1 := Lib.hid hb1
    clear hb1
    go_wp2_with fail
    (with_reducible refine (HA.out _ HB1.out).mono ?_)
    rintro e w2 ⟨rfl, hb2⟩
    have HB := Lib.hid (HB1.out.trans (hb2.mono HB1.out.size))
    clear hb2
    go_wp2_with fail
    go_ret
    exact ⟨rfl, HB.out⟩
  have HG := Lib.hid (great_any v L w h false ⟨(fun h => by cases h), fun h => absurd h hG⟩)
  by_cases hneg : most < 0
  · have dm : decide (most < 0) = true := decide_eq_true hneg
    clear h hG hmost hneg
    go_enter Tryz.func8, Tryz.ntmps8
    go_wp2_with fail
    (with_reducible refine HG.out.mono ?_)
    rintro e w1 ⟨rfl, hb1⟩
    have HB1 := Lib.hid hb1
    clear hb1
    go_wp2_with fail
    (with_reducible refine (HA.out _ HB1.out).mono ?_)
    rintro e w2 ⟨rfl, hb2⟩
    have HB := Lib.hid (HB1.out.trans (hb2.mono HB1.out.size))
    clear hb2
    go_wp2_with fail
    go_ret
    exact ⟨rfl, HB.out⟩
  have dm : decide (most < 0) = false := decide_eq_false hneg
  obtain ⟨mo, hmo⟩ : ∃ mo : Nat, most = mo := ⟨most.toNat, by omega⟩
  subst hmo
  have HMO := Lib.hid (show mo ≤ 9223372036854775807 by omega)
  have hl200 : L.length ≤ 200 := by unfold Grt at hG; omega
  have HC := Lib.hid (fun A n cap hv i hi => h.cells (A := A) (n := n) (cap := cap) hv (i := i) hi)
  have HLE := Lib.hid h.le
  obtain ⟨A, cap, hv, hs⟩ := h.ex
  subst hv
  have hcl := hs.le
  have hcm := hs.max
  unfold maxLen at hcm
  obtain ⟨sz, hsz⟩ : ∃ sz, sz = clampN size := ⟨_, rfl⟩
  have hc1 := clamp_le size
  rw [← hsz] at hc1
  have HC1 := Lib.hid hc1
  have HNW := Lib.hid (tNew_any size)
  rw [← hsz] at HNW
  clear h hG hs hsz hc1 hneg hmost
  go_enter Tryz.func8, Tryz.ntmps8
  go_wp2_with fail
  (with_reducible refine HG.out.mono ?_)
  rintro e w1 ⟨rfl, hb1⟩
  have HB1 := Lib.hid hb1
  clear hb1
  go_wp2_with fail
  (with_reducible refine (HA.out _ HB1.out).mono ?_)
  rintro e w2 ⟨rfl, hb2⟩
  have HB2 := Lib.hid (HB1.out.trans (hb2.mono HB1.out.size))
  clear hb2 HG HA dm
  go_wp2_with fail
  (with_reducible refine (HNW.out _).mono ?_)
  rintro e w3 ⟨p, x, rfl, htb, hS, hb3⟩
  have hN : TN w w3 p sz [] x (.slice none 0 0) [] := ⟨htb, fun k hk => Nat.le_trans HB2.out.size (hS k hk), HB2.out.trans (hb3.mono HB2.out.size), World.ownsRow_nil _ _ _ _, accI_nil sz HC1.out.2.1 HC1.out.1⟩
  have HN := Lib.hid hN
  clear htb hS hb3 hN HNW
  go_wp2_with fail
  go_loopg [8, 9] L.length (fun g nv iv wr => ∃ (i : Nat) (ps : List Pr) (x : TbS), i + g = L.length ∧ iv = .int .i64 i ∧ TN w wr p sz ps x nv ps ∧ ps.length ≤ i)
  case atStart => exact ⟨0, [], _, by omega, rfl, HN.out, by simp⟩
  case round =>
    clear HN
    obtain ⟨i, ps, x, hig, rfl, hBN, hpi⟩ := hrel
    obtain ⟨ao, cp, hnv⟩ := own_form hBN.row
    subst hnv
    have HB := Lib.hid hBN
    clear hBN
    by_cases hlt : i < L.length
    · obtain ⟨bk, off, rfl, hc⟩ := HC.out _ _ _ rfl i hlt
      have hle := HLE.out L[i] (List.getElem_mem hlt)
      have HCW := Lib.hid (fun W hW => hc W hW i hlt)
      obtain ⟨c0, c1⟩ := hc wr HB.out.bel i hlt
      have e1 := str_size L[i].1
      have e2 := str_size L[i].2
      rw [← e1, ← e2] at hle
      obtain ⟨hk, hv⟩ := hle
      have gi : (i : Int) < (L.length : Int) := by omega
      clear hc e1 e2
      generalize str L[i].1 = sk at *
      generalize str L[i].2 = sv at *
      generalize L[i] = pr at *
      have hdr : Below w.heap.size w wr.drew := HB.out.bel.drew
      obtain ⟨d0, d1⟩ := HCW.out _ hdr
      have hN4d := HB.out.below (w' := wr.drew) (Below.refl _ _).drew
      have HAD := Lib.hid (tAdd_any p sz ps x sk sv wr.drew hN4d.tb hN4d.acc (by omega) hk hv (hN4d.nib HNI.out))
      have HN4D := Lib.hid hN4d
      clear hN4d hdr
      go_wp2_with fail
      refine wp_region_held_drew (S := (fun w' => w'.cell? ⟨bk, off + i * 2, none⟩ = some (.string sk) ∧ w'.cell? ⟨bk, off + i * 2 + 1, none⟩ = some (.string sv))) (by kernel_rfl) (by (try dsimp only); exact ⟨d0, d1⟩) (fun hHeld => ?_)
      refine takeH (i := 0) (d := some 38) (v := ?_) rfl rfl (by kernel_rfl) (by kernel_rfl) (by kernel_rfl) (fun _ _ _ h => h) (Or.inl ⟨by rfl, ?_⟩) (by assumption) ?_
      rotate_left
      · intro wS hSw; (try dsimp only at hSw); go_simp; (try (with_reducible rfl))
      simp only [Act.put, List.setIfInBounds_toArray, List.set_cons_zero, List.set_cons_succ]
      refine takeH (i := 1) (d := some 39) (v := ?_) rfl rfl (by kernel_rfl) (by kernel_rfl) (by kernel_rfl) (fun _ _ _ h => h) (Or.inl ⟨by rfl, ?_⟩) (by assumption) ?_
      rotate_left
      · intro wS hSw; (try dsimp only at hSw); go_simp; (try (with_reducible rfl))
      simp only [Act.put, List.setIfInBounds_toArray, List.set_cons_zero, List.set_cons_succ]
      refine takeH (i := 2) (d := some 40) (v := ?_) rfl rfl (by kernel_rfl) (by kernel_rfl) (by kernel_rfl) (fun _ _ _ h => h) (Or.inl ⟨by rfl, ?_⟩) (by assumption) ?_
      rotate_left
      · intro wS hSw; (try dsimp only at hSw); go_simp; (try (with_reducible rfl))
      simp only [Act.put, List.setIfInBounds_toArray, List.set_cons_zero, List.set_cons_succ]
      refine takeH (i := 3) (d := some 41) (v := ?_) rfl rfl (by kernel_rfl) (by kernel_rfl) (by kernel_rfl) (fun _ _ _ h => h) (Or.inl ⟨by rfl, ?_⟩) (by assumption) ?_
      rotate_left
      · intro wS hSw; (try dsimp only at hSw); go_simp; (try (with_reducible rfl))
      simp only [Act.put, List.setIfInBounds_toArray, List.set_cons_zero, List.set_cons_succ]
      refine takeH (i := 4) (d := some 42) (v := ?_) rfl rfl (by kernel_rfl) (by kernel_rfl) (by kernel_rfl) (fun _ _ _ h => h) (Or.inl ⟨by rfl, ?_⟩) (by assumption) ?_
      rotate_left
      · intro wS hSw; (try dsimp only at hSw); go_simp; (try (with_reducible rfl))
      simp only [Act.put, List.setIfInBounds_toArray, List.set_cons_zero, List.set_cons_succ]
      refine takeH (i := 5) (d := some 43) (v := ?_) rfl rfl (by kernel_rfl) (by kernel_rfl) (by kernel_rfl) (fun _ _ _ h => h) (Or.inl ⟨by rfl, ?_⟩) (by assumption) ?_
      rotate_left
      · intro wS hSw; (try dsimp only at hSw); go_simp; (try (with_reducible rfl))
      simp only [Act.put, List.setIfInBounds_toArray, List.set_cons_zero, List.set_cons_succ]
      refine takeH (i := 6) (d := some 44) (v := ?_) rfl rfl (by kernel_rfl) (by kernel_rfl) (by kernel_rfl) (fun _ _ _ h => h) (Or.inl ⟨by rfl, ?_⟩) (by assumption) ?_
      rotate_left
      · intro wS hSw; (try dsimp only at hSw); go_simp; (try (with_reducible rfl))
      simp only [Act.put, List.setIfInBounds_toArray, List.set_cons_zero, List.set_cons_succ]
      refine takeH (i := 7) (d := some 45) (v := ?_) rfl rfl (by kernel_rfl) (by kernel_rfl) (by kernel_rfl) (fun _ _ _ h => h) (Or.inl ⟨by rfl, ?_⟩) (by assumption) ?_
      rotate_left
      · intro wS hSw; (try dsimp only at hSw); go_simp; (try (with_reducible rfl))
      simp only [Act.put, List.setIfInBounds_toArray, List.set_cons_zero, List.set_cons_succ]
      refine takeH (i := 8) (d := some 46) (v := ?_) rfl rfl (by kernel_rfl) (by kernel_rfl) (by kernel_rfl) (fun _ _ _ h => h) (Or.inl ⟨by rfl, ?_⟩) (by assumption) ?_
      rotate_left
      · intro wS hSw; (try dsimp only at hSw); go_simp; (try (with_reducible rfl))
      simp only [Act.put, List.setIfInBounds_toArray, List.set_cons_zero, List.set_cons_succ]
      refine takeH (i := 9) (d := some 47) (v := ?_) rfl rfl (by kernel_rfl) (by kernel_rfl) (by kernel_rfl) (fun _ _ _ h => h) (Or.inl ⟨by rfl, ?_⟩) (by assumption) ?_
      rotate_left
      · intro wS hSw; (try dsimp only at hSw); go_simp; (try (with_reducible rfl))
      simp only [Act.put, List.setIfInBounds_toArray, List.set_cons_zero, List.set_cons_succ]
      refine takeH (i := 10) (d := some 48) (v := ?_) rfl rfl (by kernel_rfl) (by kernel_rfl) (by kernel_rfl) (fun _ _ _ h => h) (Or.inl ⟨by rfl, ?_⟩) (by assumption) ?_
      rotate_left
      · intro wS hSw; (try dsimp only at hSw); go_simp; (try (with_reducible rfl))
      simp only [Act.put, List.setIfInBounds_toArray, List.set_cons_zero, List.set_cons_succ]
      refine wpAnyH_ready (rs := [11]) (by kernel_rfl) (by simp) ?_
      refine AllReadyH.cons rfl (fun K hK => ?_) AllReadyH.nil
      go_simp
      refine HAD.out.mono ?_
      rintro e w5 (⟨hok5, hlk5, rfl, hta⟩ | ⟨hno5, rfl, hb5⟩)
      · obtain ⟨x5, hN5⟩ := HN4D.out.add hta (HN4D.out.acc.snoc hok5 hlk5 (by omega))
        have HN5 := Lib.hid hN5
        obtain ⟨k0, k1⟩ := HCW.out w5 hN5.bel
        clear hok5 hlk5 hta hN5 c0 c1
        go_wp2_with fail
        refine hK.out _ _ (by (try dsimp only); exact ⟨k0, k1⟩) (fun hHeld => ?_)
        clear hK K
        refine takeH (i := 12) (d := some 50) (v := ?_) rfl rfl (by kernel_rfl) (by kernel_rfl) (by kernel_rfl) (fun _ _ _ h => h) (Or.inl ⟨by rfl, ?_⟩) (by assumption) ?_
        rotate_left
        · intro wS hSw; (try dsimp only at hSw); go_simp; (try (with_reducible rfl))
        simp only [Act.put, List.setIfInBounds_toArray, List.set_cons_zero, List.set_cons_succ]
        refine wpAnyH_done (by kernel_rfl) ?_ _
        have HR5 := Lib.hid HN5.out.row
        have HPR : Hid (flatR [(bl sk, bl sv)] = [.string sk, .string sv]) := Lib.hid (by simp [flatR, str_bl])
        clear hHeld d0 d1
        go_wp2_with (at_builtin; refine wpList_append_own_at _ rfl (.tmp 51) (.tmp 56) 36 rfl w.heap.size 40 i0 (.agg #[.string ⟨#[]⟩, .string ⟨#[]⟩]) 2 32 Tryz.underlying36 hi hz0 hz1 hz2 rfl (by decide) _ _ _ rfl (HR5.out.alloc _) ⟨w5.heap.size, 0, none⟩ 1 1 [.string sk, .string sv] rfl rfl (cells2_new _ _ _ _) (two_one _ _) (by unfold maxLen; omega) (by omega) (Nat.le_trans HN5.out.bel.size (by simp)) ?_; intro v7 w7 hown hgrow hx1 hx2; have hN7 := HN5.out.append (qs' := ps ++ [(bl sk, bl sv)]) hgrow (by rw [List.length_append, List.length_singleton, flatR_append, HPR.out]; exact hown); have HN7 := Lib.hid hN7; clear hown hgrow hx1 hx2 hN7)
        go_roundg (L.length - (i + 1))
        case measure => omega
        case rel => exact ⟨i + 1, _, x5, by omega, by go_num, HN7.out, by simp; omega⟩
      · have HN5 := Lib.hid (HN4D.out.below hb5)
        obtain ⟨k0, k1⟩ := HCW.out w5 HN5.out.bel
        clear hno5 hb5 c0 c1
        go_wp2_with fail
        refine hK.out _ _ (by (try dsimp only); exact ⟨k0, k1⟩) (fun hHeld => ?_)
        clear hK K
        refine takeH (i := 12) (d := some 50) (v := ?_) rfl rfl (by kernel_rfl) (by kernel_rfl) (by kernel_rfl) (fun _ _ _ h => h) (Or.inl ⟨by rfl, ?_⟩) (by assumption) ?_
        rotate_left
        · intro wS hSw; (try dsimp only at hSw); go_simp; (try (with_reducible rfl))
        simp only [Act.put, List.setIfInBounds_toArray, List.set_cons_zero, List.set_cons_succ]
        refine wpAnyH_done (by kernel_rfl) ?_ _
        clear hHeld d0 d1
        go_wp2_with fail
        go_roundg (L.length - (i + 1))
        case measure => omega
        case rel => exact ⟨i + 1, ps, x, by omega, by go_num, HN5.out, by omega⟩
    · obtain rfl : i = L.length := by omega
      clear HC HLE hcl hcm
      have HTI := Lib.hid HB.out.acc.tab
      have HRI := Lib.hid HB.out.acc.rise
      have HFH := Lib.hid HB.out.acc.finH
      have HF1 := Lib.hid (tFinish_any p sz _ _ _ _ false x wr HB.out.tb HFH.out (HB.out.nib HNI.out))
      unfold metaV at HF1
      rw [keysOf_len] at HF1
      obtain ⟨tn, htn⟩ : ∃ tn, tn = (tabS (bsOf (cut sz ps).1 (cut sz ps).2) (keysOf ps)).length := ⟨_, rfl⟩
      rw [← htn] at HF1
      obtain ⟨FA, hFA⟩ : ∃ FA, FA = str ((keysOf ps).headD []) := ⟨_, rfl⟩
      obtain ⟨LA, hLA⟩ : ∃ LA, LA = str ((keysOf ps).getLastD []) := ⟨_, rfl⟩
      rw [← hFA, ← hLA] at HF1
      clear htn hFA hLA
      obtain ⟨bs, hbs⟩ : ∃ bs, bs = bsOf (cut sz ps).1 (cut sz ps).2 := ⟨_, rfl⟩
      have HOP := Lib.hid fun (bo : Option Addr) (W : World) (h1 : Nibs W) (h2 : ∀ W', Below W.heap.size W W' → Nibs W') => tOpen_built HTI.out 3 bo W h1 h2
      have HBL := Lib.hid fun W : World => blocks_kch mo W 3 (by decide) (LdT (tabS (bsOf (cut sz ps).1 (cut sz ps).2) (keysOf ps)) (whs 0 (bsOf (cut sz ps).1 (cut sz ps).2))) HMO.out
      rw [← hbs] at HOP HBL HTI
      obtain ⟨ST, hST⟩ : ∃ ST, ST = str (tabS (bsOf (cut sz ps).1 (cut sz ps).2) (keysOf ps)) := ⟨_, rfl⟩
      rw [← hST] at HF1
      rw [← hbs] at hST
      have HST := Lib.hid hST
      rw [← hST] at HOP
      clear hbs hST
      go_wp2_with fail
      (with_reducible refine HF1.out.mono ?_)
      rintro e w6 ⟨rfl, ht6, hf6⟩
      have hB6 := HB.out.fin ht6 hf6
      have hb7 : Below w6.heap.size w6 (w6.alloc (.cells #[.string FA, .string LA, .int .i64 ps.length, .int .i64 tn] 63)) := (Below.refl _ w6).alloc (Nat.le_refl _) _
      have HROW := Lib.hid (hB6.below hb7).row
      have HBEL := Lib.hid (hB6.below hb7).bel
      clear ht6 hf6 HF1 HB hB6 hb7
      go_upto_region 11 with (fail)
      generalize w6.alloc (.cells #[.string FA, .string LA, .int .i64 ps.length, .int .i64 tn] 63) = w7 at *
      go_wp2_with fail
      (with_reducible refine (HBL.out w7).mono ?_)
      rintro e w8 ⟨hb8, Q, bo, kc, rfl, hC8, hQ8⟩
      have HB8 := Lib.hid hb8
      have HC8 := Lib.hid hC8
      have HQ := Lib.hid (fun k hk => Nat.le_trans HBEL.out.size (hQ8 k hk))
      have HBEL8 := Lib.hid (HBEL.out.trans (hb8.mono HBEL.out.size))
      have HROW8 := Lib.hid (owns_of_block HROW.out (fun k hk => hb8.block k (HROW.out.lt k hk).2))
      clear hb8 hC8 hQ8 HBL HROW HBEL HB8
      have HOP8 := Lib.hid (HOP.out bo w8 (HNI.out _ HBEL8.out) (fun W hW => HNI.out W (HBEL8.out.trans (hW.mono HBEL8.out.size))))
      clear HOP
      go_wp2_with fail
      (with_reducible refine HOP8.out.mono ?_)
      rintro e w9 ⟨hb9, pT, pi, vi, pv, rfl, hTt⟩
      rw [HST.out] at hTt
      have hbk : BkS kc w w9 pT (str (tabS bs (keysOf ps))) (make ((keysOf ps).map frontK)) (idx bs) (whs 0 bs) ps.length (.slice ao ps.length cp) ps := ⟨TbC.of_built HTI.out kc hTt (kc.below HC8.out hb9), HBEL8.out.trans (hb9.mono HBEL8.out.size), owns_of_block HROW8.out (fun k hk => hb9.block k (HROW8.out.lt k hk).2), HQ.out⟩
      have HBK := Lib.hid hbk
      have HVF := Lib.hid (verify_any bs hbk.tb (blsO_built HTI.out.bks _) (by rw [HTI.out.bks.flat]; exact HRI.out) (by rw [HTI.out.bks.flat]) (may_built HTI.out.bks) (by have := make_len ((keysOf ps).map frontK) (by have := HTI.out.few; simpa using this); omega) (hbk.nkf HNI.out))
      have hplen : ps.length ≤ 200 := by have := HTI.out.few; rwa [keysOf_len] at this
      clear hb9 hTt hbk HOP8 HC8 HQ HBEL8 HROW8
      go_wp2_with fail
      (with_reducible refine HVF.out.mono ?_)
      rintro e w10 ⟨rfl, hf10, ht10⟩
      have hbk10 := HBK.out.kf hf10 ht10
      have HBK10 := Lib.hid hbk10
      obtain ⟨B10, pi10, vi10, pv10, hT10⟩ := hbk10.tb.tt
      have HCT := Lib.hid (count_any hT10)
      clear hf10 ht10 hbk10 hT10 HVF HBK
      go_wp2_with fail
      (with_reducible refine HCT.out.mono ?_)
      rintro e w11 ⟨rfl, rfl⟩
      have HCN := Lib.hid (curNew_any pT w10)
      clear HCT
      go_wp2_with fail
      (with_reducible refine HCN.out.mono ?_)
      rintro e w12 ⟨rfl, hc12, hb12⟩
      have hbk12 := HBK10.out.below hb12
      have HCB := Lib.hid HBK10.out.bel.size
      have HCF := Lib.hid (cuFirst_any 0 0 (.pointer none) hc12 hbk12.tb (hbk12.nkc HCB.out HNI.out))
      have HBK12 := Lib.hid hbk12
      have HC12 := Lib.hid (show ∃ cs f, w12.heap[w10.heap.size]? = some (.cells cs 157 f) from ⟨_, _, hc12⟩)
      clear hb12 hbk12 hc12 HCN HBK10
      generalize w10.heap.size = c at *
      go_wp2_with fail
      (with_reducible refine HCF.out.mono ?_)
      rintro e w13 ⟨rfl, hk13, ht13, hu13⟩
      replace hu13 := hu13.cu
      rw [blsO_built HTI.out.bks, goL_whole, HTI.out.bks.flat] at hu13
      dsimp only at hu13
      rw [← blsO_built HTI.out.bks (keysOf ps)] at hu13
      have HU13 := Lib.hid hu13
      have HBK13 := Lib.hid (HBK12.out.kcu HCB.out HC12.out hk13 ht13)
      clear hk13 ht13 hu13 HCF HBK12 HC12
      go_wp2_with fail
      go_loopg [15] ps.length (fun g iv wr => ∃ i : Nat, i + g = ps.length ∧ iv = .int .i64 i ∧ BkS kc w wr pT (str (tabS bs (keysOf ps))) (make ((keysOf ps).map frontK)) (idx bs) (whs 0 bs) ps.length (.slice ao ps.length cp) ps ∧ Cu wr c pT (blsO (str (tabS bs (keysOf ps))) (whs 0 bs)) (ps.drop i) false)
      case atStart => exact ⟨0, by omega, rfl, HBK13.out, by rw [List.drop_zero]; exact HU13.out⟩
      case round =>
        clear HBK13 HU13
        obtain ⟨i, hig, rfl, hbr, hur⟩ := hrel
        have HBR := Lib.hid hbr
        have HUR := Lib.hid hur
        clear hbr hur
        by_cases hlt : i < ps.length
        · obtain ⟨g6, cp6, hv6, _, hg6, hc6, hm6, hcell6⟩ := own_pos HBR.out.row (by omega)
          injection hv6 with hv6 _ hv6'
          subst hv6 hv6'
          unfold maxLen at hm6
          have hcw := fun (W : World) (hW : W.ownsRow w.heap.size 40 2 (.slice (some ⟨g6, 0, none⟩) ps.length cp) ps.length (flatR ps)) => And.intro ((hW.cellAt (i * 2) (by omega)).trans (flatR_get ps i hlt).1) ((hW.cellAt (i * 2 + 1) (by omega)).trans (flatR_get ps i hlt).2)
          have HCL := Lib.hid hcw
          have k0 := (hcw wr HBR.out.row).1
          have gi : (i : Int) < (ps.length : Int) := by omega
          obtain ⟨Br, pir, vir, pvr, hTr⟩ := HBR.out.tb.tt
          have hgt := tGet_built HTI.out kc wr Br pT pir vir pvr (str ps[i].1) hTr HBR.out.tb.c (by have := (HRI.out.ok _ (List.getElem_mem hlt)).2.1; rw [str_size]; omega) (HBR.out.nkf HNI.out)
          rw [bl_str, getN_mem HRI.out (List.getElem_mem hlt)] at hgt
          dsimp only at hgt
          have HGT := Lib.hid hgt
          have hdrp : ps.drop i = ps[i] :: ps.drop (i + 1) := List.drop_eq_getElem_cons hlt
          rw [hdrp] at HUR
          clear hgt hTr hcell6 hdrp hcw
          generalize hpx : ps[i] = px at *
          clear hpx
          obtain ⟨qk, qv⟩ := px
          dsimp only at k0 HCL HGT
          go_wp2_with fail
          (with_reducible refine HGT.out.mono ?_)
          rintro e wg ⟨hkg, hcg, rfl⟩
          have hbg := HBR.out.kf hkg (HBR.out.tb.kf hkg hcg)
          have hug := HUR.out.kf hkg
          have hdr : Below wg.heap.size wg wg.drew := (Below.refl _ wg).drew
          have hbgd := hbg.below hdr
          have hugd := hug.below hdr
          obtain ⟨d0, d1⟩ := HCL.out wg.drew hbgd.row
          have HVY := Lib.hid (cuValid_yes hugd)
          have HPY := Lib.hid (cuPair_any hugd)
          have HBG := Lib.hid hbgd
          have HUG := Lib.hid hugd
          clear hkg hcg HBR HUR HGT k0 hbg hug hdr hbgd hugd
          generalize str qk = sk at *
          generalize str qv = sv at *
          have hfd : ∀ wS, (Instr.field 43 (.agg #[.string sk, .string sv]) 0).run Tryz.prog wS = .ok (.string sk) wS := fun wS => by first | rfl | (simp [Instr.field, go_sem])
          go_wp2_with fail
          refine wp_region_held_drew (S := (fun w' => w'.cell? ⟨g6, i * 2, none⟩ = some (.string sk) ∧ w'.cell? ⟨g6, i * 2 + 1, none⟩ = some (.string sv))) (by kernel_rfl) (by (try dsimp only); exact ⟨d0, d1⟩) (fun hHeld => ?_)
          refine takeH (i := 0) (d := some 109) (v := ?_) rfl rfl (by kernel_rfl) (by kernel_rfl) (by kernel_rfl) (fun _ _ _ h => h) (Or.inl ⟨by rfl, ?_⟩) (by assumption) ?_
          rotate_left
          · intro wS hSw; (try dsimp only at hSw); go_simp; (try (with_reducible rfl))
          simp only [Act.put, List.setIfInBounds_toArray, List.set_cons_zero, List.set_cons_succ]
          refine wpAnyH_ready (rs := [1]) (by kernel_rfl) (by simp) ?_
          refine AllReadyH.cons rfl (fun K hK => ?_) AllReadyH.nil
          go_simp
          refine HVY.out.mono ?_
          rintro e w4 ⟨rfl, rfl⟩
          go_wp2_with fail
          refine hK.out _ _ (by (try dsimp only); exact ⟨d0, d1⟩) (fun hHeld => ?_)
          clear hK K
          refine takeH (i := 2) (d := some 111) (v := ?_) rfl rfl (by kernel_rfl) (by kernel_rfl) (by kernel_rfl) (fun _ _ _ h => h) (Or.inl ⟨by rfl, ?_⟩) (by assumption) ?_
          rotate_left
          · intro wS hSw; (try dsimp only at hSw); go_simp; (try (with_reducible rfl))
          simp only [Act.put, List.setIfInBounds_toArray, List.set_cons_zero, List.set_cons_succ]
          refine takeH (i := 3) (d := some 112) (v := ?_) rfl rfl (by kernel_rfl) (by kernel_rfl) (by kernel_rfl) (fun _ _ _ h => h) (Or.inl ⟨by rfl, ?_⟩) (by assumption) ?_
          rotate_left
          · intro wS hSw; (try dsimp only at hSw); go_simp; (try (with_reducible rfl))
          simp only [Act.put, List.setIfInBounds_toArray, List.set_cons_zero, List.set_cons_succ]
          refine takeH (i := 4) (d := some 113) (v := ?_) rfl rfl (by kernel_rfl) (by kernel_rfl) (by kernel_rfl) (fun _ _ _ h => h) (Or.inl ⟨by rfl, ?_⟩) (by assumption) ?_
          rotate_left
          · intro wS hSw; (try dsimp only at hSw); go_simp; (try (with_reducible rfl))
          simp only [Act.put, List.setIfInBounds_toArray, List.set_cons_zero, List.set_cons_succ]
          refine takeH (i := 7) (d := some 116) (v := ?_) rfl rfl (by kernel_rfl) (by kernel_rfl) (by kernel_rfl) (fun _ _ _ h => h) (Or.inl ⟨by rfl, ?_⟩) (by assumption) ?_
          rotate_left
          · intro wS hSw; (try dsimp only at hSw); go_simp; (try (with_reducible rfl))
          simp only [Act.put, List.setIfInBounds_toArray, List.set_cons_zero, List.set_cons_succ]
          refine takeH (i := 8) (d := some 117) (v := ?_) rfl rfl (by kernel_rfl) (by kernel_rfl) (by kernel_rfl) (fun _ _ _ h => h) (Or.inl ⟨by rfl, ?_⟩) (by assumption) ?_
          rotate_left
          · intro wS hSw; (try dsimp only at hSw); go_simp; (try (with_reducible rfl))
          simp only [Act.put, List.setIfInBounds_toArray, List.set_cons_zero, List.set_cons_succ]
          refine takeH (i := 9) (d := some 118) (v := ?_) rfl rfl (by kernel_rfl) (by kernel_rfl) (by kernel_rfl) (fun _ _ _ h => h) (Or.inl ⟨by rfl, ?_⟩) (by assumption) ?_
          rotate_left
          · intro wS hSw; (try dsimp only at hSw); go_simp; (try (with_reducible rfl))
          simp only [Act.put, List.setIfInBounds_toArray, List.set_cons_zero, List.set_cons_succ]
          refine takeH (i := 10) (d := some 119) (v := ?_) rfl rfl (by kernel_rfl) (by kernel_rfl) (by kernel_rfl) (fun _ _ _ h => h) (Or.inl ⟨by rfl, ?_⟩) (by assumption) ?_
          rotate_left
          · intro wS hSw; (try dsimp only at hSw); go_simp; (try (with_reducible rfl))
          simp only [Act.put, List.setIfInBounds_toArray, List.set_cons_zero, List.set_cons_succ]
          refine takeH (i := 11) (d := some 120) (v := ?_) rfl rfl (by kernel_rfl) (by kernel_rfl) (by kernel_rfl) (fun _ _ _ h => h) (Or.inl ⟨by rfl, ?_⟩) (by assumption) ?_
          rotate_left
          · intro wS hSw; (try dsimp only at hSw); go_simp; (try (with_reducible rfl))
          simp only [Act.put, List.setIfInBounds_toArray, List.set_cons_zero, List.set_cons_succ]
          refine wpAnyH_ready (rs := [5]) (by kernel_rfl) (by simp) ?_
          refine AllReadyH.cons rfl (fun K hK => ?_) AllReadyH.nil
          go_simp
          refine HPY.out.mono ?_
          rintro e w5 ⟨rfl, hb5⟩
          obtain ⟨k0, k1⟩ := HCL.out w5 (HBG.out.below hb5).row
          have HB5 := Lib.hid hb5
          clear hb5
          go_wp2_with fail
          refine hK.out _ _ (by (try dsimp only); exact ⟨k0, k1⟩) (fun hHeld => ?_)
          clear hK K
          refine takeH (i := 6) (d := some 115) (v := ?_) rfl rfl (by kernel_rfl) (by kernel_rfl) (by kernel_rfl) (fun _ _ _ h => h) (Or.inl ⟨by rfl, ?_⟩) (by assumption) ?_
          rotate_left
          · intro wS hSw; (try dsimp only at hSw); go_simp; (try (with_reducible rfl))
          simp only [Act.put, List.setIfInBounds_toArray, List.set_cons_zero, List.set_cons_succ]
          refine takeH (i := 12) (d := some 121) (v := ?_) rfl rfl (by kernel_rfl) (by kernel_rfl) (by kernel_rfl) (fun _ _ _ h => h) (Or.inl ⟨by rfl, ?_⟩) (by assumption) ?_
          rotate_left
          · intro wS hSw; (try dsimp only at hSw); go_simp; (try (with_reducible rfl))
          simp only [Act.put, List.setIfInBounds_toArray, List.set_cons_zero, List.set_cons_succ]
          refine takeH (i := 13) (d := some 122) (v := ?_) rfl rfl (by kernel_rfl) (by kernel_rfl) (by kernel_rfl) (fun _ _ _ h => h) (Or.inl ⟨by rfl, ?_⟩) (by assumption) ?_
          rotate_left
          · intro wS hSw; (try dsimp only at hSw); go_simp; (try (with_reducible rfl))
          simp only [Act.put, List.setIfInBounds_toArray, List.set_cons_zero, List.set_cons_succ]
          refine takeH (i := 14) (d := some 123) (v := ?_) rfl rfl (by kernel_rfl) (by kernel_rfl) (by kernel_rfl) (fun _ _ _ h => h) (Or.inl ⟨by rfl, ?_⟩) (by assumption) ?_
          rotate_left
          · intro wS hSw; (try dsimp only at hSw); go_simp; (try (with_reducible rfl))
          simp only [Act.put, List.setIfInBounds_toArray, List.set_cons_zero, List.set_cons_succ]
          refine takeH (i := 15) (d := some 124) (v := ?_) rfl rfl (by kernel_rfl) (by kernel_rfl) (by kernel_rfl) (fun _ _ _ h => h) (Or.inl ⟨by rfl, ?_⟩) (by assumption) ?_
          rotate_left
          · intro wS hSw; (try dsimp only at hSw); go_simp; (try (with_reducible rfl))
          simp only [Act.put, List.setIfInBounds_toArray, List.set_cons_zero, List.set_cons_succ]
          refine takeH (i := 16) (d := some 125) (v := ?_) rfl rfl (by kernel_rfl) (by kernel_rfl) (by kernel_rfl) (fun _ _ _ h => h) (Or.inl ⟨by rfl, ?_⟩) (by assumption) ?_
          rotate_left
          · intro wS hSw; (try dsimp only at hSw); go_simp; (try (with_reducible rfl))
          simp only [Act.put, List.setIfInBounds_toArray, List.set_cons_zero, List.set_cons_succ]
          refine takeH (i := 17) (d := some 126) (v := ?_) rfl rfl (by kernel_rfl) (by kernel_rfl) (by kernel_rfl) (fun _ _ _ h => h) (Or.inl ⟨by rfl, ?_⟩) (by assumption) ?_
          rotate_left
          · intro wS hSw; (try dsimp only at hSw); go_simp; (try (with_reducible rfl))
          simp only [Act.put, List.setIfInBounds_toArray, List.set_cons_zero, List.set_cons_succ]
          refine takeH (i := 18) (d := some 127) (v := ?_) rfl rfl (by kernel_rfl) (by kernel_rfl) (by kernel_rfl) (fun _ _ _ h => h) (Or.inl ⟨by rfl, ?_⟩) (by assumption) ?_
          rotate_left
          · intro wS hSw; (try dsimp only at hSw); go_simp; (try (with_reducible rfl))
          simp only [Act.put, List.setIfInBounds_toArray, List.set_cons_zero, List.set_cons_succ]
          refine takeH (i := 19) (d := some 128) (v := ?_) rfl rfl (by kernel_rfl) (by kernel_rfl) (by kernel_rfl) (fun _ _ _ h => h) (Or.inl ⟨by rfl, ?_⟩) (by assumption) ?_
          rotate_left
          · intro wS hSw; (try dsimp only at hSw); go_simp; (try (with_reducible rfl))
          simp only [Act.put, List.setIfInBounds_toArray, List.set_cons_zero, List.set_cons_succ]
          refine takeH (i := 20) (d := some 129) (v := ?_) rfl rfl (by kernel_rfl) (by kernel_rfl) (by kernel_rfl) (fun _ _ _ h => h) (Or.inl ⟨by rfl, ?_⟩) (by assumption) ?_
          rotate_left
          · intro wS hSw; (try dsimp only at hSw); go_simp; (try (with_reducible rfl))
          simp only [Act.put, List.setIfInBounds_toArray, List.set_cons_zero, List.set_cons_succ]
          refine takeH (i := 21) (d := some 130) (v := ?_) rfl rfl (by kernel_rfl) (by kernel_rfl) (by kernel_rfl) (fun _ _ _ h => h) (Or.inl ⟨by rfl, ?_⟩) (by assumption) ?_
          rotate_left
          · intro wS hSw; (try dsimp only at hSw); go_simp; (try (with_reducible rfl))
          simp only [Act.put, List.setIfInBounds_toArray, List.set_cons_zero, List.set_cons_succ]
          refine takeH (i := 22) (d := some 131) (v := ?_) rfl rfl (by kernel_rfl) (by kernel_rfl) (by kernel_rfl) (fun _ _ _ h => h) (Or.inl ⟨by rfl, ?_⟩) (by assumption) ?_
          rotate_left
          · intro wS hSw; (try dsimp only at hSw); go_simp; (try (with_reducible rfl))
          simp only [Act.put, List.setIfInBounds_toArray, List.set_cons_zero, List.set_cons_succ]
          refine takeH (i := 23) (d := some 132) (v := ?_) rfl rfl (by kernel_rfl) (by kernel_rfl) (by kernel_rfl) (fun _ _ _ h => h) (Or.inl ⟨by rfl, ?_⟩) (by assumption) ?_
          rotate_left
          · intro wS hSw; (try dsimp only at hSw); go_simp; (try (with_reducible rfl))
          simp only [Act.put, List.setIfInBounds_toArray, List.set_cons_zero, List.set_cons_succ]
          refine takeH (i := 24) (d := some 133) (v := ?_) rfl rfl (by kernel_rfl) (by kernel_rfl) (by kernel_rfl) (fun _ _ _ h => h) (Or.inl ⟨by rfl, ?_⟩) (by assumption) ?_
          rotate_left
          · intro wS hSw; (try dsimp only at hSw); go_simp; (try (with_reducible rfl))
          simp only [Act.put, List.setIfInBounds_toArray, List.set_cons_zero, List.set_cons_succ]
          refine takeH (i := 25) (d := some 134) (v := ?_) rfl rfl (by kernel_rfl) (by kernel_rfl) (by kernel_rfl) (fun _ _ _ h => h) (Or.inl ⟨by rfl, ?_⟩) (by assumption) ?_
          rotate_left
          · intro wS hSw; (try dsimp only at hSw); go_simp; (try (with_reducible rfl))
          simp only [Act.put, List.setIfInBounds_toArray, List.set_cons_zero, List.set_cons_succ]
          refine takeH (i := 26) (d := some 135) (v := ?_) rfl rfl (by kernel_rfl) (by kernel_rfl) (by kernel_rfl) (fun _ _ _ h => h) (Or.inl ⟨by rfl, ?_⟩) (by assumption) ?_
          rotate_left
          · intro wS hSw; (try dsimp only at hSw); go_simp; (try (with_reducible rfl))
          simp only [Act.put, List.setIfInBounds_toArray, List.set_cons_zero, List.set_cons_succ]
          refine takeH (i := 27) (d := some 136) (v := ?_) rfl rfl (by kernel_rfl) (by kernel_rfl) (by kernel_rfl) (fun _ _ _ h => h) (Or.inl ⟨by rfl, ?_⟩) (by assumption) ?_
          rotate_left
          · intro wS hSw; (try dsimp only at hSw); go_simp; (try (with_reducible rfl))
          simp only [Act.put, List.setIfInBounds_toArray, List.set_cons_zero, List.set_cons_succ]
          refine takeH (i := 28) (d := some 137) (v := ?_) rfl rfl (by kernel_rfl) (by kernel_rfl) (by kernel_rfl) (fun _ _ _ h => h) (Or.inl ⟨by rfl, ?_⟩) (by assumption) ?_
          rotate_left
          · intro wS hSw; (try dsimp only at hSw); go_simp; (try (with_reducible rfl))
          simp only [Act.put, List.setIfInBounds_toArray, List.set_cons_zero, List.set_cons_succ]
          refine takeH (i := 29) (d := some 138) (v := ?_) rfl rfl (by kernel_rfl) (by kernel_rfl) (by kernel_rfl) (fun _ _ _ h => h) (Or.inl ⟨by rfl, ?_⟩) (by assumption) ?_
          rotate_left
          · intro wS hSw; (try dsimp only at hSw); go_simp; (try (with_reducible rfl))
          simp only [Act.put, List.setIfInBounds_toArray, List.set_cons_zero, List.set_cons_succ]
          refine takeH (i := 30) (d := some 139) (v := ?_) rfl rfl (by kernel_rfl) (by kernel_rfl) (by kernel_rfl) (fun _ _ _ h => h) (Or.inl ⟨by rfl, ?_⟩) (by assumption) ?_
          rotate_left
          · intro wS hSw; (try dsimp only at hSw); go_simp; (try (with_reducible rfl))
          simp only [Act.put, List.setIfInBounds_toArray, List.set_cons_zero, List.set_cons_succ]
          refine wpAnyH_done (by kernel_rfl) ?_ _
          have hb5 := HBG.out.below HB5.out
          have hu5 := HUG.out.below HB5.out
          have HNX := Lib.hid (cuNext_any hu5 hb5.tb (hb5.nkc HCB.out HNI.out))
          have HC5 := Lib.hid (cu_cell hu5)
          have HBK5 := Lib.hid hb5
          clear hb5 hu5
          go_wp2_with fail
          (with_reducible refine HNX.out.mono ?_)
          rintro e w6 ⟨rfl, hk6, ht6, hu6⟩
          have HB6 := Lib.hid (HBK5.out.kcu HCB.out HC5.out hk6 ht6)
          have HU6 := Lib.hid hu6.cu
          clear hk6 ht6 hu6
          go_wp2_with fail
          go_roundg (ps.length - (i + 1))
          case measure => omega
          case rel => exact ⟨i + 1, by omega, by go_num, HB6.out, HU6.out⟩
        · obtain rfl : i = ps.length := by omega
          have hend := HUR.out
          rw [List.drop_length] at hend
          obtain ⟨y1, y2, hcc⟩ := hend.none
          replace hcc : CuC wr c pT y1 y2 (.pointer none) 0 := hcc
          have HV := Lib.hid (cuValid_no hcc)
          have HE := Lib.hid (cuErr_c hcc)
          have HBE := Lib.hid HBR.out.bel
          clear hend hcc HUR HBR
          go_wp2_with fail
          (with_reducible refine HV.out.mono ?_)
          rintro e w4 ⟨rfl, rfl⟩
          go_wp2_with fail
          (with_reducible refine HE.out.mono ?_)
          rintro e w4 ⟨rfl, rfl⟩
          go_wp2_with fail
          go_ret
          exact ⟨rfl, HBE.out⟩
end Go.Proofs.YtdbfaknpfepnfaaGreatDoor
