
/-
  The walk of the law BlockBack.
-/
import Derived.Test.YtcoicdaobgneeaaSameBW
import Derived.Test.YtcoicdaobgneeaaBOpenW
namespace Go.Proofs.Ytcoicdaobgneeaa
open Go.RowKit CodecP

theorem datF_inj : ∀ (a b : List Pr) (i : Nat) (last : List UInt8), (∀ p ∈ a, Okp p) → (∀ p ∈ b, Okp p) → last.length ≤ 80 → datF i last a = datF i last b → a = b
  | [], [], _, _, _, _, _, _ => rfl
  | [], p :: r, i, last, _, hb, hl, h => by
    have h1 := stepF_dat hb i last hl
    exfalso
    have h2 := congrArg List.length h
    have h3 := (hb p (by simp)).1
    have h4 := grp_pos (sameOf i last p.1)
    simp only [datF, ent, List.length_append, List.length_nil] at h2
    omega
  | p :: r, [], i, last, ha, _, hl, h => by
    exfalso
    have h2 := congrArg List.length h
    have h4 := grp_pos (sameOf i last p.1)
    simp only [datF, ent, List.length_append, List.length_nil] at h2
    omega
  | p :: r, q :: t, i, last, ha, hb, hl, h => by
    have hp := ha p (by simp)
    have hq := hb q (by simp)
    have st : ∀ (z : Pr) (y : List Pr), Okp z → stepF last (some (datF i last (z :: y))) = some (z, sameOf i last z.1, datF (i + 1) z.1 y) := fun z y hz => by
      rw [datF]
      refine stepF_ent _ _ _ _ (sameOf_le i last z.1).1 ?_ (by omega) (by have := hz.2.1; omega) hz.2.2
      unfold sameOf
      split
      · rfl
      · exact (cmn_take _ _).symm
    have e := st p r hp
    rw [h, st q t hq] at e
    simp only [Option.some.injEq, Prod.mk.injEq] at e
    obtain ⟨e1, -, e3⟩ := e
    subst e1
    rw [datF_inj r t (i + 1) q.1 (fun z hz => ha z (by simp [hz])) (fun z hz => hb z (by simp [hz])) hq.2.1 e3.symm]
/-- One block is of one list of pairs alone. -/
theorem blk_inj {a b : List Pr} (ha : Rise a) (hb : Rise b) (h : blk a = blk b) : a = b := by
  obtain ⟨-, -, a3, -⟩ := blk_tail a ha
  obtain ⟨-, -, b3, -⟩ := blk_tail b hb
  rw [h] at a3
  have e : dat a = dat b := by
    have e1 : (blk a).take (dat a).length = dat a := by unfold blk; rw [List.append_assoc, List.take_left' rfl]
    have e2 : (blk b).take (dat b).length = dat b := by unfold blk; rw [List.append_assoc, List.take_left' rfl]
    rw [← e1, ← e2, h, ← a3, ← b3]
  exact datF_inj a b 0 [] ha.ok hb.ok (Nat.zero_le _) e
/-- Of a block's bytes the block comes. -/
theorem open_blk (ps : List Pr) (w : World) (h : Rise ps) :
    Calls Try.prog 18 #[.string (str (blk ps))] w fun e w' => Below w.heap.size w w' ∧ ∃ p v, e = .returned (.tuple #[(Value.pointer (some ⟨p, 0, none⟩)), .int .i64 0]) ∧ Bk w' w.heap.size p v ps := by
  have hl := blk_len ps
  have hd := dat_len h.ok
  have hr := rst_len ps
  have hle := h.le
  refine (open_any (str (blk ps)) w (by rw [show (str (blk ps)).size = (blk ps).length by simp [str, ByteArray.size]]; omega)).mono ?_
  rintro e w' ⟨hb, ⟨-, hno⟩ | ⟨qs, p, v, he, rfl, hk⟩⟩
  · exact absurd (bl_str _) (hno ps h)
  · rw [bl_str] at he
    obtain rfl := blk_inj h hk.rise he
    exact ⟨hb, p, v, rfl, hk⟩
set_option maxRecDepth 100000 in
set_option maxHeartbeats 40000000 in
theorem blockBack_law (v : Value) (L : List Pr) (w : World) (h : PrsIn w v L) :
    Calls Try.prog 4 #[v] w fun e w' => e = .returned (.bool true) ∧ Below w.heap.size w w' := by
  obtain ⟨i0, hi, hz0, hz1, hz2⟩ := info_parts info_prR
  by_cases hG : Grt L
  · have HG := Lib.hid (great_any v L w h true ⟨fun _ => hG, fun _ => rfl⟩)
    have HA := Lib.hid awake_any
    clear h hG
    go_enter Try.func4, Try.ntmps4
    go_wp2_with fail
    (with_reducible refine HG.out.mono ?_)
    rintro e w1 ⟨rfl, hb1⟩
    go_wp2_with fail
    (with_reducible refine (HA.out _).mono ?_)
    rintro e w2 ⟨rfl, hb2⟩
    have HB := Lib.hid (hb1.trans (hb2.mono hb1.size))
    clear hb1 hb2
    go_wp2_with fail
    go_ret
    exact ⟨rfl, HB.out⟩
  · have HG := Lib.hid (great_any v L w h false ⟨(fun h => by cases h), fun h => absurd h hG⟩)
    have HA := Lib.hid awake_any
    have hl200 : L.length ≤ 200 := by unfold Grt at hG; omega
    have HC := Lib.hid (fun A n cap hv i hi => h.cells (A := A) (n := n) (cap := cap) hv (i := i) hi)
    have HLE := Lib.hid h.le
    obtain ⟨A, cap, hv, hs⟩ := h.ex
    subst hv
    have hcl := hs.le
    have hcm := hs.max
    unfold maxLen at hcm
    clear h hG hs
    go_enter Try.func4, Try.ntmps4
    go_wp2_with fail
    (with_reducible refine HG.out.mono ?_)
    rintro e w1 ⟨rfl, hb1⟩
    go_wp2_with fail
    (with_reducible refine (HA.out _).mono ?_)
    rintro e w2 ⟨rfl, hb2⟩
    have hB := hb1.trans (hb2.mono hb1.size)
    have HN := Lib.hid (BOwn.new hB)
    clear hb1 hb2 hB HG HA
    go_wp2_with fail
    generalize w2.alloc (.cells #[.slice none 0 0, .string ⟨#[]⟩, .int .i64 0, .slice none 0 0] 31) = w3 at *
    generalize w2.heap.size = p at *
    go_wp2_with fail
    go_loopg [4, 5] L.length (fun g nv iv wr => ∃ (i : Nat) (ps : List Pr) (S : Nat → Prop), i + g = L.length ∧ iv = .int .i64 i ∧ BN w wr p S ps nv ps ∧ ps.length ≤ i)
    case atStart => exact ⟨0, [], _, by omega, rfl, ⟨HN.out, World.ownsRow_nil _ _ _ _⟩, by simp⟩
    case round =>
      clear HN
      obtain ⟨i, ps, S, hig, rfl, hBN, hpi⟩ := hrel
      obtain ⟨ao, cp, hnv⟩ := own_form hBN.row
      subst hnv
      have HB := Lib.hid hBN
      clear hBN
      by_cases hlt : i < L.length
      · obtain ⟨bk, off, rfl, hc⟩ := HC.out _ _ _ rfl i hlt
        have hle := HLE.out L[i] (List.getElem_mem hlt)
        have HCW := Lib.hid (fun W hW => hc W hW i hlt)
        obtain ⟨d0, d1⟩ := hc wr HB.out.own.bel i hlt
        have e1 := str_size L[i].1
        have e2 := str_size L[i].2
        rw [← e1, ← e2] at hle
        obtain ⟨hk, hv⟩ := hle
        clear hc e1 e2
        generalize str L[i].1 = sk at *
        generalize str L[i].2 = sv at *
        have hbd4 : Bd wr p S ps := HB.out.own.bd
        have hil : (i : Int) < (L.length : Int) := by omega
        have d9 : decide ((i : Int) < (L.length : Int)) = true := by rw [decide_eq_true_eq]; omega
        by_cases hC1 : Okp (bl sk, bl sv) ∧ lastK ps < bl sk
        · have HAD := Lib.hid (add_ok p S ps sk sv wr.drew (hbd4.below (Below.refl _ _).drew) hC1.1 hC1.2 (by omega))
          unfold AddP at HAD
          clear hC1 hbd4
          go_wp2_with fail
          refine wp_region_held_drew (S := (fun w' => w'.cell? ⟨bk, off + i * 2, none⟩ = some (.string sk) ∧ w'.cell? ⟨bk, off + i * 2 + 1, none⟩ = some (.string sv))) (by kernel_rfl) (by (try dsimp only); exact ⟨d0, d1⟩) (fun hHeld => ?_)
          refine takeH (i := 0) (d := some 23) (v := ?_) rfl rfl (by kernel_rfl) (by kernel_rfl) (by kernel_rfl) (fun _ _ _ h => h) (Or.inl ⟨by rfl, ?_⟩) (by assumption) ?_
          rotate_left
          · intro wS hSw; (try dsimp only at hSw); go_simp; (try (with_reducible rfl))
          simp only [Act.put, List.setIfInBounds_toArray, List.set_cons_zero, List.set_cons_succ]
          refine takeH (i := 1) (d := some 24) (v := ?_) rfl rfl (by kernel_rfl) (by kernel_rfl) (by kernel_rfl) (fun _ _ _ h => h) (Or.inl ⟨by rfl, ?_⟩) (by assumption) ?_
          rotate_left
          · intro wS hSw; (try dsimp only at hSw); go_simp; (try (with_reducible rfl))
          simp only [Act.put, List.setIfInBounds_toArray, List.set_cons_zero, List.set_cons_succ]
          refine takeH (i := 2) (d := some 25) (v := ?_) rfl rfl (by kernel_rfl) (by kernel_rfl) (by kernel_rfl) (fun _ _ _ h => h) (Or.inl ⟨by rfl, ?_⟩) (by assumption) ?_
          rotate_left
          · intro wS hSw; (try dsimp only at hSw); go_simp; (try (with_reducible rfl))
          simp only [Act.put, List.setIfInBounds_toArray, List.set_cons_zero, List.set_cons_succ]
          refine takeH (i := 3) (d := some 26) (v := ?_) rfl rfl (by kernel_rfl) (by kernel_rfl) (by kernel_rfl) (fun _ _ _ h => h) (Or.inl ⟨by rfl, ?_⟩) (by assumption) ?_
          rotate_left
          · intro wS hSw; (try dsimp only at hSw); go_simp; (try (with_reducible rfl))
          simp only [Act.put, List.setIfInBounds_toArray, List.set_cons_zero, List.set_cons_succ]
          refine takeH (i := 4) (d := some 27) (v := ?_) rfl rfl (by kernel_rfl) (by kernel_rfl) (by kernel_rfl) (fun _ _ _ h => h) (Or.inl ⟨by rfl, ?_⟩) (by assumption) ?_
          rotate_left
          · intro wS hSw; (try dsimp only at hSw); go_simp; (try (with_reducible rfl))
          simp only [Act.put, List.setIfInBounds_toArray, List.set_cons_zero, List.set_cons_succ]
          refine takeH (i := 5) (d := some 28) (v := ?_) rfl rfl (by kernel_rfl) (by kernel_rfl) (by kernel_rfl) (fun _ _ _ h => h) (Or.inl ⟨by rfl, ?_⟩) (by assumption) ?_
          rotate_left
          · intro wS hSw; (try dsimp only at hSw); go_simp; (try (with_reducible rfl))
          simp only [Act.put, List.setIfInBounds_toArray, List.set_cons_zero, List.set_cons_succ]
          refine takeH (i := 6) (d := some 29) (v := ?_) rfl rfl (by kernel_rfl) (by kernel_rfl) (by kernel_rfl) (fun _ _ _ h => h) (Or.inl ⟨by rfl, ?_⟩) (by assumption) ?_
          rotate_left
          · intro wS hSw; (try dsimp only at hSw); go_simp; (try (with_reducible rfl))
          simp only [Act.put, List.setIfInBounds_toArray, List.set_cons_zero, List.set_cons_succ]
          refine takeH (i := 7) (d := some 30) (v := ?_) rfl rfl (by kernel_rfl) (by kernel_rfl) (by kernel_rfl) (fun _ _ _ h => h) (Or.inl ⟨by rfl, ?_⟩) (by assumption) ?_
          rotate_left
          · intro wS hSw; (try dsimp only at hSw); go_simp; (try (with_reducible rfl))
          simp only [Act.put, List.setIfInBounds_toArray, List.set_cons_zero, List.set_cons_succ]
          refine takeH (i := 8) (d := some 31) (v := ?_) rfl rfl (by kernel_rfl) (by kernel_rfl) (by kernel_rfl) (fun _ _ _ h => h) (Or.inl ⟨by rfl, ?_⟩) (by assumption) ?_
          rotate_left
          · intro wS hSw; (try dsimp only at hSw); go_simp; (try (with_reducible rfl))
          simp only [Act.put, List.setIfInBounds_toArray, List.set_cons_zero, List.set_cons_succ]
          refine takeH (i := 9) (d := some 32) (v := ?_) rfl rfl (by kernel_rfl) (by kernel_rfl) (by kernel_rfl) (fun _ _ _ h => h) (Or.inl ⟨by rfl, ?_⟩) (by assumption) ?_
          rotate_left
          · intro wS hSw; (try dsimp only at hSw); go_simp; (try (with_reducible rfl))
          simp only [Act.put, List.setIfInBounds_toArray, List.set_cons_zero, List.set_cons_succ]
          refine takeH (i := 10) (d := some 33) (v := ?_) rfl rfl (by kernel_rfl) (by kernel_rfl) (by kernel_rfl) (fun _ _ _ h => h) (Or.inl ⟨by rfl, ?_⟩) (by assumption) ?_
          rotate_left
          · intro wS hSw; (try dsimp only at hSw); go_simp; (try (with_reducible rfl))
          simp only [Act.put, List.setIfInBounds_toArray, List.set_cons_zero, List.set_cons_succ]
          refine wpAnyH_ready (rs := [11]) (by kernel_rfl) (by simp) ?_
          refine AllReadyH.cons rfl (fun K hK => ?_) AllReadyH.nil
          go_simp
          refine HAD.out.mono ?_
          rintro e w5 ⟨rfl, S5, h5, hf5, hs5⟩
          have hN5 := (HB.out.below (Below.refl _ _).drew).add h5 hf5 hs5
          have HN5 := Lib.hid hN5
          obtain ⟨k0, k1⟩ := HCW.out w5 hN5.own.bel
          clear h5 hf5 hs5 hN5
          go_wp2_with fail
          refine hK.out _ _ (by (try dsimp only); exact ⟨k0, k1⟩) (fun hHeld => ?_)
          clear hK K
          refine takeH (i := 12) (d := some 35) (v := ?_) rfl rfl (by kernel_rfl) (by kernel_rfl) (by kernel_rfl) (fun _ _ _ h => h) (Or.inl ⟨by rfl, ?_⟩) (by assumption) ?_
          rotate_left
          · intro wS hSw; (try dsimp only at hSw); go_simp; (try (with_reducible rfl))
          simp only [Act.put, List.setIfInBounds_toArray, List.set_cons_zero, List.set_cons_succ]
          refine wpAnyH_done (by kernel_rfl) ?_ _
          have hr5 := HN5.out.row
          have HR5 := Lib.hid hr5
          have HPR : Hid (flatR [(bl sk, bl sv)] = [.string sk, .string sv]) := Lib.hid (by simp [flatR, str_bl])
          clear hr5 d0 d1
          go_wp2_with (at_builtin; refine wpList_append_own_at _ rfl _ _ 22 rfl w.heap.size 35 i0 (.agg #[.string ⟨#[]⟩, .string ⟨#[]⟩]) 2 32 Try.underlying22 hi hz0 hz1 hz2 rfl (by decide) _ _ _ rfl (HR5.out.alloc _) ⟨w5.heap.size, 0, none⟩ 1 1 [.string sk, .string sv] rfl rfl (cells2_new _ _ _ _) (two_one _ _) (by unfold maxLen; omega) (by omega) (Nat.le_trans HN5.out.own.bel.size (by simp)) ?_; intro v7 w7 hown hgrow hx1 hx2; have hN7 := HN5.out.append (qs' := ps ++ [(bl sk, bl sv)]) hgrow (by rw [List.length_append, List.length_singleton, flatR_append, HPR.out]; exact hown); have HN7 := Lib.hid hN7; clear hown hgrow hx1 hx2 hN7)
          go_roundg (L.length - (i + 1))
          case measure => omega
          case rel => exact ⟨i + 1, ps ++ [(bl sk, bl sv)], _, by omega, by go_num, HN7.out, by simp; omega⟩
        · have HAD := Lib.hid (add_bad p S ps sk sv wr.drew (hbd4.below (Below.refl _ _).drew) hk hv hC1)
          clear hC1 hbd4
          go_wp2_with fail
          refine wp_region_held_drew (S := (fun w' => w'.cell? ⟨bk, off + i * 2, none⟩ = some (.string sk) ∧ w'.cell? ⟨bk, off + i * 2 + 1, none⟩ = some (.string sv))) (by kernel_rfl) (by (try dsimp only); exact ⟨d0, d1⟩) (fun hHeld => ?_)
          refine takeH (i := 0) (d := some 23) (v := ?_) rfl rfl (by kernel_rfl) (by kernel_rfl) (by kernel_rfl) (fun _ _ _ h => h) (Or.inl ⟨by rfl, ?_⟩) (by assumption) ?_
          rotate_left
          · intro wS hSw; (try dsimp only at hSw); go_simp; (try (with_reducible rfl))
          simp only [Act.put, List.setIfInBounds_toArray, List.set_cons_zero, List.set_cons_succ]
          refine takeH (i := 1) (d := some 24) (v := ?_) rfl rfl (by kernel_rfl) (by kernel_rfl) (by kernel_rfl) (fun _ _ _ h => h) (Or.inl ⟨by rfl, ?_⟩) (by assumption) ?_
          rotate_left
          · intro wS hSw; (try dsimp only at hSw); go_simp; (try (with_reducible rfl))
          simp only [Act.put, List.setIfInBounds_toArray, List.set_cons_zero, List.set_cons_succ]
          refine takeH (i := 2) (d := some 25) (v := ?_) rfl rfl (by kernel_rfl) (by kernel_rfl) (by kernel_rfl) (fun _ _ _ h => h) (Or.inl ⟨by rfl, ?_⟩) (by assumption) ?_
          rotate_left
          · intro wS hSw; (try dsimp only at hSw); go_simp; (try (with_reducible rfl))
          simp only [Act.put, List.setIfInBounds_toArray, List.set_cons_zero, List.set_cons_succ]
          refine takeH (i := 3) (d := some 26) (v := ?_) rfl rfl (by kernel_rfl) (by kernel_rfl) (by kernel_rfl) (fun _ _ _ h => h) (Or.inl ⟨by rfl, ?_⟩) (by assumption) ?_
          rotate_left
          · intro wS hSw; (try dsimp only at hSw); go_simp; (try (with_reducible rfl))
          simp only [Act.put, List.setIfInBounds_toArray, List.set_cons_zero, List.set_cons_succ]
          refine takeH (i := 4) (d := some 27) (v := ?_) rfl rfl (by kernel_rfl) (by kernel_rfl) (by kernel_rfl) (fun _ _ _ h => h) (Or.inl ⟨by rfl, ?_⟩) (by assumption) ?_
          rotate_left
          · intro wS hSw; (try dsimp only at hSw); go_simp; (try (with_reducible rfl))
          simp only [Act.put, List.setIfInBounds_toArray, List.set_cons_zero, List.set_cons_succ]
          refine takeH (i := 5) (d := some 28) (v := ?_) rfl rfl (by kernel_rfl) (by kernel_rfl) (by kernel_rfl) (fun _ _ _ h => h) (Or.inl ⟨by rfl, ?_⟩) (by assumption) ?_
          rotate_left
          · intro wS hSw; (try dsimp only at hSw); go_simp; (try (with_reducible rfl))
          simp only [Act.put, List.setIfInBounds_toArray, List.set_cons_zero, List.set_cons_succ]
          refine takeH (i := 6) (d := some 29) (v := ?_) rfl rfl (by kernel_rfl) (by kernel_rfl) (by kernel_rfl) (fun _ _ _ h => h) (Or.inl ⟨by rfl, ?_⟩) (by assumption) ?_
          rotate_left
          · intro wS hSw; (try dsimp only at hSw); go_simp; (try (with_reducible rfl))
          simp only [Act.put, List.setIfInBounds_toArray, List.set_cons_zero, List.set_cons_succ]
          refine takeH (i := 7) (d := some 30) (v := ?_) rfl rfl (by kernel_rfl) (by kernel_rfl) (by kernel_rfl) (fun _ _ _ h => h) (Or.inl ⟨by rfl, ?_⟩) (by assumption) ?_
          rotate_left
          · intro wS hSw; (try dsimp only at hSw); go_simp; (try (with_reducible rfl))
          simp only [Act.put, List.setIfInBounds_toArray, List.set_cons_zero, List.set_cons_succ]
          refine takeH (i := 8) (d := some 31) (v := ?_) rfl rfl (by kernel_rfl) (by kernel_rfl) (by kernel_rfl) (fun _ _ _ h => h) (Or.inl ⟨by rfl, ?_⟩) (by assumption) ?_
          rotate_left
          · intro wS hSw; (try dsimp only at hSw); go_simp; (try (with_reducible rfl))
          simp only [Act.put, List.setIfInBounds_toArray, List.set_cons_zero, List.set_cons_succ]
          refine takeH (i := 9) (d := some 32) (v := ?_) rfl rfl (by kernel_rfl) (by kernel_rfl) (by kernel_rfl) (fun _ _ _ h => h) (Or.inl ⟨by rfl, ?_⟩) (by assumption) ?_
          rotate_left
          · intro wS hSw; (try dsimp only at hSw); go_simp; (try (with_reducible rfl))
          simp only [Act.put, List.setIfInBounds_toArray, List.set_cons_zero, List.set_cons_succ]
          refine takeH (i := 10) (d := some 33) (v := ?_) rfl rfl (by kernel_rfl) (by kernel_rfl) (by kernel_rfl) (fun _ _ _ h => h) (Or.inl ⟨by rfl, ?_⟩) (by assumption) ?_
          rotate_left
          · intro wS hSw; (try dsimp only at hSw); go_simp; (try (with_reducible rfl))
          simp only [Act.put, List.setIfInBounds_toArray, List.set_cons_zero, List.set_cons_succ]
          refine wpAnyH_ready (rs := [11]) (by kernel_rfl) (by simp) ?_
          refine AllReadyH.cons rfl (fun K hK => ?_) AllReadyH.nil
          go_simp
          refine HAD.out.mono ?_
          rintro e w5 ⟨rfl, rfl⟩
          go_wp2_with fail
          refine hK.out _ _ (by (try dsimp only); exact ⟨d0, d1⟩) (fun hHeld => ?_)
          clear hK K
          refine takeH (i := 12) (d := some 35) (v := ?_) rfl rfl (by kernel_rfl) (by kernel_rfl) (by kernel_rfl) (fun _ _ _ h => h) (Or.inl ⟨by rfl, ?_⟩) (by assumption) ?_
          rotate_left
          · intro wS hSw; (try dsimp only at hSw); go_simp; (try (with_reducible rfl))
          simp only [Act.put, List.setIfInBounds_toArray, List.set_cons_zero, List.set_cons_succ]
          refine wpAnyH_done (by kernel_rfl) ?_ _
          have HN7 := Lib.hid (HB.out.below (Below.refl _ _).drew)
          clear d0 d1
          go_wp2_with fail
          go_roundg (L.length - (i + 1))
          case measure => omega
          case rel => exact ⟨i + 1, ps, _, by omega, by go_num, HN7.out, by omega⟩
      · have d9 : decide ((i : Int) < (L.length : Int)) = false := by rw [decide_eq_false_iff_not]; omega
        have HBY := Lib.hid (bytes_b p _ _ _ HB.out.own.bd)
        go_wp2_with fail
        (with_reducible refine HBY.out.mono ?_)
        rintro e w4 ⟨rfl, hb4⟩
        have HB4 := Lib.hid (HB.out.below hb4)
        have HOP := Lib.hid (open_blk ps w4 HB4.out.own.bd.rise)
        clear hb4
        go_wp2_with fail
        (with_reducible refine HOP.out.mono ?_)
        rintro e w5 ⟨hb5, p5, v5, rfl, hk5⟩
        have HB5 := Lib.hid (HB4.out.below hb5)
        have HAL := Lib.hid (all_any _ _ _ _ _ hk5)
        clear hb5 hk5
        go_wp2_with fail
        (with_reducible refine HAL.out.mono ?_)
        rintro e w6 ⟨v6, rfl, hr6, hb6⟩
        have HB6 := Lib.hid (HB5.out.below hb6)
        have HSM := Lib.hid (sameB_yes v6 _ _ _ ps w6 hr6 HB6.out.row (by omega))
        clear hr6 hb6
        go_wp2_with fail
        (with_reducible refine HSM.out.mono ?_)
        rintro e w7 ⟨rfl, hb7⟩
        have HB7 := Lib.hid (HB6.out.below hb7)
        have HLN := Lib.hid (len_b p _ _ _ HB7.out.own.bd)
        clear hb7
        have ql : ((ps.length : Int) == (ps.length : Int)) = true := by simp
        go_wp2_with fail
        (with_reducible refine HLN.out.mono ?_)
        rintro e w8 ⟨rfl, rfl⟩
        go_wp2_with fail
        go_ret
        exact ⟨rfl, HB7.out.own.bel⟩
end Go.Proofs.Ytcoicdaobgneeaa
